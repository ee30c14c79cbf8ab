/- The document's order of records, and its row. -/
import Derived.Test.YteaekpnmiicbhaaPRSort
import Derived.Test.YteaekpnmiicbhaaPGood
import Derived.Test.YteaekpnmiicbhaaPRead
namespace Go.Proofs.Yteaekpnmiicbhaa
open Go.RowKit X
set_option maxHeartbeats 2000000
set_option maxRecDepth 8000
set_option linter.unusedSimpArgs false
set_option linter.unusedVariables false
theorem cmpL_drop {a b : List Int} {k : Nat} (ha : k < a.length) (hb : k < b.length) : cmpL (a.drop k) (b.drop k) = if Lib.compareInt a[k] b[k] = 0 then cmpL (a.drop (k + 1)) (b.drop (k + 1)) else Lib.compareInt a[k] b[k] := by
  rw [List.drop_eq_getElem_cons ha, List.drop_eq_getElem_cons hb, cmpL]
theorem ref19cmp_c (x y : P4) (w : World) (I : Fp) (hI : ∀ b, I b → b < w.heap.size) : Calls Try.prog 41 #[x.v, y.v] w fun e w' => e = .returned (.int .i64 (cmpL x.list y.list)) ∧ Ext w w' := by
  have S := SH.start w I hI
  obtain ⟨xs, hxs⟩ : ∃ xs, x.list = xs := ⟨_, rfl⟩
  obtain ⟨ys, hys⟩ : ∃ ys, y.list = ys := ⟨_, rfl⟩
  have hxl : xs.length = 4 := by rw [← hxs]; rfl
  have hyl : ys.length = 4 := by rw [← hys]; rfl
  have HX : As ([Value.int .i64 x.b, .int .i64 x.r, .int .i64 x.t, .int .i64 x.u] = xs.map (Value.int .i64)) := ⟨by rw [← hxs]; rfl⟩
  have HY : As ([Value.int .i64 y.b, .int .i64 y.r, .int .i64 y.t, .int .i64 y.u] = ys.map (Value.int .i64)) := ⟨by rw [← hys]; rfl⟩
  rw [hxs, hys]
  clear hxs hys
  dsimp only [P4.v]
  have hc := S.cells; simp only [Cells, cellsC, Im, Row, El, Nat.zero_add, Nat.reduceAdd] at hc
  go_enter Try.func41, Try.ntmps41
  go_wp2_with (first | ((first | (with_reducible refine wpl_seal S ?_) | (with_reducible refine cw_seal S ?_) | (with_reducible refine bp_seal S ?_) | (with_reducible refine ca_seal S ?_)); clear S; (try clear hc); intro w1 S; (try simp only [List.set_cons_zero, List.set_cons_succ, List.nil_append] at S); have hc := S.cells; simp only [Cells, cellsC, Im, Row, El, Nat.zero_add, Nat.reduceAdd] at hc))
  obtain ⟨gy, egy⟩ := S.name 0 rfl; rw [← egy] at S ⊢; clear egy
  obtain ⟨gx, egx⟩ := S.name 1 rfl; rw [← egx] at S ⊢; clear egx
  have S1 := S
  rw [HX.out, HY.out] at S1
  clear S hc
  go_loopw [7] (fun i w' => ∃ (k : Nat), k ≤ 4 ∧ i = .int .i64 k ∧ As (cmpL xs ys = cmpL (xs.drop k) (ys.drop k)) ∧ As (SH No I w [Cel gy 3 (ys.map (Value.int .i64)), Cel gx 3 (xs.map (Value.int .i64))] w' I)) (fun i _ => 4 - (intOf i).toNat)
  case atStart => exact ⟨0, by omega, rfl, ⟨rfl⟩, ⟨S1.sel [0, 1] (by decide) rfl (by simp)⟩⟩
  case round =>
    clear S1
    obtain ⟨k, hk, rfl, HC, ⟨S⟩⟩ := hrel
    by_cases hlt : k < 4
    · have hlt' : decide ((k : Int) < 4) = true := decide_eq_true (by omega)
      have hkx : k < xs.length := by omega
      have hky : k < ys.length := by omega
      have HD := As.mk (cmpL_drop hkx hky)
      have c0 := S.cell 1 k (u := .int .i64 xs[k]) rfl (by rw [List.getElem?_map, List.getElem?_eq_getElem hkx]; rfl)
      have c1 := S.cell 0 k (u := .int .i64 ys[k]) rfl (by rw [List.getElem?_map, List.getElem?_eq_getElem hky]; rfl)
      generalize xs[k] = a at c0 HD
      generalize ys[k] = b at c1 HD
      by_cases h1 : a < b
      · have h1' : decide (a < b) = true := decide_eq_true h1
        have HE : As (cmpL xs ys = -1) := ⟨by rw [HC.out, HD.out]; unfold Lib.compareInt; rw [if_pos h1]; rfl⟩
        clear h1
        go_wp2
        go_quiet (fail)
        go_wp2
        go_ret
        rw [HE.out]
        exact ⟨rfl, S.out.drewN _⟩
      · have h1' : decide (a < b) = false := decide_eq_false h1
        by_cases h2 : b < a
        · have h2' : decide (a > b) = true := decide_eq_true h2
          have HE : As (cmpL xs ys = 1) := ⟨by rw [HC.out, HD.out]; unfold Lib.compareInt; rw [if_neg h1, if_pos h2]; rfl⟩
          clear h1 h2
          go_wp2
          go_quiet (fail)
          go_wp2
          go_quiet (fail)
          go_wp2
          go_ret
          rw [HE.out]
          exact ⟨rfl, by first | exact S.out.drewN _ | exact (S.out.drewN _).drewN _⟩
        · have h2' : decide (a > b) = false := decide_eq_false h2
          have HE : As (cmpL xs ys = cmpL (xs.drop (k + 1)) (ys.drop (k + 1))) := ⟨by rw [HC.out, HD.out]; unfold Lib.compareInt; rw [if_neg h1, if_neg h2]; rfl⟩
          clear h1 h2
          go_wp2
          go_quiet (fail)
          go_wp2
          go_quiet (fail)
          go_wp2
          go_roundw
          case rel => exact ⟨k + 1, by omega, by go_num, HE, ⟨S.ext ((Ext.refl _).drewN _)⟩⟩
          case measure => simp [intOf] <;> omega
    · have hlt' : decide ((k : Int) < 4) = false := decide_eq_false (by omega)
      have HE : As (cmpL xs ys = 0) := ⟨by rw [HC.out, List.drop_of_length_le (by omega), List.drop_of_length_le (by omega)]; rfl⟩
      go_wp2
      go_ret
      rw [HE.out]
      exact ⟨rfl, S.out⟩
theorem refcmp_c (x y : R5) (w : World) (I : Fp) (hI : ∀ b, I b → b < w.heap.size) : Calls Try.prog 21 #[x.v, y.v] w fun e w' => e = .returned (.int .i64 (cmpR x y)) ∧ Ext w w' := by
  have S := SH.start w I hI
  have HC : As (cmpR x y = if Lib.compareInt x.i y.i = 0 then cmpL x.p4.list y.p4.list else Lib.compareInt x.i y.i) := ⟨rfl⟩
  dsimp only [R5.v]
  have hc := S.cells; simp only [Cells, cellsC, Im, Row, El, Nat.zero_add, Nat.reduceAdd] at hc
  by_cases h1 : x.i < y.i
  · have h1' : decide (x.i < y.i) = true := decide_eq_true h1
    have HE : As (cmpR x y = -1) := ⟨by rw [HC.out]; unfold Lib.compareInt; rw [if_pos h1]; rfl⟩
    clear h1
    go_enter Try.func21, Try.ntmps21
    go_wp2_with (first | ((first | (with_reducible refine wpl_seal S ?_) | (with_reducible refine cw_seal S ?_) | (with_reducible refine bp_seal S ?_) | (with_reducible refine ca_seal S ?_)); clear S; (try clear hc); intro w1 S; (try simp only [List.set_cons_zero, List.set_cons_succ, List.nil_append] at S); have hc := S.cells; simp only [Cells, cellsC, Im, Row, El, Nat.zero_add, Nat.reduceAdd] at hc))
    go_ret
    rw [HE.out]
    exact ⟨rfl, S.out⟩
  · have h1' : decide (x.i < y.i) = false := decide_eq_false h1
    by_cases h2 : y.i < x.i
    · have h2' : decide (x.i > y.i) = true := decide_eq_true h2
      have HE : As (cmpR x y = 1) := ⟨by rw [HC.out]; unfold Lib.compareInt; rw [if_neg h1, if_pos h2]; rfl⟩
      clear h1 h2
      go_enter Try.func21, Try.ntmps21
      go_wp2_with (first | ((first | (with_reducible refine wpl_seal S ?_) | (with_reducible refine cw_seal S ?_) | (with_reducible refine bp_seal S ?_) | (with_reducible refine ca_seal S ?_)); clear S; (try clear hc); intro w1 S; (try simp only [List.set_cons_zero, List.set_cons_succ, List.nil_append] at S); have hc := S.cells; simp only [Cells, cellsC, Im, Row, El, Nat.zero_add, Nat.reduceAdd] at hc))
      go_ret
      rw [HE.out]
      exact ⟨rfl, S.out⟩
    · have h2' : decide (x.i > y.i) = false := decide_eq_false h2
      have HE : As (cmpR x y = cmpL x.p4.list y.p4.list) := ⟨by rw [HC.out]; unfold Lib.compareInt; rw [if_neg h1, if_neg h2]; rfl⟩
      obtain ⟨q, hq⟩ : ∃ q, cmpL x.p4.list y.p4.list = q := ⟨_, rfl⟩
      have HQ := As.mk hq
      rw [hq] at HE
      clear h1 h2 hq
      go_enter Try.func21, Try.ntmps21
      go_wp2_with (first | ((first | (with_reducible refine wpl_seal S ?_) | (with_reducible refine cw_seal S ?_) | (with_reducible refine bp_seal S ?_) | (with_reducible refine ca_seal S ?_)); clear S; (try clear hc); intro w1 S; (try simp only [List.set_cons_zero, List.set_cons_succ, List.nil_append] at S); have hc := S.cells; simp only [Cells, cellsC, Im, Row, El, Nat.zero_add, Nat.reduceAdd] at hc) | (go_at_call 41; refine (ref19cmp_c x.p4 y.p4 _ _ S.bd).mono ?_; rw [HQ.out]; rintro e w1 ⟨rfl, hx⟩; replace S := S.ext hx; clear hx; (try clear hc); have hc := S.cells; simp only [Cells, cellsC, Im, Row, El, Nat.zero_add, Nat.reduceAdd] at hc))
      go_ret
      rw [HE.out]
      exact ⟨rfl, S.out⟩
/-- how many come ahead -/
def leadR (out : List R5) (x : R5) : Nat := (out.takeWhile fun y => decide (cmpR y x < 0)).length
def insR (out : List R5) (x : R5) : List R5 := if (∃ y, out[leadR out x]? = some y ∧ cmpR y x = 0) then out else out.take (leadR out x) ++ [x] ++ out.drop (leadR out x)
theorem leadR_of {out : List R5} {x : R5} {k : Nat} (hk : k ≤ out.length) (h1 : ∀ (j : Nat) (h : j < out.length), j < k → cmpR out[j] x < 0) (h2 : ∀ (h : k < out.length), ¬ cmpR out[k] x < 0) : leadR out x = k := by
  unfold leadR
  induction out generalizing k with
  | nil => simp at hk; simp [hk]
  | cons y r ih =>
    rcases k with _ | k
    · have := h2 (by simp)
      simp only [List.getElem_cons_zero] at this
      rw [List.takeWhile_cons_of_neg (by simpa using this)]
      rfl
    · have h0 := h1 0 (by simp) (by omega)
      simp only [List.getElem_cons_zero] at h0
      rw [List.takeWhile_cons_of_pos (by simpa using h0), List.length_cons]
      have := @ih k (by simpa using hk) (fun j hj hjk => by
        have := h1 (j + 1) (by simpa using hj) (by omega)
        simpa using this) (fun h => by
        have := h2 (by simpa using h)
        simpa using this)
      omega
theorem insR_same {out : List R5} {x y : R5} {k : Nat} (hk : leadR out x = k) (hy : out[k]? = some y) (h : cmpR y x = 0) : insR out x = out := by
  unfold insR
  rw [if_pos ⟨y, by rw [hk]; exact hy, h⟩]
theorem insR_new {out : List R5} {x : R5} {k : Nat} (hk : leadR out x = k) (h : ∀ y, out[k]? = some y → cmpR y x ≠ 0) : insR out x = out.take k ++ [x] ++ out.drop k := by
  unfold insR
  rw [if_neg (by rintro ⟨y, h1, h2⟩; rw [hk] at h1; exact h y h1 h2), hk]
def refS (xs : List R5) : List R5 := xs.foldl insR []
theorem refS_take {xs : List R5} {k : Nat} (h : k < xs.length) : refS (xs.take (k + 1)) = insR (refS (xs.take k)) xs[k] := by
  unfold refS
  rw [List.take_succ_eq_append_getElem h, List.foldl_append]
  rfl
theorem insR_len (out : List R5) (x : R5) : (insR out x).length ≤ out.length + 1 := by
  unfold insR
  split
  · omega
  · rw [List.length_append, List.length_append, List.length_take, List.length_drop]
    simp only [List.length_cons, List.length_nil]
    omega
theorem refS_len : ∀ (xs : List R5) (k : Nat), k ≤ xs.length → (refS (xs.take k)).length ≤ k
  | xs, 0, _ => by simp [refS]
  | xs, k + 1, h => by
    rw [refS_take (by omega)]
    have := insR_len (refS (xs.take k)) (xs[k]'(by omega))
    have := refS_len xs k (by omega)
    omega
theorem refsort_c (xs : List R5) (A : Option Addr) (c : Nat) (w : World) (I : Fp) (hI : ∀ b, I b → b < w.heap.size) (hl : Sl kR w I A xs) (hn : xs.length ≤ 1000) :
    Calls Try.prog 23 #[.slice A xs.length c] w fun e w' => ∃ A' c', e = .returned (.slice A' (refS xs).length c') ∧ (refS xs).length ≤ c' ∧ Upd w No I w' (Im kR A' (refS xs)) := by
  have S := (SH.start w I hI).know (h := Im kR A xs) hl
  clear hl
  have hc := S.cells; simp only [Cells, cellsC, Im, Row, El, Nat.zero_add, Nat.reduceAdd] at hc
  go_enter Try.func23, Try.ntmps23
  go_wp2_with (first | ((first | (with_reducible refine wpl_seal S ?_) | (with_reducible refine cw_seal S ?_) | (with_reducible refine bp_seal S ?_) | (with_reducible refine ca_seal S ?_)); clear S; (try clear hc); intro w1 S; (try simp only [List.set_cons_zero, List.set_cons_succ, List.nil_append] at S); have hc := S.cells; simp only [Cells, cellsC, Im, Row, El, Nat.zero_add, Nat.reduceAdd] at hc))
  have S1 := S.know (h := Im kR none ([] : List R5)) Sl.nil
  clear S hc
  go_loopw [3, 4] (fun v i w' => ∃ (k : Nat) (Ao : Option Addr) (co : Nat) (out : List R5), k ≤ xs.length ∧ i = .int .i64 k ∧ out.length ≤ k ∧ out.length ≤ co ∧ v = .slice Ao out.length co ∧ As (out = refS (xs.take k)) ∧ ∃ I', As (SH No I w [Im kR Ao out, Im kR A xs] w' I')) (fun _ i _ => xs.length - (intOf i).toNat)
  case atStart => exact ⟨0, none, 0, [], by omega, rfl, by simp, by simp, rfl, ⟨rfl⟩, _, ⟨S1⟩⟩
  case round =>
    clear S1
    obtain ⟨k, Ao, co, out, hk, rfl, hok, hoc, rfl, HO, I', ⟨S⟩⟩ := hrel
    by_cases hlt : k < xs.length
    · have hlt' : decide ((k : Int) < xs.length) = true := decide_eq_true (by omega)
      obtain ⟨b, o, rfl, -, -, -, -, -⟩ := (S.im 1 rfl).r5_at hlt
      obtain ⟨x, hx⟩ : ∃ x, xs[k] = x := ⟨_, rfl⟩
      have HX : As (xs[k]? = some x) := ⟨by rw [List.getElem?_eq_getElem hlt, hx]⟩
      have HS : As (refS (xs.take (k + 1)) = insR out x) := ⟨by rw [refS_take hlt, ← HO.out, hx]⟩
      clear hx
      have hc := S.cells; simp only [Cells, cellsC, Im, Row, El, Nat.zero_add, Nat.reduceAdd] at hc
      go_wp2_with (first | ((first | (with_reducible refine wpl_seal S ?_) | (with_reducible refine cw_seal S ?_) | (with_reducible refine bp_seal S ?_) | (with_reducible refine ca_seal S ?_)); clear S; (try clear hc); intro w1 S; (try simp only [List.set_cons_zero, List.set_cons_succ, List.nil_append] at S); have hc := S.cells; simp only [Cells, cellsC, Im, Row, El, Nat.zero_add, Nat.reduceAdd] at hc))
      have S1 := S
      clear S hc
      go_loopw [5] (fun i w' => ∃ (m : Nat), m ≤ out.length ∧ i = .int .i64 m ∧ As (∀ (j : Nat) (h : j < out.length), j < m → cmpR out[j] x < 0) ∧ ∃ I', As (SH No I w [Im kR Ao out, Im kR (some ⟨b, o, none⟩) xs] w' I')) (fun i _ => out.length - (intOf i).toNat)
      case atStart => exact ⟨0, by omega, rfl, ⟨fun j _ h => absurd h (Nat.not_lt_zero j)⟩, _, ⟨S1⟩⟩
      case round =>
        clear S1
        obtain ⟨m, hm, rfl, HM, I', ⟨S⟩⟩ := hrel
        by_cases hml : m < out.length
        · have hml' : decide ((m : Int) < out.length) = true := decide_eq_true (by omega)
          obtain ⟨b2, o2, rfl, e0, e1, e2, e3, e4⟩ := (S.im 0 rfl).r5_at hml
          obtain ⟨y, hy⟩ : ∃ y, out[m] = y := ⟨_, rfl⟩
          have HY : As (out[m]? = some y) := ⟨by rw [List.getElem?_eq_getElem hml, hy]⟩
          have HM2 : As (cmpR y x < 0 → ∀ (j : Nat) (h : j < out.length), j < m + 1 → cmpR out[j] x < 0) := ⟨fun h0 j hj h => by
            rcases Nat.lt_or_eq_of_le (Nat.le_of_lt_succ h) with h1 | h1
            · exact HM.out j hj h1
            · subst h1; rw [hy]; exact h0⟩
          have HL : As (¬ cmpR y x < 0 → leadR out x = m) := ⟨fun h0 => leadR_of hm HM.out (fun h => by rw [hy]; exact h0)⟩
          rw [hy] at e0 e1 e2 e3 e4
          clear hy
          obtain ⟨g0, g1, g2, g3, g4⟩ := (S.im 1 rfl).r5_get HX.out
          obtain ⟨cq, hcq⟩ : ∃ cq, cmpR y x = cq := ⟨_, rfl⟩
          have HCQ := As.mk hcq
          rw [hcq] at HM2 HL
          clear hcq
          have p0 := ClE.cell (w := wr.drew) e0
          have p1 := ClE.cell (w := wr.drew) e1
          have p2 := ClE.cell (w := wr.drew) e2
          have p3 := ClE.cell (w := wr.drew) e3
          have p4 := ClE.cell (w := wr.drew) e4
          have q0 := ClE.cell (w := wr.drew) g0
          have q1 := ClE.cell (w := wr.drew) g1
          have q2 := ClE.cell (w := wr.drew) g2
          have q3 := ClE.cell (w := wr.drew) g3
          have q4 := ClE.cell (w := wr.drew) g4
          go_wp2_with (first | ((first | (with_reducible refine wpl_seal S ?_) | (with_reducible refine cw_seal S ?_) | (with_reducible refine bp_seal S ?_) | (with_reducible refine ca_seal S ?_)); clear S; (try clear hc); intro w1 S; (try simp only [List.set_cons_zero, List.set_cons_succ, List.nil_append] at S); have hc := S.cells; simp only [Cells, cellsC, Im, Row, El, Nat.zero_add, Nat.reduceAdd] at hc))
          refine wp_region_ext [⟨[0, 1, 2, 3, 4, 5, 6, 7, 8, 9, 10, 11, 12], [], 13, false⟩] [14, 15] (by kernel_rfl) (by kernel_rfl) ?_
          refine mix_cons rfl rfl rfl ?_
          simp only [opsAt, List.getD_cons_succ, List.getD_cons_zero]
          repeat (go_big_quiet_step ((intro hC; first | rfl | (go_simp; first | done | rfl))))
          refine wpQuiet_nil ?_
          repeat (go_big_quiet_step ((intro hC; first | rfl | (go_simp; first | done | rfl))))
          refine wpQuiet_nil ?_
          clear p0 p1 p2 p3 p4 q0 q1 q2 q3 q4 e0 e1 e2 e3 e4 g0 g1 g2 g3 g4
          replace S := S.drew
          generalize wr.drew = w2 at S ⊢
          have hc := S.cells; simp only [Cells, cellsC, Im, Row, El, Nat.zero_add, Nat.reduceAdd] at hc
          go_wp2_with (first | ((first | (with_reducible refine mx_seal S ?_) | (with_reducible refine wpl_seal S ?_) | (with_reducible refine ca_seal S ?_)); clear S; (try clear hc); intro w1 S; (try simp only [List.set_cons_zero, List.set_cons_succ, List.nil_append] at S); have hc := S.cells; simp only [Cells, cellsC, Im, Row, El, Nat.zero_add, Nat.reduceAdd] at hc) | (go_at_call 21; refine (refcmp_c y x _ _ S.bd).mono ?_; rw [HCQ.out]; rintro e w1 ⟨rfl, hx⟩; replace S := S.ext hx; clear hx; (try clear hc); have hc := S.cells; simp only [Cells, cellsC, Im, Row, El, Nat.zero_add, Nat.reduceAdd] at hc))
          (first | refine ⟨(fun h => by cases h), ?_⟩ | skip); (first | ((first | (with_reducible refine mx_seal S ?_)); clear S; (try clear hc); intro w1 S; (try simp only [List.set_cons_zero, List.set_cons_succ, List.nil_append] at S); have hc := S.cells; simp only [Cells, cellsC, Im, Row, El, Nat.zero_add, Nat.reduceAdd] at hc) | skip); (try simp only [Act.put, List.setIfInBounds_toArray, List.set_cons_succ, List.set_cons_zero])
          refine mix_last rfl ?_
          simp only [opsAt, List.getD_cons_succ, List.getD_cons_zero]
          repeat (go_big_quiet_step ((intro hC; first | rfl | (go_simp; first | done | rfl))))
          refine wpQuiet_nil ?_
          simp only [calmQ]
          clear hc
          obtain ⟨bq, hbq⟩ : ∃ bq, decide (cq < 0) = bq := ⟨_, rfl⟩
          rw [hbq]
          rcases bq with _ | _
          rotate_left
          · have HM3 := As.mk (HM2.out (of_decide_eq_true hbq))
            clear hbq
            have hc := S.cells; simp only [Cells, cellsC, Im, Row, El, Nat.zero_add, Nat.reduceAdd] at hc
            go_wp2_with (first | ((first | (with_reducible refine wpl_seal S ?_) | (with_reducible refine cw_seal S ?_) | (with_reducible refine bp_seal S ?_) | (with_reducible refine ca_seal S ?_)); clear S; (try clear hc); intro w1 S; (try simp only [List.set_cons_zero, List.set_cons_succ, List.nil_append] at S); have hc := S.cells; simp only [Cells, cellsC, Im, Row, El, Nat.zero_add, Nat.reduceAdd] at hc))
            go_roundw
            case rel => exact ⟨m + 1, by omega, by go_num, HM3, _, ⟨(S.sel [0, 1] (by decide) rfl (by simp) : SH _ _ _ [_, _] _ _)⟩⟩
            case measure => simp [intOf] <;> omega
          · have HL3 : As (leadR out x = m) := ⟨HL.out (by have := of_decide_eq_false hbq; omega)⟩
            clear hbq
            have hmin : min (m : Int) ((out.length : Int) - 1) = m := by omega
            obtain ⟨b3, o3, hb3, e0, e1, e2, e3, e4⟩ := (S.im 0 rfl).r5_at hml
            cases hb3
            rw [show out[m] = y from by have := HY.out; rw [List.getElem?_eq_getElem hml] at this; injection this] at e0 e1 e2 e3 e4
            have hc := S.cells; simp only [Cells, cellsC, Im, Row, El, Nat.zero_add, Nat.reduceAdd] at hc
            go_wp2_with (first | ((first | (with_reducible refine wpl_seal S ?_) | (with_reducible refine cw_seal S ?_) | (with_reducible refine bp_seal S ?_) | (with_reducible refine ca_seal S ?_)); clear S; (try clear hc); intro w1 S; (try simp only [List.set_cons_zero, List.set_cons_succ, List.nil_append] at S); have hc := S.cells; simp only [Cells, cellsC, Im, Row, El, Nat.zero_add, Nat.reduceAdd] at hc))
            obtain ⟨g0, g1, g2, g3, g4⟩ := (S.im 1 rfl).r5_get HX.out
            clear hc
            have p0 := ClE.cell (w := w1.drew) e0
            have p1 := ClE.cell (w := w1.drew) e1
            have p2 := ClE.cell (w := w1.drew) e2
            have p3 := ClE.cell (w := w1.drew) e3
            have p4 := ClE.cell (w := w1.drew) e4
            have q0 := ClE.cell (w := w1.drew) g0
            have q1 := ClE.cell (w := w1.drew) g1
            have q2 := ClE.cell (w := w1.drew) g2
            have q3 := ClE.cell (w := w1.drew) g3
            have q4 := ClE.cell (w := w1.drew) g4
            refine wp_region_ext [⟨[0, 1, 2, 3, 4, 5, 6, 7, 8, 9, 10, 11, 12, 13, 14, 15, 16], [], 17, false⟩] [18, 19] (by kernel_rfl) (by kernel_rfl) ?_
            refine mix_cons rfl rfl rfl ?_
            simp only [opsAt, List.getD_cons_succ, List.getD_cons_zero]
            repeat (go_big_quiet_step ((intro hC; first | rfl | (go_simp; first | done | rfl))))
            refine wpQuiet_nil ?_
            repeat (go_big_quiet_step ((intro hC; first | rfl | (go_simp; first | done | rfl))))
            refine wpQuiet_nil ?_
            clear p0 p1 p2 p3 p4 q0 q1 q2 q3 q4 e0 e1 e2 e3 e4 g0 g1 g2 g3 g4
            replace S := S.drew
            generalize w1.drew = w3 at S ⊢
            have hc := S.cells; simp only [Cells, cellsC, Im, Row, El, Nat.zero_add, Nat.reduceAdd] at hc
            go_wp2_with (first | ((first | (with_reducible refine mx_seal S ?_) | (with_reducible refine wpl_seal S ?_) | (with_reducible refine ca_seal S ?_)); clear S; (try clear hc); intro w1 S; (try simp only [List.set_cons_zero, List.set_cons_succ, List.nil_append] at S); have hc := S.cells; simp only [Cells, cellsC, Im, Row, El, Nat.zero_add, Nat.reduceAdd] at hc) | (go_at_call 21; refine (refcmp_c y x _ _ S.bd).mono ?_; rw [HCQ.out]; rintro e w4 ⟨rfl, hx⟩; replace S := S.ext hx; clear hx; (try clear hc); have hc := S.cells; simp only [Cells, cellsC, Im, Row, El, Nat.zero_add, Nat.reduceAdd] at hc))
            (first | refine ⟨(fun h => by cases h), ?_⟩ | skip); (first | ((first | (with_reducible refine mx_seal S ?_)); clear S; (try clear hc); intro w1 S; (try simp only [List.set_cons_zero, List.set_cons_succ, List.nil_append] at S); have hc := S.cells; simp only [Cells, cellsC, Im, Row, El, Nat.zero_add, Nat.reduceAdd] at hc) | skip); (try simp only [Act.put, List.setIfInBounds_toArray, List.set_cons_succ, List.set_cons_zero])
            refine mix_last rfl ?_
            simp only [opsAt, List.getD_cons_succ, List.getD_cons_zero]
            repeat (go_big_quiet_step ((intro hC; first | rfl | (go_simp; first | done | rfl))))
            refine wpQuiet_nil ?_
            simp only [calmQ]
            clear hc
            obtain ⟨bz, hbz⟩ : ∃ bz, (cq == 0) = bz := ⟨_, rfl⟩
            rw [hbz]
            rcases bz with _ | _
            · have hz : ¬ cq = 0 := by simpa using hbz
              clear hbz
              have HNW : As (insR out x = out.take m ++ [x] ++ out.drop m) := ⟨insR_new HL3.out (fun y' h' => by rw [HY.out] at h'; injection h' with h'; subst h'; rw [HCQ.out]; exact hz)⟩
              clear hz
              have HIL := As.mk (insR_len out x)
              obtain ⟨A8, hcutR, hsR⟩ := (show Sl kR w4 I' (some ⟨b2, o2, none⟩) out from S.im 0 rfl).cutR ty_r5s (l := m) hm hoc
              obtain ⟨A9, hcutL, hsL⟩ := (show Sl kR w4 I' (some ⟨b2, o2, none⟩) out from S.im 0 rfl).cutL ty_r5s (l := m) hm hoc
              have hpl : (out.take m).length = m := by rw [List.length_take]; omega
              have hdl : (out.drop m).length = out.length - m := List.length_drop ..
              have hsR2 : Sl kR w4 I' A8 (out.take m) := hsR
              have hcR : ∀ W, (Instr.sliceAt 23 (.slice (some ⟨b2, o2, none⟩) out.length co) none (some (.int .i64 (m : Int))) none).run Try.prog W = .ok (.slice A8 (out.take m).length co) W := by rw [hpl]; exact hcutR
              clear hcutR hsR
              replace S := ((S.know (h := Im kR A9 (out.drop m)) hsL).know (h := Im kR A8 (out.take m)) hsR2).nilrow (k := kR)
              clear hsL hsR2
              generalize out.take m = pa at S hcR hpl HNW
              generalize out.drop m = pd at S hcutL hdl HNW
              have hp1 : pa.length ≤ 1000 := by omega
              have hd1 : pd.length ≤ 1000 := by omega
              have HPL := As.mk hpl
              have HDL := As.mk hdl
              clear hpl hdl
              have hc := S.cells; simp only [Cells, cellsC, Im, Row, El, Nat.zero_add, Nat.reduceAdd] at hc
              go_wp2_with (first | ((first | (with_reducible refine wpl_seal S ?_) | (with_reducible refine cw_seal S ?_) | (with_reducible refine bp_seal S ?_) | (with_reducible refine ca_seal S ?_)); clear S; (try clear hc); intro w1 S; (try simp only [List.set_cons_zero, List.set_cons_succ, List.nil_append] at S); have hc := S.cells; simp only [Cells, cellsC, Im, Row, El, Nat.zero_add, Nat.reduceAdd] at hc) | ((at_builtin; refine wpl_app S 0 rfl rfl _ _ rfl ty_r5s rfl A8 co _ rfl _ (fun _ _ h => h) ((S.im 1 rfl)) (by (try simp only [maxLen, List.length_nil, List.length_append, List.length_cons]); omega) (by (try simp only [maxLen, List.length_nil, List.length_append, List.length_cons]); omega) ?_; clear S; (try clear hc); intro va w1 S; simp only [List.set_cons_zero, List.set_cons_succ, List.nil_append] at S; have hc := S.cells; simp only [Cells, cellsC, Im, Row, El, Nat.zero_add, Nat.reduceAdd] at hc); obtain ⟨g0, g1, g2, g3, g4⟩ := (S.im 4 rfl).r5_get HX.out) | ((at_builtin; refine wpl_push S 1 rfl rfl _ _ rfl ty_r5s rfl x _ _ rfl x.cells _ (S.cel 0 rfl) rfl (by (try simp only [maxLen, List.length_nil, List.length_append, List.length_cons]); omega) (by (try simp only [maxLen, List.length_nil, List.length_append, List.length_cons]); omega) ?_; clear S; (try clear hc); intro va w1 S; simp only [List.set_cons_zero, List.set_cons_succ, List.nil_append] at S; have hc := S.cells; simp only [Cells, cellsC, Im, Row, El, Nat.zero_add, Nat.reduceAdd] at hc); clear g0 g1 g2 g3 g4) | ((at_builtin; refine wpl_app S 1 rfl rfl _ _ rfl ty_r5s rfl A9 (co - m) _ rfl _ (fun _ _ h => h) ((S.im 3 rfl)) (by (try simp only [maxLen, List.length_nil, List.length_append, List.length_cons]); omega) (by (try simp only [maxLen, List.length_nil, List.length_append, List.length_cons]); omega) ?_; clear S; (try clear hc); intro va w1 S; simp only [List.set_cons_zero, List.set_cons_succ, List.nil_append] at S; have hc := S.cells; simp only [Cells, cellsC, Im, Row, El, Nat.zero_add, Nat.reduceAdd] at hc); rw [← HNW.out] at S; obtain ⟨A7, c7, I1, e1, hc7, S1, hI1⟩ := S.frow 1 rfl; subst e1; clear S hI1; have S := S1; clear S1; simp only [List.set_cons_zero, List.set_cons_succ, List.nil_append] at S; have hc := S.cells; simp only [Cells, cellsC, Im, Row, El, Nat.zero_add, Nat.reduceAdd] at hc))
              go_roundw
              case rel => exact ⟨k + 1, A7, c7, insR out x, by omega, by go_num, by have := HIL.out; omega, hc7, rfl, ⟨HS.out.symm⟩, _, ⟨(S.sel [1, 5] (by decide) rfl (by simp) : SH _ _ _ [_, _] _ _)⟩⟩
              case measure => simp [intOf] <;> omega
            · have HS2 : As (refS (xs.take (k + 1)) = out) := ⟨by rw [HS.out, insR_same HL3.out HY.out (by rw [HCQ.out]; simpa using hbz)]⟩
              clear hbz
              have hc := S.cells; simp only [Cells, cellsC, Im, Row, El, Nat.zero_add, Nat.reduceAdd] at hc
              go_wp2_with (first | ((first | (with_reducible refine wpl_seal S ?_) | (with_reducible refine cw_seal S ?_) | (with_reducible refine bp_seal S ?_) | (with_reducible refine ca_seal S ?_)); clear S; (try clear hc); intro w1 S; (try simp only [List.set_cons_zero, List.set_cons_succ, List.nil_append] at S); have hc := S.cells; simp only [Cells, cellsC, Im, Row, El, Nat.zero_add, Nat.reduceAdd] at hc))
              go_roundw
              case rel => exact ⟨k + 1, _, _, out, by omega, by go_num, by omega, hoc, rfl, ⟨HS2.out.symm⟩, _, ⟨(S.sel [0, 1] (by decide) rfl (by simp) : SH _ _ _ [_, _] _ _)⟩⟩
              case measure => simp [intOf] <;> omega
        · have hml' : decide ((m : Int) < out.length) = false := decide_eq_false (by omega)
          have HL3 : As (leadR out x = m) := ⟨leadR_of hm HM.out (fun h => absurd h hml)⟩
          have hc := S.cells; simp only [Cells, cellsC, Im, Row, El, Nat.zero_add, Nat.reduceAdd] at hc
          go_wp2_with (first | ((first | (with_reducible refine wpl_seal S ?_) | (with_reducible refine cw_seal S ?_) | (with_reducible refine bp_seal S ?_) | (with_reducible refine ca_seal S ?_)); clear S; (try clear hc); intro w1 S; (try simp only [List.set_cons_zero, List.set_cons_succ, List.nil_append] at S); have hc := S.cells; simp only [Cells, cellsC, Im, Row, El, Nat.zero_add, Nat.reduceAdd] at hc))
          refine wp_region_ext [⟨[0, 1, 2, 3, 4, 5, 6, 7, 8, 9, 10, 11, 12], [], 13, false⟩] [14, 15] (by kernel_rfl) (by kernel_rfl) ?_
          refine mix_cons rfl rfl rfl ?_
          simp only [opsAt, List.getD_cons_succ, List.getD_cons_zero]
          repeat (go_big_quiet_step ((intro hC; first | rfl | (go_simp; first | done | rfl))))
          refine wpQuiet_nil ?_
          repeat (go_big_quiet_step ((intro hC; first | rfl | (go_simp; first | done | rfl))))
          refine wpQuiet_nil ?_
          replace S := S.drew
          generalize wr.drew = w2 at S ⊢
          go_wp2_with (first | ((first | (with_reducible refine mx_seal S ?_) | (with_reducible refine wpl_seal S ?_) | (with_reducible refine ca_seal S ?_)); clear S; (try clear hc); intro w1 S; (try simp only [List.set_cons_zero, List.set_cons_succ, List.nil_append] at S); have hc := S.cells; simp only [Cells, cellsC, Im, Row, El, Nat.zero_add, Nat.reduceAdd] at hc))
          (first | refine ⟨(fun h => by cases h), ?_⟩ | skip); (first | ((first | (with_reducible refine mx_seal S ?_)); clear S; (try clear hc); intro w1 S; (try simp only [List.set_cons_zero, List.set_cons_succ, List.nil_append] at S); have hc := S.cells; simp only [Cells, cellsC, Im, Row, El, Nat.zero_add, Nat.reduceAdd] at hc) | skip); (try simp only [Act.put, List.setIfInBounds_toArray, List.set_cons_succ, List.set_cons_zero])
          refine mix_last rfl ?_
          simp only [opsAt, List.getD_cons_succ, List.getD_cons_zero]
          repeat (go_big_quiet_step ((intro hC; first | rfl | (go_simp; first | done | rfl))))
          refine wpQuiet_nil ?_
          simp only [calmQ]
          go_wp2_with (first | ((first | (with_reducible refine wpl_seal S ?_) | (with_reducible refine cw_seal S ?_) | (with_reducible refine bp_seal S ?_) | (with_reducible refine ca_seal S ?_)); clear S; (try clear hc); intro w1 S; (try simp only [List.set_cons_zero, List.set_cons_succ, List.nil_append] at S); have hc := S.cells; simp only [Cells, cellsC, Im, Row, El, Nat.zero_add, Nat.reduceAdd] at hc))
          refine wp_region_ext [⟨[0, 1, 2, 3, 4, 5, 6, 7, 8, 9, 10, 11, 12, 13, 14, 15, 16], [], 17, false⟩] [18, 19] (by kernel_rfl) (by kernel_rfl) ?_
          refine mix_cons rfl rfl rfl ?_
          simp only [opsAt, List.getD_cons_succ, List.getD_cons_zero]
          repeat (go_big_quiet_step ((intro hC; first | rfl | (go_simp; first | done | rfl))))
          refine wpQuiet_nil ?_
          repeat (go_big_quiet_step ((intro hC; first | rfl | (go_simp; first | done | rfl))))
          refine wpQuiet_nil ?_
          replace S := S.drew
          generalize w2.drew = w1 at S ⊢
          go_wp2_with (first | ((first | (with_reducible refine mx_seal S ?_) | (with_reducible refine wpl_seal S ?_) | (with_reducible refine ca_seal S ?_)); clear S; (try clear hc); intro w1 S; (try simp only [List.set_cons_zero, List.set_cons_succ, List.nil_append] at S); have hc := S.cells; simp only [Cells, cellsC, Im, Row, El, Nat.zero_add, Nat.reduceAdd] at hc))
          (first | refine ⟨(fun h => by cases h), ?_⟩ | skip); (first | ((first | (with_reducible refine mx_seal S ?_)); clear S; (try clear hc); intro w1 S; (try simp only [List.set_cons_zero, List.set_cons_succ, List.nil_append] at S); have hc := S.cells; simp only [Cells, cellsC, Im, Row, El, Nat.zero_add, Nat.reduceAdd] at hc) | skip); (try simp only [Act.put, List.setIfInBounds_toArray, List.set_cons_succ, List.set_cons_zero])
          refine mix_last rfl ?_
          simp only [opsAt, List.getD_cons_succ, List.getD_cons_zero]
          repeat (go_big_quiet_step ((intro hC; first | rfl | (go_simp; first | done | rfl))))
          refine wpQuiet_nil ?_
          simp only [calmQ]
          have HNW : As (insR out x = out.take m ++ [x] ++ out.drop m) := ⟨insR_new HL3.out (fun y' h' => by rw [List.getElem?_eq_none (by omega)] at h'; cases h')⟩
          have HIL := As.mk (insR_len out x)
          obtain ⟨A8, hcutR, hsR⟩ := (show Sl kR w1 I' Ao out from S.im 0 rfl).cutR ty_r5s (l := m) hm hoc
          obtain ⟨A9, hcutL, hsL⟩ := (show Sl kR w1 I' Ao out from S.im 0 rfl).cutL ty_r5s (l := m) hm hoc
          have hpl : (out.take m).length = m := by rw [List.length_take]; omega
          have hdl : (out.drop m).length = out.length - m := List.length_drop ..
          have hsR2 : Sl kR w1 I' A8 (out.take m) := hsR
          have hcR : ∀ W, (Instr.sliceAt 23 (.slice Ao out.length co) none (some (.int .i64 (m : Int))) none).run Try.prog W = .ok (.slice A8 (out.take m).length co) W := by rw [hpl]; exact hcutR
          clear hcutR hsR
          replace S := ((S.know (h := Im kR A9 (out.drop m)) hsL).know (h := Im kR A8 (out.take m)) hsR2).nilrow (k := kR)
          clear hsL hsR2
          generalize out.take m = pa at S hcR hpl HNW
          generalize out.drop m = pd at S hcutL hdl HNW
          have hp1 : pa.length ≤ 1000 := by omega
          have hd1 : pd.length ≤ 1000 := by omega
          have HPL := As.mk hpl
          have HDL := As.mk hdl
          clear hpl hdl
          have hc := S.cells; simp only [Cells, cellsC, Im, Row, El, Nat.zero_add, Nat.reduceAdd] at hc
          go_wp2_with (first | ((first | (with_reducible refine wpl_seal S ?_) | (with_reducible refine cw_seal S ?_) | (with_reducible refine bp_seal S ?_) | (with_reducible refine ca_seal S ?_)); clear S; (try clear hc); intro w1 S; (try simp only [List.set_cons_zero, List.set_cons_succ, List.nil_append] at S); have hc := S.cells; simp only [Cells, cellsC, Im, Row, El, Nat.zero_add, Nat.reduceAdd] at hc) | ((at_builtin; refine wpl_app S 0 rfl rfl _ _ rfl ty_r5s rfl A8 co _ rfl _ (fun _ _ h => h) ((S.im 1 rfl)) (by (try simp only [maxLen, List.length_nil, List.length_append, List.length_cons]); omega) (by (try simp only [maxLen, List.length_nil, List.length_append, List.length_cons]); omega) ?_; clear S; (try clear hc); intro va w1 S; simp only [List.set_cons_zero, List.set_cons_succ, List.nil_append] at S; have hc := S.cells; simp only [Cells, cellsC, Im, Row, El, Nat.zero_add, Nat.reduceAdd] at hc); obtain ⟨g0, g1, g2, g3, g4⟩ := (S.im 4 rfl).r5_get HX.out) | ((at_builtin; refine wpl_push S 1 rfl rfl _ _ rfl ty_r5s rfl x _ _ rfl x.cells _ (S.cel 0 rfl) rfl (by (try simp only [maxLen, List.length_nil, List.length_append, List.length_cons]); omega) (by (try simp only [maxLen, List.length_nil, List.length_append, List.length_cons]); omega) ?_; clear S; (try clear hc); intro va w1 S; simp only [List.set_cons_zero, List.set_cons_succ, List.nil_append] at S; have hc := S.cells; simp only [Cells, cellsC, Im, Row, El, Nat.zero_add, Nat.reduceAdd] at hc); clear g0 g1 g2 g3 g4) | ((at_builtin; refine wpl_app S 1 rfl rfl _ _ rfl ty_r5s rfl A9 (co - m) _ rfl _ (fun _ _ h => h) ((S.im 3 rfl)) (by (try simp only [maxLen, List.length_nil, List.length_append, List.length_cons]); omega) (by (try simp only [maxLen, List.length_nil, List.length_append, List.length_cons]); omega) ?_; clear S; (try clear hc); intro va w1 S; simp only [List.set_cons_zero, List.set_cons_succ, List.nil_append] at S; have hc := S.cells; simp only [Cells, cellsC, Im, Row, El, Nat.zero_add, Nat.reduceAdd] at hc); rw [← HNW.out] at S; obtain ⟨A7, c7, I1, e1, hc7, S1, hI1⟩ := S.frow 1 rfl; subst e1; clear S hI1; have S := S1; clear S1; simp only [List.set_cons_zero, List.set_cons_succ, List.nil_append] at S; have hc := S.cells; simp only [Cells, cellsC, Im, Row, El, Nat.zero_add, Nat.reduceAdd] at hc))
          go_roundw
          case rel => exact ⟨k + 1, A7, c7, insR out x, by omega, by go_num, by have := HIL.out; omega, hc7, rfl, ⟨HS.out.symm⟩, _, ⟨(S.sel [1, 5] (by decide) rfl (by simp) : SH _ _ _ [_, _] _ _)⟩⟩
          case measure => simp [intOf] <;> omega
    · have hlt' : decide ((k : Int) < xs.length) = false := decide_eq_false (by omega)
      have HE : As (out = refS xs) := ⟨by rw [HO.out, List.take_of_length_le (by omega)]⟩
      have hc := S.cells; simp only [Cells, cellsC, Im, Row, El, Nat.zero_add, Nat.reduceAdd] at hc
      go_wp2_with (first | ((first | (with_reducible refine wpl_seal S ?_) | (with_reducible refine cw_seal S ?_) | (with_reducible refine bp_seal S ?_) | (with_reducible refine ca_seal S ?_)); clear S; (try clear hc); intro w1 S; (try simp only [List.set_cons_zero, List.set_cons_succ, List.nil_append] at S); have hc := S.cells; simp only [Cells, cellsC, Im, Row, El, Nat.zero_add, Nat.reduceAdd] at hc))
      go_ret
      rw [← HE.out]
      exact ⟨_, _, rfl, hoc, S.ret 0 rfl⟩
end Go.Proofs.Yteaekpnmiicbhaa
