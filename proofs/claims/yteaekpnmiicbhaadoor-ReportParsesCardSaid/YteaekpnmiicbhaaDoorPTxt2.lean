/- Records that may be, told by the program; is one odd? -/
import Derived.Test.YteaekpnmiicbhaaDoorPTxt
namespace Go.Proofs.YteaekpnmiicbhaaDoor
open Go.RowKit X
set_option maxHeartbeats 1000000
set_option maxRecDepth 8000
set_option linter.unusedSimpArgs false
set_option linter.unusedVariables false
theorem pnumb_c (x : R5) (w : World) : Calls Tryd.prog 22 #[x.v] w fun e w' => e = .returned x.v ∧ Ext w w' := by
  have S := SH.start w No (fun _ h => h.elim)
  dsimp only [R5.v]
  have hc := S.cells; simp only [Cells, cellsC, Im, Row, El, Nat.zero_add, Nat.reduceAdd] at hc
  go_enter Tryd.func22, Tryd.ntmps22
  go_wp2_with (first | ((first | (with_reducible refine wpl_seal S ?_) | (with_reducible refine cw_seal S ?_) | (with_reducible refine bp_seal S ?_) | (with_reducible refine ca_seal S ?_)); clear S; (try clear hc); intro w1 S; (try simp only [List.set_cons_zero, List.set_cons_succ, List.nil_append] at S); have hc := S.cells; simp only [Cells, cellsC, Im, Row, El, Nat.zero_add, Nat.reduceAdd] at hc))
  refine bodyPost_ret (results_cell_row rfl _ _ _ 60 _ (0, 0) _ rfl (S.cel 0 rfl) Tryd.underlying60 rfl (by kernel_rfl)) rfl ?_
  exact ⟨rfl, S.out⟩
def mn5 (x : R5) : Int := Lib.minOf x.list
def mx5 (x : R5) : Int := Lib.maxOf x.list
theorem mayR_mm (x : R5) : mayR x = (decide (0 ≤ mn5 x) && (decide (mx5 x ≤ 4611686018427387903) && decide (x.u < 8))) := by
  have e : mayR x = (decide (okN x.i) && (decide (okN x.b) && (decide (okN x.r) && (decide (okN x.t) && (decide (okN x.u) && true)))) && decide (x.u ≤ 7)) := rfl
  have e1 : mn5 x = min (min (min (min (min x.i x.i) x.b) x.r) x.t) x.u := rfl
  have e2 : mx5 x = max (max (max (max (max x.i x.i) x.b) x.r) x.t) x.u := rfl
  rw [e, e1, e2, Bool.eq_iff_iff]
  simp only [Bool.and_eq_true, decide_eq_true_eq, and_true]
  unfold okN
  omega
theorem cells5 {w : World} {g : Nat} {t : TypeId} {x : R5} {F0 I0 I : Fp} {w0 : World} {O : List Ob} (S : SH F0 I0 w0 O w I) (i : Nat) (e : O[i]? = some (Cel g t [.int .i64 x.i, .int .i64 x.b, .int .i64 x.r, .int .i64 x.t, .int .i64 x.u])) :
    ∀ j, j < x.list.length → w.cell? ⟨g, 0 + j, none⟩ = some (.int .i64 (x.list.getD j 0)) := by
  intro j hj
  rw [Nat.zero_add]
  refine S.cell i j e ?_
  have hj' : j < 5 := hj
  rcases j with _ | _ | _ | _ | _ | j
  · rfl
  · rfl
  · rfl
  · rfl
  · rfl
  · omega
theorem pmay_c (x : R5) (w : World) (I : Fp) (hI : ∀ b, I b → b < w.heap.size) : Calls Tryd.prog 11 #[x.v] w fun e w' => e = .returned (.bool (mayR x)) ∧ Ext w w' := by
  have S := SH.start w I hI
  have HM := As.mk (mayR_mm x)
  obtain ⟨mn, hmn⟩ : ∃ mn, mn5 x = mn := ⟨_, rfl⟩
  obtain ⟨mx, hmx⟩ : ∃ mx, mx5 x = mx := ⟨_, rfl⟩
  have HMN : As (Lib.minOf (x.list.take 5) = mn) := ⟨hmn⟩
  have HMX : As (Lib.maxOf (x.list.take 5) = mx) := ⟨hmx⟩
  rw [hmn, hmx] at HM
  clear hmn hmx
  dsimp only [R5.v]
  have hc := S.cells; simp only [Cells, cellsC, Im, Row, El, Nat.zero_add, Nat.reduceAdd] at hc
  go_enter Tryd.func11, Tryd.ntmps11
  by_cases h1 : 0 ≤ mn
  · have h1' : decide (mn ≥ 0) = true := by simpa using h1
    by_cases h2 : mx ≤ 4611686018427387903
    · have h2' : decide (mx ≤ 4611686018427387903) = true := by simpa using h2
      go_wp2_with (first | ((first | (with_reducible refine wpl_seal S ?_) | (with_reducible refine cw_seal S ?_) | (with_reducible refine bp_seal S ?_) | (with_reducible refine ca_seal S ?_)); clear S; (try clear hc); intro w1 S; (try simp only [List.set_cons_zero, List.set_cons_succ, List.nil_append] at S); have hc := S.cells; simp only [Cells, cellsC, Im, Row, El, Nat.zero_add, Nat.reduceAdd] at hc) | (go_at_call 22; refine (pnumb_c x _).mono ?_; dsimp only [R5.v]; rintro e w1 ⟨rfl, hx⟩; replace S := S.ext hx; clear hx; (try clear hc); have hc := S.cells; simp only [Cells, cellsC, Im, Row, El, Nat.zero_add, Nat.reduceAdd] at hc) | (go_at_call 31; refine (Tryd.slices_Min_int _ 0 5 5 x.list _ (by decide) (Nat.le_refl 5) (by decide) (cells5 S 0 rfl)).mono ?_; rw [HMN.out]; rintro e w1 ⟨rfl, rfl⟩) | (go_at_call 32; refine (Tryd.slices_Max_int _ 0 5 5 x.list _ (by decide) (Nat.le_refl 5) (by decide) (cells5 S 0 rfl)).mono ?_; rw [HMX.out]; rintro e w1 ⟨rfl, rfl⟩))
      go_ret
      rw [HM.out]
      exact ⟨ret_bool (by rw [decide_eq_true h1, decide_eq_true h2]; rfl), S.out⟩
    · have h2' : decide (mx ≤ 4611686018427387903) = false := by simpa using h2
      go_wp2_with (first | ((first | (with_reducible refine wpl_seal S ?_) | (with_reducible refine cw_seal S ?_) | (with_reducible refine bp_seal S ?_) | (with_reducible refine ca_seal S ?_)); clear S; (try clear hc); intro w1 S; (try simp only [List.set_cons_zero, List.set_cons_succ, List.nil_append] at S); have hc := S.cells; simp only [Cells, cellsC, Im, Row, El, Nat.zero_add, Nat.reduceAdd] at hc) | (go_at_call 22; refine (pnumb_c x _).mono ?_; dsimp only [R5.v]; rintro e w1 ⟨rfl, hx⟩; replace S := S.ext hx; clear hx; (try clear hc); have hc := S.cells; simp only [Cells, cellsC, Im, Row, El, Nat.zero_add, Nat.reduceAdd] at hc) | (go_at_call 31; refine (Tryd.slices_Min_int _ 0 5 5 x.list _ (by decide) (Nat.le_refl 5) (by decide) (cells5 S 0 rfl)).mono ?_; rw [HMN.out]; rintro e w1 ⟨rfl, rfl⟩) | (go_at_call 32; refine (Tryd.slices_Max_int _ 0 5 5 x.list _ (by decide) (Nat.le_refl 5) (by decide) (cells5 S 0 rfl)).mono ?_; rw [HMX.out]; rintro e w1 ⟨rfl, rfl⟩))
      go_ret
      rw [HM.out]
      exact ⟨ret_bool (by rw [decide_eq_false (show ¬ mx ≤ 4611686018427387903 by omega), Bool.false_and, Bool.and_false]), S.out⟩
  · have h1' : decide (mn ≥ 0) = false := by simp; omega
    go_wp2_with (first | ((first | (with_reducible refine wpl_seal S ?_) | (with_reducible refine cw_seal S ?_) | (with_reducible refine bp_seal S ?_) | (with_reducible refine ca_seal S ?_)); clear S; (try clear hc); intro w1 S; (try simp only [List.set_cons_zero, List.set_cons_succ, List.nil_append] at S); have hc := S.cells; simp only [Cells, cellsC, Im, Row, El, Nat.zero_add, Nat.reduceAdd] at hc) | (go_at_call 22; refine (pnumb_c x _).mono ?_; dsimp only [R5.v]; rintro e w1 ⟨rfl, hx⟩; replace S := S.ext hx; clear hx; (try clear hc); have hc := S.cells; simp only [Cells, cellsC, Im, Row, El, Nat.zero_add, Nat.reduceAdd] at hc) | (go_at_call 31; refine (Tryd.slices_Min_int _ 0 5 5 x.list _ (by decide) (Nat.le_refl 5) (by decide) (cells5 S 0 rfl)).mono ?_; rw [HMN.out]; rintro e w1 ⟨rfl, rfl⟩))
    go_ret
    rw [HM.out]
    exact ⟨ret_bool (by rw [decide_eq_false (show ¬ 0 ≤ mn by omega), Bool.false_and]), S.out⟩
theorem oddClo_c (x : R5) (w : World) (I : Fp) (hI : ∀ b, I b → b < w.heap.size) : Calls Tryd.prog 39 #[x.v] w fun e w' => e = .returned (.bool (!mayR x)) ∧ Ext w w' := by
  have S := SH.start w I hI
  obtain ⟨q, hq⟩ : ∃ q, mayR x = q := ⟨_, rfl⟩
  have HQ := As.mk hq
  rw [hq]
  clear hq
  dsimp only [R5.v]
  have hc := S.cells; simp only [Cells, cellsC, Im, Row, El, Nat.zero_add, Nat.reduceAdd] at hc
  go_enter Tryd.func39, Tryd.ntmps39
  go_wp2_with (first | ((first | (with_reducible refine wpl_seal S ?_) | (with_reducible refine cw_seal S ?_) | (with_reducible refine bp_seal S ?_) | (with_reducible refine ca_seal S ?_)); clear S; (try clear hc); intro w1 S; (try simp only [List.set_cons_zero, List.set_cons_succ, List.nil_append] at S); have hc := S.cells; simp only [Cells, cellsC, Im, Row, El, Nat.zero_add, Nat.reduceAdd] at hc) | (go_at_call 11; refine (pmay_c x _ _ S.bd).mono ?_; rw [HQ.out]; rintro e w1 ⟨rfl, hx⟩; replace S := S.ext hx; clear hx; (try clear hc); have hc := S.cells; simp only [Cells, cellsC, Im, Row, El, Nat.zero_add, Nat.reduceAdd] at hc))
  go_ret
  exact ⟨rfl, S.out⟩
/-- is there a record that may not be? -/
def oddR (l : List R5) : Bool := l.any fun x => !mayR x
theorem indexOdd_c (l : List R5) (A : Option Addr) (c : Nat) (w : World) (I : Fp) (hI : ∀ b, I b → b < w.heap.size) (hl : Sl kC w I A l) (hn : l.length ≤ 1000) :
    Calls Tryd.prog 50 #[.slice A l.length c, .func (.func 39) #[] #[]] w fun e w' => ∃ q : Int, e = .returned (.int .i64 q) ∧ decide (0 ≤ q) = oddR l ∧ Ext w w' := by
  have S := (SH.start w I hI).know (h := Im kC A l) hl
  clear hl
  have hc := S.cells; simp only [Cells, cellsC, Im, Row, El, Nat.zero_add, Nat.reduceAdd] at hc
  go_enter Tryd.func50, Tryd.ntmps50
  go_wp2_with (first | ((first | (with_reducible refine wpl_seal S ?_) | (with_reducible refine cw_seal S ?_) | (with_reducible refine bp_seal S ?_) | (with_reducible refine ca_seal S ?_)); clear S; (try clear hc); intro w1 S; (try simp only [List.set_cons_zero, List.set_cons_succ, List.nil_append] at S); have hc := S.cells; simp only [Cells, cellsC, Im, Row, El, Nat.zero_add, Nat.reduceAdd] at hc))
  have S1 := S
  clear S hc
  go_loopw [8] (fun i w' => ∃ (k : Nat), k ≤ l.length ∧ i = .int .i64 k ∧ As (∀ (j : Nat) (h : j < l.length), j < k → mayR l[j] = true) ∧ ∃ I', As (SH No I w [Im kC A l] w' I')) (fun i _ => l.length - (intOf i).toNat)
  case atStart => exact ⟨0, by omega, rfl, ⟨fun j _ h => absurd h (Nat.not_lt_zero j)⟩, _, ⟨S1⟩⟩
  case round =>
    clear S1
    obtain ⟨k, hk, rfl, HK, I', ⟨S⟩⟩ := hrel
    by_cases hlt : k < l.length
    · have hlt' : decide ((k : Int) < l.length) = true := by simp; omega
      obtain ⟨b, o, rfl, g0, g1, g2, g3, g4⟩ := (S.im 0 rfl).r5_at hlt
      have HY := As.mk hlt
      obtain ⟨q, hq⟩ : ∃ q, mayR l[k] = q := ⟨_, rfl⟩
      have HQ := As.mk hq
      have HT : As (q = true → ∀ (j : Nat) (h : j < l.length), j < k + 1 → mayR l[j] = true) := ⟨fun hq1 j hj h => by
        rcases Nat.lt_or_eq_of_le (Nat.le_of_lt_succ h) with h1 | h1
        · exact HK.out j hj h1
        · subst h1; rw [hq, hq1]⟩
      have HF : As (q = false → oddR l = true) := ⟨fun hq1 => by
        unfold oddR
        rw [List.any_eq_true]
        exact ⟨_, List.getElem_mem hlt, by rw [hq, hq1]; rfl⟩⟩
      clear hq
      generalize l[k] = y at g0 g1 g2 g3 g4 HQ
      have hc := S.cells; simp only [Cells, cellsC, Im, Row, El, Nat.zero_add, Nat.reduceAdd] at hc
      cases q
      · go_wp2_with (first | ((first | (with_reducible refine wpl_seal S ?_) | (with_reducible refine cw_seal S ?_) | (with_reducible refine bp_seal S ?_) | (with_reducible refine ca_seal S ?_)); clear S; (try clear hc); intro w1 S; (try simp only [List.set_cons_zero, List.set_cons_succ, List.nil_append] at S); have hc := S.cells; simp only [Cells, cellsC, Im, Row, El, Nat.zero_add, Nat.reduceAdd] at hc) | (go_at_call 39; refine (oddClo_c y _ _ S.bd).mono ?_; rw [HQ.out]; rintro e w1 ⟨rfl, hx⟩; replace S := S.ext hx; clear hx; (try clear hc); have hc := S.cells; simp only [Cells, cellsC, Im, Row, El, Nat.zero_add, Nat.reduceAdd] at hc))
        go_ret
        exact ⟨_, rfl, by rw [HF.out (by first | rfl | trivial)]; simp, S.out⟩
      · go_wp2_with (first | ((first | (with_reducible refine wpl_seal S ?_) | (with_reducible refine cw_seal S ?_) | (with_reducible refine bp_seal S ?_) | (with_reducible refine ca_seal S ?_)); clear S; (try clear hc); intro w1 S; (try simp only [List.set_cons_zero, List.set_cons_succ, List.nil_append] at S); have hc := S.cells; simp only [Cells, cellsC, Im, Row, El, Nat.zero_add, Nat.reduceAdd] at hc) | (go_at_call 39; refine (oddClo_c y _ _ S.bd).mono ?_; rw [HQ.out]; rintro e w1 ⟨rfl, hx⟩; replace S := S.ext hx; clear hx; (try clear hc); have hc := S.cells; simp only [Cells, cellsC, Im, Row, El, Nat.zero_add, Nat.reduceAdd] at hc))
        go_roundw
        case rel => exact ⟨k + 1, by omega, by go_num, ⟨HT.out (by first | rfl | trivial)⟩, _, ⟨by first | exact S | trivial⟩⟩
        case measure => simp [intOf]; omega
    · have hlt' : decide ((k : Int) < l.length) = false := by simp; omega
      go_wp2_with (first | ((first | (with_reducible refine wpl_seal S ?_) | (with_reducible refine cw_seal S ?_) | (with_reducible refine bp_seal S ?_) | (with_reducible refine ca_seal S ?_)); clear S; (try clear hc); intro w1 S; (try simp only [List.set_cons_zero, List.set_cons_succ, List.nil_append] at S); have hc := S.cells; simp only [Cells, cellsC, Im, Row, El, Nat.zero_add, Nat.reduceAdd] at hc))
      go_ret
      refine ⟨_, rfl, ?_, S.out⟩
      have : oddR l = false := by
        unfold oddR
        rw [List.any_eq_false]
        intro x hx
        obtain ⟨j, hj, rfl⟩ := List.mem_iff_getElem.1 hx
        rw [HK.out j hj (by omega)]
        decide
      rw [this]
      rfl
theorem odd_c (l : List R5) (A : Option Addr) (c : Nat) (w : World) (I : Fp) (hI : ∀ b, I b → b < w.heap.size) (hl : Sl kC w I A l) (hn : l.length ≤ 1000) :
    Calls Tryd.prog 21 #[.slice A l.length c] w fun e w' => e = .returned (.bool (oddR l)) ∧ Ext w w' := by
  have S := (SH.start w I hI).know (h := Im kC A l) hl
  clear hl
  have contains : ∀ w', SH No I w [Im kC A l] w' I → Calls Tryd.prog 38 #[.slice A l.length c, .func (.func 39) #[] #[]] w' fun e w2 => e = .returned (.bool (oddR l)) ∧ Ext w' w2 := fun w' S => by
    have S0 := SH.start w' I S.bd
    have HIM := As.mk (S.im 0 rfl)
    clear S
    have S := S0
    clear S0
    have hc := S.cells; simp only [Cells, cellsC, Im, Row, El, Nat.zero_add, Nat.reduceAdd] at hc
    go_enter Tryd.func38, Tryd.ntmps38
    go_wp2_with (first | ((first | (with_reducible refine wpl_seal S ?_) | (with_reducible refine cw_seal S ?_) | (with_reducible refine bp_seal S ?_) | (with_reducible refine ca_seal S ?_)); clear S; (try clear hc); intro w1 S; (try simp only [List.set_cons_zero, List.set_cons_succ, List.nil_append] at S); have hc := S.cells; simp only [Cells, cellsC, Im, Row, El, Nat.zero_add, Nat.reduceAdd] at hc) | (go_at_call 50; refine (indexOdd_c l A c _ I S.bd (HIM.out.below S.out) hn).mono ?_; rintro e w1 ⟨q, rfl, hq, hx⟩; replace S := S.ext hx; clear hx; (try clear hc); have hc := S.cells; simp only [Cells, cellsC, Im, Row, El, Nat.zero_add, Nat.reduceAdd] at hc))
    go_ret
    exact ⟨ret_bool (by first | rfl | exact hq), S.out⟩
  go_enter Tryd.func21, Tryd.ntmps21
  go_wp2_with (first | ((first | (with_reducible refine wpl_seal S ?_) | (with_reducible refine cw_seal S ?_) | (with_reducible refine bp_seal S ?_) | (with_reducible refine ca_seal S ?_)); clear S; (try clear hc); intro w1 S; (try simp only [List.set_cons_zero, List.set_cons_succ, List.nil_append] at S); have hc := S.cells; simp only [Cells, cellsC, Im, Row, El, Nat.zero_add, Nat.reduceAdd] at hc) | (go_at_call 38; refine (contains _ S).mono ?_; rintro e w1 ⟨rfl, hx⟩; replace S := S.ext hx; clear hx; (try clear hc); have hc := S.cells; simp only [Cells, cellsC, Im, Row, El, Nat.zero_add, Nat.reduceAdd] at hc))
  go_ret
  exact ⟨rfl, S.out⟩
end Go.Proofs.YteaekpnmiicbhaaDoor
