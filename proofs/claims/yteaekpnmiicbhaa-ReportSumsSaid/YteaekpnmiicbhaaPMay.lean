/- Records that may be; records' bytes: the document's. -/
import Derived.Test.YteaekpnmiicbhaaPPut
import Derived.Test.YteaekpnmiicbhaaPGood
namespace Go.Proofs.Yteaekpnmiicbhaa
open Go.RowKit X
set_option maxHeartbeats 1000000
set_option maxRecDepth 8000
set_option linter.unusedSimpArgs false
set_option linter.unusedVariables false
def okN (v : Int) : Prop := 0 ≤ v ∧ v ≤ 4611686018427387903
instance (v : Int) : Decidable (okN v) := inferInstanceAs (Decidable (_ ∧ _))
def mayR (x : R5) : Bool := x.list.all (fun v => decide (okN v)) && decide (x.u ≤ 7)
theorem allF {α : Type} {p : α → Bool} {l : List α} {k : Nat} (h : k < l.length) (hp : p l[k] = false) : l.all p = false := by
  rw [List.all_eq_false]
  exact ⟨_, List.getElem_mem h, by simpa using hp⟩
theorem allT {α : Type} {p : α → Bool} {l : List α} (h : ∀ (k : Nat) (hk : k < l.length), p l[k] = true) : l.all p = true := by
  rw [List.all_eq_true]
  intro x hx
  obtain ⟨k, hk, rfl⟩ := List.mem_iff_getElem.1 hx
  exact h k hk
theorem may_c (x : R5) (w : World) (I : Fp) (hI : ∀ b, I b → b < w.heap.size) : Calls Try.prog 25 #[x.v] w fun e w' => e = .returned (.bool (mayR x)) ∧ Ext w w' := by
  have S := SH.start w I hI
  obtain ⟨ys, hys⟩ : ∃ ys, x.list = ys := ⟨_, rfl⟩
  have hyl : ys.length = 5 := by rw [← hys]; rfl
  have HYS := As.mk hys
  clear hys
  dsimp only [R5.v]
  have hc := S.cells; simp only [Cells, cellsC, Im, Row, El, Nat.zero_add, Nat.reduceAdd] at hc
  go_enter Try.func25, Try.ntmps25
  go_wp2_with (first | ((first | (with_reducible refine wpl_seal S ?_) | (with_reducible refine cw_seal S ?_) | (with_reducible refine bp_seal S ?_) | (with_reducible refine ca_seal S ?_)); clear S; (try clear hc); intro w1 S; (try simp only [List.set_cons_zero, List.set_cons_succ, List.nil_append] at S); have hc := S.cells; simp only [Cells, cellsC, Im, Row, El, Nat.zero_add, Nat.reduceAdd] at hc) | (go_at_call 26; refine (numbers_c x _ _ S.bd).mono ?_; rw [HYS.out]; rintro e w1 ⟨g, rfl, hu⟩; obtain ⟨I1, S1, hI1⟩ := S.new hu; clear S hu hI1; (try clear hc); have S := S1; clear S1; have hc := S.cells; simp only [Cells, cellsC, Im, Row, El, Nat.zero_add, Nat.reduceAdd] at hc))
  obtain ⟨gx, egx⟩ := S.name 1 rfl; rw [← egx] at S ⊢; clear egx
  have S1 := S
  clear S hc
  go_loopw [4] (fun i w' => ∃ (k : Nat), k ≤ 5 ∧ i = .int .i64 k ∧ As (∀ (j : Nat) (h : j < ys.length), j < k → decide (okN ys[j]) = true) ∧ ∃ I', As (SH No I w [Cel g 3 (ys.map (Value.int .i64)), Cel gx 48 [.int .i64 x.i, .int .i64 x.b, .int .i64 x.r, .int .i64 x.t, .int .i64 x.u]] w' I')) (fun i _ => 5 - (intOf i).toNat)
  case atStart => exact ⟨0, by omega, rfl, ⟨fun j _ h => absurd h (Nat.not_lt_zero j)⟩, _, ⟨S1⟩⟩
  case round =>
    clear S1
    obtain ⟨k, hk, rfl, HK, I', ⟨S⟩⟩ := hrel
    by_cases hlt : k < 5
    · have hlt' : decide ((k : Int) < 5) = true := by simp; omega
      have hky : k < ys.length := by omega
      have hck := S.cell 0 k (u := .int .i64 ys[k]) rfl (by rw [List.getElem?_map, List.getElem?_eq_getElem hky]; rfl)
      have HM : As (decide (okN ys[k]) = false → mayR x = false) := ⟨fun h => by
        unfold mayR
        rw [HYS.out, allF hky h, Bool.false_and]⟩
      have HT : As (decide (okN ys[k]) = true → ∀ (j : Nat) (h : j < ys.length), j < k + 1 → decide (okN ys[j]) = true) := ⟨fun h0 j hj h => by
        rcases Nat.lt_or_eq_of_le (Nat.le_of_lt_succ h) with h1 | h1
        · exact HK.out j hj h1
        · subst h1; exact h0⟩
      generalize ys[k] = y at hck HM HT
      by_cases h1 : y < 0
      · have h1' : decide (y < 0) = true := by simpa using h1
        have HE := As.mk (HM.out (by rw [decide_eq_false_iff_not]; unfold okN; omega))
        go_wp2
        go_ret
        rw [HE.out]
        exact ⟨rfl, S.out⟩
      · have h1' : decide (y < 0) = false := by simpa using h1
        by_cases h2 : 4611686018427387903 < y
        · have h2' : decide (y > 4611686018427387903) = true := by simpa using h2
          have HE := As.mk (HM.out (by rw [decide_eq_false_iff_not]; unfold okN; omega))
          go_wp2
          go_ret
          rw [HE.out]
          exact ⟨rfl, S.out⟩
        · have h2' : decide (y > 4611686018427387903) = false := by simpa using h2
          have HE := As.mk (HT.out (by rw [decide_eq_true_iff]; unfold okN; omega))
          go_wp2_with (first | ((first | (with_reducible refine wpl_seal S ?_) | (with_reducible refine cw_seal S ?_) | (with_reducible refine bp_seal S ?_) | (with_reducible refine ca_seal S ?_)); clear S; (try clear hc); intro w1 S; (try simp only [List.set_cons_zero, List.set_cons_succ, List.nil_append] at S); have hc := S.cells; simp only [Cells, cellsC, Im, Row, El, Nat.zero_add, Nat.reduceAdd] at hc))
          go_roundw
          case rel => exact ⟨k + 1, by omega, by go_num, HE, _, ⟨by first | exact S | trivial⟩⟩
          case measure => simp [intOf]; omega
    · have hlt' : decide ((k : Int) < 5) = false := by simp; omega
      have HE : As (mayR x = decide (x.u ≤ 7)) := ⟨by
        unfold mayR
        rw [HYS.out, allT fun j hj => HK.out j hj (by omega), Bool.true_and]⟩
      have hc := S.cells; simp only [Cells, cellsC, Im, Row, El, Nat.zero_add, Nat.reduceAdd] at hc
      go_wp2_with (first | ((first | (with_reducible refine wpl_seal S ?_) | (with_reducible refine cw_seal S ?_) | (with_reducible refine bp_seal S ?_) | (with_reducible refine ca_seal S ?_)); clear S; (try clear hc); intro w1 S; (try simp only [List.set_cons_zero, List.set_cons_succ, List.nil_append] at S); have hc := S.cells; simp only [Cells, cellsC, Im, Row, El, Nat.zero_add, Nat.reduceAdd] at hc))
      go_ret
      rw [HE.out]
      exact ⟨rfl, S.out⟩
/-- records' bytes -/
def bytes1 (x : R5) : List UInt8 := x.list.flatMap fun v => putB v.toNat
def bytesR (l : List R5) : List UInt8 := l.flatMap bytes1
theorem flat_le {α : Type} {f : α → List UInt8} {b : Nat} : ∀ (l : List α), (∀ x ∈ l, (f x).length ≤ b) → (l.flatMap f).length ≤ l.length * b
  | [], _ => by simp
  | x :: r, h => by
    rw [List.flatMap_cons, List.length_append, List.length_cons, Nat.add_mul, Nat.one_mul]
    have h1 := h x List.mem_cons_self
    have h2 := flat_le r fun y hy => h y (List.mem_cons_of_mem _ hy)
    omega
theorem mayR_ok {x : R5} (h : mayR x = true) : ∀ v ∈ x.list, okN v := by
  unfold mayR at h
  rw [Bool.and_eq_true, List.all_eq_true] at h
  intro v hv
  simpa using h.1 v hv
theorem bytes1_le {x : R5} (h : ∀ v ∈ x.list, okN v) : (bytes1 x).length ≤ 45 := by
  have := flat_le (f := fun v : Int => putB v.toNat) (b := 9) x.list fun v hv => putB_le (by have := h v hv; unfold okN at this; omega)
  have e : x.list.length = 5 := rfl
  rw [e] at this
  exact this
theorem rbytes_c (l : List R5) (A : Option Addr) (c : Nat) (w : World) (I : Fp) (hI : ∀ b, I b → b < w.heap.size) (hl : Sl kR w I A l) (hn : l.length ≤ 1000) (hm : ∀ x ∈ l, mayR x = true) :
    Calls Try.prog 9 #[.slice A l.length c] w fun e w' => ∃ v, e = .returned (.tuple #[v, .int .i64 0]) ∧ Upd w No I w' (Row kB v (bytesR l)) := by
  have S := ((SH.start w I hI).know (h := Im kR A l) hl).nilrow (k := kB)
  have HM := As.mk hm
  clear hl hm
  have hc := S.cells; simp only [Cells, cellsC, Im, Row, El, Nat.zero_add, Nat.reduceAdd] at hc
  go_enter Try.func9, Try.ntmps9
  go_wp2_with (first | ((first | (with_reducible refine wpl_seal S ?_) | (with_reducible refine cw_seal S ?_) | (with_reducible refine bp_seal S ?_) | (with_reducible refine ca_seal S ?_)); clear S; (try clear hc); intro w1 S; (try simp only [List.set_cons_zero, List.set_cons_succ, List.nil_append] at S); have hc := S.cells; simp only [Cells, cellsC, Im, Row, El, Nat.zero_add, Nat.reduceAdd] at hc))
  have S1 := S
  clear S hc
  go_loopw [4, 5] (fun v i w' => ∃ (k : Nat), k ≤ l.length ∧ i = .int .i64 k ∧ ∃ I', As (SH No I w [Row kB v (bytesR (l.take k)), Im kR A l] w' I')) (fun _ i _ => l.length - (intOf i).toNat)
  case atStart => exact ⟨0, by omega, rfl, _, ⟨S1⟩⟩
  case round =>
    clear S1
    obtain ⟨k, hk, rfl, I', ⟨S⟩⟩ := hrel
    by_cases hlt : k < l.length
    · have hlt' : decide ((k : Int) < l.length) = true := by simp; omega
      obtain ⟨b, o, rfl, g0, g1, g2, g3, g4⟩ := (S.im 1 rfl).r5_at hlt
      have HY := As.mk (List.getElem?_eq_getElem hlt)
      have HMY := As.mk (HM.out _ (List.getElem_mem hlt))
      have HT : As (bytesR (l.take (k + 1)) = bytesR (l.take k) ++ bytes1 l[k]) := ⟨by rw [List.take_succ_eq_append_getElem hlt]; unfold bytesR; rw [List.flatMap_append]; simp⟩
      have htl : (bytesR (l.take k)).length ≤ 45000 := by
        have := flat_le (f := bytes1) (b := 45) (l.take k) fun x hx => bytes1_le (mayR_ok (HM.out x (List.mem_of_mem_take hx)))
        rw [List.length_take] at this
        unfold bytesR
        omega
      generalize l[k] = y at g0 g1 g2 g3 g4 HT HY HMY
      generalize bytesR (l.take k) = ys at S HT htl
      obtain ⟨zs, hzs⟩ : ∃ zs, y.list = zs := ⟨_, rfl⟩
      have hzl : zs.length = 5 := by rw [← hzs]; rfl
      have HZ := As.mk hzs
      have HOK : As (∀ v ∈ zs, okN v) := ⟨by rw [← hzs]; exact mayR_ok HMY.out⟩
      clear hzs
      have hc := S.cells; simp only [Cells, cellsC, Im, Row, El, Nat.zero_add, Nat.reduceAdd] at hc
      go_wp2_with (first | ((first | (with_reducible refine wpl_seal S ?_) | (with_reducible refine cw_seal S ?_) | (with_reducible refine bp_seal S ?_) | (with_reducible refine ca_seal S ?_)); clear S; (try clear hc); intro w1 S; (try simp only [List.set_cons_zero, List.set_cons_succ, List.nil_append] at S); have hc := S.cells; simp only [Cells, cellsC, Im, Row, El, Nat.zero_add, Nat.reduceAdd] at hc) | (go_at_call 25; refine (may_c y _ _ S.bd).mono ?_; rw [HMY.out]; rintro e w1 ⟨rfl, hx⟩; replace S := S.ext hx; clear hx; (try clear hc); have hc := S.cells; simp only [Cells, cellsC, Im, Row, El, Nat.zero_add, Nat.reduceAdd] at hc; obtain ⟨g0, g1, g2, g3, g4⟩ := (S.im 1 rfl).r5_get HY.out) | (go_at_call 26; refine (numbers_c y _ _ S.bd).mono ?_; rw [HZ.out]; rintro e w1 ⟨g, rfl, hu⟩; obtain ⟨I1, S1, hI1⟩ := S.new hu; clear S hu hI1; (try clear hc); have S := S1; clear S1; have hc := S.cells; simp only [Cells, cellsC, Im, Row, El, Nat.zero_add, Nat.reduceAdd] at hc))
      have S1 := S
      clear S hc
      go_loopw [4, 8] (fun v j w' => ∃ (m : Nat), m ≤ 5 ∧ j = .int .i64 m ∧ ∃ I', As (SH No I w [Row kB v (ys ++ (zs.take m).flatMap fun v => putB v.toNat), Cel g 3 (zs.map (Value.int .i64)), Im kR (some ⟨b, o, none⟩) l] w' I')) (fun _ j _ => 5 - (intOf j).toNat)
      case atStart => exact ⟨0, by omega, rfl, _, ⟨by
        rw [List.take_zero, List.flatMap_nil, List.append_nil]
        exact S1.sel [1, 0, 2] (by decide) rfl (by simp)⟩⟩
      case round =>
        clear S1
        obtain ⟨m, hm, rfl, I', ⟨S⟩⟩ := hrel
        by_cases hm5 : m < 5
        · have hm5' : decide ((m : Int) < 5) = true := by simp; omega
          have hmz : m < zs.length := by omega
          have hck := S.cell 1 m (u := .int .i64 zs[m]) rfl (by rw [List.getElem?_map, List.getElem?_eq_getElem hmz]; rfl)
          obtain ⟨q, hq⟩ : ∃ q : Nat, zs[m] = q := ⟨zs[m].toNat, by have := (HOK.out _ (List.getElem_mem hmz)).1; omega⟩
          have hq2 : q ≤ 4611686018427387903 := by have := (HOK.out _ (List.getElem_mem hmz)).2; omega
          have HT2 : As ((ys ++ (zs.take (m + 1)).flatMap fun v => putB v.toNat) = (ys ++ (zs.take m).flatMap fun v => putB v.toNat) ++ putB q) := ⟨by
            rw [List.take_succ_eq_append_getElem hmz, List.flatMap_append, List.append_assoc]
            simp [hq]⟩
          rw [hq] at hck
          clear hq
          have hpl := putB_le hq2
          have hl2 : (ys ++ (zs.take m).flatMap fun v => putB v.toNat).length ≤ 45045 := by
            have := flat_le (f := fun v : Int => putB v.toNat) (b := 9) (zs.take m) fun v hv => putB_le (by have := HOK.out v (List.mem_of_mem_take hv); unfold okN at this; omega)
            rw [List.length_take] at this
            rw [List.length_append]
            omega
          generalize (ys ++ (zs.take m).flatMap fun v => putB v.toNat) = us at S HT2 hl2
          go_wp2_with (first | ((first | (with_reducible refine wpl_seal S ?_) | (with_reducible refine cw_seal S ?_) | (with_reducible refine bp_seal S ?_) | (with_reducible refine ca_seal S ?_)); clear S; (try clear hc); intro w1 S; (try simp only [List.set_cons_zero, List.set_cons_succ, List.nil_append] at S); have hc := S.cells; simp only [Cells, cellsC, Im, Row, El, Nat.zero_add, Nat.reduceAdd] at hc) | (go_at_call 27; refine (rput_c q _ _ S.bd hq2).mono ?_; rintro e w1 ⟨v3, rfl, hu⟩; obtain ⟨I1, S1, hI1⟩ := S.new hu; clear S hu hI1; (try clear hc); have S := S1; clear S1; have hc := S.cells; simp only [Cells, cellsC, Im, Row, El, Nat.zero_add, Nat.reduceAdd] at hc; obtain ⟨A3, c3, I1, e1, hc3, S1, hI1⟩ := S.frow 0 rfl; subst e1; clear S hI1; have S := S1; clear S1; simp only [List.set_cons_zero, List.set_cons_succ, List.nil_append] at S; generalize putB q = ps at S hpl HT2 hc3 ⊢; have hc := S.cells; simp only [Cells, cellsC, Im, Row, El, Nat.zero_add, Nat.reduceAdd] at hc) | (at_builtin; refine wpl_app S 1 rfl rfl _ _ rfl ty_u8s rfl A3 c3 _ rfl _ (fun _ _ h => h) ((S.im 0 rfl)) (by (try simp only [maxLen, List.length_nil, List.length_append, List.length_cons]); omega) (by (try simp only [maxLen, List.length_nil, List.length_append, List.length_cons]); omega) ?_; clear S; (try clear hc); intro va w1 S; simp only [List.set_cons_zero, List.set_cons_succ, List.nil_append] at S; have hc := S.cells; simp only [Cells, cellsC, Im, Row, El, Nat.zero_add, Nat.reduceAdd] at hc))
          go_roundw
          case rel => exact ⟨m + 1, by omega, by go_num, _, ⟨by rw [HT2.out]; exact (S.sel [1, 2, 3] (by decide) rfl (by simp) : SH _ _ _ [_, _, _] _ _)⟩⟩
          case measure => simp [intOf]; omega
        · have hm5' : decide ((m : Int) < 5) = false := by simp; omega
          obtain rfl : m = 5 := by omega
          have HZ2 : As ((zs.take 5).flatMap (fun v => putB v.toNat) = bytes1 y) := ⟨by rw [List.take_of_length_le (by omega), ← HZ.out]; rfl⟩
          rw [HZ2.out] at S
          have hc := S.cells; simp only [Cells, cellsC, Im, Row, El, Nat.zero_add, Nat.reduceAdd] at hc
          go_wp2_with (first | ((first | (with_reducible refine wpl_seal S ?_) | (with_reducible refine cw_seal S ?_) | (with_reducible refine bp_seal S ?_) | (with_reducible refine ca_seal S ?_)); clear S; (try clear hc); intro w1 S; (try simp only [List.set_cons_zero, List.set_cons_succ, List.nil_append] at S); have hc := S.cells; simp only [Cells, cellsC, Im, Row, El, Nat.zero_add, Nat.reduceAdd] at hc))
          go_roundw
          case rel => exact ⟨k + 1, by omega, by go_num, _, ⟨by rw [HT.out]; exact (S.sel [0, 2] (by decide) rfl (by simp) : SH _ _ _ [_, _] _ _)⟩⟩
          case measure => simp [intOf]; omega
    · have hlt' : decide ((k : Int) < l.length) = false := by simp; omega
      obtain rfl : k = l.length := by omega
      rw [List.take_length] at S
      go_wp2_with (first | ((first | (with_reducible refine wpl_seal S ?_) | (with_reducible refine cw_seal S ?_) | (with_reducible refine bp_seal S ?_) | (with_reducible refine ca_seal S ?_)); clear S; (try clear hc); intro w1 S; (try simp only [List.set_cons_zero, List.set_cons_succ, List.nil_append] at S); have hc := S.cells; simp only [Cells, cellsC, Im, Row, El, Nat.zero_add, Nat.reduceAdd] at hc))
      go_ret2
      exact ⟨_, rfl, S.ret 0 rfl⟩
end Go.Proofs.Yteaekpnmiicbhaa
