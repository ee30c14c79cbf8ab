/- Records that may be; records' bytes: the document's. -/
import Derived.Test.YteaekpnmiicbhaaDoorPPut
import Derived.Test.YteaekpnmiicbhaaDoorPGood
namespace Go.Proofs.YteaekpnmiicbhaaDoor
open Go.RowKit X
set_option maxHeartbeats 1000000
set_option maxRecDepth 8000
set_option linter.unusedSimpArgs false
set_option linter.unusedVariables false
def okN (v : Int) : Prop := 0 ≤ v ∧ v ≤ 4611686018427387903
instance (v : Int) : Decidable (okN v) := inferInstanceAs (Decidable (_ ∧ _))
def mayR (x : R5) : Bool := x.list.all (fun v => decide (okN v)) && decide (x.u ≤ 7)
theorem allF {α : Type} {p : α → Bool} {l : List α} {k : Nat} (h : k < l.length) (hp : p l[k] = false) : l.all p = false := by
  rw [List.all_eq_false]
  exact ⟨_, List.getElem_mem h, by simpa using hp⟩
theorem allT {α : Type} {p : α → Bool} {l : List α} (h : ∀ (k : Nat) (hk : k < l.length), p l[k] = true) : l.all p = true := by
  rw [List.all_eq_true]
  intro x hx
  obtain ⟨k, hk, rfl⟩ := List.mem_iff_getElem.1 hx
  exact h k hk
theorem may_c (x : R5) (w : World) (I : Fp) (hI : ∀ b, I b → b < w.heap.size) : Calls Tryd.prog 12 #[x.v] w fun e w' => e = .returned (.bool (mayR x)) ∧ Ext w w' := by
  have S := SH.start w I hI
  obtain ⟨ys, hys⟩ : ∃ ys, x.list = ys := ⟨_, rfl⟩
  have hyl : ys.length = 5 := by rw [← hys]; rfl
  have HYS := As.mk hys
  clear hys
  dsimp only [R5.v]
  have hc := S.cells; simp only [Cells, cellsC, Im, Row, El, Nat.zero_add, Nat.reduceAdd] at hc
  go_enter Tryd.func12, Tryd.ntmps12
  go_wp2_with (first | ((first | (with_reducible refine wpl_seal S ?_) | (with_reducible refine cw_seal S ?_) | (with_reducible refine bp_seal S ?_) | (with_reducible refine ca_seal S ?_)); clear S; (try clear hc); intro w1 S; (try simp only [List.set_cons_zero, List.set_cons_succ, List.nil_append] at S); have hc := S.cells; simp only [Cells, cellsC, Im, Row, El, Nat.zero_add, Nat.reduceAdd] at hc) | (go_at_call 27; refine (numbers_c x _ _ S.bd).mono ?_; rw [HYS.out]; rintro e w1 ⟨g, rfl, hu⟩; obtain ⟨I1, S1, hI1⟩ := S.new hu; clear S hu hI1; (try clear hc); have S := S1; clear S1; have hc := S.cells; simp only [Cells, cellsC, Im, Row, El, Nat.zero_add, Nat.reduceAdd] at hc))
  obtain ⟨gx, egx⟩ := S.name 1 rfl; rw [← egx] at S ⊢; clear egx
  have S1 := S
  clear S hc
  go_loopw [4] (fun i w' => ∃ (k : Nat), k ≤ 5 ∧ i = .int .i64 k ∧ As (∀ (j : Nat) (h : j < ys.length), j < k → decide (okN ys[j]) = true) ∧ ∃ I', As (SH No I w [Cel g 3 (ys.map (Value.int .i64)), Cel gx 41 [.int .i64 x.i, .int .i64 x.b, .int .i64 x.r, .int .i64 x.t, .int .i64 x.u]] w' I')) (fun i _ => 5 - (intOf i).toNat)
  case atStart => exact ⟨0, by omega, rfl, ⟨fun j _ h => absurd h (Nat.not_lt_zero j)⟩, _, ⟨S1⟩⟩
  case round =>
    clear S1
    obtain ⟨k, hk, rfl, HK, I', ⟨S⟩⟩ := hrel
    by_cases hlt : k < 5
    · have hlt' : decide ((k : Int) < 5) = true := by simp; omega
      have hky : k < ys.length := by omega
      have hck := S.cell 0 k (u := .int .i64 ys[k]) rfl (by rw [List.getElem?_map, List.getElem?_eq_getElem hky]; rfl)
      have HM : As (decide (okN ys[k]) = false → mayR x = false) := ⟨fun h => by
        unfold mayR
        rw [HYS.out, allF hky h, Bool.false_and]⟩
      have HT : As (decide (okN ys[k]) = true → ∀ (j : Nat) (h : j < ys.length), j < k + 1 → decide (okN ys[j]) = true) := ⟨fun h0 j hj h => by
        rcases Nat.lt_or_eq_of_le (Nat.le_of_lt_succ h) with h1 | h1
        · exact HK.out j hj h1
        · subst h1; exact h0⟩
      generalize ys[k] = y at hck HM HT
      by_cases h1 : y < 0
      · have h1' : decide (y < 0) = true := by simpa using h1
        have HE := As.mk (HM.out (by rw [decide_eq_false_iff_not]; unfold okN; omega))
        go_wp2
        go_ret
        rw [HE.out]
        exact ⟨rfl, S.out⟩
      · have h1' : decide (y < 0) = false := by simpa using h1
        by_cases h2 : 4611686018427387903 < y
        · have h2' : decide (y > 4611686018427387903) = true := by simpa using h2
          have HE := As.mk (HM.out (by rw [decide_eq_false_iff_not]; unfold okN; omega))
          go_wp2
          go_ret
          rw [HE.out]
          exact ⟨rfl, S.out⟩
        · have h2' : decide (y > 4611686018427387903) = false := by simpa using h2
          have HE := As.mk (HT.out (by rw [decide_eq_true_iff]; unfold okN; omega))
          go_wp2_with (first | ((first | (with_reducible refine wpl_seal S ?_) | (with_reducible refine cw_seal S ?_) | (with_reducible refine bp_seal S ?_) | (with_reducible refine ca_seal S ?_)); clear S; (try clear hc); intro w1 S; (try simp only [List.set_cons_zero, List.set_cons_succ, List.nil_append] at S); have hc := S.cells; simp only [Cells, cellsC, Im, Row, El, Nat.zero_add, Nat.reduceAdd] at hc))
          go_roundw
          case rel => exact ⟨k + 1, by omega, by go_num, HE, _, ⟨by first | exact S | trivial⟩⟩
          case measure => simp [intOf]; omega
    · have hlt' : decide ((k : Int) < 5) = false := by simp; omega
      have HE : As (mayR x = decide (x.u ≤ 7)) := ⟨by
        unfold mayR
        rw [HYS.out, allT fun j hj => HK.out j hj (by omega), Bool.true_and]⟩
      have hc := S.cells; simp only [Cells, cellsC, Im, Row, El, Nat.zero_add, Nat.reduceAdd] at hc
      go_wp2_with (first | ((first | (with_reducible refine wpl_seal S ?_) | (with_reducible refine cw_seal S ?_) | (with_reducible refine bp_seal S ?_) | (with_reducible refine ca_seal S ?_)); clear S; (try clear hc); intro w1 S; (try simp only [List.set_cons_zero, List.set_cons_succ, List.nil_append] at S); have hc := S.cells; simp only [Cells, cellsC, Im, Row, El, Nat.zero_add, Nat.reduceAdd] at hc))
      go_ret
      rw [HE.out]
      exact ⟨rfl, S.out⟩
/-- records' bytes -/
def bytes1 (x : R5) : List UInt8 := x.list.flatMap fun v => putB v.toNat
def bytesR (l : List R5) : List UInt8 := l.flatMap bytes1
theorem flat_le {α : Type} {f : α → List UInt8} {b : Nat} : ∀ (l : List α), (∀ x ∈ l, (f x).length ≤ b) → (l.flatMap f).length ≤ l.length * b
  | [], _ => by simp
  | x :: r, h => by
    rw [List.flatMap_cons, List.length_append, List.length_cons, Nat.add_mul, Nat.one_mul]
    have h1 := h x List.mem_cons_self
    have h2 := flat_le r fun y hy => h y (List.mem_cons_of_mem _ hy)
    omega
theorem mayR_ok {x : R5} (h : mayR x = true) : ∀ v ∈ x.list, okN v := by
  unfold mayR at h
  rw [Bool.and_eq_true, List.all_eq_true] at h
  intro v hv
  simpa using h.1 v hv
theorem bytes1_le {x : R5} (h : ∀ v ∈ x.list, okN v) : (bytes1 x).length ≤ 45 := by
  have := flat_le (f := fun v : Int => putB v.toNat) (b := 9) x.list fun v hv => putB_le (by have := h v hv; unfold okN at this; omega)
  have e : x.list.length = 5 := rfl
  rw [e] at this
  exact this
end Go.Proofs.YteaekpnmiicbhaaDoor
