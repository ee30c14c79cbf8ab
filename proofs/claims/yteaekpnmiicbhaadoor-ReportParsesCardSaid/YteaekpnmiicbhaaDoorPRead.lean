/- Records read of bytes: the program's, the document's. -/
import Derived.Test.YteaekpnmiicbhaaDoorPMay
import Derived.Test.YteaekpnmiicbhaaDoorCut
namespace Go.Proofs.YteaekpnmiicbhaaDoor.X
open Go.RowKit
theorem Sl.cutL {P : Program} {t : TypeId} {bytes : Nat} {α : Type} {k : Kd α} {w : World} {D : Nat → Prop} {A : Option Addr} {xs : List α} (T : TyOk P t k bytes) (h : Sl k w D A xs) {l c : Nat} (hl : l ≤ xs.length) (hc : xs.length ≤ c) :
    ∃ A', (∀ W, (Instr.sliceAt t (.slice A xs.length c) (some (.int .i64 (l : Int))) none none).run P W = .ok (.slice A' (xs.drop l).length (c - l)) W) ∧ Sl k w D A' (xs.drop l) := by
  obtain ⟨i, z, h1, h2, h3, h4, h5⟩ := T.inf
  have he : P.elem t = k.ety := by simp [Program.elem, T.und]
  have hu : P.underlying t = some (.slice (P.elem t)) := by rw [he]; exact T.und
  have hS := h.cut (l := l) (hi := xs.length) (c := c) (Nat.le_refl _) hc
  rw [List.take_length] at hS
  refine ⟨_, fun W => ?_, hS⟩
  rw [run_sliceAt_slice W t _ _ _ _ hu, run_slice_l W t A xs.length c hu .i64 l (by omega) (by omega), List.length_drop]
  simp [sizeOf, typeInfo, he, h1, h3, sliced, Result.andThen]
theorem Sl.cutR {P : Program} {t : TypeId} {bytes : Nat} {α : Type} {k : Kd α} {w : World} {D : Nat → Prop} {A : Option Addr} {xs : List α} (T : TyOk P t k bytes) (h : Sl k w D A xs) {l c : Nat} (hl : l ≤ xs.length) (hc : xs.length ≤ c) :
    ∃ A', (∀ W, (Instr.sliceAt t (.slice A xs.length c) none (some (.int .i64 (l : Int))) none).run P W = .ok (.slice A' l c) W) ∧ Sl k w D A' (xs.take l) := by
  obtain ⟨i, z, h1, h2, h3, h4, h5⟩ := T.inf
  have he : P.elem t = k.ety := by simp [Program.elem, T.und]
  have hu : P.underlying t = some (.slice (P.elem t)) := by rw [he]; exact T.und
  have hS := h.cut (l := 0) (hi := l) (c := c) hl (by omega)
  rw [List.drop_zero] at hS
  refine ⟨_, fun W => ?_, hS⟩
  rw [run_sliceAt_slice W t _ _ _ _ hu, run_slice_h W t A xs.length c hu .i64 l (by omega) (by omega)]
  simp [sizeOf, typeInfo, he, h1, h3, sliced, Result.andThen]
end Go.Proofs.YteaekpnmiicbhaaDoor.X
namespace Go.Proofs.YteaekpnmiicbhaaDoor
open Go.RowKit X
set_option maxHeartbeats 1000000
set_option maxRecDepth 8000
set_option linter.unusedSimpArgs false
set_option linter.unusedVariables false
def lenOf : Value → Nat | .slice _ n _ => n | _ => 0
/-- j numbers that bytes begin with -/
def nums : Nat → List UInt8 → List Nat × Nat × List UInt8
  | 0, bs => ([], 0, bs)
  | j + 1, bs => if (getB bs).2.2 = 0 then ((getB bs).1 :: (nums j (bs.drop (getB bs).2.1)).1, (nums j (bs.drop (getB bs).2.1)).2) else ([], (getB bs).2.2, bs)
theorem nums_ok {j : Nat} {bs : List UInt8} (h : (getB bs).2.2 = 0) : nums (j + 1) bs = ((getB bs).1 :: (nums j (bs.drop (getB bs).2.1)).1, (nums j (bs.drop (getB bs).2.1)).2) := by rw [nums, if_pos h]
theorem nums_bad {j : Nat} {bs : List UInt8} (h : (getB bs).2.2 ≠ 0) : nums (j + 1) bs = ([], (getB bs).2.2, bs) := by rw [nums, if_neg h]
def mk5 (l : List Nat) : R5 := ⟨l.getD 0 0, l.getD 1 0, l.getD 2 0, l.getD 3 0, l.getD 4 0⟩
def readGo : Nat → List R5 → List UInt8 → List R5 × Nat × Nat
  | 0, out, _ => (out, 0, 0)
  | f + 1, out, bs => if bs.length = 0 then (out, 0, 0) else if (nums 5 bs).2.1 ≠ 0 then ([], out.length, (nums 5 bs).2.1) else if 8 ≤ (nums 5 bs).1.getD 4 0 then ([], out.length, 4)
    else readGo f (out ++ [mk5 (nums 5 bs).1]) (nums 5 bs).2.2
def readB (bs : List UInt8) : List R5 × Nat × Nat := readGo bs.length [] bs
theorem readGo_end {f : Nat} {out : List R5} {bs : List UInt8} (h : bs.length = 0) : readGo f out bs = (out, 0, 0) := by
  cases f with
  | zero => rfl
  | succ f => rw [readGo, if_pos h]
/-- numbers, the rest 0 -/
def pad5 (l : List Nat) : List Nat := l ++ List.replicate (5 - l.length) 0
theorem pad5_set {l : List Nat} {n : Nat} (h : l.length < 5) : (pad5 l).set l.length n = pad5 (l ++ [n]) := by
  unfold pad5
  rw [List.set_append_right _ _ (Nat.le_refl _), Nat.sub_self, show 5 - l.length = (5 - (l ++ [n]).length) + 1 by rw [List.length_append]; simp; omega, List.replicate_succ, List.set_cons_zero, List.append_assoc]
  rfl
def vI (n : Nat) : Value := .int .i64 n
theorem record_c (a b c d e : Nat) (w : World) : Calls Tryd.prog 48 #[.agg #[.int .i64 a, .int .i64 b, .int .i64 c, .int .i64 d, .int .i64 e]] w fun r w' => r = .returned (mk5 [a, b, c, d, e]).v ∧ Ext w w' := by
  have S := SH.start w No (fun _ h => h.elim)
  dsimp only [R5.v, mk5, List.getD_cons_zero, List.getD_cons_succ]
  have hc := S.cells; simp only [Cells, cellsC, Im, Row, El, Nat.zero_add, Nat.reduceAdd] at hc
  go_enter Tryd.func48, Tryd.ntmps48
  go_wp2_with (first | ((first | (with_reducible refine wpl_seal S ?_) | (with_reducible refine cw_seal S ?_) | (with_reducible refine bp_seal S ?_) | (with_reducible refine ca_seal S ?_)); clear S; (try clear hc); intro w1 S; (try simp only [List.set_cons_zero, List.set_cons_succ, List.nil_append] at S); have hc := S.cells; simp only [Cells, cellsC, Im, Row, El, Nat.zero_add, Nat.reduceAdd] at hc))
  refine bodyPost_ret (results_cell_row rfl _ _ _ 37 _ (0, 0) _ rfl (S.cel 0 rfl) Tryd.underlying37 rfl (by kernel_rfl)) rfl ?_
  exact ⟨rfl, S.out⟩
theorem nums_len : ∀ (j : Nat) (bs : List UInt8), (nums j bs).2.1 = 0 → (nums j bs).1.length = j ∧ (nums j bs).2.2.length + j ≤ bs.length
  | 0, bs, _ => ⟨rfl, Nat.le_refl _⟩
  | j + 1, bs, h => by
    by_cases he : (getB bs).2.2 = 0
    · rw [nums_ok he] at h ⊢
      have h1 := nums_len j _ h
      have h2 := getB_ok (bs := bs) (a := (getB bs).1) (b := (getB bs).2.1) (by rw [← he])
      rw [List.length_drop] at h1
      simp only [List.length_cons]
      omega
    · rw [nums_bad he] at h; exact absurd h he
end Go.Proofs.YteaekpnmiicbhaaDoor
