/- The document's example. -/
import Derived.Test.YtnmlonicfncpfaaDPl
namespace Go.Proofs.Ytnmlonicfncpfaa
open Go.RowKit X
set_option maxHeartbeats 4000000
set_option maxRecDepth 8000
set_option linter.unusedSimpArgs false
set_option linter.unusedVariables false
theorem dlives_c (w : World) (I : Fp) (hI : ∀ b, I b → b < w.heap.size) : Calls Try.prog 15 #[] w fun e w' => e = .returned (.bool true) ∧ Ext w w' := by
  have S := SH.start w I hI
  have hc := S.cells; simp only [Cells, cellsC, Im, Row, El, DicO, Nat.zero_add, Nat.reduceAdd] at hc
  have HP : As (exP = ⟨1, 9, ⟨2, 2, [281474976710657, 281474976710658, 281474976710658, 281474976710657]⟩⟩) := ⟨rfl⟩
  have HT : As (exT = [0, 1, 2, 3, 4, 5, 6, 7]) := ⟨rfl⟩
  have hm1 : True := trivial
  go_enter Try.func15, Try.ntmps15
  have hu : ∀ q ∈ exP.x.l, U64 q := by
    have : ∀ q ∈ exP.x.l, 0 ≤ q ∧ q < 18446744073709551616 := by decide
    exact this
  have HU := As.mk hu
  have HTL : As (∀ t ∈ [(⟨exP, exT, [0, 1, 0, 1, 1, 0, 1, 0]⟩ : Tm)], t.turns.length ≤ 1000 ∧ t.whr.length = t.turns.length) := ⟨by decide⟩
  clear hu
  go_wp2_with (first | ((first | (with_reducible refine wpl_seal S ?_) | (with_reducible refine cw_seal S ?_) | (with_reducible refine bp_seal S ?_) | (with_reducible refine ca_seal S ?_)); clear S; (try clear hc); intro w1 S; (try simp only [List.set_cons_zero, List.set_cons_succ, List.nil_append] at S); have hc := S.cells; simp only [Cells, cellsC, Im, Row, El, DicO, Nat.zero_add, Nat.reduceAdd] at hc) | (go_at_call 7; refine (newD_c _ _ S.bd).mono ?_; rintro e w1 ⟨g, rfl, hu⟩; obtain ⟨I1, S1, hI1⟩ := S.new hu; clear S hu hI1; (try clear hc); have S := S1; clear S1; have hc := S.cells; simp only [Cells, cellsC, Im, Row, El, DicO, Nat.zero_add, Nat.reduceAdd] at hc; have hc := S.cells; simp only [Cells, cellsC, Im, Row, El, DicO, Nat.zero_add, Nat.reduceAdd] at hc) | (go_at_call 8; obtain ⟨J1, S1, -⟩ := S.lit 0 rfl (k := kI) (xs := exT) (flat_int exT); clear S hc; obtain ⟨J2, S2, -⟩ := S1.lit 2 rfl (k := kP) (xs := exP.x.l) (flat_int exP.x.l); clear S1; refine (add_s _ ⟨[], [], 0⟩ _ exP exT _ _ 4 8 S2 3 rfl (S2.im 2 rfl) (by decide) HU.out (S2.im 0 rfl) (by decide) (by decide) (by decide) (by decide) (by decide) exA).mono ?_; rintro e w1 ⟨rfl, J3, S3⟩; clear S2; have S := S3; clear S3; simp only [List.set_cons_zero, List.set_cons_succ, List.nil_append] at S; have hc := S.cells; simp only [Cells, cellsC, Im, Row, El, DicO, Nat.zero_add, Nat.reduceAdd] at hc) | (go_at_call 10; refine (variants_c _ _ _ _ S 3 rfl).mono ?_; rintro e w1 ⟨rfl, rfl⟩) | (go_at_call 13; clear hm1; refine (owners_s _ _ _ _ 0 S 3 rfl (by decide) HTL.out exO0).mono ?_; rintro e w1 ⟨r, rfl, hu⟩; obtain ⟨I1, S1, hI1⟩ := S.new hu; clear S hu hI1; (try clear hc); have S := S1; clear S1; have hc := S.cells; simp only [Cells, cellsC, Im, Row, El, DicO, Nat.zero_add, Nat.reduceAdd] at hc; obtain ⟨Ar, cr, er, -, -⟩ := S.row 0 rfl; subst er) | (go_at_call 13; refine (owners_s _ _ _ _ 1 S 4 rfl (by decide) HTL.out exO1).mono ?_; rintro e w1 ⟨r, rfl, hu⟩; obtain ⟨I1, S1, hI1⟩ := S.new hu; clear S hu hI1; (try clear hc); have S := S1; clear S1; have hc := S.cells; simp only [Cells, cellsC, Im, Row, El, DicO, Nat.zero_add, Nat.reduceAdd] at hc; obtain ⟨Ar, cr, er, -, -⟩ := S.row 0 rfl; subst er))
  go_ret
  exact ⟨rfl, S.out⟩
end Go.Proofs.Ytnmlonicfncpfaa
