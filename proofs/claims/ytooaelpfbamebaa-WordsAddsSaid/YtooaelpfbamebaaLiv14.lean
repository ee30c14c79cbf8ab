/- The document's example, for a set of rows. -/
import Derived.Test.YtooaelpfbamebaaBeg14
namespace Go.Proofs.Ytooaelpfbamebaa
open Go.RowKit X
set_option maxHeartbeats 4000000
set_option maxRecDepth 8000
set_option linter.unusedSimpArgs false
set_option linter.unusedVariables false
theorem ii_at {w : World} {D : Fp} {A : Option Addr} {xs : List (List Int)} (h : Sl kII w D A xs) (i : Nat) (x : List Int) (hi : xs[i]? = some x) : ∃ b o A' c', A = some ⟨b, o, none⟩ ∧ w.cell? ⟨b, o + i, none⟩ = some (.slice A' x.length c') ∧ x.length ≤ c' ∧ Sl kI w D A' x := by
  have hl : i < xs.length := by
    rcases Nat.lt_or_ge i xs.length with h | h
    · exact h
    · rw [List.getElem?_eq_none h] at hi; cases hi
  rw [List.getElem?_eq_getElem hl] at hi
  obtain ⟨b, o, A', c', e, h1, h2, h3⟩ := Sl.sl_at (k := kI) (ety := 31) h hl
  rw [Option.some.inj hi] at h1 h2 h3
  exact ⟨b, o, A', c', e, h1, h2, h3⟩
theorem lives14_c (w : World) (I : Fp) (hI : ∀ b, I b → b < w.heap.size) : Calls Try.prog 14 #[] w fun e w' => e = .returned (.bool true) ∧ Ext w w' := by
  have S := SH.start w I hI
  have HB : As (setT (ownA false [[1, 2], [2]]) = ([[], [1], [1, 2], [2]], [[1, 2], [2]])) := ⟨by decide⟩
  have HSC : As (scanR [[], [1], [1, 2], [2]] [[1, 2], [2]] 0 [1, 2, 2] = [[], [0, 1], [1]]) := ⟨by decide⟩
  have HNW : As (NeW [[1, 2], [2]]) := ⟨neW_of (by simp)⟩
  have HB5 : As (∀ x ∈ ([[], [1], [1, 2], [2]] : List (List Int)), x.length ≤ 5) := ⟨by simp⟩
  have hc := S.cells; simp only [Cells, cellsC, Im, Row, El, RTH, TreeH, TR, AU, AL, OrNil, AuP, SetO, Many, ScO, Nat.zero_add, Nat.reduceAdd] at hc
  go_enter Try.func14, Try.ntmps14
  go_wp2_with (first | ((first | (with_reducible refine wpl_seal S ?_) | (with_reducible refine cw_seal S ?_) | (with_reducible refine bp_seal S ?_) | (with_reducible refine ca_seal S ?_)); clear S; (try clear hc); intro w1 S; (try simp only [List.set_cons_zero, List.set_cons_succ, List.nil_append] at S); have hc := S.cells; simp only [Cells, cellsC, Im, Row, El, RTH, TreeH, TR, AU, AL, OrNil, AuP, SetO, Many, ScO, Nat.zero_add, Nat.reduceAdd] at hc) | (go_at_call 9; obtain ⟨J1, S1, -⟩ := S.lit 2 rfl (k := kP) (xs := [1, 2]) (Flat.int.2 rfl); obtain ⟨J2, S2, -⟩ := S1.lit 1 rfl (k := kP) (xs := [2]) (Flat.int.2 rfl); clear S; obtain ⟨J3, S, -⟩ := S2.lit 0 rfl (k := kW) (xs := [[1, 2], [2]]) (Flat.cons (cs := [_]) ⟨_, _, rfl, Nat.le_refl _, S2.im 2 rfl⟩ (Flat.single (cs := [_]) ⟨_, _, rfl, Nat.le_refl _, S2.im 1 rfl⟩)); clear S1 S2; simp only [List.set_cons_zero, List.set_cons_succ] at S; refine (begin14_c false [[1, 2], [2]] _ 2 _ _ S.bd (S.im 0 rfl)).mono ?_; rintro e w1 ⟨gs, L, W, a2, d2, J, rfl, S2, -, hbg, -, -, -, -⟩; rw [HB.out] at hbg; obtain ⟨rfl, rfl⟩ := Prod.mk.inj hbg; obtain ⟨J4, S3, -, -⟩ := S.comp S2; clear S hc S2 hbg; have S := S3; clear S3; simp only [List.cons_append, List.nil_append, List.set_cons_zero, List.set_cons_succ] at S; have hc := S.cells; simp only [Cells, cellsC, Im, Row, El, RTH, TreeH, TR, AU, AL, OrNil, AuP, SetO, Many, ScO, Nat.zero_add, Nat.reduceAdd] at hc) | (go_at_call 11; (obtain ⟨J5, S1, -⟩ := S.lit 0 rfl (k := kP) (xs := [1, 2, 2]) (Flat.int.2 rfl); clear S hc; have S := S1; clear S1; simp only [List.set_cons_zero, List.set_cons_succ, List.nil_append] at S; refine (wscan_r (c := 3) S 1 rfl (by simp) (by simp) (S.setG 1 rfl) HNW.out 5 HB5.out (by omega) (S.im 0 rfl) (by simp)).mono ?_; rw [HSC.out]; rintro e w1 ⟨v9, J9, rfl, S9⟩; clear S; have S := S9; clear S9; obtain ⟨A9, c9, I1, e1, hc9, S1, hI1⟩ := S.frow 0 rfl; subst e1; clear S hI1; have S := S1; clear S1; simp only [List.set_cons_zero, List.set_cons_succ, List.nil_append] at S; obtain ⟨b9, o9, A10, c10, rfl, hc0, -, -⟩ := ii_at (S.im 0 rfl) 0 [] rfl; obtain ⟨b9', o9', A11, c11, e11, hc1, -, hs1⟩ := ii_at (S.im 0 rfl) 1 [0, 1] rfl; cases e11; replace S := S.know (h := Im kI A11 [0, 1]) hs1; clear hs1; rw [Nat.add_zero] at hc0; have hc := S.cells; simp only [Cells, cellsC, Im, Row, El, RTH, TreeH, TR, AU, AL, OrNil, AuP, SetO, Many, ScO, Nat.zero_add, Nat.reduceAdd] at hc)) | (go_at_call 12; obtain ⟨J7, S1, -⟩ := S.lit 0 rfl (k := kI) (xs := [0, 1]) (Flat.int.2 rfl); clear S hc; have S := S1; clear S1; simp only [List.set_cons_zero, List.set_cons_succ, List.nil_append] at S; refine (sameI_c [0, 1] [0, 1] A11 _ c11 2 _ _ _ (S.im 1 rfl) (S.im 0 rfl) (by simp)).mono ?_; rintro e w1 ⟨rfl, hx⟩; have hx := hx.ext; clear hc0 hc1; replace S := S.ext hx; clear hx; (try clear hc); have hc := S.cells; simp only [Cells, cellsC, Im, Row, El, RTH, TreeH, TR, AU, AL, OrNil, AuP, SetO, Many, ScO, Nat.zero_add, Nat.reduceAdd] at hc; obtain ⟨b9'', o9'', A12, c12, e12, hc2, -, hs2⟩ := ii_at (S.im 2 rfl) 2 [1] rfl; cases e12; replace S := S.know (h := Im kI A12 [1]) hs2; clear hs2; have hc := S.cells; simp only [Cells, cellsC, Im, Row, El, RTH, TreeH, TR, AU, AL, OrNil, AuP, SetO, Many, ScO, Nat.zero_add, Nat.reduceAdd] at hc) | (go_at_call 12; obtain ⟨J7, S1, -⟩ := S.lit 0 rfl (k := kI) (xs := [1]) (Flat.int.2 rfl); clear S hc; have S := S1; clear S1; simp only [List.set_cons_zero, List.set_cons_succ, List.nil_append] at S; refine (sameI_c [1] [1] A12 _ c12 1 _ _ _ (S.im 1 rfl) (S.im 0 rfl) (by simp)).mono ?_; rintro e w1 ⟨rfl, hx⟩; have hx := hx.ext; clear hc2; have hc := S.cells; simp only [Cells, cellsC, Im, Row, El, RTH, TreeH, TR, AU, AL, OrNil, AuP, SetO, Many, ScO, Nat.zero_add, Nat.reduceAdd] at hc; replace S := S.ext hx; clear hx; (try clear hc); have hc := S.cells; simp only [Cells, cellsC, Im, Row, El, RTH, TreeH, TR, AU, AL, OrNil, AuP, SetO, Many, ScO, Nat.zero_add, Nat.reduceAdd] at hc))
  go_ret
  exact ⟨ret_bool (by decide), S.out⟩
end Go.Proofs.Ytooaelpfbamebaa
