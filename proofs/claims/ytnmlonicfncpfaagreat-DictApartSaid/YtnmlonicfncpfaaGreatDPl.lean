/- Templates that are added: no program in sight. The document's example. -/
import Derived.Test.YtnmlonicfncpfaaGreatDOwn
namespace Go.Proofs.YtnmlonicfncpfaaGreat
open Go.RowKit X
set_option maxRecDepth 8000
theorem rising_sort {ts : List Int} (h : ts.Pairwise (· < ·)) : sortI ts = ts := by
  unfold sortI
  apply List.mergeSort_of_pairwise
  exact h.imp fun h => by simpa using Int.le_of_lt h
theorem rising_compact {ts : List Int} (h : ts.Pairwise (· < ·)) : Lib.compact ts = ts := by
  refine Lib.compact_all ts fun j hj => ?_
  by_cases h0 : j < 1
  · exact Lib.keeps_lt_one _ j h0
  · refine Lib.keeps_pos ?_
    have h1 : j - 1 < ts.length := by omega
    rw [getElem!_pos ts.toArray j (by simpa using hj), getElem!_pos ts.toArray (j - 1) (by simpa using h1)]
    have := List.pairwise_iff_getElem.1 h (j - 1) j h1 hj (by omega)
    simp only [List.getElem_toArray]
    omega
theorem mayTs_rising {ts : List Int} (h : ts.Pairwise (· < ·)) (h0 : 0 < ts.length) (hr : ∀ t ∈ ts, 0 ≤ t ∧ t < 8) : mayTs ts = true := by
  unfold mayTs
  rw [rising_sort h, rising_compact h]
  simp only [Bool.and_eq_true, decide_eq_true_eq]
  have h1 : ts.headD 0 ∈ ts := by
    rw [List.headD_eq_head?_getD, List.head?_eq_getElem?, List.getElem?_eq_getElem h0]
    exact List.getElem_mem h0
  have h2 : ts.getLastD 0 ∈ ts := by
    rw [List.getLastD_eq_getLast?, List.getLast?_eq_getElem?, List.getElem?_eq_getElem (by omega : ts.length - 1 < ts.length)]
    exact List.getElem_mem _
  exact ⟨⟨⟨h0, trivial⟩, hr _ h1⟩, hr _ h2⟩
/-- the document's example -/
def exP : Pic := ⟨1, 9, ⟨2, 2, [281474976710657, 281474976710658, 281474976710658, 281474976710657]⟩⟩
def exT : List Int := [0, 1, 2, 3, 4, 5, 6, 7]
theorem exT_rising : exT.Pairwise (· < ·) := by decide
theorem exT_may : mayTs exT = true := mayTs_rising exT_rising (by decide) (by decide)
theorem exP_may : mayG exP = true := by decide +kernel
def exQ : Mx := ⟨2, 2, [281474976710658, 281474976710657, 281474976710657, 281474976710658]⟩
theorem exO : orbP exP.x exT = ([exP.x, exQ], [0, 1, 0, 1, 1, 0, 1, 0]) := by decide +kernel
theorem exV : [exP.x, exQ].foldl (addV 1 9) ([], [], 0) = ([exP, ⟨1, 9, exQ⟩], [0, 1], 8) := by decide +kernel
theorem exA : addD ⟨[], [], 0⟩ exP exT = (⟨[⟨exP, exT, [0, 1, 0, 1, 1, 0, 1, 0]⟩], [exP, ⟨1, 9, exQ⟩], 8⟩, 0, 0) := by
  unfold addD
  rw [if_pos ⟨exP_may, exT_may⟩, rising_sort exT_rising, exO]
  have h : exP.c = 1 ∧ exP.m = 9 := ⟨rfl, rfl⟩
  dsimp only
  rw [h.1, h.2, exV]
  rw [if_neg (by decide), if_neg (by decide)]
  rfl
theorem exO0 : ownersP [⟨exP, exT, [0, 1, 0, 1, 1, 0, 1, 0]⟩] 0 = [(0, 0), (0, 2), (0, 5), (0, 7)] := by decide +kernel
theorem exO1 : ownersP [⟨exP, exT, [0, 1, 0, 1, 1, 0, 1, 0]⟩] 1 = [(0, 1), (0, 3), (0, 4), (0, 6)] := by decide +kernel
end Go.Proofs.YtnmlonicfncpfaaGreat
namespace Go.Proofs.YtnmlonicfncpfaaGreat
open Go.RowKit X
set_option maxHeartbeats 4000000
set_option maxRecDepth 8000
set_option linter.unusedSimpArgs false
set_option linter.unusedVariables false
theorem dlives_c (w : World) (I : Fp) (hI : ∀ b, I b → b < w.heap.size) : Calls Tryz.prog 12 #[] w fun e w' => e = .returned (.bool true) ∧ Ext w w' := by
  have S := SH.start w I hI
  have hc := S.cells; simp only [Cells, cellsC, Im, Row, El, DicO, Nat.zero_add, Nat.reduceAdd] at hc
  have HP : As (exP = ⟨1, 9, ⟨2, 2, [281474976710657, 281474976710658, 281474976710658, 281474976710657]⟩⟩) := ⟨rfl⟩
  have HT : As (exT = [0, 1, 2, 3, 4, 5, 6, 7]) := ⟨rfl⟩
  have hm1 : True := trivial
  go_enter Tryz.func12, Tryz.ntmps12
  have hu : ∀ q ∈ exP.x.l, U64 q := by
    have : ∀ q ∈ exP.x.l, 0 ≤ q ∧ q < 18446744073709551616 := by decide
    exact this
  have HU := As.mk hu
  have HTL : As (∀ t ∈ [(⟨exP, exT, [0, 1, 0, 1, 1, 0, 1, 0]⟩ : Tm)], t.turns.length ≤ 1000 ∧ t.whr.length = t.turns.length) := ⟨by decide⟩
  clear hu
  go_wp2_with (first | ((first | (with_reducible refine wpl_seal S ?_) | (with_reducible refine cw_seal S ?_) | (with_reducible refine bp_seal S ?_) | (with_reducible refine ca_seal S ?_)); clear S; (try clear hc); intro w1 S; (try simp only [List.set_cons_zero, List.set_cons_succ, List.nil_append] at S); have hc := S.cells; simp only [Cells, cellsC, Im, Row, El, DicO, Nat.zero_add, Nat.reduceAdd] at hc) | (go_at_call 7; refine (newD_c _ _ S.bd).mono ?_; rintro e w1 ⟨g, rfl, hu⟩; obtain ⟨I1, S1, hI1⟩ := S.new hu; clear S hu hI1; (try clear hc); have S := S1; clear S1; have hc := S.cells; simp only [Cells, cellsC, Im, Row, El, DicO, Nat.zero_add, Nat.reduceAdd] at hc; have hc := S.cells; simp only [Cells, cellsC, Im, Row, El, DicO, Nat.zero_add, Nat.reduceAdd] at hc) | (go_at_call 8; obtain ⟨J1, S1, -⟩ := S.lit 0 rfl (k := kI) (xs := exT) (flat_int exT); clear S hc; obtain ⟨J2, S2, -⟩ := S1.lit 2 rfl (k := kP) (xs := exP.x.l) (flat_int exP.x.l); clear S1; refine (add_s _ ⟨[], [], 0⟩ _ exP exT _ _ 4 8 S2 3 rfl (S2.im 2 rfl) (by decide) HU.out (S2.im 0 rfl) (by decide) (by decide) (by decide) (by decide) (by decide) exA).mono ?_; rintro e w1 ⟨rfl, J3, S3⟩; clear S2; have S := S3; clear S3; simp only [List.set_cons_zero, List.set_cons_succ, List.nil_append] at S; have hc := S.cells; simp only [Cells, cellsC, Im, Row, El, DicO, Nat.zero_add, Nat.reduceAdd] at hc) | (go_at_call 16; refine (variants_c _ _ _ _ S 3 rfl).mono ?_; rintro e w1 ⟨rfl, rfl⟩) | (go_at_call 42; clear hm1; refine (owners_s _ _ _ _ 0 S 3 rfl (by decide) HTL.out exO0).mono ?_; rintro e w1 ⟨r, rfl, hu⟩; obtain ⟨I1, S1, hI1⟩ := S.new hu; clear S hu hI1; (try clear hc); have S := S1; clear S1; have hc := S.cells; simp only [Cells, cellsC, Im, Row, El, DicO, Nat.zero_add, Nat.reduceAdd] at hc; obtain ⟨Ar, cr, er, -, -⟩ := S.row 0 rfl; subst er) | (go_at_call 42; refine (owners_s _ _ _ _ 1 S 4 rfl (by decide) HTL.out exO1).mono ?_; rintro e w1 ⟨r, rfl, hu⟩; obtain ⟨I1, S1, hI1⟩ := S.new hu; clear S hu hI1; (try clear hc); have S := S1; clear S1; have hc := S.cells; simp only [Cells, cellsC, Im, Row, El, DicO, Nat.zero_add, Nat.reduceAdd] at hc; obtain ⟨Ar, cr, er, -, -⟩ := S.row 0 rfl; subst er))
  go_ret
  exact ⟨rfl, S.out⟩
end Go.Proofs.YtnmlonicfncpfaaGreat
