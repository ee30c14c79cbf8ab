/- Templates that are added: no program in sight. -/
import Derived.Test.YtnmlonicfncpfaaDOwn
namespace Go.Proofs.Ytnmlonicfncpfaa
open Go.RowKit X
set_option maxRecDepth 8000
theorem rising_sort {ts : List Int} (h : ts.Pairwise (· < ·)) : sortI ts = ts := by
  unfold sortI
  apply List.mergeSort_of_pairwise
  exact h.imp fun h => by simpa using Int.le_of_lt h
theorem rising_compact {ts : List Int} (h : ts.Pairwise (· < ·)) : Lib.compact ts = ts := by
  refine Lib.compact_all ts fun j hj => ?_
  by_cases h0 : j < 1
  · exact Lib.keeps_lt_one _ j h0
  · refine Lib.keeps_pos ?_
    have h1 : j - 1 < ts.length := by omega
    rw [getElem!_pos ts.toArray j (by simpa using hj), getElem!_pos ts.toArray (j - 1) (by simpa using h1)]
    have := List.pairwise_iff_getElem.1 h (j - 1) j h1 hj (by omega)
    simp only [List.getElem_toArray]
    omega
theorem mayTs_rising {ts : List Int} (h : ts.Pairwise (· < ·)) (h0 : 0 < ts.length) (hr : ∀ t ∈ ts, 0 ≤ t ∧ t < 8) : mayTs ts = true := by
  unfold mayTs
  rw [rising_sort h, rising_compact h]
  simp only [Bool.and_eq_true, decide_eq_true_eq]
  have h1 : ts.headD 0 ∈ ts := by
    rw [List.headD_eq_head?_getD, List.head?_eq_getElem?, List.getElem?_eq_getElem h0]
    exact List.getElem_mem h0
  have h2 : ts.getLastD 0 ∈ ts := by
    rw [List.getLastD_eq_getLast?, List.getLast?_eq_getElem?, List.getElem?_eq_getElem (by omega : ts.length - 1 < ts.length)]
    exact List.getElem_mem _
  exact ⟨⟨⟨h0, trivial⟩, hr _ h1⟩, hr _ h2⟩
/-- the document's example -/
def exP : Pic := ⟨1, 9, ⟨2, 2, [281474976710657, 281474976710658, 281474976710658, 281474976710657]⟩⟩
def exT : List Int := [0, 1, 2, 3, 4, 5, 6, 7]
theorem exT_rising : exT.Pairwise (· < ·) := by decide
theorem exT_may : mayTs exT = true := mayTs_rising exT_rising (by decide) (by decide)
theorem exP_may : mayG exP = true := by decide +kernel
def exQ : Mx := ⟨2, 2, [281474976710658, 281474976710657, 281474976710657, 281474976710658]⟩
theorem exO : orbP exP.x exT = ([exP.x, exQ], [0, 1, 0, 1, 1, 0, 1, 0]) := by decide +kernel
theorem exV : [exP.x, exQ].foldl (addV 1 9) ([], [], 0) = ([exP, ⟨1, 9, exQ⟩], [0, 1], 8) := by decide +kernel
theorem exA : addD ⟨[], [], 0⟩ exP exT = (⟨[⟨exP, exT, [0, 1, 0, 1, 1, 0, 1, 0]⟩], [exP, ⟨1, 9, exQ⟩], 8⟩, 0, 0) := by
  unfold addD
  rw [if_pos ⟨exP_may, exT_may⟩, rising_sort exT_rising, exO]
  have h : exP.c = 1 ∧ exP.m = 9 := ⟨rfl, rfl⟩
  dsimp only
  rw [h.1, h.2, exV]
  rw [if_neg (by decide), if_neg (by decide)]
  rfl
theorem exO0 : ownersP [⟨exP, exT, [0, 1, 0, 1, 1, 0, 1, 0]⟩] 0 = [(0, 0), (0, 2), (0, 5), (0, 7)] := by decide +kernel
theorem exO1 : ownersP [⟨exP, exT, [0, 1, 0, 1, 1, 0, 1, 0]⟩] 1 = [(0, 1), (0, 3), (0, 4), (0, 6)] := by decide +kernel
end Go.Proofs.Ytnmlonicfncpfaa
