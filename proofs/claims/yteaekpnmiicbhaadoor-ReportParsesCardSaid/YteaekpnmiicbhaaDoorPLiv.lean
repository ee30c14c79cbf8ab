/- The document's example; what the laws of reports share. -/
import Derived.Test.YteaekpnmiicbhaaDoorPText
import Derived.Test.YteaekpnmiicbhaaDoorPRead
import Derived.Test.YteaekpnmiicbhaaDoorPNPut
import Derived.Test.YteaekpnmiicbhaaDoorPOf
namespace Go.Proofs.YteaekpnmiicbhaaDoor
open Go.RowKit X
set_option maxHeartbeats 2000000
set_option maxRecDepth 8000
set_option linter.unusedSimpArgs false
set_option linter.unusedVariables false
def ex1 : R5 := ⟨0, 3, 2, 1, 5⟩
theorem ex1_text : textR [ex1] = [48, 32, 51, 32, 50, 32, 49, 32, 53, 10] := by
  simp [textR, line1, R5.list, decL, digs_one, Lib.join, List.intercalate, ex1]
theorem ex1_odd : oddR [ex1] = false := by decide
theorem plives_c (w : World) (I : Fp) (hI : ∀ b, I b → b < w.heap.size) : Calls Tryd.prog 15 #[] w fun e w' => e = .returned (.bool true) ∧ Ext w w' := by
  have S := SH.start w I hI
  have HT : As (strV (if oddR [ex1] then [] else textR [ex1]) = .string ⟨#[48, 32, 51, 32, 50, 32, 49, 32, 53, 10]⟩) := ⟨by rw [ex1_odd, ex1_text]; rfl⟩
  have HE : As ((if oddR [ex1] then 1 else 0 : Int) = 0) := ⟨by rw [ex1_odd]; rfl⟩
  have hc := S.cells; simp only [Cells, cellsC, Im, Row, El, Nat.zero_add, Nat.reduceAdd] at hc
  go_enter Tryd.func15, Tryd.ntmps15
  go_wp2_with (first | ((first | (with_reducible refine wpl_seal S ?_) | (with_reducible refine cw_seal S ?_) | (with_reducible refine bp_seal S ?_) | (with_reducible refine ca_seal S ?_)); clear S; (try clear hc); intro w1 S; (try simp only [List.set_cons_zero, List.set_cons_succ, List.nil_append] at S); have hc := S.cells; simp only [Cells, cellsC, Im, Row, El, Nat.zero_add, Nat.reduceAdd] at hc) | (go_at_call 7; obtain ⟨J, S1, -⟩ := S.lit 0 rfl (k := kC) (xs := [ex1]) (Flat.single rfl); refine (text_c [ex1] _ _ _ _ S1.bd (S1.im 0 rfl) (by decide)).mono ?_; rw [HT.out, HE.out]; clear S1; rintro e w1 ⟨rfl, hx⟩; replace S := S.ext hx; clear hx; (try clear hc); have hc := S.cells; simp only [Cells, cellsC, Im, Row, El, Nat.zero_add, Nat.reduceAdd] at hc))
  go_ret
  exact ⟨by first | rfl | decide, S.out⟩
theorem goodR_may (x : R5) : mayR (goodR x) = true := by
  have h1 := limI_range x.i
  have h2 := limI_range x.b
  have h3 := limI_range x.r
  have h4 := limI_range x.t
  have h5 := limI_range x.u
  have e : mayR (goodR x) = (decide (okN (limI x.i)) && (decide (okN (limI x.b)) && (decide (okN (limI x.r)) && (decide (okN (limI x.t)) && (decide (okN (limI x.u % 8)) && true)))) && decide (limI x.u % 8 ≤ 7)) := rfl
  rw [e]
  simp only [Bool.and_eq_true, decide_eq_true_eq, and_true]
  unfold okN
  omega
theorem few6_len (l : List R5) : (few6 l).length ≤ 6 := by unfold few6; rw [List.length_take]; omega
theorem good_may (l : List R5) : ∀ x ∈ (few6 l).map goodR, mayR x = true := fun x hx => by
  rw [List.mem_map] at hx
  obtain ⟨y, _, rfl⟩ := hx
  exact goodR_may y
theorem bytesR_le {l : List R5} (h : ∀ x ∈ l, mayR x = true) : (bytesR l).length ≤ l.length * 45 := flat_le l fun x hx => bytes1_le (mayR_ok (h x hx))
end Go.Proofs.YteaekpnmiicbhaaDoor
