/- The reference's functions: rows made small; a node's child. -/
import Derived.Test.YtpgphhkhjbhimaaRef2
namespace Go.Proofs.Ytpgphhkhjbhimaa
open Go.RowKit X
set_option maxHeartbeats 2000000
set_option maxRecDepth 8000
set_option linter.unusedSimpArgs false
set_option linter.unusedVariables false
/-- numbers made small -/
def rowT (xs : List Int) (m : Nat) : List Int := (xs.take m).map (fun x => x.tmod 3)
theorem rowT_len (xs : List Int) (m : Nat) : (rowT xs m).length = min m xs.length := by simp [rowT, List.length_take]
theorem rowT_succ {xs : List Int} {k : Nat} (h : k < xs.length) : rowT xs (k + 1) = rowT xs k ++ [xs[k].tmod 3] := by
  unfold rowT
  rw [List.take_succ_eq_append_getElem h, List.map_append]; rfl
theorem rowT_all {xs : List Int} {k m : Nat} (h : ¬ (k < xs.length ∧ k < m)) (hk : k ≤ m) : rowT xs k = rowT xs m := by
  unfold rowT
  by_cases h1 : k < xs.length
  · have : k = m := by omega
    rw [this]
  · rw [List.take_of_length_le (by omega), List.take_of_length_le (by omega)]

def smallT (ls : List (List Int)) (m : Nat) : List (List Int) := ((ls.take m).map (fun x => rowT x 5)).filter (fun x => decide (0 < x.length))
theorem smallT_len (ls : List (List Int)) (m : Nat) : (smallT ls m).length ≤ m := by
  unfold smallT
  refine Nat.le_trans (List.length_filter_le _ _) ?_
  rw [List.length_map, List.length_take]; omega
theorem smallT_succ {ls : List (List Int)} {k : Nat} (h : k < ls.length) : smallT ls (k + 1) = smallT ls k ++ (if 0 < (rowT ls[k] 5).length then [rowT ls[k] 5] else []) := by
  unfold smallT
  rw [List.take_succ_eq_append_getElem h, List.map_append, List.filter_append]
  congr 1
  simp [List.filter_cons]
theorem smallT_all {ls : List (List Int)} {k m : Nat} (h : ¬ (k < ls.length ∧ k < m)) (hk : k ≤ m) : smallT ls k = smallT ls m := by
  unfold smallT
  by_cases h1 : k < ls.length
  · have : k = m := by omega
    rw [this]
  · rw [List.take_of_length_le (by omega), List.take_of_length_le (by omega)]

def rchildT (L : List (List Int)) (n p : Int) : Int := if 0 ≤ n ∧ n < L.length then findT L (L.getD n.toNat [] ++ [p]) else -1
end Go.Proofs.Ytpgphhkhjbhimaa
