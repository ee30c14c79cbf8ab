/- The states of a row, for the laws of sets of rows. -/
import Derived.Test.YtooaelpfbamebaaLiv14
namespace Go.Proofs.Ytooaelpfbamebaa
open Go.RowKit X
set_option linter.unusedVariables false
section
variable {L W : List (List Int)}
def stX (L : List (List Int)) (ys : List Int) (x : Nat) : Int := dpst L (ys.take x) x
theorem stX_zero (ys : List Int) : stX L ys 0 = 0 := by simp [stX, dpst]
theorem stX_step (h : GoodR L W) (ys : List Int) (x : Nat) (hx : x < ys.length) : nextR L (stX L ys x) ys[x] = stX L ys (x + 1) := by
  have h2 : dpst L (ys.take x ++ [ys[x]]) (ys.take x ++ [ys[x]]).length = nextR L (dpst L (ys.take x) (ys.take x).length) ys[x] := by rw [← dpst_snoc h]; simp; congr 1; omega
  rw [← List.take_succ_eq_append_getElem hx, List.length_take, List.length_take, Nat.min_eq_left (by omega), Nat.min_eq_left (by omega)] at h2
  exact h2.symm
theorem stX_ends (h : GoodR L W) (ys : List Int) (k : Nat) (hk : k < ys.length) : endsR L W (stX L ys (k + 1)) = endsL W (ys.take (k + 1)) := by
  have hl : (ys.take (k + 1)).length = k + 1 := by rw [List.length_take]; omega
  obtain ⟨j, e, hj⟩ := dpst_spec h (w := ys.take (k + 1)) (k + 1) (by omega)
  unfold stX
  rw [e]
  unfold endsR
  rw [if_pos (by have := hj.lt; omega), Int.toNat_natCast]
  exact endsL_dp h (by rw [hl]; exact hj)
theorem runR_stX (h : GoodR L W) (ys : List Int) : ∀ (m k : Nat), k + m = ys.length → ∀ (i : Nat) (hi : i < (runR L (stX L ys k) (ys.drop k)).length), (runR L (stX L ys k) (ys.drop k))[i] = stX L ys (k + i + 1)
  | 0, k, hk, i, hi => by rw [List.drop_of_length_le (by omega)] at hi; simp [runR] at hi
  | m + 1, k, hk, i, hi => by
    have hd : ys.drop k = ys[k] :: ys.drop (k + 1) := List.drop_eq_getElem_cons (by omega)
    have e : runR L (stX L ys k) (ys.drop k) = stX L ys (k + 1) :: runR L (stX L ys (k + 1)) (ys.drop (k + 1)) := by
      rw [hd]; simp only [runR]; rw [stX_step h]
    have hi2 : i < (stX L ys (k + 1) :: runR L (stX L ys (k + 1)) (ys.drop (k + 1))).length := by rw [← e]; exact hi
    have e2 : (runR L (stX L ys k) (ys.drop k))[i] = (stX L ys (k + 1) :: runR L (stX L ys (k + 1)) (ys.drop (k + 1)))[i]'hi2 := by simp only [e]
    rw [e2]
    rcases i with _ | i
    · rfl
    · rw [List.getElem_cons_succ, runR_stX h ys m (k + 1) (by omega)]
      congr 1
      omega
theorem scanR_len (ys : List Int) : (scanR L W 0 ys).length = ys.length := by unfold scanR; rw [List.length_map, runR_len]
theorem scanR_at (h : GoodR L W) (ys : List Int) (k : Nat) (hk : k < ys.length) : (scanR L W 0 ys)[k]? = some (endsL W (ys.take (k + 1))) := by
  have hl : k < (runR L 0 ys).length := by rw [runR_len]; exact hk
  have h1 := runR_stX h ys ys.length 0 (by omega)
  rw [stX_zero, List.drop_zero] at h1
  unfold scanR
  rw [List.getElem?_map, List.getElem?_eq_getElem hl, h1 k hl, Nat.zero_add, Option.map_some, stX_ends h ys k hk]
end
end Go.Proofs.Ytooaelpfbamebaa
