/- A number's bytes: the document's. -/
import Derived.Test.YteaekpnmiicbhaaDoorPVar
namespace Go.Proofs.YteaekpnmiicbhaaDoor
open Go.RowKit X
set_option maxHeartbeats 1000000
set_option maxRecDepth 8000
set_option linter.unusedSimpArgs false
set_option linter.unusedVariables false
/-- a number's bytes -/
def putB (n : Nat) : List UInt8 := if h : n < 128 then [UInt8.ofNat n] else UInt8.ofNat (128 + n % 128) :: putB (n / 128)
termination_by n
decreasing_by exact Nat.div_lt_self (by omega) (by decide)
theorem putB_small {n : Nat} (h : n < 128) : putB n = [UInt8.ofNat n] := by rw [putB, dif_pos h]
theorem putB_big {n : Nat} (h : ¬ n < 128) : putB n = UInt8.ofNat (128 + n % 128) :: putB (n / 128) := by rw [putB, dif_neg h]
theorem putB_len : ∀ (k n : Nat), n < 128 ^ (k + 1) → (putB n).length ≤ k + 1
  | 0, n, h => by rw [putB_small (by simpa using h)]; simp
  | k + 1, n, h => by
    by_cases hn : n < 128
    · rw [putB_small hn]; simp
    · rw [putB_big hn, List.length_cons]
      have := putB_len k (n / 128) (by rw [Nat.div_lt_iff_lt_mul (by decide)]; rw [Nat.pow_succ] at h; exact h)
      omega
theorem putB_pos (n : Nat) : 0 < (putB n).length := by
  by_cases hn : n < 128
  · rw [putB_small hn]; simp
  · rw [putB_big hn]; simp
theorem putB_le {n : Nat} (h : n ≤ 4611686018427387903) : (putB n).length ≤ 9 := putB_len 8 n (Nat.lt_of_le_of_lt h (by decide))
theorem u8_small {n : Nat} (h : n < 256) : (UInt8.ofNat n).toNat = n := by rw [UInt8.toNat_ofNat']; exact Nat.mod_eq_of_lt h
end Go.Proofs.YteaekpnmiicbhaaDoor
