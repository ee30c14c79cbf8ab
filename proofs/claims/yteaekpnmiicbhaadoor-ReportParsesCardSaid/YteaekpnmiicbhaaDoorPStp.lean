/- One digit more: the program's and the document's. -/
import Derived.Test.YteaekpnmiicbhaaDoorPKd
namespace Go.Proofs.YteaekpnmiicbhaaDoor
open Go.RowKit X
set_option maxHeartbeats 1000000
set_option maxRecDepth 8000
set_option linter.unusedSimpArgs false
set_option linter.unusedVariables false
/-- the number behind one digit more, and whether it may be -/
def stepR (n c : Int) : Int × Int := if c < 48 ∨ 57 < c then (0, 3) else if (4611686018427387903 - (c - 48)) / 10 < n then (0, 4) else (10 * n + (c - 48), 0)
theorem stepR_rng {n c : Int} (h0 : 0 ≤ n) (h : (stepR n c).2 = 0) : 0 ≤ (stepR n c).1 ∧ (stepR n c).1 ≤ 4611686018427387903 := by
  unfold stepR at h ⊢
  split
  · rename_i h1; rw [if_pos h1] at h; cases h
  · rename_i h1
    split
    · rename_i h2; rw [if_neg h1, if_pos h2] at h; cases h
    · constructor <;> simp only <;> omega
theorem nstep_c (n c : Int) (w : World) (hn : 0 ≤ n ∧ n ≤ 4611686018427387903) (hc : 0 ≤ c ∧ c ≤ 255) :
    Calls Tryd.prog 56 #[.int .i64 n, .int .u8 c, .int .i64 4611686018427387903] w fun e w' => e = .returned (.tuple #[.int .i64 (stepR n c).1, .int .i64 (stepR n c).2]) ∧ w = w' := by
  obtain ⟨hn1, hn2⟩ := hn
  obtain ⟨hc1, hc2⟩ := hc
  by_cases h1 : c < 48
  · have h1' : decide (c - 48 < 0) = true := by simp; omega
    have HR : As (stepR n c = (0, 3)) := ⟨by unfold stepR; rw [if_pos (by omega)]⟩
    rw [HR.out]
    go_enter Tryd.func56, Tryd.ntmps56
    go_wp2
    go_ret2
    exact ⟨rfl, rfl⟩
  · have h1' : decide (c - 48 < 0) = false := by simp; omega
    by_cases h2 : 57 < c
    · have h2' : decide (9 < c - 48) = true := by simp; omega
      have HR : As (stepR n c = (0, 3)) := ⟨by unfold stepR; rw [if_pos (by omega)]⟩
      rw [HR.out]
      go_enter Tryd.func56, Tryd.ntmps56
      go_wp2
      go_ret2
      exact ⟨rfl, rfl⟩
    · have h2' : decide (9 < c - 48) = false := by simp; omega
      have h3' : decide (4611686018427387903 < c - 48) = false := by simp; omega
      have hq : As ((4611686018427387903 - (c - 48)).tdiv 10 = (4611686018427387903 - (c - 48)) / 10) := ⟨Int.tdiv_eq_ediv_of_nonneg (by omega)⟩
      by_cases h4 : (4611686018427387903 - (c - 48)) / 10 < n
      · have h4' : decide ((4611686018427387903 - (c - 48)) / 10 < n) = true := by simpa using h4
        have HR : As (stepR n c = (0, 4)) := ⟨by unfold stepR; rw [if_neg (by omega), if_pos h4]⟩
        rw [HR.out]
        go_enter Tryd.func56, Tryd.ntmps56
        go_wp2
        go_ret2
        exact ⟨rfl, rfl⟩
      · have h4' : decide ((4611686018427387903 - (c - 48)) / 10 < n) = false := by simpa using h4
        have HR : As (stepR n c = (10 * n + (c - 48), 0)) := ⟨by unfold stepR; rw [if_neg (by omega), if_neg h4]⟩
        rw [HR.out]
        go_enter Tryd.func56, Tryd.ntmps56
        go_wp2
        go_ret2
        exact ⟨rfl, rfl⟩
theorem gstep_c (n c : Int) (w : World) (hn : 0 ≤ n ∧ n ≤ 4611686018427387903) (hc : 0 ≤ c ∧ c ≤ 255) :
    Calls Tryd.prog 57 #[.int .i64 n, .int .u8 c, .int .i64 4611686018427387903] w fun e w' => e = .returned (.tuple #[.int .i64 (stepR n c).1, .int .i64 (stepR n c).2]) ∧ w = w' := by
  obtain ⟨hn1, hn2⟩ := hn
  obtain ⟨hc1, hc2⟩ := hc
  by_cases h1 : c < 48
  · have h1' : decide (c < 48) = true := by simpa using h1
    have HR : As (stepR n c = (0, 3)) := ⟨by unfold stepR; rw [if_pos (by omega)]⟩
    rw [HR.out]
    go_enter Tryd.func57, Tryd.ntmps57
    go_wp2
    go_ret2
    exact ⟨rfl, rfl⟩
  · have h1' : decide (c < 48) = false := by simp; omega
    by_cases h2 : 57 < c
    · have h2' : decide (57 < c) = true := by simpa using h2
      have HR : As (stepR n c = (0, 3)) := ⟨by unfold stepR; rw [if_pos (by omega)]⟩
      rw [HR.out]
      go_enter Tryd.func57, Tryd.ntmps57
      go_wp2
      go_ret2
      exact ⟨rfl, rfl⟩
    · have h2' : decide (57 < c) = false := by simp; omega
      by_cases h3 : 461168601842738790 < n
      · have h3' : decide (461168601842738790 < n) = true := by simpa using h3
        have HR : As (stepR n c = (0, 4)) := ⟨by unfold stepR; rw [if_neg (by omega), if_pos (by omega)]⟩
        rw [HR.out]
        go_enter Tryd.func57, Tryd.ntmps57
        go_wp2
        go_ret2
        exact ⟨rfl, rfl⟩
      · have h3' : decide (461168601842738790 < n) = false := by simp; omega
        by_cases h4 : n = 461168601842738790
        · have h4' : (n == 461168601842738790) = true := by rw [beq_iff_eq]; exact h4
          by_cases h5 : 3 < c - 48
          · have h5' : decide (3 < c - 48) = true := by simpa using h5
            have HR : As (stepR n c = (0, 4)) := ⟨by unfold stepR; rw [if_neg (by omega), if_pos (by omega)]⟩
            rw [HR.out]
            go_enter Tryd.func57, Tryd.ntmps57
            go_wp2
            go_ret2
            exact ⟨rfl, rfl⟩
          · have h5' : decide (3 < c - 48) = false := by simp; omega
            have HR : As (stepR n c = (10 * n + (c - 48), 0)) := ⟨by unfold stepR; rw [if_neg (by omega), if_neg (by omega)]⟩
            have e : n * 10 + (c - 48) = 10 * n + (c - 48) := by omega
            rw [HR.out, ← e]
            clear e
            go_enter Tryd.func57, Tryd.ntmps57
            go_wp2
            go_ret2
            exact ⟨rfl, rfl⟩
        · have h4' : (n == 461168601842738790) = false := by rw [beq_eq_false_iff_ne]; exact h4
          have HR : As (stepR n c = (10 * n + (c - 48), 0)) := ⟨by unfold stepR; rw [if_neg (by omega), if_neg (by omega)]⟩
          have e : n * 10 + (c - 48) = 10 * n + (c - 48) := by omega
          rw [HR.out, ← e]
          clear e
          go_enter Tryd.func57, Tryd.ntmps57
          go_wp2
          go_ret2
          exact ⟨rfl, rfl⟩
end Go.Proofs.YteaekpnmiicbhaaDoor
