/- A number made one from 0 on, below another. -/
import Derived.Test.YtpgphhkhjbhimaaSep3
import Derived.Test.YtpgphhkhjbhimaaProg
namespace Go.Proofs.Ytpgphhkhjbhimaa.X
/-- a number that an int holds -/
def I64 (x : Int) : Prop := -9223372036854775808 ≤ x ∧ x ≤ 9223372036854775807
end Go.Proofs.Ytpgphhkhjbhimaa.X
namespace Go.Proofs.Ytpgphhkhjbhimaa
open Go.RowKit X
set_option maxHeartbeats 1000000
set_option maxRecDepth 8000
set_option linter.unusedSimpArgs false
set_option linter.unusedVariables false
theorem wf64 {n : Int} (h : (Lit.int .i64 n).wf = true) : I64 n := by
  have h1 : -9223372036854775808 ≤ n ∧ n ≤ 9223372036854775807 := by
    simp only [Lit.wf, Bool.and_eq_true, decide_eq_true_eq] at h
    exact h
  exact h1
/-- modulo, from 0 on -/
def aroundI (n m : Int) : Int := (if n < 0 then -(n + 1) else n) % m
theorem around_c (n m : Int) (w : World) (hn : I64 n) (hm : 0 < m) (hm2 : m ≤ 4611686018427387904) : Calls Try.prog 19 #[.int .i64 n, .int .i64 m] w fun e w' => e = .returned (.int .i64 (aroundI n m)) ∧ w = w' := by
  obtain ⟨h1, h2⟩ := hn
  have hm0 : (m == 0) = false := by rw [beq_eq_false_iff_ne]; omega
  by_cases h : n < 0
  · have h' : decide (n < 0) = true := by simpa using h
    have e : aroundI n m = -(n + 1).tmod m := by unfold aroundI; rw [if_pos h, ← Int.neg_tmod, Int.tmod_eq_emod_of_nonneg (by omega)]
    have h3 := Int.tmod_lt_of_pos (-(n + 1)) hm
    have h4 := Int.tmod_nonneg m (show 0 ≤ -(n + 1) by omega)
    rw [Int.neg_tmod] at h3 h4
    rw [e]
    go_enter Try.func19, Try.ntmps19
    go_wp2
    go_ret
    exact ⟨rfl, rfl⟩
  · have h' : decide (n < 0) = false := by simpa using h
    have e : aroundI n m = n % m := by unfold aroundI; rw [if_neg h]
    rw [e]
    have := Int.tmod_lt_of_pos n hm
    have := Int.tmod_nonneg m (show 0 ≤ n by omega)
    go_enter Try.func19, Try.ntmps19
    go_wp2
    go_ret
    exact ⟨rfl, rfl⟩
theorem aroundI_range {n m : Int} (hm : 0 < m) : 0 ≤ aroundI n m ∧ aroundI n m < m := by
  unfold aroundI
  exact ⟨Int.emod_nonneg _ (by omega), Int.emod_lt_of_pos _ hm⟩
end Go.Proofs.Ytpgphhkhjbhimaa
