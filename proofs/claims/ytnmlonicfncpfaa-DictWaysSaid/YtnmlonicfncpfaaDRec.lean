/- Rectangles: whether a matrix may be; a new one; a number of it. -/
import Derived.Test.YtnmlonicfncpfaaDPix
namespace Go.Proofs.Ytnmlonicfncpfaa
open Go.RowKit X
set_option maxHeartbeats 1000000
set_option maxRecDepth 8000
set_option linter.unusedSimpArgs false
set_option linter.unusedVariables false
def sizedP (a b : Int) : Bool := decide (1 ≤ a) && decide (a ≤ 4096) && decide (1 ≤ b) && decide (b ≤ 65536) && decide (a * b ≤ 16777216)
theorem sizedP_iff {a b : Int} : sizedP a b = true ↔ 1 ≤ a ∧ a ≤ 4096 ∧ 1 ≤ b ∧ b ≤ 65536 ∧ a * b ≤ 16777216 := by
  unfold sizedP
  simp [and_assoc]
theorem mul_in {a b : Int} (h1 : 1 ≤ a) (h2 : a ≤ 4096) (h3 : 1 ≤ b) (h4 : b ≤ 65536) : 1 ≤ a * b ∧ a * b ≤ 268435456 := by
  have h5 := Int.mul_le_mul h2 h4 (by omega) (by omega)
  have h6 := Int.mul_le_mul h1 h3 (by omega) (by omega)
  omega
theorem sized_c (a b : Int) (w : World) {r : Bool} (hr : sizedP a b = r) : Calls Try.prog 66 #[.int .i64 a, .int .i64 b] w fun e w' => e = .returned (.bool r) ∧ w' = w := by
  have F : As (∀ x : Bool, (x = true ↔ 1 ≤ a ∧ a ≤ 4096 ∧ 1 ≤ b ∧ b ≤ 65536 ∧ a * b ≤ 16777216) → x = r) := ⟨fun x h => by rw [← hr, Bool.eq_iff_iff, h, sizedP_iff]⟩
  clear hr
  by_cases h1 : a ≥ 1
  · have h1' : decide (a ≥ 1) = true := decide_eq_true h1
    by_cases h2 : a ≤ 4096
    · have h2' : decide (a ≤ 4096) = true := decide_eq_true h2
      by_cases h3 : b ≥ 1
      · have h3' : decide (b ≥ 1) = true := decide_eq_true h3
        by_cases h4 : b ≤ 65536
        · have h4' : decide (b ≤ 65536) = true := decide_eq_true h4
          obtain ⟨hm1, hm2⟩ := mul_in h1 h2 h3 h4
          go_enter Try.func66, Try.ntmps66
          go_wp2
          go_ret
          exact ⟨congrArg (fun b => Ending.returned (.bool b)) (F.out _ (by simp; omega)), rfl⟩
        · have h4' : decide (b ≤ 65536) = false := decide_eq_false h4
          go_enter Try.func66, Try.ntmps66
          go_wp2
          go_ret
          exact ⟨congrArg (fun b => Ending.returned (.bool b)) (F.out _ (by simp; omega)), rfl⟩
      · have h3' : decide (b ≥ 1) = false := decide_eq_false h3
        go_enter Try.func66, Try.ntmps66
        go_wp2
        go_ret
        exact ⟨congrArg (fun b => Ending.returned (.bool b)) (F.out _ (by simp; omega)), rfl⟩
    · have h2' : decide (a ≤ 4096) = false := decide_eq_false h2
      go_enter Try.func66, Try.ntmps66
      go_wp2
      go_ret
      exact ⟨congrArg (fun b => Ending.returned (.bool b)) (F.out _ (by simp; omega)), rfl⟩
  · have h1' : decide (a ≥ 1) = false := decide_eq_false h1
    go_enter Try.func66, Try.ntmps66
    go_wp2
    go_ret
    exact ⟨congrArg (fun b => Ending.returned (.bool b)) (F.out _ (by simp; omega)), rfl⟩
abbrev mxV (x : Mx) (A : Option Addr) (c : Nat) : Value := .agg #[.int .i64 x.w, .int .i64 x.h, .slice A x.l.length c]
def mayX (x : Mx) : Bool := sizedP x.w x.h && decide ((x.l.length : Int) = x.w * x.h)
theorem mayX_iff {x : Mx} : mayX x = true ↔ (1 ≤ x.w ∧ x.w ≤ 4096 ∧ 1 ≤ x.h ∧ x.h ≤ 65536 ∧ x.w * x.h ≤ 16777216) ∧ (x.l.length : Int) = x.w * x.h := by
  unfold mayX
  rw [Bool.and_eq_true, sizedP_iff, decide_eq_true_eq]
theorem mayM_c (x : Mx) (A : Option Addr) (c : Nat) (w : World) (I : Fp) (hI : ∀ b, I b → b < w.heap.size) {r : Bool} (hr : mayX x = r) :
    Calls Try.prog 52 #[mxV x A c] w fun e w' => e = .returned (.bool r) ∧ Ext w w' := by
  have S := SH.start w I hI
  obtain ⟨a, b, l⟩ := x
  dsimp only [mxV]
  have F : As (∀ x : Bool, (x = true ↔ sizedP a b = true ∧ (l.length : Int) = a * b) → x = r) := ⟨fun x h => by rw [← hr, Bool.eq_iff_iff, h]; unfold mayX; rw [Bool.and_eq_true, decide_eq_true_eq]⟩
  clear hr
  obtain ⟨q, hq⟩ : ∃ q, sizedP a b = q := ⟨_, rfl⟩
  have HQ := As.mk hq
  have hc := S.cells; simp only [Cells, cellsC, Im, Row, El, Nat.zero_add, Nat.reduceAdd] at hc
  rcases q with _ | _
  · clear hq
    go_enter Try.func52, Try.ntmps52
    go_wp2_with (first | ((first | (with_reducible refine wpl_seal S ?_) | (with_reducible refine cw_seal S ?_) | (with_reducible refine bp_seal S ?_) | (with_reducible refine ca_seal S ?_)); clear S; (try clear hc); intro w1 S; (try simp only [List.set_cons_zero, List.set_cons_succ, List.nil_append] at S); have hc := S.cells; simp only [Cells, cellsC, Im, Row, El, Nat.zero_add, Nat.reduceAdd] at hc) | (go_at_call 66; refine (sized_c a b _ HQ.out).mono ?_; rintro e w1 ⟨rfl, rfl⟩))
    go_ret
    exact ⟨congrArg (fun b => Ending.returned (.bool b)) (F.out _ (by rw [HQ.out]; simp)), S.out⟩
  · obtain ⟨h1, h2, h3, h4, h5⟩ := sizedP_iff.1 hq
    obtain ⟨hm1, hm2⟩ := mul_in h1 h2 h3 h4
    clear hq
    go_enter Try.func52, Try.ntmps52
    go_wp2_with (first | ((first | (with_reducible refine wpl_seal S ?_) | (with_reducible refine cw_seal S ?_) | (with_reducible refine bp_seal S ?_) | (with_reducible refine ca_seal S ?_)); clear S; (try clear hc); intro w1 S; (try simp only [List.set_cons_zero, List.set_cons_succ, List.nil_append] at S); have hc := S.cells; simp only [Cells, cellsC, Im, Row, El, Nat.zero_add, Nat.reduceAdd] at hc) | (go_at_call 66; refine (sized_c a b _ HQ.out).mono ?_; rintro e w1 ⟨rfl, rfl⟩))
    go_ret
    exact ⟨congrArg (fun b => Ending.returned (.bool b)) (F.out _ (by rw [HQ.out]; simp)), S.out⟩
theorem in_c (n m : Int) (w : World) : Calls Try.prog 86 #[.int .i64 n, .int .i64 m] w fun e w' => e = .returned (.bool (decide (0 ≤ n) && decide (n < m))) ∧ w' = w := by
  by_cases h1 : n ≥ 0
  · have h1' : decide (n ≥ 0) = true := decide_eq_true h1
    have h2 : (decide (0 ≤ n) && decide (n < m)) = decide (n < m) := by rw [decide_eq_true (show 0 ≤ n from h1), Bool.true_and]
    rw [h2]
    go_enter Try.func86, Try.ntmps86
    go_wp2
    go_ret
    exact ⟨rfl, rfl⟩
  · have h1' : decide (n ≥ 0) = false := decide_eq_false h1
    have h2 : (decide (0 ≤ n) && decide (n < m)) = false := by rw [decide_eq_false (show ¬ 0 ≤ n from h1), Bool.false_and]
    rw [h2]
    go_enter Try.func86, Try.ntmps86
    go_wp2
    go_ret
    exact ⟨rfl, rfl⟩
end Go.Proofs.Ytnmlonicfncpfaa
