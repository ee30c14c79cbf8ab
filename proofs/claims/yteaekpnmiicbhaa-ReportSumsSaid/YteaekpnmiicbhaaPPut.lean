/- A number's bytes: the document's. -/
import Derived.Test.YteaekpnmiicbhaaPVar
namespace Go.Proofs.Yteaekpnmiicbhaa
open Go.RowKit X
set_option maxHeartbeats 1000000
set_option maxRecDepth 8000
set_option linter.unusedSimpArgs false
set_option linter.unusedVariables false
/-- a number's bytes -/
def putB (n : Nat) : List UInt8 := if h : n < 128 then [UInt8.ofNat n] else UInt8.ofNat (128 + n % 128) :: putB (n / 128)
termination_by n
decreasing_by exact Nat.div_lt_self (by omega) (by decide)
theorem putB_small {n : Nat} (h : n < 128) : putB n = [UInt8.ofNat n] := by rw [putB, dif_pos h]
theorem putB_big {n : Nat} (h : ¬ n < 128) : putB n = UInt8.ofNat (128 + n % 128) :: putB (n / 128) := by rw [putB, dif_neg h]
theorem putB_len : ∀ (k n : Nat), n < 128 ^ (k + 1) → (putB n).length ≤ k + 1
  | 0, n, h => by rw [putB_small (by simpa using h)]; simp
  | k + 1, n, h => by
    by_cases hn : n < 128
    · rw [putB_small hn]; simp
    · rw [putB_big hn, List.length_cons]
      have := putB_len k (n / 128) (by rw [Nat.div_lt_iff_lt_mul (by decide)]; rw [Nat.pow_succ] at h; exact h)
      omega
theorem putB_pos (n : Nat) : 0 < (putB n).length := by
  by_cases hn : n < 128
  · rw [putB_small hn]; simp
  · rw [putB_big hn]; simp
theorem putB_le {n : Nat} (h : n ≤ 4611686018427387903) : (putB n).length ≤ 9 := putB_len 8 n (Nat.lt_of_le_of_lt h (by decide))
theorem u8_small {n : Nat} (h : n < 256) : (UInt8.ofNat n).toNat = n := by rw [UInt8.toNat_ofNat']; exact Nat.mod_eq_of_lt h
theorem rput_c (n : Nat) (w : World) (I : Fp) (hI : ∀ b, I b → b < w.heap.size) (hn : n ≤ 4611686018427387903) :
    Calls Try.prog 27 #[.int .i64 n] w fun e w' => ∃ v, e = .returned (.tuple #[v, .int .i64 0]) ∧ Upd w No I w' (Row kB v (putB n)) := by
  have S := (SH.start w I hI).nilrow (k := kB)
  have hpl := putB_le hn
  have HN := As.mk hn
  have hc := S.cells; simp only [Cells, cellsC, Im, Row, El, Nat.zero_add, Nat.reduceAdd] at hc
  go_enter Try.func27, Try.ntmps27
  go_wp2_with (first | ((first | (with_reducible refine wpl_seal S ?_) | (with_reducible refine cw_seal S ?_) | (with_reducible refine bp_seal S ?_) | (with_reducible refine ca_seal S ?_)); clear S; (try clear hc); intro w1 S; (try simp only [List.set_cons_zero, List.set_cons_succ, List.nil_append] at S); have hc := S.cells; simp only [Cells, cellsC, Im, Row, El, Nat.zero_add, Nat.reduceAdd] at hc))
  have S1 := S
  clear S hc
  go_loopw [0, 4] (fun i v w' => ∃ (m : Nat) (pre : List UInt8), m ≤ n ∧ pre.length ≤ 9 ∧ i = .int .i64 m ∧ As (pre ++ putB m = putB n) ∧ ∃ I', As (SH No I w [Row kB v pre] w' I')) (fun i _ _ => (intOf i).toNat)
  case atStart => exact ⟨n, [], by omega, by simp, rfl, ⟨rfl⟩, _, ⟨S1⟩⟩
  case round =>
    clear S1
    obtain ⟨m, pre, hm, hp, rfl, HP, I', ⟨S⟩⟩ := hrel
    by_cases hlt : m < 128
    · have hlt' : decide ((m : Int) ≥ 128) = false := by simp; omega
      have hu := u8_small (n := m) (by omega)
      rw [putB_small hlt] at HP
      have hc := S.cells; simp only [Cells, cellsC, Im, Row, El, Nat.zero_add, Nat.reduceAdd] at hc
      go_wp2_with (first | ((first | (with_reducible refine wpl_seal S ?_) | (with_reducible refine cw_seal S ?_) | (with_reducible refine bp_seal S ?_) | (with_reducible refine ca_seal S ?_)); clear S; (try clear hc); intro w1 S; (try simp only [List.set_cons_zero, List.set_cons_succ, List.nil_append] at S); have hc := S.cells; simp only [Cells, cellsC, Im, Row, El, Nat.zero_add, Nat.reduceAdd] at hc) | (at_builtin; refine wpl_push S 1 rfl rfl _ _ rfl ty_u8s rfl (UInt8.ofNat m) _ _ rfl [_] _ (S.cel 0 rfl) (by show [Value.int .u8 _] = [Value.int .u8 _]; rw [hu]) (by (try simp only [maxLen, List.length_nil, List.length_append, List.length_cons]); omega) (by (try simp only [maxLen, List.length_nil, List.length_append, List.length_cons]); omega) ?_; clear S; (try clear hc); intro va w1 S; simp only [List.set_cons_zero, List.set_cons_succ, List.nil_append] at S; have hc := S.cells; simp only [Cells, cellsC, Im, Row, El, Nat.zero_add, Nat.reduceAdd] at hc))
      go_ret2
      exact ⟨_, rfl, by rw [← HP.out]; exact ((S.sel [1] (by decide) rfl (by simp) : SH _ _ _ [_] _ _)).ret 0 rfl⟩
    · have hlt' : decide ((m : Int) ≥ 128) = true := by simp; omega
      have hu := u8_small (n := 128 + m % 128) (by omega)
      rw [putB_big hlt] at HP
      have h9 : (pre ++ [UInt8.ofNat (128 + m % 128)]).length ≤ 9 := by
        have := congrArg List.length HP.out
        rw [List.length_append, List.length_cons] at this
        rw [List.length_append]
        simp only [List.length_cons, List.length_nil]
        omega
      have hd : m / 128 < m := Nat.div_lt_self (by omega) (by decide)
      have hc := S.cells; simp only [Cells, cellsC, Im, Row, El, Nat.zero_add, Nat.reduceAdd] at hc
      go_wp2_with (first | ((first | (with_reducible refine wpl_seal S ?_) | (with_reducible refine cw_seal S ?_) | (with_reducible refine bp_seal S ?_) | (with_reducible refine ca_seal S ?_)); clear S; (try clear hc); intro w1 S; (try simp only [List.set_cons_zero, List.set_cons_succ, List.nil_append] at S); have hc := S.cells; simp only [Cells, cellsC, Im, Row, El, Nat.zero_add, Nat.reduceAdd] at hc) | (at_builtin; refine wpl_push S 1 rfl rfl _ _ rfl ty_u8s rfl (UInt8.ofNat (128 + m % 128)) _ _ rfl [_] _ (S.cel 0 rfl) (by show [Value.int .u8 _] = [Value.int .u8 _]; rw [hu]; simp) (by (try simp only [maxLen, List.length_nil, List.length_append, List.length_cons]); omega) (by (try simp only [maxLen, List.length_nil, List.length_append, List.length_cons]); omega) ?_; clear S; (try clear hc); intro va w1 S; simp only [List.set_cons_zero, List.set_cons_succ, List.nil_append] at S; have hc := S.cells; simp only [Cells, cellsC, Im, Row, El, Nat.zero_add, Nat.reduceAdd] at hc))
      go_roundw
      case rel => exact ⟨m / 128, pre ++ [UInt8.ofNat (128 + m % 128)], by omega, h9, by go_num, ⟨by rw [← HP.out, List.append_assoc]; rfl⟩, _, ⟨(S.sel [1] (by decide) rfl (by simp) : SH _ _ _ [_] _ _)⟩⟩
      case measure => simp [intOf]; omega
end Go.Proofs.Yteaekpnmiicbhaa
