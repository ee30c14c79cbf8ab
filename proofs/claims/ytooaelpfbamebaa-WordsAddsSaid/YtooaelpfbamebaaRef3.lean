/- The reference's functions: rows made small; a node's child. -/
import Derived.Test.YtooaelpfbamebaaRef2
namespace Go.Proofs.Ytooaelpfbamebaa
open Go.RowKit X
set_option maxHeartbeats 2000000
set_option maxRecDepth 8000
set_option linter.unusedSimpArgs false
set_option linter.unusedVariables false
/-- numbers made small -/
def rowT (xs : List Int) (m : Nat) : List Int := (xs.take m).map (fun x => x.tmod 3)
theorem rowT_len (xs : List Int) (m : Nat) : (rowT xs m).length = min m xs.length := by simp [rowT, List.length_take]
theorem rowT_succ {xs : List Int} {k : Nat} (h : k < xs.length) : rowT xs (k + 1) = rowT xs k ++ [xs[k].tmod 3] := by
  unfold rowT
  rw [List.take_succ_eq_append_getElem h, List.map_append]; rfl
theorem rowT_all {xs : List Int} {k m : Nat} (h : ¬ (k < xs.length ∧ k < m)) (hk : k ≤ m) : rowT xs k = rowT xs m := by
  unfold rowT
  by_cases h1 : k < xs.length
  · have : k = m := by omega
    rw [this]
  · rw [List.take_of_length_le (by omega), List.take_of_length_le (by omega)]

theorem row_c (xs : List Int) (m : Nat) (A : Option Addr) (c : Nat) (w : World) (I : Fp) (hI : ∀ b, I b → b < w.heap.size) (hx : Sl kP w I A xs) (hm : m ≤ 1000000) :
    Calls Try.prog 10 #[.slice A xs.length c, .int .i64 m] w fun e w' => ∃ v, e = .returned v ∧ Upd w No I w' (Row kP v (rowT xs m)) := by
  have S := ((SH.start w I hI).know (h := Im kP A xs) hx).nilrow (k := kP)
  clear hx
  go_enter Try.func10, Try.ntmps10
  go_wp2
  go_loopw [5, 6] (fun o i w' => ∃ k : Nat, k ≤ xs.length ∧ k ≤ m ∧ i = .int .i64 k ∧ As (SH No I w [Row kP o (rowT xs k), Im kP A xs] w' I)) (fun _ i _ => xs.length - (intOf i).toNat)
  case atStart => exact ⟨0, Nat.zero_le _, Nat.zero_le _, rfl, ⟨S⟩⟩
  case round =>
    clear S
    obtain ⟨k, hk, hkm, rfl, ⟨S⟩⟩ := hrel
    have hc := S.cells; simp only [Cells, cellsC, Im, Row, El, RTH, Nat.zero_add, Nat.reduceAdd] at hc
    by_cases hlt : k < xs.length
    · have hlt' : decide ((k : Int) < xs.length) = true := by simpa using hlt
      by_cases hlm : k < m
      · have hlm' : decide ((k : Int) < m) = true := by simpa using hlm
        obtain ⟨b, o, rfl, hcx⟩ := (S.im 1 rfl).int_at hlt
        have HR := As.mk (rowT_succ hlt)
        have hrl : (rowT xs k).length ≤ 1000000 := by rw [rowT_len]; omega
        go_wp2_with (first | ((first | (with_reducible refine wpl_seal S ?_) | (with_reducible refine cw_seal S ?_) | (with_reducible refine bp_seal S ?_) | (with_reducible refine ca_seal S ?_)); clear S; (try clear hc); intro w1 S; (try simp only [List.set_cons_zero, List.set_cons_succ, List.nil_append] at S); have hc := S.cells; simp only [Cells, cellsC, Im, Row, El, RTH, Nat.zero_add, Nat.reduceAdd] at hc) | (at_builtin; refine wpl_push S 1 rfl rfl _ _ rfl ty_pixs rfl (xs[k].tmod 3) _ _ rfl [_] _ (S.cel 0 rfl) rfl (by (try simp only [maxLen, List.length_nil, List.length_append, List.length_cons]); omega) (by (try simp only [maxLen, List.length_nil, List.length_append, List.length_cons]); omega) ?_; clear S; (try clear hc); intro va w1 S; simp only [List.set_cons_zero, List.set_cons_succ, List.nil_append] at S; have hc := S.cells; simp only [Cells, cellsC, Im, Row, El, RTH, Nat.zero_add, Nat.reduceAdd] at hc))
        go_roundw
        case rel =>
          refine ⟨k + 1, by omega, by omega, by go_num, ⟨?_⟩⟩
          rw [HR.out]
          exact (S.sel [1, 2] (by decide) rfl (by simp) : SH _ _ _ [_, _] _ _)
        case measure => simp [intOf]; omega
      · have hlm' : decide ((k : Int) < m) = false := by simpa using hlm
        have HE := As.mk (rowT_all (m := m) (xs := xs) (k := k) (by omega) hkm)
        go_wp2
        go_ret
        exact ⟨_, rfl, HE.out ▸ S.ret 0 rfl⟩
    · have hlt' : decide ((k : Int) < xs.length) = false := by simpa using hlt
      have HE := As.mk (rowT_all (m := m) (xs := xs) (k := k) (by omega) hkm)
      go_wp2
      go_ret
      exact ⟨_, rfl, HE.out ▸ S.ret 0 rfl⟩
/-- words made small: none that is empty -/
def smallT (ls : List (List Int)) (m : Nat) : List (List Int) := ((ls.take m).map (fun x => rowT x 5)).filter (fun x => decide (0 < x.length))
theorem smallT_len (ls : List (List Int)) (m : Nat) : (smallT ls m).length ≤ m := by
  unfold smallT
  refine Nat.le_trans (List.length_filter_le _ _) ?_
  rw [List.length_map, List.length_take]; omega
theorem smallT_succ {ls : List (List Int)} {k : Nat} (h : k < ls.length) : smallT ls (k + 1) = smallT ls k ++ (if 0 < (rowT ls[k] 5).length then [rowT ls[k] 5] else []) := by
  unfold smallT
  rw [List.take_succ_eq_append_getElem h, List.map_append, List.filter_append]
  congr 1
  simp [List.filter_cons]
theorem smallT_all {ls : List (List Int)} {k m : Nat} (h : ¬ (k < ls.length ∧ k < m)) (hk : k ≤ m) : smallT ls k = smallT ls m := by
  unfold smallT
  by_cases h1 : k < ls.length
  · have : k = m := by omega
    rw [this]
  · rw [List.take_of_length_le (by omega), List.take_of_length_le (by omega)]

theorem small_c (ls : List (List Int)) (A : Option Addr) (c : Nat) (w : World) (I : Fp) (hI : ∀ b, I b → b < w.heap.size) (hx : Sl kW w I A ls) :
    Calls Try.prog 27 #[.slice A ls.length c] w fun e w' => ∃ v, e = .returned v ∧ Upd w No I w' (Row kW v (smallT ls 8)) := by
  have S := ((SH.start w I hI).know (h := Im kW A ls) hx).nilrow (k := kW)
  clear hx
  go_enter Try.func27, Try.ntmps27
  go_wp2
  go_loopw [3, 4] (fun o i w' => ∃ (k : Nat) (J : Fp), k ≤ ls.length ∧ k ≤ 8 ∧ i = .int .i64 k ∧ As (SH No I w [Row kW o (smallT ls k), Im kW A ls] w' J)) (fun _ i _ => ls.length - (intOf i).toNat)
  case atStart => exact ⟨0, I, Nat.zero_le _, Nat.zero_le _, rfl, ⟨S⟩⟩
  case round =>
    clear S
    obtain ⟨k, J, hk, hkm, rfl, ⟨S⟩⟩ := hrel
    have hc := S.cells; simp only [Cells, cellsC, Im, Row, El, RTH, Nat.zero_add, Nat.reduceAdd] at hc
    by_cases hlt : k < ls.length
    · have hlt' : decide ((k : Int) < ls.length) = true := by simpa using hlt
      by_cases hlm : k < 8
      · have hlm' : decide ((k : Int) < 8) = true := by simp; omega
        obtain ⟨b, o, A1, c1, rfl, hcx, hc1, hs1⟩ := (S.im 1 rfl).sl_at hlt
        have HS1 := As.mk hs1
        have hsm := smallT_len ls k
        clear hs1
        by_cases h0 : 0 < (rowT ls[k] 5).length
        · have HR : As (smallT ls (k + 1) = smallT ls k ++ [rowT ls[k] 5]) := ⟨by rw [smallT_succ hlt, if_pos h0]⟩
          have h0' : decide (((rowT ls[k] 5).length : Int) > 0) = true := by simp; omega
          go_wp2_with (first | ((first | (with_reducible refine wpl_seal S ?_) | (with_reducible refine cw_seal S ?_) | (with_reducible refine bp_seal S ?_) | (with_reducible refine ca_seal S ?_)); clear S; (try clear hc); intro w1 S; (try simp only [List.set_cons_zero, List.set_cons_succ, List.nil_append] at S); have hc := S.cells; simp only [Cells, cellsC, Im, Row, El, RTH, Nat.zero_add, Nat.reduceAdd] at hc) | (go_at_call 10; refine (row_c ls[k] 5 A1 c1 _ J S.bd HS1.out (by omega)).mono ?_; rintro e w1 ⟨v, rfl, hu⟩; obtain ⟨I1, S1, hI1⟩ := S.new hu; clear S hu hI1; (try clear hc); have S := S1; clear S1; have hc := S.cells; simp only [Cells, cellsC, Im, Row, El, RTH, Nat.zero_add, Nat.reduceAdd] at hc; obtain ⟨A2, c2, I1, e1, hc2, S1, hI1⟩ := S.frow 0 rfl; subst e1; clear S hI1; have S := S1; clear S1; simp only [List.set_cons_zero, List.set_cons_succ, List.nil_append] at S; have hc := S.cells; simp only [Cells, cellsC, Im, Row, El, RTH, Nat.zero_add, Nat.reduceAdd] at hc) | (at_builtin; refine wpl_push S 2 rfl rfl _ _ rfl ty_rows rfl (rowT ls[k] 5) _ _ rfl [_] _ (S.cel 0 rfl) ⟨_, _, rfl, hc2, S.im 1 rfl⟩ (by (try simp only [maxLen, List.length_nil, List.length_append, List.length_cons]); omega) (by (try simp only [maxLen, List.length_nil, List.length_append, List.length_cons]); omega) ?_; clear S; (try clear hc); intro va w1 S; simp only [List.set_cons_zero, List.set_cons_succ, List.nil_append] at S; have hc := S.cells; simp only [Cells, cellsC, Im, Row, El, RTH, Nat.zero_add, Nat.reduceAdd] at hc))
          go_roundw
          case rel =>
            have S1 := (S.sel [2, 3] (by decide) rfl (by simp) : SH _ _ _ [_, _] _ _)
            rw [← HR.out] at S1
            exact ⟨k + 1, _, by omega, by omega, by go_num, ⟨S1⟩⟩
          case measure => simp [intOf]; omega
        · have HR : As (smallT ls (k + 1) = smallT ls k) := ⟨by rw [smallT_succ hlt, if_neg h0, List.append_nil]⟩
          have h0' : decide (((rowT ls[k] 5).length : Int) > 0) = false := by rw [decide_eq_false_iff_not]; omega
          go_wp2_with (first | ((first | (with_reducible refine wpl_seal S ?_) | (with_reducible refine cw_seal S ?_) | (with_reducible refine bp_seal S ?_) | (with_reducible refine ca_seal S ?_)); clear S; (try clear hc); intro w1 S; (try simp only [List.set_cons_zero, List.set_cons_succ, List.nil_append] at S); have hc := S.cells; simp only [Cells, cellsC, Im, Row, El, RTH, Nat.zero_add, Nat.reduceAdd] at hc) | (go_at_call 10; refine (row_c ls[k] 5 A1 c1 _ J S.bd HS1.out (by omega)).mono ?_; rintro e w1 ⟨v, rfl, hu⟩; obtain ⟨I1, S1, hI1⟩ := S.new hu; clear S hu hI1; (try clear hc); have S := S1; clear S1; have hc := S.cells; simp only [Cells, cellsC, Im, Row, El, RTH, Nat.zero_add, Nat.reduceAdd] at hc; obtain ⟨A2, c2, I1, e1, hc2, S1, hI1⟩ := S.frow 0 rfl; subst e1; clear S hI1; have S := S1; clear S1; simp only [List.set_cons_zero, List.set_cons_succ, List.nil_append] at S; have hc := S.cells; simp only [Cells, cellsC, Im, Row, El, RTH, Nat.zero_add, Nat.reduceAdd] at hc))
          go_roundw
          case rel =>
            have S1 := (S.sel [1, 2] (by decide) rfl (by simp) : SH _ _ _ [_, _] _ _)
            rw [← HR.out] at S1
            exact ⟨k + 1, _, by omega, by omega, by go_num, ⟨S1⟩⟩
          case measure => simp [intOf]; omega
      · have hlm' : decide ((k : Int) < 8) = false := by simp; omega
        have HE := As.mk (smallT_all (m := 8) (ls := ls) (k := k) (by omega) hkm)
        go_wp2
        go_ret
        exact ⟨_, rfl, HE.out ▸ S.ret 0 rfl⟩
    · have hlt' : decide ((k : Int) < ls.length) = false := by simpa using hlt
      have HE := As.mk (smallT_all (m := 8) (ls := ls) (k := k) (by omega) hkm)
      go_wp2
      go_ret
      exact ⟨_, rfl, HE.out ▸ S.ret 0 rfl⟩

/-- a node's child, by paths -/
def rchildT (L : List (List Int)) (n p : Int) : Int := if 0 ≤ n ∧ n < L.length then findT L (L.getD n.toNat [] ++ [p]) else -1
end Go.Proofs.Ytooaelpfbamebaa
