/- Images made such as may be: the document's. -/
import Derived.Test.YtnmlonicfncpfaaDGdA
import Derived.Test.YtnmlonicfncpfaaDOrb
import Derived.Test.YtnmlonicfncpfaaDYLp
import Derived.Test.YtnmlonicfncpfaaFork3
namespace Go.Proofs.Ytnmlonicfncpfaa.X
open Go.RowKit
/-- what an image is made of -/
structure Rg where
  three : Bool
  mv : Int
  w : Int
  h : Int
  l : List Int
deriving Inhabited
structure Rg.ok (x : Rg) : Prop where
  mv : I64 x.mv
  w : I64 x.w
  h : I64 x.h
  l : ∀ y ∈ x.l, I64 y
end Go.Proofs.Ytnmlonicfncpfaa.X
namespace Go.Proofs.Ytnmlonicfncpfaa
open Go.RowKit X
set_option maxHeartbeats 4000000
set_option maxRecDepth 8000
set_option linter.unusedSimpArgs false
set_option linter.unusedVariables false
abbrev rgV (x : Rg) (A : Option Addr) (n : Nat) : Value := .agg #[.bool x.three, .int .i64 x.mv, .int .i64 x.w, .int .i64 x.h, .slice A x.l.length n]
def formC (x : Rg) : Nat := if x.three then 3 else 1
def formM (x : Rg) : Int := if 0 ≤ x.mv ∧ x.mv < 5 then [1, 1, 2, 255, 300].getD x.mv.toNat 0 else 1 + aroundI x.mv 65535
theorem form_ok (x : Rg) : formP (formC x) (formM x) = true := by
  refine formP_iff.2 ⟨?_, ?_⟩
  · unfold formC; split <;> simp
  · unfold formM
    split
    · rename_i h
      obtain ⟨k, hk⟩ : ∃ k : Nat, x.mv = k := ⟨x.mv.toNat, by omega⟩
      rw [hk, Int.toNat_natCast]
      have : k < 5 := by omega
      obtain rfl | rfl | rfl | rfl | rfl : k = 0 ∨ k = 1 ∨ k = 2 ∨ k = 3 ∨ k = 4 := by omega
      all_goals simp
    · have := aroundI_range (n := x.mv) (m := 65535) (by decide)
      omega
theorem yform_c (x : Rg) (hx : x.ok) (A : Option Addr) (n : Nat) (w : World) (I : Fp) (hI : ∀ b, I b → b < w.heap.size) {c : Nat} {m : Int} (hc : formC x = c) (hm : formM x = m) :
    Calls Try.prog 18 #[rgV x A n] w fun e w' => e = .returned (.agg #[.int .i64 c, .int .i64 m]) ∧ Ext w w' := by
  have S := SH.start w I hI
  obtain ⟨b, mv, xw, xh, l⟩ := x
  obtain ⟨hmv, -, -, -⟩ := hx
  have HA := As.mk (fun w => around_c mv 65535 w hmv (by decide) (by decide))
  obtain ⟨ar1, ar2⟩ := aroundI_range (n := mv) (m := 65535) (by decide)
  have HM := As.mk hm
  unfold formM at HM
  dsimp only at *
  obtain ⟨ar, har⟩ : ∃ ar, aroundI mv 65535 = ar := ⟨_, rfl⟩
  rw [har] at HA HM ar1 ar2
  have HC : As ((.int .i64 (if b then 3 else 1) : Value) = .int .i64 c) := ⟨by rw [← hc]; unfold formC; cases b <;> rfl⟩
  have hw1 : IntKind.i64.wrap (1 + ar) = 1 + ar := by rw [IntKind.wrap_i64]; omega
  clear hm hc har hmv
  by_cases h05 : 0 ≤ mv ∧ mv < 5
  · have HM2 := As.mk ((if_pos h05).symm.trans HM.out)
    clear HM
    obtain rfl | rfl | rfl | rfl | rfl : mv = 0 ∨ mv = 1 ∨ mv = 2 ∨ mv = 3 ∨ mv = 4 := by omega
    all_goals
      obtain rfl := HM2.out
      clear HM2
      have hc := S.cells; simp only [Cells, cellsC, Im, Row, El, Nat.zero_add, Nat.reduceAdd] at hc
      cases b
      all_goals
        go_enter Try.func18, Try.ntmps18
        go_wp2_with (first | ((first | (with_reducible refine wpl_seal S ?_) | (with_reducible refine cw_seal S ?_) | (with_reducible refine bp_seal S ?_) | (with_reducible refine ca_seal S ?_)); clear S; (try clear hc); intro w1 S; (try simp only [List.set_cons_zero, List.set_cons_succ, List.nil_append] at S); have hc := S.cells; simp only [Cells, cellsC, Im, Row, El, Nat.zero_add, Nat.reduceAdd] at hc) | (go_at_call 12; refine (HA.out _).mono ?_; rintro e w1 ⟨rfl, rfl⟩))
        refine bodyPost_ret (results_cell_row rfl _ _ _ 26 _ (0, 0) _ rfl (S.cel 2 rfl) Try.underlying26 rfl (by kernel_rfl)) rfl ?_
        exact ⟨by rw [← HC.out]; rfl, S.out⟩
  · have HM2 := As.mk ((if_neg h05).symm.trans HM.out)
    obtain rfl := HM2.out
    clear HM HM2
    by_cases h0 : 0 ≤ mv
    · have h0' : decide (mv ≥ 0) = true := decide_eq_true h0
      have h5' : decide (mv < 5) = false := decide_eq_false (fun h => h05 ⟨h0, h⟩)
      have hc := S.cells; simp only [Cells, cellsC, Im, Row, El, Nat.zero_add, Nat.reduceAdd] at hc
      clear h0 h05
      cases b
      all_goals
        go_enter Try.func18, Try.ntmps18
        go_wp2_with (first | ((first | (with_reducible refine wpl_seal S ?_) | (with_reducible refine cw_seal S ?_) | (with_reducible refine bp_seal S ?_) | (with_reducible refine ca_seal S ?_)); clear S; (try clear hc); intro w1 S; (try simp only [List.set_cons_zero, List.set_cons_succ, List.nil_append] at S); have hc := S.cells; simp only [Cells, cellsC, Im, Row, El, Nat.zero_add, Nat.reduceAdd] at hc) | (go_at_call 12; refine (HA.out _).mono ?_; rintro e w1 ⟨rfl, rfl⟩))
        refine bodyPost_ret (results_cell_row rfl _ _ _ 26 _ (0, 0) _ rfl (S.cel 2 rfl) Try.underlying26 rfl (by kernel_rfl)) rfl ?_
        exact ⟨by rw [← HC.out]; rfl, S.out⟩
    · have h0' : decide (mv ≥ 0) = false := decide_eq_false h0
      have hc := S.cells; simp only [Cells, cellsC, Im, Row, El, Nat.zero_add, Nat.reduceAdd] at hc
      clear h0 h05
      cases b
      all_goals
        go_enter Try.func18, Try.ntmps18
        go_wp2_with (first | ((first | (with_reducible refine wpl_seal S ?_) | (with_reducible refine cw_seal S ?_) | (with_reducible refine bp_seal S ?_) | (with_reducible refine ca_seal S ?_)); clear S; (try clear hc); intro w1 S; (try simp only [List.set_cons_zero, List.set_cons_succ, List.nil_append] at S); have hc := S.cells; simp only [Cells, cellsC, Im, Row, El, Nat.zero_add, Nat.reduceAdd] at hc) | (go_at_call 12; refine (HA.out _).mono ?_; rintro e w1 ⟨rfl, rfl⟩))
        refine bodyPost_ret (results_cell_row rfl _ _ _ 26 _ (0, 0) _ rfl (S.cel 2 rfl) Try.underlying26 rfl (by kernel_rfl)) rfl ?_
        exact ⟨by rw [← HC.out]; rfl, S.out⟩
end Go.Proofs.Ytnmlonicfncpfaa
