/- A matrix, laid: the document's. -/
import Derived.Test.YtnmlonicfncpfaaDYLp
namespace Go.Proofs.Ytnmlonicfncpfaa
open Go.RowKit X
set_option maxHeartbeats 4000000
set_option maxRecDepth 8000
set_option linter.unusedSimpArgs false
set_option linter.unusedVariables false
theorem ylay_c (x : Mx) (g : Nat) (hg : g < 8) (A : Option Addr) (n : Nat) (w : World) (I : Fp) (hI : ∀ b, I b → b < w.heap.size) (hl : Sl kP w I A x.l) (hx : MxOk x) (hn : x.l.length ≤ 999999) (hnc : x.l.length ≤ n) {z : Mx} (hz : layP x g = z) (ho : layOk x g = true) :
    Calls Try.prog 32 #[mxV x A n, .int .i64 g] w fun e w' => ∃ B c, e = .returned (.tuple #[mxV z B c, .int .i64 0]) ∧ z.l.length ≤ c ∧ Upd w No I w' (Im kP B z.l) := by
  have S := (SH.start w I hI).know (h := Im kP A x.l) hl
  have HX := As.mk hx
  have HZ := As.mk hz
  obtain ⟨q, hq⟩ : ∃ q, g % 4 = q := ⟨_, rfl⟩
  have hq1 : ((g : Int) % 4) = (q : Int) := by omega
  have hq2 : (Int.tmod (g : Int) 4) = (q : Int) := by rw [Int.tmod_eq_emod_of_nonneg (by omega)]; exact hq1
  have hq4 : q < 4 := by omega
  have hlt0 : decide ((g : Int) < 0) = false := decide_eq_false (by omega)
  have hgt7 : decide ((g : Int) > 7) = false := decide_eq_false (by omega)
  have HO := As.mk (show sizedP z.w z.h = true by rw [← hz]; exact ho)
  have HST := As.mk (fun (k : Nat) (y : Mx) (hy : layP x k = y) => (And.intro (by rw [← hy]; exact lay_ok hx k) (by rw [← hy]; unfold layP; rw [List.length_map, List.length_range]; exact hn) : MxOk y ∧ y.l.length ≤ 999999))
  have HNX := As.mk (fun (k : Nat) (hk : k < 7) (h3 : k ≠ 3) => lay_next hx hk h3)
  clear hl hx hz ho
  by_cases hg3 : 3 < g
  · have hg3' : decide ((g : Int) > 3) = true := decide_eq_true (by omega)
    have hsg : 4 + q = g := by omega
    have hs0 : 4 % 4 = 0 := rfl
    have H4 := As.mk (lay_4 HX.out)
    have hc := S.cells; simp only [Cells, cellsC, Im, Row, El, Nat.zero_add, Nat.reduceAdd] at hc
    go_enter Try.func32, Try.ntmps32
    go_wp2_with (first | ((first | (with_reducible refine wpl_seal S ?_) | (with_reducible refine cw_seal S ?_) | (with_reducible refine bp_seal S ?_) | (with_reducible refine ca_seal S ?_)); clear S; (try clear hc); intro w1 S; (try simp only [List.set_cons_zero, List.set_cons_succ, List.nil_append] at S); have hc := S.cells; simp only [Cells, cellsC, Im, Row, El, Nat.zero_add, Nat.reduceAdd] at hc) | (go_at_call 47; refine (mir_c x A n _ _ S.bd (S.im 2 rfl) HX.out hn H4.out).mono ?_; rintro e w1 ⟨B1, c1, rfl, hc1, hu⟩; obtain ⟨I1, S1, hI1⟩ := S.new hu; clear S hu hI1; (try clear hc); have S := S1; clear S1; have hc := S.cells; simp only [Cells, cellsC, Im, Row, El, Nat.zero_add, Nat.reduceAdd] at hc; have hc := S.cells; simp only [Cells, cellsC, Im, Row, El, Nat.zero_add, Nat.reduceAdd] at hc))
    obtain ⟨g4, eg4⟩ := S.name 1 rfl; rw [← eg4] at S ⊢; clear eg4
    obtain ⟨g1, eg1⟩ := S.name 2 rfl; rw [← eg1] at S ⊢; clear eg1
    replace S := ((S.sel [2, 1, 0] (by decide) rfl (by simp) : SH _ _ _ [_, _, _] _ _) : SH _ _ _ [_, _, _] _ _)
    obtain ⟨y0, hy0⟩ : ∃ y, layP x 4 = y := ⟨_, rfl⟩
    have HY0 := As.mk (show layP x (4 + 0) = y0 from hy0)
    rw [hy0] at S hc1
    (try rw [hy0])
    clear hc
    go_loopw [6] (fun iv w' => ∃ (k : Nat) (y : Mx) (B : Option Addr) (c : Nat) (J : Fp), iv = .int .i64 k ∧ k ≤ q ∧ y.l.length ≤ c ∧ As (layP x (4 + k) = y) ∧ As (SH No I w [Cel g1 29 [.int .i64 y.w, .int .i64 y.h, .slice B y.l.length c], Cel g4 29 [.int .i64 0, .int .i64 0, .slice none 0 0], Im kP B y.l] w' J)) (fun iv _ => q - (intOf iv).toNat)
    case atStart => exact ⟨0, y0, _, _, _, rfl, by omega, hc1, HY0, ⟨S⟩⟩
    case round =>
      clear S hc1
      obtain ⟨k, y, B, c, J, rfl, hk, hyc, HY, ⟨S⟩⟩ := hrel
      obtain ⟨hyo, hyl⟩ := HST.out _ y HY.out
      have HYO := As.mk hyo
      clear hyo
      by_cases hlt : k < q
      · have hlt' : decide ((k : Int) < q) = true := decide_eq_true (by omega)
        obtain ⟨y2, hy2⟩ : ∃ y2, quaP y = y2 := ⟨_, rfl⟩
        have HY2 : As (layP x (4 + (k + 1)) = y2) := ⟨by rw [← hy2, ← HY.out, HNX.out _ (by omega) (by omega)]; rfl⟩
        have HQ := As.mk hy2
        clear hy2
        have hc := S.cells; simp only [Cells, cellsC, Im, Row, El, Nat.zero_add, Nat.reduceAdd] at hc
        go_wp2_with (first | ((first | (with_reducible refine wpl_seal S ?_) | (with_reducible refine cw_seal S ?_) | (with_reducible refine bp_seal S ?_) | (with_reducible refine ca_seal S ?_)); clear S; (try clear hc); intro w1 S; (try simp only [List.set_cons_zero, List.set_cons_succ, List.nil_append] at S); have hc := S.cells; simp only [Cells, cellsC, Im, Row, El, Nat.zero_add, Nat.reduceAdd] at hc) | (go_at_call 48; refine (qua_c y B c _ _ S.bd (S.im 2 rfl) HYO.out hyl HQ.out).mono ?_; rintro e w1 ⟨B1, c1, rfl, hc1, hu⟩; obtain ⟨I1, S1, hI1⟩ := S.new hu; clear S hu hI1; (try clear hc); have S := S1; clear S1; have hc := S.cells; simp only [Cells, cellsC, Im, Row, El, Nat.zero_add, Nat.reduceAdd] at hc; have hc := S.cells; simp only [Cells, cellsC, Im, Row, El, Nat.zero_add, Nat.reduceAdd] at hc))
        go_roundw
        case rel => exact ⟨k + 1, y2, B1, c1, _, by go_num, by omega, hc1, HY2, ⟨(S.sel [1, 2, 0] (by decide) rfl (by simp) : SH _ _ _ [_, _, _] _ _)⟩⟩
        case measure => simp [intOf]; omega
      · have hlt' : decide ((k : Int) < q) = false := decide_eq_false (by omega)
        obtain rfl : k = q := by omega
        have HYZ : As (y = z) := ⟨by rw [← HY.out, ← HZ.out, hsg]⟩
        obtain rfl := HYZ.out
        have hc := S.cells; simp only [Cells, cellsC, Im, Row, El, Nat.zero_add, Nat.reduceAdd] at hc
        go_wp2_with (first | ((first | (with_reducible refine wpl_seal S ?_) | (with_reducible refine cw_seal S ?_) | (with_reducible refine bp_seal S ?_) | (with_reducible refine ca_seal S ?_)); clear S; (try clear hc); intro w1 S; (try simp only [List.set_cons_zero, List.set_cons_succ, List.nil_append] at S); have hc := S.cells; simp only [Cells, cellsC, Im, Row, El, Nat.zero_add, Nat.reduceAdd] at hc) | (go_at_call 49; refine (ysized_c _ _ _ HO.out).mono ?_; rintro e w1 ⟨rfl, rfl⟩))
        refine bodyPost_ret (results_cell_tmpR rfl _ _ g4 29 _ (0, 0) _ rfl (S.cel 1 rfl) Try.underlying29 rfl (by kernel_rfl)) rfl ?_
        exact ⟨B, c, rfl, hyc, S.ret 2 rfl⟩
  · have hg3' : decide ((g : Int) > 3) = false := decide_eq_false (by omega)
    have hsg : 0 + q = g := by omega
    have hs0 : 0 % 4 = 0 := rfl
    obtain ⟨y0, hy0⟩ : ∃ y, x = y := ⟨_, rfl⟩
    have HY0 := As.mk (show layP x (0 + 0) = y0 by rw [← hy0]; exact lay_0 HX.out)
    have hc1 : y0.l.length ≤ n := by rw [← hy0]; exact hnc
    rw [hy0] at S hn
    rw [hy0]
    have hc := S.cells; simp only [Cells, cellsC, Im, Row, El, Nat.zero_add, Nat.reduceAdd] at hc
    go_enter Try.func32, Try.ntmps32
    go_wp2_with (first | ((first | (with_reducible refine wpl_seal S ?_) | (with_reducible refine cw_seal S ?_) | (with_reducible refine bp_seal S ?_) | (with_reducible refine ca_seal S ?_)); clear S; (try clear hc); intro w1 S; (try simp only [List.set_cons_zero, List.set_cons_succ, List.nil_append] at S); have hc := S.cells; simp only [Cells, cellsC, Im, Row, El, Nat.zero_add, Nat.reduceAdd] at hc))
    obtain ⟨g4, eg4⟩ := S.name 0 rfl; rw [← eg4] at S ⊢; clear eg4
    obtain ⟨g1, eg1⟩ := S.name 1 rfl; rw [← eg1] at S ⊢; clear eg1
    replace S := ((S.sel [1, 0, 2] (by decide) rfl (by simp) : SH _ _ _ [_, _, _] _ _) : SH _ _ _ [_, _, _] _ _)
    clear hc
    go_loopw [6] (fun iv w' => ∃ (k : Nat) (y : Mx) (B : Option Addr) (c : Nat) (J : Fp), iv = .int .i64 k ∧ k ≤ q ∧ y.l.length ≤ c ∧ As (layP x (0 + k) = y) ∧ As (SH No I w [Cel g1 29 [.int .i64 y.w, .int .i64 y.h, .slice B y.l.length c], Cel g4 29 [.int .i64 0, .int .i64 0, .slice none 0 0], Im kP B y.l] w' J)) (fun iv _ => q - (intOf iv).toNat)
    case atStart => exact ⟨0, y0, _, _, _, rfl, by omega, hc1, HY0, ⟨S⟩⟩
    case round =>
      clear S hc1
      obtain ⟨k, y, B, c, J, rfl, hk, hyc, HY, ⟨S⟩⟩ := hrel
      obtain ⟨hyo, hyl⟩ := HST.out _ y HY.out
      have HYO := As.mk hyo
      clear hyo
      by_cases hlt : k < q
      · have hlt' : decide ((k : Int) < q) = true := decide_eq_true (by omega)
        obtain ⟨y2, hy2⟩ : ∃ y2, quaP y = y2 := ⟨_, rfl⟩
        have HY2 : As (layP x (0 + (k + 1)) = y2) := ⟨by rw [← hy2, ← HY.out, HNX.out _ (by omega) (by omega)]; rfl⟩
        have HQ := As.mk hy2
        clear hy2
        have hc := S.cells; simp only [Cells, cellsC, Im, Row, El, Nat.zero_add, Nat.reduceAdd] at hc
        go_wp2_with (first | ((first | (with_reducible refine wpl_seal S ?_) | (with_reducible refine cw_seal S ?_) | (with_reducible refine bp_seal S ?_) | (with_reducible refine ca_seal S ?_)); clear S; (try clear hc); intro w1 S; (try simp only [List.set_cons_zero, List.set_cons_succ, List.nil_append] at S); have hc := S.cells; simp only [Cells, cellsC, Im, Row, El, Nat.zero_add, Nat.reduceAdd] at hc) | (go_at_call 48; refine (qua_c y B c _ _ S.bd (S.im 2 rfl) HYO.out hyl HQ.out).mono ?_; rintro e w1 ⟨B1, c1, rfl, hc1, hu⟩; obtain ⟨I1, S1, hI1⟩ := S.new hu; clear S hu hI1; (try clear hc); have S := S1; clear S1; have hc := S.cells; simp only [Cells, cellsC, Im, Row, El, Nat.zero_add, Nat.reduceAdd] at hc; have hc := S.cells; simp only [Cells, cellsC, Im, Row, El, Nat.zero_add, Nat.reduceAdd] at hc))
        go_roundw
        case rel => exact ⟨k + 1, y2, B1, c1, _, by go_num, by omega, hc1, HY2, ⟨(S.sel [1, 2, 0] (by decide) rfl (by simp) : SH _ _ _ [_, _, _] _ _)⟩⟩
        case measure => simp [intOf]; omega
      · have hlt' : decide ((k : Int) < q) = false := decide_eq_false (by omega)
        obtain rfl : k = q := by omega
        have HYZ : As (y = z) := ⟨by rw [← HY.out, ← HZ.out, hsg]⟩
        obtain rfl := HYZ.out
        have hc := S.cells; simp only [Cells, cellsC, Im, Row, El, Nat.zero_add, Nat.reduceAdd] at hc
        go_wp2_with (first | ((first | (with_reducible refine wpl_seal S ?_) | (with_reducible refine cw_seal S ?_) | (with_reducible refine bp_seal S ?_) | (with_reducible refine ca_seal S ?_)); clear S; (try clear hc); intro w1 S; (try simp only [List.set_cons_zero, List.set_cons_succ, List.nil_append] at S); have hc := S.cells; simp only [Cells, cellsC, Im, Row, El, Nat.zero_add, Nat.reduceAdd] at hc) | (go_at_call 49; refine (ysized_c _ _ _ HO.out).mono ?_; rintro e w1 ⟨rfl, rfl⟩))
        refine bodyPost_ret (results_cell_tmpR rfl _ _ g4 29 _ (0, 0) _ rfl (S.cel 1 rfl) Try.underlying29 rfl (by kernel_rfl)) rfl ?_
        exact ⟨B, c, rfl, hyc, S.ret 2 rfl⟩
end Go.Proofs.Ytnmlonicfncpfaa
