/- Whether an image may be. -/
import Derived.Test.YtnmlonicfncpfaaDFit
import Derived.Test.YtnmlonicfncpfaaDRec
namespace Go.Proofs.Ytnmlonicfncpfaa
open Go.RowKit X
set_option maxHeartbeats 1000000
set_option maxRecDepth 8000
set_option linter.unusedSimpArgs false
set_option linter.unusedVariables false
theorem indexFit_c (l : List Int) (c m : Int) (A : Option Addr) (n : Nat) (g : Nat) (w : World) (D : Fp) (hl : Sl kP w D A l) (hn : l.length ≤ 1000000) (hu : ∀ p ∈ l, U64 p) (h0 : w.cell? ⟨g, 0, none⟩ = some (.int .i64 c)) (h1 : w.cell? ⟨g, 1, none⟩ = some (.int .i64 m)) :
    Calls Try.prog 67 #[.slice A l.length n, .func (.func 54) #[] #[.pointer (some ⟨g, 0, none⟩)]] w fun e w' => ∃ q : Int, e = .returned (.int .i64 q) ∧ decide (0 ≤ q) = !(allFit c m l) ∧ Ext w w' := by
  have HL := As.mk hl
  have HU := As.mk hu
  have HC := As.mk (And.intro h0 h1)
  clear hl hu h0 h1
  go_enter Try.func67, Try.ntmps67
  go_wp2_with fail
  go_loopw [8] (fun i w' => ∃ (k : Nat), k ≤ l.length ∧ i = .int .i64 k ∧ As (∀ (j : Nat) (h : j < l.length), j < k → fitsP l[j] c m = true) ∧ As (Ext w w')) (fun i _ => l.length - (intOf i).toNat)
  case atStart => exact ⟨0, by omega, rfl, ⟨fun j _ h => absurd h (Nat.not_lt_zero j)⟩, ⟨Ext.refl w⟩⟩
  case round =>
    obtain ⟨k, hk, rfl, HK, HX⟩ := hrel
    by_cases hlt : k < l.length
    · have hlt' : decide ((k : Int) < l.length) = true := by simp; omega
      obtain ⟨b, o, rfl, hcx⟩ := (HL.out.keep (fun b hb _ => HX.out.block b hb)).num_at (List.getElem?_eq_getElem hlt)
      obtain ⟨q, hq⟩ : ∃ q, fitsP l[k] c m = q := ⟨_, rfl⟩
      have HQ := As.mk hq
      have HP := As.mk (HU.out _ (List.getElem_mem hlt))
      have HT : As (q = true → ∀ (j : Nat) (h : j < l.length), j < k + 1 → fitsP l[j] c m = true) := ⟨fun hq1 j hj h => by
        rcases Nat.lt_or_eq_of_le (Nat.le_of_lt_succ h) with h1 | h1
        · exact HK.out j hj h1
        · subst h1; rw [hq, hq1]⟩
      have HF : As (q = false → allFit c m l = false) := ⟨fun hq1 => by
        unfold allFit
        rw [List.all_eq_false]
        exact ⟨_, List.getElem_mem hlt, by rw [hq, hq1]; decide⟩⟩
      clear hq
      generalize l[k] = y at hcx HQ HP
      cases q
      · go_wp2_with (go_at_call 54; refine (fitsClo_c y c m HP.out g _ No (fun _ h => h.elim) (HX.out.cell HC.out.1) (HX.out.cell HC.out.2) HQ.out).mono ?_; rintro e w1 ⟨rfl, hx⟩; have HX2 := As.mk (HX.out.tr hx); clear hx)
        go_ret
        exact ⟨_, rfl, by rw [HF.out (by first | rfl | trivial)]; simp, HX2.out⟩
      · go_wp2_with (go_at_call 54; refine (fitsClo_c y c m HP.out g _ No (fun _ h => h.elim) (HX.out.cell HC.out.1) (HX.out.cell HC.out.2) HQ.out).mono ?_; rintro e w1 ⟨rfl, hx⟩; have HX2 := As.mk (HX.out.tr hx); clear hx)
        go_roundw
        case rel => exact ⟨k + 1, by omega, by go_num, ⟨HT.out (by first | rfl | trivial)⟩, HX2⟩
        case measure => simp [intOf]; omega
    · have hlt' : decide ((k : Int) < l.length) = false := by simp; omega
      have HA : As (allFit c m l = true) := ⟨by
        unfold allFit
        rw [List.all_eq_true]
        intro x hx
        obtain ⟨j, hj, rfl⟩ := List.mem_iff_getElem.1 hx
        exact HK.out j hj (by omega)⟩
      go_wp2_with fail
      go_ret
      exact ⟨_, rfl, by rw [HA.out]; rfl, HX.out⟩
theorem contFit_c (l : List Int) (c m : Int) (A : Option Addr) (n : Nat) (g : Nat) (w : World) (D : Fp) (hl : Sl kP w D A l) (hn : l.length ≤ 1000000) (hu : ∀ p ∈ l, U64 p) (h0 : w.cell? ⟨g, 0, none⟩ = some (.int .i64 c)) (h1 : w.cell? ⟨g, 1, none⟩ = some (.int .i64 m)) {r : Bool} (hr : allFit c m l = r) :
    Calls Try.prog 53 #[.slice A l.length n, .func (.func 54) #[] #[.pointer (some ⟨g, 0, none⟩)]] w fun e w' => e = .returned (.bool (!r)) ∧ Ext w w' := by
  have HI := As.mk (indexFit_c l c m A n g w D hl hn hu h0 h1)
  have HR := As.mk hr
  clear hl hu h0 h1 hr
  go_enter Try.func53, Try.ntmps53
  go_wp2_with (go_at_call 67; refine HI.out.mono ?_; rw [HR.out]; rintro e w1 ⟨q, rfl, hq, hx⟩; have HQ := As.mk hq; have HX := As.mk hx; clear hq hx)
  go_ret
  exact ⟨by first | exact congrArg (fun b => Ending.returned (.bool b)) HQ.out | (rw [← HQ.out]; rfl), HX.out⟩
def mayG (p : Pic) : Bool := mayX p.x && allFit p.c p.m p.x.l
theorem fitsM_c (x : Mx) (c m : Int) (A : Option Addr) (n : Nat) (w : World) (I : Fp) (hI : ∀ b, I b → b < w.heap.size) (hl : Sl kP w I A x.l) (hn : x.l.length ≤ 1000000) (hu : ∀ p ∈ x.l, U64 p) {r : Bool} (hr : (mayX x && allFit c m x.l) = r) :
    Calls Try.prog 35 #[mxV x A n, .agg #[.int .i64 c, .int .i64 m]] w fun e w' => e = .returned (.bool r) ∧ Ext w w' := by
  have S := (SH.start w I hI).know (h := Im kP A x.l) hl
  have HU := As.mk hu
  obtain ⟨q1, hq1⟩ : ∃ q, mayX x = q := ⟨_, rfl⟩
  obtain ⟨q2, hq2⟩ : ∃ q, allFit c m x.l = q := ⟨_, rfl⟩
  rw [hq1, hq2] at hr
  have H1 := As.mk hq1
  have H2 := As.mk hq2
  clear hq1 hq2 hl hu
  obtain ⟨a, b, l⟩ := x
  dsimp only [mxV] at *
  have hc := S.cells; simp only [Cells, cellsC, Im, Row, El, Nat.zero_add, Nat.reduceAdd] at hc
  rcases q1 with _ | _
  · subst hr
    go_enter Try.func35, Try.ntmps35
    go_wp2_with (first | ((first | (with_reducible refine wpl_seal S ?_) | (with_reducible refine cw_seal S ?_) | (with_reducible refine bp_seal S ?_) | (with_reducible refine ca_seal S ?_)); clear S; (try clear hc); intro w1 S; (try simp only [List.set_cons_zero, List.set_cons_succ, List.nil_append] at S); have hc := S.cells; simp only [Cells, cellsC, Im, Row, El, Nat.zero_add, Nat.reduceAdd] at hc) | (go_at_call 52; refine (mayM_c ⟨a, b, l⟩ A n _ _ S.bd H1.out).mono ?_; rintro e w1 ⟨rfl, hx⟩; replace S := S.ext hx; clear hx; (try clear hc); have hc := S.cells; simp only [Cells, cellsC, Im, Row, El, Nat.zero_add, Nat.reduceAdd] at hc))
    go_ret
    exact ⟨rfl, S.out⟩
  · subst hr
    go_enter Try.func35, Try.ntmps35
    go_wp2_with (first | ((first | (with_reducible refine wpl_seal S ?_) | (with_reducible refine cw_seal S ?_) | (with_reducible refine bp_seal S ?_) | (with_reducible refine ca_seal S ?_)); clear S; (try clear hc); intro w1 S; (try simp only [List.set_cons_zero, List.set_cons_succ, List.nil_append] at S); have hc := S.cells; simp only [Cells, cellsC, Im, Row, El, Nat.zero_add, Nat.reduceAdd] at hc) | (go_at_call 52; refine (mayM_c ⟨a, b, l⟩ A n _ _ S.bd H1.out).mono ?_; rintro e w1 ⟨rfl, hx⟩; replace S := S.ext hx; clear hx; (try clear hc); have hc := S.cells; simp only [Cells, cellsC, Im, Row, El, Nat.zero_add, Nat.reduceAdd] at hc) | (go_at_call 53; refine (contFit_c l c m A n _ _ _ (S.im 2 rfl) (by omega) HU.out (S.cell 0 0 rfl rfl) (S.cell 0 1 rfl rfl) H2.out).mono ?_; rintro e w1 ⟨rfl, hx⟩; replace S := S.ext hx; clear hx; (try clear hc); have hc := S.cells; simp only [Cells, cellsC, Im, Row, El, Nat.zero_add, Nat.reduceAdd] at hc))
    go_ret
    exact ⟨by simp, S.out⟩
abbrev picV (p : Pic) (A : Option Addr) (c : Nat) : Value := .agg #[.int .i64 p.c, .int .i64 p.m, .int .i64 p.x.w, .int .i64 p.x.h, .slice A p.x.l.length c]
theorem mayI_c (p : Pic) (A : Option Addr) (n : Nat) (w : World) (I : Fp) (hI : ∀ b, I b → b < w.heap.size) (hl : Sl kP w I A p.x.l) (hn : p.x.l.length ≤ 1000000) (hu : ∀ q ∈ p.x.l, U64 q) {r : Bool} (hr : mayG p = r) :
    Calls Try.prog 20 #[picV p A n] w fun e w' => e = .returned (.bool r) ∧ Ext w w' := by
  have S := (SH.start w I hI).know (h := Im kP A p.x.l) hl
  have HU := As.mk hu
  have HR := As.mk hr
  clear hl hu hr
  obtain ⟨c, m, a, b, l⟩ := p
  dsimp only [picV] at *
  have hc := S.cells; simp only [Cells, cellsC, Im, Row, El, Nat.zero_add, Nat.reduceAdd] at hc
  go_enter Try.func20, Try.ntmps20
  go_wp2_with (first | ((first | (with_reducible refine wpl_seal S ?_) | (with_reducible refine cw_seal S ?_) | (with_reducible refine bp_seal S ?_) | (with_reducible refine ca_seal S ?_)); clear S; (try clear hc); intro w1 S; (try simp only [List.set_cons_zero, List.set_cons_succ, List.nil_append] at S); have hc := S.cells; simp only [Cells, cellsC, Im, Row, El, Nat.zero_add, Nat.reduceAdd] at hc) | (go_at_call 35; refine (fitsM_c ⟨a, b, l⟩ c m A n _ _ S.bd (S.im 1 rfl) hn HU.out HR.out).mono ?_; rintro e w1 ⟨rfl, hx⟩; replace S := S.ext hx; clear hx; (try clear hc); have hc := S.cells; simp only [Cells, cellsC, Im, Row, El, Nat.zero_add, Nat.reduceAdd] at hc))
  go_ret
  exact ⟨rfl, S.out⟩
end Go.Proofs.Ytnmlonicfncpfaa
