/- Where a matrix, an image, is among others. -/
import Derived.Test.YtnmlonicfncpfaaDSame
namespace Go.Proofs.Ytnmlonicfncpfaa
open Go.RowKit X
set_option maxHeartbeats 2000000
set_option maxRecDepth 8000
set_option linter.unusedSimpArgs false
set_option linter.unusedVariables false
/-- where the first one is that is y; -1 -/
def idxI {α : Type} [DecidableEq α] (l : List α) (y : α) : Int := if y ∈ l then (l.idxOf y : Int) else -1
theorem idxI_at {α : Type} [DecidableEq α] {l : List α} {y : α} {k : Nat} (h : k < l.length) (e : l[k] = y) (hn : ∀ (j : Nat) (h : j < l.length), j < k → l[j] ≠ y) : idxI l y = k := by
  unfold idxI
  rw [if_pos (e ▸ List.getElem_mem h)]
  congr 1
  have hm : y ∈ l := e ▸ List.getElem_mem h
  have h1 : l.idxOf y < l.length := List.idxOf_lt_length_iff.2 hm
  have h2 : l[l.idxOf y] = y := List.getElem_idxOf h1
  rcases Nat.lt_trichotomy (l.idxOf y) k with h3 | h3 | h3
  · exact absurd h2 (hn _ h1 h3)
  · exact h3
  · exfalso
    have : l.idxOf y ≤ k := by
      rw [List.idxOf]
      refine Nat.le_of_not_lt fun hc => ?_
      have := List.not_of_lt_findIdx (p := (· == y)) (xs := l) (i := k) hc
      simp [e] at this
    omega
theorem idxI_none {α : Type} [DecidableEq α] {l : List α} {y : α} (hn : ∀ (j : Nat) (h : j < l.length), l[j] ≠ y) : idxI l y = -1 := by
  unfold idxI
  rw [if_neg]
  intro hm
  obtain ⟨j, hj, e⟩ := List.mem_iff_getElem.1 hm
  exact hn j hj e
theorem cloM_c (x y : Mx) (A B : Option Addr) (c d : Nat) (g : Nat) (w : World) (I : Fp) (hI : ∀ b, I b → b < w.heap.size) (hx : Sl kP w I A x.l) (hy : Sl kP w I B y.l) (hn : y.l.length ≤ 1000000) (c0 : w.cell? ⟨g, 0, none⟩ = some (.int .i64 y.w)) (c1 : w.cell? ⟨g, 1, none⟩ = some (.int .i64 y.h)) (c2 : w.cell? ⟨g, 2, none⟩ = some (.slice B y.l.length d)) {r : Bool} (hr : decide (x = y) = r) :
    Calls Try.prog 44 #[mxV x A c, .pointer (some ⟨g, 0, none⟩)] w fun e w' => e = .returned (.bool r) ∧ Ext w w' := by
  have S := ((SH.start w I hI).know (h := Im kP A x.l) hx).know (h := Im kP B y.l) hy
  have HR := As.mk hr
  have HC := As.mk (And.intro c0 (And.intro c1 c2))
  clear hx hy hr c0 c1 c2
  have H := As.mk (fun w' I' hI' hx' hy' => sameM_c x y A B c d w' I' hI' hx' hy' hn HR.out)
  obtain ⟨a, b, l⟩ := x
  obtain ⟨a2, b2, l2⟩ := y
  dsimp only [mxV] at *
  have hc := S.cells; simp only [Cells, cellsC, Im, Row, El, Nat.zero_add, Nat.reduceAdd] at hc
  go_enter Try.func44, Try.ntmps44
  go_wp2_with (first | ((first | (with_reducible refine wpl_seal S ?_) | (with_reducible refine cw_seal S ?_) | (with_reducible refine bp_seal S ?_) | (with_reducible refine ca_seal S ?_)); clear S; (try clear hc); intro w1 S; (try simp only [List.set_cons_zero, List.set_cons_succ, List.nil_append] at S); have hc := S.cells; simp only [Cells, cellsC, Im, Row, El, Nat.zero_add, Nat.reduceAdd] at hc; have k0 := S.out.cell HC.out.1; have k1 := S.out.cell HC.out.2.1; have k2 := S.out.cell HC.out.2.2) | (go_at_call 45; refine (H.out _ _ S.bd (S.im 2 rfl) (S.im 1 rfl)).mono ?_; rintro e w1 ⟨rfl, hx⟩; replace S := S.ext hx; clear hx; (try clear hc); have hc := S.cells; simp only [Cells, cellsC, Im, Row, El, Nat.zero_add, Nat.reduceAdd] at hc))
  go_ret
  exact ⟨rfl, S.out⟩
theorem indexM_c (l : List Mx) (y : Mx) (A B : Option Addr) (n d : Nat) (g : Nat) (w : World) (I : Fp) (hI : ∀ b, I b → b < w.heap.size) (hl : Sl kM w I A l) (hy : Sl kP w I B y.l) (hn : y.l.length ≤ 1000000) (hln : l.length ≤ 1000000) (c0 : w.cell? ⟨g, 0, none⟩ = some (.int .i64 y.w)) (c1 : w.cell? ⟨g, 1, none⟩ = some (.int .i64 y.h)) (c2 : w.cell? ⟨g, 2, none⟩ = some (.slice B y.l.length d)) {r : Int} (hr : idxI l y = r) :
    Calls Try.prog 43 #[.slice A l.length n, .func (.func 44) #[] #[.pointer (some ⟨g, 0, none⟩)]] w fun e w' => e = .returned (.int .i64 r) ∧ Ext w w' := by
  have HL := As.mk hl
  have HY := As.mk hy
  have HC := As.mk (And.intro c0 (And.intro c1 c2))
  have HR := As.mk hr
  have HI := As.mk hI
  clear hl hy hr hI c0 c1 c2
  go_enter Try.func43, Try.ntmps43
  go_wp2_with fail
  go_loopw [8] (fun i w' => ∃ (k : Nat), k ≤ l.length ∧ i = .int .i64 k ∧ As (∀ (j : Nat) (h : j < l.length), j < k → l[j] ≠ y) ∧ As (Ext w w')) (fun i _ => l.length - (intOf i).toNat)
  case atStart => exact ⟨0, by omega, rfl, ⟨fun j _ h => absurd h (Nat.not_lt_zero j)⟩, ⟨Ext.refl w⟩⟩
  case round =>
    obtain ⟨k, hk, rfl, HK, HX⟩ := hrel
    by_cases hlt : k < l.length
    · have hlt' : decide ((k : Int) < l.length) = true := by simp; omega
      have hl2 : Sl kM wr I A l := HL.out.keep (fun b hb _ => HX.out.block b hb)
      have hy2 : Sl kP wr I B y.l := HY.out.keep (fun b hb _ => HX.out.block b hb)
      have HI2 : As (∀ b, I b → b < wr.heap.size) := ⟨fun b hb => Nat.lt_of_lt_of_le (HI.out b hb) HX.out.size⟩
      obtain ⟨b, o, A2, c2, rfl, g0, g1, g2, hcl, hx2⟩ := hl2.mx_at (List.getElem?_eq_getElem hlt)
      obtain ⟨q, hq⟩ : ∃ q, decide (l[k] = y) = q := ⟨_, rfl⟩
      have HQ := As.mk hq
      have HH := As.mk (And.intro hx2 hy2)
      have HF : As (q = true → idxI l y = k) := ⟨fun h => idxI_at hlt (of_decide_eq_true (by rw [hq, h])) HK.out⟩
      have HT : As (q = false → ∀ (j : Nat) (h : j < l.length), j < k + 1 → l[j] ≠ y) := ⟨fun h0 j hj h => by
        rcases Nat.lt_or_eq_of_le (Nat.le_of_lt_succ h) with h1 | h1
        · exact HK.out j hj h1
        · subst h1; exact of_decide_eq_false (by rw [hq, h0])⟩
      clear hl2 hy2 hx2 hq
      generalize l[k] = x at g0 g1 g2 HQ HH hcl
      have HCL := As.mk (cloM_c x y A2 B c2 d g wr I HI2.out HH.out.1 HH.out.2 hn (HX.out.cell HC.out.1) (HX.out.cell HC.out.2.1) (HX.out.cell HC.out.2.2) HQ.out)
      dsimp only [mxV] at HCL
      cases q
      · go_wp2_with (go_at_call 44; refine HCL.out.mono ?_; rintro e w1 ⟨rfl, hx⟩; have HX2 := As.mk (HX.out.tr hx); clear hx)
        go_roundw
        case rel => exact ⟨k + 1, by omega, by go_num, ⟨HT.out (by first | rfl | trivial)⟩, HX2⟩
        case measure => simp [intOf]; omega
      · go_wp2_with (go_at_call 44; refine HCL.out.mono ?_; rintro e w1 ⟨rfl, hx⟩; have HX2 := As.mk (HX.out.tr hx); clear hx)
        go_ret
        have hF := HF.out (by first | rfl | trivial)
        exact ⟨by rw [← HR.out, hF]; rfl, HX2.out⟩
    · have hlt' : decide ((k : Int) < l.length) = false := by simp; omega
      have hN := As.mk (idxI_none (l := l) (y := y) fun j hj => HK.out j hj (by omega))
      go_wp2_with fail
      go_ret
      exact ⟨by rw [← HR.out, hN.out]; rfl, HX.out⟩
theorem cloG_c (x y : Pic) (A B : Option Addr) (c d : Nat) (g : Nat) (w : World) (I : Fp) (hI : ∀ b, I b → b < w.heap.size) (hx : Sl kP w I A x.x.l) (hy : Sl kP w I B y.x.l) (hn : y.x.l.length ≤ 1000000) (c0 : w.cell? ⟨g, 0, none⟩ = some (.int .i64 y.c)) (c1 : w.cell? ⟨g, 1, none⟩ = some (.int .i64 y.m)) (c2 : w.cell? ⟨g, 2, none⟩ = some (.int .i64 y.x.w)) (c3 : w.cell? ⟨g, 3, none⟩ = some (.int .i64 y.x.h)) (c4 : w.cell? ⟨g, 4, none⟩ = some (.slice B y.x.l.length d)) {r : Bool} (hr : decide (x = y) = r) :
    Calls Try.prog 29 #[picV x A c, .pointer (some ⟨g, 0, none⟩)] w fun e w' => e = .returned (.bool r) ∧ Ext w w' := by
  have S := ((SH.start w I hI).know (h := Im kP A x.x.l) hx).know (h := Im kP B y.x.l) hy
  have HR := As.mk hr
  have HC := As.mk (And.intro c0 (And.intro c1 (And.intro c2 (And.intro c3 c4))))
  clear hx hy hr c0 c1 c2 c3 c4
  have H := As.mk (fun w' I' hI' hx' hy' => sameG_c x y A B c d w' I' hI' hx' hy' hn HR.out)
  obtain ⟨p1, p2, a, b, l⟩ := x
  obtain ⟨q1, q2, a2, b2, l2⟩ := y
  dsimp only [picV] at *
  have hc := S.cells; simp only [Cells, cellsC, Im, Row, El, Nat.zero_add, Nat.reduceAdd] at hc
  go_enter Try.func29, Try.ntmps29
  go_wp2_with (first | ((first | (with_reducible refine wpl_seal S ?_) | (with_reducible refine cw_seal S ?_) | (with_reducible refine bp_seal S ?_) | (with_reducible refine ca_seal S ?_)); clear S; (try clear hc); intro w1 S; (try simp only [List.set_cons_zero, List.set_cons_succ, List.nil_append] at S); have hc := S.cells; simp only [Cells, cellsC, Im, Row, El, Nat.zero_add, Nat.reduceAdd] at hc; have k0 := S.out.cell HC.out.1; have k1 := S.out.cell HC.out.2.1; have k2 := S.out.cell HC.out.2.2.1; have k3 := S.out.cell HC.out.2.2.2.1; have k4 := S.out.cell HC.out.2.2.2.2) | (go_at_call 30; refine (H.out _ _ S.bd (S.im 2 rfl) (S.im 1 rfl)).mono ?_; rintro e w1 ⟨rfl, hx⟩; replace S := S.ext hx; clear hx; (try clear hc); have hc := S.cells; simp only [Cells, cellsC, Im, Row, El, Nat.zero_add, Nat.reduceAdd] at hc))
  go_ret
  exact ⟨rfl, S.out⟩
theorem indexG_c (l : List Pic) (y : Pic) (A B : Option Addr) (n d : Nat) (g : Nat) (w : World) (I : Fp) (hI : ∀ b, I b → b < w.heap.size) (hl : Sl kG w I A l) (hy : Sl kP w I B y.x.l) (hn : y.x.l.length ≤ 1000000) (hln : l.length ≤ 1000000) (c0 : w.cell? ⟨g, 0, none⟩ = some (.int .i64 y.c)) (c1 : w.cell? ⟨g, 1, none⟩ = some (.int .i64 y.m)) (c2 : w.cell? ⟨g, 2, none⟩ = some (.int .i64 y.x.w)) (c3 : w.cell? ⟨g, 3, none⟩ = some (.int .i64 y.x.h)) (c4 : w.cell? ⟨g, 4, none⟩ = some (.slice B y.x.l.length d)) {r : Int} (hr : idxI l y = r) :
    Calls Try.prog 28 #[.slice A l.length n, .func (.func 29) #[] #[.pointer (some ⟨g, 0, none⟩)]] w fun e w' => e = .returned (.int .i64 r) ∧ Ext w w' := by
  have HL := As.mk hl
  have HY := As.mk hy
  have HC := As.mk (And.intro c0 (And.intro c1 (And.intro c2 (And.intro c3 c4))))
  have HR := As.mk hr
  have HI := As.mk hI
  clear hl hy hr hI c0 c1 c2 c3 c4
  go_enter Try.func28, Try.ntmps28
  go_wp2_with fail
  go_loopw [8] (fun i w' => ∃ (k : Nat), k ≤ l.length ∧ i = .int .i64 k ∧ As (∀ (j : Nat) (h : j < l.length), j < k → l[j] ≠ y) ∧ As (Ext w w')) (fun i _ => l.length - (intOf i).toNat)
  case atStart => exact ⟨0, by omega, rfl, ⟨fun j _ h => absurd h (Nat.not_lt_zero j)⟩, ⟨Ext.refl w⟩⟩
  case round =>
    obtain ⟨k, hk, rfl, HK, HX⟩ := hrel
    by_cases hlt : k < l.length
    · have hlt' : decide ((k : Int) < l.length) = true := by simp; omega
      have hl2 : Sl kG wr I A l := HL.out.keep (fun b hb _ => HX.out.block b hb)
      have hy2 : Sl kP wr I B y.x.l := HY.out.keep (fun b hb _ => HX.out.block b hb)
      have HI2 : As (∀ b, I b → b < wr.heap.size) := ⟨fun b hb => Nat.lt_of_lt_of_le (HI.out b hb) HX.out.size⟩
      obtain ⟨b, o, A2, c2, rfl, ⟨g0, g1, g2, g3, g4⟩, hcl, hx2⟩ := hl2.pic_at (List.getElem?_eq_getElem hlt)
      obtain ⟨q, hq⟩ : ∃ q, decide (l[k] = y) = q := ⟨_, rfl⟩
      have HQ := As.mk hq
      have HH := As.mk (And.intro hx2 hy2)
      have HF : As (q = true → idxI l y = k) := ⟨fun h => idxI_at hlt (of_decide_eq_true (by rw [hq, h])) HK.out⟩
      have HT : As (q = false → ∀ (j : Nat) (h : j < l.length), j < k + 1 → l[j] ≠ y) := ⟨fun h0 j hj h => by
        rcases Nat.lt_or_eq_of_le (Nat.le_of_lt_succ h) with h1 | h1
        · exact HK.out j hj h1
        · subst h1; exact of_decide_eq_false (by rw [hq, h0])⟩
      clear hl2 hy2 hx2 hq
      generalize l[k] = x at g0 g1 g2 g3 g4 HQ HH hcl
      have HCL := As.mk (cloG_c x y A2 B c2 d g wr I HI2.out HH.out.1 HH.out.2 hn (HX.out.cell HC.out.1) (HX.out.cell HC.out.2.1) (HX.out.cell HC.out.2.2.1) (HX.out.cell HC.out.2.2.2.1) (HX.out.cell HC.out.2.2.2.2) HQ.out)
      dsimp only [picV] at HCL
      cases q
      · go_wp2_with (go_at_call 29; refine HCL.out.mono ?_; rintro e w1 ⟨rfl, hx⟩; have HX2 := As.mk (HX.out.tr hx); clear hx)
        go_roundw
        case rel => exact ⟨k + 1, by omega, by go_num, ⟨HT.out (by first | rfl | trivial)⟩, HX2⟩
        case measure => simp [intOf]; omega
      · go_wp2_with (go_at_call 29; refine HCL.out.mono ?_; rintro e w1 ⟨rfl, hx⟩; have HX2 := As.mk (HX.out.tr hx); clear hx)
        go_ret
        have hF := HF.out (by first | rfl | trivial)
        exact ⟨by rw [← HR.out, hF]; rfl, HX2.out⟩
    · have hlt' : decide ((k : Int) < l.length) = false := by simp; omega
      have hN := As.mk (idxI_none (l := l) (y := y) fun j hj => HK.out j hj (by omega))
      go_wp2_with fail
      go_ret
      exact ⟨by rw [← HR.out, hN.out]; rfl, HX.out⟩
end Go.Proofs.Ytnmlonicfncpfaa
