/- Images of the document: the same, found among others, laid; the variants of templates. -/
import Derived.Test.YtnmlonicfncpfaaGreatDYLa
import Derived.Test.YtnmlonicfncpfaaGreatDSame
import Derived.Test.YtnmlonicfncpfaaGreatFork
namespace Go.Proofs.YtnmlonicfncpfaaGreat
open Go.RowKit X
set_option maxHeartbeats 4000000
set_option maxRecDepth 8000
set_option linter.unusedSimpArgs false
set_option linter.unusedVariables false
theorem ysameM_c (x y : Mx) (A B : Option Addr) (c d : Nat) (w : World) (I : Fp) (hI : ∀ b, I b → b < w.heap.size) (hx : Sl kP w I A x.l) (hy : Sl kP w I B y.l) (hn : y.l.length ≤ 1000000) {r : Bool} (hr : decide (x = y) = r) :
    Calls Tryz.prog 66 #[mxV x A c, mxV y B d] w fun e w' => e = .returned (.bool r) ∧ Ext w w' := by
  have S := ((SH.start w I hI).know (h := Im kP A x.l) hx).know (h := Im kP B y.l) hy
  obtain ⟨a, b, l⟩ := x
  obtain ⟨a2, b2, l2⟩ := y
  dsimp only [mxV] at *
  have F : As (∀ q : Bool, (q = true ↔ a = a2 ∧ b = b2 ∧ l = l2) → q = r) := ⟨fun q h => by rw [← hr, Bool.eq_iff_iff, h, decide_eq_true_eq, Mx.mk.injEq]⟩
  clear hx hy hr
  have hc := S.cells; simp only [Cells, cellsC, Im, Row, El, Nat.zero_add, Nat.reduceAdd] at hc
  by_cases h1 : a = a2
  · have h1' : (a == a2) = true := by rw [h1]; exact beq_self_eq_true _
    by_cases h2 : b = b2
    · have h2' : (b == b2) = true := by rw [h2]; exact beq_self_eq_true _
      have HR := As.mk (F.out (decide (l = l2)) (by simp [h1, h2]))
      clear F h1 h2
      go_enter Tryz.func66, Tryz.ntmps66
      go_wp2_with (first | ((first | (with_reducible refine wpl_seal S ?_) | (with_reducible refine cw_seal S ?_) | (with_reducible refine bp_seal S ?_) | (with_reducible refine ca_seal S ?_)); clear S; (try clear hc); intro w1 S; (try simp only [List.set_cons_zero, List.set_cons_succ, List.nil_append] at S); have hc := S.cells; simp only [Cells, cellsC, Im, Row, El, Nat.zero_add, Nat.reduceAdd] at hc) | (go_at_call 83; refine (sameRow_c l l2 A B c d _ _ _ (S.im 3 rfl) (S.im 2 rfl) hn).mono ?_; rw [HR.out]; rintro e w1 ⟨rfl, hx⟩; have hx := hx.ext; replace S := S.ext hx; clear hx; (try clear hc); have hc := S.cells; simp only [Cells, cellsC, Im, Row, El, Nat.zero_add, Nat.reduceAdd] at hc))
      go_ret
      exact ⟨rfl, S.out⟩
    · have h2' : (b == b2) = false := by rw [beq_eq_false_iff_ne]; exact h2
      have HR := As.mk (F.out false (by simp [h2]))
      clear F h1 h2
      go_enter Tryz.func66, Tryz.ntmps66
      go_wp2_with (first | ((first | (with_reducible refine wpl_seal S ?_) | (with_reducible refine cw_seal S ?_) | (with_reducible refine bp_seal S ?_) | (with_reducible refine ca_seal S ?_)); clear S; (try clear hc); intro w1 S; (try simp only [List.set_cons_zero, List.set_cons_succ, List.nil_append] at S); have hc := S.cells; simp only [Cells, cellsC, Im, Row, El, Nat.zero_add, Nat.reduceAdd] at hc))
      go_ret
      exact ⟨by rw [← HR.out]; rfl, S.out⟩
  · have h1' : (a == a2) = false := by rw [beq_eq_false_iff_ne]; exact h1
    have HR := As.mk (F.out false (by simp [h1]))
    clear F h1
    go_enter Tryz.func66, Tryz.ntmps66
    go_wp2_with (first | ((first | (with_reducible refine wpl_seal S ?_) | (with_reducible refine cw_seal S ?_) | (with_reducible refine bp_seal S ?_) | (with_reducible refine ca_seal S ?_)); clear S; (try clear hc); intro w1 S; (try simp only [List.set_cons_zero, List.set_cons_succ, List.nil_append] at S); have hc := S.cells; simp only [Cells, cellsC, Im, Row, El, Nat.zero_add, Nat.reduceAdd] at hc))
    go_ret
    exact ⟨by rw [← HR.out]; rfl, S.out⟩
theorem ysameG_c (p q : Pic) (A B : Option Addr) (c d : Nat) (w : World) (I : Fp) (hI : ∀ b, I b → b < w.heap.size) (hx : Sl kP w I A p.x.l) (hy : Sl kP w I B q.x.l) (hn : q.x.l.length ≤ 1000000) {r : Bool} (hr : decide (p = q) = r) :
    Calls Tryz.prog 37 #[picV p A c, picV q B d] w fun e w' => e = .returned (.bool r) ∧ Ext w w' := by
  have S := ((SH.start w I hI).know (h := Im kP A p.x.l) hx).know (h := Im kP B q.x.l) hy
  obtain ⟨c1, m1, x⟩ := p
  obtain ⟨c2, m2, y⟩ := q
  have F : As (∀ q : Bool, (q = true ↔ x = y ∧ (c1 = c2 ∧ m1 = m2)) → q = r) := ⟨fun q h => by rw [← hr, Bool.eq_iff_iff, h, decide_eq_true_eq, Pic.mk.injEq]; constructor <;> (rintro ⟨h1, h2⟩; first | exact ⟨h2.1, h2.2, h1⟩ | exact ⟨h2.2, h1, h2.1⟩)⟩
  obtain ⟨s, hs⟩ : ∃ s, decide (x = y) = s := ⟨_, rfl⟩
  have HSM := As.mk (fun w' I' hI' hx' hy' => ysameM_c x y A B c d w' I' hI' hx' hy' hn hs)
  have HS := As.mk hs
  obtain ⟨a, b, l⟩ := x
  obtain ⟨a2, b2, l2⟩ := y
  dsimp only [picV, mxV] at *
  clear hx hy hr hs
  have hc := S.cells; simp only [Cells, cellsC, Im, Row, El, Nat.zero_add, Nat.reduceAdd] at hc
  rcases s with _ | _
  · have HR := As.mk (F.out false (by simp only [Bool.false_eq_true, false_iff]; exact fun e => of_decide_eq_false HS.out e.1))
    clear F
    go_enter Tryz.func37, Tryz.ntmps37
    go_wp2_with (first | ((first | (with_reducible refine wpl_seal S ?_) | (with_reducible refine cw_seal S ?_) | (with_reducible refine bp_seal S ?_) | (with_reducible refine ca_seal S ?_)); clear S; (try clear hc); intro w1 S; (try simp only [List.set_cons_zero, List.set_cons_succ, List.nil_append] at S); have hc := S.cells; simp only [Cells, cellsC, Im, Row, El, Nat.zero_add, Nat.reduceAdd] at hc) | (go_at_call 66; refine (HSM.out _ _ S.bd (S.im 3 rfl) (S.im 2 rfl)).mono ?_; rintro e w1 ⟨rfl, hx⟩; replace S := S.ext hx; clear hx; (try clear hc); have hc := S.cells; simp only [Cells, cellsC, Im, Row, El, Nat.zero_add, Nat.reduceAdd] at hc))
    go_ret
    exact ⟨by rw [← HR.out]; rfl, S.out⟩
  · by_cases h1 : c1 = c2 ∧ m1 = m2
    · obtain ⟨rfl, rfl⟩ := h1
      have HR := As.mk (F.out true (iff_of_true rfl ⟨of_decide_eq_true HS.out, rfl, rfl⟩))
      clear F
      go_enter Tryz.func37, Tryz.ntmps37
      go_wp2_with (first | ((first | (with_reducible refine wpl_seal S ?_) | (with_reducible refine cw_seal S ?_) | (with_reducible refine bp_seal S ?_) | (with_reducible refine ca_seal S ?_)); clear S; (try clear hc); intro w1 S; (try simp only [List.set_cons_zero, List.set_cons_succ, List.nil_append] at S); have hc := S.cells; simp only [Cells, cellsC, Im, Row, El, Nat.zero_add, Nat.reduceAdd] at hc) | (go_at_call 66; refine (HSM.out _ _ S.bd (S.im 3 rfl) (S.im 2 rfl)).mono ?_; rintro e w1 ⟨rfl, hx⟩; replace S := S.ext hx; clear hx; (try clear hc); have hc := S.cells; simp only [Cells, cellsC, Im, Row, El, Nat.zero_add, Nat.reduceAdd] at hc))
      all_goals first | (exfalso; simp_all; done) | (go_ret; exact ⟨by rw [← HR.out]; first | rfl | simp, S.out⟩)
    · have HR := As.mk (F.out false (by simp only [Bool.false_eq_true, false_iff]; exact fun e => h1 e.2))
      have H1 := As.mk h1
      clear F h1
      go_enter Tryz.func37, Tryz.ntmps37
      go_wp2_with (first | ((first | (with_reducible refine wpl_seal S ?_) | (with_reducible refine cw_seal S ?_) | (with_reducible refine bp_seal S ?_) | (with_reducible refine ca_seal S ?_)); clear S; (try clear hc); intro w1 S; (try simp only [List.set_cons_zero, List.set_cons_succ, List.nil_append] at S); have hc := S.cells; simp only [Cells, cellsC, Im, Row, El, Nat.zero_add, Nat.reduceAdd] at hc) | (go_at_call 66; refine (HSM.out _ _ S.bd (S.im 3 rfl) (S.im 2 rfl)).mono ?_; rintro e w1 ⟨rfl, hx⟩; replace S := S.ext hx; clear hx; (try clear hc); have hc := S.cells; simp only [Cells, cellsC, Im, Row, El, Nat.zero_add, Nat.reduceAdd] at hc))
      all_goals first | exact absurd ⟨by assumption, by assumption⟩ H1.out | (go_ret; exact ⟨by rw [← HR.out]; rfl, S.out⟩)
theorem find_c (l : List Pic) (y : Pic) (A B : Option Addr) (n d : Nat) (w : World) (I : Fp) (hI : ∀ b, I b → b < w.heap.size) (hl : Sl kyG w I A l) (hy : Sl kP w I B y.x.l) (hn : y.x.l.length ≤ 1000000) (hln : l.length ≤ 1000000) {r : Int} (hr : idxI l y = r) :
    Calls Tryz.prog 65 #[.slice A l.length n, picV y B d] w fun e w' => e = .returned (.int .i64 r) ∧ Ext w w' := by
  have S := ((SH.start w I hI).know (h := Im kP B y.x.l) hy).know (h := Im kyG A l) hl
  have HR := As.mk hr
  have HSG := As.mk (fun (p : Pic) A' c' q w' I' hI' hx' hy' (hq : decide (p = y) = q) => ysameG_c p y A' B c' d w' I' hI' hx' hy' hn hq)
  obtain ⟨Y, hY⟩ : ∃ Y : Pic, y = Y := ⟨_, rfl⟩
  rw [hY] at HR HSG
  obtain ⟨q1, q2, ⟨a2, b2, l2⟩⟩ := y
  have HY : As (Y = ⟨q1, q2, ⟨a2, b2, l2⟩⟩) := ⟨hY.symm⟩
  dsimp only [picV] at *
  clear hl hy hr hY
  have hc := S.cells; simp only [Cells, cellsC, Im, Row, El, Nat.zero_add, Nat.reduceAdd] at hc
  go_enter Tryz.func65, Tryz.ntmps65
  go_wp2_with (first | ((first | (with_reducible refine wpl_seal S ?_) | (with_reducible refine cw_seal S ?_) | (with_reducible refine bp_seal S ?_) | (with_reducible refine ca_seal S ?_)); clear S; (try clear hc); intro w1 S; (try simp only [List.set_cons_zero, List.set_cons_succ, List.nil_append] at S); have hc := S.cells; simp only [Cells, cellsC, Im, Row, El, Nat.zero_add, Nat.reduceAdd] at hc))
  obtain ⟨gb, egb⟩ := S.name 0 rfl; rw [← egb] at S ⊢; clear egb
  clear hc
  go_loopw [5] (fun iv w' => ∃ (k : Nat) (J : Fp), k ≤ l.length ∧ iv = .int .i64 k ∧ As (∀ (j : Nat) (h : j < l.length), j < k → l[j] ≠ Y) ∧ As (SH No I w [Cel gb 40 [.int .i64 q1, .int .i64 q2, .int .i64 a2, .int .i64 b2, .slice B l2.length d], Im kyG A l, Im kP B l2] w' J)) (fun iv _ => l.length - (intOf iv).toNat)
  case atStart => exact ⟨0, _, by omega, rfl, ⟨fun j _ h => absurd h (Nat.not_lt_zero j)⟩, ⟨S⟩⟩
  case round =>
    clear S
    obtain ⟨k, J, hk, rfl, HK, ⟨S⟩⟩ := hrel
    by_cases hlt : k < l.length
    · have hlt' : decide ((k : Int) < l.length) = true := decide_eq_true (by omega)
      obtain ⟨b, o, A2, c2, rfl, ⟨g0, g1, g2, g3, g4⟩, hcl, hx2⟩ := (S.im 1 rfl).pic_at (List.getElem?_eq_getElem hlt)
      replace S := S.know (h := Im kP A2 l[k].x.l) hx2
      obtain ⟨q, hq⟩ : ∃ q, decide (l[k] = Y) = q := ⟨_, rfl⟩
      have HQ := As.mk hq
      have HF : As (q = true → idxI l Y = k) := ⟨fun h => idxI_at hlt (of_decide_eq_true (by rw [hq, h])) HK.out⟩
      have HT : As (q = false → ∀ (j : Nat) (h : j < l.length), j < k + 1 → l[j] ≠ Y) := ⟨fun h0 j hj h => by
        rcases Nat.lt_or_eq_of_le (Nat.le_of_lt_succ h) with h1 | h1
        · exact HK.out j hj h1
        · subst h1; exact of_decide_eq_false (by rw [hq, h0])⟩
      clear hx2 hq
      generalize l[k] = x at g0 g1 g2 g3 g4 HQ hcl S
      have HS2 := As.mk (fun w' I' hI' hx' hy' => HSG.out x A2 c2 q w' I' hI' hx' hy' HQ.out)
      rw [HY.out] at HS2
      dsimp only [picV] at HS2
      have p0 := ClE.cell (w := wr.drew) g0
      have p1 := ClE.cell (w := wr.drew) g1
      have p2 := ClE.cell (w := wr.drew) g2
      have p3 := ClE.cell (w := wr.drew) g3
      have p4 := ClE.cell (w := wr.drew) g4
      have hc := S.cells; simp only [Cells, cellsC, Im, Row, El, Nat.zero_add, Nat.reduceAdd] at hc
      have hq := S.cellsE; simp only [CellsE, cellsE, Im, Row, El, Nat.zero_add, Nat.reduceAdd] at hq
      go_wp2_with (first | ((first | (with_reducible refine wpl_seal S ?_) | (with_reducible refine cw_seal S ?_) | (with_reducible refine bp_seal S ?_) | (with_reducible refine ca_seal S ?_)); clear S; (try clear hc); intro w1 S; (try simp only [List.set_cons_zero, List.set_cons_succ, List.nil_append] at S); have hc := S.cells; simp only [Cells, cellsC, Im, Row, El, Nat.zero_add, Nat.reduceAdd] at hc))
      refine wp_region_ext [⟨[0, 1, 2, 3, 4], [], 5, false⟩] [] (by kernel_rfl) (by kernel_rfl) ?_
      refine mix_cons rfl rfl rfl ?_
      simp only [opsAt, List.getD_cons_succ, List.getD_cons_zero]
      repeat (go_big_quiet_step ((intro hC; first | rfl | (go_simp; first | done | rfl))))
      refine wpQuiet_nil ?_
      repeat (go_big_quiet_step ((intro hC; first | rfl | (go_simp; first | done | rfl))))
      refine wpQuiet_nil ?_
      clear hc hq p0 p1 p2 p3 p4 g0 g1 g2 g3 g4
      replace S := S.drew
      generalize wr.drew = w2 at S ⊢
      have hc := S.cells; simp only [Cells, cellsC, Im, Row, El, Nat.zero_add, Nat.reduceAdd] at hc
      cases q
      · go_wp2_with (first | ((first | (with_reducible refine mx_seal S ?_) | (with_reducible refine wpl_seal S ?_) | (with_reducible refine ca_seal S ?_)); clear S; (try clear hc); intro w1 S; (try simp only [List.set_cons_zero, List.set_cons_succ, List.nil_append] at S); have hc := S.cells; simp only [Cells, cellsC, Im, Row, El, Nat.zero_add, Nat.reduceAdd] at hc) | (go_at_call 37; refine (HS2.out _ _ S.bd (S.im 0 rfl) (S.im 3 rfl)).mono ?_; rintro e w1 ⟨rfl, hx⟩; replace S := S.ext hx; clear hx; (try clear hc); have hc := S.cells; simp only [Cells, cellsC, Im, Row, El, Nat.zero_add, Nat.reduceAdd] at hc))
        (first | refine ⟨(fun h => by cases h), ?_⟩ | skip); (first | ((first | (with_reducible refine mx_seal S ?_)); clear S; (try clear hc); intro w1 S; (try simp only [List.set_cons_zero, List.set_cons_succ, List.nil_append] at S); have hc := S.cells; simp only [Cells, cellsC, Im, Row, El, Nat.zero_add, Nat.reduceAdd] at hc) | skip); (try simp only [Act.put, List.setIfInBounds_toArray, List.set_cons_succ, List.set_cons_zero])
        refine mix_last rfl ?_
        simp only [opsAt, List.getD_cons_succ, List.getD_cons_zero]
        repeat (go_big_quiet_step ((intro hC; first | rfl | (go_simp; first | done | rfl))))
        refine wpQuiet_nil ?_
        simp only [calmQ]
        go_wp2_with (first | ((first | (with_reducible refine wpl_seal S ?_) | (with_reducible refine cw_seal S ?_) | (with_reducible refine bp_seal S ?_) | (with_reducible refine ca_seal S ?_)); clear S; (try clear hc); intro w1 S; (try simp only [List.set_cons_zero, List.set_cons_succ, List.nil_append] at S); have hc := S.cells; simp only [Cells, cellsC, Im, Row, El, Nat.zero_add, Nat.reduceAdd] at hc))
        go_roundw
        case rel => exact ⟨k + 1, _, by omega, by go_num, ⟨HT.out (by first | rfl | trivial)⟩, ⟨(S.sel [1, 2, 3] (by decide) rfl (by simp) : SH _ _ _ [_, _, _] _ _)⟩⟩
        case measure => simp [intOf]; omega
      · go_wp2_with (first | ((first | (with_reducible refine mx_seal S ?_) | (with_reducible refine wpl_seal S ?_) | (with_reducible refine ca_seal S ?_)); clear S; (try clear hc); intro w1 S; (try simp only [List.set_cons_zero, List.set_cons_succ, List.nil_append] at S); have hc := S.cells; simp only [Cells, cellsC, Im, Row, El, Nat.zero_add, Nat.reduceAdd] at hc) | (go_at_call 37; refine (HS2.out _ _ S.bd (S.im 0 rfl) (S.im 3 rfl)).mono ?_; rintro e w1 ⟨rfl, hx⟩; replace S := S.ext hx; clear hx; (try clear hc); have hc := S.cells; simp only [Cells, cellsC, Im, Row, El, Nat.zero_add, Nat.reduceAdd] at hc))
        (first | refine ⟨(fun h => by cases h), ?_⟩ | skip); (first | ((first | (with_reducible refine mx_seal S ?_)); clear S; (try clear hc); intro w1 S; (try simp only [List.set_cons_zero, List.set_cons_succ, List.nil_append] at S); have hc := S.cells; simp only [Cells, cellsC, Im, Row, El, Nat.zero_add, Nat.reduceAdd] at hc) | skip); (try simp only [Act.put, List.setIfInBounds_toArray, List.set_cons_succ, List.set_cons_zero])
        refine mix_last rfl ?_
        simp only [opsAt, List.getD_cons_succ, List.getD_cons_zero]
        repeat (go_big_quiet_step ((intro hC; first | rfl | (go_simp; first | done | rfl))))
        refine wpQuiet_nil ?_
        simp only [calmQ]
        go_wp2_with (first | ((first | (with_reducible refine wpl_seal S ?_) | (with_reducible refine cw_seal S ?_) | (with_reducible refine bp_seal S ?_) | (with_reducible refine ca_seal S ?_)); clear S; (try clear hc); intro w1 S; (try simp only [List.set_cons_zero, List.set_cons_succ, List.nil_append] at S); have hc := S.cells; simp only [Cells, cellsC, Im, Row, El, Nat.zero_add, Nat.reduceAdd] at hc))
        go_ret
        have hF := HF.out (by first | rfl | trivial)
        exact ⟨by rw [← HR.out, hF]; rfl, S.out⟩
    · have hlt' : decide ((k : Int) < l.length) = false := decide_eq_false (by omega)
      have hN := As.mk (idxI_none (l := l) (y := Y) fun j hj => HK.out j hj (by omega))
      have hc := S.cells; simp only [Cells, cellsC, Im, Row, El, Nat.zero_add, Nat.reduceAdd] at hc
      go_wp2_with (first | ((first | (with_reducible refine wpl_seal S ?_) | (with_reducible refine cw_seal S ?_) | (with_reducible refine bp_seal S ?_) | (with_reducible refine ca_seal S ?_)); clear S; (try clear hc); intro w1 S; (try simp only [List.set_cons_zero, List.set_cons_succ, List.nil_append] at S); have hc := S.cells; simp only [Cells, cellsC, Im, Row, El, Nat.zero_add, Nat.reduceAdd] at hc))
      go_ret
      exact ⟨by rw [← HR.out, hN.out]; rfl, S.out⟩
end Go.Proofs.YtnmlonicfncpfaaGreat
