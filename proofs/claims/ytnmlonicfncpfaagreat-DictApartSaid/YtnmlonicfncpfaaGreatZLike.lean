/- Is a dictionary the document's: it is. -/
import Derived.Test.YtnmlonicfncpfaaGreatZFrm
import Derived.Test.YtnmlonicfncpfaaGreatZOfP
import Derived.Test.YtnmlonicfncpfaaGreatZOfR
import Derived.Test.YtnmlonicfncpfaaGreatZRis
namespace Go.Proofs.YtnmlonicfncpfaaGreat
open Go.RowKit X
set_option maxHeartbeats 4000000
set_option maxRecDepth 8000
set_option linter.unusedSimpArgs false
set_option linter.unusedVariables false
theorem las_c (p : Pic) (A : Option Addr) (n : Nat) (w : World) (I : Fp) (hI : ∀ b, I b → b < w.heap.size) : Calls Tryz.prog 38 #[picV p A n] w fun e w' => e = .returned (picV p A n) ∧ Ext w w' := by
  have S := SH.start w I hI
  obtain ⟨c, m, ⟨a, b, l⟩⟩ := p
  dsimp only [picV] at *
  have hc := S.cells; simp only [Cells, cellsC, Im, Row, El, Nat.zero_add, Nat.reduceAdd] at hc
  go_enter Tryz.func38, Tryz.ntmps38
  go_wp2_with (first | ((first | (with_reducible refine wpl_seal S ?_) | (with_reducible refine cw_seal S ?_) | (with_reducible refine bp_seal S ?_) | (with_reducible refine ca_seal S ?_)); clear S; (try clear hc); intro w1 S; (try simp only [List.set_cons_zero, List.set_cons_succ, List.nil_append] at S); have hc := S.cells; simp only [Cells, cellsC, Im, Row, El, Nat.zero_add, Nat.reduceAdd] at hc))
  refine bodyPost_ret (results_cell_row rfl _ _ _ 40 _ (0, 0) _ rfl (S.cel 0 rfl) Tryz.underlying40 rfl (by kernel_rfl)) rfl ?_
  exact ⟨rfl, S.out⟩
theorem zof_c (p : Pic) (A : Option Addr) (n : Nat) (w : World) (I : Fp) (hI : ∀ b, I b → b < w.heap.size) : Calls Tryz.prog 9 #[picV p A n] w fun e w' => e = .returned (picV p A n) ∧ Ext w w' := by
  have S := SH.start w I hI
  obtain ⟨c, m, ⟨a, b, l⟩⟩ := p
  dsimp only [picV] at *
  have hc := S.cells; simp only [Cells, cellsC, Im, Row, El, Nat.zero_add, Nat.reduceAdd] at hc
  go_enter Tryz.func9, Tryz.ntmps9
  go_wp2_with (first | ((first | (with_reducible refine wpl_seal S ?_) | (with_reducible refine cw_seal S ?_) | (with_reducible refine bp_seal S ?_) | (with_reducible refine ca_seal S ?_)); clear S; (try clear hc); intro w1 S; (try simp only [List.set_cons_zero, List.set_cons_succ, List.nil_append] at S); have hc := S.cells; simp only [Cells, cellsC, Im, Row, El, Nat.zero_add, Nat.reduceAdd] at hc))
  refine bodyPost_ret (results_cell_row rfl _ _ _ 36 _ (0, 0) _ rfl (S.cel 0 rfl) Tryz.underlying36 rfl (by kernel_rfl)) rfl ?_
  exact ⟨rfl, S.out⟩
section
variable {F0 I0 I : Fp} {w0 w : World} {O : List Ob}
theorem like_s (b : Nat) (D : DS) (l : List Tv) (S0 : SH F0 I0 w0 O w I) (i : Nat) (e : O[i]? = some (DicO b D.L D.V D.ar)) (h : DOk D l) (hs : ∀ t ∈ l, SmT t) (hln : l.length ≤ 20) (A : Option Addr) (n : Nat) (hl : Sl kyT w I A l) :
    Calls Tryz.prog 11 #[.pointer (some ⟨b, 0, none⟩), .slice A l.length n] w fun e w' => ∃ J, e = .returned (.bool true) ∧ SH F0 I0 w0 O w' J := by
  obtain ⟨F, hI, S, back⟩ := S0.call1k i e
  refine Calls.mono (R := fun e w' => e = .returned (.bool true) ∧ Upd w F I w' (Many [DicO b D.L D.V D.ar])) ?_ fun e w' ⟨h1, h2⟩ => by obtain ⟨J, h3⟩ := back _ _ h2; exact ⟨J, h1, h3⟩
  clear back S0 e
  replace S := S.know (h := Im kyT A l) hl
  have HOF := As.mk (ofD_ok h)
  have HTM := As.mk (h.tm hs)
  obtain ⟨hLl, hVn, har0, har1⟩ := h.small hs hln
  have HLD := As.mk h.t
  have HV := As.mk h.v.symm
  have HAR := As.mk h.a.symm
  have HS := As.mk hs
  have HSV := As.mk (show ∀ p ∈ D.V, Small p by rw [h.v]; exact (vars_small l hs).1)
  obtain ⟨L, V, ar⟩ := D
  dsimp only at *
  have HOW : As (∀ v, ownersP (l.map (tmOf (varsP l))) v = ownersP L v) := ⟨fun v => by rw [HV.out, HLD.out]⟩
  have HVR := As.mk (fun w I hI hl => yvars_c l A n w I hI hl (by omega) (fun t ht => (hs t ht).ok) HV.out)
  have HLL := As.mk hLl
  have hL2 : L.length ≤ 1000 := by omega
  have hV2 : V.length ≤ 100000 := by omega
  have q1 : ((L.length : Int) != (l.length : Int)) = false := by rw [hLl]; simp
  have q2 : ((V.length : Int) != (V.length : Int)) = false := by simp
  have q3 : ((ar : Int) != ar) = false := by simp
  have hVB := As.mk (show (∀ p ∈ V, p.x.l.length ≤ 1000000) from fun p hp => by have := (HSV.out p hp).len; omega)
  clear hl hs h hLl
  have hc := S.cells; simp only [Cells, cellsC, Im, Row, El, DicO, Nat.zero_add, Nat.reduceAdd] at hc
  go_enter Tryz.func11, Tryz.ntmps11
  go_wp2_with (first | ((first | (with_reducible refine wpl_seal S ?_) | (with_reducible refine cw_seal S ?_) | (with_reducible refine bp_seal S ?_) | (with_reducible refine ca_seal S ?_)); clear S; (try clear hc); intro w1 S; (try simp only [List.set_cons_zero, List.set_cons_succ, List.nil_append] at S); have hc := S.cells; simp only [Cells, cellsC, Im, Row, El, DicO, Nat.zero_add, Nat.reduceAdd] at hc) | (go_at_call 34; refine (HVR.out _ _ S.bd (S.im 0 rfl)).mono ?_; rintro e w1 ⟨BV, cV, rfl, hcV, hu⟩; obtain ⟨I1, S1, hI1⟩ := S.new hu; clear S hu hI1; (try clear hc); have S := S1; clear S1; have hc := S.cells; simp only [Cells, cellsC, Im, Row, El, DicO, Nat.zero_add, Nat.reduceAdd] at hc; have hc := S.cells; simp only [Cells, cellsC, Im, Row, El, DicO, Nat.zero_add, Nat.reduceAdd] at hc) | (go_at_call 35; refine (templates_c b L V ar S 2 rfl).mono ?_; rintro e w1 ⟨rfl, rfl⟩) | (go_at_call 16; refine (variants_c b L V ar S 2 rfl).mono ?_; rintro e w1 ⟨rfl, rfl⟩) | (go_at_call 36; refine (area_c b L V ar S 2 rfl).mono ?_; rintro e w1 ⟨rfl, rfl⟩) | (go_at_call 33; refine (yarea_c V BV cV _ _ S.bd (S.im 0 rfl) (by omega) hVB.out HAR.out).mono ?_; rintro e w1 ⟨rfl, hx⟩; replace S := S.ext hx; clear hx; (try clear hc); have hc := S.cells; simp only [Cells, cellsC, Im, Row, El, DicO, Nat.zero_add, Nat.reduceAdd] at hc))
  replace S := ((S.sel [2, 0, 1] (by decide) rfl (by simp) : SH _ _ _ [_, _, _] _ _) : SH _ _ _ [_, _, _] _ _)
  clear hc
  go_loopw [6] (fun iv w' => ∃ (i : Nat) (J : Fp), iv = .int .i64 i ∧ i ≤ l.length ∧ As (SH F I w [DicO b L V ar, Im kyG BV V, Im kyT A l] w' J)) (fun iv _ => l.length - (intOf iv).toNat)
  case atStart => exact ⟨0, _, rfl, by omega, ⟨S⟩⟩
  case round =>
    clear S
    obtain ⟨i, J, rfl, hi, ⟨S⟩⟩ := hrel
    by_cases hlt : i < l.length
    · have hlt' : decide ((i : Int) < l.length) = true := decide_eq_true (by omega)
      have HTI := As.mk (List.getElem?_eq_getElem hlt)
      have HLI : As (L[i]? = some (tmOf V l[i])) := ⟨by rw [HLD.out, List.getElem?_map, HTI.out]; rfl⟩
      have HSM := As.mk (HS.out _ (List.getElem_mem hlt))
      generalize l[i] = x at HTI HLI HSM
      obtain ⟨b1, o1, -, -, -, -, rfl, -⟩ := (S.im 2 rfl).tv_at HTI.out
      have hx1 : x.p.x.l.length ≤ 1000000 := by have := HSM.out.p.len; omega
      have hx2 : x.turns.length ≤ 1000000 := by have := HSM.out.few; omega
      unfold tmOf at HLI
      obtain ⟨⟨xc, xm, ⟨xw, xh, xl⟩⟩, ts⟩ := x
      dsimp only at hx1 hx2
      obtain ⟨ws, hws⟩ : ∃ ws, (ts.map fun g => idxI V (layT ⟨⟨xc, xm, ⟨xw, xh, xl⟩⟩, ts⟩ g)) = ws := ⟨_, rfl⟩
      dsimp only at HLI
      rw [hws] at HLI
      clear hws
      have hc := S.cells; simp only [Cells, cellsC, Im, Row, El, DicO, Nat.zero_add, Nat.reduceAdd] at hc
      go_upto_region 8 with (first | ((first | (with_reducible refine wpl_seal S ?_) | (with_reducible refine cw_seal S ?_) | (with_reducible refine bp_seal S ?_) | (with_reducible refine ca_seal S ?_)); clear S; (try clear hc); intro w1 S; (try simp only [List.set_cons_zero, List.set_cons_succ, List.nil_append] at S); have hc := S.cells; simp only [Cells, cellsC, Im, Row, El, DicO, Nat.zero_add, Nat.reduceAdd] at hc) | (go_at_call 15; refine (template_s b L V ar S 0 rfl i _ HLI.out hx1 hx2).mono ?_; rintro e w1 ⟨B1, c1, C1, d1, J1, rfl, S1⟩; clear S hc; have S := S1; clear S1; obtain ⟨_, _, I5, e5, -, S5, -⟩ := S.frow 0 rfl; cases e5; clear S; obtain ⟨_, _, I6, e6, -, S, -⟩ := S5.frow 1 rfl; cases e6; clear S5; simp only [List.set_cons_zero, List.set_cons_succ, List.nil_append] at S; have hc := S.cells; simp only [Cells, cellsC, Im, Row, El, DicO, Nat.zero_add, Nat.reduceAdd] at hc))
      obtain ⟨b2, o2, A2, c2, B2, d2, e2, ⟨g0, g1, g2, g3, g4, g5⟩, ⟨hc2, hx2'⟩, hd2, ht2⟩ := (S.im 5 rfl).tv_at HTI.out
      rw [Option.some.injEq, Addr.mk.injEq] at e2
      obtain ⟨rfl, rfl, -⟩ := e2
      replace S := (S.know (h := Im kP A2 xl) hx2').know (h := Im kI B2 ts) ht2
      clear hx2' ht2
      dsimp only at g0 g1 g2 g3 g4 g5
      have p0 := ClE.cell (w := w1.drew) g0
      have p1 := ClE.cell (w := w1.drew) g1
      have p2 := ClE.cell (w := w1.drew) g2
      have p3 := ClE.cell (w := w1.drew) g3
      have p4 := ClE.cell (w := w1.drew) g4
      have hc := S.cells; simp only [Cells, cellsC, Im, Row, El, DicO, Nat.zero_add, Nat.reduceAdd] at hc
      have hq := S.cellsE; simp only [CellsE, cellsE, Im, Row, El, DicO, Nat.zero_add, Nat.reduceAdd] at hq
      refine wp_region_ext [⟨[0, 1, 2, 3, 5, 6, 7, 8, 9], [], 4, true⟩, ⟨[], [], 10, false⟩, ⟨[11, 12, 13, 14, 15, 16, 17, 18, 19], [], 20, false⟩] [21, 22] (by kernel_rfl) (by kernel_rfl) ?_
      refine mix_cons rfl rfl rfl ?_
      simp only [opsAt, List.getD_cons_succ, List.getD_cons_zero]
      repeat (go_big_quiet_step ((intro hC; first | rfl | (go_simp; first | done | rfl))))
      refine wpQuiet_nil ?_
      repeat (go_big_quiet_step ((intro hC; first | rfl | (go_simp; first | done | rfl))))
      refine wpQuiet_nil ?_
      clear hc hq p0 p1 p2 p3 p4
      have g5' : w1.drew.cell? _ = _ := g5
      replace S := S.drew
      clear g0 g1 g2 g3 g4 g5 g5'
      generalize w1.drew = w5 at S ⊢
      have hc := S.cells; simp only [Cells, cellsC, Im, Row, El, DicO, Nat.zero_add, Nat.reduceAdd] at hc
      go_wp2_with (first | ((first | (with_reducible refine mx_seal S ?_) | (with_reducible refine wpl_seal S ?_) | (with_reducible refine ca_seal S ?_)); clear S; (try clear hc); intro w1 S; (try simp only [List.set_cons_zero, List.set_cons_succ, List.nil_append] at S); have hc := S.cells; simp only [Cells, cellsC, Im, Row, El, DicO, Nat.zero_add, Nat.reduceAdd] at hc) | (go_at_call 38; refine (las_c ⟨xc, xm, ⟨xw, xh, xl⟩⟩ B1 c1 _ _ S.bd).mono ?_; rintro e w1 ⟨rfl, hx⟩; have hxf := hx; replace S := S.ext hx; clear hx; (try clear hc); have hc := S.cells; simp only [Cells, cellsC, Im, Row, El, DicO, Nat.zero_add, Nat.reduceAdd] at hc))
      refine ⟨fun _ => hxf, ?_⟩
      (first | refine ⟨(fun h => by cases h), ?_⟩ | skip); (first | ((first | (with_reducible refine mx_seal S ?_)); clear S; (try clear hc); intro w1 S; (try simp only [List.set_cons_zero, List.set_cons_succ, List.nil_append] at S); have hc := S.cells; simp only [Cells, cellsC, Im, Row, El, DicO, Nat.zero_add, Nat.reduceAdd] at hc) | skip); (try simp only [Act.put, List.setIfInBounds_toArray, List.set_cons_succ, List.set_cons_zero])
      refine mix_cons rfl rfl rfl ?_
      simp only [opsAt, List.getD_cons_succ, List.getD_cons_zero]
      repeat (go_big_quiet_step ((intro hC; first | rfl | (go_simp; first | done | rfl))))
      refine wpQuiet_nil ?_
      repeat (go_big_quiet_step ((intro hC; first | rfl | (go_simp; first | done | rfl))))
      refine wpQuiet_nil ?_
      go_wp2_with (first | ((first | (with_reducible refine mx_seal S ?_) | (with_reducible refine wpl_seal S ?_) | (with_reducible refine ca_seal S ?_)); clear S; (try clear hc); intro w1 S; (try simp only [List.set_cons_zero, List.set_cons_succ, List.nil_append] at S); have hc := S.cells; simp only [Cells, cellsC, Im, Row, El, DicO, Nat.zero_add, Nat.reduceAdd] at hc) | (go_at_call 37; refine (ysameG_c ⟨xc, xm, ⟨xw, xh, xl⟩⟩ ⟨xc, xm, ⟨xw, xh, xl⟩⟩ B1 A2 c1 c2 _ _ S.bd (S.im 3 rfl) (S.im 1 rfl) hx1 (decide_eq_true rfl)).mono ?_; rintro e w1 ⟨rfl, hx⟩; replace S := S.ext hx; clear hx; (try clear hc); have hc := S.cells; simp only [Cells, cellsC, Im, Row, El, DicO, Nat.zero_add, Nat.reduceAdd] at hc))
      (first | refine ⟨(fun h => by cases h), ?_⟩ | skip); (first | ((first | (with_reducible refine mx_seal S ?_)); clear S; (try clear hc); intro w1 S; (try simp only [List.set_cons_zero, List.set_cons_succ, List.nil_append] at S); have hc := S.cells; simp only [Cells, cellsC, Im, Row, El, DicO, Nat.zero_add, Nat.reduceAdd] at hc) | skip); (try simp only [Act.put, List.setIfInBounds_toArray, List.set_cons_succ, List.set_cons_zero])
      obtain ⟨b2, o2, A3, c3, B3, d3, e2, ⟨-, -, -, -, -, g5⟩, -, hd3, ht3⟩ := (S.im 7 rfl).tv_at HTI.out
      rw [Option.some.injEq, Addr.mk.injEq] at e2
      obtain ⟨rfl, rfl, -⟩ := e2
      dsimp only at g5
      have p5 := ClE.cell g5
      refine mix_cons rfl rfl rfl ?_
      simp only [opsAt, List.getD_cons_succ, List.getD_cons_zero]
      repeat (go_big_quiet_step ((intro hC; first | rfl | (go_simp; first | done | rfl))))
      refine wpQuiet_nil ?_
      repeat (go_big_quiet_step ((intro hC; first | rfl | (go_simp; first | done | rfl))))
      refine wpQuiet_nil ?_
      go_wp2_with (first | ((first | (with_reducible refine mx_seal S ?_) | (with_reducible refine wpl_seal S ?_) | (with_reducible refine ca_seal S ?_)); clear S; (try clear hc); intro w1 S; (try simp only [List.set_cons_zero, List.set_cons_succ, List.nil_append] at S); have hc := S.cells; simp only [Cells, cellsC, Im, Row, El, DicO, Nat.zero_add, Nat.reduceAdd] at hc) | (go_at_call 39; refine (ysame_c ts ts C1 B3 d1 d3 _ _ _ (S.im 4 rfl) ht3 hx2 (decide_eq_true rfl)).mono ?_; rintro e w1 ⟨rfl, hx⟩; have hx := hx.ext; replace S := S.ext hx; clear hx; (try clear hc); have hc := S.cells; simp only [Cells, cellsC, Im, Row, El, DicO, Nat.zero_add, Nat.reduceAdd] at hc))
      clear p5 g5 ht3
      (first | refine ⟨(fun h => by cases h), ?_⟩ | skip); (first | ((first | (with_reducible refine mx_seal S ?_)); clear S; (try clear hc); intro w1 S; (try simp only [List.set_cons_zero, List.set_cons_succ, List.nil_append] at S); have hc := S.cells; simp only [Cells, cellsC, Im, Row, El, DicO, Nat.zero_add, Nat.reduceAdd] at hc) | skip); (try simp only [Act.put, List.setIfInBounds_toArray, List.set_cons_succ, List.set_cons_zero])
      refine mix_last rfl ?_
      simp only [opsAt, List.getD_cons_succ, List.getD_cons_zero]
      repeat (go_big_quiet_step ((intro hC; first | rfl | (go_simp; first | done | rfl))))
      refine wpQuiet_nil ?_
      simp only [calmQ]
      replace S := ((S.sel [5, 6, 7] (by decide) rfl (by simp) : SH _ _ _ [_, _, _] _ _) : SH _ _ _ [_, _, _] _ _)
      clear hc
      go_wp2_with (first | ((first | (with_reducible refine wpl_seal S ?_) | (with_reducible refine cw_seal S ?_) | (with_reducible refine bp_seal S ?_) | (with_reducible refine ca_seal S ?_)); clear S; (try clear hc); intro w1 S; (try simp only [List.set_cons_zero, List.set_cons_succ, List.nil_append] at S); have hc := S.cells; simp only [Cells, cellsC, Im, Row, El, DicO, Nat.zero_add, Nat.reduceAdd] at hc))
      clear hc
      go_loopw [10] (fun gv w' => ∃ (k : Nat) (J : Fp), gv = .int .i64 ((k : Int) - 1) ∧ k ≤ 10 ∧ As (SH F I w [DicO b L V ar, Im kyG BV V, Im kyT (some ⟨b1, o1, none⟩) l] w' J)) (fun gv _ => 10 - (intOf gv + 1).toNat)
      case atStart => exact ⟨0, _, rfl, by omega, ⟨S⟩⟩
      case round =>
        clear S
        obtain ⟨k, J, rfl, hk, ⟨S⟩⟩ := hrel
        by_cases hkl : k < 10
        · have hkl' : decide ((k : Int) - 1 < 9) = true := decide_eq_true (by omega)
          obtain ⟨r, hr⟩ : ∃ r, ofP l (i : Int) ((k : Int) - 1) = r := ⟨_, rfl⟩
          have HR := As.mk hr
          have hrr : (r != r) = false := by simp
          clear hr
          have hc := S.cells; simp only [Cells, cellsC, Im, Row, El, DicO, Nat.zero_add, Nat.reduceAdd] at hc
          go_wp2_with (first | ((first | (with_reducible refine wpl_seal S ?_) | (with_reducible refine cw_seal S ?_) | (with_reducible refine bp_seal S ?_) | (with_reducible refine ca_seal S ?_)); clear S; (try clear hc); intro w1 S; (try simp only [List.set_cons_zero, List.set_cons_succ, List.nil_append] at S); have hc := S.cells; simp only [Cells, cellsC, Im, Row, El, DicO, Nat.zero_add, Nat.reduceAdd] at hc) | (go_at_call 40; refine (of_s b L V ar S 0 rfl hL2 hV2 HTM.out i ((k : Int) - 1) (r := r) (by rw [HOF.out, HR.out])).mono ?_; rintro e w1 ⟨J1, rfl, S1⟩; clear S hc; have S := S1; clear S1; have hc := S.cells; simp only [Cells, cellsC, Im, Row, El, DicO, Nat.zero_add, Nat.reduceAdd] at hc) | (go_at_call 41; refine (yof_c l (some ⟨b1, o1, none⟩) n i ((k : Int) - 1) _ _ S.bd (S.im 2 rfl) hln HS.out HR.out).mono ?_; rintro e w1 ⟨rfl, hx⟩; replace S := S.ext hx; clear hx; (try clear hc); have hc := S.cells; simp only [Cells, cellsC, Im, Row, El, DicO, Nat.zero_add, Nat.reduceAdd] at hc))
          go_roundw
          case rel => exact ⟨k + 1, _, by go_num, by omega, ⟨S⟩⟩
          case measure => simp [intOf]; omega
        · have hkl' : decide ((k : Int) - 1 < 9) = false := decide_eq_false (by omega)
          have hc := S.cells; simp only [Cells, cellsC, Im, Row, El, DicO, Nat.zero_add, Nat.reduceAdd] at hc
          go_wp2_with (first | ((first | (with_reducible refine wpl_seal S ?_) | (with_reducible refine cw_seal S ?_) | (with_reducible refine bp_seal S ?_) | (with_reducible refine ca_seal S ?_)); clear S; (try clear hc); intro w1 S; (try simp only [List.set_cons_zero, List.set_cons_succ, List.nil_append] at S); have hc := S.cells; simp only [Cells, cellsC, Im, Row, El, DicO, Nat.zero_add, Nat.reduceAdd] at hc))
          go_roundw
          case rel => exact ⟨i + 1, _, by go_num, by omega, ⟨S⟩⟩
          case measure => simp [intOf]; omega
    · have hlt' : decide ((i : Int) < l.length) = false := decide_eq_false (by omega)
      have hc := S.cells; simp only [Cells, cellsC, Im, Row, El, DicO, Nat.zero_add, Nat.reduceAdd] at hc
      go_wp2_with (first | ((first | (with_reducible refine wpl_seal S ?_) | (with_reducible refine cw_seal S ?_) | (with_reducible refine bp_seal S ?_) | (with_reducible refine ca_seal S ?_)); clear S; (try clear hc); intro w1 S; (try simp only [List.set_cons_zero, List.set_cons_succ, List.nil_append] at S); have hc := S.cells; simp only [Cells, cellsC, Im, Row, El, DicO, Nat.zero_add, Nat.reduceAdd] at hc))
      clear hc
      replace S := S.nilrow (k := kF)
      go_loopw [11, 12] (fun ov iv w' => ∃ (i : Nat) (J : Fp), iv = .int .i64 i ∧ i ≤ V.length ∧ As (SH F I w [Row kF ov (firsts (frmL (V.take i))), DicO b L V ar, Im kyG BV V, Im kyT A l] w' J)) (fun _ iv _ => V.length - (intOf iv).toNat)
      case atStart => exact ⟨0, _, rfl, by omega, ⟨S⟩⟩
      case round =>
        clear S
        obtain ⟨i, J, rfl, hi, ⟨S⟩⟩ := hrel
        by_cases hlt : i < V.length
        · have hlt' : decide ((i : Int) < V.length) = true := decide_eq_true (by omega)
          have HPI := As.mk (List.getElem?_eq_getElem hlt)
          have HPS := As.mk (HSV.out _ (List.getElem_mem hlt))
          obtain ⟨p, hp⟩ : ∃ p, V[i] = p := ⟨_, rfl⟩
          have HPP := As.mk hp
          rw [hp] at HPI HPS
          clear hp
          have hpl : p.x.l.length ≤ 1000000 := by have := HPS.out.len; omega
          obtain ⟨ow, how⟩ : ∃ ow, ownersP L (i : Int) = ow := ⟨_, rfl⟩
          have HOK := As.mk how
          have HOK2 := As.mk ((HOW.out i).trans how)
          have hol : ow.length ≤ 1000000 := by
            rw [← how]
            have := flatR_len (fun j => ownT j (L.getD j default) i) 1000 L.length fun j hj => by
              refine Nat.le_trans (ownT_len _ _ _) ?_
              rw [List.getD_eq_getElem?_getD, List.getElem?_eq_getElem hj]
              exact (HTM.out _ (List.getElem_mem hj)).1
            unfold ownersP
            omega
          have hoo : ((ow.length : Int) != (ow.length : Int)) = false := by simp
          clear how
          obtain ⟨pc, pm, ⟨pw, ph, pl⟩⟩ := p
          dsimp only at hpl
          obtain ⟨Ar, cr, rfl, -, -⟩ := S.row 0 rfl
          have hc := S.cells; simp only [Cells, cellsC, Im, Row, El, DicO, Nat.zero_add, Nat.reduceAdd] at hc
          go_upto_region 22 with (first | ((first | (with_reducible refine wpl_seal S ?_) | (with_reducible refine cw_seal S ?_) | (with_reducible refine bp_seal S ?_) | (with_reducible refine ca_seal S ?_)); clear S; (try clear hc); intro w1 S; (try simp only [List.set_cons_zero, List.set_cons_succ, List.nil_append] at S); have hc := S.cells; simp only [Cells, cellsC, Im, Row, El, DicO, Nat.zero_add, Nat.reduceAdd] at hc) | (go_at_call 17; refine (variant_s b L V ar S 1 rfl i hlt (by rw [HPP.out]; exact hpl) HPP.out).mono ?_; rintro e w1 ⟨B1, c1, J1, rfl, S1⟩; clear S hc; have S := S1; clear S1; obtain ⟨_, _, I5, e5, -, S5, -⟩ := S.frow 0 rfl; cases e5; clear S; have S := S5; clear S5; simp only [List.set_cons_zero, List.set_cons_succ, List.nil_append] at S; have hc := S.cells; simp only [Cells, cellsC, Im, Row, El, DicO, Nat.zero_add, Nat.reduceAdd] at hc) | (go_at_call 42; refine (owners_s b L V ar i S 3 rfl hL2 HTM.out HOK.out).mono ?_; rintro e w1 ⟨ro, rfl, hu⟩; obtain ⟨I1, S1, hI1⟩ := S.new hu; clear S hu hI1; (try clear hc); have S := S1; clear S1; have hc := S.cells; simp only [Cells, cellsC, Im, Row, El, DicO, Nat.zero_add, Nat.reduceAdd] at hc; obtain ⟨A1, cw1, I1, e1, hcw1, S1, hI1⟩ := S.frow 0 rfl; subst e1; clear S hI1; have S := S1; clear S1; simp only [List.set_cons_zero, List.set_cons_succ, List.nil_append] at S; have hc := S.cells; simp only [Cells, cellsC, Im, Row, El, DicO, Nat.zero_add, Nat.reduceAdd] at hc) | (go_at_call 43; refine (yowners_c l A n i _ _ S.bd (S.im 6 rfl) hln HS.out HOK2.out).mono ?_; rintro e w1 ⟨A2, cw2, rfl, -, hu⟩; obtain ⟨I1, S1, hI1⟩ := S.new hu; clear S hu hI1; (try clear hc); have S := S1; clear S1; have hc := S.cells; simp only [Cells, cellsC, Im, Row, El, DicO, Nat.zero_add, Nat.reduceAdd] at hc; have hc := S.cells; simp only [Cells, cellsC, Im, Row, El, DicO, Nat.zero_add, Nat.reduceAdd] at hc))
          obtain ⟨b2, o2, A3, c3, e2, ⟨g0, g1, g2, g3, g4⟩, hc3, hx3⟩ := (S.im 6 rfl).pic_at HPI.out
          subst e2
          replace S := S.know (h := Im kP A3 pl) hx3
          clear hx3
          dsimp only at g0 g1 g2 g3 g4
          have p0 := ClE.cell (w := w1.drew) g0
          have p1 := ClE.cell (w := w1.drew) g1
          have p2 := ClE.cell (w := w1.drew) g2
          have p3 := ClE.cell (w := w1.drew) g3
          have p4 := ClE.cell (w := w1.drew) g4
          have hc := S.cells; simp only [Cells, cellsC, Im, Row, El, DicO, Nat.zero_add, Nat.reduceAdd] at hc
          have hq := S.cellsE; simp only [CellsE, cellsE, Im, Row, El, DicO, Nat.zero_add, Nat.reduceAdd] at hq
          refine wp_region_ext [⟨[0, 1, 2, 3, 5, 6, 7, 8], [], 4, true⟩, ⟨[], [], 9, false⟩] [10, 11, 12, 13, 14, 15, 16, 17, 18] (by kernel_rfl) (by kernel_rfl) ?_
          refine mix_cons rfl rfl rfl ?_
          simp only [opsAt, List.getD_cons_succ, List.getD_cons_zero]
          repeat (go_big_quiet_step ((intro hC; first | rfl | (go_simp; first | done | rfl))))
          refine wpQuiet_nil ?_
          repeat (go_big_quiet_step ((intro hC; first | rfl | (go_simp; first | done | rfl))))
          refine wpQuiet_nil ?_
          clear hc hq p0 p1 p2 p3 p4 g0 g1 g2 g3 g4
          replace S := S.drew
          generalize w1.drew = w5 at S ⊢
          have hc := S.cells; simp only [Cells, cellsC, Im, Row, El, DicO, Nat.zero_add, Nat.reduceAdd] at hc
          go_wp2_with (first | ((first | (with_reducible refine mx_seal S ?_) | (with_reducible refine wpl_seal S ?_) | (with_reducible refine ca_seal S ?_)); clear S; (try clear hc); intro w1 S; (try simp only [List.set_cons_zero, List.set_cons_succ, List.nil_append] at S); have hc := S.cells; simp only [Cells, cellsC, Im, Row, El, DicO, Nat.zero_add, Nat.reduceAdd] at hc) | (go_at_call 38; refine (las_c ⟨pc, pm, ⟨pw, ph, pl⟩⟩ B1 c1 _ _ S.bd).mono ?_; rintro e w1 ⟨rfl, hx⟩; have hxf := hx; replace S := S.ext hx; clear hx; (try clear hc); have hc := S.cells; simp only [Cells, cellsC, Im, Row, El, DicO, Nat.zero_add, Nat.reduceAdd] at hc))
          refine ⟨fun _ => hxf, ?_⟩
          (first | refine ⟨(fun h => by cases h), ?_⟩ | skip); (first | ((first | (with_reducible refine mx_seal S ?_)); clear S; (try clear hc); intro w1 S; (try simp only [List.set_cons_zero, List.set_cons_succ, List.nil_append] at S); have hc := S.cells; simp only [Cells, cellsC, Im, Row, El, DicO, Nat.zero_add, Nat.reduceAdd] at hc) | skip); (try simp only [Act.put, List.setIfInBounds_toArray, List.set_cons_succ, List.set_cons_zero])
          refine mix_cons rfl rfl rfl ?_
          simp only [opsAt, List.getD_cons_succ, List.getD_cons_zero]
          repeat (go_big_quiet_step ((intro hC; first | rfl | (go_simp; first | done | rfl))))
          refine wpQuiet_nil ?_
          repeat (go_big_quiet_step ((intro hC; first | rfl | (go_simp; first | done | rfl))))
          refine wpQuiet_nil ?_
          go_wp2_with (first | ((first | (with_reducible refine mx_seal S ?_) | (with_reducible refine wpl_seal S ?_) | (with_reducible refine ca_seal S ?_)); clear S; (try clear hc); intro w1 S; (try simp only [List.set_cons_zero, List.set_cons_succ, List.nil_append] at S); have hc := S.cells; simp only [Cells, cellsC, Im, Row, El, DicO, Nat.zero_add, Nat.reduceAdd] at hc) | (go_at_call 37; refine (ysameG_c ⟨pc, pm, ⟨pw, ph, pl⟩⟩ ⟨pc, pm, ⟨pw, ph, pl⟩⟩ B1 A3 c1 c3 _ _ S.bd (S.im 4 rfl) (S.im 0 rfl) hpl (decide_eq_true rfl)).mono ?_; rintro e w1 ⟨rfl, hx⟩; replace S := S.ext hx; clear hx; (try clear hc); have hc := S.cells; simp only [Cells, cellsC, Im, Row, El, DicO, Nat.zero_add, Nat.reduceAdd] at hc))
          (first | refine ⟨(fun h => by cases h), ?_⟩ | skip); (first | ((first | (with_reducible refine mx_seal S ?_)); clear S; (try clear hc); intro w1 S; (try simp only [List.set_cons_zero, List.set_cons_succ, List.nil_append] at S); have hc := S.cells; simp only [Cells, cellsC, Im, Row, El, DicO, Nat.zero_add, Nat.reduceAdd] at hc) | skip); (try simp only [Act.put, List.setIfInBounds_toArray, List.set_cons_succ, List.set_cons_zero])
          refine mix_last rfl ?_
          simp only [opsAt, List.getD_cons_succ, List.getD_cons_zero]
          repeat (go_big_quiet_step ((intro hC; first | rfl | (go_simp; first | done | rfl))))
          refine wpQuiet_nil ?_
          simp only [calmQ]
          replace S := ((S.sel [5, 6, 7, 8, 1, 2] (by decide) rfl (by simp) : SH _ _ _ [_, _, _, _, _, _] _ _) : SH _ _ _ [_, _, _, _, _, _] _ _)
          clear hc
          obtain ⟨fo, hfo⟩ : ∃ fo, firsts (frmL (V.take i)) = fo := ⟨_, rfl⟩
          have HFN : As (firsts (frmL (V.take (i + 1))) = if (pc, pm) ∈ fo then fo else fo ++ [(pc, pm)]) := ⟨by
            have e : frmL (V.take (i + 1)) = frmL (V.take i) ++ [(pc, pm)] := by
              unfold frmL
              rw [List.take_succ_eq_append_getElem hlt, List.map_append, HPP.out]
              rfl
            rw [e, firsts_snoc, hfo]⟩
          have hfl : fo.length ≤ 100000 := by
            rw [← hfo]
            refine Nat.le_trans (firsts_len _) ?_
            unfold frmL
            rw [List.length_map, List.length_take]
            omega
          rw [hfo] at S ⊢
          clear hfo
          go_wp2_with (first | ((first | (with_reducible refine wpl_seal S ?_) | (with_reducible refine cw_seal S ?_) | (with_reducible refine bp_seal S ?_) | (with_reducible refine ca_seal S ?_)); clear S; (try clear hc); intro w1 S; (try simp only [List.set_cons_zero, List.set_cons_succ, List.nil_append] at S); have hc := S.cells; simp only [Cells, cellsC, Im, Row, El, DicO, Nat.zero_add, Nat.reduceAdd] at hc))
          go_loopw [17] (fun kv w' => ∃ (k : Nat) (J : Fp), kv = .int .i64 k ∧ k ≤ ow.length ∧ As (SH F I w [Row kF (.slice Ar fo.length cr) fo, DicO b L V ar, Im kyG (some ⟨b2, o2, none⟩) V, Im kyT A l, Im kyO A2 ow, Im kO A1 ow] w' J)) (fun kv _ => ow.length - (intOf kv).toNat)
          case atStart => exact ⟨0, _, rfl, by omega, ⟨S⟩⟩
          case round =>
            clear S
            obtain ⟨k, J, rfl, hk, ⟨S⟩⟩ := hrel
            by_cases hkl : k < ow.length
            · have hkl' : decide ((k : Int) < ow.length) = true := decide_eq_true (by omega)
              obtain ⟨b4, o4, rfl, y0, y1⟩ := (S.im 5 rfl).two_at (List.getElem?_eq_getElem hkl)
              obtain ⟨b5, o5, rfl, z0, z1⟩ := (S.im 4 rfl).two_at (List.getElem?_eq_getElem hkl)
              generalize ow[k] = y at y0 y1 z0 z1
              obtain ⟨ya, yb⟩ := y
              dsimp only at y0 y1 z0 z1
              have ea : (ya != ya) = false := by simp
              have eb : (yb != yb) = false := by simp
              have p0 := ClE.cell (w := wr.drew) y0
              have p1 := ClE.cell (w := wr.drew) y1
              have p2 := ClE.cell (w := wr.drew) z0
              have p3 := ClE.cell (w := wr.drew) z1
              have hc := S.cells; simp only [Cells, cellsC, Im, Row, El, DicO, Nat.zero_add, Nat.reduceAdd] at hc
              go_wp2_with (first | ((first | (with_reducible refine wpl_seal S ?_) | (with_reducible refine cw_seal S ?_) | (with_reducible refine bp_seal S ?_) | (with_reducible refine ca_seal S ?_)); clear S; (try clear hc); intro w1 S; (try simp only [List.set_cons_zero, List.set_cons_succ, List.nil_append] at S); have hc := S.cells; simp only [Cells, cellsC, Im, Row, El, DicO, Nat.zero_add, Nat.reduceAdd] at hc))
              refine wp_region_ext [] [0, 1, 2, 3, 4, 5, 6, 7, 8, 9, 10, 11, 12, 13, 14, 15, 16, 17, 18, 19, 20, 21, 22, 23] (by kernel_rfl) (by kernel_rfl) ?_
              refine mix_last rfl ?_
              simp only [opsAt, List.getD_cons_succ, List.getD_cons_zero]
              repeat (go_big_quiet_step ((intro hC; first | rfl | (go_simp; first | done | rfl))))
              refine wpQuiet_nil ?_
              simp only [calmQ]
              clear hc p0 p1 p2 p3 y0 y1 z0 z1
              replace S := S.drew
              generalize wr.drew = w5 at S ⊢
              go_wp2_with (first | ((first | (with_reducible refine wpl_seal S ?_) | (with_reducible refine cw_seal S ?_) | (with_reducible refine bp_seal S ?_) | (with_reducible refine ca_seal S ?_)); clear S; (try clear hc); intro w1 S; (try simp only [List.set_cons_zero, List.set_cons_succ, List.nil_append] at S); have hc := S.cells; simp only [Cells, cellsC, Im, Row, El, DicO, Nat.zero_add, Nat.reduceAdd] at hc))
              go_roundw
              case rel => exact ⟨k + 1, _, by go_num, by omega, ⟨S⟩⟩
              case measure => simp [intOf]; omega
            · have hkl' : decide ((k : Int) < ow.length) = false := decide_eq_false (by omega)
              have hc := S.cells; simp only [Cells, cellsC, Im, Row, El, DicO, Nat.zero_add, Nat.reduceAdd] at hc
              go_wp2_with (first | ((first | (with_reducible refine wpl_seal S ?_) | (with_reducible refine cw_seal S ?_) | (with_reducible refine bp_seal S ?_) | (with_reducible refine ca_seal S ?_)); clear S; (try clear hc); intro w1 S; (try simp only [List.set_cons_zero, List.set_cons_succ, List.nil_append] at S); have hc := S.cells; simp only [Cells, cellsC, Im, Row, El, DicO, Nat.zero_add, Nat.reduceAdd] at hc))
              clear hc
              replace S := ((S.sel [0, 1, 2, 3] (by decide) rfl (by simp) : SH _ _ _ [_, _, _, _] _ _) : SH _ _ _ [_, _, _, _] _ _)
              go_loopw [18, 19] (fun qv kv w' => ∃ (k : Nat) (q : Bool) (J : Fp), kv = .int .i64 k ∧ k ≤ fo.length ∧ qv = .bool q ∧ As (q = decide ((pc, pm) ∈ fo.take k)) ∧ As (SH F I w [Row kF (.slice Ar fo.length cr) fo, DicO b L V ar, Im kyG (some ⟨b2, o2, none⟩) V, Im kyT A l] w' J)) (fun _ kv _ => fo.length - (intOf kv).toNat)
              case atStart => exact ⟨0, false, _, rfl, by omega, rfl, ⟨by simp⟩, ⟨S⟩⟩
              case round =>
                clear S
                obtain ⟨k2, q, J, rfl, hk2, rfl, HQ, ⟨S⟩⟩ := hrel
                by_cases hfl2 : k2 < fo.length
                · have hfl' : decide ((k2 : Int) < fo.length) = true := decide_eq_true (by omega)
                  have HQN := As.mk (show decide ((pc, pm) ∈ fo.take (k2 + 1)) = (q || decide ((pc, pm) = fo[k2])) by
                    rw [HQ.out, List.take_succ_eq_append_getElem hfl2, Bool.eq_iff_iff, decide_eq_true_eq, List.mem_append, List.mem_singleton, Bool.or_eq_true, decide_eq_true_eq, decide_eq_true_eq])
                  obtain ⟨Aq, cq, eq, -, hsq⟩ := S.row 0 rfl
                  rw [Value.slice.injEq] at eq
                  obtain ⟨rfl, -, rfl⟩ := eq
                  obtain ⟨b4, o4, rfl, y0, y1⟩ := hsq.two_at (List.getElem?_eq_getElem hfl2)
                  obtain ⟨b6, o6, -, -, e6, ⟨g0, g1, -, -, -⟩, -, -⟩ := (S.im 2 rfl).pic_at HPI.out
                  rw [Option.some.injEq, Addr.mk.injEq] at e6
                  obtain ⟨rfl, rfl, -⟩ := e6
                  generalize fo[k2] = y at y0 y1 HQN
                  obtain ⟨ya, yb⟩ := y
                  dsimp only at y0 y1 g0 g1
                  have p0 := ClE.cell (w := wr.drew) y0
                  have p1 := ClE.cell (w := wr.drew) y1
                  have p2 := ClE.cell (w := wr.drew) g0
                  have p3 := ClE.cell (w := wr.drew) g1
                  have hc := S.cells; simp only [Cells, cellsC, Im, Row, El, DicO, Nat.zero_add, Nat.reduceAdd] at hc
                  rcases q with _ | _
                  · by_cases hy : ya = pc ∧ yb = pm
                    · obtain ⟨rfl, rfl⟩ := hy
                      have HQ2 := As.mk (show true = decide ((ya, yb) ∈ fo.take (k2 + 1)) by rw [HQN.out]; simp)
                      go_wp2_with (first | ((first | (with_reducible refine wpl_seal S ?_) | (with_reducible refine cw_seal S ?_) | (with_reducible refine bp_seal S ?_) | (with_reducible refine ca_seal S ?_)); clear S; (try clear hc); intro w1 S; (try simp only [List.set_cons_zero, List.set_cons_succ, List.nil_append] at S); have hc := S.cells; simp only [Cells, cellsC, Im, Row, El, DicO, Nat.zero_add, Nat.reduceAdd] at hc))
                      refine wp_region_ext [] [0, 1, 2, 3, 4, 5, 6, 7, 8, 9, 10, 11, 12, 13] (by kernel_rfl) (by kernel_rfl) ?_
                      refine mix_last rfl ?_
                      simp only [opsAt, List.getD_cons_succ, List.getD_cons_zero]
                      repeat (go_big_quiet_step ((intro hC; first | rfl | (go_simp; first | done | rfl))))
                      refine wpQuiet_nil ?_
                      simp only [calmQ]
                      clear hc p0 p1 p2 p3 y0 y1 g0 g1 hsq
                      replace S := S.drew
                      generalize wr.drew = w5 at S ⊢
                      go_wp2_with (first | ((first | (with_reducible refine wpl_seal S ?_) | (with_reducible refine cw_seal S ?_) | (with_reducible refine bp_seal S ?_) | (with_reducible refine ca_seal S ?_)); clear S; (try clear hc); intro w1 S; (try simp only [List.set_cons_zero, List.set_cons_succ, List.nil_append] at S); have hc := S.cells; simp only [Cells, cellsC, Im, Row, El, DicO, Nat.zero_add, Nat.reduceAdd] at hc))
                      go_roundw
                      case rel => exact ⟨k2 + 1, true, _, by go_num, by omega, rfl, HQ2, ⟨S⟩⟩
                      case measure => simp [intOf]; omega
                    · have HQ2 := As.mk (show false = decide ((pc, pm) ∈ fo.take (k2 + 1)) by rw [HQN.out, Bool.false_or, eq_comm, decide_eq_false_iff_not]; exact fun e => hy ⟨(Prod.mk.inj e).1.symm, (Prod.mk.inj e).2.symm⟩)
                      by_cases hya : ya = pc
                      · subst hya
                        have hyb : (yb == pm) = false := by rw [beq_eq_false_iff_ne]; exact fun e => hy ⟨rfl, e⟩
                        clear hy
                        go_wp2_with (first | ((first | (with_reducible refine wpl_seal S ?_) | (with_reducible refine cw_seal S ?_) | (with_reducible refine bp_seal S ?_) | (with_reducible refine ca_seal S ?_)); clear S; (try clear hc); intro w1 S; (try simp only [List.set_cons_zero, List.set_cons_succ, List.nil_append] at S); have hc := S.cells; simp only [Cells, cellsC, Im, Row, El, DicO, Nat.zero_add, Nat.reduceAdd] at hc))
                        refine wp_region_ext [] [0, 1, 2, 3, 4, 5, 6, 7, 8, 9, 10, 11, 12, 13] (by kernel_rfl) (by kernel_rfl) ?_
                        refine mix_last rfl ?_
                        simp only [opsAt, List.getD_cons_succ, List.getD_cons_zero]
                        repeat (go_big_quiet_step ((intro hC; first | rfl | (go_simp; first | done | rfl))))
                        refine wpQuiet_nil ?_
                        simp only [calmQ]
                        clear hc p0 p1 p2 p3 y0 y1 g0 g1 hsq
                        replace S := S.drew
                        generalize wr.drew = w5 at S ⊢
                        go_wp2_with (first | ((first | (with_reducible refine wpl_seal S ?_) | (with_reducible refine cw_seal S ?_) | (with_reducible refine bp_seal S ?_) | (with_reducible refine ca_seal S ?_)); clear S; (try clear hc); intro w1 S; (try simp only [List.set_cons_zero, List.set_cons_succ, List.nil_append] at S); have hc := S.cells; simp only [Cells, cellsC, Im, Row, El, DicO, Nat.zero_add, Nat.reduceAdd] at hc))
                        go_roundw
                        case rel => exact ⟨k2 + 1, false, _, by go_num, by omega, rfl, HQ2, ⟨S⟩⟩
                        case measure => simp [intOf]; omega
                      · have hyb : (ya == pc) = false := by rw [beq_eq_false_iff_ne]; exact hya
                        clear hy hya
                        go_wp2_with (first | ((first | (with_reducible refine wpl_seal S ?_) | (with_reducible refine cw_seal S ?_) | (with_reducible refine bp_seal S ?_) | (with_reducible refine ca_seal S ?_)); clear S; (try clear hc); intro w1 S; (try simp only [List.set_cons_zero, List.set_cons_succ, List.nil_append] at S); have hc := S.cells; simp only [Cells, cellsC, Im, Row, El, DicO, Nat.zero_add, Nat.reduceAdd] at hc))
                        refine wp_region_ext [] [0, 1, 2, 3, 4, 5, 6, 7, 8, 9, 10, 11, 12, 13] (by kernel_rfl) (by kernel_rfl) ?_
                        refine mix_last rfl ?_
                        simp only [opsAt, List.getD_cons_succ, List.getD_cons_zero]
                        repeat (go_big_quiet_step ((intro hC; first | rfl | (go_simp; first | done | rfl))))
                        refine wpQuiet_nil ?_
                        simp only [calmQ]
                        clear hc p0 p1 p2 p3 y0 y1 g0 g1 hsq
                        replace S := S.drew
                        generalize wr.drew = w5 at S ⊢
                        go_wp2_with (first | ((first | (with_reducible refine wpl_seal S ?_) | (with_reducible refine cw_seal S ?_) | (with_reducible refine bp_seal S ?_) | (with_reducible refine ca_seal S ?_)); clear S; (try clear hc); intro w1 S; (try simp only [List.set_cons_zero, List.set_cons_succ, List.nil_append] at S); have hc := S.cells; simp only [Cells, cellsC, Im, Row, El, DicO, Nat.zero_add, Nat.reduceAdd] at hc))
                        go_roundw
                        case rel => exact ⟨k2 + 1, false, _, by go_num, by omega, rfl, HQ2, ⟨S⟩⟩
                        case measure => simp [intOf]; omega
                  · have HQ2 := As.mk (show true = decide ((pc, pm) ∈ fo.take (k2 + 1)) by rw [HQN.out]; simp)
                    go_wp2_with (first | ((first | (with_reducible refine wpl_seal S ?_) | (with_reducible refine cw_seal S ?_) | (with_reducible refine bp_seal S ?_) | (with_reducible refine ca_seal S ?_)); clear S; (try clear hc); intro w1 S; (try simp only [List.set_cons_zero, List.set_cons_succ, List.nil_append] at S); have hc := S.cells; simp only [Cells, cellsC, Im, Row, El, DicO, Nat.zero_add, Nat.reduceAdd] at hc))
                    refine wp_region_ext [] [0, 1, 2, 3, 4, 5, 6, 7, 8, 9, 10, 11, 12, 13] (by kernel_rfl) (by kernel_rfl) ?_
                    refine mix_last rfl ?_
                    simp only [opsAt, List.getD_cons_succ, List.getD_cons_zero]
                    repeat (go_big_quiet_step ((intro hC; first | rfl | (go_simp; first | done | rfl))))
                    refine wpQuiet_nil ?_
                    simp only [calmQ]
                    clear hc p0 p1 p2 p3 y0 y1 g0 g1 hsq
                    replace S := S.drew
                    generalize wr.drew = w5 at S ⊢
                    go_wp2_with (first | ((first | (with_reducible refine wpl_seal S ?_) | (with_reducible refine cw_seal S ?_) | (with_reducible refine bp_seal S ?_) | (with_reducible refine ca_seal S ?_)); clear S; (try clear hc); intro w1 S; (try simp only [List.set_cons_zero, List.set_cons_succ, List.nil_append] at S); have hc := S.cells; simp only [Cells, cellsC, Im, Row, El, DicO, Nat.zero_add, Nat.reduceAdd] at hc))
                    go_roundw
                    case rel => exact ⟨k2 + 1, true, _, by go_num, by omega, rfl, HQ2, ⟨S⟩⟩
                    case measure => simp [intOf]; omega
                · have hfl' : decide ((k2 : Int) < fo.length) = false := decide_eq_false (by omega)
                  have HQ3 := As.mk (show q = decide ((pc, pm) ∈ fo) by rw [HQ.out, List.take_of_length_le (by omega)])
                  rcases q with _ | _
                  · have HFN2 := As.mk (HFN.out.trans (if_neg (fun h => by have := HQ3.out; rw [decide_eq_true h] at this; cases this)))
                    obtain ⟨b6, o6, -, -, e6, ⟨g0, g1, -, -, -⟩, -, -⟩ := (S.im 2 rfl).pic_at HPI.out
                    rw [Option.some.injEq, Addr.mk.injEq] at e6
                    obtain ⟨rfl, rfl, -⟩ := e6
                    dsimp only at g0 g1
                    have hc := S.cells; simp only [Cells, cellsC, Im, Row, El, DicO, Nat.zero_add, Nat.reduceAdd] at hc
                    go_wp2_with (first | ((first | (with_reducible refine wpl_seal S ?_) | (with_reducible refine cw_seal S ?_) | (with_reducible refine bp_seal S ?_) | (with_reducible refine ca_seal S ?_)); clear S; (try clear hc); intro w1 S; (try simp only [List.set_cons_zero, List.set_cons_succ, List.nil_append] at S); have hc := S.cells; simp only [Cells, cellsC, Im, Row, El, DicO, Nat.zero_add, Nat.reduceAdd] at hc) | (at_builtin; refine wpl_push S 1 rfl rfl _ _ rfl ty_fms rfl (pc, pm) _ _ rfl [.int .i64 pc, .int .i64 pm] _ (S.cel 0 rfl) rfl (by (try simp only [maxLen, List.length_nil, List.length_append, List.length_cons]); omega) (by (try simp only [maxLen, List.length_nil, List.length_append, List.length_cons]); omega) ?_; clear S; (try clear hc); intro va w1 S; simp only [List.set_cons_zero, List.set_cons_succ, List.nil_append] at S; have hc := S.cells; simp only [Cells, cellsC, Im, Row, El, DicO, Nat.zero_add, Nat.reduceAdd] at hc))
                    go_roundw
                    case rel => exact ⟨i + 1, _, by go_num, by omega, ⟨by rw [HFN2.out]; exact (S.sel [1, 2, 3, 4] (by decide) rfl (by simp) : SH _ _ _ [_, _, _, _] _ _)⟩⟩
                    case measure => simp [intOf]; omega
                  · have HFN2 := As.mk (HFN.out.trans (if_pos (by have := HQ3.out; exact of_decide_eq_true this.symm)))
                    have hc := S.cells; simp only [Cells, cellsC, Im, Row, El, DicO, Nat.zero_add, Nat.reduceAdd] at hc
                    go_wp2_with (first | ((first | (with_reducible refine wpl_seal S ?_) | (with_reducible refine cw_seal S ?_) | (with_reducible refine bp_seal S ?_) | (with_reducible refine ca_seal S ?_)); clear S; (try clear hc); intro w1 S; (try simp only [List.set_cons_zero, List.set_cons_succ, List.nil_append] at S); have hc := S.cells; simp only [Cells, cellsC, Im, Row, El, DicO, Nat.zero_add, Nat.reduceAdd] at hc))
                    go_roundw
                    case rel => exact ⟨i + 1, _, by go_num, by omega, ⟨by rw [HFN2.out]; exact S⟩⟩
                    case measure => simp [intOf]; omega
        · have hlt' : decide ((i : Int) < V.length) = false := decide_eq_false (by omega)
          obtain ⟨fo, hfo⟩ : ∃ fo, firsts (frmL V) = fo := ⟨_, rfl⟩
          rw [List.take_of_length_le (by omega), hfo] at S
          have HFO := As.mk hfo
          have hfl : fo.length ≤ 100000 := by
            rw [← hfo]
            refine Nat.le_trans (firsts_len _) ?_
            unfold frmL
            rw [List.length_map]
            omega
          have hff : ((fo.length : Int) != (fo.length : Int)) = false := by simp
          clear hfo
          have HFP := As.mk (show ∀ p ∈ V, formP p.c p.m = true from fun p hp => by
            have hm := (HSV.out p hp)
            obtain ⟨q, hq⟩ := List.exists_mem_of_length_pos (show 0 < p.x.l.length by
              have h1 := hm.mx
              obtain ⟨⟨h1, -⟩, ⟨h2, -⟩, h3⟩ := h1
              have := Int.mul_pos (show (0 : Int) < p.x.w by omega) (show (0 : Int) < p.x.h by omega)
              omega)
            have := mayG_fit hm.may hq
            unfold fitsP at this
            rw [Bool.and_eq_true, Bool.and_eq_true] at this
            exact this.1.1)
          replace S := ((S.sel [1, 0, 2, 3] (by decide) rfl (by simp) : SH _ _ _ [_, _, _, _] _ _) : SH _ _ _ [_, _, _, _] _ _)
          obtain ⟨Ar, cr, I1, e1, hcr, S1, hI1⟩ := S.frow 1 rfl; subst e1; clear S hI1; have S := S1; clear S1; simp only [List.set_cons_zero, List.set_cons_succ, List.nil_append] at S
          have hc := S.cells; simp only [Cells, cellsC, Im, Row, El, DicO, Nat.zero_add, Nat.reduceAdd] at hc
          go_wp2_with (first | ((first | (with_reducible refine wpl_seal S ?_) | (with_reducible refine cw_seal S ?_) | (with_reducible refine bp_seal S ?_) | (with_reducible refine ca_seal S ?_)); clear S; (try clear hc); intro w1 S; (try simp only [List.set_cons_zero, List.set_cons_succ, List.nil_append] at S); have hc := S.cells; simp only [Cells, cellsC, Im, Row, El, DicO, Nat.zero_add, Nat.reduceAdd] at hc) | (go_at_call 44; refine (formats_s b L V ar S 0 rfl hV2 HFP.out HFO.out).mono ?_; rintro e w1 ⟨Af, cf, J1, rfl, S1⟩; clear S hc; have S := S1; clear S1; obtain ⟨_, _, I5, e5, hcf, S5, -⟩ := S.frow 0 rfl; cases e5; clear S; have S := S5; clear S5; simp only [List.set_cons_zero, List.set_cons_succ, List.nil_append] at S; have hc := S.cells; simp only [Cells, cellsC, Im, Row, El, DicO, Nat.zero_add, Nat.reduceAdd] at hc))
          clear hc
          go_loopw [21] (fun kv w' => ∃ (k : Nat) (J : Fp), kv = .int .i64 k ∧ k ≤ fo.length ∧ As (SH F I w [Im kF Af fo, DicO b L V ar, Im kF Ar fo, Im kyG BV V, Im kyT A l] w' J)) (fun kv _ => fo.length - (intOf kv).toNat)
          case atStart => exact ⟨0, _, rfl, by omega, ⟨S⟩⟩
          case round =>
            clear S
            obtain ⟨k, J, rfl, hk, ⟨S⟩⟩ := hrel
            by_cases hkl : k < fo.length
            · have hkl' : decide ((k : Int) < fo.length) = true := decide_eq_true (by omega)
              obtain ⟨b4, o4, rfl, y0, y1⟩ := (S.im 0 rfl).two_at (List.getElem?_eq_getElem hkl)
              obtain ⟨b5, o5, rfl, z0, z1⟩ := (S.im 2 rfl).two_at (List.getElem?_eq_getElem hkl)
              generalize fo[k] = y at y0 y1 z0 z1
              obtain ⟨ya, yb⟩ := y
              dsimp only at y0 y1 z0 z1
              have ea : (ya == ya) = true := by simp
              have eb : (yb == yb) = true := by simp
              have p0 := ClE.cell (w := wr.drew) y0
              have p1 := ClE.cell (w := wr.drew) y1
              have p2 := ClE.cell (w := wr.drew) z0
              have p3 := ClE.cell (w := wr.drew) z1
              have hc := S.cells; simp only [Cells, cellsC, Im, Row, El, DicO, Nat.zero_add, Nat.reduceAdd] at hc
              go_wp2_with (first | ((first | (with_reducible refine wpl_seal S ?_) | (with_reducible refine cw_seal S ?_) | (with_reducible refine bp_seal S ?_) | (with_reducible refine ca_seal S ?_)); clear S; (try clear hc); intro w1 S; (try simp only [List.set_cons_zero, List.set_cons_succ, List.nil_append] at S); have hc := S.cells; simp only [Cells, cellsC, Im, Row, El, DicO, Nat.zero_add, Nat.reduceAdd] at hc))
              refine wp_region_ext [] [0, 1, 2, 3, 4, 5, 6, 7, 8] (by kernel_rfl) (by kernel_rfl) ?_
              refine mix_last rfl ?_
              simp only [opsAt, List.getD_cons_succ, List.getD_cons_zero]
              repeat (go_big_quiet_step ((intro hC; first | rfl | (go_simp; first | done | rfl))))
              refine wpQuiet_nil ?_
              simp only [calmQ]
              clear hc p0 p1 p2 p3 y0 y1 z0 z1
              replace S := S.drew
              generalize wr.drew = w5 at S ⊢
              go_wp2_with (first | ((first | (with_reducible refine wpl_seal S ?_) | (with_reducible refine cw_seal S ?_) | (with_reducible refine bp_seal S ?_) | (with_reducible refine ca_seal S ?_)); clear S; (try clear hc); intro w1 S; (try simp only [List.set_cons_zero, List.set_cons_succ, List.nil_append] at S); have hc := S.cells; simp only [Cells, cellsC, Im, Row, El, DicO, Nat.zero_add, Nat.reduceAdd] at hc))
              go_roundw
              case rel => exact ⟨k + 1, _, by go_num, by omega, ⟨S⟩⟩
              case measure => simp [intOf]; omega
            · have hkl' : decide ((k : Int) < fo.length) = false := decide_eq_false (by omega)
              replace S := ((S.sel [1, 3, 4] (by decide) rfl (by simp) : SH _ _ _ [_, _, _] _ _) : SH _ _ _ [_, _, _] _ _)
              have HN1 := As.mk (show ownersP L (V.length : Int) = [] by
                rw [← HOW.out]
                exact List.eq_nil_iff_forall_not_mem.2 fun ⟨t, g⟩ hx => by
                  obtain ⟨h0, h1, h2⟩ := mem_owners.1 hx
                  have hi : (l.getD t.toNat default) ∈ l := by
                    rw [List.getD_eq_getElem?_getD, List.getElem?_eq_getElem (show t.toNat < l.length by omega)]
                    exact List.getElem_mem _
                  obtain ⟨q1, q2⟩ := idxI_in (vars_mem l [] _ g hi h1)
                  change idxI (varsP l) _ = _ at q1
                  rw [h2] at q1
                  have e9 : (l.foldl varT []).length = V.length := congrArg List.length HV.out
                  omega)
              have HN2 := As.mk (show ownersP L (-1) = [] by
                rw [← HOW.out]
                exact List.eq_nil_iff_forall_not_mem.2 fun ⟨t, g⟩ hx => by
                  obtain ⟨h0, h1, h2⟩ := mem_owners.1 hx
                  have hi : (l.getD t.toNat default) ∈ l := by
                    rw [List.getD_eq_getElem?_getD, List.getElem?_eq_getElem (show t.toNat < l.length by omega)]
                    exact List.getElem_mem _
                  obtain ⟨q1, q2⟩ := idxI_in (vars_mem l [] _ g hi h1)
                  change idxI (varsP l) _ = _ at q1
                  rw [h2] at q1
                  omega)
              have HN3 := As.mk (show ofD L V.length (l.length : Int) 0 = -1 by rw [HOF.out]; unfold ofP; rw [if_neg (by omega)])
              have HN4 := As.mk (show ofD L V.length (-1) 0 = -1 by rw [HOF.out]; unfold ofP; rw [if_neg (by omega)])
              have hc := S.cells; simp only [Cells, cellsC, Im, Row, El, DicO, Nat.zero_add, Nat.reduceAdd] at hc
              go_upto_region 46 with (first | ((first | (with_reducible refine wpl_seal S ?_) | (with_reducible refine cw_seal S ?_) | (with_reducible refine bp_seal S ?_) | (with_reducible refine ca_seal S ?_)); clear S; (try clear hc); intro w1 S; (try simp only [List.set_cons_zero, List.set_cons_succ, List.nil_append] at S); have hc := S.cells; simp only [Cells, cellsC, Im, Row, El, DicO, Nat.zero_add, Nat.reduceAdd] at hc) | (go_at_call 15; have hq := templateNo_s b L V ar S 0 rfl; rw [HLL.out] at hq; refine hq.mono ?_; clear hq; rintro e w1 ⟨J1, rfl, S1⟩; clear S hc; have S := S1; clear S1; have hc := S.cells; simp only [Cells, cellsC, Im, Row, El, DicO, Nat.zero_add, Nat.reduceAdd] at hc) | (go_at_call 17; refine (variantNo_s b L V ar S 1 rfl).mono ?_; rintro e w1 ⟨J1, rfl, S1⟩; clear S hc; have S := S1; clear S1; have hc := S.cells; simp only [Cells, cellsC, Im, Row, El, DicO, Nat.zero_add, Nat.reduceAdd] at hc))
              have m1 : True := trivial
              have m2 : True := trivial
              have m3 : True := trivial
              have m4 : True := trivial
              go_wp2_with (first | ((first | (with_reducible refine wpl_seal S ?_) | (with_reducible refine cw_seal S ?_) | (with_reducible refine bp_seal S ?_) | (with_reducible refine ca_seal S ?_)); clear S; (try clear hc); intro w1 S; (try simp only [List.set_cons_zero, List.set_cons_succ, List.nil_append] at S); have hc := S.cells; simp only [Cells, cellsC, Im, Row, El, DicO, Nat.zero_add, Nat.reduceAdd] at hc) | (go_at_call 42; clear m1; refine (owners_s b L V ar (V.length : Int) S 2 rfl hL2 HTM.out HN1.out).mono ?_; rintro e w1 ⟨ro, rfl, hu⟩; obtain ⟨I1, S1, hI1⟩ := S.new hu; clear S hu hI1; (try clear hc); have S := S1; clear S1; have hc := S.cells; simp only [Cells, cellsC, Im, Row, El, DicO, Nat.zero_add, Nat.reduceAdd] at hc; obtain ⟨Aq, cq, eq, -, -⟩ := S.row 0 rfl; subst eq; have hc := S.cells; simp only [Cells, cellsC, Im, Row, El, DicO, Nat.zero_add, Nat.reduceAdd] at hc) | (go_at_call 42; clear m2; refine (owners_s b L V ar (-1) S 3 rfl hL2 HTM.out HN2.out).mono ?_; rintro e w1 ⟨ro, rfl, hu⟩; obtain ⟨I1, S1, hI1⟩ := S.new hu; clear S hu hI1; (try clear hc); have S := S1; clear S1; have hc := S.cells; simp only [Cells, cellsC, Im, Row, El, DicO, Nat.zero_add, Nat.reduceAdd] at hc; obtain ⟨Aq, cq, eq, -, -⟩ := S.row 0 rfl; subst eq; have hc := S.cells; simp only [Cells, cellsC, Im, Row, El, DicO, Nat.zero_add, Nat.reduceAdd] at hc) | (go_at_call 40; clear m3; refine (of_s b L V ar S 4 rfl hL2 hV2 HTM.out (l.length : Int) 0 HN3.out).mono ?_; rintro e w1 ⟨J1, rfl, S1⟩; clear S hc; have S := S1; clear S1; have hc := S.cells; simp only [Cells, cellsC, Im, Row, El, DicO, Nat.zero_add, Nat.reduceAdd] at hc) | (go_at_call 40; clear m4; refine (of_s b L V ar S 4 rfl hL2 hV2 HTM.out (-1) 0 HN4.out).mono ?_; rintro e w1 ⟨J1, rfl, S1⟩; clear S hc; have S := S1; clear S1; have hc := S.cells; simp only [Cells, cellsC, Im, Row, El, DicO, Nat.zero_add, Nat.reduceAdd] at hc))
              go_ret
              exact ⟨by first | rfl | simp, (S.many [4] (by decide) rfl (by simp)).retF 0 rfl⟩
end
end Go.Proofs.YtnmlonicfncpfaaGreat
