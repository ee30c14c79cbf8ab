/- DictAdds: what it returns. -/
import Derived.Test.YtnmlonicfncpfaaGreatZLike
import Derived.Test.YtnmlonicfncpfaaGreatZGoodT
import Derived.Test.YtnmlonicfncpfaaGreatZAdd
import Derived.Test.YtnmlonicfncpfaaGreatDPl
namespace Go.Proofs.YtnmlonicfncpfaaGreat
open Go.RowKit X
set_option maxHeartbeats 4000000
set_option maxRecDepth 8000
set_option linter.unusedSimpArgs false
set_option linter.unusedVariables false
theorem zof_c (p : Pic) (A : Option Addr) (n : Nat) (w : World) (I : Fp) (hI : ∀ b, I b → b < w.heap.size) : Calls Tryz.prog 9 #[picV p A n] w fun e w' => e = .returned (picV p A n) ∧ Ext w w' := by
  have S := SH.start w I hI
  obtain ⟨c, m, ⟨a, b, l⟩⟩ := p
  dsimp only [picV] at *
  have hc := S.cells; simp only [Cells, cellsC, Im, Row, El, DicO, Nat.zero_add, Nat.reduceAdd] at hc
  go_enter Tryz.func9, Tryz.ntmps9
  go_wp2_with (first | ((first | (with_reducible refine wpl_seal S ?_) | (with_reducible refine cw_seal S ?_) | (with_reducible refine bp_seal S ?_) | (with_reducible refine ca_seal S ?_)); clear S; (try clear hc); intro w1 S; (try simp only [List.set_cons_zero, List.set_cons_succ, List.nil_append] at S); have hc := S.cells; simp only [Cells, cellsC, Im, Row, El, DicO, Nat.zero_add, Nat.reduceAdd] at hc))
  refine bodyPost_ret (results_cell_row rfl _ _ _ 36 _ (0, 0) _ rfl (S.cel 0 rfl) Tryz.underlying36 rfl (by kernel_rfl)) rfl ?_
  exact ⟨rfl, S.out⟩
theorem refAdd_small {o : List Tv} {t : Tv} (ht : SmT t) : refAdd o t.p t.turns = (o ++ [t], 0) := by
  unfold refAdd
  rw [if_pos ⟨ht.p.may, mayTs_rising ht.ris ht.pos ht.inn⟩, ris_id ht.ris ht.inn]
theorem ladds_c (gs : List Gt) (A : Option Addr) (n : Nat) (w : World) (I : Fp) (hI : ∀ b, I b → b < w.heap.size) (hl : Sl kgt w I A gs) :
    Calls Tryz.prog 3 #[.slice A gs.length n] w fun e w' => e = .returned (.bool true) ∧ Ext w w' := by
  have S := (SH.start w I hI).know (h := Im kgt A gs) hl
  obtain ⟨l, hgl⟩ : ∃ l, goodT gs = l := ⟨_, rfl⟩
  have HG := As.mk (fun w I hI hl => ygoodT_c gs A n w I hI hl hgl)
  obtain ⟨hs, hl5, -⟩ := goodT_ok gs
  rw [hgl] at hs hl5
  have HS := As.mk hs
  clear hl hgl hs
  have hc := S.cells; simp only [Cells, cellsC, Im, Row, El, DicO, Nat.zero_add, Nat.reduceAdd] at hc
  go_enter Tryz.func3, Tryz.ntmps3
  go_wp2_with (first | ((first | (with_reducible refine wpl_seal S ?_) | (with_reducible refine cw_seal S ?_) | (with_reducible refine bp_seal S ?_) | (with_reducible refine ca_seal S ?_)); clear S; (try clear hc); intro w1 S; (try simp only [List.set_cons_zero, List.set_cons_succ, List.nil_append] at S); have hc := S.cells; simp only [Cells, cellsC, Im, Row, El, DicO, Nat.zero_add, Nat.reduceAdd] at hc) | (go_at_call 6; refine (HG.out _ _ S.bd (S.im 0 rfl)).mono ?_; rintro e w1 ⟨B, cB, rfl, hcB, hu⟩; obtain ⟨I1, S1, hI1⟩ := S.new hu; clear S hu hI1; (try clear hc); have S := S1; clear S1; have hc := S.cells; simp only [Cells, cellsC, Im, Row, El, DicO, Nat.zero_add, Nat.reduceAdd] at hc; have hc := S.cells; simp only [Cells, cellsC, Im, Row, El, DicO, Nat.zero_add, Nat.reduceAdd] at hc) | (go_at_call 7; refine (newD_c _ _ S.bd).mono ?_; rintro e w1 ⟨gd, rfl, hu⟩; obtain ⟨I1, S1, hI1⟩ := S.new hu; clear S hu hI1; (try clear hc); have S := S1; clear S1; have hc := S.cells; simp only [Cells, cellsC, Im, Row, El, DicO, Nat.zero_add, Nat.reduceAdd] at hc; have hc := S.cells; simp only [Cells, cellsC, Im, Row, El, DicO, Nat.zero_add, Nat.reduceAdd] at hc))
  replace S := ((S.sel [0, 1] (by decide) rfl (by simp) : SH _ _ _ [_, _] _ _) : SH _ _ _ [_, _] _ _)
  replace S := S.know (h := Im kyT none []) Sl.nil
  clear hc
  go_loopw [5, 6] (fun ov iv w' => ∃ (i : Nat) (o : List Tv) (D : DS) (Ao : Option Addr) (co : Nat) (J : Fp), iv = .int .i64 i ∧ i ≤ l.length ∧ ov = .slice Ao o.length co ∧ o.length ≤ co ∧ As (l.take i = o) ∧ As (DOk D o) ∧ As (SH No I w [Im kyT Ao o, DicO gd D.L D.V D.ar, Im kyT B l] w' J)) (fun _ iv _ => l.length - (intOf iv).toNat)
  case atStart => exact ⟨0, [], ⟨[], [], 0⟩, none, 0, _, rfl, by omega, rfl, by simp, ⟨rfl⟩, ⟨DOk.start⟩, ⟨S⟩⟩
  case round =>
    clear S
    obtain ⟨i, o, D, Ao, co, J, rfl, hi, rfl, hoc, HT, HD, ⟨S⟩⟩ := hrel
    have hoi : o.length = i := by rw [← HT.out, List.length_take]; omega
    have HOI := As.mk hoi
    have HSO := As.mk (show ∀ t ∈ o, SmT t from fun t ht => HS.out t (by rw [← HT.out] at ht; exact List.mem_of_mem_take ht))
    have hos : o.length ≤ 20 := by omega
    clear hoi
    by_cases hlt : i < l.length
    · have hlt' : decide ((i : Int) < l.length) = true := decide_eq_true (by omega)
      have HTI := As.mk (List.getElem?_eq_getElem hlt)
      have HSM := As.mk (HS.out _ (List.getElem_mem hlt))
      have HTN := As.mk (show l.take (i + 1) = o ++ [l[i]] by rw [List.take_succ_eq_append_getElem hlt, HT.out])
      generalize l[i] = x at HTI HSM HTN
      obtain ⟨D', hadd, hok⟩ := add_small HD.out HSO.out HSM.out hos
      rw [HOI.out] at hadd
      have HA := As.mk hadd
      have HD2 := As.mk hok
      have HRA := As.mk (refAdd_small (o := o) HSM.out)
      have HDS := As.mk (HD.out.small HSO.out hos)
      obtain ⟨hDL, hDV, har0, har1⟩ := HDS.out
      have hDL2 : D.L.length ≤ 1000 := by omega
      have hDV2 : D.V.length ≤ 100000 := by omega
      have har : 0 ≤ D.ar ∧ D.ar ≤ 1000000000 := ⟨har0, by omega⟩
      have HSP := As.mk HSM.out.p
      have hpl := HSM.out.p.len
      have htl := HSM.out.few
      have hni : ((i : Int) != (i : Int)) = false := by simp
      clear hadd hok HDS hDL
      obtain ⟨b1, o1, A2, c2, B2, d2, rfl, ⟨g0, g1, g2, g3, g4, g5⟩, ⟨hc2, hx2⟩, hd2, ht2⟩ := (S.im 2 rfl).tv_at HTI.out
      replace S := (S.know (h := Im kP A2 x.p.x.l) hx2).know (h := Im kI B2 x.turns) ht2
      clear hx2 ht2
      obtain ⟨L1, V1, a1⟩ := D
      obtain ⟨L2, V2, a2⟩ := D'
      obtain ⟨⟨xc, xm, ⟨xw, xh, xl⟩⟩, ts⟩ := x
      dsimp only [picV] at *
      have p0 := ClE.cell (w := wr.drew) g0
      have p1 := ClE.cell (w := wr.drew) g1
      have p2 := ClE.cell (w := wr.drew) g2
      have p3 := ClE.cell (w := wr.drew) g3
      have p4 := ClE.cell (w := wr.drew) g4
      have p5 := ClE.cell (w := wr.drew) g5
      have hc := S.cells; simp only [Cells, cellsC, Im, Row, El, DicO, Nat.zero_add, Nat.reduceAdd] at hc
      have hq := S.cellsE; simp only [CellsE, cellsE, Im, Row, El, DicO, Nat.zero_add, Nat.reduceAdd] at hq
      go_wp2_with (first | ((first | (with_reducible refine wpl_seal S ?_) | (with_reducible refine cw_seal S ?_) | (with_reducible refine bp_seal S ?_) | (with_reducible refine ca_seal S ?_)); clear S; (try clear hc); intro w1 S; (try simp only [List.set_cons_zero, List.set_cons_succ, List.nil_append] at S); have hc := S.cells; simp only [Cells, cellsC, Im, Row, El, DicO, Nat.zero_add, Nat.reduceAdd] at hc))
      refine wp_region_ext [⟨[1, 2, 3, 4, 5, 7, 8, 9, 10, 11], [0], 6, true⟩, ⟨[], [], 12, false⟩] [13, 14, 15, 16, 17] (by kernel_rfl) (by kernel_rfl) ?_
      refine mix_cons rfl rfl rfl ?_
      simp only [opsAt, List.getD_cons_succ, List.getD_cons_zero]
      repeat (go_big_quiet_step ((intro hC; first | rfl | (go_simp; first | done | rfl))))
      refine wpQuiet_nil ?_
      repeat (go_big_quiet_step ((intro hC; first | rfl | (go_simp; first | done | rfl))))
      refine wpQuiet_nil ?_
      clear hc hq p0 p1 p2 p3 p4 p5 g0 g1 g2 g3 g4 g5
      replace S := S.drew
      generalize wr.drew = w5 at S ⊢
      have hc := S.cells; simp only [Cells, cellsC, Im, Row, El, DicO, Nat.zero_add, Nat.reduceAdd] at hc
      go_wp2_with (first | ((first | (with_reducible refine mx_seal S ?_) | (with_reducible refine wpl_seal S ?_) | (with_reducible refine ca_seal S ?_)); clear S; (try clear hc); intro w1 S; (try simp only [List.set_cons_zero, List.set_cons_succ, List.nil_append] at S); have hc := S.cells; simp only [Cells, cellsC, Im, Row, El, DicO, Nat.zero_add, Nat.reduceAdd] at hc) | (go_at_call 9; refine (zof_c ⟨xc, xm, ⟨xw, xh, xl⟩⟩ A2 c2 _ _ S.bd).mono ?_; rintro e w1 ⟨rfl, hx⟩; have hxf := hx; replace S := S.ext hx; clear hx; (try clear hc); have hc := S.cells; simp only [Cells, cellsC, Im, Row, El, DicO, Nat.zero_add, Nat.reduceAdd] at hc))
      refine ⟨fun _ => hxf, ?_⟩
      (first | refine ⟨(fun h => by cases h), ?_⟩ | skip); (first | ((first | (with_reducible refine mx_seal S ?_)); clear S; (try clear hc); intro w1 S; (try simp only [List.set_cons_zero, List.set_cons_succ, List.nil_append] at S); have hc := S.cells; simp only [Cells, cellsC, Im, Row, El, DicO, Nat.zero_add, Nat.reduceAdd] at hc) | skip); (try simp only [Act.put, List.setIfInBounds_toArray, List.set_cons_succ, List.set_cons_zero])
      refine mix_cons rfl rfl rfl ?_
      simp only [opsAt, List.getD_cons_succ, List.getD_cons_zero]
      repeat (go_big_quiet_step ((intro hC; first | rfl | (go_simp; first | done | rfl))))
      refine wpQuiet_nil ?_
      repeat (go_big_quiet_step ((intro hC; first | rfl | (go_simp; first | done | rfl))))
      refine wpQuiet_nil ?_
      go_wp2_with (first | ((first | (with_reducible refine mx_seal S ?_) | (with_reducible refine wpl_seal S ?_) | (with_reducible refine ca_seal S ?_)); clear S; (try clear hc); intro w1 S; (try simp only [List.set_cons_zero, List.set_cons_succ, List.nil_append] at S); have hc := S.cells; simp only [Cells, cellsC, Im, Row, El, DicO, Nat.zero_add, Nat.reduceAdd] at hc) | (go_at_call 8; refine (add_s gd ⟨L1, V1, a1⟩ ⟨L2, V2, a2⟩ ⟨xc, xm, ⟨xw, xh, xl⟩⟩ ts A2 B2 c2 d2 S 3 rfl (S.im 1 rfl) (by dsimp only; omega) HSP.out.u (S.im 0 rfl) hd2 (by omega) hDL2 hDV2 har HA.out).mono ?_; rintro e w1 ⟨rfl, J3, S3⟩; clear S hc; have S := S3; clear S3; simp only [List.set_cons_zero, List.set_cons_succ, List.nil_append] at S; have hc := S.cells; simp only [Cells, cellsC, Im, Row, El, DicO, Nat.zero_add, Nat.reduceAdd] at hc))
      (first | refine ⟨(fun h => by cases h), ?_⟩ | skip); (first | ((first | (with_reducible refine mx_seal S ?_)); clear S; (try clear hc); intro w1 S; (try simp only [List.set_cons_zero, List.set_cons_succ, List.nil_append] at S); have hc := S.cells; simp only [Cells, cellsC, Im, Row, El, DicO, Nat.zero_add, Nat.reduceAdd] at hc) | skip); (try simp only [Act.put, List.setIfInBounds_toArray, List.set_cons_succ, List.set_cons_zero])
      refine mix_last rfl ?_
      simp only [opsAt, List.getD_cons_succ, List.getD_cons_zero]
      repeat (go_big_quiet_step ((intro hC; first | rfl | (go_simp; first | done | rfl))))
      refine wpQuiet_nil ?_
      simp only [calmQ]
      obtain ⟨o2, ho2⟩ : ∃ o2, o ++ [(⟨⟨xc, xm, ⟨xw, xh, xl⟩⟩, ts⟩ : Tv)] = o2 := ⟨_, rfl⟩
      rw [ho2] at HRA HD2 HTN
      clear ho2 hc
      have hc := S.cells; simp only [Cells, cellsC, Im, Row, El, DicO, Nat.zero_add, Nat.reduceAdd] at hc
      go_upto_region 10 with (first | ((first | (with_reducible refine wpl_seal S ?_) | (with_reducible refine cw_seal S ?_) | (with_reducible refine bp_seal S ?_) | (with_reducible refine ca_seal S ?_)); clear S; (try clear hc); intro w1 S; (try simp only [List.set_cons_zero, List.set_cons_succ, List.nil_append] at S); have hc := S.cells; simp only [Cells, cellsC, Im, Row, El, DicO, Nat.zero_add, Nat.reduceAdd] at hc))
      obtain ⟨b2, o3, A2, c2, B2, d2, e2, ⟨g0, g1, g2, g3, g4, g5⟩, ⟨hc2, hx2⟩, hd2, ht2⟩ := (S.im 4 rfl).tv_at HTI.out
      rw [Option.some.injEq, Addr.mk.injEq] at e2
      obtain ⟨rfl, rfl, -⟩ := e2
      replace S := (S.know (h := Im kP A2 xl) hx2).know (h := Im kI B2 ts) ht2
      clear hx2 ht2
      dsimp only at g0 g1 g2 g3 g4 g5 hc2 hd2
      have p0 := ClE.cell (w := w1.drew) g0
      have p1 := ClE.cell (w := w1.drew) g1
      have p2 := ClE.cell (w := w1.drew) g2
      have p3 := ClE.cell (w := w1.drew) g3
      have p4 := ClE.cell (w := w1.drew) g4
      have p5 := ClE.cell (w := w1.drew) g5
      clear hc
      have hc := S.cells; simp only [Cells, cellsC, Im, Row, El, DicO, Nat.zero_add, Nat.reduceAdd] at hc
      have hq := S.cellsE; simp only [CellsE, cellsE, Im, Row, El, DicO, Nat.zero_add, Nat.reduceAdd] at hq
      refine wp_region_ext [⟨[0, 1, 2, 3, 4, 5, 6, 7, 8, 9, 10], [], 11, false⟩] [12, 13, 14, 15, 16] (by kernel_rfl) (by kernel_rfl) ?_
      refine mix_cons rfl rfl rfl ?_
      simp only [opsAt, List.getD_cons_succ, List.getD_cons_zero]
      repeat (go_big_quiet_step ((intro hC; first | rfl | (go_simp; first | done | rfl))))
      refine wpQuiet_nil ?_
      repeat (go_big_quiet_step ((intro hC; first | rfl | (go_simp; first | done | rfl))))
      refine wpQuiet_nil ?_
      clear hc hq p0 p1 p2 p3 p4 p5 g0 g1 g2 g3 g4 g5
      replace S := S.drew
      generalize w1.drew = w6 at S ⊢
      have hc := S.cells; simp only [Cells, cellsC, Im, Row, El, DicO, Nat.zero_add, Nat.reduceAdd] at hc
      go_wp2_with (first | ((first | (with_reducible refine mx_seal S ?_) | (with_reducible refine wpl_seal S ?_) | (with_reducible refine ca_seal S ?_)); clear S; (try clear hc); intro w1 S; (try simp only [List.set_cons_zero, List.set_cons_succ, List.nil_append] at S); have hc := S.cells; simp only [Cells, cellsC, Im, Row, El, DicO, Nat.zero_add, Nat.reduceAdd] at hc) | (go_at_call 10; refine (yadd_c o ⟨xc, xm, ⟨xw, xh, xl⟩⟩ ts Ao A2 B2 co c2 d2 _ _ S.bd (S.im 4 rfl) hoc hos HSO.out (S.im 1 rfl) hc2 hpl HSP.out.u (mayG_x HSP.out.may) (fun _ => HSP.out) (S.im 0 rfl) (by omega) HRA.out).mono ?_; rintro e w1 ⟨An, cn, rfl, hcn, hu⟩; obtain ⟨I1, S1, hI1⟩ := S.new hu; clear S hu hI1; (try clear hc); have S := S1; clear S1; have hc := S.cells; simp only [Cells, cellsC, Im, Row, El, DicO, Nat.zero_add, Nat.reduceAdd] at hc; have hc := S.cells; simp only [Cells, cellsC, Im, Row, El, DicO, Nat.zero_add, Nat.reduceAdd] at hc))
      (first | refine ⟨(fun h => by cases h), ?_⟩ | skip); (first | ((first | (with_reducible refine mx_seal S ?_)); clear S; (try clear hc); intro w1 S; (try simp only [List.set_cons_zero, List.set_cons_succ, List.nil_append] at S); have hc := S.cells; simp only [Cells, cellsC, Im, Row, El, DicO, Nat.zero_add, Nat.reduceAdd] at hc) | skip); (try simp only [Act.put, List.setIfInBounds_toArray, List.set_cons_succ, List.set_cons_zero])
      refine mix_last rfl ?_
      simp only [opsAt, List.getD_cons_succ, List.getD_cons_zero]
      repeat (go_big_quiet_step ((intro hC; first | rfl | (go_simp; first | done | rfl))))
      refine wpQuiet_nil ?_
      simp only [calmQ]
      go_wp2_with (first | ((first | (with_reducible refine wpl_seal S ?_) | (with_reducible refine cw_seal S ?_) | (with_reducible refine bp_seal S ?_) | (with_reducible refine ca_seal S ?_)); clear S; (try clear hc); intro w1 S; (try simp only [List.set_cons_zero, List.set_cons_succ, List.nil_append] at S); have hc := S.cells; simp only [Cells, cellsC, Im, Row, El, DicO, Nat.zero_add, Nat.reduceAdd] at hc))
      go_roundw
      case rel => exact ⟨i + 1, o2, ⟨L2, V2, a2⟩, An, cn, _, by go_num, by omega, rfl, hcn, HTN, HD2, ⟨(S.sel [0, 6, 7] (by decide) rfl (by simp) : SH _ _ _ [_, _, _] _ _)⟩⟩
      case measure => simp [intOf]; omega
    · have hlt' : decide ((i : Int) < l.length) = false := decide_eq_false (by omega)
      have hc := S.cells; simp only [Cells, cellsC, Im, Row, El, DicO, Nat.zero_add, Nat.reduceAdd] at hc
      go_wp2_with (first | ((first | (with_reducible refine wpl_seal S ?_) | (with_reducible refine cw_seal S ?_) | (with_reducible refine bp_seal S ?_) | (with_reducible refine ca_seal S ?_)); clear S; (try clear hc); intro w1 S; (try simp only [List.set_cons_zero, List.set_cons_succ, List.nil_append] at S); have hc := S.cells; simp only [Cells, cellsC, Im, Row, El, DicO, Nat.zero_add, Nat.reduceAdd] at hc) | (go_at_call 11; refine (like_s gd D o S 1 rfl HD.out HSO.out hos Ao co (S.im 0 rfl)).mono ?_; rintro e w1 ⟨J1, rfl, S1⟩; clear S hc; have S := S1; clear S1; have hc := S.cells; simp only [Cells, cellsC, Im, Row, El, DicO, Nat.zero_add, Nat.reduceAdd] at hc) | (go_at_call 12; refine (dlives_c _ _ S.bd).mono ?_; rintro e w1 ⟨rfl, hx⟩; replace S := S.ext hx; clear hx; (try clear hc); have hc := S.cells; simp only [Cells, cellsC, Im, Row, El, DicO, Nat.zero_add, Nat.reduceAdd] at hc))
      go_ret
      exact ⟨rfl, S.out⟩
end Go.Proofs.YtnmlonicfncpfaaGreat
