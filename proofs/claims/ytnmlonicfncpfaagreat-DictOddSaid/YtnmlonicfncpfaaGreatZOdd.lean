/- DictOdd: what it returns. -/
import Derived.Test.YtnmlonicfncpfaaGreatZLike
import Derived.Test.YtnmlonicfncpfaaGreatZGoodT
import Derived.Test.YtnmlonicfncpfaaGreatZOddP
import Derived.Test.YtnmlonicfncpfaaGreatDPl
import Derived.Test.YtnmlonicfncpfaaGreatCutS
namespace Go.Proofs.YtnmlonicfncpfaaGreat
open Go.RowKit X
set_option maxHeartbeats 4000000
set_option maxRecDepth 8000
set_option linter.unusedSimpArgs false
set_option linter.unusedVariables false
theorem ty_ygts : TyOk Tryz.prog 22 kgt 80 := TyOk.mk' (size := 6) (z := .agg #[.bool false, .int .i64 0, .int .i64 0, .int .i64 0, .slice none 0 0, .slice none 0 0]) Tryz.underlying22 (by kernel_rfl) rfl rfl (by decide)
theorem lodd_c (gs : List Gt) (x : Rg) (hx : x.ok) (at0 : Int) (hat : I64 at0) (p : Int) (hp : U64 p) (ts : List Int) (A Ax At : Option Addr) (n nx nt : Nat) (hgn : gs.length ≤ n) (htn : ts.length ≤ nt) (w : World) (I : Fp) (hI : ∀ b, I b → b < w.heap.size) (hl : Sl kgt w I A gs) (hxl : Sl kI w I Ax x.l) (ht : Sl kI w I At ts) :
    Calls Tryz.prog 4 #[.slice A gs.length n, rgV x Ax nx, .int .i64 at0, .int .u64 p, .slice At ts.length nt] w fun e w' => e = .returned (.bool true) ∧ Ext w w' := by
  obtain ⟨m1, hmin1, hm1a, hm1b⟩ : ∃ m : Nat, min (gs.length : Int) 3 = m ∧ m ≤ gs.length ∧ m ≤ 3 := ⟨min gs.length 3, by omega, by omega, by omega⟩
  obtain ⟨m2, hmin2, hm2a, hm2b⟩ : ∃ m : Nat, min (ts.length : Int) 9 = m ∧ m ≤ ts.length ∧ m ≤ 9 := ⟨min ts.length 9, by omega, by omega, by omega⟩
  obtain ⟨A3, hcutA, hsA⟩ := hl.cutF (P := Tryz.prog) ty_ygts hm1a hgn
  obtain ⟨T3, hcutT, hsT⟩ := ht.cutF (P := Tryz.prog) ty_ints hm2a htn
  obtain ⟨g3, hg3⟩ : ∃ g3, gs.take m1 = g3 := ⟨_, rfl⟩
  obtain ⟨t9, ht9⟩ : ∃ t9, ts.take m2 = t9 := ⟨_, rfl⟩
  have hg3l : g3.length = m1 := by rw [← hg3, List.length_take]; omega
  have ht9l : t9.length = m2 := by rw [← ht9, List.length_take]; omega
  rw [hg3] at hsA
  rw [ht9] at hsT
  rw [← hg3l] at hcutA hmin1
  rw [← ht9l] at hcutT hmin2
  have ht9n : t9.length ≤ nt := by omega
  have ht91 : t9.length ≤ 9 := by omega
  have S := (((SH.start w I hI).know (h := Im kgt A3 g3) hsA).know (h := Im kI Ax x.l) hxl).know (h := Im kI T3 t9) hsT
  obtain ⟨l, hgl⟩ : ∃ l, goodT g3 = l := ⟨_, rfl⟩
  have HG := As.mk (fun w I hI hl => ygoodT_c g3 A3 n w I hI hl hgl)
  obtain ⟨hs, -, hl3⟩ := goodT_ok g3
  rw [hgl] at hs hl3
  have hl3' : l.length ≤ 3 := by omega
  have HS := As.mk hs
  have HGI := As.mk (fun (q : Pic) (hq : goodI x 3 = q) w I hI hl => ygoodI_r x hx 3 (by decide) (by decide) Ax nx w I hI hl hq)
  obtain ⟨q, hq⟩ : ∃ q, goodI x 3 = q := ⟨_, rfl⟩
  have HQ := As.mk hq
  have hsq := good_small x (mo := 3) (by decide) (by decide)
  have hql := (goodX_len x (mo := 3) (by decide) (by decide)).2.2
  have hql2 : 1 ≤ q.x.l.length := by rw [← hq]; exact hql
  rw [hq] at hsq
  obtain ⟨a, ha, hal⟩ : ∃ a : Nat, aroundI at0 (q.x.l.length : Int) = a ∧ a < q.x.l.length := by
    have := aroundI_range (n := at0) (m := (q.x.l.length : Int)) (by omega)
    exact ⟨(aroundI at0 (q.x.l.length : Int)).toNat, by omega, by omega⟩
  have hq256 := hsq.len
  have HAR := As.mk (fun w => around_c at0 (q.x.l.length : Int) w hat (by omega) (by omega))
  rw [ha] at HAR
  have HSQ := As.mk hsq
  have HSX := As.mk (setX_ok hsq (a := a) hp)
  clear hl hxl ht hgl hs hl3 hsA hsT hg3 ht9 hg3l ht9l hm1a hm1b hm2a hm2b hq hsq hql hx hat hp ha
  obtain ⟨xb, xmv, xw, xh, xl⟩ := x
  dsimp only [rgV] at *
  have hc := S.cells; simp only [Cells, cellsC, Im, Row, El, DicO, Nat.zero_add, Nat.reduceAdd] at hc
  go_enter Tryz.func4, Tryz.ntmps4
  go_wp2_with (first | ((first | (with_reducible refine wpl_seal S ?_) | (with_reducible refine cw_seal S ?_) | (with_reducible refine bp_seal S ?_) | (with_reducible refine ca_seal S ?_)); clear S; (try clear hc); intro w1 S; (try simp only [List.set_cons_zero, List.set_cons_succ, List.nil_append] at S); have hc := S.cells; simp only [Cells, cellsC, Im, Row, El, DicO, Nat.zero_add, Nat.reduceAdd] at hc) | (go_at_call 6; refine (HG.out _ _ S.bd (S.im 3 rfl)).mono ?_; rintro e w1 ⟨B, cB, rfl, hcB, hu⟩; obtain ⟨I1, S1, hI1⟩ := S.new hu; clear S hu hI1; (try clear hc); have S := S1; clear S1; have hc := S.cells; simp only [Cells, cellsC, Im, Row, El, DicO, Nat.zero_add, Nat.reduceAdd] at hc; have hc := S.cells; simp only [Cells, cellsC, Im, Row, El, DicO, Nat.zero_add, Nat.reduceAdd] at hc) | (go_at_call 7; refine (newD_c _ _ S.bd).mono ?_; rintro e w1 ⟨gd, rfl, hu⟩; obtain ⟨I1, S1, hI1⟩ := S.new hu; clear S hu hI1; (try clear hc); have S := S1; clear S1; have hc := S.cells; simp only [Cells, cellsC, Im, Row, El, DicO, Nat.zero_add, Nat.reduceAdd] at hc; have hc := S.cells; simp only [Cells, cellsC, Im, Row, El, DicO, Nat.zero_add, Nat.reduceAdd] at hc))
  obtain ⟨g6, eg6⟩ := S.name 2 rfl; rw [← eg6] at S ⊢; clear eg6
  replace S := ((S.sel [0, 1, 2, 3, 4] (by decide) rfl (by simp) : SH _ _ _ [_, _, _, _, _] _ _) : SH _ _ _ [_, _, _, _, _] _ _)
  clear hc
  go_loopw [13] (fun iv w' => ∃ (i : Nat) (D : DS) (J : Fp), iv = .int .i64 i ∧ i ≤ l.length ∧ As (DOk D (l.take i)) ∧ As (SH No I w [DicO gd D.L D.V D.ar, Im kyT B l, Cel g6 50 [.bool xb, .int .i64 xmv, .int .i64 xw, .int .i64 xh, .slice Ax xl.length nx], Im kI T3 t9, Im kI Ax xl] w' J)) (fun iv _ => l.length - (intOf iv).toNat)
  case atStart => exact ⟨0, ⟨[], [], 0⟩, _, rfl, by omega, ⟨DOk.start⟩, ⟨S⟩⟩
  case round =>
    clear S
    obtain ⟨i, D, J, rfl, hi, HD, ⟨S⟩⟩ := hrel
    obtain ⟨o, ho⟩ : ∃ o, l.take i = o := ⟨_, rfl⟩
    rw [ho] at HD
    have HT := As.mk ho
    have HOI := As.mk (show o.length = i by rw [← ho, List.length_take]; omega)
    have HSO := As.mk (show ∀ t ∈ o, SmT t from fun t ht => HS.out t (by rw [← ho] at ht; exact List.mem_of_mem_take ht))
    have hos : o.length ≤ 3 := by rw [← ho, List.length_take]; omega
    clear ho
    by_cases hlt : i < l.length
    · have hlt' : decide ((i : Int) < l.length) = true := decide_eq_true (by omega)
      have HTI := As.mk (List.getElem?_eq_getElem hlt)
      have HSM := As.mk (HS.out _ (List.getElem_mem hlt))
      have HTN := As.mk (show l.take (i + 1) = o ++ [l[i]] by rw [List.take_succ_eq_append_getElem hlt, HT.out])
      generalize l[i] = y at HTI HSM HTN
      obtain ⟨D', hadd, hok⟩ := add_small HD.out HSO.out HSM.out (by omega)
      have HA := As.mk hadd
      have HD2 := As.mk hok
      obtain ⟨hDL, hDV, har0, har1⟩ := HD.out.small HSO.out (by omega)
      have hDL2 : D.L.length ≤ 1000 := by omega
      have hDV2 : D.V.length ≤ 100000 := by omega
      have har : 0 ≤ D.ar ∧ D.ar ≤ 1000000000 := ⟨har0, by omega⟩
      have HSP := As.mk HSM.out.p
      have hpl := HSM.out.p.len
      have htl := HSM.out.few
      clear hadd hok hDL
      obtain ⟨b1, o1, A2, c2, B2, d2, rfl, ⟨g0, g1, g2, g3', g4, g5⟩, ⟨hc2, hx2⟩, hd2, ht2⟩ := (S.im 1 rfl).tv_at HTI.out
      replace S := (S.know (h := Im kP A2 y.p.x.l) hx2).know (h := Im kI B2 y.turns) ht2
      clear hx2 ht2
      obtain ⟨L1, V1, a1⟩ := D
      obtain ⟨L2, V2, a2⟩ := D'
      obtain ⟨⟨yc, ym, ⟨yw, yh, yl⟩⟩, ys⟩ := y
      dsimp only [picV] at *
      have p0 := ClE.cell (w := wr.drew) g0
      have p1 := ClE.cell (w := wr.drew) g1
      have p2 := ClE.cell (w := wr.drew) g2
      have p3 := ClE.cell (w := wr.drew) g3'
      have p4 := ClE.cell (w := wr.drew) g4
      have p5 := ClE.cell (w := wr.drew) g5
      have hc := S.cells; simp only [Cells, cellsC, Im, Row, El, DicO, Nat.zero_add, Nat.reduceAdd] at hc
      have hq := S.cellsE; simp only [CellsE, cellsE, Im, Row, El, DicO, Nat.zero_add, Nat.reduceAdd] at hq
      go_wp2_with (first | ((first | (with_reducible refine wpl_seal S ?_) | (with_reducible refine cw_seal S ?_) | (with_reducible refine bp_seal S ?_) | (with_reducible refine ca_seal S ?_)); clear S; (try clear hc); intro w1 S; (try simp only [List.set_cons_zero, List.set_cons_succ, List.nil_append] at S); have hc := S.cells; simp only [Cells, cellsC, Im, Row, El, DicO, Nat.zero_add, Nat.reduceAdd] at hc))
      refine wp_region_ext [⟨[1, 2, 3, 4, 5, 7, 8, 9, 10, 11], [0], 6, true⟩, ⟨[], [], 12, false⟩] [] (by kernel_rfl) (by kernel_rfl) ?_
      refine mix_cons rfl rfl rfl ?_
      simp only [opsAt, List.getD_cons_succ, List.getD_cons_zero]
      repeat (go_big_quiet_step ((intro hC; first | rfl | (go_simp; first | done | rfl))))
      refine wpQuiet_nil ?_
      repeat (go_big_quiet_step ((intro hC; first | rfl | (go_simp; first | done | rfl))))
      refine wpQuiet_nil ?_
      clear hc hq p0 p1 p2 p3 p4 p5 g0 g1 g2 g3' g4 g5
      replace S := S.drew
      generalize wr.drew = w5 at S ⊢
      have hc := S.cells; simp only [Cells, cellsC, Im, Row, El, DicO, Nat.zero_add, Nat.reduceAdd] at hc
      go_wp2_with (first | ((first | (with_reducible refine mx_seal S ?_) | (with_reducible refine wpl_seal S ?_) | (with_reducible refine ca_seal S ?_)); clear S; (try clear hc); intro w1 S; (try simp only [List.set_cons_zero, List.set_cons_succ, List.nil_append] at S); have hc := S.cells; simp only [Cells, cellsC, Im, Row, El, DicO, Nat.zero_add, Nat.reduceAdd] at hc) | (go_at_call 9; refine (zof_c ⟨yc, ym, ⟨yw, yh, yl⟩⟩ A2 c2 _ _ S.bd).mono ?_; rintro e w1 ⟨rfl, hx⟩; have hxf := hx; replace S := S.ext hx; clear hx; (try clear hc); have hc := S.cells; simp only [Cells, cellsC, Im, Row, El, DicO, Nat.zero_add, Nat.reduceAdd] at hc))
      refine ⟨fun _ => hxf, ?_⟩
      (first | refine ⟨(fun h => by cases h), ?_⟩ | skip); (first | ((first | (with_reducible refine mx_seal S ?_)); clear S; (try clear hc); intro w1 S; (try simp only [List.set_cons_zero, List.set_cons_succ, List.nil_append] at S); have hc := S.cells; simp only [Cells, cellsC, Im, Row, El, DicO, Nat.zero_add, Nat.reduceAdd] at hc) | skip); (try simp only [Act.put, List.setIfInBounds_toArray, List.set_cons_succ, List.set_cons_zero])
      refine mix_cons rfl rfl rfl ?_
      simp only [opsAt, List.getD_cons_succ, List.getD_cons_zero]
      repeat (go_big_quiet_step ((intro hC; first | rfl | (go_simp; first | done | rfl))))
      refine wpQuiet_nil ?_
      repeat (go_big_quiet_step ((intro hC; first | rfl | (go_simp; first | done | rfl))))
      refine wpQuiet_nil ?_
      go_wp2_with (first | ((first | (with_reducible refine mx_seal S ?_) | (with_reducible refine wpl_seal S ?_) | (with_reducible refine ca_seal S ?_)); clear S; (try clear hc); intro w1 S; (try simp only [List.set_cons_zero, List.set_cons_succ, List.nil_append] at S); have hc := S.cells; simp only [Cells, cellsC, Im, Row, El, DicO, Nat.zero_add, Nat.reduceAdd] at hc) | (go_at_call 8; refine (add_s gd ⟨L1, V1, a1⟩ ⟨L2, V2, a2⟩ ⟨yc, ym, ⟨yw, yh, yl⟩⟩ ys A2 B2 c2 d2 S 2 rfl (S.im 1 rfl) (by dsimp only; omega) HSP.out.u (S.im 0 rfl) hd2 (by omega) hDL2 hDV2 har HA.out).mono ?_; rintro e w1 ⟨rfl, J3, S3⟩; clear S hc; have S := S3; clear S3; simp only [List.set_cons_zero, List.set_cons_succ, List.nil_append] at S; have hc := S.cells; simp only [Cells, cellsC, Im, Row, El, DicO, Nat.zero_add, Nat.reduceAdd] at hc))
      (first | refine ⟨(fun h => by cases h), ?_⟩ | skip); (first | ((first | (with_reducible refine mx_seal S ?_)); clear S; (try clear hc); intro w1 S; (try simp only [List.set_cons_zero, List.set_cons_succ, List.nil_append] at S); have hc := S.cells; simp only [Cells, cellsC, Im, Row, El, DicO, Nat.zero_add, Nat.reduceAdd] at hc) | skip); (try simp only [Act.put, List.setIfInBounds_toArray, List.set_cons_succ, List.set_cons_zero])
      refine mix_last rfl ?_
      simp only [opsAt, List.getD_cons_succ, List.getD_cons_zero]
      repeat (go_big_quiet_step ((intro hC; first | rfl | (go_simp; first | done | rfl))))
      refine wpQuiet_nil ?_
      simp only [calmQ]
      go_wp2_with (first | ((first | (with_reducible refine wpl_seal S ?_) | (with_reducible refine cw_seal S ?_) | (with_reducible refine bp_seal S ?_) | (with_reducible refine ca_seal S ?_)); clear S; (try clear hc); intro w1 S; (try simp only [List.set_cons_zero, List.set_cons_succ, List.nil_append] at S); have hc := S.cells; simp only [Cells, cellsC, Im, Row, El, DicO, Nat.zero_add, Nat.reduceAdd] at hc))
      go_roundw
      case rel => exact ⟨i + 1, ⟨L2, V2, a2⟩, _, by go_num, by omega, ⟨by rw [HTN.out]; exact HD2.out⟩, ⟨(S.sel [2, 3, 4, 5, 6] (by decide) rfl (by simp) : SH _ _ _ [_, _, _, _, _] _ _)⟩⟩
      case measure => simp [intOf]; omega
    · have hlt' : decide ((i : Int) < l.length) = false := decide_eq_false (by omega)
      have HDL := As.mk (show DOk D l by rw [← show o = l by rw [← HT.out, List.take_of_length_le (by omega)]]; exact HD.out)
      clear HD HT HOI HSO hos
      have hc := S.cells; simp only [Cells, cellsC, Im, Row, El, DicO, Nat.zero_add, Nat.reduceAdd] at hc
      go_wp2_with (first | ((first | (with_reducible refine wpl_seal S ?_) | (with_reducible refine cw_seal S ?_) | (with_reducible refine bp_seal S ?_) | (with_reducible refine ca_seal S ?_)); clear S; (try clear hc); intro w1 S; (try simp only [List.set_cons_zero, List.set_cons_succ, List.nil_append] at S); have hc := S.cells; simp only [Cells, cellsC, Im, Row, El, DicO, Nat.zero_add, Nat.reduceAdd] at hc))
      clear hc
      go_loopw [11, 15] (fun ov iv w' => ∃ (i : Nat) (o : List Tv) (D : DS) (Ao : Option Addr) (co : Nat) (J : Fp), iv = .int .i64 i ∧ i ≤ 2 ∧ ov = .slice Ao o.length co ∧ o.length ≤ co ∧ o.length ≤ 3 + i ∧ As (DOk D o) ∧ As (∀ t ∈ o, SmT t) ∧ As (SH No I w [DicO gd D.L D.V D.ar, Im kyT Ao o, Cel g6 50 [.bool xb, .int .i64 xmv, .int .i64 xw, .int .i64 xh, .slice Ax xl.length nx], Im kI T3 t9, Im kI Ax xl] w' J)) (fun _ iv _ => 2 - (intOf iv).toNat)
      case atStart => exact ⟨0, l, D, B, cB, _, rfl, by omega, rfl, hcB, by omega, HDL, HS, ⟨S⟩⟩
      case round =>
        clear S HDL
        obtain ⟨i, o, D, Ao, co, J, rfl, hi, rfl, hoc, hos, HD, HSO, ⟨S⟩⟩ := hrel
        by_cases hi2 : i < 2
        · have hi2' : decide ((i : Int) < 2) = true := decide_eq_true (by omega)
          obtain ⟨hDL, hDV, har0, har1⟩ := HD.out.small HSO.out (by omega)
          have hDL2 : D.L.length ≤ 1000 := by omega
          have hDV2 : D.V.length ≤ 100000 := by omega
          have har : 0 ≤ D.ar ∧ D.ar ≤ 1000000000 := ⟨har0, by omega⟩
          clear hDL
          obtain ⟨qc, qm, ⟨qw, qh, ql⟩⟩ := q
          dsimp only [picV] at *
          obtain rfl | rfl : i = 0 ∨ i = 1 := by omega
          · obtain ⟨D', nn, ee, o', hadd, href, hok, hso', hol', hne⟩ := add_gen HD.out HSO.out (by omega) (fun _ => HSQ.out) t9
            have HADD := As.mk hadd
            have HREF := As.mk href
            have HOK := As.mk hok
            have HSO2 := As.mk hso'
            have HU := As.mk HSQ.out.u
            have HMX := As.mk (mayG_x HSQ.out.may)
            have HSM := As.mk (show mayG (⟨qc, qm, ⟨qw, qh, ql⟩⟩ : Pic) = true → Small _ from fun _ => HSQ.out)
            have hoo : ((o.length : Int) != (o.length : Int)) = false := by simp
            have hpl : ql.length ≤ 256 := hq256
            clear hadd href hok hso'
            have hc := S.cells; simp only [Cells, cellsC, Im, Row, El, DicO, Nat.zero_add, Nat.reduceAdd] at hc
            go_upto_region 16 with (first | ((first | (with_reducible refine wpl_seal S ?_) | (with_reducible refine cw_seal S ?_) | (with_reducible refine bp_seal S ?_) | (with_reducible refine ca_seal S ?_)); clear S; (try clear hc); intro w1 S; (try simp only [List.set_cons_zero, List.set_cons_succ, List.nil_append] at S); have hc := S.cells; simp only [Cells, cellsC, Im, Row, El, DicO, Nat.zero_add, Nat.reduceAdd] at hc) | (go_at_call 13; refine (HGI.out ⟨qc, qm, ⟨qw, qh, ql⟩⟩ HQ.out _ _ S.bd (S.im 4 rfl)).mono ?_; rintro e w1 ⟨Bx, cx, rfl, hu⟩; obtain ⟨I1, S1, hI1⟩ := S.new hu; clear S hu hI1; (try clear hc); have S := S1; clear S1; have hc := S.cells; simp only [Cells, cellsC, Im, Row, El, DicO, Nat.zero_add, Nat.reduceAdd] at hc; have hc := S.cells; simp only [Cells, cellsC, Im, Row, El, DicO, Nat.zero_add, Nat.reduceAdd] at hc))
            obtain ⟨_, _, I5, e5, hcx, S5, -⟩ := S.frow 1 rfl
            cases e5
            clear S hc
            have S := S5
            clear S5
            simp only [List.set_cons_zero, List.set_cons_succ, List.nil_append] at S
            have hc := S.cells; simp only [Cells, cellsC, Im, Row, El, DicO, Nat.zero_add, Nat.reduceAdd] at hc
            rcases hne with ⟨rfl, rfl⟩ | ⟨rfl, rfl⟩
            all_goals
              go_wp2_with (first | ((first | (with_reducible refine wpl_seal S ?_) | (with_reducible refine cw_seal S ?_) | (with_reducible refine bp_seal S ?_) | (with_reducible refine ca_seal S ?_)); clear S; (try clear hc); intro w1 S; (try simp only [List.set_cons_zero, List.set_cons_succ, List.nil_append] at S); have hc := S.cells; simp only [Cells, cellsC, Im, Row, El, DicO, Nat.zero_add, Nat.reduceAdd] at hc) | (go_at_call 9; refine (zof_c ⟨qc, qm, ⟨qw, qh, ql⟩⟩ Bx cx _ _ S.bd).mono ?_; rintro e w1 ⟨rfl, hx⟩; replace S := S.ext hx; clear hx; (try clear hc); have hc := S.cells; simp only [Cells, cellsC, Im, Row, El, DicO, Nat.zero_add, Nat.reduceAdd] at hc) | (go_at_call 8; refine (add_s gd D D' ⟨qc, qm, ⟨qw, qh, ql⟩⟩ t9 Bx T3 cx nt S 2 rfl (S.im 1 rfl) (by dsimp only; omega) HU.out (S.im 5 rfl) ht9n (by omega) hDL2 hDV2 har HADD.out).mono ?_; rintro e w1 ⟨rfl, J3, S3⟩; clear S hc; have S := S3; clear S3; simp only [List.set_cons_zero, List.set_cons_succ, List.nil_append] at S; have hc := S.cells; simp only [Cells, cellsC, Im, Row, El, DicO, Nat.zero_add, Nat.reduceAdd] at hc) | (go_at_call 10; refine (yadd_c o ⟨qc, qm, ⟨qw, qh, ql⟩⟩ t9 Ao Bx T3 co cx nt _ _ S.bd (S.im 3 rfl) hoc (by omega) HSO.out (S.im 1 rfl) hcx hpl HU.out HMX.out HSM.out (S.im 5 rfl) (by omega) HREF.out).mono ?_; rintro e w1 ⟨An, cn, rfl, hcn, hu⟩; obtain ⟨I1, S1, hI1⟩ := S.new hu; clear S hu hI1; (try clear hc); have S := S1; clear S1; have hc := S.cells; simp only [Cells, cellsC, Im, Row, El, DicO, Nat.zero_add, Nat.reduceAdd] at hc; have hc := S.cells; simp only [Cells, cellsC, Im, Row, El, DicO, Nat.zero_add, Nat.reduceAdd] at hc))
              go_roundw
              case rel => exact ⟨0 + 1, o', D', An, cn, _, by go_num, by omega, rfl, hcn, by omega, HOK, HSO2, ⟨(S.sel [3, 0, 5, 6, 7] (by decide) rfl (by simp) : SH _ _ _ [_, _, _, _, _] _ _)⟩⟩
              case measure => simp [intOf]
          · skip
            have hql3 : ql ≠ [] := fun h => by rw [h] at hql2; exact absurd hql2 (by decide)
            obtain ⟨xs2, hxs⟩ : ∃ xs2, ql.set a p = xs2 := ⟨_, rfl⟩
            have hlx : ql.length = xs2.length := by rw [← hxs, List.length_set]
            have HX2 := As.mk (show mayX (⟨qw, qh, xs2⟩ : Mx) = true ∧ (∀ q ∈ xs2, U64 q) ∧ xs2.length ≤ 256 ∧ (mayG ⟨qc, qm, ⟨qw, qh, xs2⟩⟩ = true → Small ⟨qc, qm, ⟨qw, qh, xs2⟩⟩) by rw [← hxs]; exact HSX.out)
            obtain ⟨D', nn, ee, o', hadd, href, hok, hso', hol', hne⟩ := add_gen HD.out HSO.out (by omega) HX2.out.2.2.2 t9
            have HADD := As.mk hadd
            have HREF := As.mk href
            have HOK := As.mk hok
            have HSO2 := As.mk hso'
            have HU := As.mk HX2.out.2.1
            have HMX := As.mk HX2.out.1
            have HSM := As.mk HX2.out.2.2.2
            have HXS := As.mk hxs
            have HLX := As.mk hlx
            have HQN := As.mk hql3
            have hoo : ((o.length : Int) != (o.length : Int)) = false := by simp
            have hpl : xs2.length ≤ 256 := HX2.out.2.2.1
            clear hadd href hok hso' hxs hlx hql3
            have hc := S.cells; simp only [Cells, cellsC, Im, Row, El, DicO, Nat.zero_add, Nat.reduceAdd] at hc
            go_upto_region 15 with (first | ((first | (with_reducible refine wpl_seal S ?_) | (with_reducible refine cw_seal S ?_) | (with_reducible refine bp_seal S ?_) | (with_reducible refine ca_seal S ?_)); clear S; (try clear hc); intro w1 S; (try simp only [List.set_cons_zero, List.set_cons_succ, List.nil_append] at S); have hc := S.cells; simp only [Cells, cellsC, Im, Row, El, DicO, Nat.zero_add, Nat.reduceAdd] at hc) | (go_at_call 13; refine (HGI.out ⟨qc, qm, ⟨qw, qh, ql⟩⟩ HQ.out _ _ S.bd (S.im 4 rfl)).mono ?_; rintro e w1 ⟨Bx, cx, rfl, hu⟩; obtain ⟨I1, S1, hI1⟩ := S.new hu; clear S hu hI1; (try clear hc); have S := S1; clear S1; have hc := S.cells; simp only [Cells, cellsC, Im, Row, El, DicO, Nat.zero_add, Nat.reduceAdd] at hc; have hc := S.cells; simp only [Cells, cellsC, Im, Row, El, DicO, Nat.zero_add, Nat.reduceAdd] at hc))
            obtain ⟨A', c', e', hcx, hn'⟩ := (S.own 1 rfl).form
            rw [Value.slice.injEq] at e'
            obtain ⟨rfl, -, rfl⟩ := e'
            obtain ⟨gx, rfl, -⟩ := hn' HQN.out
            clear hn'
            obtain ⟨g16, eg16⟩ := S.name 0 rfl; rw [← eg16] at S ⊢; clear eg16
            have hc := S.cells; simp only [Cells, cellsC, Im, Row, El, DicO, Nat.zero_add, Nat.reduceAdd] at hc
            have hq := S.cellsE; simp only [CellsE, cellsE, Im, Row, El, DicO, Nat.zero_add, Nat.reduceAdd] at hq
            refine wp_region_ext [⟨[0, 1, 2, 3, 4, 5, 6, 7], [9], 8, true⟩, ⟨[10], [], 11, false⟩] [] (by kernel_rfl) (by kernel_rfl) ?_
            refine mix_cons rfl rfl rfl ?_
            simp only [opsAt, List.getD_cons_succ, List.getD_cons_zero]
            repeat (go_big_quiet_step ((intro hC; first | rfl | (go_simp; first | done | rfl))))
            refine wpQuiet_nil ?_
            repeat (go_big_quiet_step ((intro hC; first | rfl | (go_simp; first | done | rfl))))
            refine wpQuiet_nil ?_
            clear hc hq
            replace S := S.drew
            generalize w1.drew = w6 at S ⊢
            have hc := S.cells; simp only [Cells, cellsC, Im, Row, El, DicO, Nat.zero_add, Nat.reduceAdd] at hc
            go_wp2_with (first | ((first | (with_reducible refine mx_seal S ?_) | (with_reducible refine wpl_seal S ?_) | (with_reducible refine ca_seal S ?_)); clear S; (try clear hc); intro w1 S; (try simp only [List.set_cons_zero, List.set_cons_succ, List.nil_append] at S); have hc := S.cells; simp only [Cells, cellsC, Im, Row, El, DicO, Nat.zero_add, Nat.reduceAdd] at hc) | (go_at_call 14; refine (HAR.out _).mono ?_; rintro e w1 ⟨rfl, rfl⟩))
            refine ⟨fun _ => Ext.refl _, ?_⟩
            (first | refine ⟨(fun h => by cases h), ?_⟩ | skip); (first | ((first | (with_reducible refine mx_seal S ?_)); clear S; (try clear hc); intro w1 S; (try simp only [List.set_cons_zero, List.set_cons_succ, List.nil_append] at S); have hc := S.cells; simp only [Cells, cellsC, Im, Row, El, DicO, Nat.zero_add, Nat.reduceAdd] at hc) | skip); (try simp only [Act.put, List.setIfInBounds_toArray, List.set_cons_succ, List.set_cons_zero])
            have HJ : JLt a ql.length := ⟨hal⟩
            have hnf := S.nfzR 1 rfl a
            obtain ⟨Av, cv, e1, -, hs1⟩ := S.row 1 rfl
            rw [Value.slice.injEq] at e1
            obtain ⟨rfl, -, rfl⟩ := e1
            obtain ⟨b', o9, e9, hck⟩ := hs1.num_at (i := a) (List.getElem?_eq_getElem hal)
            cases e9
            rw [Nat.zero_add] at hck
            refine mix_cons rfl rfl rfl ?_
            simp only [opsAt, List.getD_cons_succ, List.getD_cons_zero]
            repeat (go_big_quiet_step ((intro hC; first | rfl | (go_simp; first | done | rfl))))
            refine wpQuiet_nil ?_
            repeat (go_big_quiet_step ((intro hC; first | rfl | (go_simp; first | done | rfl))))
            refine wpQuiet_nil ?_
            go_wp2_with (first | ((first | (with_reducible refine mx_seal S ?_) | (with_reducible refine wpl_seal S ?_) | (with_reducible refine ca_seal S ?_)); clear S; (try clear hc); intro w1 S; (try simp only [List.set_cons_zero, List.set_cons_succ, List.nil_append] at S); have hc := S.cells; simp only [Cells, cellsC, Im, Row, El, DicO, Nat.zero_add, Nat.reduceAdd] at hc))
            (first | refine ⟨(fun h => by cases h), ?_⟩ | skip); (first | ((first | (with_reducible refine mx_seal S ?_)); clear S; (try clear hc); intro w1 S; (try simp only [List.set_cons_zero, List.set_cons_succ, List.nil_append] at S); have hc := S.cells; simp only [Cells, cellsC, Im, Row, El, DicO, Nat.zero_add, Nat.reduceAdd] at hc) | skip); (try simp only [Act.put, List.setIfInBounds_toArray, List.set_cons_succ, List.set_cons_zero])
            refine mix_last rfl ?_
            simp only [opsAt, List.getD_cons_succ, List.getD_cons_zero]
            repeat (go_big_quiet_step ((intro hC; first | rfl | (go_simp; first | done | rfl))))
            refine wpQuiet_nil ?_
            simp only [calmQ]
            clear hnf hck hs1
            rw [HXS.out, HLX.out] at S
            rw [HLX.out] at hcx ⊢
            clear hc
            have hc := S.cells; simp only [Cells, cellsC, Im, Row, El, DicO, Nat.zero_add, Nat.reduceAdd] at hc
            go_upto_region 16 with (first | ((first | (with_reducible refine wpl_seal S ?_) | (with_reducible refine cw_seal S ?_) | (with_reducible refine bp_seal S ?_) | (with_reducible refine ca_seal S ?_)); clear S; (try clear hc); intro w1 S; (try simp only [List.set_cons_zero, List.set_cons_succ, List.nil_append] at S); have hc := S.cells; simp only [Cells, cellsC, Im, Row, El, DicO, Nat.zero_add, Nat.reduceAdd] at hc))
            obtain ⟨_, _, I5, e5, hcx2, S5, -⟩ := S.frow 1 rfl
            cases e5
            clear S hc
            have S := S5
            clear S5
            simp only [List.set_cons_zero, List.set_cons_succ, List.nil_append] at S
            have hc := S.cells; simp only [Cells, cellsC, Im, Row, El, DicO, Nat.zero_add, Nat.reduceAdd] at hc
            rcases hne with ⟨rfl, rfl⟩ | ⟨rfl, rfl⟩
            all_goals
              go_wp2_with (first | ((first | (with_reducible refine wpl_seal S ?_) | (with_reducible refine cw_seal S ?_) | (with_reducible refine bp_seal S ?_) | (with_reducible refine ca_seal S ?_)); clear S; (try clear hc); intro w1 S; (try simp only [List.set_cons_zero, List.set_cons_succ, List.nil_append] at S); have hc := S.cells; simp only [Cells, cellsC, Im, Row, El, DicO, Nat.zero_add, Nat.reduceAdd] at hc) | (go_at_call 9; refine (zof_c ⟨qc, qm, ⟨qw, qh, xs2⟩⟩ (some ⟨gx, 0, none⟩) cx _ _ S.bd).mono ?_; rintro e w1 ⟨rfl, hx⟩; replace S := S.ext hx; clear hx; (try clear hc); have hc := S.cells; simp only [Cells, cellsC, Im, Row, El, DicO, Nat.zero_add, Nat.reduceAdd] at hc) | (go_at_call 8; refine (add_s gd D D' ⟨qc, qm, ⟨qw, qh, xs2⟩⟩ t9 (some ⟨gx, 0, none⟩) T3 cx nt S 2 rfl (S.im 1 rfl) (by dsimp only; omega) HU.out (S.im 5 rfl) ht9n (by omega) hDL2 hDV2 har HADD.out).mono ?_; rintro e w1 ⟨rfl, J3, S3⟩; clear S hc; have S := S3; clear S3; simp only [List.set_cons_zero, List.set_cons_succ, List.nil_append] at S; have hc := S.cells; simp only [Cells, cellsC, Im, Row, El, DicO, Nat.zero_add, Nat.reduceAdd] at hc) | (go_at_call 10; refine (yadd_c o ⟨qc, qm, ⟨qw, qh, xs2⟩⟩ t9 Ao (some ⟨gx, 0, none⟩) T3 co cx nt _ _ S.bd (S.im 3 rfl) hoc (by omega) HSO.out (S.im 1 rfl) hcx hpl HU.out HMX.out HSM.out (S.im 5 rfl) (by omega) HREF.out).mono ?_; rintro e w1 ⟨An, cn, rfl, hcn, hu⟩; obtain ⟨I1, S1, hI1⟩ := S.new hu; clear S hu hI1; (try clear hc); have S := S1; clear S1; have hc := S.cells; simp only [Cells, cellsC, Im, Row, El, DicO, Nat.zero_add, Nat.reduceAdd] at hc; have hc := S.cells; simp only [Cells, cellsC, Im, Row, El, DicO, Nat.zero_add, Nat.reduceAdd] at hc))
              go_roundw
              case rel => exact ⟨1 + 1, o', D', An, cn, _, by go_num, by omega, rfl, hcn, by omega, HOK, HSO2, ⟨(S.sel [3, 0, 5, 6, 7] (by decide) rfl (by simp) : SH _ _ _ [_, _, _, _, _] _ _)⟩⟩
              case measure => simp [intOf]
        · have hi2' : decide ((i : Int) < 2) = false := decide_eq_false (by omega)
          obtain ⟨hDL, hDV, har0, har1⟩ := HD.out.small HSO.out (by omega)
          have hDL2 : D.L.length ≤ 1000 := by omega
          have hDV2 : D.V.length ≤ 100000 := by omega
          have har : 0 ≤ D.ar ∧ D.ar ≤ 1000000000 := ⟨har0, by omega⟩
          have HADD := As.mk (add_zero D [0])
          clear hDL
          have hc := S.cells; simp only [Cells, cellsC, Im, Row, El, DicO, Nat.zero_add, Nat.reduceAdd] at hc
          go_wp2_with (first | ((first | (with_reducible refine wpl_seal S ?_) | (with_reducible refine cw_seal S ?_) | (with_reducible refine bp_seal S ?_) | (with_reducible refine ca_seal S ?_)); clear S; (try clear hc); intro w1 S; (try simp only [List.set_cons_zero, List.set_cons_succ, List.nil_append] at S); have hc := S.cells; simp only [Cells, cellsC, Im, Row, El, DicO, Nat.zero_add, Nat.reduceAdd] at hc) | (go_at_call 8; obtain ⟨J1, S1, -⟩ := S.lit 0 rfl (k := kI) (xs := [0]) (flat_int [0]); clear S hc; have S := S1; clear S1; simp only [List.set_cons_zero, List.set_cons_succ, List.nil_append] at S; refine (add_s gd D D ⟨0, 0, ⟨0, 0, []⟩⟩ [0] none _ 0 1 S 1 rfl Sl.nil (by simp) (by simp) (S.im 0 rfl) (by simp) (by simp) hDL2 hDV2 har HADD.out).mono ?_; rintro e w1 ⟨rfl, J3, S3⟩; clear S; have S := S3; clear S3; simp only [List.set_cons_zero, List.set_cons_succ, List.nil_append] at S; have hc := S.cells; simp only [Cells, cellsC, Im, Row, El, DicO, Nat.zero_add, Nat.reduceAdd] at hc) | (go_at_call 11; refine (like_s gd D o S 1 rfl HD.out HSO.out (by omega) Ao co (S.im 2 rfl)).mono ?_; rintro e w1 ⟨J1, rfl, S1⟩; clear S hc; have S := S1; clear S1; have hc := S.cells; simp only [Cells, cellsC, Im, Row, El, DicO, Nat.zero_add, Nat.reduceAdd] at hc) | (go_at_call 12; refine (dlives_c _ _ S.bd).mono ?_; rintro e w1 ⟨rfl, hx⟩; replace S := S.ext hx; clear hx; (try clear hc); have hc := S.cells; simp only [Cells, cellsC, Im, Row, El, DicO, Nat.zero_add, Nat.reduceAdd] at hc))
          go_ret
          exact ⟨rfl, S.out⟩
end Go.Proofs.YtnmlonicfncpfaaGreat
