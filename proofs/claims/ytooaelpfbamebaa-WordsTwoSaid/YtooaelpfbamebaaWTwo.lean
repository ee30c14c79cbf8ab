/- WordsTwo: the law's walk. -/
import Derived.Test.YtooaelpfbamebaaWLaw
namespace Go.Proofs.Ytooaelpfbamebaa
open Go.RowKit X
set_option maxHeartbeats 4000000
set_option maxRecDepth 8000
set_option linter.unusedSimpArgs false
set_option linter.unusedVariables false
theorem vtwo_c (ls : List (List Int)) (us vs : List Int) (A Ax Ay : Option Addr) (c cx cy : Nat) (w : World) (I : Fp) (hI : ∀ b, I b → b < w.heap.size) (hx : Sl kW w I A ls) (hxx : Sl kP w I Ax us) (hxy : Sl kP w I Ay vs) :
    Calls Try.prog 4 #[.slice A ls.length c, .slice Ax us.length cx, .slice Ay vs.length cy] w fun e w' => e = .returned (.bool true) ∧ Ext w w' := by
  have S := ((SH.start w I hI).know (h := Im kP Ay vs) hxy).know (h := Im kP Ax us) hxx
  have HXL := As.mk hx
  clear hx hxx hxy
  obtain ⟨xs, hxs⟩ : ∃ xs, rowT us 8 = xs := ⟨_, rfl⟩
  obtain ⟨ys, hys⟩ : ∃ ys, rowT vs 8 = ys := ⟨_, rfl⟩
  have hxl : xs.length ≤ 8 := by rw [← hxs, rowT_len]; omega
  have hyl : ys.length ≤ 8 := by rw [← hys, rowT_len]; omega
  have HXS := As.mk hxs
  have HYS := As.mk hys
  clear hxs hys
  have hm1 : As (1 = 1) := ⟨rfl⟩
  have hm2 : As (1 = 1) := ⟨rfl⟩
  have hc := S.cells; simp only [Cells, cellsC, Im, Row, El, RTH, TreeH, TR, AU, AL, OrNil, AuP, SetO, Many, ScO, Nat.zero_add, Nat.reduceAdd] at hc
  go_enter Try.func4, Try.ntmps4
  go_upto_if 34 with (first | ((first | (with_reducible refine wpl_seal S ?_) | (with_reducible refine cw_seal S ?_) | (with_reducible refine bp_seal S ?_) | (with_reducible refine ca_seal S ?_)); clear S; (try clear hc); intro w1 S; (try simp only [List.set_cons_zero, List.set_cons_succ, List.nil_append] at S); have hc := S.cells; simp only [Cells, cellsC, Im, Row, El, RTH, TreeH, TR, AU, AL, OrNil, AuP, SetO, Many, ScO, Nat.zero_add, Nat.reduceAdd] at hc) | (go_at_call 9; refine (begin14_c false ls A c _ I S.bd (HXL.out.below S.out)).mono ?_; rintro e w1 ⟨gs, L, W, a2, d2, J, rfl, S2, hd2, -, hL, hW, hL5, hW5⟩; obtain ⟨J2, S3, -, -⟩ := S.comp S2; have HL5 := As.mk hL5; have HW5 := As.mk hW5; clear S hc S2 hL5 hW5; have S := S3; clear S3; simp only [List.cons_append, List.nil_append] at S; have HG := As.mk (S.setG 0 rfl); have HNW := As.mk (neW_of HW5.out); have HWs : As (ShortW W) := ⟨fun x hx => by have := (HW5.out x hx).2; omega⟩; have hc := S.cells; simp only [Cells, cellsC, Im, Row, El, RTH, TreeH, TR, AU, AL, OrNil, AuP, SetO, Many, ScO, Nat.zero_add, Nat.reduceAdd] at hc) | (go_at_call 10; clear hm1; refine (row_c us 8 Ax cx _ _ S.bd (S.im 2 rfl) (by omega)).mono ?_; rw [HXS.out]; rintro e w1 ⟨v, rfl, hu⟩; obtain ⟨I1, S1, hI1⟩ := S.new hu; clear S hu hI1; (try clear hc); have S := S1; clear S1; have hc := S.cells; simp only [Cells, cellsC, Im, Row, El, RTH, TreeH, TR, AU, AL, OrNil, AuP, SetO, Many, ScO, Nat.zero_add, Nat.reduceAdd] at hc; obtain ⟨A8x, c8x, I1, e1, hc8x, S1, hI1⟩ := S.frow 0 rfl; subst e1; clear S hI1; have S := S1; clear S1; simp only [List.set_cons_zero, List.set_cons_succ, List.nil_append] at S; have hc := S.cells; simp only [Cells, cellsC, Im, Row, El, RTH, TreeH, TR, AU, AL, OrNil, AuP, SetO, Many, ScO, Nat.zero_add, Nat.reduceAdd] at hc) | (go_at_call 10; refine (row_c vs 8 Ay cy _ _ S.bd (S.im 4 rfl) (by omega)).mono ?_; rw [HYS.out]; rintro e w1 ⟨v, rfl, hu⟩; obtain ⟨I1, S1, hI1⟩ := S.new hu; clear S hu hI1; (try clear hc); have S := S1; clear S1; have hc := S.cells; simp only [Cells, cellsC, Im, Row, El, RTH, TreeH, TR, AU, AL, OrNil, AuP, SetO, Many, ScO, Nat.zero_add, Nat.reduceAdd] at hc; obtain ⟨A8y, c8y, I1, e1, hc8y, S1, hI1⟩ := S.frow 0 rfl; subst e1; clear S hI1; have S := S1; clear S1; simp only [List.set_cons_zero, List.set_cons_succ, List.nil_append] at S; have hc := S.cells; simp only [Cells, cellsC, Im, Row, El, RTH, TreeH, TR, AU, AL, OrNil, AuP, SetO, Many, ScO, Nat.zero_add, Nat.reduceAdd] at hc) | (go_at_call 15; clear hm2; refine (wbegin_r S 2 rfl (by omega) (by omega) HNW.out 5 HL5.out (by omega)).mono ?_; rintro e w1 ⟨gc, J9, rfl, S9⟩; clear S hc; have S := S9; clear S9; have hc := S.cells; simp only [Cells, cellsC, Im, Row, El, RTH, TreeH, TR, AU, AL, OrNil, AuP, SetO, Many, ScO, Nat.zero_add, Nat.reduceAdd] at hc) | (go_at_call 15; refine (wbegin_r S 3 rfl (by omega) (by omega) HNW.out 5 HL5.out (by omega)).mono ?_; rintro e w1 ⟨gd, J9, rfl, S9⟩; clear S hc; have S := S9; clear S9; have hc := S.cells; simp only [Cells, cellsC, Im, Row, El, RTH, TreeH, TR, AU, AL, OrNil, AuP, SetO, Many, ScO, Nat.zero_add, Nat.reduceAdd] at hc))
  go_wp2_with (first | ((first | (with_reducible refine wpl_seal S ?_) | (with_reducible refine cw_seal S ?_) | (with_reducible refine bp_seal S ?_) | (with_reducible refine ca_seal S ?_)); clear S; (try clear hc); intro w1 S; (try simp only [List.set_cons_zero, List.set_cons_succ, List.nil_append] at S); have hc := S.cells; simp only [Cells, cellsC, Im, Row, El, RTH, TreeH, TR, AU, AL, OrNil, AuP, SetO, Many, ScO, Nat.zero_add, Nat.reduceAdd] at hc))
  have S1 := S
  clear S hc
  go_loopw [13] (fun v w' => ∃ (i kx ky : Nat), v = .int .i64 i ∧ i ≤ 8 ∧ kx = min i xs.length ∧ ky = min i ys.length ∧ ∃ I', As (SH No I w [ScO gc L W (stX L xs kx), ScO gd L W (stX L ys ky), Im kP A8x xs, Im kP A8y ys, Im kW a2 W] w' I')) (fun v _ => 8 - (intOf v).toNat)
  case atStart => exact ⟨0, 0, 0, rfl, by omega, by omega, by omega, _, ⟨by rw [stX_zero, stX_zero]; exact S1.sel [1, 0, 3, 2, 5] (by decide) rfl (by simp)⟩⟩
  case round =>
    clear S1
    obtain ⟨i, kx, ky, rfl, hi8, hkx, hky, I', ⟨S⟩⟩ := hrel
    have hc := S.cells; simp only [Cells, cellsC, Im, Row, El, RTH, TreeH, TR, AU, AL, OrNil, AuP, SetO, Many, ScO, Nat.zero_add, Nat.reduceAdd] at hc
    by_cases hil : i < 8
    · have hil' : decide ((i : Int) < 8) = true := by simp; omega
      have hil9 : (i : Int) < 8 := by omega
      by_cases hlx : i < xs.length
      · have hkx2 : kx = i := by omega
        rw [hkx2] at S
        have hlx' : decide ((i : Int) < xs.length) = true := by simpa using hlx
        have hmnx : min (i : Int) ((xs.length : Int) - 1) = i := by omega
        obtain ⟨bbx, oox, rfl, hcy⟩ := (S.im 2 rfl).int_at hlx
        have HSTP := As.mk (stX_step HG.out xs i hlx)
        obtain ⟨ES, hES⟩ : ∃ ES, endsL W (xs.take (i + 1)) = ES := ⟨_, rfl⟩
        have HES := As.mk hES
        have HER : As (endsR L W (stX L xs (i + 1)) = ES) := ⟨by rw [← hES]; exact stX_ends HG.out xs i hlx⟩
        have hel : ES.length ≤ 1000000 := by rw [← HER.out]; have := endsR_len (L := L) (W := W) (z := stX L xs (i + 1)); omega
        clear hES
        generalize xs[i] = y at hcy HSTP
        go_upto_if 64 with (first | ((first | (with_reducible refine wpl_seal S ?_) | (with_reducible refine cw_seal S ?_) | (with_reducible refine bp_seal S ?_) | (with_reducible refine ca_seal S ?_)); clear S; (try clear hc); intro w1 S; (try simp only [List.set_cons_zero, List.set_cons_succ, List.nil_append] at S); have hc := S.cells; simp only [Cells, cellsC, Im, Row, El, RTH, TreeH, TR, AU, AL, OrNil, AuP, SetO, Many, ScO, Nat.zero_add, Nat.reduceAdd] at hc) | (go_at_call 16; refine (wput_r S 0 rfl (by omega) (by omega) y).mono ?_; rw [HSTP.out, HER.out]; rintro e w1 ⟨v9, J9, rfl, S9⟩; clear S hc hcy; have S := S9; clear S9; simp only [List.set_cons_zero, List.set_cons_succ, List.nil_append] at S; obtain ⟨A9, c9, I1, e1, hc9, S1, hI1⟩ := S.frow 0 rfl; subst e1; clear S hI1; have S := S1; clear S1; simp only [List.set_cons_zero, List.set_cons_succ, List.nil_append] at S; have hc := S.cells; simp only [Cells, cellsC, Im, Row, El, RTH, TreeH, TR, AU, AL, OrNil, AuP, SetO, Many, ScO, Nat.zero_add, Nat.reduceAdd] at hc) | (go_at_call 13; refine (yends_c W xs i a2 _ d2 c8x _ _ S.bd (S.im 5 rfl) (S.im 3 rfl) hc8x (by omega) (by omega) hlx HWs.out).mono ?_; rw [HES.out]; rintro e w1 ⟨v7, rfl, hu⟩; obtain ⟨I1, S1, hI1⟩ := S.new hu; clear S hu hI1; (try clear hc); have S := S1; clear S1; have hc := S.cells; simp only [Cells, cellsC, Im, Row, El, RTH, TreeH, TR, AU, AL, OrNil, AuP, SetO, Many, ScO, Nat.zero_add, Nat.reduceAdd] at hc; obtain ⟨A7, c7, I1, e1, hc7, S1, hI1⟩ := S.frow 0 rfl; subst e1; clear S hI1; have S := S1; clear S1; simp only [List.set_cons_zero, List.set_cons_succ, List.nil_append] at S; have hc := S.cells; simp only [Cells, cellsC, Im, Row, El, RTH, TreeH, TR, AU, AL, OrNil, AuP, SetO, Many, ScO, Nat.zero_add, Nat.reduceAdd] at hc) | (go_at_call 12; refine (sameI_e ES A9 A7 c9 c7 _ _ _ (S.im 1 rfl) (S.im 0 rfl) hel).mono ?_; rintro e w1 ⟨rfl, hx⟩; have hx := hx.ext; replace S := S.ext hx; clear hx; (try clear hc); have hc := S.cells; simp only [Cells, cellsC, Im, Row, El, RTH, TreeH, TR, AU, AL, OrNil, AuP, SetO, Many, ScO, Nat.zero_add, Nat.reduceAdd] at hc))
        replace S := (S.sel [2, 3, 4, 5, 6] (by decide) rfl (by simp) : SH _ _ _ [_, _, _, _, _] _ _)
        have hc := S.cells; simp only [Cells, cellsC, Im, Row, El, RTH, TreeH, TR, AU, AL, OrNil, AuP, SetO, Many, ScO, Nat.zero_add, Nat.reduceAdd] at hc
        by_cases hly : i < ys.length
        · have hky2 : ky = i := by omega
          rw [hky2] at S
          have hly' : decide ((i : Int) < ys.length) = true := by simpa using hly
          have hmny : min (i : Int) ((ys.length : Int) - 1) = i := by omega
          obtain ⟨bby, ooy, rfl, hcy⟩ := (S.im 3 rfl).int_at hly
          have HSTP := As.mk (stX_step HG.out ys i hly)
          obtain ⟨ES, hES⟩ : ∃ ES, endsL W (ys.take (i + 1)) = ES := ⟨_, rfl⟩
          have HES := As.mk hES
          have HER : As (endsR L W (stX L ys (i + 1)) = ES) := ⟨by rw [← hES]; exact stX_ends HG.out ys i hly⟩
          have hel : ES.length ≤ 1000000 := by rw [← HER.out]; have := endsR_len (L := L) (W := W) (z := stX L ys (i + 1)); omega
          clear hES
          generalize ys[i] = y at hcy HSTP
          go_wp2_with (first | ((first | (with_reducible refine wpl_seal S ?_) | (with_reducible refine cw_seal S ?_) | (with_reducible refine bp_seal S ?_) | (with_reducible refine ca_seal S ?_)); clear S; (try clear hc); intro w1 S; (try simp only [List.set_cons_zero, List.set_cons_succ, List.nil_append] at S); have hc := S.cells; simp only [Cells, cellsC, Im, Row, El, RTH, TreeH, TR, AU, AL, OrNil, AuP, SetO, Many, ScO, Nat.zero_add, Nat.reduceAdd] at hc) | (go_at_call 16; refine (wput_r S 1 rfl (by omega) (by omega) y).mono ?_; rw [HSTP.out, HER.out]; rintro e w1 ⟨v9, J9, rfl, S9⟩; clear S hc hcy; have S := S9; clear S9; simp only [List.set_cons_zero, List.set_cons_succ, List.nil_append] at S; obtain ⟨A9, c9, I1, e1, hc9, S1, hI1⟩ := S.frow 0 rfl; subst e1; clear S hI1; have S := S1; clear S1; simp only [List.set_cons_zero, List.set_cons_succ, List.nil_append] at S; have hc := S.cells; simp only [Cells, cellsC, Im, Row, El, RTH, TreeH, TR, AU, AL, OrNil, AuP, SetO, Many, ScO, Nat.zero_add, Nat.reduceAdd] at hc) | (go_at_call 13; refine (yends_c W ys i a2 _ d2 c8y _ _ S.bd (S.im 5 rfl) (S.im 4 rfl) hc8y (by omega) (by omega) hly HWs.out).mono ?_; rw [HES.out]; rintro e w1 ⟨v7, rfl, hu⟩; obtain ⟨I1, S1, hI1⟩ := S.new hu; clear S hu hI1; (try clear hc); have S := S1; clear S1; have hc := S.cells; simp only [Cells, cellsC, Im, Row, El, RTH, TreeH, TR, AU, AL, OrNil, AuP, SetO, Many, ScO, Nat.zero_add, Nat.reduceAdd] at hc; obtain ⟨A7, c7, I1, e1, hc7, S1, hI1⟩ := S.frow 0 rfl; subst e1; clear S hI1; have S := S1; clear S1; simp only [List.set_cons_zero, List.set_cons_succ, List.nil_append] at S; have hc := S.cells; simp only [Cells, cellsC, Im, Row, El, RTH, TreeH, TR, AU, AL, OrNil, AuP, SetO, Many, ScO, Nat.zero_add, Nat.reduceAdd] at hc) | (go_at_call 12; refine (sameI_e ES A9 A7 c9 c7 _ _ _ (S.im 1 rfl) (S.im 0 rfl) hel).mono ?_; rintro e w1 ⟨rfl, hx⟩; have hx := hx.ext; replace S := S.ext hx; clear hx; (try clear hc); have hc := S.cells; simp only [Cells, cellsC, Im, Row, El, RTH, TreeH, TR, AU, AL, OrNil, AuP, SetO, Many, ScO, Nat.zero_add, Nat.reduceAdd] at hc))
          go_roundw
          case rel => exact ⟨i + 1, i + 1, i + 1, by go_num, by omega, by omega, by omega, _, ⟨(S.sel [2, 3, 4, 5, 6] (by decide) rfl (by simp) : SH _ _ _ [_, _, _, _, _] _ _)⟩⟩
          case measure => simp [intOf] <;> omega
        · have hly' : decide ((i : Int) < ys.length) = false := by simpa using hly
          go_wp2_with (first | ((first | (with_reducible refine wpl_seal S ?_) | (with_reducible refine cw_seal S ?_) | (with_reducible refine bp_seal S ?_) | (with_reducible refine ca_seal S ?_)); clear S; (try clear hc); intro w1 S; (try simp only [List.set_cons_zero, List.set_cons_succ, List.nil_append] at S); have hc := S.cells; simp only [Cells, cellsC, Im, Row, El, RTH, TreeH, TR, AU, AL, OrNil, AuP, SetO, Many, ScO, Nat.zero_add, Nat.reduceAdd] at hc))
          go_roundw
          case rel => exact ⟨i + 1, i + 1, ky, by go_num, by omega, by omega, by omega, _, ⟨by first | exact S | trivial⟩⟩
          case measure => simp [intOf] <;> omega
      · have hlx' : decide ((i : Int) < xs.length) = false := by simpa using hlx
        go_upto_if 64 with (first | ((first | (with_reducible refine wpl_seal S ?_) | (with_reducible refine cw_seal S ?_) | (with_reducible refine bp_seal S ?_) | (with_reducible refine ca_seal S ?_)); clear S; (try clear hc); intro w1 S; (try simp only [List.set_cons_zero, List.set_cons_succ, List.nil_append] at S); have hc := S.cells; simp only [Cells, cellsC, Im, Row, El, RTH, TreeH, TR, AU, AL, OrNil, AuP, SetO, Many, ScO, Nat.zero_add, Nat.reduceAdd] at hc))
        by_cases hly : i < ys.length
        · have hky2 : ky = i := by omega
          rw [hky2] at S
          have hly' : decide ((i : Int) < ys.length) = true := by simpa using hly
          have hmny : min (i : Int) ((ys.length : Int) - 1) = i := by omega
          obtain ⟨bby, ooy, rfl, hcy⟩ := (S.im 3 rfl).int_at hly
          have HSTP := As.mk (stX_step HG.out ys i hly)
          obtain ⟨ES, hES⟩ : ∃ ES, endsL W (ys.take (i + 1)) = ES := ⟨_, rfl⟩
          have HES := As.mk hES
          have HER : As (endsR L W (stX L ys (i + 1)) = ES) := ⟨by rw [← hES]; exact stX_ends HG.out ys i hly⟩
          have hel : ES.length ≤ 1000000 := by rw [← HER.out]; have := endsR_len (L := L) (W := W) (z := stX L ys (i + 1)); omega
          clear hES
          generalize ys[i] = y at hcy HSTP
          go_wp2_with (first | ((first | (with_reducible refine wpl_seal S ?_) | (with_reducible refine cw_seal S ?_) | (with_reducible refine bp_seal S ?_) | (with_reducible refine ca_seal S ?_)); clear S; (try clear hc); intro w1 S; (try simp only [List.set_cons_zero, List.set_cons_succ, List.nil_append] at S); have hc := S.cells; simp only [Cells, cellsC, Im, Row, El, RTH, TreeH, TR, AU, AL, OrNil, AuP, SetO, Many, ScO, Nat.zero_add, Nat.reduceAdd] at hc) | (go_at_call 16; refine (wput_r S 1 rfl (by omega) (by omega) y).mono ?_; rw [HSTP.out, HER.out]; rintro e w1 ⟨v9, J9, rfl, S9⟩; clear S hc hcy; have S := S9; clear S9; simp only [List.set_cons_zero, List.set_cons_succ, List.nil_append] at S; obtain ⟨A9, c9, I1, e1, hc9, S1, hI1⟩ := S.frow 0 rfl; subst e1; clear S hI1; have S := S1; clear S1; simp only [List.set_cons_zero, List.set_cons_succ, List.nil_append] at S; have hc := S.cells; simp only [Cells, cellsC, Im, Row, El, RTH, TreeH, TR, AU, AL, OrNil, AuP, SetO, Many, ScO, Nat.zero_add, Nat.reduceAdd] at hc) | (go_at_call 13; refine (yends_c W ys i a2 _ d2 c8y _ _ S.bd (S.im 5 rfl) (S.im 4 rfl) hc8y (by omega) (by omega) hly HWs.out).mono ?_; rw [HES.out]; rintro e w1 ⟨v7, rfl, hu⟩; obtain ⟨I1, S1, hI1⟩ := S.new hu; clear S hu hI1; (try clear hc); have S := S1; clear S1; have hc := S.cells; simp only [Cells, cellsC, Im, Row, El, RTH, TreeH, TR, AU, AL, OrNil, AuP, SetO, Many, ScO, Nat.zero_add, Nat.reduceAdd] at hc; obtain ⟨A7, c7, I1, e1, hc7, S1, hI1⟩ := S.frow 0 rfl; subst e1; clear S hI1; have S := S1; clear S1; simp only [List.set_cons_zero, List.set_cons_succ, List.nil_append] at S; have hc := S.cells; simp only [Cells, cellsC, Im, Row, El, RTH, TreeH, TR, AU, AL, OrNil, AuP, SetO, Many, ScO, Nat.zero_add, Nat.reduceAdd] at hc) | (go_at_call 12; refine (sameI_e ES A9 A7 c9 c7 _ _ _ (S.im 1 rfl) (S.im 0 rfl) hel).mono ?_; rintro e w1 ⟨rfl, hx⟩; have hx := hx.ext; replace S := S.ext hx; clear hx; (try clear hc); have hc := S.cells; simp only [Cells, cellsC, Im, Row, El, RTH, TreeH, TR, AU, AL, OrNil, AuP, SetO, Many, ScO, Nat.zero_add, Nat.reduceAdd] at hc))
          go_roundw
          case rel => exact ⟨i + 1, kx, i + 1, by go_num, by omega, by omega, by omega, _, ⟨(S.sel [2, 3, 4, 5, 6] (by decide) rfl (by simp) : SH _ _ _ [_, _, _, _, _] _ _)⟩⟩
          case measure => simp [intOf] <;> omega
        · have hly' : decide ((i : Int) < ys.length) = false := by simpa using hly
          go_wp2_with (first | ((first | (with_reducible refine wpl_seal S ?_) | (with_reducible refine cw_seal S ?_) | (with_reducible refine bp_seal S ?_) | (with_reducible refine ca_seal S ?_)); clear S; (try clear hc); intro w1 S; (try simp only [List.set_cons_zero, List.set_cons_succ, List.nil_append] at S); have hc := S.cells; simp only [Cells, cellsC, Im, Row, El, RTH, TreeH, TR, AU, AL, OrNil, AuP, SetO, Many, ScO, Nat.zero_add, Nat.reduceAdd] at hc))
          go_roundw
          case rel => exact ⟨i + 1, kx, ky, by go_num, by omega, by omega, by omega, _, ⟨by first | exact S | trivial⟩⟩
          case measure => simp [intOf] <;> omega
    · have hil' : decide ((i : Int) < 8) = false := by simp; omega
      go_wp2_with (first | ((first | (with_reducible refine wpl_seal S ?_) | (with_reducible refine cw_seal S ?_) | (with_reducible refine bp_seal S ?_) | (with_reducible refine ca_seal S ?_)); clear S; (try clear hc); intro w1 S; (try simp only [List.set_cons_zero, List.set_cons_succ, List.nil_append] at S); have hc := S.cells; simp only [Cells, cellsC, Im, Row, El, RTH, TreeH, TR, AU, AL, OrNil, AuP, SetO, Many, ScO, Nat.zero_add, Nat.reduceAdd] at hc) | (go_at_call 14; refine (lives14_c _ _ S.bd).mono ?_; rintro e w1 ⟨rfl, hx⟩; replace S := S.ext hx; clear hx; (try clear hc); have hc := S.cells; simp only [Cells, cellsC, Im, Row, El, RTH, TreeH, TR, AU, AL, OrNil, AuP, SetO, Many, ScO, Nat.zero_add, Nat.reduceAdd] at hc))
      go_ret
      exact ⟨rfl, S.out⟩
end Go.Proofs.Ytooaelpfbamebaa
