/- WordsSteps: the law's walk. -/
import Derived.Test.YtooaelpfbamebaaWLaw
namespace Go.Proofs.Ytooaelpfbamebaa
open Go.RowKit X
set_option maxHeartbeats 4000000
set_option maxRecDepth 8000
set_option linter.unusedSimpArgs false
set_option linter.unusedVariables false
theorem vsteps_c (raw : Bool) (ls : List (List Int)) (xs ms : List Int) (A Ax Am : Option Addr) (c cx cm : Nat) (w : World) (I : Fp) (hI : ∀ b, I b → b < w.heap.size) (hx : Sl kW w I A ls) (hxx : Sl kP w I Ax xs) (hxm : Sl kP w I Am ms) (hcm : ms.length ≤ cm) :
    Calls Try.prog 5 #[.slice A ls.length c, .bool raw, .slice Ax xs.length cx, .slice Am ms.length cm] w fun e w' => e = .returned (.bool true) ∧ Ext w w' := by
  have S := ((SH.start w I hI).know (h := Im kP Am ms) hxm).know (h := Im kP Ax xs) hxx
  have HXL := As.mk hx
  clear hx hxx hxm
  obtain ⟨ys, hys⟩ : ∃ ys, rowT xs 12 = ys := ⟨_, rfl⟩
  obtain ⟨zs, hzs⟩ : ∃ zs, ms.take 5 = zs := ⟨_, rfl⟩
  have hyl : ys.length ≤ 12 := by rw [← hys, rowT_len]; omega
  have hzl : zs.length ≤ 5 := by rw [← hzs, List.length_take]; omega
  have hzc : zs.length ≤ cm := by rw [← hzs, List.length_take]; omega
  have HZ0 : As ((min (ms.length : Int) 5).toNat = zs.length) := ⟨by rw [← hzs, List.length_take]; omega⟩
  have HYS := As.mk hys
  have HZS := As.mk hzs
  clear hys hzs
  by_cases h5 : ms.length ≤ 5
  all_goals
    first | (have h5' : (ms.length : Int) ≤ 5 := by omega) | (have h5' : 5 < (ms.length : Int) := by omega)
    have hc := S.cells; simp only [Cells, cellsC, Im, Row, El, RTH, TreeH, TR, AU, AL, OrNil, AuP, SetO, Many, ScO, Nat.zero_add, Nat.reduceAdd] at hc
    go_enter Try.func5, Try.ntmps5
    go_wp2_with (first | ((first | (with_reducible refine wpl_seal S ?_) | (with_reducible refine cw_seal S ?_) | (with_reducible refine bp_seal S ?_) | (with_reducible refine ca_seal S ?_)); clear S; (try clear hc); intro w1 S; (try simp only [List.set_cons_zero, List.set_cons_succ, List.nil_append] at S); have hc := S.cells; simp only [Cells, cellsC, Im, Row, El, RTH, TreeH, TR, AU, AL, OrNil, AuP, SetO, Many, ScO, Nat.zero_add, Nat.reduceAdd] at hc) | (go_at_call 9; refine (begin14_c raw ls A c _ I S.bd (HXL.out.below S.out)).mono ?_; rintro e w1 ⟨gs, L, W, a2, d2, J, rfl, S2, hd2, -, hL, hW, hL5, hW5⟩; obtain ⟨J2, S3, -, -⟩ := S.comp S2; have HL5 := As.mk hL5; have HW5 := As.mk hW5; clear S hc S2 hL5 hW5; have S := S3; clear S3; simp only [List.cons_append, List.nil_append] at S; have HG := As.mk (S.setG 0 rfl); have HNW := As.mk (neW_of HW5.out); have HWs : As (ShortW W) := ⟨fun x hx => by have := (HW5.out x hx).2; omega⟩; have hc := S.cells; simp only [Cells, cellsC, Im, Row, El, RTH, TreeH, TR, AU, AL, OrNil, AuP, SetO, Many, ScO, Nat.zero_add, Nat.reduceAdd] at hc) | (go_at_call 10; refine (row_c xs 12 Ax cx _ _ S.bd (S.im 2 rfl) (by omega)).mono ?_; rw [HYS.out]; rintro e w1 ⟨v, rfl, hu⟩; obtain ⟨I1, S1, hI1⟩ := S.new hu; clear S hu hI1; (try clear hc); have S := S1; clear S1; have hc := S.cells; simp only [Cells, cellsC, Im, Row, El, RTH, TreeH, TR, AU, AL, OrNil, AuP, SetO, Many, ScO, Nat.zero_add, Nat.reduceAdd] at hc; obtain ⟨A8, c8, I1, e1, hc8, S1, hI1⟩ := S.frow 0 rfl; subst e1; clear S hI1; have S := S1; clear S1; simp only [List.set_cons_zero, List.set_cons_succ, List.nil_append] at S; have hc := S.cells; simp only [Cells, cellsC, Im, Row, El, RTH, TreeH, TR, AU, AL, OrNil, AuP, SetO, Many, ScO, Nat.zero_add, Nat.reduceAdd] at hc) | (go_at_call 15; refine (wbegin_r S 1 rfl (by omega) (by omega) HNW.out 5 HL5.out (by omega)).mono ?_; rintro e w1 ⟨gc, J9, rfl, S9⟩; clear S hc; have S := S9; clear S9; have hc := S.cells; simp only [Cells, cellsC, Im, Row, El, RTH, TreeH, TR, AU, AL, OrNil, AuP, SetO, Many, ScO, Nat.zero_add, Nat.reduceAdd] at hc) | (go_at_call 17; (try rw [HZ0.out]); have h0 := (S.im 5 rfl).take 5; rw [HZS.out] at h0; (refine (wadd_c S 2 rfl h0 hzc (by omega) (by omega) (by omega) HNW.out).mono ?_); clear h0; rintro e w1 ⟨I9, rfl, S9⟩; clear S hc; have S := S9; clear S9; simp only [List.set_cons_zero, List.set_cons_succ, List.nil_append] at S; have hc := S.cells; simp only [Cells, cellsC, Im, Row, El, RTH, TreeH, TR, AU, AL, OrNil, AuP, SetO, Many, ScO, Nat.zero_add, Nat.reduceAdd] at hc))
    have S1 := S
    clear S hc
    go_loopw [13] (fun i w' => ∃ (t : Nat), i = .int .i64 t ∧ t ≤ 2 ∧ ∃ I', As (SH No I w [ScO gc L W 0, Im kP A8 ys, Im kW a2 W] w' I')) (fun i _ => 2 - (intOf i).toNat)
    case atStart => exact ⟨0, rfl, by omega, _, ⟨S1.sel [0, 1, 3] (by decide) rfl (by simp)⟩⟩
    case round =>
      clear S1
      obtain ⟨t, rfl, ht2, I', ⟨S⟩⟩ := hrel
      have hc := S.cells; simp only [Cells, cellsC, Im, Row, El, RTH, TreeH, TR, AU, AL, OrNil, AuP, SetO, Many, ScO, Nat.zero_add, Nat.reduceAdd] at hc
      by_cases htl : t < 2
      · have htl' : decide ((t : Int) < 2) = true := by simp; omega
        go_wp2_with (first | ((first | (with_reducible refine wpl_seal S ?_) | (with_reducible refine cw_seal S ?_) | (with_reducible refine bp_seal S ?_) | (with_reducible refine ca_seal S ?_)); clear S; (try clear hc); intro w1 S; (try simp only [List.set_cons_zero, List.set_cons_succ, List.nil_append] at S); have hc := S.cells; simp only [Cells, cellsC, Im, Row, El, RTH, TreeH, TR, AU, AL, OrNil, AuP, SetO, Many, ScO, Nat.zero_add, Nat.reduceAdd] at hc))
        have S1 := S
        clear S hc
        go_loopw [14] (fun i w' => ∃ (x : Nat), i = .int .i64 x ∧ x ≤ ys.length ∧ ∃ I', As (SH No I w [ScO gc L W (stX L ys x), Im kP A8 ys, Im kW a2 W] w' I')) (fun i _ => ys.length - (intOf i).toNat)
        case atStart => exact ⟨0, rfl, by omega, _, ⟨by rw [stX_zero]; exact S1⟩⟩
        case round =>
          clear S1
          obtain ⟨x, rfl, hxy, I', ⟨S⟩⟩ := hrel
          have hc := S.cells; simp only [Cells, cellsC, Im, Row, El, RTH, TreeH, TR, AU, AL, OrNil, AuP, SetO, Many, ScO, Nat.zero_add, Nat.reduceAdd] at hc
          by_cases hxl : x < ys.length
          · have hxl' : decide ((x : Int) < ys.length) = true := by simpa using hxl
            obtain ⟨yb, yo, rfl, hcy⟩ := (S.im 1 rfl).int_at hxl
            have HSTP := As.mk (stX_step HG.out ys x hxl)
            obtain ⟨ES, hES⟩ : ∃ ES, endsL W (ys.take (x + 1)) = ES := ⟨_, rfl⟩
            have HES := As.mk hES
            have HER : As (endsR L W (stX L ys (x + 1)) = ES) := ⟨by rw [← hES]; exact stX_ends HG.out ys x hxl⟩
            have hel : ES.length ≤ 1000000 := by rw [← HER.out]; have := endsR_len (L := L) (W := W) (z := stX L ys (x + 1)); omega
            clear hES
            generalize ys[x] = y at hcy HSTP
            go_wp2_with (first | ((first | (with_reducible refine wpl_seal S ?_) | (with_reducible refine cw_seal S ?_) | (with_reducible refine bp_seal S ?_) | (with_reducible refine ca_seal S ?_)); clear S; (try clear hc); intro w1 S; (try simp only [List.set_cons_zero, List.set_cons_succ, List.nil_append] at S); have hc := S.cells; simp only [Cells, cellsC, Im, Row, El, RTH, TreeH, TR, AU, AL, OrNil, AuP, SetO, Many, ScO, Nat.zero_add, Nat.reduceAdd] at hc) | (go_at_call 16; refine (wput_r S 0 rfl (by omega) (by omega) y).mono ?_; rw [HSTP.out, HER.out]; rintro e w1 ⟨v9, J9, rfl, S9⟩; clear S hc hcy; have S := S9; clear S9; simp only [List.set_cons_zero, List.set_cons_succ, List.nil_append] at S; obtain ⟨A9, c9, I1, e1, hc9, S1, hI1⟩ := S.frow 0 rfl; subst e1; clear S hI1; have S := S1; clear S1; simp only [List.set_cons_zero, List.set_cons_succ, List.nil_append] at S; have hc := S.cells; simp only [Cells, cellsC, Im, Row, El, RTH, TreeH, TR, AU, AL, OrNil, AuP, SetO, Many, ScO, Nat.zero_add, Nat.reduceAdd] at hc) | (go_at_call 13; refine (yends_c W ys x a2 _ d2 c8 _ _ S.bd (S.im 3 rfl) (S.im 2 rfl) hc8 (by omega) (by omega) hxl HWs.out).mono ?_; rw [HES.out]; rintro e w1 ⟨v7, rfl, hu⟩; obtain ⟨I1, S1, hI1⟩ := S.new hu; clear S hu hI1; (try clear hc); have S := S1; clear S1; have hc := S.cells; simp only [Cells, cellsC, Im, Row, El, RTH, TreeH, TR, AU, AL, OrNil, AuP, SetO, Many, ScO, Nat.zero_add, Nat.reduceAdd] at hc; obtain ⟨A7, c7, I1, e1, hc7, S1, hI1⟩ := S.frow 0 rfl; subst e1; clear S hI1; have S := S1; clear S1; simp only [List.set_cons_zero, List.set_cons_succ, List.nil_append] at S; have hc := S.cells; simp only [Cells, cellsC, Im, Row, El, RTH, TreeH, TR, AU, AL, OrNil, AuP, SetO, Many, ScO, Nat.zero_add, Nat.reduceAdd] at hc) | (go_at_call 12; refine (sameI_e ES A9 A7 c9 c7 _ _ _ (S.im 1 rfl) (S.im 0 rfl) hel).mono ?_; rintro e w1 ⟨rfl, hx⟩; have hx := hx.ext; replace S := S.ext hx; clear hx; (try clear hc); have hc := S.cells; simp only [Cells, cellsC, Im, Row, El, RTH, TreeH, TR, AU, AL, OrNil, AuP, SetO, Many, ScO, Nat.zero_add, Nat.reduceAdd] at hc))
            go_roundw
            case rel => exact ⟨x + 1, by go_num, by omega, _, ⟨(S.sel [2, 3, 4] (by decide) rfl (by simp) : SH _ _ _ [_, _, _] _ _)⟩⟩
            case measure => simp [intOf] <;> omega
          · have hxl' : decide ((x : Int) < ys.length) = false := by simpa using hxl
            go_wp2_with (first | ((first | (with_reducible refine wpl_seal S ?_) | (with_reducible refine cw_seal S ?_) | (with_reducible refine bp_seal S ?_) | (with_reducible refine ca_seal S ?_)); clear S; (try clear hc); intro w1 S; (try simp only [List.set_cons_zero, List.set_cons_succ, List.nil_append] at S); have hc := S.cells; simp only [Cells, cellsC, Im, Row, El, RTH, TreeH, TR, AU, AL, OrNil, AuP, SetO, Many, ScO, Nat.zero_add, Nat.reduceAdd] at hc) | (go_at_call 18; refine (wreset_r S 0 rfl).mono ?_; rintro e w1 ⟨J9, rfl, S9⟩; clear S hc; have S := S9; clear S9; simp only [List.set_cons_zero, List.set_cons_succ, List.nil_append] at S; have hc := S.cells; simp only [Cells, cellsC, Im, Row, El, RTH, TreeH, TR, AU, AL, OrNil, AuP, SetO, Many, ScO, Nat.zero_add, Nat.reduceAdd] at hc))
            go_roundw
            case rel => exact ⟨t + 1, by go_num, by omega, _, ⟨by first | exact S | trivial⟩⟩
            case measure => simp [intOf] <;> omega
      · have htl' : decide ((t : Int) < 2) = false := by simp; omega
        go_wp2_with (first | ((first | (with_reducible refine wpl_seal S ?_) | (with_reducible refine cw_seal S ?_) | (with_reducible refine bp_seal S ?_) | (with_reducible refine ca_seal S ?_)); clear S; (try clear hc); intro w1 S; (try simp only [List.set_cons_zero, List.set_cons_succ, List.nil_append] at S); have hc := S.cells; simp only [Cells, cellsC, Im, Row, El, RTH, TreeH, TR, AU, AL, OrNil, AuP, SetO, Many, ScO, Nat.zero_add, Nat.reduceAdd] at hc) | (go_at_call 14; refine (lives14_c _ _ S.bd).mono ?_; rintro e w1 ⟨rfl, hx⟩; replace S := S.ext hx; clear hx; (try clear hc); have hc := S.cells; simp only [Cells, cellsC, Im, Row, El, RTH, TreeH, TR, AU, AL, OrNil, AuP, SetO, Many, ScO, Nat.zero_add, Nat.reduceAdd] at hc))
        go_ret
        exact ⟨rfl, S.out⟩
end Go.Proofs.Ytooaelpfbamebaa
