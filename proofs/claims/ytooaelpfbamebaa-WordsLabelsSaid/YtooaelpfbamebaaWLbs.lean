/- WordsLabels: the law's walk. -/
import Derived.Test.YtooaelpfbamebaaYLb
namespace Go.Proofs.Ytooaelpfbamebaa
open Go.RowKit X
set_option maxHeartbeats 4000000
set_option maxRecDepth 8000
set_option linter.unusedSimpArgs false
set_option linter.unusedVariables false
theorem vlabels_c (raw : Bool) (ls : List (List Int)) (xs : List Int) (wv : Int) (A Ax : Option Addr) (c cx : Nat) (w : World) (I : Fp) (hI : ∀ b, I b → b < w.heap.size) (hx : Sl kW w I A ls) (hxx : Sl kP w I Ax xs) :
    Calls Try.prog 7 #[.slice A ls.length c, .bool raw, .slice Ax xs.length cx, .int .i64 wv] w fun e w' => e = .returned (.bool true) ∧ Ext w w' := by
  have S := (SH.start w I hI).know (h := Im kP Ax xs) hxx
  have HXL := As.mk hx
  clear hx hxx
  obtain ⟨ys, hys⟩ : ∃ ys, rowT xs 12 = ys := ⟨_, rfl⟩
  have hyl : ys.length ≤ 12 := by rw [← hys, rowT_len]; omega
  have HYS := As.mk hys
  clear hys
  have hc := S.cells; simp only [Cells, cellsC, Im, Row, El, RTH, TreeH, TR, AU, AL, OrNil, AuP, SetO, Many, ScO, Nat.zero_add, Nat.reduceAdd] at hc
  go_enter Try.func7, Try.ntmps7
  go_wp2_with (first | ((first | (with_reducible refine wpl_seal S ?_) | (with_reducible refine cw_seal S ?_) | (with_reducible refine bp_seal S ?_) | (with_reducible refine ca_seal S ?_)); clear S; (try clear hc); intro w1 S; (try simp only [List.set_cons_zero, List.set_cons_succ, List.nil_append] at S); have hc := S.cells; simp only [Cells, cellsC, Im, Row, El, RTH, TreeH, TR, AU, AL, OrNil, AuP, SetO, Many, ScO, Nat.zero_add, Nat.reduceAdd] at hc) | (go_at_call 9; refine (begin14_c raw ls A c _ I S.bd (HXL.out.below S.out)).mono ?_; rintro e w1 ⟨gs, L, W, a2, d2, J, rfl, S2, hd2, -, hL, hW, hL5, hW5⟩; obtain ⟨J2, S3, -, -⟩ := S.comp S2; have HL5 := As.mk hL5; have HW5 := As.mk hW5; clear S hc S2 hL5 hW5; have S := S3; clear S3; simp only [List.cons_append, List.nil_append] at S; have HG := As.mk (S.setG 0 rfl); have HNW := As.mk (neW_of HW5.out); have HWs : As (ShortW W) := ⟨fun x hx => by have := (HW5.out x hx).2; omega⟩; have hc := S.cells; simp only [Cells, cellsC, Im, Row, El, RTH, TreeH, TR, AU, AL, OrNil, AuP, SetO, Many, ScO, Nat.zero_add, Nat.reduceAdd] at hc) | (go_at_call 10; refine (row_c xs 12 Ax cx _ _ S.bd (S.im 2 rfl) (by omega)).mono ?_; rw [HYS.out]; rintro e w1 ⟨v, rfl, hu⟩; obtain ⟨I1, S1, hI1⟩ := S.new hu; clear S hu hI1; (try clear hc); have S := S1; clear S1; have hc := S.cells; simp only [Cells, cellsC, Im, Row, El, RTH, TreeH, TR, AU, AL, OrNil, AuP, SetO, Many, ScO, Nat.zero_add, Nat.reduceAdd] at hc; obtain ⟨A8, c8, I1, e1, hc8, S1, hI1⟩ := S.frow 0 rfl; subst e1; clear S hI1; have S := S1; clear S1; simp only [List.set_cons_zero, List.set_cons_succ, List.nil_append] at S; have hc := S.cells; simp only [Cells, cellsC, Im, Row, El, RTH, TreeH, TR, AU, AL, OrNil, AuP, SetO, Many, ScO, Nat.zero_add, Nat.reduceAdd] at hc))
  have S1 := S
  clear S hc
  go_loopw [12] (fun i w' => ∃ (z : Int), i = .int .i64 z ∧ -1 ≤ z ∧ z ≤ 7 ∧ ∃ I', As (SH No I w [SetO gs L W, Im kW a2 W, Im kP A8 ys] w' I')) (fun i _ => (7 - intOf i).toNat)
  case atStart => exact ⟨-1, rfl, by omega, by omega, _, ⟨S1.sel [1, 2, 0] (by decide) rfl (by simp)⟩⟩
  case round =>
    clear S1
    obtain ⟨z, rfl, hz0, hz1, I', ⟨S⟩⟩ := hrel
    have hc := S.cells; simp only [Cells, cellsC, Im, Row, El, RTH, TreeH, TR, AU, AL, OrNil, AuP, SetO, Many, ScO, Nat.zero_add, Nat.reduceAdd] at hc
    by_cases hzl : z ≤ 6
    · have hzl' : decide (z ≤ (6 : Int)) = true := by simpa using hzl
      by_cases hzn : z < 0
      · have hzn' : decide (z < (0 : Int)) = true := by simpa using hzn
        obtain ⟨LC, hLC⟩ : ∃ LC, (scanR L W 0 ys).map (labF W wv) = LC := ⟨_, rfl⟩
        have HLC := As.mk hLC
        have HSL : As (LC.length = ys.length) := ⟨by rw [← hLC, List.length_map]; exact scanR_len ys⟩
        have HAS : As (∀ x (h : x < ys.length), ∃ h2 : x < LC.length, LC[x] = labF W wv (endsL W (ys.take (x + 1)))) := ⟨fun x hx => by
          have e := scanR_at HG.out ys x hx
          have h2 : x < LC.length := by rw [← hLC, List.length_map, scanR_len]; exact hx
          refine ⟨h2, ?_⟩
          have e2 : LC[x]? = some (labF W wv (endsL W (ys.take (x + 1)))) := by rw [← hLC, List.getElem?_map, e]; rfl
          rw [List.getElem?_eq_getElem h2] at e2
          exact Option.some.inj e2⟩
        clear hLC
        go_wp2_with (first | ((first | (with_reducible refine wpl_seal S ?_) | (with_reducible refine cw_seal S ?_) | (with_reducible refine bp_seal S ?_) | (with_reducible refine ca_seal S ?_)); clear S; (try clear hc); intro w1 S; (try simp only [List.set_cons_zero, List.set_cons_succ, List.nil_append] at S); have hc := S.cells; simp only [Cells, cellsC, Im, Row, El, RTH, TreeH, TR, AU, AL, OrNil, AuP, SetO, Many, ScO, Nat.zero_add, Nat.reduceAdd] at hc) | (go_at_call 24; refine (wlabel_r S 0 rfl (by omega) (by omega) HG.out HNW.out 5 HL5.out (by omega) (S.im 2 rfl) (by omega) wv).mono ?_; rw [HLC.out]; rintro e w1 ⟨v, J9, rfl, S9⟩; clear S hc; have S := S9; clear S9; obtain ⟨A5, c5, I1, e1, hc5, S1, hI1⟩ := S.frow 0 rfl; subst e1; clear S hI1; have S := S1; clear S1; simp only [List.set_cons_zero, List.set_cons_succ, List.nil_append] at S; rw [HSL.out] at hc5 ⊢; have hc := S.cells; simp only [Cells, cellsC, Im, Row, El, RTH, TreeH, TR, AU, AL, OrNil, AuP, SetO, Many, ScO, Nat.zero_add, Nat.reduceAdd] at hc))
        have S1 := S
        clear S hc
        go_loopw [15] (fun i w' => ∃ (x : Nat), i = .int .i64 x ∧ x ≤ ys.length ∧ ∃ I', As (SH No I w [Im kI A5 LC, SetO gs L W, Im kW a2 W, Im kP A8 ys] w' I')) (fun i _ => ys.length - (intOf i).toNat)
        case atStart => exact ⟨0, rfl, by omega, _, ⟨S1.sel [0, 1, 2, 3] (by decide) rfl (by simp)⟩⟩
        case round =>
          clear S1
          obtain ⟨x, rfl, hxy, I', ⟨S⟩⟩ := hrel
          have hc := S.cells; simp only [Cells, cellsC, Im, Row, El, RTH, TreeH, TR, AU, AL, OrNil, AuP, SetO, Many, ScO, Nat.zero_add, Nat.reduceAdd] at hc
          by_cases hxl : x < ys.length
          · have hxl' : decide ((x : Int) < (ys.length : Int)) = true := by simpa using hxl
            obtain ⟨hx2, he⟩ := HAS.out x hxl
            obtain ⟨be, oe, rfl, hce⟩ := (S.im 0 rfl).int_at hx2
            rw [he] at hce
            obtain ⟨lx, hlx⟩ : ∃ lx, labF W wv (endsL W (ys.take (x + 1))) = lx := ⟨_, rfl⟩
            rw [hlx] at hce
            have HLX := As.mk hlx
            clear hlx he
            go_wp2_with (first | ((first | (with_reducible refine wpl_seal S ?_) | (with_reducible refine cw_seal S ?_) | (with_reducible refine bp_seal S ?_) | (with_reducible refine ca_seal S ?_)); clear S; (try clear hc); intro w1 S; (try simp only [List.set_cons_zero, List.set_cons_succ, List.nil_append] at S); have hc := S.cells; simp only [Cells, cellsC, Im, Row, El, RTH, TreeH, TR, AU, AL, OrNil, AuP, SetO, Many, ScO, Nat.zero_add, Nat.reduceAdd] at hc))
            have hqe := ClE.cell (w := wr.drew) hce
            have hq := S.cellsE; simp only [CellsE, cellsE, Im, Row, El, RTH, TreeH, TR, AU, AL, OrNil, AuP, SetO, Many, ScO, Nat.zero_add, Nat.reduceAdd] at hq
            refine wp_region_ext [⟨[0, 1, 2, 3, 4, 5, 6, 7], [], 8, true⟩] [9] (by kernel_rfl) (by kernel_rfl) ?_
            refine mix_cons rfl rfl rfl ?_
            simp only [opsAt, List.getD_cons_succ, List.getD_cons_zero]
            repeat (go_big_quiet_step ((intro hC; first | rfl | (go_simp; first | done | rfl))))
            refine wpQuiet_nil ?_
            repeat (go_big_quiet_step ((intro hC; first | rfl | (go_simp; first | done | rfl))))
            refine wpQuiet_nil ?_
            clear hq hqe hc hce
            replace S := S.drew
            generalize wr.drew = w1 at S ⊢
            have hc := S.cells; simp only [Cells, cellsC, Im, Row, El, RTH, TreeH, TR, AU, AL, OrNil, AuP, SetO, Many, ScO, Nat.zero_add, Nat.reduceAdd] at hc
            go_wp2_with (first | ((first | (with_reducible refine mx_seal S ?_) | (with_reducible refine wpl_seal S ?_) | (with_reducible refine ca_seal S ?_)); clear S; (try clear hc); intro w1 S; (try simp only [List.set_cons_zero, List.set_cons_succ, List.nil_append] at S); have hc := S.cells; simp only [Cells, cellsC, Im, Row, El, RTH, TreeH, TR, AU, AL, OrNil, AuP, SetO, Many, ScO, Nat.zero_add, Nat.reduceAdd] at hc) | (go_at_call 25; refine (ylabel_c W ys x wv a2 A8 d2 c8 _ _ S.bd (S.im 2 rfl) (S.im 3 rfl) hc8 (by omega) (by omega) hxl HWs.out).mono ?_; rw [HLX.out]; rintro e w1 ⟨rfl, hx⟩; have hxe := hx; replace S := S.ext hx; clear hx; (try clear hc); have hc := S.cells; simp only [Cells, cellsC, Im, Row, El, RTH, TreeH, TR, AU, AL, OrNil, AuP, SetO, Many, ScO, Nat.zero_add, Nat.reduceAdd] at hc))
            refine ⟨fun _ => hxe, ?_⟩
            clear hxe
            refine mix_last rfl ?_
            simp only [opsAt, List.getD_cons_succ, List.getD_cons_zero]
            repeat (go_big_quiet_step ((intro hC; first | rfl | (go_simp; first | done | rfl))))
            refine wpQuiet_nil ?_
            simp only [calmQ]
            have hc := S.cells; simp only [Cells, cellsC, Im, Row, El, RTH, TreeH, TR, AU, AL, OrNil, AuP, SetO, Many, ScO, Nat.zero_add, Nat.reduceAdd] at hc
            go_wp2_with (first | ((first | (with_reducible refine wpl_seal S ?_) | (with_reducible refine cw_seal S ?_) | (with_reducible refine bp_seal S ?_) | (with_reducible refine ca_seal S ?_)); clear S; (try clear hc); intro w1 S; (try simp only [List.set_cons_zero, List.set_cons_succ, List.nil_append] at S); have hc := S.cells; simp only [Cells, cellsC, Im, Row, El, RTH, TreeH, TR, AU, AL, OrNil, AuP, SetO, Many, ScO, Nat.zero_add, Nat.reduceAdd] at hc))
            go_roundw
            case rel => exact ⟨x + 1, by go_num, by omega, _, ⟨by first | exact S | trivial⟩⟩
            case measure => simp [intOf] <;> omega
          · have hxl' : decide ((x : Int) < (ys.length : Int)) = false := by simpa using hxl
            go_wp2_with (first | ((first | (with_reducible refine wpl_seal S ?_) | (with_reducible refine cw_seal S ?_) | (with_reducible refine bp_seal S ?_) | (with_reducible refine ca_seal S ?_)); clear S; (try clear hc); intro w1 S; (try simp only [List.set_cons_zero, List.set_cons_succ, List.nil_append] at S); have hc := S.cells; simp only [Cells, cellsC, Im, Row, El, RTH, TreeH, TR, AU, AL, OrNil, AuP, SetO, Many, ScO, Nat.zero_add, Nat.reduceAdd] at hc))
            go_roundw
            case rel => exact ⟨_, rfl, by omega, by omega, _, ⟨(S.sel [1, 2, 3] (by decide) rfl (by simp) : SH _ _ _ [_, _, _] _ _)⟩⟩
            case measure => simp [intOf] <;> omega
      · have hzn' : decide (z < (0 : Int)) = false := by simpa using hzn
        obtain ⟨LC, hLC⟩ : ∃ LC, (scanR L W 0 ys).map (labF W z) = LC := ⟨_, rfl⟩
        have HLC := As.mk hLC
        have HSL : As (LC.length = ys.length) := ⟨by rw [← hLC, List.length_map]; exact scanR_len ys⟩
        have HAS : As (∀ x (h : x < ys.length), ∃ h2 : x < LC.length, LC[x] = labF W z (endsL W (ys.take (x + 1)))) := ⟨fun x hx => by
          have e := scanR_at HG.out ys x hx
          have h2 : x < LC.length := by rw [← hLC, List.length_map, scanR_len]; exact hx
          refine ⟨h2, ?_⟩
          have e2 : LC[x]? = some (labF W z (endsL W (ys.take (x + 1)))) := by rw [← hLC, List.getElem?_map, e]; rfl
          rw [List.getElem?_eq_getElem h2] at e2
          exact Option.some.inj e2⟩
        clear hLC
        go_wp2_with (first | ((first | (with_reducible refine wpl_seal S ?_) | (with_reducible refine cw_seal S ?_) | (with_reducible refine bp_seal S ?_) | (with_reducible refine ca_seal S ?_)); clear S; (try clear hc); intro w1 S; (try simp only [List.set_cons_zero, List.set_cons_succ, List.nil_append] at S); have hc := S.cells; simp only [Cells, cellsC, Im, Row, El, RTH, TreeH, TR, AU, AL, OrNil, AuP, SetO, Many, ScO, Nat.zero_add, Nat.reduceAdd] at hc) | (go_at_call 24; refine (wlabel_r S 0 rfl (by omega) (by omega) HG.out HNW.out 5 HL5.out (by omega) (S.im 2 rfl) (by omega) z).mono ?_; rw [HLC.out]; rintro e w1 ⟨v, J9, rfl, S9⟩; clear S hc; have S := S9; clear S9; obtain ⟨A5, c5, I1, e1, hc5, S1, hI1⟩ := S.frow 0 rfl; subst e1; clear S hI1; have S := S1; clear S1; simp only [List.set_cons_zero, List.set_cons_succ, List.nil_append] at S; rw [HSL.out] at hc5 ⊢; have hc := S.cells; simp only [Cells, cellsC, Im, Row, El, RTH, TreeH, TR, AU, AL, OrNil, AuP, SetO, Many, ScO, Nat.zero_add, Nat.reduceAdd] at hc))
        have S1 := S
        clear S hc
        go_loopw [15] (fun i w' => ∃ (x : Nat), i = .int .i64 x ∧ x ≤ ys.length ∧ ∃ I', As (SH No I w [Im kI A5 LC, SetO gs L W, Im kW a2 W, Im kP A8 ys] w' I')) (fun i _ => ys.length - (intOf i).toNat)
        case atStart => exact ⟨0, rfl, by omega, _, ⟨S1.sel [0, 1, 2, 3] (by decide) rfl (by simp)⟩⟩
        case round =>
          clear S1
          obtain ⟨x, rfl, hxy, I', ⟨S⟩⟩ := hrel
          have hc := S.cells; simp only [Cells, cellsC, Im, Row, El, RTH, TreeH, TR, AU, AL, OrNil, AuP, SetO, Many, ScO, Nat.zero_add, Nat.reduceAdd] at hc
          by_cases hxl : x < ys.length
          · have hxl' : decide ((x : Int) < (ys.length : Int)) = true := by simpa using hxl
            obtain ⟨hx2, he⟩ := HAS.out x hxl
            obtain ⟨be, oe, rfl, hce⟩ := (S.im 0 rfl).int_at hx2
            rw [he] at hce
            obtain ⟨lx, hlx⟩ : ∃ lx, labF W z (endsL W (ys.take (x + 1))) = lx := ⟨_, rfl⟩
            rw [hlx] at hce
            have HLX := As.mk hlx
            clear hlx he
            go_wp2_with (first | ((first | (with_reducible refine wpl_seal S ?_) | (with_reducible refine cw_seal S ?_) | (with_reducible refine bp_seal S ?_) | (with_reducible refine ca_seal S ?_)); clear S; (try clear hc); intro w1 S; (try simp only [List.set_cons_zero, List.set_cons_succ, List.nil_append] at S); have hc := S.cells; simp only [Cells, cellsC, Im, Row, El, RTH, TreeH, TR, AU, AL, OrNil, AuP, SetO, Many, ScO, Nat.zero_add, Nat.reduceAdd] at hc))
            have hqe := ClE.cell (w := wr.drew) hce
            have hq := S.cellsE; simp only [CellsE, cellsE, Im, Row, El, RTH, TreeH, TR, AU, AL, OrNil, AuP, SetO, Many, ScO, Nat.zero_add, Nat.reduceAdd] at hq
            refine wp_region_ext [⟨[0, 1, 2, 3, 4, 5, 6, 7], [], 8, true⟩] [9] (by kernel_rfl) (by kernel_rfl) ?_
            refine mix_cons rfl rfl rfl ?_
            simp only [opsAt, List.getD_cons_succ, List.getD_cons_zero]
            repeat (go_big_quiet_step ((intro hC; first | rfl | (go_simp; first | done | rfl))))
            refine wpQuiet_nil ?_
            repeat (go_big_quiet_step ((intro hC; first | rfl | (go_simp; first | done | rfl))))
            refine wpQuiet_nil ?_
            clear hq hqe hc hce
            replace S := S.drew
            generalize wr.drew = w1 at S ⊢
            have hc := S.cells; simp only [Cells, cellsC, Im, Row, El, RTH, TreeH, TR, AU, AL, OrNil, AuP, SetO, Many, ScO, Nat.zero_add, Nat.reduceAdd] at hc
            go_wp2_with (first | ((first | (with_reducible refine mx_seal S ?_) | (with_reducible refine wpl_seal S ?_) | (with_reducible refine ca_seal S ?_)); clear S; (try clear hc); intro w1 S; (try simp only [List.set_cons_zero, List.set_cons_succ, List.nil_append] at S); have hc := S.cells; simp only [Cells, cellsC, Im, Row, El, RTH, TreeH, TR, AU, AL, OrNil, AuP, SetO, Many, ScO, Nat.zero_add, Nat.reduceAdd] at hc) | (go_at_call 25; refine (ylabel_c W ys x z a2 A8 d2 c8 _ _ S.bd (S.im 2 rfl) (S.im 3 rfl) hc8 (by omega) (by omega) hxl HWs.out).mono ?_; rw [HLX.out]; rintro e w1 ⟨rfl, hx⟩; have hxe := hx; replace S := S.ext hx; clear hx; (try clear hc); have hc := S.cells; simp only [Cells, cellsC, Im, Row, El, RTH, TreeH, TR, AU, AL, OrNil, AuP, SetO, Many, ScO, Nat.zero_add, Nat.reduceAdd] at hc))
            refine ⟨fun _ => hxe, ?_⟩
            clear hxe
            refine mix_last rfl ?_
            simp only [opsAt, List.getD_cons_succ, List.getD_cons_zero]
            repeat (go_big_quiet_step ((intro hC; first | rfl | (go_simp; first | done | rfl))))
            refine wpQuiet_nil ?_
            simp only [calmQ]
            have hc := S.cells; simp only [Cells, cellsC, Im, Row, El, RTH, TreeH, TR, AU, AL, OrNil, AuP, SetO, Many, ScO, Nat.zero_add, Nat.reduceAdd] at hc
            go_wp2_with (first | ((first | (with_reducible refine wpl_seal S ?_) | (with_reducible refine cw_seal S ?_) | (with_reducible refine bp_seal S ?_) | (with_reducible refine ca_seal S ?_)); clear S; (try clear hc); intro w1 S; (try simp only [List.set_cons_zero, List.set_cons_succ, List.nil_append] at S); have hc := S.cells; simp only [Cells, cellsC, Im, Row, El, RTH, TreeH, TR, AU, AL, OrNil, AuP, SetO, Many, ScO, Nat.zero_add, Nat.reduceAdd] at hc))
            go_roundw
            case rel => exact ⟨x + 1, by go_num, by omega, _, ⟨by first | exact S | trivial⟩⟩
            case measure => simp [intOf] <;> omega
          · have hxl' : decide ((x : Int) < (ys.length : Int)) = false := by simpa using hxl
            go_wp2_with (first | ((first | (with_reducible refine wpl_seal S ?_) | (with_reducible refine cw_seal S ?_) | (with_reducible refine bp_seal S ?_) | (with_reducible refine ca_seal S ?_)); clear S; (try clear hc); intro w1 S; (try simp only [List.set_cons_zero, List.set_cons_succ, List.nil_append] at S); have hc := S.cells; simp only [Cells, cellsC, Im, Row, El, RTH, TreeH, TR, AU, AL, OrNil, AuP, SetO, Many, ScO, Nat.zero_add, Nat.reduceAdd] at hc))
            go_roundw
            case rel => exact ⟨_, rfl, by omega, by omega, _, ⟨(S.sel [1, 2, 3] (by decide) rfl (by simp) : SH _ _ _ [_, _, _] _ _)⟩⟩
            case measure => simp [intOf] <;> omega
    · have hzl' : decide (z ≤ (6 : Int)) = false := by simpa using hzl
      go_wp2_with (first | ((first | (with_reducible refine wpl_seal S ?_) | (with_reducible refine cw_seal S ?_) | (with_reducible refine bp_seal S ?_) | (with_reducible refine ca_seal S ?_)); clear S; (try clear hc); intro w1 S; (try simp only [List.set_cons_zero, List.set_cons_succ, List.nil_append] at S); have hc := S.cells; simp only [Cells, cellsC, Im, Row, El, RTH, TreeH, TR, AU, AL, OrNil, AuP, SetO, Many, ScO, Nat.zero_add, Nat.reduceAdd] at hc) | (go_at_call 14; refine (lives14_c _ _ S.bd).mono ?_; rintro e w1 ⟨rfl, hx⟩; replace S := S.ext hx; clear hx; (try clear hc); have hc := S.cells; simp only [Cells, cellsC, Im, Row, El, RTH, TreeH, TR, AU, AL, OrNil, AuP, SetO, Many, ScO, Nat.zero_add, Nat.reduceAdd] at hc))
      go_ret
      exact ⟨rfl, S.out⟩
end Go.Proofs.Ytooaelpfbamebaa
