/- WordsScans: the law's walk. -/
import Derived.Test.YtooaelpfbamebaaWLaw
namespace Go.Proofs.Ytooaelpfbamebaa
open Go.RowKit X
set_option maxHeartbeats 4000000
set_option maxRecDepth 8000
set_option linter.unusedSimpArgs false
set_option linter.unusedVariables false
theorem vscans_c (raw : Bool) (ls : List (List Int)) (xs : List Int) (A Ax : Option Addr) (c cx : Nat) (w : World) (I : Fp) (hI : ∀ b, I b → b < w.heap.size) (hx : Sl kW w I A ls) (hxx : Sl kP w I Ax xs) (hcx : xs.length ≤ cx) :
    Calls Try.prog 3 #[.slice A ls.length c, .bool raw, .slice Ax xs.length cx] w fun e w' => e = .returned (.bool true) ∧ Ext w w' := by
  have S := (SH.start w I hI).know (h := Im kP Ax xs) hxx
  have HXL := As.mk hx
  clear hx hxx
  have hc := S.cells; simp only [Cells, cellsC, Im, Row, El, RTH, TreeH, TR, AU, AL, OrNil, AuP, SetO, Many, ScO, Nat.zero_add, Nat.reduceAdd] at hc
  go_enter Try.func3, Try.ntmps3
  go_wp2_with (first | ((first | (with_reducible refine wpl_seal S ?_) | (with_reducible refine cw_seal S ?_) | (with_reducible refine bp_seal S ?_) | (with_reducible refine ca_seal S ?_)); clear S; (try clear hc); intro w1 S; (try simp only [List.set_cons_zero, List.set_cons_succ, List.nil_append] at S); have hc := S.cells; simp only [Cells, cellsC, Im, Row, El, RTH, TreeH, TR, AU, AL, OrNil, AuP, SetO, Many, ScO, Nat.zero_add, Nat.reduceAdd] at hc) | (go_at_call 9; refine (begin14_c raw ls A c _ I S.bd (HXL.out.below S.out)).mono ?_; rintro e w1 ⟨gs, L, W, a2, d2, J, rfl, S2, hd2, -, hL, hW, hL5, hW5⟩; obtain ⟨J2, S3, -, -⟩ := S.comp S2; have HL5 := As.mk hL5; have HW5 := As.mk hW5; clear S hc S2 hL5 hW5; have S := S3; clear S3; simp only [List.cons_append, List.nil_append] at S; have HG := As.mk (S.setG 0 rfl); have HNW := As.mk (neW_of HW5.out); have HWs : As (ShortW W) := ⟨fun x hx => by have := (HW5.out x hx).2; omega⟩; have hc := S.cells; simp only [Cells, cellsC, Im, Row, El, RTH, TreeH, TR, AU, AL, OrNil, AuP, SetO, Many, ScO, Nat.zero_add, Nat.reduceAdd] at hc))
  obtain ⟨ys0, hys0⟩ : ∃ ys, xs.take 12 = ys := ⟨_, rfl⟩
  obtain ⟨ys1, hys1⟩ : ∃ ys, rowT xs 12 = ys := ⟨_, rfl⟩
  have hy0 : ys0.length ≤ 12 := by rw [← hys0, List.length_take]; omega
  have hy1 : ys1.length ≤ 12 := by rw [← hys1, rowT_len]; omega
  have HY0 : As ((min (xs.length : Int) 12).toNat = ys0.length) := ⟨by rw [← hys0, List.length_take]; omega⟩
  have HYS0 := As.mk hys0
  have HYS1 := As.mk hys1
  clear hys0 hys1
  by_cases h12 : xs.length ≤ 12
  all_goals
    first | (have h5' : (xs.length : Int) ≤ 12 := by omega) | (have h5' : 12 < (xs.length : Int) := by omega)
    have hc := S.cells; simp only [Cells, cellsC, Im, Row, El, RTH, TreeH, TR, AU, AL, OrNil, AuP, SetO, Many, ScO, Nat.zero_add, Nat.reduceAdd] at hc
    have hq := S.cellsE; simp only [CellsE, cellsE, Im, Row, El, RTH, TreeH, TR, AU, AL, OrNil, AuP, SetO, Many, ScO, Nat.zero_add, Nat.reduceAdd] at hq
    refine wp_region_ext [⟨[1, 2, 3, 5], [0, 4], 6, true⟩, ⟨[], [], 7, false⟩] [8] (by kernel_rfl) (by kernel_rfl) ?_
    refine mix_cons rfl rfl rfl ?_
    simp only [opsAt, List.getD_cons_succ, List.getD_cons_zero]
    repeat (go_big_quiet_step ((intro hC; first | rfl | (go_simp; first | done | rfl))))
    refine wpQuiet_nil ?_
    repeat (go_big_quiet_step ((intro hC; first | rfl | (go_simp; first | done | rfl))))
    refine wpQuiet_nil ?_
    clear hq hc
    replace S := S.drew
    generalize w1.drew = w2 at S ⊢
    have hc := S.cells; simp only [Cells, cellsC, Im, Row, El, RTH, TreeH, TR, AU, AL, OrNil, AuP, SetO, Many, ScO, Nat.zero_add, Nat.reduceAdd] at hc
    go_wp2_with (first | ((first | (with_reducible refine mx_seal S ?_) | (with_reducible refine wpl_seal S ?_) | (with_reducible refine ca_seal S ?_)); clear S; (try clear hc); intro w1 S; (try simp only [List.set_cons_zero, List.set_cons_succ, List.nil_append] at S); have hc := S.cells; simp only [Cells, cellsC, Im, Row, El, RTH, TreeH, TR, AU, AL, OrNil, AuP, SetO, Many, ScO, Nat.zero_add, Nat.reduceAdd] at hc) | (go_at_call 10; refine (row_c xs 12 Ax cx _ _ S.bd (S.im 2 rfl) (by omega)).mono ?_; rw [HYS1.out]; rintro e w1 ⟨v, rfl, hu⟩; have hxe := hu.ext; obtain ⟨I1, S1, hI1⟩ := S.new hu; clear S hu hI1; (try clear hc); have S := S1; clear S1; have hc := S.cells; simp only [Cells, cellsC, Im, Row, El, RTH, TreeH, TR, AU, AL, OrNil, AuP, SetO, Many, ScO, Nat.zero_add, Nat.reduceAdd] at hc; obtain ⟨A8, c8, I1, e1, hc8, S1, hI1⟩ := S.frow 0 rfl; subst e1; clear S hI1; have S := S1; clear S1; simp only [List.set_cons_zero, List.set_cons_succ, List.nil_append] at S; have hc := S.cells; simp only [Cells, cellsC, Im, Row, El, RTH, TreeH, TR, AU, AL, OrNil, AuP, SetO, Many, ScO, Nat.zero_add, Nat.reduceAdd] at hc))
    refine ⟨fun _ => hxe, ?_⟩
    clear hxe
    refine mix_cons rfl rfl rfl ?_
    simp only [opsAt, List.getD_cons_succ, List.getD_cons_zero]
    repeat (go_big_quiet_step ((intro hC; first | rfl | (go_simp; first | done | rfl))))
    refine wpQuiet_nil ?_
    repeat (go_big_quiet_step ((intro hC; first | rfl | (go_simp; first | done | rfl))))
    refine wpQuiet_nil ?_
    go_wp2_with (first | ((first | (with_reducible refine mx_seal S ?_) | (with_reducible refine wpl_seal S ?_) | (with_reducible refine ca_seal S ?_)); clear S; (try clear hc); intro w1 S; (try simp only [List.set_cons_zero, List.set_cons_succ, List.nil_append] at S); have hc := S.cells; simp only [Cells, cellsC, Im, Row, El, RTH, TreeH, TR, AU, AL, OrNil, AuP, SetO, Many, ScO, Nat.zero_add, Nat.reduceAdd] at hc))
    (first | refine ⟨(fun h => by cases h), ?_⟩ | skip); (first | ((first | (with_reducible refine mx_seal S ?_)); clear S; (try clear hc); intro w1 S; (try simp only [List.set_cons_zero, List.set_cons_succ, List.nil_append] at S); have hc := S.cells; simp only [Cells, cellsC, Im, Row, El, RTH, TreeH, TR, AU, AL, OrNil, AuP, SetO, Many, ScO, Nat.zero_add, Nat.reduceAdd] at hc) | skip); (try simp only [Act.put, List.setIfInBounds_toArray, List.set_cons_succ, List.set_cons_zero])
    refine mix_last rfl ?_
    simp only [opsAt, List.getD_cons_succ, List.getD_cons_zero]
    repeat (go_big_quiet_step ((intro hC; first | rfl | (go_simp; first | done | rfl))))
    refine wpQuiet_nil ?_
    simp only [calmQ]
    rw [HY0.out] at S
    obtain ⟨gB, egB⟩ := S.name 0 rfl; rw [← egB] at S ⊢; clear egB
    rw [HY0.out]
    have h0 := (S.im 4 rfl).take 12
    rw [HYS0.out] at h0
    have hyc : ys0.length ≤ cx := by rw [← HYS0.out, List.length_take]; omega
    obtain ⟨J5, S1, -⟩ := S.lit 0 rfl (k := kW) (xs := [ys0, ys1]) (Flat.cons (cs := [_]) ⟨_, _, rfl, hyc, h0⟩ (Flat.single (cs := [_]) ⟨_, _, rfl, hc8, S.im 1 rfl⟩))
    clear S h0
    have S := S1
    clear S1
    simp only [List.set_cons_zero, List.set_cons_succ, List.nil_append] at S
    replace S := (S.sel [2, 3, 0, 1, 4] (by decide) rfl (by simp) : SH _ _ _ [_, _, _, _, _] _ _)
    have HYL : As (∀ y ∈ [ys0, ys1], y.length ≤ 12) := ⟨fun y hy => by rcases List.mem_cons.1 hy with rfl | hy; exact hy0; rw [List.mem_singleton.1 hy]; exact hy1⟩
    have hc := S.cells; simp only [Cells, cellsC, Im, Row, El, RTH, TreeH, TR, AU, AL, OrNil, AuP, SetO, Many, ScO, Nat.zero_add, Nat.reduceAdd] at hc
    go_wp2_with (first | ((first | (with_reducible refine wpl_seal S ?_) | (with_reducible refine cw_seal S ?_) | (with_reducible refine bp_seal S ?_) | (with_reducible refine ca_seal S ?_)); clear S; (try clear hc); intro w1 S; (try simp only [List.set_cons_zero, List.set_cons_succ, List.nil_append] at S); have hc := S.cells; simp only [Cells, cellsC, Im, Row, El, RTH, TreeH, TR, AU, AL, OrNil, AuP, SetO, Many, ScO, Nat.zero_add, Nat.reduceAdd] at hc))
    have S1 := S
    clear S hc
    go_loopw [10] (fun i w' => ∃ (t : Nat), i = .int .i64 t ∧ t ≤ 2 ∧ ∃ I', As (SH No I w [SetO gs L W, Im kW a2 W, Im kW (some ⟨gB, 0, none⟩) [ys0, ys1], Im kP A8 ys1, Im kP Ax xs] w' I')) (fun i _ => 2 - (intOf i).toNat)
    case atStart => exact ⟨0, rfl, by omega, _, ⟨S1⟩⟩
    case round =>
      clear S1
      obtain ⟨t, rfl, ht2, I', ⟨S⟩⟩ := hrel
      have hc := S.cells; simp only [Cells, cellsC, Im, Row, El, RTH, TreeH, TR, AU, AL, OrNil, AuP, SetO, Many, ScO, Nat.zero_add, Nat.reduceAdd] at hc
      by_cases htl : t < 2
      · have htl' : decide ((t : Int) < 2) = true := by simp; omega
        have htn : t < [ys0, ys1].length := by simpa using htl
        obtain ⟨ys, hys⟩ : ∃ ys, [ys0, ys1][t] = ys := ⟨_, rfl⟩
        have hyl : ys.length ≤ 12 := by rw [← hys]; exact HYL.out _ (List.getElem_mem htn)
        have HAT : As (∀ w' J', Sl kW w' J' (some ⟨gB, 0, none⟩) [ys0, ys1] → ∃ A3 c3, w'.cell? ⟨gB, t, none⟩ = some (.slice A3 ys.length c3) ∧ ys.length ≤ c3 ∧ Sl kP w' J' A3 ys) := ⟨fun w' J' h => by
          obtain ⟨bA, oA, A3, c3, e, h1, h2, h3⟩ := h.sl_at htn
          cases e
          rw [hys] at h1 h2 h3
          rw [Nat.zero_add] at h1
          exact ⟨A3, c3, h1, h2, h3⟩⟩
        have ht9 : (t : Int) < 2 := by omega
        obtain ⟨SC, hSC⟩ : ∃ SC, scanR L W 0 ys = SC := ⟨_, rfl⟩
        have HSCE := As.mk hSC
        have HSL : As (SC.length = ys.length) := ⟨by rw [← hSC]; exact scanR_len ys⟩
        have HAS : As (∀ k, k < ys.length → SC[k]? = some (endsL W (ys.take (k + 1)))) := ⟨fun k hk => by rw [← hSC]; exact scanR_at HG.out ys k hk⟩
        clear hys hSC
        obtain ⟨A3, c3, hca, hc3, hs3⟩ := HAT.out _ _ (S.im 2 rfl)
        go_wp2_with (first | ((first | (with_reducible refine wpl_seal S ?_) | (with_reducible refine cw_seal S ?_) | (with_reducible refine bp_seal S ?_) | (with_reducible refine ca_seal S ?_)); clear S; (try clear hc); intro w1 S; (try simp only [List.set_cons_zero, List.set_cons_succ, List.nil_append] at S); have hc := S.cells; simp only [Cells, cellsC, Im, Row, El, RTH, TreeH, TR, AU, AL, OrNil, AuP, SetO, Many, ScO, Nat.zero_add, Nat.reduceAdd] at hc) | (go_at_call 11; refine (wscan_r (c := c3) S 0 rfl (by omega) (by omega) HG.out HNW.out 5 HL5.out (by omega) hs3 (by omega)).mono ?_; rw [HSCE.out]; rintro e w1 ⟨v, J9, rfl, S9⟩; clear S hc hca hc3 hs3; have S := S9; clear S9; obtain ⟨A5, c5, I1, e1, hc5, S1, hI1⟩ := S.frow 0 rfl; subst e1; clear S hI1; have S := S1; clear S1; simp only [List.set_cons_zero, List.set_cons_succ, List.nil_append] at S; obtain ⟨A3, c3, hca, hc3, hs3⟩ := HAT.out _ _ (S.im 3 rfl); rw [HSL.out] at hc5 ⊢; have hc := S.cells; simp only [Cells, cellsC, Im, Row, El, RTH, TreeH, TR, AU, AL, OrNil, AuP, SetO, Many, ScO, Nat.zero_add, Nat.reduceAdd] at hc))
        clear hca hc3 hs3
        have S1 := S
        clear S hc
        go_loopw [12] (fun i w' => ∃ (k : Nat), i = .int .i64 k ∧ k ≤ ys.length ∧ ∃ I', As (SH No I w (Im kII A5 SC :: [SetO gs L W, Im kW a2 W, Im kW (some ⟨gB, 0, none⟩) [ys0, ys1], Im kP A8 ys1, Im kP Ax xs]) w' I')) (fun i _ => ys.length - (intOf i).toNat)
        case atStart => exact ⟨0, rfl, by omega, _, ⟨S1⟩⟩
        case round =>
          clear S1
          obtain ⟨k, rfl, hky, I', ⟨S⟩⟩ := hrel
          have hc := S.cells; simp only [Cells, cellsC, Im, Row, El, RTH, TreeH, TR, AU, AL, OrNil, AuP, SetO, Many, ScO, Nat.zero_add, Nat.reduceAdd] at hc
          by_cases hkl : k < ys.length
          · have hkl' : decide ((k : Int) < (ys.length : Int)) = true := by simpa using hkl
            obtain ⟨A3, c3, hca, hc3, hs3⟩ := HAT.out _ _ (S.im 3 rfl)
            obtain ⟨ES, hES⟩ : ∃ ES, endsL W (ys.take (k + 1)) = ES := ⟨_, rfl⟩
            have HES := As.mk hES
            have hel : ES.length ≤ 1000000 := by rw [← hES]; have := endK_le (W := W) (x := ys.take (k + 1)) (m := W.length); have h2 : (endsL W (ys.take (k + 1))).length ≤ W.length := this; omega
            obtain ⟨be, oe, A6, c6, rfl, hce, hc6, hs6⟩ := ii_at (S.im 0 rfl) k ES (by rw [HAS.out k hkl, hES])
            replace S := (S.know (h := Im kI A6 ES) hs6).know (h := Im kP A3 ys) hs3
            clear hES hs6 hs3
            go_wp2_with (first | ((first | (with_reducible refine wpl_seal S ?_) | (with_reducible refine cw_seal S ?_) | (with_reducible refine bp_seal S ?_) | (with_reducible refine ca_seal S ?_)); clear S; (try clear hc); intro w1 S; (try simp only [List.set_cons_zero, List.set_cons_succ, List.nil_append] at S); have hc := S.cells; simp only [Cells, cellsC, Im, Row, El, RTH, TreeH, TR, AU, AL, OrNil, AuP, SetO, Many, ScO, Nat.zero_add, Nat.reduceAdd] at hc))
            have hqe := ClE.cell (w := wr.drew) hce
            have hqa := ClE.cell (w := wr.drew) hca
            have hq := S.cellsE; simp only [CellsE, cellsE, Im, Row, El, RTH, TreeH, TR, AU, AL, OrNil, AuP, SetO, Many, ScO, Nat.zero_add, Nat.reduceAdd] at hq
            refine wp_region_ext [⟨[0, 1, 2, 3, 4, 5, 6, 7, 8, 9], [], 10, true⟩, ⟨[], [], 11, false⟩] [12] (by kernel_rfl) (by kernel_rfl) ?_
            refine mix_cons rfl rfl rfl ?_
            simp only [opsAt, List.getD_cons_succ, List.getD_cons_zero]
            repeat (go_big_quiet_step ((intro hC; first | rfl | (go_simp; first | done | rfl))))
            refine wpQuiet_nil ?_
            repeat (go_big_quiet_step ((intro hC; first | rfl | (go_simp; first | done | rfl))))
            refine wpQuiet_nil ?_
            clear hq hqe hqa hc hce hca
            replace S := S.drew
            generalize wr.drew = w1 at S ⊢
            have hc := S.cells; simp only [Cells, cellsC, Im, Row, El, RTH, TreeH, TR, AU, AL, OrNil, AuP, SetO, Many, ScO, Nat.zero_add, Nat.reduceAdd] at hc
            go_wp2_with (first | ((first | (with_reducible refine mx_seal S ?_) | (with_reducible refine wpl_seal S ?_) | (with_reducible refine ca_seal S ?_)); clear S; (try clear hc); intro w1 S; (try simp only [List.set_cons_zero, List.set_cons_succ, List.nil_append] at S); have hc := S.cells; simp only [Cells, cellsC, Im, Row, El, RTH, TreeH, TR, AU, AL, OrNil, AuP, SetO, Many, ScO, Nat.zero_add, Nat.reduceAdd] at hc) | (go_at_call 13; refine (yends_c W ys k a2 A3 d2 c3 _ _ S.bd (S.im 4 rfl) (S.im 0 rfl) hc3 (by omega) (by omega) hkl HWs.out).mono ?_; rw [HES.out]; rintro e w1 ⟨v7, rfl, hu⟩; have hxe := hu.ext; obtain ⟨I1, S1, hI1⟩ := S.new hu; clear S hu hI1; (try clear hc); have S := S1; clear S1; have hc := S.cells; simp only [Cells, cellsC, Im, Row, El, RTH, TreeH, TR, AU, AL, OrNil, AuP, SetO, Many, ScO, Nat.zero_add, Nat.reduceAdd] at hc; obtain ⟨A7, c7, I1, e1, hc7, S1, hI1⟩ := S.frow 0 rfl; subst e1; clear S hI1; have S := S1; clear S1; simp only [List.set_cons_zero, List.set_cons_succ, List.nil_append] at S; have hc := S.cells; simp only [Cells, cellsC, Im, Row, El, RTH, TreeH, TR, AU, AL, OrNil, AuP, SetO, Many, ScO, Nat.zero_add, Nat.reduceAdd] at hc))
            refine ⟨fun _ => hxe, ?_⟩
            clear hxe
            refine mix_cons rfl rfl rfl ?_
            simp only [opsAt, List.getD_cons_succ, List.getD_cons_zero]
            repeat (go_big_quiet_step ((intro hC; first | rfl | (go_simp; first | done | rfl))))
            refine wpQuiet_nil ?_
            repeat (go_big_quiet_step ((intro hC; first | rfl | (go_simp; first | done | rfl))))
            refine wpQuiet_nil ?_
            go_wp2_with (first | ((first | (with_reducible refine mx_seal S ?_) | (with_reducible refine wpl_seal S ?_) | (with_reducible refine ca_seal S ?_)); clear S; (try clear hc); intro w1 S; (try simp only [List.set_cons_zero, List.set_cons_succ, List.nil_append] at S); have hc := S.cells; simp only [Cells, cellsC, Im, Row, El, RTH, TreeH, TR, AU, AL, OrNil, AuP, SetO, Many, ScO, Nat.zero_add, Nat.reduceAdd] at hc) | (go_at_call 12; refine (sameI_e ES A6 A7 c6 c7 _ _ _ (S.im 2 rfl) (S.im 0 rfl) hel).mono ?_; rintro e w1 ⟨rfl, hx⟩; have hx := hx.ext; replace S := S.ext hx; clear hx; (try clear hc); have hc := S.cells; simp only [Cells, cellsC, Im, Row, El, RTH, TreeH, TR, AU, AL, OrNil, AuP, SetO, Many, ScO, Nat.zero_add, Nat.reduceAdd] at hc))
            (first | refine ⟨(fun h => by cases h), ?_⟩ | skip); (first | ((first | (with_reducible refine mx_seal S ?_)); clear S; (try clear hc); intro w1 S; (try simp only [List.set_cons_zero, List.set_cons_succ, List.nil_append] at S); have hc := S.cells; simp only [Cells, cellsC, Im, Row, El, RTH, TreeH, TR, AU, AL, OrNil, AuP, SetO, Many, ScO, Nat.zero_add, Nat.reduceAdd] at hc) | skip); (try simp only [Act.put, List.setIfInBounds_toArray, List.set_cons_succ, List.set_cons_zero])
            refine mix_last rfl ?_
            simp only [opsAt, List.getD_cons_succ, List.getD_cons_zero]
            repeat (go_big_quiet_step ((intro hC; first | rfl | (go_simp; first | done | rfl))))
            refine wpQuiet_nil ?_
            simp only [calmQ]
            have hc := S.cells; simp only [Cells, cellsC, Im, Row, El, RTH, TreeH, TR, AU, AL, OrNil, AuP, SetO, Many, ScO, Nat.zero_add, Nat.reduceAdd] at hc
            go_wp2_with (first | ((first | (with_reducible refine wpl_seal S ?_) | (with_reducible refine cw_seal S ?_) | (with_reducible refine bp_seal S ?_) | (with_reducible refine ca_seal S ?_)); clear S; (try clear hc); intro w1 S; (try simp only [List.set_cons_zero, List.set_cons_succ, List.nil_append] at S); have hc := S.cells; simp only [Cells, cellsC, Im, Row, El, RTH, TreeH, TR, AU, AL, OrNil, AuP, SetO, Many, ScO, Nat.zero_add, Nat.reduceAdd] at hc))
            go_roundw
            case rel => exact ⟨k + 1, by go_num, by omega, _, ⟨(S.sel [3, 4, 5, 6, 7, 8] (by decide) rfl (by simp) : SH _ _ _ [_, _, _, _, _, _] _ _)⟩⟩
            case measure => simp [intOf] <;> omega
          · have hkl' : decide ((k : Int) < (ys.length : Int)) = false := by simpa using hkl
            go_wp2_with (first | ((first | (with_reducible refine wpl_seal S ?_) | (with_reducible refine cw_seal S ?_) | (with_reducible refine bp_seal S ?_) | (with_reducible refine ca_seal S ?_)); clear S; (try clear hc); intro w1 S; (try simp only [List.set_cons_zero, List.set_cons_succ, List.nil_append] at S); have hc := S.cells; simp only [Cells, cellsC, Im, Row, El, RTH, TreeH, TR, AU, AL, OrNil, AuP, SetO, Many, ScO, Nat.zero_add, Nat.reduceAdd] at hc))
            go_roundw
            case rel => exact ⟨t + 1, by go_num, by omega, _, ⟨(S.sel [1, 2, 3, 4, 5] (by decide) rfl (by simp) : SH _ _ _ [_, _, _, _, _] _ _)⟩⟩
            case measure => simp [intOf] <;> omega
      · have htl' : decide ((t : Int) < 2) = false := by simp; omega
        go_wp2_with (first | ((first | (with_reducible refine wpl_seal S ?_) | (with_reducible refine cw_seal S ?_) | (with_reducible refine bp_seal S ?_) | (with_reducible refine ca_seal S ?_)); clear S; (try clear hc); intro w1 S; (try simp only [List.set_cons_zero, List.set_cons_succ, List.nil_append] at S); have hc := S.cells; simp only [Cells, cellsC, Im, Row, El, RTH, TreeH, TR, AU, AL, OrNil, AuP, SetO, Many, ScO, Nat.zero_add, Nat.reduceAdd] at hc) | (go_at_call 14; refine (lives14_c _ _ S.bd).mono ?_; rintro e w1 ⟨rfl, hx⟩; replace S := S.ext hx; clear hx; (try clear hc); have hc := S.cells; simp only [Cells, cellsC, Im, Row, El, RTH, TreeH, TR, AU, AL, OrNil, AuP, SetO, Many, ScO, Nat.zero_add, Nat.reduceAdd] at hc))
        go_ret
        exact ⟨rfl, S.out⟩
end Go.Proofs.Ytooaelpfbamebaa
