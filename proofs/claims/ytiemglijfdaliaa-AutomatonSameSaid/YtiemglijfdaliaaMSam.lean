/- AutomatonSame: the law's walk. -/
import Derived.Test.YtiemglijfdaliaaLiv13
namespace Go.Proofs.Ytiemglijfdaliaa
open Go.RowKit X
set_option maxHeartbeats 4000000
set_option maxRecDepth 8000
set_option linter.unusedSimpArgs false
set_option linter.unusedVariables false
theorem msame_c (ls : List (List Int)) (n m : Int) (A : Option Addr) (c : Nat) (w : World) (I : Fp) (hI : ∀ b, I b → b < w.heap.size) (hx : Sl kW w I A ls) :
    Calls Try.prog 7 #[.slice A ls.length c, .int .i64 n, .int .i64 m] w fun e w' => e = .returned (.bool true) ∧ Ext w w' := by
  have S := SH.start w I hI
  have HXL := As.mk hx
  clear hx
  have hc := S.cells; simp only [Cells, cellsC, Im, Row, El, RTH, TreeH, TR, AU, Nat.zero_add, Nat.reduceAdd] at hc
  go_enter Try.func7, Try.ntmps7
  go_wp2_with (first | ((first | (with_reducible refine wpl_seal S ?_) | (with_reducible refine cw_seal S ?_) | (with_reducible refine bp_seal S ?_) | (with_reducible refine ca_seal S ?_)); clear S; (try clear hc); intro w1 S; (try simp only [List.set_cons_zero, List.set_cons_succ, List.nil_append] at S); have hc := S.cells; simp only [Cells, cellsC, Im, Row, El, RTH, TreeH, TR, AU, Nat.zero_add, Nat.reduceAdd] at hc) | (go_at_call 9; refine (begin13_c false ls A c _ I S.bd (HXL.out.below S.out)).mono ?_; rintro e w1 ⟨a, v, L, W, J, rfl, S2, hbg, hL, hW, hL5⟩; obtain ⟨J2, S3, -, -⟩ := S.comp S2; have HBG := As.mk hbg; have HL5 := As.mk hL5; clear S hc S2 hbg hL5; have S := S3; clear S3; simp only [List.cons_append, List.nil_append, List.set_cons_zero] at S; obtain ⟨a1, d1, a2, d2, rfl, hd1, hd2, hs1, hs2⟩ := S.rt 1 rfl; replace S := (S.know (h := Im kW a2 W) hs2).know (h := Im kW a1 L) hs1; clear hs1 hs2; have hc := S.cells; simp only [Cells, cellsC, Im, Row, El, RTH, TreeH, TR, AU, Nat.zero_add, Nat.reduceAdd] at hc))
  have HG := As.mk (S.auG 3 rfl).1
  have HNW := As.mk (S.auG 3 rfl).2
  have HLs : As (ShortW L) := ⟨fun x hx => by have := HL5.out x hx; omega⟩
  have HNE : As (∀ i, 0 < i → i < L.length → pa L i ≠ []) := ⟨fun i hi hl => HG.out.ne hi hl⟩
  have HWs : As (ShortW W) := ⟨fun x hx => by have := ownN_five false ls _ (begT_ne2 HBG.out _ hx).2; omega⟩
  obtain ⟨gT, egT⟩ := S.name 0 rfl; rw [← egT] at S ⊢; clear egT
  have S1 := S
  clear S hc
  go_loopw [9] (fun i w' => ∃ (z : Int), i = .int .i64 z ∧ -1 ≤ z ∧ z ≤ (L.length : Int) + 1 ∧ ∃ I', As (SH No I w [Cel gT 27 [.slice a1 L.length d1, .slice a2 W.length d2], Im kW a1 L, Im kW a2 W, AU a L W] w' I')) (fun i _ => ((L.length : Int) + 1 - intOf i).toNat)
  case atStart => exact ⟨-1, rfl, by omega, by omega, _, ⟨S1.sel [0, 1, 2, 3] (by decide) rfl (by simp)⟩⟩
  case round =>
    clear S1
    obtain ⟨z, rfl, hz0, hz1, I', ⟨S⟩⟩ := hrel
    have hc := S.cells; simp only [Cells, cellsC, Im, Row, El, RTH, TreeH, TR, AU, Nat.zero_add, Nat.reduceAdd] at hc
    by_cases hzl : z ≤ L.length
    · have hzl' : decide (z ≤ (L.length : Int)) = true := by simpa using hzl
      have hzb : z ≤ 1000000 := by omega
      go_wp2_with (first | ((first | (with_reducible refine wpl_seal S ?_) | (with_reducible refine cw_seal S ?_) | (with_reducible refine bp_seal S ?_) | (with_reducible refine ca_seal S ?_)); clear S; (try clear hc); intro w1 S; (try simp only [List.set_cons_zero, List.set_cons_succ, List.nil_append] at S); have hc := S.cells; simp only [Cells, cellsC, Im, Row, El, RTH, TreeH, TR, AU, Nat.zero_add, Nat.reduceAdd] at hc))
      have S1 := S
      clear S hc
      go_loopw [10] (fun i w' => ∃ (y : Int), i = .int .i64 y ∧ -1 ≤ y ∧ y ≤ (L.length : Int) + 1 ∧ ∃ I', As (SH No I w [Cel gT 27 [.slice a1 L.length d1, .slice a2 W.length d2], Im kW a1 L, Im kW a2 W, AU a L W] w' I')) (fun i _ => ((L.length : Int) + 1 - intOf i).toNat)
      case atStart => exact ⟨-1, rfl, by omega, by omega, _, ⟨S1⟩⟩
      case round =>
        clear S1
        obtain ⟨y, rfl, hy0, hy1, I', ⟨S⟩⟩ := hrel
        have hc := S.cells; simp only [Cells, cellsC, Im, Row, El, RTH, TreeH, TR, AU, Nat.zero_add, Nat.reduceAdd] at hc
        by_cases hyl : y ≤ L.length
        · have hyl' : decide (y ≤ (L.length : Int)) = true := by simpa using hyl
          have hyb : y ≤ 1000000 := by omega
          by_cases g1 : 0 ≤ z
          · by_cases g2 : 0 ≤ y
            · by_cases g3 : z < (L.length : Int)
              · by_cases g4 : y < (L.length : Int)
                · skip
                  obtain ⟨ES1, hES1⟩ : ∃ ES, endsR L W z = ES := ⟨_, rfl⟩
                  obtain ⟨ES2, hES2⟩ : ∃ ES, endsR L W y = ES := ⟨_, rfl⟩
                  have hel : ES2.length ≤ 1000000 := by rw [← hES2]; have := endsR_len (L := L) (W := W) (z := y); omega
                  have HSR : As (sameR L W z y = decide (ES1 = ES2)) := ⟨by unfold sameR; rw [decide_eq_true (show 0 ≤ z ∧ z < (L.length : Int) by omega), decide_eq_true (show 0 ≤ y ∧ y < (L.length : Int) by omega), hES1, hES2]; simp⟩
                  have HES1 := As.mk hES1
                  have HES2 := As.mk hES2
                  clear hES1 hES2
                  go_wp2_with (first | ((first | (with_reducible refine wpl_seal S ?_) | (with_reducible refine cw_seal S ?_) | (with_reducible refine bp_seal S ?_) | (with_reducible refine ca_seal S ?_)); clear S; (try clear hc); intro w1 S; (try simp only [List.set_cons_zero, List.set_cons_succ, List.nil_append] at S); have hc := S.cells; simp only [Cells, cellsC, Im, Row, El, RTH, TreeH, TR, AU, Nat.zero_add, Nat.reduceAdd] at hc))
                  have hq := S.cellsE; simp only [CellsE, cellsE, Im, Row, El, RTH, TreeH, TR, AU, Nat.zero_add, Nat.reduceAdd] at hq
                  refine wp_region_ext [⟨[0, 1, 2], [4], 3, false⟩, ⟨[5, 6, 7, 9], [10], 8, true⟩, ⟨[], [], 11, false⟩, ⟨[], [], 12, false⟩] [13, 14] (by kernel_rfl) (by kernel_rfl) ?_
                  refine mix_cons rfl rfl rfl ?_
                  simp only [opsAt, List.getD_cons_succ, List.getD_cons_zero]
                  repeat (go_big_quiet_step ((intro hC; first | rfl | (go_simp; first | done | rfl))))
                  refine wpQuiet_nil ?_
                  repeat (go_big_quiet_step ((intro hC; first | rfl | (go_simp; first | done | rfl))))
                  refine wpQuiet_nil ?_
                  clear hq hc
                  replace S := S.drew
                  generalize wr.drew = w1 at S ⊢
                  have hc := S.cells; simp only [Cells, cellsC, Im, Row, El, RTH, TreeH, TR, AU, Nat.zero_add, Nat.reduceAdd] at hc
                  go_wp2_with (first | ((first | (with_reducible refine mx_seal S ?_) | (with_reducible refine wpl_seal S ?_) | (with_reducible refine ca_seal S ?_)); clear S; (try clear hc); intro w1 S; (try simp only [List.set_cons_zero, List.set_cons_succ, List.nil_append] at S); have hc := S.cells; simp only [Cells, cellsC, Im, Row, El, RTH, TreeH, TR, AU, Nat.zero_add, Nat.reduceAdd] at hc) | (go_at_call 33; refine (same_r S 3 rfl (by omega) z y).mono ?_; rw [HSR.out]; rintro e w1 ⟨rfl, hx⟩; replace S := S.ext hx; clear hx; (try clear hc); have hc := S.cells; simp only [Cells, cellsC, Im, Row, El, RTH, TreeH, TR, AU, Nat.zero_add, Nat.reduceAdd] at hc))
                  (first | refine ⟨(fun h => by cases h), ?_⟩ | skip); (first | ((first | (with_reducible refine mx_seal S ?_)); clear S; (try clear hc); intro w1 S; (try simp only [List.set_cons_zero, List.set_cons_succ, List.nil_append] at S); have hc := S.cells; simp only [Cells, cellsC, Im, Row, El, RTH, TreeH, TR, AU, Nat.zero_add, Nat.reduceAdd] at hc) | skip); (try simp only [Act.put, List.setIfInBounds_toArray, List.set_cons_succ, List.set_cons_zero])
                  have hq := CellsE_of S.cells; simp only [CellsE, cellsE, Im, Row, El, RTH, TreeH, TR, AU, Nat.zero_add, Nat.reduceAdd] at hq
                  refine mix_cons rfl rfl rfl ?_
                  simp only [opsAt, List.getD_cons_succ, List.getD_cons_zero]
                  repeat (go_big_quiet_step ((intro hC; first | rfl | (go_simp; first | done | rfl))))
                  refine wpQuiet_nil ?_
                  repeat (go_big_quiet_step ((intro hC; first | rfl | (go_simp; first | done | rfl))))
                  refine wpQuiet_nil ?_
                  clear hq
                  go_wp2_with (first | ((first | (with_reducible refine mx_seal S ?_) | (with_reducible refine wpl_seal S ?_) | (with_reducible refine ca_seal S ?_)); clear S; (try clear hc); intro w1 S; (try simp only [List.set_cons_zero, List.set_cons_succ, List.nil_append] at S); have hc := S.cells; simp only [Cells, cellsC, Im, Row, El, RTH, TreeH, TR, AU, Nat.zero_add, Nat.reduceAdd] at hc) | (go_at_call 29; refine (xends_c L W z _ _ _ S.bd ⟨a1, d1, a2, d2, rfl, hd1, hd2, S.im 1 rfl, S.im 2 rfl⟩ (by omega) (by omega) HLs.out HWs.out).mono ?_; rw [HES1.out]; rintro e w1 ⟨v, rfl, hu⟩; have hxe := hu.ext; obtain ⟨I1, S1, hI1⟩ := S.new hu; clear S hu hI1; (try clear hc); have S := S1; clear S1; have hc := S.cells; simp only [Cells, cellsC, Im, Row, El, RTH, TreeH, TR, AU, Nat.zero_add, Nat.reduceAdd] at hc; obtain ⟨A5, c5, I1, e1, hc5, S1, hI1⟩ := S.frow 0 rfl; subst e1; clear S hI1; have S := S1; clear S1; simp only [List.set_cons_zero, List.set_cons_succ, List.nil_append] at S; have hc := S.cells; simp only [Cells, cellsC, Im, Row, El, RTH, TreeH, TR, AU, Nat.zero_add, Nat.reduceAdd] at hc))
                  refine ⟨fun _ => hxe, ?_⟩
                  clear hxe
                  refine mix_cons rfl rfl rfl ?_
                  simp only [opsAt, List.getD_cons_succ, List.getD_cons_zero]
                  repeat (go_big_quiet_step ((intro hC; first | rfl | (go_simp; first | done | rfl))))
                  refine wpQuiet_nil ?_
                  repeat (go_big_quiet_step ((intro hC; first | rfl | (go_simp; first | done | rfl))))
                  refine wpQuiet_nil ?_
                  go_wp2_with (first | ((first | (with_reducible refine mx_seal S ?_) | (with_reducible refine wpl_seal S ?_) | (with_reducible refine ca_seal S ?_)); clear S; (try clear hc); intro w1 S; (try simp only [List.set_cons_zero, List.set_cons_succ, List.nil_append] at S); have hc := S.cells; simp only [Cells, cellsC, Im, Row, El, RTH, TreeH, TR, AU, Nat.zero_add, Nat.reduceAdd] at hc) | (go_at_call 29; refine (xends_c L W y _ _ _ S.bd ⟨a1, d1, a2, d2, rfl, hd1, hd2, S.im 2 rfl, S.im 3 rfl⟩ (by omega) (by omega) HLs.out HWs.out).mono ?_; rw [HES2.out]; rintro e w1 ⟨v, rfl, hu⟩; obtain ⟨I1, S1, hI1⟩ := S.new hu; clear S hu hI1; (try clear hc); have S := S1; clear S1; have hc := S.cells; simp only [Cells, cellsC, Im, Row, El, RTH, TreeH, TR, AU, Nat.zero_add, Nat.reduceAdd] at hc; obtain ⟨A6, c6, I1, e1, hc6, S1, hI1⟩ := S.frow 0 rfl; subst e1; clear S hI1; have S := S1; clear S1; simp only [List.set_cons_zero, List.set_cons_succ, List.nil_append] at S; have hc := S.cells; simp only [Cells, cellsC, Im, Row, El, RTH, TreeH, TR, AU, Nat.zero_add, Nat.reduceAdd] at hc))
                  (first | refine ⟨(fun h => by cases h), ?_⟩ | skip); (first | ((first | (with_reducible refine mx_seal S ?_)); clear S; (try clear hc); intro w1 S; (try simp only [List.set_cons_zero, List.set_cons_succ, List.nil_append] at S); have hc := S.cells; simp only [Cells, cellsC, Im, Row, El, RTH, TreeH, TR, AU, Nat.zero_add, Nat.reduceAdd] at hc) | skip); (try simp only [Act.put, List.setIfInBounds_toArray, List.set_cons_succ, List.set_cons_zero])
                  refine mix_cons rfl rfl rfl ?_
                  simp only [opsAt, List.getD_cons_succ, List.getD_cons_zero]
                  repeat (go_big_quiet_step ((intro hC; first | rfl | (go_simp; first | done | rfl))))
                  refine wpQuiet_nil ?_
                  repeat (go_big_quiet_step ((intro hC; first | rfl | (go_simp; first | done | rfl))))
                  refine wpQuiet_nil ?_
                  go_wp2_with (first | ((first | (with_reducible refine mx_seal S ?_) | (with_reducible refine wpl_seal S ?_) | (with_reducible refine ca_seal S ?_)); clear S; (try clear hc); intro w1 S; (try simp only [List.set_cons_zero, List.set_cons_succ, List.nil_append] at S); have hc := S.cells; simp only [Cells, cellsC, Im, Row, El, RTH, TreeH, TR, AU, Nat.zero_add, Nat.reduceAdd] at hc) | (go_at_call 28; refine (sameI_c ES1 ES2 A5 A6 c5 c6 _ _ _ (S.im 1 rfl) (S.im 0 rfl) hel).mono ?_; rintro e w1 ⟨rfl, hx⟩; have hx := hx.ext; replace S := S.ext hx; clear hx; (try clear hc); have hc := S.cells; simp only [Cells, cellsC, Im, Row, El, RTH, TreeH, TR, AU, Nat.zero_add, Nat.reduceAdd] at hc))
                  (first | refine ⟨(fun h => by cases h), ?_⟩ | skip); (first | ((first | (with_reducible refine mx_seal S ?_)); clear S; (try clear hc); intro w1 S; (try simp only [List.set_cons_zero, List.set_cons_succ, List.nil_append] at S); have hc := S.cells; simp only [Cells, cellsC, Im, Row, El, RTH, TreeH, TR, AU, Nat.zero_add, Nat.reduceAdd] at hc) | skip); (try simp only [Act.put, List.setIfInBounds_toArray, List.set_cons_succ, List.set_cons_zero])
                  refine mix_last rfl ?_
                  simp only [opsAt, List.getD_cons_succ, List.getD_cons_zero]
                  repeat (go_big_quiet_step ((intro hC; first | rfl | (go_simp; first | done | rfl))))
                  refine wpQuiet_nil ?_
                  simp only [calmQ]
                  have hc := S.cells; simp only [Cells, cellsC, Im, Row, El, RTH, TreeH, TR, AU, Nat.zero_add, Nat.reduceAdd] at hc
                  go_wp2_with (first | ((first | (with_reducible refine wpl_seal S ?_) | (with_reducible refine cw_seal S ?_) | (with_reducible refine bp_seal S ?_) | (with_reducible refine ca_seal S ?_)); clear S; (try clear hc); intro w1 S; (try simp only [List.set_cons_zero, List.set_cons_succ, List.nil_append] at S); have hc := S.cells; simp only [Cells, cellsC, Im, Row, El, RTH, TreeH, TR, AU, Nat.zero_add, Nat.reduceAdd] at hc))
                  go_roundw
                  case rel => exact ⟨_, rfl, by omega, by omega, _, ⟨(S.sel [2, 3, 4, 5] (by decide) rfl (by simp) : SH _ _ _ [_, _, _, _] _ _)⟩⟩
                  case measure => simp [intOf] <;> omega
                · skip
                  have HSR : As (sameR L W z y = false) := ⟨by unfold sameR; rw [Bool.eq_false_iff]; intro h; simp only [Bool.and_eq_true, decide_eq_true_eq] at h; omega⟩
                  go_wp2_with (first | ((first | (with_reducible refine wpl_seal S ?_) | (with_reducible refine cw_seal S ?_) | (with_reducible refine bp_seal S ?_) | (with_reducible refine ca_seal S ?_)); clear S; (try clear hc); intro w1 S; (try simp only [List.set_cons_zero, List.set_cons_succ, List.nil_append] at S); have hc := S.cells; simp only [Cells, cellsC, Im, Row, El, RTH, TreeH, TR, AU, Nat.zero_add, Nat.reduceAdd] at hc))
                  have hq := S.cellsE; simp only [CellsE, cellsE, Im, Row, El, RTH, TreeH, TR, AU, Nat.zero_add, Nat.reduceAdd] at hq
                  refine wp_region_ext [⟨[0, 1, 2], [4], 3, false⟩, ⟨[5, 6, 7, 9], [10], 8, true⟩, ⟨[], [], 11, false⟩, ⟨[], [], 12, false⟩] [13, 14] (by kernel_rfl) (by kernel_rfl) ?_
                  refine mix_cons rfl rfl rfl ?_
                  simp only [opsAt, List.getD_cons_succ, List.getD_cons_zero]
                  repeat (go_big_quiet_step ((intro hC; first | rfl | (go_simp; first | done | rfl))))
                  refine wpQuiet_nil ?_
                  repeat (go_big_quiet_step ((intro hC; first | rfl | (go_simp; first | done | rfl))))
                  refine wpQuiet_nil ?_
                  clear hq hc
                  replace S := S.drew
                  generalize wr.drew = w1 at S ⊢
                  have hc := S.cells; simp only [Cells, cellsC, Im, Row, El, RTH, TreeH, TR, AU, Nat.zero_add, Nat.reduceAdd] at hc
                  go_wp2_with (first | ((first | (with_reducible refine mx_seal S ?_) | (with_reducible refine wpl_seal S ?_) | (with_reducible refine ca_seal S ?_)); clear S; (try clear hc); intro w1 S; (try simp only [List.set_cons_zero, List.set_cons_succ, List.nil_append] at S); have hc := S.cells; simp only [Cells, cellsC, Im, Row, El, RTH, TreeH, TR, AU, Nat.zero_add, Nat.reduceAdd] at hc) | (go_at_call 33; refine (same_r S 3 rfl (by omega) z y).mono ?_; rw [HSR.out]; rintro e w1 ⟨rfl, hx⟩; replace S := S.ext hx; clear hx; (try clear hc); have hc := S.cells; simp only [Cells, cellsC, Im, Row, El, RTH, TreeH, TR, AU, Nat.zero_add, Nat.reduceAdd] at hc))
                  (first | refine ⟨(fun h => by cases h), ?_⟩ | skip); (first | ((first | (with_reducible refine mx_seal S ?_)); clear S; (try clear hc); intro w1 S; (try simp only [List.set_cons_zero, List.set_cons_succ, List.nil_append] at S); have hc := S.cells; simp only [Cells, cellsC, Im, Row, El, RTH, TreeH, TR, AU, Nat.zero_add, Nat.reduceAdd] at hc) | skip); (try simp only [Act.put, List.setIfInBounds_toArray, List.set_cons_succ, List.set_cons_zero])
                  have hq := CellsE_of S.cells; simp only [CellsE, cellsE, Im, Row, El, RTH, TreeH, TR, AU, Nat.zero_add, Nat.reduceAdd] at hq
                  refine mix_cons rfl rfl rfl ?_
                  simp only [opsAt, List.getD_cons_succ, List.getD_cons_zero]
                  repeat (go_big_quiet_step ((intro hC; first | rfl | (go_simp; first | done | rfl))))
                  refine wpQuiet_nil ?_
                  repeat (go_big_quiet_step ((intro hC; first | rfl | (go_simp; first | done | rfl))))
                  refine wpQuiet_nil ?_
                  clear hq
                  go_wp2_with (first | ((first | (with_reducible refine mx_seal S ?_) | (with_reducible refine wpl_seal S ?_) | (with_reducible refine ca_seal S ?_)); clear S; (try clear hc); intro w1 S; (try simp only [List.set_cons_zero, List.set_cons_succ, List.nil_append] at S); have hc := S.cells; simp only [Cells, cellsC, Im, Row, El, RTH, TreeH, TR, AU, Nat.zero_add, Nat.reduceAdd] at hc))
                  refine ⟨fun _ => Ext.refl _, ?_⟩
                  refine mix_cons rfl rfl rfl ?_
                  simp only [opsAt, List.getD_cons_succ, List.getD_cons_zero]
                  repeat (go_big_quiet_step ((intro hC; first | rfl | (go_simp; first | done | rfl))))
                  refine wpQuiet_nil ?_
                  repeat (go_big_quiet_step ((intro hC; first | rfl | (go_simp; first | done | rfl))))
                  refine wpQuiet_nil ?_
                  go_wp2_with (first | ((first | (with_reducible refine mx_seal S ?_) | (with_reducible refine wpl_seal S ?_) | (with_reducible refine ca_seal S ?_)); clear S; (try clear hc); intro w1 S; (try simp only [List.set_cons_zero, List.set_cons_succ, List.nil_append] at S); have hc := S.cells; simp only [Cells, cellsC, Im, Row, El, RTH, TreeH, TR, AU, Nat.zero_add, Nat.reduceAdd] at hc))
                  (first | refine ⟨(fun h => by cases h), ?_⟩ | skip); (first | ((first | (with_reducible refine mx_seal S ?_)); clear S; (try clear hc); intro w1 S; (try simp only [List.set_cons_zero, List.set_cons_succ, List.nil_append] at S); have hc := S.cells; simp only [Cells, cellsC, Im, Row, El, RTH, TreeH, TR, AU, Nat.zero_add, Nat.reduceAdd] at hc) | skip); (try simp only [Act.put, List.setIfInBounds_toArray, List.set_cons_succ, List.set_cons_zero])
                  refine mix_cons rfl rfl rfl ?_
                  simp only [opsAt, List.getD_cons_succ, List.getD_cons_zero]
                  repeat (go_big_quiet_step ((intro hC; first | rfl | (go_simp; first | done | rfl))))
                  refine wpQuiet_nil ?_
                  repeat (go_big_quiet_step ((intro hC; first | rfl | (go_simp; first | done | rfl))))
                  refine wpQuiet_nil ?_
                  go_wp2_with (first | ((first | (with_reducible refine mx_seal S ?_) | (with_reducible refine wpl_seal S ?_) | (with_reducible refine ca_seal S ?_)); clear S; (try clear hc); intro w1 S; (try simp only [List.set_cons_zero, List.set_cons_succ, List.nil_append] at S); have hc := S.cells; simp only [Cells, cellsC, Im, Row, El, RTH, TreeH, TR, AU, Nat.zero_add, Nat.reduceAdd] at hc))
                  (first | refine ⟨(fun h => by cases h), ?_⟩ | skip); (first | ((first | (with_reducible refine mx_seal S ?_)); clear S; (try clear hc); intro w1 S; (try simp only [List.set_cons_zero, List.set_cons_succ, List.nil_append] at S); have hc := S.cells; simp only [Cells, cellsC, Im, Row, El, RTH, TreeH, TR, AU, Nat.zero_add, Nat.reduceAdd] at hc) | skip); (try simp only [Act.put, List.setIfInBounds_toArray, List.set_cons_succ, List.set_cons_zero])
                  refine mix_last rfl ?_
                  simp only [opsAt, List.getD_cons_succ, List.getD_cons_zero]
                  repeat (go_big_quiet_step ((intro hC; first | rfl | (go_simp; first | done | rfl))))
                  refine wpQuiet_nil ?_
                  simp only [calmQ]
                  have hc := S.cells; simp only [Cells, cellsC, Im, Row, El, RTH, TreeH, TR, AU, Nat.zero_add, Nat.reduceAdd] at hc
                  go_wp2_with (first | ((first | (with_reducible refine wpl_seal S ?_) | (with_reducible refine cw_seal S ?_) | (with_reducible refine bp_seal S ?_) | (with_reducible refine ca_seal S ?_)); clear S; (try clear hc); intro w1 S; (try simp only [List.set_cons_zero, List.set_cons_succ, List.nil_append] at S); have hc := S.cells; simp only [Cells, cellsC, Im, Row, El, RTH, TreeH, TR, AU, Nat.zero_add, Nat.reduceAdd] at hc))
                  go_roundw
                  case rel => exact ⟨_, rfl, by omega, by omega, _, ⟨by first | exact S | trivial⟩⟩
                  case measure => simp [intOf] <;> omega
              · skip
                have HSR : As (sameR L W z y = false) := ⟨by unfold sameR; rw [Bool.eq_false_iff]; intro h; simp only [Bool.and_eq_true, decide_eq_true_eq] at h; omega⟩
                go_wp2_with (first | ((first | (with_reducible refine wpl_seal S ?_) | (with_reducible refine cw_seal S ?_) | (with_reducible refine bp_seal S ?_) | (with_reducible refine ca_seal S ?_)); clear S; (try clear hc); intro w1 S; (try simp only [List.set_cons_zero, List.set_cons_succ, List.nil_append] at S); have hc := S.cells; simp only [Cells, cellsC, Im, Row, El, RTH, TreeH, TR, AU, Nat.zero_add, Nat.reduceAdd] at hc))
                have hq := S.cellsE; simp only [CellsE, cellsE, Im, Row, El, RTH, TreeH, TR, AU, Nat.zero_add, Nat.reduceAdd] at hq
                refine wp_region_ext [⟨[0, 1, 2], [4], 3, false⟩, ⟨[5, 6, 7, 9], [10], 8, true⟩, ⟨[], [], 11, false⟩, ⟨[], [], 12, false⟩] [13, 14] (by kernel_rfl) (by kernel_rfl) ?_
                refine mix_cons rfl rfl rfl ?_
                simp only [opsAt, List.getD_cons_succ, List.getD_cons_zero]
                repeat (go_big_quiet_step ((intro hC; first | rfl | (go_simp; first | done | rfl))))
                refine wpQuiet_nil ?_
                repeat (go_big_quiet_step ((intro hC; first | rfl | (go_simp; first | done | rfl))))
                refine wpQuiet_nil ?_
                clear hq hc
                replace S := S.drew
                generalize wr.drew = w1 at S ⊢
                have hc := S.cells; simp only [Cells, cellsC, Im, Row, El, RTH, TreeH, TR, AU, Nat.zero_add, Nat.reduceAdd] at hc
                go_wp2_with (first | ((first | (with_reducible refine mx_seal S ?_) | (with_reducible refine wpl_seal S ?_) | (with_reducible refine ca_seal S ?_)); clear S; (try clear hc); intro w1 S; (try simp only [List.set_cons_zero, List.set_cons_succ, List.nil_append] at S); have hc := S.cells; simp only [Cells, cellsC, Im, Row, El, RTH, TreeH, TR, AU, Nat.zero_add, Nat.reduceAdd] at hc) | (go_at_call 33; refine (same_r S 3 rfl (by omega) z y).mono ?_; rw [HSR.out]; rintro e w1 ⟨rfl, hx⟩; replace S := S.ext hx; clear hx; (try clear hc); have hc := S.cells; simp only [Cells, cellsC, Im, Row, El, RTH, TreeH, TR, AU, Nat.zero_add, Nat.reduceAdd] at hc))
                (first | refine ⟨(fun h => by cases h), ?_⟩ | skip); (first | ((first | (with_reducible refine mx_seal S ?_)); clear S; (try clear hc); intro w1 S; (try simp only [List.set_cons_zero, List.set_cons_succ, List.nil_append] at S); have hc := S.cells; simp only [Cells, cellsC, Im, Row, El, RTH, TreeH, TR, AU, Nat.zero_add, Nat.reduceAdd] at hc) | skip); (try simp only [Act.put, List.setIfInBounds_toArray, List.set_cons_succ, List.set_cons_zero])
                have hq := CellsE_of S.cells; simp only [CellsE, cellsE, Im, Row, El, RTH, TreeH, TR, AU, Nat.zero_add, Nat.reduceAdd] at hq
                refine mix_cons rfl rfl rfl ?_
                simp only [opsAt, List.getD_cons_succ, List.getD_cons_zero]
                repeat (go_big_quiet_step ((intro hC; first | rfl | (go_simp; first | done | rfl))))
                refine wpQuiet_nil ?_
                repeat (go_big_quiet_step ((intro hC; first | rfl | (go_simp; first | done | rfl))))
                refine wpQuiet_nil ?_
                clear hq
                go_wp2_with (first | ((first | (with_reducible refine mx_seal S ?_) | (with_reducible refine wpl_seal S ?_) | (with_reducible refine ca_seal S ?_)); clear S; (try clear hc); intro w1 S; (try simp only [List.set_cons_zero, List.set_cons_succ, List.nil_append] at S); have hc := S.cells; simp only [Cells, cellsC, Im, Row, El, RTH, TreeH, TR, AU, Nat.zero_add, Nat.reduceAdd] at hc))
                refine ⟨fun _ => Ext.refl _, ?_⟩
                refine mix_cons rfl rfl rfl ?_
                simp only [opsAt, List.getD_cons_succ, List.getD_cons_zero]
                repeat (go_big_quiet_step ((intro hC; first | rfl | (go_simp; first | done | rfl))))
                refine wpQuiet_nil ?_
                repeat (go_big_quiet_step ((intro hC; first | rfl | (go_simp; first | done | rfl))))
                refine wpQuiet_nil ?_
                go_wp2_with (first | ((first | (with_reducible refine mx_seal S ?_) | (with_reducible refine wpl_seal S ?_) | (with_reducible refine ca_seal S ?_)); clear S; (try clear hc); intro w1 S; (try simp only [List.set_cons_zero, List.set_cons_succ, List.nil_append] at S); have hc := S.cells; simp only [Cells, cellsC, Im, Row, El, RTH, TreeH, TR, AU, Nat.zero_add, Nat.reduceAdd] at hc))
                (first | refine ⟨(fun h => by cases h), ?_⟩ | skip); (first | ((first | (with_reducible refine mx_seal S ?_)); clear S; (try clear hc); intro w1 S; (try simp only [List.set_cons_zero, List.set_cons_succ, List.nil_append] at S); have hc := S.cells; simp only [Cells, cellsC, Im, Row, El, RTH, TreeH, TR, AU, Nat.zero_add, Nat.reduceAdd] at hc) | skip); (try simp only [Act.put, List.setIfInBounds_toArray, List.set_cons_succ, List.set_cons_zero])
                refine mix_cons rfl rfl rfl ?_
                simp only [opsAt, List.getD_cons_succ, List.getD_cons_zero]
                repeat (go_big_quiet_step ((intro hC; first | rfl | (go_simp; first | done | rfl))))
                refine wpQuiet_nil ?_
                repeat (go_big_quiet_step ((intro hC; first | rfl | (go_simp; first | done | rfl))))
                refine wpQuiet_nil ?_
                go_wp2_with (first | ((first | (with_reducible refine mx_seal S ?_) | (with_reducible refine wpl_seal S ?_) | (with_reducible refine ca_seal S ?_)); clear S; (try clear hc); intro w1 S; (try simp only [List.set_cons_zero, List.set_cons_succ, List.nil_append] at S); have hc := S.cells; simp only [Cells, cellsC, Im, Row, El, RTH, TreeH, TR, AU, Nat.zero_add, Nat.reduceAdd] at hc))
                (first | refine ⟨(fun h => by cases h), ?_⟩ | skip); (first | ((first | (with_reducible refine mx_seal S ?_)); clear S; (try clear hc); intro w1 S; (try simp only [List.set_cons_zero, List.set_cons_succ, List.nil_append] at S); have hc := S.cells; simp only [Cells, cellsC, Im, Row, El, RTH, TreeH, TR, AU, Nat.zero_add, Nat.reduceAdd] at hc) | skip); (try simp only [Act.put, List.setIfInBounds_toArray, List.set_cons_succ, List.set_cons_zero])
                refine mix_last rfl ?_
                simp only [opsAt, List.getD_cons_succ, List.getD_cons_zero]
                repeat (go_big_quiet_step ((intro hC; first | rfl | (go_simp; first | done | rfl))))
                refine wpQuiet_nil ?_
                simp only [calmQ]
                have hc := S.cells; simp only [Cells, cellsC, Im, Row, El, RTH, TreeH, TR, AU, Nat.zero_add, Nat.reduceAdd] at hc
                go_wp2_with (first | ((first | (with_reducible refine wpl_seal S ?_) | (with_reducible refine cw_seal S ?_) | (with_reducible refine bp_seal S ?_) | (with_reducible refine ca_seal S ?_)); clear S; (try clear hc); intro w1 S; (try simp only [List.set_cons_zero, List.set_cons_succ, List.nil_append] at S); have hc := S.cells; simp only [Cells, cellsC, Im, Row, El, RTH, TreeH, TR, AU, Nat.zero_add, Nat.reduceAdd] at hc))
                go_roundw
                case rel => exact ⟨_, rfl, by omega, by omega, _, ⟨by first | exact S | trivial⟩⟩
                case measure => simp [intOf] <;> omega
            · skip
              have HSR : As (sameR L W z y = false) := ⟨by unfold sameR; rw [Bool.eq_false_iff]; intro h; simp only [Bool.and_eq_true, decide_eq_true_eq] at h; omega⟩
              go_wp2_with (first | ((first | (with_reducible refine wpl_seal S ?_) | (with_reducible refine cw_seal S ?_) | (with_reducible refine bp_seal S ?_) | (with_reducible refine ca_seal S ?_)); clear S; (try clear hc); intro w1 S; (try simp only [List.set_cons_zero, List.set_cons_succ, List.nil_append] at S); have hc := S.cells; simp only [Cells, cellsC, Im, Row, El, RTH, TreeH, TR, AU, Nat.zero_add, Nat.reduceAdd] at hc))
              have hq := S.cellsE; simp only [CellsE, cellsE, Im, Row, El, RTH, TreeH, TR, AU, Nat.zero_add, Nat.reduceAdd] at hq
              refine wp_region_ext [⟨[0, 1, 2], [4], 3, false⟩, ⟨[5, 6, 7, 9], [10], 8, true⟩, ⟨[], [], 11, false⟩, ⟨[], [], 12, false⟩] [13, 14] (by kernel_rfl) (by kernel_rfl) ?_
              refine mix_cons rfl rfl rfl ?_
              simp only [opsAt, List.getD_cons_succ, List.getD_cons_zero]
              repeat (go_big_quiet_step ((intro hC; first | rfl | (go_simp; first | done | rfl))))
              refine wpQuiet_nil ?_
              repeat (go_big_quiet_step ((intro hC; first | rfl | (go_simp; first | done | rfl))))
              refine wpQuiet_nil ?_
              clear hq hc
              replace S := S.drew
              generalize wr.drew = w1 at S ⊢
              have hc := S.cells; simp only [Cells, cellsC, Im, Row, El, RTH, TreeH, TR, AU, Nat.zero_add, Nat.reduceAdd] at hc
              go_wp2_with (first | ((first | (with_reducible refine mx_seal S ?_) | (with_reducible refine wpl_seal S ?_) | (with_reducible refine ca_seal S ?_)); clear S; (try clear hc); intro w1 S; (try simp only [List.set_cons_zero, List.set_cons_succ, List.nil_append] at S); have hc := S.cells; simp only [Cells, cellsC, Im, Row, El, RTH, TreeH, TR, AU, Nat.zero_add, Nat.reduceAdd] at hc) | (go_at_call 33; refine (same_r S 3 rfl (by omega) z y).mono ?_; rw [HSR.out]; rintro e w1 ⟨rfl, hx⟩; replace S := S.ext hx; clear hx; (try clear hc); have hc := S.cells; simp only [Cells, cellsC, Im, Row, El, RTH, TreeH, TR, AU, Nat.zero_add, Nat.reduceAdd] at hc))
              (first | refine ⟨(fun h => by cases h), ?_⟩ | skip); (first | ((first | (with_reducible refine mx_seal S ?_)); clear S; (try clear hc); intro w1 S; (try simp only [List.set_cons_zero, List.set_cons_succ, List.nil_append] at S); have hc := S.cells; simp only [Cells, cellsC, Im, Row, El, RTH, TreeH, TR, AU, Nat.zero_add, Nat.reduceAdd] at hc) | skip); (try simp only [Act.put, List.setIfInBounds_toArray, List.set_cons_succ, List.set_cons_zero])
              have hq := CellsE_of S.cells; simp only [CellsE, cellsE, Im, Row, El, RTH, TreeH, TR, AU, Nat.zero_add, Nat.reduceAdd] at hq
              refine mix_cons rfl rfl rfl ?_
              simp only [opsAt, List.getD_cons_succ, List.getD_cons_zero]
              repeat (go_big_quiet_step ((intro hC; first | rfl | (go_simp; first | done | rfl))))
              refine wpQuiet_nil ?_
              repeat (go_big_quiet_step ((intro hC; first | rfl | (go_simp; first | done | rfl))))
              refine wpQuiet_nil ?_
              clear hq
              go_wp2_with (first | ((first | (with_reducible refine mx_seal S ?_) | (with_reducible refine wpl_seal S ?_) | (with_reducible refine ca_seal S ?_)); clear S; (try clear hc); intro w1 S; (try simp only [List.set_cons_zero, List.set_cons_succ, List.nil_append] at S); have hc := S.cells; simp only [Cells, cellsC, Im, Row, El, RTH, TreeH, TR, AU, Nat.zero_add, Nat.reduceAdd] at hc))
              refine ⟨fun _ => Ext.refl _, ?_⟩
              refine mix_cons rfl rfl rfl ?_
              simp only [opsAt, List.getD_cons_succ, List.getD_cons_zero]
              repeat (go_big_quiet_step ((intro hC; first | rfl | (go_simp; first | done | rfl))))
              refine wpQuiet_nil ?_
              repeat (go_big_quiet_step ((intro hC; first | rfl | (go_simp; first | done | rfl))))
              refine wpQuiet_nil ?_
              go_wp2_with (first | ((first | (with_reducible refine mx_seal S ?_) | (with_reducible refine wpl_seal S ?_) | (with_reducible refine ca_seal S ?_)); clear S; (try clear hc); intro w1 S; (try simp only [List.set_cons_zero, List.set_cons_succ, List.nil_append] at S); have hc := S.cells; simp only [Cells, cellsC, Im, Row, El, RTH, TreeH, TR, AU, Nat.zero_add, Nat.reduceAdd] at hc))
              (first | refine ⟨(fun h => by cases h), ?_⟩ | skip); (first | ((first | (with_reducible refine mx_seal S ?_)); clear S; (try clear hc); intro w1 S; (try simp only [List.set_cons_zero, List.set_cons_succ, List.nil_append] at S); have hc := S.cells; simp only [Cells, cellsC, Im, Row, El, RTH, TreeH, TR, AU, Nat.zero_add, Nat.reduceAdd] at hc) | skip); (try simp only [Act.put, List.setIfInBounds_toArray, List.set_cons_succ, List.set_cons_zero])
              refine mix_cons rfl rfl rfl ?_
              simp only [opsAt, List.getD_cons_succ, List.getD_cons_zero]
              repeat (go_big_quiet_step ((intro hC; first | rfl | (go_simp; first | done | rfl))))
              refine wpQuiet_nil ?_
              repeat (go_big_quiet_step ((intro hC; first | rfl | (go_simp; first | done | rfl))))
              refine wpQuiet_nil ?_
              go_wp2_with (first | ((first | (with_reducible refine mx_seal S ?_) | (with_reducible refine wpl_seal S ?_) | (with_reducible refine ca_seal S ?_)); clear S; (try clear hc); intro w1 S; (try simp only [List.set_cons_zero, List.set_cons_succ, List.nil_append] at S); have hc := S.cells; simp only [Cells, cellsC, Im, Row, El, RTH, TreeH, TR, AU, Nat.zero_add, Nat.reduceAdd] at hc))
              (first | refine ⟨(fun h => by cases h), ?_⟩ | skip); (first | ((first | (with_reducible refine mx_seal S ?_)); clear S; (try clear hc); intro w1 S; (try simp only [List.set_cons_zero, List.set_cons_succ, List.nil_append] at S); have hc := S.cells; simp only [Cells, cellsC, Im, Row, El, RTH, TreeH, TR, AU, Nat.zero_add, Nat.reduceAdd] at hc) | skip); (try simp only [Act.put, List.setIfInBounds_toArray, List.set_cons_succ, List.set_cons_zero])
              refine mix_last rfl ?_
              simp only [opsAt, List.getD_cons_succ, List.getD_cons_zero]
              repeat (go_big_quiet_step ((intro hC; first | rfl | (go_simp; first | done | rfl))))
              refine wpQuiet_nil ?_
              simp only [calmQ]
              have hc := S.cells; simp only [Cells, cellsC, Im, Row, El, RTH, TreeH, TR, AU, Nat.zero_add, Nat.reduceAdd] at hc
              go_wp2_with (first | ((first | (with_reducible refine wpl_seal S ?_) | (with_reducible refine cw_seal S ?_) | (with_reducible refine bp_seal S ?_) | (with_reducible refine ca_seal S ?_)); clear S; (try clear hc); intro w1 S; (try simp only [List.set_cons_zero, List.set_cons_succ, List.nil_append] at S); have hc := S.cells; simp only [Cells, cellsC, Im, Row, El, RTH, TreeH, TR, AU, Nat.zero_add, Nat.reduceAdd] at hc))
              go_roundw
              case rel => exact ⟨_, rfl, by omega, by omega, _, ⟨by first | exact S | trivial⟩⟩
              case measure => simp [intOf] <;> omega
          · skip
            have HSR : As (sameR L W z y = false) := ⟨by unfold sameR; rw [Bool.eq_false_iff]; intro h; simp only [Bool.and_eq_true, decide_eq_true_eq] at h; omega⟩
            go_wp2_with (first | ((first | (with_reducible refine wpl_seal S ?_) | (with_reducible refine cw_seal S ?_) | (with_reducible refine bp_seal S ?_) | (with_reducible refine ca_seal S ?_)); clear S; (try clear hc); intro w1 S; (try simp only [List.set_cons_zero, List.set_cons_succ, List.nil_append] at S); have hc := S.cells; simp only [Cells, cellsC, Im, Row, El, RTH, TreeH, TR, AU, Nat.zero_add, Nat.reduceAdd] at hc))
            have hq := S.cellsE; simp only [CellsE, cellsE, Im, Row, El, RTH, TreeH, TR, AU, Nat.zero_add, Nat.reduceAdd] at hq
            refine wp_region_ext [⟨[0, 1, 2], [4], 3, false⟩, ⟨[5, 6, 7, 9], [10], 8, true⟩, ⟨[], [], 11, false⟩, ⟨[], [], 12, false⟩] [13, 14] (by kernel_rfl) (by kernel_rfl) ?_
            refine mix_cons rfl rfl rfl ?_
            simp only [opsAt, List.getD_cons_succ, List.getD_cons_zero]
            repeat (go_big_quiet_step ((intro hC; first | rfl | (go_simp; first | done | rfl))))
            refine wpQuiet_nil ?_
            repeat (go_big_quiet_step ((intro hC; first | rfl | (go_simp; first | done | rfl))))
            refine wpQuiet_nil ?_
            clear hq hc
            replace S := S.drew
            generalize wr.drew = w1 at S ⊢
            have hc := S.cells; simp only [Cells, cellsC, Im, Row, El, RTH, TreeH, TR, AU, Nat.zero_add, Nat.reduceAdd] at hc
            go_wp2_with (first | ((first | (with_reducible refine mx_seal S ?_) | (with_reducible refine wpl_seal S ?_) | (with_reducible refine ca_seal S ?_)); clear S; (try clear hc); intro w1 S; (try simp only [List.set_cons_zero, List.set_cons_succ, List.nil_append] at S); have hc := S.cells; simp only [Cells, cellsC, Im, Row, El, RTH, TreeH, TR, AU, Nat.zero_add, Nat.reduceAdd] at hc) | (go_at_call 33; refine (same_r S 3 rfl (by omega) z y).mono ?_; rw [HSR.out]; rintro e w1 ⟨rfl, hx⟩; replace S := S.ext hx; clear hx; (try clear hc); have hc := S.cells; simp only [Cells, cellsC, Im, Row, El, RTH, TreeH, TR, AU, Nat.zero_add, Nat.reduceAdd] at hc))
            (first | refine ⟨(fun h => by cases h), ?_⟩ | skip); (first | ((first | (with_reducible refine mx_seal S ?_)); clear S; (try clear hc); intro w1 S; (try simp only [List.set_cons_zero, List.set_cons_succ, List.nil_append] at S); have hc := S.cells; simp only [Cells, cellsC, Im, Row, El, RTH, TreeH, TR, AU, Nat.zero_add, Nat.reduceAdd] at hc) | skip); (try simp only [Act.put, List.setIfInBounds_toArray, List.set_cons_succ, List.set_cons_zero])
            have hq := CellsE_of S.cells; simp only [CellsE, cellsE, Im, Row, El, RTH, TreeH, TR, AU, Nat.zero_add, Nat.reduceAdd] at hq
            refine mix_cons rfl rfl rfl ?_
            simp only [opsAt, List.getD_cons_succ, List.getD_cons_zero]
            repeat (go_big_quiet_step ((intro hC; first | rfl | (go_simp; first | done | rfl))))
            refine wpQuiet_nil ?_
            repeat (go_big_quiet_step ((intro hC; first | rfl | (go_simp; first | done | rfl))))
            refine wpQuiet_nil ?_
            clear hq
            go_wp2_with (first | ((first | (with_reducible refine mx_seal S ?_) | (with_reducible refine wpl_seal S ?_) | (with_reducible refine ca_seal S ?_)); clear S; (try clear hc); intro w1 S; (try simp only [List.set_cons_zero, List.set_cons_succ, List.nil_append] at S); have hc := S.cells; simp only [Cells, cellsC, Im, Row, El, RTH, TreeH, TR, AU, Nat.zero_add, Nat.reduceAdd] at hc))
            refine ⟨fun _ => Ext.refl _, ?_⟩
            refine mix_cons rfl rfl rfl ?_
            simp only [opsAt, List.getD_cons_succ, List.getD_cons_zero]
            repeat (go_big_quiet_step ((intro hC; first | rfl | (go_simp; first | done | rfl))))
            refine wpQuiet_nil ?_
            repeat (go_big_quiet_step ((intro hC; first | rfl | (go_simp; first | done | rfl))))
            refine wpQuiet_nil ?_
            go_wp2_with (first | ((first | (with_reducible refine mx_seal S ?_) | (with_reducible refine wpl_seal S ?_) | (with_reducible refine ca_seal S ?_)); clear S; (try clear hc); intro w1 S; (try simp only [List.set_cons_zero, List.set_cons_succ, List.nil_append] at S); have hc := S.cells; simp only [Cells, cellsC, Im, Row, El, RTH, TreeH, TR, AU, Nat.zero_add, Nat.reduceAdd] at hc))
            (first | refine ⟨(fun h => by cases h), ?_⟩ | skip); (first | ((first | (with_reducible refine mx_seal S ?_)); clear S; (try clear hc); intro w1 S; (try simp only [List.set_cons_zero, List.set_cons_succ, List.nil_append] at S); have hc := S.cells; simp only [Cells, cellsC, Im, Row, El, RTH, TreeH, TR, AU, Nat.zero_add, Nat.reduceAdd] at hc) | skip); (try simp only [Act.put, List.setIfInBounds_toArray, List.set_cons_succ, List.set_cons_zero])
            refine mix_cons rfl rfl rfl ?_
            simp only [opsAt, List.getD_cons_succ, List.getD_cons_zero]
            repeat (go_big_quiet_step ((intro hC; first | rfl | (go_simp; first | done | rfl))))
            refine wpQuiet_nil ?_
            repeat (go_big_quiet_step ((intro hC; first | rfl | (go_simp; first | done | rfl))))
            refine wpQuiet_nil ?_
            go_wp2_with (first | ((first | (with_reducible refine mx_seal S ?_) | (with_reducible refine wpl_seal S ?_) | (with_reducible refine ca_seal S ?_)); clear S; (try clear hc); intro w1 S; (try simp only [List.set_cons_zero, List.set_cons_succ, List.nil_append] at S); have hc := S.cells; simp only [Cells, cellsC, Im, Row, El, RTH, TreeH, TR, AU, Nat.zero_add, Nat.reduceAdd] at hc))
            (first | refine ⟨(fun h => by cases h), ?_⟩ | skip); (first | ((first | (with_reducible refine mx_seal S ?_)); clear S; (try clear hc); intro w1 S; (try simp only [List.set_cons_zero, List.set_cons_succ, List.nil_append] at S); have hc := S.cells; simp only [Cells, cellsC, Im, Row, El, RTH, TreeH, TR, AU, Nat.zero_add, Nat.reduceAdd] at hc) | skip); (try simp only [Act.put, List.setIfInBounds_toArray, List.set_cons_succ, List.set_cons_zero])
            refine mix_last rfl ?_
            simp only [opsAt, List.getD_cons_succ, List.getD_cons_zero]
            repeat (go_big_quiet_step ((intro hC; first | rfl | (go_simp; first | done | rfl))))
            refine wpQuiet_nil ?_
            simp only [calmQ]
            have hc := S.cells; simp only [Cells, cellsC, Im, Row, El, RTH, TreeH, TR, AU, Nat.zero_add, Nat.reduceAdd] at hc
            go_wp2_with (first | ((first | (with_reducible refine wpl_seal S ?_) | (with_reducible refine cw_seal S ?_) | (with_reducible refine bp_seal S ?_) | (with_reducible refine ca_seal S ?_)); clear S; (try clear hc); intro w1 S; (try simp only [List.set_cons_zero, List.set_cons_succ, List.nil_append] at S); have hc := S.cells; simp only [Cells, cellsC, Im, Row, El, RTH, TreeH, TR, AU, Nat.zero_add, Nat.reduceAdd] at hc))
            go_roundw
            case rel => exact ⟨_, rfl, by omega, by omega, _, ⟨by first | exact S | trivial⟩⟩
            case measure => simp [intOf] <;> omega
        · have hyl' : decide (y ≤ (L.length : Int)) = false := by simpa using hyl
          go_wp2_with (first | ((first | (with_reducible refine wpl_seal S ?_) | (with_reducible refine cw_seal S ?_) | (with_reducible refine bp_seal S ?_) | (with_reducible refine ca_seal S ?_)); clear S; (try clear hc); intro w1 S; (try simp only [List.set_cons_zero, List.set_cons_succ, List.nil_append] at S); have hc := S.cells; simp only [Cells, cellsC, Im, Row, El, RTH, TreeH, TR, AU, Nat.zero_add, Nat.reduceAdd] at hc))
          go_roundw
          case rel => exact ⟨_, rfl, by omega, by omega, _, ⟨by first | exact S | trivial⟩⟩
          case measure => simp [intOf] <;> omega
    · have hzl' : decide (z ≤ (L.length : Int)) = false := by simpa using hzl
      by_cases g1 : 0 ≤ n
      · by_cases g2 : 0 ≤ m
        · by_cases g3 : n < (L.length : Int)
          · by_cases g4 : m < (L.length : Int)
            · skip
              go_wp2_with (first | ((first | (with_reducible refine wpl_seal S ?_) | (with_reducible refine cw_seal S ?_) | (with_reducible refine bp_seal S ?_) | (with_reducible refine ca_seal S ?_)); clear S; (try clear hc); intro w1 S; (try simp only [List.set_cons_zero, List.set_cons_succ, List.nil_append] at S); have hc := S.cells; simp only [Cells, cellsC, Im, Row, El, RTH, TreeH, TR, AU, Nat.zero_add, Nat.reduceAdd] at hc) | (go_at_call 12; refine (lives13_c _ _ S.bd).mono ?_; rintro e w1 ⟨rfl, hx⟩; replace S := S.ext hx; clear hx; (try clear hc); have hc := S.cells; simp only [Cells, cellsC, Im, Row, El, RTH, TreeH, TR, AU, Nat.zero_add, Nat.reduceAdd] at hc))
              go_ret
              exact ⟨rfl, S.out⟩
            · skip
              have HSR : As (sameR L W n m = false) := ⟨by unfold sameR; rw [Bool.eq_false_iff]; intro h; simp only [Bool.and_eq_true, decide_eq_true_eq] at h; omega⟩
              go_wp2_with (first | ((first | (with_reducible refine wpl_seal S ?_) | (with_reducible refine cw_seal S ?_) | (with_reducible refine bp_seal S ?_) | (with_reducible refine ca_seal S ?_)); clear S; (try clear hc); intro w1 S; (try simp only [List.set_cons_zero, List.set_cons_succ, List.nil_append] at S); have hc := S.cells; simp only [Cells, cellsC, Im, Row, El, RTH, TreeH, TR, AU, Nat.zero_add, Nat.reduceAdd] at hc) | (go_at_call 33; refine (same_r S 3 rfl (by omega) n m).mono ?_; rw [HSR.out]; rintro e w1 ⟨rfl, hx⟩; replace S := S.ext hx; clear hx; (try clear hc); have hc := S.cells; simp only [Cells, cellsC, Im, Row, El, RTH, TreeH, TR, AU, Nat.zero_add, Nat.reduceAdd] at hc) | (go_at_call 12; refine (lives13_c _ _ S.bd).mono ?_; rintro e w1 ⟨rfl, hx⟩; replace S := S.ext hx; clear hx; (try clear hc); have hc := S.cells; simp only [Cells, cellsC, Im, Row, El, RTH, TreeH, TR, AU, Nat.zero_add, Nat.reduceAdd] at hc))
              go_ret
              exact ⟨rfl, S.out⟩
          · skip
            have HSR : As (sameR L W n m = false) := ⟨by unfold sameR; rw [Bool.eq_false_iff]; intro h; simp only [Bool.and_eq_true, decide_eq_true_eq] at h; omega⟩
            go_wp2_with (first | ((first | (with_reducible refine wpl_seal S ?_) | (with_reducible refine cw_seal S ?_) | (with_reducible refine bp_seal S ?_) | (with_reducible refine ca_seal S ?_)); clear S; (try clear hc); intro w1 S; (try simp only [List.set_cons_zero, List.set_cons_succ, List.nil_append] at S); have hc := S.cells; simp only [Cells, cellsC, Im, Row, El, RTH, TreeH, TR, AU, Nat.zero_add, Nat.reduceAdd] at hc) | (go_at_call 33; refine (same_r S 3 rfl (by omega) n m).mono ?_; rw [HSR.out]; rintro e w1 ⟨rfl, hx⟩; replace S := S.ext hx; clear hx; (try clear hc); have hc := S.cells; simp only [Cells, cellsC, Im, Row, El, RTH, TreeH, TR, AU, Nat.zero_add, Nat.reduceAdd] at hc) | (go_at_call 12; refine (lives13_c _ _ S.bd).mono ?_; rintro e w1 ⟨rfl, hx⟩; replace S := S.ext hx; clear hx; (try clear hc); have hc := S.cells; simp only [Cells, cellsC, Im, Row, El, RTH, TreeH, TR, AU, Nat.zero_add, Nat.reduceAdd] at hc))
            go_ret
            exact ⟨rfl, S.out⟩
        · skip
          have HSR : As (sameR L W n m = false) := ⟨by unfold sameR; rw [Bool.eq_false_iff]; intro h; simp only [Bool.and_eq_true, decide_eq_true_eq] at h; omega⟩
          go_wp2_with (first | ((first | (with_reducible refine wpl_seal S ?_) | (with_reducible refine cw_seal S ?_) | (with_reducible refine bp_seal S ?_) | (with_reducible refine ca_seal S ?_)); clear S; (try clear hc); intro w1 S; (try simp only [List.set_cons_zero, List.set_cons_succ, List.nil_append] at S); have hc := S.cells; simp only [Cells, cellsC, Im, Row, El, RTH, TreeH, TR, AU, Nat.zero_add, Nat.reduceAdd] at hc) | (go_at_call 33; refine (same_r S 3 rfl (by omega) n m).mono ?_; rw [HSR.out]; rintro e w1 ⟨rfl, hx⟩; replace S := S.ext hx; clear hx; (try clear hc); have hc := S.cells; simp only [Cells, cellsC, Im, Row, El, RTH, TreeH, TR, AU, Nat.zero_add, Nat.reduceAdd] at hc) | (go_at_call 12; refine (lives13_c _ _ S.bd).mono ?_; rintro e w1 ⟨rfl, hx⟩; replace S := S.ext hx; clear hx; (try clear hc); have hc := S.cells; simp only [Cells, cellsC, Im, Row, El, RTH, TreeH, TR, AU, Nat.zero_add, Nat.reduceAdd] at hc))
          go_ret
          exact ⟨rfl, S.out⟩
      · skip
        have HSR : As (sameR L W n m = false) := ⟨by unfold sameR; rw [Bool.eq_false_iff]; intro h; simp only [Bool.and_eq_true, decide_eq_true_eq] at h; omega⟩
        go_wp2_with (first | ((first | (with_reducible refine wpl_seal S ?_) | (with_reducible refine cw_seal S ?_) | (with_reducible refine bp_seal S ?_) | (with_reducible refine ca_seal S ?_)); clear S; (try clear hc); intro w1 S; (try simp only [List.set_cons_zero, List.set_cons_succ, List.nil_append] at S); have hc := S.cells; simp only [Cells, cellsC, Im, Row, El, RTH, TreeH, TR, AU, Nat.zero_add, Nat.reduceAdd] at hc) | (go_at_call 33; refine (same_r S 3 rfl (by omega) n m).mono ?_; rw [HSR.out]; rintro e w1 ⟨rfl, hx⟩; replace S := S.ext hx; clear hx; (try clear hc); have hc := S.cells; simp only [Cells, cellsC, Im, Row, El, RTH, TreeH, TR, AU, Nat.zero_add, Nat.reduceAdd] at hc) | (go_at_call 12; refine (lives13_c _ _ S.bd).mono ?_; rintro e w1 ⟨rfl, hx⟩; replace S := S.ext hx; clear hx; (try clear hc); have hc := S.cells; simp only [Cells, cellsC, Im, Row, El, RTH, TreeH, TR, AU, Nat.zero_add, Nat.reduceAdd] at hc))
        go_ret
        exact ⟨rfl, S.out⟩
end Go.Proofs.Ytiemglijfdaliaa
