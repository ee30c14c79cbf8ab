/- AutomatonDepths: the law's walk. -/
import Derived.Test.YtiemglijfdaliaaLiv13
namespace Go.Proofs.Ytiemglijfdaliaa
open Go.RowKit X
set_option maxHeartbeats 4000000
set_option maxRecDepth 8000
set_option linter.unusedSimpArgs false
set_option linter.unusedVariables false
section
variable {L W : List (List Int)}
theorem ends_len (h : GoodR L W) (hw : NeW W) {n q : Nat} (hn : n < L.length) (hq : linkR L W n = q) : (endsR L W n).length = (wsR L W n).length + (endsR L W q).length := by
  rw [← gathN_sorted h hw n, ← gathN_sorted h hw q, sortI_len, sortI_len, gathN_step h hn, List.length_append, hq]
theorem ends_none (h : GoodR L W) (hw : NeW W) {n : Nat} (hn : n < L.length) (hq : linkR L W n = -1) : endsR L W n = wsR L W n := by
  have h1 : endsR L W n = endsL W (pa L n) := by unfold endsR; rw [if_pos (by omega), Int.toNat_natCast]
  refine srt_eq _ _ (by rw [h1]; exact endsL_srt) wsR_srt fun i => ?_
  rw [h1, endsL_link h hw hn]
  constructor
  · rintro (hi | ⟨j, e, _⟩)
    · exact hi
    · omega
  · exact .inl
theorem link_le (h : GoodR L W) {n j q : Nat} (h0 : 0 < n) (hn : n < L.length) (hj : fallR L n = j) (hq : linkR L W n = q) : (pa L q).length ≤ (pa L j).length := by
  obtain ⟨j', e, hd⟩ := fallR_spec h h0 hn
  obtain rfl : j' = j := by omega
  rcases (linkR_spec h _ n hn (Nat.le_refl _)).cases with hc | ⟨i, i1, i2, i3, i4, i5, _⟩
  · omega
  · obtain rfl : i = q := by omega
    exact hd.max _ (h.memI i3) i4 (by omega)
end
theorem mdepths_c (raw : Bool) (ls : List (List Int)) (A : Option Addr) (c : Nat) (w : World) (I : Fp) (hI : ∀ b, I b → b < w.heap.size) (hx : Sl kW w I A ls) :
    Calls Try.prog 6 #[.slice A ls.length c, .bool raw] w fun e w' => e = .returned (.bool true) ∧ Ext w w' := by
  have S := SH.start w I hI
  have HXL := As.mk hx
  clear hx
  have hc := S.cells; simp only [Cells, cellsC, Im, Row, El, RTH, TreeH, TR, AU, Nat.zero_add, Nat.reduceAdd] at hc
  go_enter Try.func6, Try.ntmps6
  go_wp2_with (first | ((first | (with_reducible refine wpl_seal S ?_) | (with_reducible refine cw_seal S ?_) | (with_reducible refine bp_seal S ?_) | (with_reducible refine ca_seal S ?_)); clear S; (try clear hc); intro w1 S; (try simp only [List.set_cons_zero, List.set_cons_succ, List.nil_append] at S); have hc := S.cells; simp only [Cells, cellsC, Im, Row, El, RTH, TreeH, TR, AU, Nat.zero_add, Nat.reduceAdd] at hc) | (go_at_call 9; refine (begin13_c raw ls A c _ I S.bd (HXL.out.below S.out)).mono ?_; rintro e w1 ⟨a, v, L, W, J, rfl, S2, hbg, hL, hW, hL5⟩; obtain ⟨J2, S3, -, -⟩ := S.comp S2; have HBG := As.mk hbg; have HL5 := As.mk hL5; clear S hc S2 hbg hL5; have S := S3; clear S3; simp only [List.cons_append, List.nil_append, List.set_cons_zero] at S; obtain ⟨a1, d1, a2, d2, rfl, hd1, hd2, hs1, hs2⟩ := S.rt 1 rfl; replace S := (S.know (h := Im kW a2 W) hs2).know (h := Im kW a1 L) hs1; clear hs1 hs2; have hc := S.cells; simp only [Cells, cellsC, Im, Row, El, RTH, TreeH, TR, AU, Nat.zero_add, Nat.reduceAdd] at hc))
  have HG := As.mk (S.auG 3 rfl).1
  have HNW := As.mk (S.auG 3 rfl).2
  have HLs : As (ShortW L) := ⟨fun x hx => by have := HL5.out x hx; omega⟩
  have HNE : As (∀ i, 0 < i → i < L.length → pa L i ≠ []) := ⟨fun i hi hl => HG.out.ne hi hl⟩
  have HWs : As (ShortW W) := ⟨fun x hx => by have := ownN_five raw ls _ (begT_ne2 HBG.out _ hx).2; omega⟩
  obtain ⟨gT, egT⟩ := S.name 0 rfl; rw [← egT] at S ⊢; clear egT
  have hpos := HG.out.pos
  have S1 := S
  clear S hc
  go_loopw [7] (fun i w' => ∃ (z : Nat), i = .int .i64 z ∧ 1 ≤ z ∧ z ≤ L.length ∧ ∃ I', As (SH No I w [Cel gT 27 [.slice a1 L.length d1, .slice a2 W.length d2], Im kW a1 L, Im kW a2 W, AU a L W] w' I')) (fun i _ => L.length - (intOf i).toNat)
  case atStart => exact ⟨1, rfl, by omega, by omega, _, ⟨S1.sel [0, 1, 2, 3] (by decide) rfl (by simp)⟩⟩
  case round =>
    clear S1
    obtain ⟨z, rfl, hz1, hzl, I', ⟨S⟩⟩ := hrel
    have hc := S.cells; simp only [Cells, cellsC, Im, Row, El, RTH, TreeH, TR, AU, Nat.zero_add, Nat.reduceAdd] at hc
    by_cases hz : z < L.length
    · have hz' : decide ((z : Int) < (L.length : Int)) = true := by simpa using hz
      obtain ⟨j, hj, hj1, hj2⟩ := fallR_lt HG.out (n := z) (by omega) hz
      have hj9 : (j : Int) < (L.length : Int) := by omega
      have hj0 : ¬ (j : Int) < 0 := by omega
      obtain ⟨bL, oL, Az, cz, e1, hcz, hcz1, hsz⟩ := (S.im 1 rfl).sl_at hz
      subst e1
      obtain ⟨bL', oL', Aj, cj, e2, hcj, hcj1, hsj⟩ := (S.im 1 rfl).sl_at hj1
      cases e2
      have HLJ := As.mk (pa_eq hj1)
      have HLZ := As.mk (pa_eq hz)
      have hjz : L[j].length < L[z].length := by rw [pa_eq hj1, pa_eq hz] at hj2; exact hj2
      have HJ := As.mk hj
      have HCZ : As (∀ w2, Ext wr w2 → w2.cell? ⟨bL, oL + z, none⟩ = some (.slice Az L[z].length cz)) := ⟨fun w2 hx => hx.cell hcz⟩
      have HCJ : As (∀ w2, Ext wr w2 → w2.cell? ⟨bL, oL + j, none⟩ = some (.slice Aj L[j].length cj)) := ⟨fun w2 hx => hx.cell hcj⟩
      have hlk := linkR_lt (W := W) HG.out hz
      have HLE : As (∀ q : Nat, linkR L W z = q → (pa L q).length ≤ L[j].length) := ⟨fun q hq => by rw [← pa_eq hj1]; exact link_le HG.out (by omega) hz hj hq⟩
      generalize hlz : L[z].length = lz at hcz hjz HCZ
      generalize hlj : L[j].length = lj at hcj hjz HCJ HLE
      have hjz1 : ¬ (lj : Int) ≥ (lz : Int) := by omega
      have HL1 := As.mk hlz
      have HL2 := As.mk hlj
      clear hsz hsj hcz1 hcj1 hj hj2 hlz hlj
      go_wp2_with (first | ((first | (with_reducible refine wpl_seal S ?_) | (with_reducible refine cw_seal S ?_) | (with_reducible refine bp_seal S ?_) | (with_reducible refine ca_seal S ?_)); clear S; (try clear hc); intro w1 S; (try simp only [List.set_cons_zero, List.set_cons_succ, List.nil_append] at S); have hc := S.cells; simp only [Cells, cellsC, Im, Row, El, RTH, TreeH, TR, AU, Nat.zero_add, Nat.reduceAdd] at hc) | (go_at_call 30; refine (alen_r S 3 rfl).mono ?_; rintro e w1 ⟨rfl, rfl⟩) | (go_at_call 26; refine (fall_r S 3 rfl z).mono ?_; rw [HJ.out]; rintro e w1 ⟨rfl, rfl⟩))
      have hqz := ClE.cell (w := wr.drew) hcz
      have hqj := ClE.cell (w := wr.drew) hcj
      have hq := S.cellsE; simp only [CellsE, cellsE, Im, Row, El, RTH, TreeH, TR, AU, Nat.zero_add, Nat.reduceAdd] at hq
      refine wp_region_ext [] [0, 1, 2, 3, 4, 5, 6, 7, 8, 9, 10, 11, 12] (by kernel_rfl) (by kernel_rfl) ?_
      refine mix_last rfl ?_
      simp only [opsAt, List.getD_cons_succ, List.getD_cons_zero]
      repeat (go_big_quiet_step ((intro hC; first | rfl | (go_simp; first | done | rfl))))
      refine wpQuiet_nil ?_
      simp only [calmQ]
      clear hq hqz hqj hc
      replace S := S.drew
      replace hcz : wr.drew.cell? ⟨bL, oL + z, none⟩ = some (.slice Az lz cz) := hcz
      replace hcj : wr.drew.cell? ⟨bL, oL + j, none⟩ = some (.slice Aj lj cj) := hcj
      generalize wr.drew = w1 at S hcz hcj ⊢
      have hc := S.cells; simp only [Cells, cellsC, Im, Row, El, RTH, TreeH, TR, AU, Nat.zero_add, Nat.reduceAdd] at hc
      rcases hlk with hk | ⟨q, hk, hq0, hq1, hq2, hqw⟩
      · have HK := As.mk hk
        clear hk
        go_wp2_with (first | ((first | (with_reducible refine wpl_seal S ?_) | (with_reducible refine cw_seal S ?_) | (with_reducible refine bp_seal S ?_) | (with_reducible refine ca_seal S ?_)); clear S; (try clear hc); intro w1 S; (try simp only [List.set_cons_zero, List.set_cons_succ, List.nil_append] at S); have hc := S.cells; simp only [Cells, cellsC, Im, Row, El, RTH, TreeH, TR, AU, Nat.zero_add, Nat.reduceAdd] at hc) | (go_at_call 31; refine (link_r S 3 rfl z).mono ?_; rw [HK.out]; rintro e w1 ⟨rfl, rfl⟩))
        obtain ⟨WS, hWS⟩ : ∃ WS, wsR L W z = WS := ⟨_, rfl⟩
        have HEN : As (endsR L W z = WS) := ⟨by rw [← hWS]; exact ends_none HG.out HNW.out hz HK.out⟩
        have hwl : WS.length ≤ 1000000 := by rw [← HEN.out]; have := endsR_len (L := L) (W := W) (z := z); omega
        have HWS := As.mk hWS
        clear hWS
        clear hcz hcj
        have hq := S.cellsE; simp only [CellsE, cellsE, Im, Row, El, RTH, TreeH, TR, AU, Nat.zero_add, Nat.reduceAdd] at hq
        refine wp_region_ext [] [0, 1, 2, 3, 4, 5, 6, 7, 8, 9, 10, 11, 12, 13, 14, 15, 16] (by kernel_rfl) (by kernel_rfl) ?_
        refine mix_last rfl ?_
        simp only [opsAt, List.getD_cons_succ, List.getD_cons_zero]
        repeat (go_big_quiet_step ((intro hC; first | rfl | (go_simp; first | done | rfl))))
        refine wpQuiet_nil ?_
        simp only [calmQ]
        clear hq hc
        replace S := S.drew
        generalize w1.drew = w1 at S ⊢
        have hc := S.cells; simp only [Cells, cellsC, Im, Row, El, RTH, TreeH, TR, AU, Nat.zero_add, Nat.reduceAdd] at hc
        go_wp2_with (first | ((first | (with_reducible refine wpl_seal S ?_) | (with_reducible refine cw_seal S ?_) | (with_reducible refine bp_seal S ?_) | (with_reducible refine ca_seal S ?_)); clear S; (try clear hc); intro w1 S; (try simp only [List.set_cons_zero, List.set_cons_succ, List.nil_append] at S); have hc := S.cells; simp only [Cells, cellsC, Im, Row, El, RTH, TreeH, TR, AU, Nat.zero_add, Nat.reduceAdd] at hc))
        have hq := S.cellsE; simp only [CellsE, cellsE, Im, Row, El, RTH, TreeH, TR, AU, Nat.zero_add, Nat.reduceAdd] at hq
        refine wp_region_ext [⟨[0, 1, 2, 3, 4, 7], [8, 11, 12], 5, true⟩, ⟨[6], [], 9, true⟩, ⟨[10], [], 13, true⟩] [14, 15, 16, 17] (by kernel_rfl) (by kernel_rfl) ?_
        refine mix_cons rfl rfl rfl ?_
        simp only [opsAt, List.getD_cons_succ, List.getD_cons_zero]
        repeat (go_big_quiet_step ((intro hC; first | rfl | (go_simp; first | done | rfl))))
        refine wpQuiet_nil ?_
        repeat (go_big_quiet_step ((intro hC; first | rfl | (go_simp; first | done | rfl))))
        refine wpQuiet_nil ?_
        clear hq hc
        replace S := S.drew
        generalize w1.drew = w1 at S ⊢
        have hc := S.cells; simp only [Cells, cellsC, Im, Row, El, RTH, TreeH, TR, AU, Nat.zero_add, Nat.reduceAdd] at hc
        go_wp2_with (first | ((first | (with_reducible refine mx_seal S ?_) | (with_reducible refine wpl_seal S ?_) | (with_reducible refine ca_seal S ?_)); clear S; (try clear hc); intro w1 S; (try simp only [List.set_cons_zero, List.set_cons_succ, List.nil_append] at S); have hc := S.cells; simp only [Cells, cellsC, Im, Row, El, RTH, TreeH, TR, AU, Nat.zero_add, Nat.reduceAdd] at hc))
        refine ⟨fun _ => Ext.refl _, ?_⟩
        refine mix_cons rfl rfl rfl ?_
        simp only [opsAt, List.getD_cons_succ, List.getD_cons_zero]
        repeat (go_big_quiet_step ((intro hC; first | rfl | (go_simp; first | done | rfl))))
        refine wpQuiet_nil ?_
        repeat (go_big_quiet_step ((intro hC; first | rfl | (go_simp; first | done | rfl))))
        refine wpQuiet_nil ?_
        go_wp2_with (first | ((first | (with_reducible refine mx_seal S ?_) | (with_reducible refine wpl_seal S ?_) | (with_reducible refine ca_seal S ?_)); clear S; (try clear hc); intro w1 S; (try simp only [List.set_cons_zero, List.set_cons_succ, List.nil_append] at S); have hc := S.cells; simp only [Cells, cellsC, Im, Row, El, RTH, TreeH, TR, AU, Nat.zero_add, Nat.reduceAdd] at hc))
        refine ⟨fun _ => Ext.refl _, ?_⟩
        refine mix_cons rfl rfl rfl ?_
        simp only [opsAt, List.getD_cons_succ, List.getD_cons_zero]
        repeat (go_big_quiet_step ((intro hC; first | rfl | (go_simp; first | done | rfl))))
        refine wpQuiet_nil ?_
        repeat (go_big_quiet_step ((intro hC; first | rfl | (go_simp; first | done | rfl))))
        refine wpQuiet_nil ?_
        go_wp2_with (first | ((first | (with_reducible refine mx_seal S ?_) | (with_reducible refine wpl_seal S ?_) | (with_reducible refine ca_seal S ?_)); clear S; (try clear hc); intro w1 S; (try simp only [List.set_cons_zero, List.set_cons_succ, List.nil_append] at S); have hc := S.cells; simp only [Cells, cellsC, Im, Row, El, RTH, TreeH, TR, AU, Nat.zero_add, Nat.reduceAdd] at hc))
        refine ⟨fun _ => Ext.refl _, ?_⟩
        refine mix_last rfl ?_
        simp only [opsAt, List.getD_cons_succ, List.getD_cons_zero]
        repeat (go_big_quiet_step ((intro hC; first | rfl | (go_simp; first | done | rfl))))
        refine wpQuiet_nil ?_
        simp only [calmQ]
        go_wp2_with (first | ((first | (with_reducible refine wpl_seal S ?_) | (with_reducible refine cw_seal S ?_) | (with_reducible refine bp_seal S ?_) | (with_reducible refine ca_seal S ?_)); clear S; (try clear hc); intro w1 S; (try simp only [List.set_cons_zero, List.set_cons_succ, List.nil_append] at S); have hc := S.cells; simp only [Cells, cellsC, Im, Row, El, RTH, TreeH, TR, AU, Nat.zero_add, Nat.reduceAdd] at hc))
        have hq := S.cellsE; simp only [CellsE, cellsE, Im, Row, El, RTH, TreeH, TR, AU, Nat.zero_add, Nat.reduceAdd] at hq
        refine wp_region_ext [⟨[0, 1, 2, 3, 4, 6], [7], 5, true⟩, ⟨[], [], 8, false⟩, ⟨[], [], 9, false⟩] [10, 11] (by kernel_rfl) (by kernel_rfl) ?_
        refine mix_cons rfl rfl rfl ?_
        simp only [opsAt, List.getD_cons_succ, List.getD_cons_zero]
        repeat (go_big_quiet_step ((intro hC; first | rfl | (go_simp; first | done | rfl))))
        refine wpQuiet_nil ?_
        repeat (go_big_quiet_step ((intro hC; first | rfl | (go_simp; first | done | rfl))))
        refine wpQuiet_nil ?_
        clear hq hc
        replace S := S.drew
        generalize w1.drew = w1 at S ⊢
        have hc := S.cells; simp only [Cells, cellsC, Im, Row, El, RTH, TreeH, TR, AU, Nat.zero_add, Nat.reduceAdd] at hc
        go_wp2_with (first | ((first | (with_reducible refine mx_seal S ?_) | (with_reducible refine wpl_seal S ?_) | (with_reducible refine ca_seal S ?_)); clear S; (try clear hc); intro w1 S; (try simp only [List.set_cons_zero, List.set_cons_succ, List.nil_append] at S); have hc := S.cells; simp only [Cells, cellsC, Im, Row, El, RTH, TreeH, TR, AU, Nat.zero_add, Nat.reduceAdd] at hc) | (go_at_call 16; refine (ends_r S 3 rfl (by omega) z).mono ?_; rw [HEN.out]; rintro e w1 ⟨v, rfl, hu⟩; have hxe := hu.ext; obtain ⟨I1, S1, hI1⟩ := S.new hu; clear S hu hI1; (try clear hc); have S := S1; clear S1; have hc := S.cells; simp only [Cells, cellsC, Im, Row, El, RTH, TreeH, TR, AU, Nat.zero_add, Nat.reduceAdd] at hc; obtain ⟨A6, c6, I1, e1, hc6, S1, hI1⟩ := S.frow 0 rfl; subst e1; clear S hI1; have S := S1; clear S1; simp only [List.set_cons_zero, List.set_cons_succ, List.nil_append] at S; have hc := S.cells; simp only [Cells, cellsC, Im, Row, El, RTH, TreeH, TR, AU, Nat.zero_add, Nat.reduceAdd] at hc))
        refine ⟨fun _ => hxe, ?_⟩
        clear hxe
        refine mix_cons rfl rfl rfl ?_
        simp only [opsAt, List.getD_cons_succ, List.getD_cons_zero]
        repeat (go_big_quiet_step ((intro hC; first | rfl | (go_simp; first | done | rfl))))
        refine wpQuiet_nil ?_
        repeat (go_big_quiet_step ((intro hC; first | rfl | (go_simp; first | done | rfl))))
        refine wpQuiet_nil ?_
        go_wp2_with (first | ((first | (with_reducible refine mx_seal S ?_) | (with_reducible refine wpl_seal S ?_) | (with_reducible refine ca_seal S ?_)); clear S; (try clear hc); intro w1 S; (try simp only [List.set_cons_zero, List.set_cons_succ, List.nil_append] at S); have hc := S.cells; simp only [Cells, cellsC, Im, Row, El, RTH, TreeH, TR, AU, Nat.zero_add, Nat.reduceAdd] at hc) | (go_at_call 32; refine (rwords_c L W z _ _ _ S.bd ⟨_, d1, a2, d2, rfl, hd1, hd2, S.im 2 rfl, S.im 3 rfl⟩ (by omega) (by omega) HLs.out HWs.out).mono ?_; rw [HWS.out]; rintro e w1 ⟨v, rfl, hu⟩; obtain ⟨I1, S1, hI1⟩ := S.new hu; clear S hu hI1; (try clear hc); have S := S1; clear S1; have hc := S.cells; simp only [Cells, cellsC, Im, Row, El, RTH, TreeH, TR, AU, Nat.zero_add, Nat.reduceAdd] at hc; obtain ⟨A5, c5, I1, e1, hc5, S1, hI1⟩ := S.frow 0 rfl; subst e1; clear S hI1; have S := S1; clear S1; simp only [List.set_cons_zero, List.set_cons_succ, List.nil_append] at S; have hc := S.cells; simp only [Cells, cellsC, Im, Row, El, RTH, TreeH, TR, AU, Nat.zero_add, Nat.reduceAdd] at hc))
        (first | refine ⟨(fun h => by cases h), ?_⟩ | skip); (first | ((first | (with_reducible refine mx_seal S ?_)); clear S; (try clear hc); intro w1 S; (try simp only [List.set_cons_zero, List.set_cons_succ, List.nil_append] at S); have hc := S.cells; simp only [Cells, cellsC, Im, Row, El, RTH, TreeH, TR, AU, Nat.zero_add, Nat.reduceAdd] at hc) | skip); (try simp only [Act.put, List.setIfInBounds_toArray, List.set_cons_succ, List.set_cons_zero])
        refine mix_cons rfl rfl rfl ?_
        simp only [opsAt, List.getD_cons_succ, List.getD_cons_zero]
        repeat (go_big_quiet_step ((intro hC; first | rfl | (go_simp; first | done | rfl))))
        refine wpQuiet_nil ?_
        repeat (go_big_quiet_step ((intro hC; first | rfl | (go_simp; first | done | rfl))))
        refine wpQuiet_nil ?_
        go_wp2_with (first | ((first | (with_reducible refine mx_seal S ?_) | (with_reducible refine wpl_seal S ?_) | (with_reducible refine ca_seal S ?_)); clear S; (try clear hc); intro w1 S; (try simp only [List.set_cons_zero, List.set_cons_succ, List.nil_append] at S); have hc := S.cells; simp only [Cells, cellsC, Im, Row, El, RTH, TreeH, TR, AU, Nat.zero_add, Nat.reduceAdd] at hc) | (go_at_call 28; refine (sameI_e WS A6 A5 c6 c5 _ _ _ (S.im 1 rfl) (S.im 0 rfl) hwl).mono ?_; rintro e w1 ⟨rfl, hx⟩; have hx := hx.ext; replace S := S.ext hx; clear hx; (try clear hc); have hc := S.cells; simp only [Cells, cellsC, Im, Row, El, RTH, TreeH, TR, AU, Nat.zero_add, Nat.reduceAdd] at hc))
        (first | refine ⟨(fun h => by cases h), ?_⟩ | skip); (first | ((first | (with_reducible refine mx_seal S ?_)); clear S; (try clear hc); intro w1 S; (try simp only [List.set_cons_zero, List.set_cons_succ, List.nil_append] at S); have hc := S.cells; simp only [Cells, cellsC, Im, Row, El, RTH, TreeH, TR, AU, Nat.zero_add, Nat.reduceAdd] at hc) | skip); (try simp only [Act.put, List.setIfInBounds_toArray, List.set_cons_succ, List.set_cons_zero])
        refine mix_last rfl ?_
        simp only [opsAt, List.getD_cons_succ, List.getD_cons_zero]
        repeat (go_big_quiet_step ((intro hC; first | rfl | (go_simp; first | done | rfl))))
        refine wpQuiet_nil ?_
        simp only [calmQ]
        have hc := S.cells; simp only [Cells, cellsC, Im, Row, El, RTH, TreeH, TR, AU, Nat.zero_add, Nat.reduceAdd] at hc
        go_wp2_with (first | ((first | (with_reducible refine wpl_seal S ?_) | (with_reducible refine cw_seal S ?_) | (with_reducible refine bp_seal S ?_) | (with_reducible refine ca_seal S ?_)); clear S; (try clear hc); intro w1 S; (try simp only [List.set_cons_zero, List.set_cons_succ, List.nil_append] at S); have hc := S.cells; simp only [Cells, cellsC, Im, Row, El, RTH, TreeH, TR, AU, Nat.zero_add, Nat.reduceAdd] at hc))
        go_roundw
        case rel => exact ⟨z + 1, by go_num, by omega, by omega, _, ⟨(S.sel [2, 3, 4, 5] (by decide) rfl (by simp) : SH _ _ _ [_, _, _, _] _ _)⟩⟩
        case measure => simp [intOf] <;> omega
      · have HK := As.mk hk
        obtain ⟨bL', oL', Aq, cq, e3, hcq, hcq1, hsq⟩ := (S.im 1 rfl).sl_at hq1
        cases e3
        have hqle := HLE.out q hk
        rw [pa_eq hq1] at hqle
        obtain ⟨E1, hE1⟩ : ∃ E, endsR L W z = E := ⟨_, rfl⟩
        obtain ⟨E2, hE2⟩ : ∃ E, endsR L W q = E := ⟨_, rfl⟩
        obtain ⟨WS, hWS⟩ : ∃ WS, wsR L W z = WS := ⟨_, rfl⟩
        have hen : E1.length = WS.length + E2.length := by rw [← hE1, ← hE2, ← hWS]; exact ends_len HG.out HNW.out hz hk
        have HE1 := As.mk hE1
        have HE2 := As.mk hE2
        have HWS := As.mk hWS
        have HEN := As.mk hen
        have hlen2 : E1.length ≤ 1000000 := by rw [← hE1]; have := endsR_len (L := L) (W := W) (z := z); omega
        rw [hen] at hlen2
        have hlen3 : WS.length ≤ 1000000 := by omega
        have hlen4 : E2.length ≤ 1000000 := by omega
        obtain ⟨wl, hwl⟩ : ∃ wl, WS.length = wl := ⟨_, rfl⟩
        obtain ⟨el, hel⟩ : ∃ el, E2.length = el := ⟨_, rfl⟩
        rw [hwl] at hen hlen2 hlen3
        rw [hel] at hen hlen2 hlen4
        have HWL := As.mk hwl
        have HEL := As.mk hel
        clear hwl hel
        have hq9 : (q : Int) < (L.length : Int) := by omega
        have hq8 : 0 < (q : Int) := by omega
        have hq7 : ¬ (q : Int) = 0 := by omega
        have hq6 : ¬ q = 0 := by omega
        have hq5 : ((q : Int) == 0) = false := by rw [beq_eq_false_iff_ne]; omega
        have hq4 : ¬ (q : Int) < -1 := by omega
        have hqn : ¬ (q : Int) < 0 := by omega
        have hqm : decide ((q : Int) < 0) = false := by rw [decide_eq_false_iff_not]; omega
        have hq3 : ¬ (L.length : Int) ≤ (q : Int) := by omega
        generalize L[q].length = lq at hcq hqle
        have hqle1 : ¬ (lq : Int) > (lj : Int) := by omega
        clear hk hE1 hE2 hWS hen hsq hcq1 hqw hq2 hcz
        go_wp2_with (first | ((first | (with_reducible refine wpl_seal S ?_) | (with_reducible refine cw_seal S ?_) | (with_reducible refine bp_seal S ?_) | (with_reducible refine ca_seal S ?_)); clear S; (try clear hc); intro w1 S; (try simp only [List.set_cons_zero, List.set_cons_succ, List.nil_append] at S); have hc := S.cells; simp only [Cells, cellsC, Im, Row, El, RTH, TreeH, TR, AU, Nat.zero_add, Nat.reduceAdd] at hc) | (go_at_call 31; refine (link_r S 3 rfl z).mono ?_; rw [HK.out]; rintro e w1 ⟨rfl, rfl⟩))
        have hqq := ClE.cell (w := w1.drew) hcq
        have hqj := ClE.cell (w := w1.drew) hcj
        have hq := S.cellsE; simp only [CellsE, cellsE, Im, Row, El, RTH, TreeH, TR, AU, Nat.zero_add, Nat.reduceAdd] at hq
        refine wp_region_ext [] [0, 1, 2, 3, 4, 5, 6, 7, 8, 9, 10, 11, 12, 13, 14, 15, 16] (by kernel_rfl) (by kernel_rfl) ?_
        refine mix_last rfl ?_
        simp only [opsAt, List.getD_cons_succ, List.getD_cons_zero]
        repeat (go_big_quiet_step ((intro hC; first | rfl | (go_simp; first | done | rfl))))
        refine wpQuiet_nil ?_
        simp only [calmQ]
        clear hq hqq hqj hc hcq hcj
        replace S := S.drew
        generalize w1.drew = w1 at S ⊢
        have hc := S.cells; simp only [Cells, cellsC, Im, Row, El, RTH, TreeH, TR, AU, Nat.zero_add, Nat.reduceAdd] at hc
        go_wp2_with (first | ((first | (with_reducible refine wpl_seal S ?_) | (with_reducible refine cw_seal S ?_) | (with_reducible refine bp_seal S ?_) | (with_reducible refine ca_seal S ?_)); clear S; (try clear hc); intro w1 S; (try simp only [List.set_cons_zero, List.set_cons_succ, List.nil_append] at S); have hc := S.cells; simp only [Cells, cellsC, Im, Row, El, RTH, TreeH, TR, AU, Nat.zero_add, Nat.reduceAdd] at hc))
        have hq := S.cellsE; simp only [CellsE, cellsE, Im, Row, El, RTH, TreeH, TR, AU, Nat.zero_add, Nat.reduceAdd] at hq
        refine wp_region_ext [⟨[0, 1, 2, 3, 4, 7], [8, 11, 12], 5, true⟩, ⟨[6], [], 9, true⟩, ⟨[10], [], 13, true⟩] [14, 15, 16, 17] (by kernel_rfl) (by kernel_rfl) ?_
        refine mix_cons rfl rfl rfl ?_
        simp only [opsAt, List.getD_cons_succ, List.getD_cons_zero]
        repeat (go_big_quiet_step ((intro hC; first | rfl | (go_simp; first | done | rfl))))
        refine wpQuiet_nil ?_
        repeat (go_big_quiet_step ((intro hC; first | rfl | (go_simp; first | done | rfl))))
        refine wpQuiet_nil ?_
        clear hq hc
        replace S := S.drew
        generalize w1.drew = w1 at S ⊢
        have hc := S.cells; simp only [Cells, cellsC, Im, Row, El, RTH, TreeH, TR, AU, Nat.zero_add, Nat.reduceAdd] at hc
        go_wp2_with (first | ((first | (with_reducible refine mx_seal S ?_) | (with_reducible refine wpl_seal S ?_) | (with_reducible refine ca_seal S ?_)); clear S; (try clear hc); intro w1 S; (try simp only [List.set_cons_zero, List.set_cons_succ, List.nil_append] at S); have hc := S.cells; simp only [Cells, cellsC, Im, Row, El, RTH, TreeH, TR, AU, Nat.zero_add, Nat.reduceAdd] at hc) | (go_at_call 16; refine (ends_r S 3 rfl (by omega) z).mono ?_; rw [HE1.out]; rintro e w1 ⟨v, rfl, hu⟩; have hxe := hu.ext; obtain ⟨I1, S1, hI1⟩ := S.new hu; clear S hu hI1; (try clear hc); have S := S1; clear S1; have hc := S.cells; simp only [Cells, cellsC, Im, Row, El, RTH, TreeH, TR, AU, Nat.zero_add, Nat.reduceAdd] at hc; obtain ⟨A6, c6, I1, e1, hc6, S1, hI1⟩ := S.frow 0 rfl; subst e1; clear S hI1; have S := S1; clear S1; simp only [List.set_cons_zero, List.set_cons_succ, List.nil_append] at S; rw [HEN.out]; have hc := S.cells; simp only [Cells, cellsC, Im, Row, El, RTH, TreeH, TR, AU, Nat.zero_add, Nat.reduceAdd] at hc))
        refine ⟨fun _ => hxe, ?_⟩
        clear hxe
        refine mix_cons rfl rfl rfl ?_
        simp only [opsAt, List.getD_cons_succ, List.getD_cons_zero]
        repeat (go_big_quiet_step ((intro hC; first | rfl | (go_simp; first | done | rfl))))
        refine wpQuiet_nil ?_
        repeat (go_big_quiet_step ((intro hC; first | rfl | (go_simp; first | done | rfl))))
        refine wpQuiet_nil ?_
        go_wp2_with (first | ((first | (with_reducible refine mx_seal S ?_) | (with_reducible refine wpl_seal S ?_) | (with_reducible refine ca_seal S ?_)); clear S; (try clear hc); intro w1 S; (try simp only [List.set_cons_zero, List.set_cons_succ, List.nil_append] at S); have hc := S.cells; simp only [Cells, cellsC, Im, Row, El, RTH, TreeH, TR, AU, Nat.zero_add, Nat.reduceAdd] at hc) | (go_at_call 32; refine (rwords_c L W z _ _ _ S.bd ⟨_, d1, a2, d2, rfl, hd1, hd2, S.im 2 rfl, S.im 3 rfl⟩ (by omega) (by omega) HLs.out HWs.out).mono ?_; rw [HWS.out]; rintro e w1 ⟨v, rfl, hu⟩; have hxe := hu.ext; obtain ⟨I1, S1, hI1⟩ := S.new hu; clear S hu hI1; (try clear hc); have S := S1; clear S1; have hc := S.cells; simp only [Cells, cellsC, Im, Row, El, RTH, TreeH, TR, AU, Nat.zero_add, Nat.reduceAdd] at hc; obtain ⟨A5, c5, I1, e1, hc5, S1, hI1⟩ := S.frow 0 rfl; subst e1; clear S hI1; have S := S1; clear S1; simp only [List.set_cons_zero, List.set_cons_succ, List.nil_append] at S; rw [HWL.out]; have hc := S.cells; simp only [Cells, cellsC, Im, Row, El, RTH, TreeH, TR, AU, Nat.zero_add, Nat.reduceAdd] at hc))
        refine ⟨fun _ => hxe, ?_⟩
        clear hxe
        refine mix_cons rfl rfl rfl ?_
        simp only [opsAt, List.getD_cons_succ, List.getD_cons_zero]
        repeat (go_big_quiet_step ((intro hC; first | rfl | (go_simp; first | done | rfl))))
        refine wpQuiet_nil ?_
        repeat (go_big_quiet_step ((intro hC; first | rfl | (go_simp; first | done | rfl))))
        refine wpQuiet_nil ?_
        go_wp2_with (first | ((first | (with_reducible refine mx_seal S ?_) | (with_reducible refine wpl_seal S ?_) | (with_reducible refine ca_seal S ?_)); clear S; (try clear hc); intro w1 S; (try simp only [List.set_cons_zero, List.set_cons_succ, List.nil_append] at S); have hc := S.cells; simp only [Cells, cellsC, Im, Row, El, RTH, TreeH, TR, AU, Nat.zero_add, Nat.reduceAdd] at hc) | (go_at_call 16; refine (ends_r S 5 rfl (by omega) q).mono ?_; rw [HE2.out]; rintro e w1 ⟨v, rfl, hu⟩; have hxe := hu.ext; obtain ⟨I1, S1, hI1⟩ := S.new hu; clear S hu hI1; (try clear hc); have S := S1; clear S1; have hc := S.cells; simp only [Cells, cellsC, Im, Row, El, RTH, TreeH, TR, AU, Nat.zero_add, Nat.reduceAdd] at hc; obtain ⟨A7, c7, I1, e1, hc7, S1, hI1⟩ := S.frow 0 rfl; subst e1; clear S hI1; have S := S1; clear S1; simp only [List.set_cons_zero, List.set_cons_succ, List.nil_append] at S; rw [HEL.out]; have hc := S.cells; simp only [Cells, cellsC, Im, Row, El, RTH, TreeH, TR, AU, Nat.zero_add, Nat.reduceAdd] at hc))
        refine ⟨fun _ => hxe, ?_⟩
        clear hxe
        refine mix_last rfl ?_
        simp only [opsAt, List.getD_cons_succ, List.getD_cons_zero]
        repeat (go_big_quiet_step ((intro hC; first | rfl | (go_simp; first | done | rfl))))
        refine wpQuiet_nil ?_
        simp only [calmQ]
        have hc := S.cells; simp only [Cells, cellsC, Im, Row, El, RTH, TreeH, TR, AU, Nat.zero_add, Nat.reduceAdd] at hc
        go_wp2_with (first | ((first | (with_reducible refine wpl_seal S ?_) | (with_reducible refine cw_seal S ?_) | (with_reducible refine bp_seal S ?_) | (with_reducible refine ca_seal S ?_)); clear S; (try clear hc); intro w1 S; (try simp only [List.set_cons_zero, List.set_cons_succ, List.nil_append] at S); have hc := S.cells; simp only [Cells, cellsC, Im, Row, El, RTH, TreeH, TR, AU, Nat.zero_add, Nat.reduceAdd] at hc))
        have hq := S.cellsE; simp only [CellsE, cellsE, Im, Row, El, RTH, TreeH, TR, AU, Nat.zero_add, Nat.reduceAdd] at hq
        refine wp_region_ext [⟨[0, 1, 2, 3, 4, 6], [7], 5, true⟩, ⟨[], [], 8, false⟩, ⟨[], [], 9, false⟩] [10, 11] (by kernel_rfl) (by kernel_rfl) ?_
        refine mix_cons rfl rfl rfl ?_
        simp only [opsAt, List.getD_cons_succ, List.getD_cons_zero]
        repeat (go_big_quiet_step ((intro hC; first | rfl | (go_simp; first | done | rfl))))
        refine wpQuiet_nil ?_
        repeat (go_big_quiet_step ((intro hC; first | rfl | (go_simp; first | done | rfl))))
        refine wpQuiet_nil ?_
        clear hq hc
        replace S := S.drew
        generalize w1.drew = w1 at S ⊢
        have hc := S.cells; simp only [Cells, cellsC, Im, Row, El, RTH, TreeH, TR, AU, Nat.zero_add, Nat.reduceAdd] at hc
        go_wp2_with (first | ((first | (with_reducible refine mx_seal S ?_) | (with_reducible refine wpl_seal S ?_) | (with_reducible refine ca_seal S ?_)); clear S; (try clear hc); intro w1 S; (try simp only [List.set_cons_zero, List.set_cons_succ, List.nil_append] at S); have hc := S.cells; simp only [Cells, cellsC, Im, Row, El, RTH, TreeH, TR, AU, Nat.zero_add, Nat.reduceAdd] at hc))
        refine ⟨fun _ => Ext.refl _, ?_⟩
        refine mix_cons rfl rfl rfl ?_
        simp only [opsAt, List.getD_cons_succ, List.getD_cons_zero]
        repeat (go_big_quiet_step ((intro hC; first | rfl | (go_simp; first | done | rfl))))
        refine wpQuiet_nil ?_
        repeat (go_big_quiet_step ((intro hC; first | rfl | (go_simp; first | done | rfl))))
        refine wpQuiet_nil ?_
        go_wp2_with (first | ((first | (with_reducible refine mx_seal S ?_) | (with_reducible refine wpl_seal S ?_) | (with_reducible refine ca_seal S ?_)); clear S; (try clear hc); intro w1 S; (try simp only [List.set_cons_zero, List.set_cons_succ, List.nil_append] at S); have hc := S.cells; simp only [Cells, cellsC, Im, Row, El, RTH, TreeH, TR, AU, Nat.zero_add, Nat.reduceAdd] at hc))
        (first | refine ⟨(fun h => by cases h), ?_⟩ | skip); (first | ((first | (with_reducible refine mx_seal S ?_)); clear S; (try clear hc); intro w1 S; (try simp only [List.set_cons_zero, List.set_cons_succ, List.nil_append] at S); have hc := S.cells; simp only [Cells, cellsC, Im, Row, El, RTH, TreeH, TR, AU, Nat.zero_add, Nat.reduceAdd] at hc) | skip); (try simp only [Act.put, List.setIfInBounds_toArray, List.set_cons_succ, List.set_cons_zero])
        refine mix_cons rfl rfl rfl ?_
        simp only [opsAt, List.getD_cons_succ, List.getD_cons_zero]
        repeat (go_big_quiet_step ((intro hC; first | rfl | (go_simp; first | done | rfl))))
        refine wpQuiet_nil ?_
        repeat (go_big_quiet_step ((intro hC; first | rfl | (go_simp; first | done | rfl))))
        refine wpQuiet_nil ?_
        go_wp2_with (first | ((first | (with_reducible refine mx_seal S ?_) | (with_reducible refine wpl_seal S ?_) | (with_reducible refine ca_seal S ?_)); clear S; (try clear hc); intro w1 S; (try simp only [List.set_cons_zero, List.set_cons_succ, List.nil_append] at S); have hc := S.cells; simp only [Cells, cellsC, Im, Row, El, RTH, TreeH, TR, AU, Nat.zero_add, Nat.reduceAdd] at hc))
        (first | refine ⟨(fun h => by cases h), ?_⟩ | skip); (first | ((first | (with_reducible refine mx_seal S ?_)); clear S; (try clear hc); intro w1 S; (try simp only [List.set_cons_zero, List.set_cons_succ, List.nil_append] at S); have hc := S.cells; simp only [Cells, cellsC, Im, Row, El, RTH, TreeH, TR, AU, Nat.zero_add, Nat.reduceAdd] at hc) | skip); (try simp only [Act.put, List.setIfInBounds_toArray, List.set_cons_succ, List.set_cons_zero])
        refine mix_last rfl ?_
        simp only [opsAt, List.getD_cons_succ, List.getD_cons_zero]
        repeat (go_big_quiet_step ((intro hC; first | rfl | (go_simp; first | done | rfl))))
        refine wpQuiet_nil ?_
        simp only [calmQ]
        have hc := S.cells; simp only [Cells, cellsC, Im, Row, El, RTH, TreeH, TR, AU, Nat.zero_add, Nat.reduceAdd] at hc
        go_wp2_with (first | ((first | (with_reducible refine wpl_seal S ?_) | (with_reducible refine cw_seal S ?_) | (with_reducible refine bp_seal S ?_) | (with_reducible refine ca_seal S ?_)); clear S; (try clear hc); intro w1 S; (try simp only [List.set_cons_zero, List.set_cons_succ, List.nil_append] at S); have hc := S.cells; simp only [Cells, cellsC, Im, Row, El, RTH, TreeH, TR, AU, Nat.zero_add, Nat.reduceAdd] at hc))
        go_roundw
        case rel => exact ⟨z + 1, by go_num, by omega, by omega, _, ⟨(S.sel [3, 4, 5, 6] (by decide) rfl (by simp) : SH _ _ _ [_, _, _, _] _ _)⟩⟩
        case measure => simp [intOf] <;> omega
    · have hz' : decide ((z : Int) < (L.length : Int)) = false := by simpa using hz
      go_wp2_with (first | ((first | (with_reducible refine wpl_seal S ?_) | (with_reducible refine cw_seal S ?_) | (with_reducible refine bp_seal S ?_) | (with_reducible refine ca_seal S ?_)); clear S; (try clear hc); intro w1 S; (try simp only [List.set_cons_zero, List.set_cons_succ, List.nil_append] at S); have hc := S.cells; simp only [Cells, cellsC, Im, Row, El, RTH, TreeH, TR, AU, Nat.zero_add, Nat.reduceAdd] at hc) | (go_at_call 30; refine (alen_r S 3 rfl).mono ?_; rintro e w1 ⟨rfl, rfl⟩))
      have hq := S.cellsE; simp only [CellsE, cellsE, Im, Row, El, RTH, TreeH, TR, AU, Nat.zero_add, Nat.reduceAdd] at hq
      refine wp_region_ext [⟨[0], [], 1, false⟩, ⟨[2, 3, 4, 6, 7, 8], [], 5, true⟩, ⟨[9, 10, 11], [], 12, false⟩] [13, 14] (by kernel_rfl) (by kernel_rfl) ?_
      refine mix_cons rfl rfl rfl ?_
      simp only [opsAt, List.getD_cons_succ, List.getD_cons_zero]
      repeat (go_big_quiet_step ((intro hC; first | rfl | (go_simp; first | done | rfl))))
      refine wpQuiet_nil ?_
      repeat (go_big_quiet_step ((intro hC; first | rfl | (go_simp; first | done | rfl))))
      refine wpQuiet_nil ?_
      clear hq hc
      replace S := S.drew
      generalize wr.drew = w1 at S ⊢
      have hc := S.cells; simp only [Cells, cellsC, Im, Row, El, RTH, TreeH, TR, AU, Nat.zero_add, Nat.reduceAdd] at hc
      go_wp2_with (first | ((first | (with_reducible refine mx_seal S ?_) | (with_reducible refine wpl_seal S ?_) | (with_reducible refine ca_seal S ?_)); clear S; (try clear hc); intro w1 S; (try simp only [List.set_cons_zero, List.set_cons_succ, List.nil_append] at S); have hc := S.cells; simp only [Cells, cellsC, Im, Row, El, RTH, TreeH, TR, AU, Nat.zero_add, Nat.reduceAdd] at hc) | (go_at_call 26; refine (fall_r S 3 rfl 0).mono ?_; rw [fallR_zero]; rintro e w1 ⟨rfl, rfl⟩))
      (first | refine ⟨(fun h => by cases h), ?_⟩ | skip); (first | ((first | (with_reducible refine mx_seal S ?_)); clear S; (try clear hc); intro w1 S; (try simp only [List.set_cons_zero, List.set_cons_succ, List.nil_append] at S); have hc := S.cells; simp only [Cells, cellsC, Im, Row, El, RTH, TreeH, TR, AU, Nat.zero_add, Nat.reduceAdd] at hc) | skip); (try simp only [Act.put, List.setIfInBounds_toArray, List.set_cons_succ, List.set_cons_zero])
      have hq := CellsE_of S.cells; simp only [CellsE, cellsE, Im, Row, El, RTH, TreeH, TR, AU, Nat.zero_add, Nat.reduceAdd] at hq
      refine mix_cons rfl rfl rfl ?_
      simp only [opsAt, List.getD_cons_succ, List.getD_cons_zero]
      repeat (go_big_quiet_step ((intro hC; first | rfl | (go_simp; first | done | rfl))))
      refine wpQuiet_nil ?_
      repeat (go_big_quiet_step ((intro hC; first | rfl | (go_simp; first | done | rfl))))
      refine wpQuiet_nil ?_
      clear hq
      go_wp2_with (first | ((first | (with_reducible refine mx_seal S ?_) | (with_reducible refine wpl_seal S ?_) | (with_reducible refine ca_seal S ?_)); clear S; (try clear hc); intro w1 S; (try simp only [List.set_cons_zero, List.set_cons_succ, List.nil_append] at S); have hc := S.cells; simp only [Cells, cellsC, Im, Row, El, RTH, TreeH, TR, AU, Nat.zero_add, Nat.reduceAdd] at hc) | (go_at_call 30; refine (alen_r S 3 rfl).mono ?_; rintro e w1 ⟨rfl, rfl⟩))
      refine ⟨fun _ => Ext.refl _, ?_⟩
      refine mix_cons rfl rfl rfl ?_
      simp only [opsAt, List.getD_cons_succ, List.getD_cons_zero]
      repeat (go_big_quiet_step ((intro hC; first | rfl | (go_simp; first | done | rfl))))
      refine wpQuiet_nil ?_
      repeat (go_big_quiet_step ((intro hC; first | rfl | (go_simp; first | done | rfl))))
      refine wpQuiet_nil ?_
      go_wp2_with (first | ((first | (with_reducible refine mx_seal S ?_) | (with_reducible refine wpl_seal S ?_) | (with_reducible refine ca_seal S ?_)); clear S; (try clear hc); intro w1 S; (try simp only [List.set_cons_zero, List.set_cons_succ, List.nil_append] at S); have hc := S.cells; simp only [Cells, cellsC, Im, Row, El, RTH, TreeH, TR, AU, Nat.zero_add, Nat.reduceAdd] at hc) | (go_at_call 12; refine (lives13_c _ _ S.bd).mono ?_; rintro e w1 ⟨rfl, hx⟩; replace S := S.ext hx; clear hx; (try clear hc); have hc := S.cells; simp only [Cells, cellsC, Im, Row, El, RTH, TreeH, TR, AU, Nat.zero_add, Nat.reduceAdd] at hc))
      (first | refine ⟨(fun h => by cases h), ?_⟩ | skip); (first | ((first | (with_reducible refine mx_seal S ?_)); clear S; (try clear hc); intro w1 S; (try simp only [List.set_cons_zero, List.set_cons_succ, List.nil_append] at S); have hc := S.cells; simp only [Cells, cellsC, Im, Row, El, RTH, TreeH, TR, AU, Nat.zero_add, Nat.reduceAdd] at hc) | skip); (try simp only [Act.put, List.setIfInBounds_toArray, List.set_cons_succ, List.set_cons_zero])
      refine mix_last rfl ?_
      simp only [opsAt, List.getD_cons_succ, List.getD_cons_zero]
      repeat (go_big_quiet_step ((intro hC; first | rfl | (go_simp; first | done | rfl))))
      refine wpQuiet_nil ?_
      simp only [calmQ]
      have hc := S.cells; simp only [Cells, cellsC, Im, Row, El, RTH, TreeH, TR, AU, Nat.zero_add, Nat.reduceAdd] at hc
      go_wp2_with (first | ((first | (with_reducible refine wpl_seal S ?_) | (with_reducible refine cw_seal S ?_) | (with_reducible refine bp_seal S ?_) | (with_reducible refine ca_seal S ?_)); clear S; (try clear hc); intro w1 S; (try simp only [List.set_cons_zero, List.set_cons_succ, List.nil_append] at S); have hc := S.cells; simp only [Cells, cellsC, Im, Row, El, RTH, TreeH, TR, AU, Nat.zero_add, Nat.reduceAdd] at hc))
      go_ret
      exact ⟨rfl, S.out⟩
end Go.Proofs.Ytiemglijfdaliaa
