/- TrieWalks: the law's walk. -/
import Derived.Test.YthmcefalaieigaaRWalk
namespace Go.Proofs.Ythmcefalaieigaa
open Go.RowKit X
set_option maxHeartbeats 4000000
set_option maxRecDepth 8000
set_option linter.unusedSimpArgs false
set_option linter.unusedVariables false
theorem begT_ne {own : List (List Int)} {L W : List (List Int)} (h : begT own = (L, W)) : ∀ x ∈ W, x ≠ [] ∧ x ∈ own := by
  intro x hx
  have e : W = (begT own).2 := by rw [h]
  rw [e] at hx
  unfold begT at hx
  rw [begT_W, List.nil_append, List.mem_filter] at hx
  exact ⟨by simpa using hx.2, hx.1⟩
theorem walks_c (raw : Bool) (ls : List (List Int)) (xs : List Int) (A B : Option Addr) (c d : Nat) (w : World) (I : Fp) (hI : ∀ b, I b → b < w.heap.size) (hx : Sl kW w I A ls) (hy : Sl kP w I B xs) (hd : xs.length ≤ d) :
    Calls Try.prog 5 #[.slice A ls.length c, .bool raw, .slice B xs.length d] w fun e w' => e = .returned (.bool true) ∧ Ext w w' := by
  have S := (SH.start w I hI).know (h := Im kP B xs) hy
  have HXL := As.mk hx
  clear hy hx
  have hc := S.cells; simp only [Cells, cellsC, Im, Row, El, RTH, TreeH, TR, Nat.zero_add, Nat.reduceAdd] at hc
  obtain ⟨m, hm1, hm2, hm3⟩ : ∃ m : Nat, m = (xs.take 7).length ∧ m ≤ 7 ∧ m ≤ xs.length := ⟨_, rfl, by simp; omega, by simp; omega⟩
  have HM := As.mk hm1
  clear hm1
  by_cases h7 : xs.length ≤ 7
  all_goals
    first | (have h7' : (xs.length : Int) ≤ 7 := by omega) | (have h7' : 7 < (xs.length : Int) := by omega)
    go_enter Try.func5, Try.ntmps5
    go_wp2_with (first | ((first | (with_reducible refine wpl_seal S ?_) | (with_reducible refine cw_seal S ?_) | (with_reducible refine bp_seal S ?_) | (with_reducible refine ca_seal S ?_)); clear S hc; intro w1 S; (try simp only [List.set_cons_zero, List.set_cons_succ, List.nil_append] at S); have hc := S.cells; simp only [Cells, cellsC, Im, Row, El, RTH, TreeH, TR, Nat.zero_add, Nat.reduceAdd] at hc) | (go_at_call 9; refine (begin_c raw ls A c _ I S.bd HXL.out).mono ?_; rintro e w1 ⟨b, l, ws, v, L, W, J, rfl, S2, hst, hbg, hL, hW, hL5⟩; obtain ⟨J2, S3, -, -⟩ := S.comp (S2.toTR 0 rfl hst); have HBG := As.mk hbg; have HL5 := As.mk hL5; clear S hc S2 hst hbg hL5; have S := S3; clear S3; simp only [List.cons_append, List.nil_append, List.set_cons_zero] at S; obtain ⟨a1, d1, a2, d2, rfl, hd1, hd2, hs1, hs2⟩ := S.rt 1 rfl; replace S := (S.know (h := Im kW a2 W) hs2).know (h := Im kW a1 L) hs1; clear hs1 hs2; have hc := S.cells; simp only [Cells, cellsC, Im, Row, El, RTH, TreeH, TR, Nat.zero_add, Nat.reduceAdd] at hc))
    have HG := As.mk (S.goodR 3 rfl)
    have HLs : As (ShortW L) := ⟨fun x hx => by have := HL5.out x hx; omega⟩
    have hq := S.cellsE; simp only [CellsE, cellsE, Im, Row, El, RTH, TreeH, TR, Nat.zero_add, Nat.reduceAdd] at hq
    refine wp_region_ext [⟨[1, 2, 3, 5], [0, 4], 6, true⟩, ⟨[], [], 7, false⟩] [8] (by kernel_rfl) (by kernel_rfl) ?_
    refine mix_cons rfl rfl rfl ?_
    simp only [opsAt, List.getD_cons_succ, List.getD_cons_zero]
    repeat (go_big_quiet_step ((intro hC; first | rfl | (go_simp; first | done | rfl))))
    refine wpQuiet_nil ?_
    repeat (go_big_quiet_step ((intro hC; first | rfl | (go_simp; first | done | rfl))))
    refine wpQuiet_nil ?_
    clear hq hc
    replace S := S.drew
    have hc := S.cells; simp only [Cells, cellsC, Im, Row, El, RTH, TreeH, TR, Nat.zero_add, Nat.reduceAdd] at hc
    go_wp2_with (first | ((first | (with_reducible refine mx_seal S ?_) | (with_reducible refine wpl_seal S ?_) | (with_reducible refine ca_seal S ?_)); clear S hc; intro w1 S; (try simp only [List.set_cons_zero, List.set_cons_succ, List.nil_append] at S); have hc := S.cells; simp only [Cells, cellsC, Im, Row, El, RTH, TreeH, TR, Nat.zero_add, Nat.reduceAdd] at hc) | (go_at_call 16; refine (row_c xs 7 B d _ _ S.bd (S.im 5 rfl) (by omega)).mono ?_; rintro e w1 ⟨v, rfl, hu⟩; have hxe := hu.ext; obtain ⟨I1, S1, hI1⟩ := S.new hu; clear S hc hu hI1; have S := S1; clear S1; have hc := S.cells; simp only [Cells, cellsC, Im, Row, El, RTH, TreeH, TR, Nat.zero_add, Nat.reduceAdd] at hc; obtain ⟨A3, c3, I3, rfl, hc3, S3, -⟩ := S.frow 0 rfl; clear S; have S := S3; clear S3; simp only [List.set_cons_zero, List.set_cons_succ, List.nil_append] at S))
    refine ⟨fun _ => hxe, ?_⟩
    refine mix_cons rfl rfl rfl ?_
    simp only [opsAt, List.getD_cons_succ, List.getD_cons_zero]
    repeat (go_big_quiet_step ((intro hC; first | rfl | (go_simp; first | done | rfl))))
    refine wpQuiet_nil ?_
    repeat (go_big_quiet_step ((intro hC; first | rfl | (go_simp; first | done | rfl))))
    refine wpQuiet_nil ?_
    clear hc hxe
    have hc := S.cells; simp only [Cells, cellsC, Im, Row, El, RTH, TreeH, TR, Nat.zero_add, Nat.reduceAdd] at hc
    go_wp2_with (first | ((first | (with_reducible refine mx_seal S ?_) | (with_reducible refine wpl_seal S ?_) | (with_reducible refine ca_seal S ?_)); clear S hc; intro w1 S; (try simp only [List.set_cons_zero, List.set_cons_succ, List.nil_append] at S); have hc := S.cells; simp only [Cells, cellsC, Im, Row, El, RTH, TreeH, TR, Nat.zero_add, Nat.reduceAdd] at hc))
    (first | refine ⟨(fun h => by cases h), ?_⟩ | skip); (first | ((first | (with_reducible refine mx_seal S ?_)); clear S hc; intro w1 S; (try simp only [List.set_cons_zero, List.set_cons_succ, List.nil_append] at S); have hc := S.cells; simp only [Cells, cellsC, Im, Row, El, RTH, TreeH, TR, Nat.zero_add, Nat.reduceAdd] at hc) | skip); (try simp only [Act.put, List.setIfInBounds_toArray, List.set_cons_succ, List.set_cons_zero])
    refine mix_last rfl ?_
    simp only [opsAt, List.getD_cons_succ, List.getD_cons_zero]
    repeat (go_big_quiet_step ((intro hC; first | rfl | (go_simp; first | done | rfl))))
    refine wpQuiet_nil ?_
    simp only [calmQ]
    clear hc
    have HR7 := As.mk (rowT_len xs 7)
    obtain ⟨gA, egA⟩ := S.name 0 rfl; rw [← egA] at S ⊢; clear egA
    obtain ⟨I4, S4, -⟩ := S.lit 0 rfl (k := kW) (xs := [xs.take 7, rowT xs 7]) (Flat.cons (cs := [_]) ⟨_, _, by rw [List.length_take]; (first | rw [Nat.min_eq_left (by omega)] | rw [Nat.min_eq_right (by omega)]), by rw [List.length_take]; omega, (S.im 7 rfl).take 7⟩ (Flat.single (cs := [_]) ⟨_, _, rfl, hc3, S.im 1 rfl⟩))
    clear S
    have S := S4
    clear S4
    simp only [List.set_cons_zero, List.set_cons_succ, List.nil_append] at S
    obtain ⟨gT, egT⟩ := S.name 2 rfl; rw [← egT] at S ⊢; clear egT
    generalize hALL : [xs.take 7, rowT xs 7] = all at S ⊢
    have HAL : As (all.length = 2 ∧ ∀ x ∈ all, x.length ≤ 7) := ⟨by rw [← hALL]; refine ⟨rfl, fun x hx => ?_⟩; simp only [List.mem_cons, List.not_mem_nil, or_false] at hx; rcases hx with rfl | rfl; (rw [← HM.out]; exact hm2); (rw [HR7.out]; omega)⟩
    clear hALL
    have hc := S.cells; simp only [Cells, cellsC, Im, Row, El, RTH, TreeH, TR, Nat.zero_add, Nat.reduceAdd] at hc
    go_wp2_with (first | ((first | (with_reducible refine wpl_seal S ?_) | (with_reducible refine cw_seal S ?_) | (with_reducible refine bp_seal S ?_) | (with_reducible refine ca_seal S ?_)); clear S hc; intro w1 S; (try simp only [List.set_cons_zero, List.set_cons_succ, List.nil_append] at S); have hc := S.cells; simp only [Cells, cellsC, Im, Row, El, RTH, TreeH, TR, Nat.zero_add, Nat.reduceAdd] at hc))
    clear hc
    have S1 := (S.sel [0, 2, 3, 4, 5] (by decide) rfl (by simp) : SH _ _ _ [_, _, _, _, _] _ _)
    clear S
    go_loopw [10] (fun i w' => ∃ (k : Nat), k ≤ 2 ∧ i = .int .i64 k ∧ As (SH No I w [Im kW (some ⟨gA, 0, none⟩) all, Cel gT 27 [.slice a1 L.length d1, .slice a2 W.length d2], Im kW a1 L, Im kW a2 W, TR b L W] w' I4)) (fun i _ => 2 - (intOf i).toNat)
    case atStart => exact ⟨0, Nat.zero_le _, rfl, ⟨S1⟩⟩
    case round =>
      clear S1
      obtain ⟨k, hk, rfl, ⟨S⟩⟩ := hrel
      have hc := S.cells; simp only [Cells, cellsC, Im, Row, El, RTH, TreeH, TR, Nat.zero_add, Nat.reduceAdd] at hc
      by_cases hlt : k < 2
      · have hlt' : decide ((k : Int) < 2) = true := by simp; omega
        obtain ⟨ob, oo, A3, c3, e3, hco, hc3, hs3⟩ := (S.im 0 rfl).sl_at (i := k) (by rw [HAL.out.1]; exact hlt)
        cases e3
        rw [Nat.zero_add] at hco
        have h77 := HAL.out.2 _ (List.getElem_mem (by rw [HAL.out.1]; exact hlt))
        generalize all[k]'(by rw [HAL.out.1]; exact hlt) = ys at hco hc3 hs3 h77
        replace S := S.know (h := Im kP A3 ys) hs3
        have hdq : (dpR L (wkR L ys ys.length).1 != ((wkR L ys ys.length).2 : Int)) = false := by rw [wkR_depth HG.out ys ys.length (Nat.le_refl _)]; simp
        clear hs3
        go_wp2_with (first | ((first | (with_reducible refine wpl_seal S ?_) | (with_reducible refine cw_seal S ?_) | (with_reducible refine bp_seal S ?_) | (with_reducible refine ca_seal S ?_)); clear S hc; intro w1 S; (try simp only [List.set_cons_zero, List.set_cons_succ, List.nil_append] at S); have hc := S.cells; simp only [Cells, cellsC, Im, Row, El, RTH, TreeH, TR, Nat.zero_add, Nat.reduceAdd] at hc) | (go_at_call 17; refine (walk_r S 5 rfl (by omega) (S.im 0 rfl) (by omega)).mono ?_; rintro e w1 ⟨rfl, hx⟩; have hcx := hx.cell hco; replace S := S.ext hx; clear hc hx; have hc := S.cells; simp only [Cells, cellsC, Im, Row, El, RTH, TreeH, TR, Nat.zero_add, Nat.reduceAdd] at hc))
        have hq := S.cellsE; simp only [CellsE, cellsE, Im, Row, El, RTH, TreeH, TR, Nat.zero_add, Nat.reduceAdd] at hq
        have hqx := ClE.cell (w := w1.drew) hcx
        refine wp_region_ext [⟨[0, 1, 2, 3, 4], [], 5, false⟩] [6, 7, 8, 9, 10] (by kernel_rfl) (by kernel_rfl) ?_
        refine mix_cons rfl rfl rfl ?_
        simp only [opsAt, List.getD_cons_succ, List.getD_cons_zero]
        repeat (go_big_quiet_step ((intro hC; first | rfl | (go_simp; first | done | rfl))))
        refine wpQuiet_nil ?_
        repeat (go_big_quiet_step ((intro hC; first | rfl | (go_simp; first | done | rfl))))
        refine wpQuiet_nil ?_
        clear hq hqx hcx hco hc
        replace S := S.drew
        have hc := S.cells; simp only [Cells, cellsC, Im, Row, El, RTH, TreeH, TR, Nat.zero_add, Nat.reduceAdd] at hc
        go_wp2_with (first | ((first | (with_reducible refine mx_seal S ?_) | (with_reducible refine wpl_seal S ?_) | (with_reducible refine ca_seal S ?_)); clear S hc; intro w1 S; (try simp only [List.set_cons_zero, List.set_cons_succ, List.nil_append] at S); have hc := S.cells; simp only [Cells, cellsC, Im, Row, El, RTH, TreeH, TR, Nat.zero_add, Nat.reduceAdd] at hc) | (go_at_call 18; refine (rwalk_c L W ys _ A3 c3 _ _ S.bd ⟨a1, d1, a2, d2, rfl, hd1, hd2, S.im 3 rfl, S.im 4 rfl⟩ (S.im 0 rfl) hc3 (by omega) (by omega) HLs.out).mono ?_; rintro e w1 ⟨rfl, hx⟩; replace S := S.ext hx; clear hc hx; have hc := S.cells; simp only [Cells, cellsC, Im, Row, El, RTH, TreeH, TR, Nat.zero_add, Nat.reduceAdd] at hc))
        (first | refine ⟨(fun h => by cases h), ?_⟩ | skip); (first | ((first | (with_reducible refine mx_seal S ?_)); clear S hc; intro w1 S; (try simp only [List.set_cons_zero, List.set_cons_succ, List.nil_append] at S); have hc := S.cells; simp only [Cells, cellsC, Im, Row, El, RTH, TreeH, TR, Nat.zero_add, Nat.reduceAdd] at hc) | skip); (try simp only [Act.put, List.setIfInBounds_toArray, List.set_cons_succ, List.set_cons_zero])
        refine mix_last rfl ?_
        simp only [opsAt, List.getD_cons_succ, List.getD_cons_zero]
        repeat (go_big_quiet_step ((intro hC; first | rfl | (go_simp; first | done | rfl))))
        refine wpQuiet_nil ?_
        simp only [calmQ]
        go_wp2_with (first | ((first | (with_reducible refine wpl_seal S ?_) | (with_reducible refine cw_seal S ?_) | (with_reducible refine bp_seal S ?_) | (with_reducible refine ca_seal S ?_)); clear S hc; intro w1 S; (try simp only [List.set_cons_zero, List.set_cons_succ, List.nil_append] at S); have hc := S.cells; simp only [Cells, cellsC, Im, Row, El, RTH, TreeH, TR, Nat.zero_add, Nat.reduceAdd] at hc) | (go_at_call 19; refine (depth_r S 5 rfl _).mono ?_; rintro e w1 ⟨rfl, rfl⟩))
        go_roundw
        case rel => exact ⟨k + 1, by omega, by go_num, ⟨(S.sel [1, 2, 3, 4, 5] (by decide) rfl (by simp) : SH _ _ _ [_, _, _, _, _] _ _)⟩⟩
        case measure => simp [intOf] <;> omega
      · have hlt' : decide ((k : Int) < 2) = false := by simp; omega
        go_wp2_with (first | ((first | (with_reducible refine wpl_seal S ?_) | (with_reducible refine cw_seal S ?_) | (with_reducible refine bp_seal S ?_) | (with_reducible refine ca_seal S ?_)); clear S hc; intro w1 S; (try simp only [List.set_cons_zero, List.set_cons_succ, List.nil_append] at S); have hc := S.cells; simp only [Cells, cellsC, Im, Row, El, RTH, TreeH, TR, Nat.zero_add, Nat.reduceAdd] at hc))
        have S1 := (S.sel [1, 2, 3, 4] (by decide) rfl (by simp) : SH _ _ _ [_, _, _, _] _ _)
        clear S hc
        go_loopw [15] (fun i w' => ∃ (k : Nat), k ≤ W.length ∧ i = .int .i64 k ∧ As (SH No I w [Cel gT 27 [.slice a1 L.length d1, .slice a2 W.length d2], Im kW a1 L, Im kW a2 W, TR b L W] w' I4)) (fun i _ => W.length - (intOf i).toNat)
        case atStart => exact ⟨0, Nat.zero_le _, rfl, ⟨S1⟩⟩
        case round =>
          clear S1
          obtain ⟨j, hj, rfl, ⟨S⟩⟩ := hrel
          have hc := S.cells; simp only [Cells, cellsC, Im, Row, El, RTH, TreeH, TR, Nat.zero_add, Nat.reduceAdd] at hc
          by_cases hjt : j < W.length
          · have hjt' : decide ((j : Int) < W.length) = true := by simpa using hjt
            obtain ⟨ob, oo, A3, c3, rfl, hco, hc3, hs3⟩ := (S.im 2 rfl).sl_at hjt
            obtain ⟨hne, hmem⟩ := begT_ne HBG.out _ (List.getElem_mem hjt)
            have h5 := ownW_five raw ls _ hmem
            have hpw : pa W j = W[j] := pa_eq hjt
            have HWK : As (wkR L W[j] W[j].length = (woR L W j, W[j].length)) := ⟨by rw [← hpw]; exact HG.out.walkW hjt (by rw [hpw]; exact hne)⟩
            replace S := S.know (h := Im kP A3 W[j]) hs3
            clear hs3 hpw hne hmem
            go_wp2_with (first | ((first | (with_reducible refine wpl_seal S ?_) | (with_reducible refine cw_seal S ?_) | (with_reducible refine bp_seal S ?_) | (with_reducible refine ca_seal S ?_)); clear S hc; intro w1 S; (try simp only [List.set_cons_zero, List.set_cons_succ, List.nil_append] at S); have hc := S.cells; simp only [Cells, cellsC, Im, Row, El, RTH, TreeH, TR, Nat.zero_add, Nat.reduceAdd] at hc) | (go_at_call 17; refine (walk_r S 4 rfl (by omega) (S.im 0 rfl) (by omega)).mono ?_; rw [HWK.out]; rintro e w1 ⟨rfl, hx⟩; have hcx := hx.cell hco; clear hco; replace S := S.ext hx; clear hc hx; have hc := S.cells; simp only [Cells, cellsC, Im, Row, El, RTH, TreeH, TR, Nat.zero_add, Nat.reduceAdd] at hc) | (go_at_call 15; refine (word_r S 4 rfl _).mono ?_; rintro e w1 ⟨rfl, rfl⟩))
            go_roundw
            case rel => exact ⟨j + 1, by omega, by go_num, ⟨(S.sel [1, 2, 3, 4] (by decide) rfl (by simp) : SH _ _ _ [_, _, _, _] _ _)⟩⟩
            case measure => simp [intOf] <;> omega
          · have hjt' : decide ((j : Int) < W.length) = false := by simpa using hjt
            go_wp2_with (first | ((first | (with_reducible refine wpl_seal S ?_) | (with_reducible refine cw_seal S ?_) | (with_reducible refine bp_seal S ?_) | (with_reducible refine ca_seal S ?_)); clear S hc; intro w1 S; (try simp only [List.set_cons_zero, List.set_cons_succ, List.nil_append] at S); have hc := S.cells; simp only [Cells, cellsC, Im, Row, El, RTH, TreeH, TR, Nat.zero_add, Nat.reduceAdd] at hc) | (go_at_call 12; refine (lives_c _ _ S.bd).mono ?_; rintro e w1 ⟨rfl, hx⟩; replace S := S.ext hx; clear hc hx; have hc := S.cells; simp only [Cells, cellsC, Im, Row, El, RTH, TreeH, TR, Nat.zero_add, Nat.reduceAdd] at hc))
            go_ret
            exact ⟨rfl, S.out⟩
end Go.Proofs.Ythmcefalaieigaa
