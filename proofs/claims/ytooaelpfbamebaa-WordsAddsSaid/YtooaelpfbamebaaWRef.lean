/- The document's answer for sets of rows. -/
import Derived.Test.YtooaelpfbamebaaWScan
namespace Go.Proofs.Ytooaelpfbamebaa
open Go.RowKit X
set_option maxHeartbeats 4000000
set_option maxRecDepth 8000
set_option linter.unusedSimpArgs false
set_option linter.unusedVariables false
theorem yadd_c (W : List (List Int)) (xs : List Int) (A B : Option Addr) (c d : Nat) (w : World) (I : Fp) (hI : ∀ b, I b → b < w.heap.size) (hW : Sl kW w I A W) (hx : Sl kP w I B xs) (hc0 : W.length ≤ c) (hd0 : xs.length ≤ d) (hWl : W.length ≤ 1000) (hxl : xs.length ≤ 1000000) (hne : xs ≠ []) :
    Calls Try.prog 28 #[.slice A W.length c, .slice B xs.length d] w fun e w' => ∃ A' c', e = .returned (.tuple #[.slice A' (addW W xs).length c', .int .i64 (addN W xs)]) ∧ (addW W xs).length ≤ c' ∧ Upd w No I w' (Im kW A' (addW W xs)) := by
  have S := ((SH.start w I hI).know (h := Im kP B xs) hx).know (h := Im kW A W) hW
  have HNE := As.mk hne
  clear hx hW hne
  have hc := S.cells; simp only [Cells, cellsC, Im, Row, El, RTH, TreeH, TR, AU, AL, OrNil, AuP, SetO, Many, ScO, Nat.zero_add, Nat.reduceAdd] at hc
  go_enter Try.func28, Try.ntmps28
  go_wp2_with (first | ((first | (with_reducible refine wpl_seal S ?_) | (with_reducible refine cw_seal S ?_) | (with_reducible refine bp_seal S ?_) | (with_reducible refine ca_seal S ?_)); clear S; (try clear hc); intro w1 S; (try simp only [List.set_cons_zero, List.set_cons_succ, List.nil_append] at S); have hc := S.cells; simp only [Cells, cellsC, Im, Row, El, RTH, TreeH, TR, AU, AL, OrNil, AuP, SetO, Many, ScO, Nat.zero_add, Nat.reduceAdd] at hc))
  clear hc
  go_loopw [6] (fun i w' => ∃ (k : Nat), k ≤ W.length ∧ i = .int .i64 k ∧ As (∀ (t : Nat) (ht : t < W.length), t < k → W[t] ≠ xs) ∧ As (SH No I w [Im kW A W, Im kP B xs] w' I)) (fun i _ => W.length - (intOf i).toNat)
  case atStart => exact ⟨0, Nat.zero_le _, rfl, ⟨fun t _ ht => absurd ht (Nat.not_lt_zero t)⟩, ⟨S⟩⟩
  case round =>
    clear S
    obtain ⟨k, hk, rfl, HK, ⟨S⟩⟩ := hrel
    have hc := S.cells; simp only [Cells, cellsC, Im, Row, El, RTH, TreeH, TR, AU, AL, OrNil, AuP, SetO, Many, ScO, Nat.zero_add, Nat.reduceAdd] at hc
    by_cases hlt : k < W.length
    · have hlt' : decide ((k : Int) < W.length) = true := by simpa using hlt
      obtain ⟨b, o, A1, c1, rfl, hcx, hl1, hs1⟩ := (S.im 0 rfl).sl_at hlt
      obtain ⟨bv, hbv⟩ : ∃ bv, decide (W[k] = xs) = bv := ⟨_, rfl⟩
      have HBV := As.mk hbv
      replace S := S.know (h := Im kP A1 W[k]) hs1
      clear hs1 hbv
      cases bv
      · go_wp2_with (first | ((first | (with_reducible refine wpl_seal S ?_) | (with_reducible refine cw_seal S ?_) | (with_reducible refine bp_seal S ?_) | (with_reducible refine ca_seal S ?_)); clear S; (try clear hc); intro w1 S; (try simp only [List.set_cons_zero, List.set_cons_succ, List.nil_append] at S); have hc := S.cells; simp only [Cells, cellsC, Im, Row, El, RTH, TreeH, TR, AU, AL, OrNil, AuP, SetO, Many, ScO, Nat.zero_add, Nat.reduceAdd] at hc) | (go_at_call 19; refine (sameRow_c W[k] xs A1 B c1 d _ _ _ (S.im 0 rfl) (S.im 2 rfl) hxl).mono ?_; rw [HBV.out]; rintro e w1 ⟨rfl, hx⟩; clear hcx; have hx := hx.ext; replace S := S.ext hx; clear hx; (try clear hc); have hc := S.cells; simp only [Cells, cellsC, Im, Row, El, RTH, TreeH, TR, AU, AL, OrNil, AuP, SetO, Many, ScO, Nat.zero_add, Nat.reduceAdd] at hc))
        go_roundw
        case rel =>
          refine ⟨k + 1, by omega, by go_num, ⟨fun t ht htk => ?_⟩, ⟨(S.sel [1, 2] (by decide) rfl (by simp) : SH _ _ _ [_, _] _ _)⟩⟩
          rcases Nat.lt_or_eq_of_le (Nat.le_of_lt_succ htk) with h | h
          · exact HK.out t ht h
          · subst h; exact of_decide_eq_false HBV.out
        case measure => simp [intOf]; omega
      · have HF := As.mk (findT_some hlt (of_decide_eq_true HBV.out) HK.out)
        have HL1 : As (addN W xs = k ∧ addW W xs = W) := ⟨by unfold addN addW; rw [if_neg HNE.out, if_neg HNE.out, HF.out, if_pos (by omega), if_pos (by omega)]; exact ⟨rfl, rfl⟩⟩
        go_wp2_with (first | ((first | (with_reducible refine wpl_seal S ?_) | (with_reducible refine cw_seal S ?_) | (with_reducible refine bp_seal S ?_) | (with_reducible refine ca_seal S ?_)); clear S; (try clear hc); intro w1 S; (try simp only [List.set_cons_zero, List.set_cons_succ, List.nil_append] at S); have hc := S.cells; simp only [Cells, cellsC, Im, Row, El, RTH, TreeH, TR, AU, AL, OrNil, AuP, SetO, Many, ScO, Nat.zero_add, Nat.reduceAdd] at hc) | (go_at_call 19; refine (sameRow_c W[k] xs A1 B c1 d _ _ _ (S.im 0 rfl) (S.im 2 rfl) hxl).mono ?_; rw [HBV.out]; rintro e w1 ⟨rfl, hx⟩; clear hcx; have hx := hx.ext; replace S := S.ext hx; clear hx; (try clear hc); have hc := S.cells; simp only [Cells, cellsC, Im, Row, El, RTH, TreeH, TR, AU, AL, OrNil, AuP, SetO, Many, ScO, Nat.zero_add, Nat.reduceAdd] at hc))
        go_ret2
        rw [HL1.out.1, HL1.out.2]
        exact ⟨_, _, rfl, hc0, S.ret 1 rfl⟩
    · have hlt' : decide ((k : Int) < W.length) = false := by simpa using hlt
      obtain rfl : k = W.length := by omega
      have HF := As.mk (findT_none (L := W) (p := xs) fun t ht => HK.out t ht ht)
      have HL1 : As (addN W xs = W.length ∧ addW W xs = W ++ [xs]) := ⟨by unfold addN addW; rw [if_neg HNE.out, if_neg HNE.out, HF.out, if_neg (by omega), if_neg (by omega)]; exact ⟨rfl, rfl⟩⟩
      replace S := S.nilrow (k := kW)
      have hc := S.cells; simp only [Cells, cellsC, Im, Row, El, RTH, TreeH, TR, AU, AL, OrNil, AuP, SetO, Many, ScO, Nat.zero_add, Nat.reduceAdd] at hc
      go_wp2_with (first | ((first | (with_reducible refine wpl_seal S ?_) | (with_reducible refine cw_seal S ?_) | (with_reducible refine bp_seal S ?_) | (with_reducible refine ca_seal S ?_)); clear S; (try clear hc); intro w1 S; (try simp only [List.set_cons_zero, List.set_cons_succ, List.nil_append] at S); have hc := S.cells; simp only [Cells, cellsC, Im, Row, El, RTH, TreeH, TR, AU, AL, OrNil, AuP, SetO, Many, ScO, Nat.zero_add, Nat.reduceAdd] at hc) | (at_builtin; refine wpl_app S 0 rfl rfl _ _ rfl ty_rows rfl A c _ rfl I (fun _ _ h => h) ((S.im 1 rfl)) (by (try simp only [maxLen, List.length_nil, List.length_append, List.length_cons]); omega) (by (try simp only [maxLen, List.length_nil, List.length_append, List.length_cons]); omega) ?_; clear S; (try clear hc); intro va w1 S; simp only [List.set_cons_zero, List.set_cons_succ, List.nil_append] at S; have hc := S.cells; simp only [Cells, cellsC, Im, Row, El, RTH, TreeH, TR, AU, AL, OrNil, AuP, SetO, Many, ScO, Nat.zero_add, Nat.reduceAdd] at hc) | (at_builtin; refine wpl_push S 1 rfl rfl _ _ rfl ty_rows rfl xs _ _ rfl [_] _ (S.cel 0 rfl) ⟨_, _, rfl, hd0, S.im 3 rfl⟩ (by (try simp only [maxLen, List.length_nil, List.length_append, List.length_cons]); omega) (by (try simp only [maxLen, List.length_nil, List.length_append, List.length_cons]); omega) ?_; clear S; (try clear hc); intro va w1 S; simp only [List.set_cons_zero, List.set_cons_succ, List.nil_append] at S; have hc := S.cells; simp only [Cells, cellsC, Im, Row, El, RTH, TreeH, TR, AU, AL, OrNil, AuP, SetO, Many, ScO, Nat.zero_add, Nat.reduceAdd] at hc))
      rw [HL1.out.1, HL1.out.2]
      obtain ⟨A9, c9, I1, e1, hc9, S1, hI1⟩ := S.frow 1 rfl; subst e1; clear S hI1; have S := S1; clear S1; simp only [List.set_cons_zero, List.set_cons_succ, List.nil_append] at S
      go_ret2
      exact ⟨A9, c9, rfl, hc9, S.ret 1 rfl⟩
theorem yends_c (W : List (List Int)) (xs : List Int) (x : Nat) (A B : Option Addr) (c d : Nat) (w : World) (I : Fp) (hI : ∀ b, I b → b < w.heap.size) (hW : Sl kW w I A W) (hx : Sl kP w I B xs) (hd0 : xs.length ≤ d) (hWl : W.length ≤ 1000) (hxl : xs.length ≤ 100000) (hxx : x < xs.length) (hs2 : ShortW W) :
    Calls Try.prog 13 #[.slice A W.length c, .slice B xs.length d, .int .i64 x] w fun e w' => ∃ v, e = .returned v ∧ Upd w No I w' (Row kI v (endsL W (xs.take (x + 1)))) := by
  have S := (((SH.start w I hI).know (h := Im kP B xs) hx).know (h := Im kW A W) hW).nilrow (k := kI)
  have HS2 := As.mk hs2
  have hld : x + 1 ≤ d := by omega
  obtain ⟨zs, hzs⟩ : ∃ zs, xs.take (x + 1) = zs := ⟨_, rfl⟩
  have hzl : zs.length = x + 1 := by rw [← hzs, List.length_take]; omega
  have HZL := As.mk hzl
  have hzl1 : zs.length ≤ 1000000 := by omega
  have HZS := As.mk hzs
  have HE : As (endsL W (xs.take (x + 1)) = endK W zs W.length) := ⟨by rw [hzs]; rfl⟩
  clear hx hW hs2 hzs hzl
  have hc := S.cells; simp only [Cells, cellsC, Im, Row, El, RTH, TreeH, TR, AU, AL, OrNil, AuP, SetO, Many, ScO, Nat.zero_add, Nat.reduceAdd] at hc
  go_enter Try.func13, Try.ntmps13
  go_wp2_with (first | ((first | (with_reducible refine wpl_seal S ?_) | (with_reducible refine cw_seal S ?_) | (with_reducible refine bp_seal S ?_) | (with_reducible refine ca_seal S ?_)); clear S; (try clear hc); intro w1 S; (try simp only [List.set_cons_zero, List.set_cons_succ, List.nil_append] at S); have hc := S.cells; simp only [Cells, cellsC, Im, Row, El, RTH, TreeH, TR, AU, AL, OrNil, AuP, SetO, Many, ScO, Nat.zero_add, Nat.reduceAdd] at hc))
  clear hc
  go_loopw [7, 8] (fun o i w' => ∃ (t : Nat) (out : List Int), As (out = endK W zs t) ∧ t ≤ W.length ∧ i = .int .i64 t ∧ As (SH No I w [Row kI o out, Im kW A W, Im kP B xs] w' I)) (fun _ i _ => W.length - (intOf i).toNat)
  case atStart => exact ⟨0, [], ⟨rfl⟩, Nat.zero_le _, rfl, ⟨S⟩⟩
  case round =>
    clear S
    obtain ⟨t, out, HO, ht, rfl, ⟨S⟩⟩ := hrel
    have hol : out.length ≤ 1000000 := by rw [HO.out]; have := endK_le (W := W) (x := zs) (m := t); omega
    have hc := S.cells; simp only [Cells, cellsC, Im, Row, El, RTH, TreeH, TR, AU, AL, OrNil, AuP, SetO, Many, ScO, Nat.zero_add, Nat.reduceAdd] at hc
    have hq := S.cellsE; simp only [CellsE, cellsE, Im, Row, El, RTH, TreeH, TR, AU, AL, OrNil, AuP, SetO, Many, ScO, Nat.zero_add, Nat.reduceAdd] at hq
    by_cases htk : t < W.length
    · have htk' : decide ((t : Int) < W.length) = true := by simpa using htk
      have hpw : pa W t = W[t] := pa_eq htk
      have hly := HS2.out _ (List.getElem_mem htk)
      obtain ⟨b', o', A2, c2, rfl, hcy, hc2, hs2⟩ := (S.im 1 rfl).sl_at htk
      have hqy := ClE.cell (w := wr.drew) hcy
      have HYS : As (decide (pa W t <:+ zs) = true → endK W zs (t + 1) = out ++ [(t : Int)]) := ⟨fun h => by rw [endK_yes h, HO.out]⟩
      have HNO : As (decide (pa W t <:+ zs) = false → endK W zs (t + 1) = out) := ⟨fun h => by rw [endK_no h, HO.out]⟩
      rw [hpw] at HYS HNO
      generalize W[t] = ys at hcy hqy hc2 hs2 hly HYS HNO
      replace S := (S.know (h := Im kP A2 ys) hs2)
      clear hs2 hpw
      generalize hbv : decide (ys <:+ zs) = bv at HYS HNO
      have HBV := As.mk hbv
      clear hbv
      have HXL : As (∀ w' J, Sl kP w' J B xs → Sl kP w' J A2 ys → Calls Try.prog 29 #[.slice B (x + 1) d, .slice A2 ys.length c2] w' fun e w'' => e = .returned (.bool bv) ∧ Ext w' w'') := ⟨fun w' J h1 h2 => by
        have h3 := h1.take (x + 1)
        rw [HZS.out] at h3
        have := xlast_c zs ys B A2 d c2 w' J J h3 h2 (by rw [HZL.out]; exact hld) hc2 hzl1 hly
        rw [HBV.out, HZL.out] at this
        exact this⟩
      go_wp2_with (first | ((first | (with_reducible refine wpl_seal S ?_) | (with_reducible refine cw_seal S ?_) | (with_reducible refine bp_seal S ?_) | (with_reducible refine ca_seal S ?_)); clear S; (try clear hc); intro w1 S; (try simp only [List.set_cons_zero, List.set_cons_succ, List.nil_append] at S); have hc := S.cells; simp only [Cells, cellsC, Im, Row, El, RTH, TreeH, TR, AU, AL, OrNil, AuP, SetO, Many, ScO, Nat.zero_add, Nat.reduceAdd] at hc))
      refine wp_region_ext [⟨[0, 1, 2, 3, 4, 5, 6, 7], [], 8, false⟩] [] (by kernel_rfl) (by kernel_rfl) ?_
      refine mix_cons rfl rfl rfl ?_
      simp only [opsAt, List.getD_cons_succ, List.getD_cons_zero]
      repeat (go_big_quiet_step ((intro hC; first | rfl | (go_simp; first | done | rfl))))
      refine wpQuiet_nil ?_
      repeat (go_big_quiet_step ((intro hC; first | rfl | (go_simp; first | done | rfl))))
      refine wpQuiet_nil ?_
      clear hq hqy hc hcy
      replace S := S.drew
      generalize wr.drew = w1 at S ⊢
      have hc := S.cells; simp only [Cells, cellsC, Im, Row, El, RTH, TreeH, TR, AU, AL, OrNil, AuP, SetO, Many, ScO, Nat.zero_add, Nat.reduceAdd] at hc
      go_wp2_with (first | ((first | (with_reducible refine mx_seal S ?_) | (with_reducible refine wpl_seal S ?_) | (with_reducible refine ca_seal S ?_)); clear S; (try clear hc); intro w1 S; (try simp only [List.set_cons_zero, List.set_cons_succ, List.nil_append] at S); have hc := S.cells; simp only [Cells, cellsC, Im, Row, El, RTH, TreeH, TR, AU, AL, OrNil, AuP, SetO, Many, ScO, Nat.zero_add, Nat.reduceAdd] at hc) | (go_at_call 29; refine (HXL.out _ _ (S.im 3 rfl) (S.im 0 rfl)).mono ?_; rintro e w3 ⟨rfl, hx⟩; replace S := S.ext hx; clear hx; (try clear hc); have hc := S.cells; simp only [Cells, cellsC, Im, Row, El, RTH, TreeH, TR, AU, AL, OrNil, AuP, SetO, Many, ScO, Nat.zero_add, Nat.reduceAdd] at hc))
      (first | refine ⟨(fun h => by cases h), ?_⟩ | skip); (first | ((first | (with_reducible refine mx_seal S ?_)); clear S; (try clear hc); intro w1 S; (try simp only [List.set_cons_zero, List.set_cons_succ, List.nil_append] at S); have hc := S.cells; simp only [Cells, cellsC, Im, Row, El, RTH, TreeH, TR, AU, AL, OrNil, AuP, SetO, Many, ScO, Nat.zero_add, Nat.reduceAdd] at hc) | skip); (try simp only [Act.put, List.setIfInBounds_toArray, List.set_cons_succ, List.set_cons_zero])
      refine mix_last rfl ?_
      simp only [opsAt, List.getD_cons_succ, List.getD_cons_zero]
      repeat (go_big_quiet_step ((intro hC; first | rfl | (go_simp; first | done | rfl))))
      refine wpQuiet_nil ?_
      simp only [calmQ]
      have hc := S.cells; simp only [Cells, cellsC, Im, Row, El, RTH, TreeH, TR, AU, AL, OrNil, AuP, SetO, Many, ScO, Nat.zero_add, Nat.reduceAdd] at hc
      cases bv
      · go_wp2_with (first | ((first | (with_reducible refine wpl_seal S ?_) | (with_reducible refine cw_seal S ?_) | (with_reducible refine bp_seal S ?_) | (with_reducible refine ca_seal S ?_)); clear S; (try clear hc); intro w1 S; (try simp only [List.set_cons_zero, List.set_cons_succ, List.nil_append] at S); have hc := S.cells; simp only [Cells, cellsC, Im, Row, El, RTH, TreeH, TR, AU, AL, OrNil, AuP, SetO, Many, ScO, Nat.zero_add, Nat.reduceAdd] at hc))
        go_roundw
        case rel => exact ⟨t + 1, out, ⟨(HNO.out rfl).symm⟩, by omega, by go_num, ⟨(S.sel [1, 2, 3] (by decide) rfl (by simp) : SH _ _ _ [_, _, _] _ _)⟩⟩
        case measure => simp [intOf] <;> omega
      · go_wp2_with (first | ((first | (with_reducible refine wpl_seal S ?_) | (with_reducible refine cw_seal S ?_) | (with_reducible refine bp_seal S ?_) | (with_reducible refine ca_seal S ?_)); clear S; (try clear hc); intro w1 S; (try simp only [List.set_cons_zero, List.set_cons_succ, List.nil_append] at S); have hc := S.cells; simp only [Cells, cellsC, Im, Row, El, RTH, TreeH, TR, AU, AL, OrNil, AuP, SetO, Many, ScO, Nat.zero_add, Nat.reduceAdd] at hc) | (at_builtin; refine wpl_push S 2 rfl rfl _ _ rfl ty_ints rfl (t : Int) _ _ rfl [_] _ (S.cel 0 rfl) rfl (by (try simp only [maxLen, List.length_nil, List.length_append, List.length_cons]); omega) (by (try simp only [maxLen, List.length_nil, List.length_append, List.length_cons]); omega) ?_; clear S; (try clear hc); intro va w1 S; simp only [List.set_cons_zero, List.set_cons_succ, List.nil_append] at S; have hc := S.cells; simp only [Cells, cellsC, Im, Row, El, RTH, TreeH, TR, AU, AL, OrNil, AuP, SetO, Many, ScO, Nat.zero_add, Nat.reduceAdd] at hc))
        go_roundw
        case rel => exact ⟨t + 1, _, ⟨(HYS.out rfl).symm⟩, by omega, by go_num, ⟨(S.sel [2, 3, 4] (by decide) rfl (by simp) : SH _ _ _ [_, _, _] _ _)⟩⟩
        case measure => simp [intOf] <;> omega
    · have htk' : decide ((t : Int) < W.length) = false := by simpa using htk
      obtain rfl : t = W.length := by omega
      go_wp2_with (first | ((first | (with_reducible refine wpl_seal S ?_) | (with_reducible refine cw_seal S ?_) | (with_reducible refine bp_seal S ?_) | (with_reducible refine ca_seal S ?_)); clear S; (try clear hc); intro w1 S; (try simp only [List.set_cons_zero, List.set_cons_succ, List.nil_append] at S); have hc := S.cells; simp only [Cells, cellsC, Im, Row, El, RTH, TreeH, TR, AU, AL, OrNil, AuP, SetO, Many, ScO, Nat.zero_add, Nat.reduceAdd] at hc))
      go_ret
      refine ⟨_, rfl, ?_⟩
      rw [HE.out, ← HO.out]
      exact S.ret 0 rfl
end Go.Proofs.Ytooaelpfbamebaa
