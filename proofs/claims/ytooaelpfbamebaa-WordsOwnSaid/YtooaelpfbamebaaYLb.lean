/- The document's label. -/
import Derived.Test.YtooaelpfbamebaaWLab
namespace Go.Proofs.Ytooaelpfbamebaa
open Go.RowKit X
set_option maxHeartbeats 4000000
set_option maxRecDepth 8000
set_option linter.unusedSimpArgs false
set_option linter.unusedVariables false
theorem lab_find {W : List (List Int)} {zs : List Int} {wv : Int} : labF W wv (endsL W zs) = (((List.range W.length).find? fun k => decide (pa W k <:+ zs ∧ ((pa W k).length : Int) = wv)).map (fun k : Nat => (k : Int))).getD (-1) := by
  unfold labF endsL
  rw [List.find?_map, List.find?_filter]
  congr 3
  funext k
  simp [labP]
theorem lab_hit {W : List (List Int)} {zs : List Int} {wv : Int} {t : Nat} (ht : t < W.length) (h1 : pa W t <:+ zs) (h2 : ((pa W t).length : Int) = wv) (h3 : ∀ q, q < t → ¬ (pa W q <:+ zs ∧ ((pa W q).length : Int) = wv)) : labF W wv (endsL W zs) = t := by
  rw [lab_find]
  have : (List.range W.length).find? (fun k => decide (pa W k <:+ zs ∧ ((pa W k).length : Int) = wv)) = some t := by
    rw [List.find?_range_eq_some]
    exact ⟨decide_eq_true ⟨h1, h2⟩, List.mem_range.2 ht, fun q hq => by rw [decide_eq_false (h3 q hq)]; rfl⟩
  rw [this]
  rfl
theorem lab_miss {W : List (List Int)} {zs : List Int} {wv : Int} (h3 : ∀ q, q < W.length → ¬ (pa W q <:+ zs ∧ ((pa W q).length : Int) = wv)) : labF W wv (endsL W zs) = -1 := by
  rw [lab_find]
  have : (List.range W.length).find? (fun k => decide (pa W k <:+ zs ∧ ((pa W k).length : Int) = wv)) = none := by
    rw [List.find?_range_eq_none]
    exact fun q hq => by rw [decide_eq_false (h3 q hq)]; rfl
  rw [this]
  rfl
theorem ylabel_c (W : List (List Int)) (xs : List Int) (x : Nat) (wv : Int) (A B : Option Addr) (c d : Nat) (w : World) (I : Fp) (hI : ∀ b, I b → b < w.heap.size) (hW : Sl kW w I A W) (hx : Sl kP w I B xs) (hd0 : xs.length ≤ d) (hWl : W.length ≤ 1000) (hxl : xs.length ≤ 100000) (hxx : x < xs.length) (hs2 : ShortW W) :
    Calls Try.prog 25 #[.slice A W.length c, .slice B xs.length d, .int .i64 x, .int .i64 wv] w fun e w' => e = .returned (.int .i64 (labF W wv (endsL W (xs.take (x + 1))))) ∧ Ext w w' := by
  have S := ((SH.start w I hI).know (h := Im kP B xs) hx).know (h := Im kW A W) hW
  have HS2 := As.mk hs2
  have hld : x + 1 ≤ d := by omega
  obtain ⟨zs, hzs⟩ : ∃ zs, xs.take (x + 1) = zs := ⟨_, rfl⟩
  have hzl : zs.length = x + 1 := by rw [← hzs, List.length_take]; omega
  have HZL := As.mk hzl
  have hzl1 : zs.length ≤ 1000000 := by omega
  have HZS := As.mk hzs
  rw [hzs]
  clear hx hW hs2 hzs hzl
  have hc := S.cells; simp only [Cells, cellsC, Im, Row, El, RTH, TreeH, TR, AU, AL, OrNil, AuP, SetO, Many, ScO, Nat.zero_add, Nat.reduceAdd] at hc
  go_enter Try.func25, Try.ntmps25
  go_wp2_with (first | ((first | (with_reducible refine wpl_seal S ?_) | (with_reducible refine cw_seal S ?_) | (with_reducible refine bp_seal S ?_) | (with_reducible refine ca_seal S ?_)); clear S; (try clear hc); intro w1 S; (try simp only [List.set_cons_zero, List.set_cons_succ, List.nil_append] at S); have hc := S.cells; simp only [Cells, cellsC, Im, Row, El, RTH, TreeH, TR, AU, AL, OrNil, AuP, SetO, Many, ScO, Nat.zero_add, Nat.reduceAdd] at hc))
  clear hc
  go_loopw [9] (fun i w' => ∃ (t : Nat), t ≤ W.length ∧ i = .int .i64 t ∧ As (∀ q, q < t → ¬ (pa W q <:+ zs ∧ ((pa W q).length : Int) = wv)) ∧ As (SH No I w [Im kW A W, Im kP B xs] w' I)) (fun i _ => W.length - (intOf i).toNat)
  case atStart => exact ⟨0, Nat.zero_le _, rfl, ⟨fun q h => absurd h (Nat.not_lt_zero q)⟩, ⟨S⟩⟩
  case round =>
    clear S
    obtain ⟨t, ht, rfl, HK, ⟨S⟩⟩ := hrel
    have hc := S.cells; simp only [Cells, cellsC, Im, Row, El, RTH, TreeH, TR, AU, AL, OrNil, AuP, SetO, Many, ScO, Nat.zero_add, Nat.reduceAdd] at hc
    have hq := S.cellsE; simp only [CellsE, cellsE, Im, Row, El, RTH, TreeH, TR, AU, AL, OrNil, AuP, SetO, Many, ScO, Nat.zero_add, Nat.reduceAdd] at hq
    by_cases htk : t < W.length
    · have htk' : decide ((t : Int) < W.length) = true := by simpa using htk
      have hpw : pa W t = W[t] := pa_eq htk
      have hly := HS2.out _ (List.getElem_mem htk)
      obtain ⟨b', o', A2, c2, rfl, hcy, hc2, hs2⟩ := (S.im 0 rfl).sl_at htk
      have hqy := ClE.cell (w := wr.drew) hcy
      have HHT : As (W[t] <:+ zs → (W[t].length : Int) = wv → labF W wv (endsL W zs) = t) := ⟨fun h1 h2 => lab_hit htk (by rw [hpw]; exact h1) (by rw [hpw]; exact h2) HK.out⟩
      have HMS : As (¬ (W[t] <:+ zs ∧ (W[t].length : Int) = wv) → ∀ q, q < t + 1 → ¬ (pa W q <:+ zs ∧ ((pa W q).length : Int) = wv)) := ⟨fun h q hq => by
        rcases Nat.lt_or_eq_of_le (Nat.le_of_lt_succ hq) with h1 | h1
        · exact HK.out q h1
        · subst h1; rw [hpw]; exact h⟩
      generalize W[t] = ys at hcy hqy hc2 hs2 hly HHT HMS
      replace S := (S.know (h := Im kP A2 ys) hs2)
      clear hs2 hpw
      generalize hbv : decide (ys <:+ zs) = bv
      have HBV := As.mk hbv
      clear hbv
      have HXL : As (∀ w' J, Sl kP w' J B xs → Sl kP w' J A2 ys → Calls Try.prog 29 #[.slice B (x + 1) d, .slice A2 ys.length c2] w' fun e w'' => e = .returned (.bool bv) ∧ Ext w' w'') := ⟨fun w' J h1 h2 => by
        have h3 := h1.take (x + 1)
        rw [HZS.out] at h3
        have := xlast_c zs ys B A2 d c2 w' J J h3 h2 (by rw [HZL.out]; exact hld) hc2 hzl1 hly
        rw [HBV.out, HZL.out] at this
        exact this⟩
      by_cases hle : (ys.length : Int) = wv
      · have HWV := As.mk hle
        subst hle
        go_wp2_with (first | ((first | (with_reducible refine wpl_seal S ?_) | (with_reducible refine cw_seal S ?_) | (with_reducible refine bp_seal S ?_) | (with_reducible refine ca_seal S ?_)); clear S; (try clear hc); intro w1 S; (try simp only [List.set_cons_zero, List.set_cons_succ, List.nil_append] at S); have hc := S.cells; simp only [Cells, cellsC, Im, Row, El, RTH, TreeH, TR, AU, AL, OrNil, AuP, SetO, Many, ScO, Nat.zero_add, Nat.reduceAdd] at hc))
        refine wp_region_ext [⟨[0, 1, 2, 3, 4, 5, 6, 7, 8, 9, 10, 11, 12, 13, 14, 15], [], 16, false⟩] [17] (by kernel_rfl) (by kernel_rfl) ?_
        refine mix_cons rfl rfl rfl ?_
        simp only [opsAt, List.getD_cons_succ, List.getD_cons_zero]
        repeat (go_big_quiet_step ((intro hC; first | rfl | (go_simp; first | done | rfl))))
        refine wpQuiet_nil ?_
        repeat (go_big_quiet_step ((intro hC; first | rfl | (go_simp; first | done | rfl))))
        refine wpQuiet_nil ?_
        clear hq hqy hc hcy
        replace S := S.drew
        generalize wr.drew = w1 at S ⊢
        have hc := S.cells; simp only [Cells, cellsC, Im, Row, El, RTH, TreeH, TR, AU, AL, OrNil, AuP, SetO, Many, ScO, Nat.zero_add, Nat.reduceAdd] at hc
        go_wp2_with (first | ((first | (with_reducible refine mx_seal S ?_) | (with_reducible refine wpl_seal S ?_) | (with_reducible refine ca_seal S ?_)); clear S; (try clear hc); intro w1 S; (try simp only [List.set_cons_zero, List.set_cons_succ, List.nil_append] at S); have hc := S.cells; simp only [Cells, cellsC, Im, Row, El, RTH, TreeH, TR, AU, AL, OrNil, AuP, SetO, Many, ScO, Nat.zero_add, Nat.reduceAdd] at hc) | (go_at_call 29; refine (HXL.out _ _ (S.im 2 rfl) (S.im 0 rfl)).mono ?_; rintro e w3 ⟨rfl, hx⟩; replace S := S.ext hx; clear hx; (try clear hc); have hc := S.cells; simp only [Cells, cellsC, Im, Row, El, RTH, TreeH, TR, AU, AL, OrNil, AuP, SetO, Many, ScO, Nat.zero_add, Nat.reduceAdd] at hc))
        (first | refine ⟨(fun h => by cases h), ?_⟩ | skip); (first | ((first | (with_reducible refine mx_seal S ?_)); clear S; (try clear hc); intro w1 S; (try simp only [List.set_cons_zero, List.set_cons_succ, List.nil_append] at S); have hc := S.cells; simp only [Cells, cellsC, Im, Row, El, RTH, TreeH, TR, AU, AL, OrNil, AuP, SetO, Many, ScO, Nat.zero_add, Nat.reduceAdd] at hc) | skip); (try simp only [Act.put, List.setIfInBounds_toArray, List.set_cons_succ, List.set_cons_zero])
        refine mix_last rfl ?_
        simp only [opsAt, List.getD_cons_succ, List.getD_cons_zero]
        repeat (go_big_quiet_step ((intro hC; first | rfl | (go_simp; first | done | rfl))))
        refine wpQuiet_nil ?_
        simp only [calmQ]
        have hc := S.cells; simp only [Cells, cellsC, Im, Row, El, RTH, TreeH, TR, AU, AL, OrNil, AuP, SetO, Many, ScO, Nat.zero_add, Nat.reduceAdd] at hc
        cases bv
        · go_wp2_with (first | ((first | (with_reducible refine wpl_seal S ?_) | (with_reducible refine cw_seal S ?_) | (with_reducible refine bp_seal S ?_) | (with_reducible refine ca_seal S ?_)); clear S; (try clear hc); intro w1 S; (try simp only [List.set_cons_zero, List.set_cons_succ, List.nil_append] at S); have hc := S.cells; simp only [Cells, cellsC, Im, Row, El, RTH, TreeH, TR, AU, AL, OrNil, AuP, SetO, Many, ScO, Nat.zero_add, Nat.reduceAdd] at hc))
          go_roundw
          case rel => exact ⟨t + 1, by omega, by go_num, ⟨HMS.out fun h => by have := of_decide_eq_false HBV.out; exact this h.1⟩, ⟨(S.sel [1, 2] (by decide) rfl (by simp) : SH _ _ _ [_, _] _ _)⟩⟩
          case measure => simp [intOf] <;> omega
        · have HE := As.mk (HHT.out (of_decide_eq_true HBV.out) (by first | rfl | trivial))
          go_wp2_with (first | ((first | (with_reducible refine wpl_seal S ?_) | (with_reducible refine cw_seal S ?_) | (with_reducible refine bp_seal S ?_) | (with_reducible refine ca_seal S ?_)); clear S; (try clear hc); intro w1 S; (try simp only [List.set_cons_zero, List.set_cons_succ, List.nil_append] at S); have hc := S.cells; simp only [Cells, cellsC, Im, Row, El, RTH, TreeH, TR, AU, AL, OrNil, AuP, SetO, Many, ScO, Nat.zero_add, Nat.reduceAdd] at hc))
          go_ret
          exact ⟨ret_int HE.out.symm, S.out⟩
      · have hle3 : ((ys.length : Int) == wv) = false := by rw [beq_eq_false_iff_ne]; exact hle
        go_wp2_with (first | ((first | (with_reducible refine wpl_seal S ?_) | (with_reducible refine cw_seal S ?_) | (with_reducible refine bp_seal S ?_) | (with_reducible refine ca_seal S ?_)); clear S; (try clear hc); intro w1 S; (try simp only [List.set_cons_zero, List.set_cons_succ, List.nil_append] at S); have hc := S.cells; simp only [Cells, cellsC, Im, Row, El, RTH, TreeH, TR, AU, AL, OrNil, AuP, SetO, Many, ScO, Nat.zero_add, Nat.reduceAdd] at hc))
        refine wp_region_ext [⟨[0, 1, 2, 3, 4, 5, 6, 7, 8, 9, 10, 11, 12, 13, 14, 15], [], 16, false⟩] [17] (by kernel_rfl) (by kernel_rfl) ?_
        refine mix_cons rfl rfl rfl ?_
        simp only [opsAt, List.getD_cons_succ, List.getD_cons_zero]
        repeat (go_big_quiet_step ((intro hC; first | rfl | (go_simp; first | done | rfl))))
        refine wpQuiet_nil ?_
        repeat (go_big_quiet_step ((intro hC; first | rfl | (go_simp; first | done | rfl))))
        refine wpQuiet_nil ?_
        clear hq hqy hc hcy
        replace S := S.drew
        generalize wr.drew = w1 at S ⊢
        have hc := S.cells; simp only [Cells, cellsC, Im, Row, El, RTH, TreeH, TR, AU, AL, OrNil, AuP, SetO, Many, ScO, Nat.zero_add, Nat.reduceAdd] at hc
        go_wp2_with (first | ((first | (with_reducible refine mx_seal S ?_) | (with_reducible refine wpl_seal S ?_) | (with_reducible refine ca_seal S ?_)); clear S; (try clear hc); intro w1 S; (try simp only [List.set_cons_zero, List.set_cons_succ, List.nil_append] at S); have hc := S.cells; simp only [Cells, cellsC, Im, Row, El, RTH, TreeH, TR, AU, AL, OrNil, AuP, SetO, Many, ScO, Nat.zero_add, Nat.reduceAdd] at hc))
        (first | refine ⟨(fun h => by cases h), ?_⟩ | skip); (first | ((first | (with_reducible refine mx_seal S ?_)); clear S; (try clear hc); intro w1 S; (try simp only [List.set_cons_zero, List.set_cons_succ, List.nil_append] at S); have hc := S.cells; simp only [Cells, cellsC, Im, Row, El, RTH, TreeH, TR, AU, AL, OrNil, AuP, SetO, Many, ScO, Nat.zero_add, Nat.reduceAdd] at hc) | skip); (try simp only [Act.put, List.setIfInBounds_toArray, List.set_cons_succ, List.set_cons_zero])
        refine mix_last rfl ?_
        simp only [opsAt, List.getD_cons_succ, List.getD_cons_zero]
        repeat (go_big_quiet_step ((intro hC; first | rfl | (go_simp; first | done | rfl))))
        refine wpQuiet_nil ?_
        simp only [calmQ]
        have hc := S.cells; simp only [Cells, cellsC, Im, Row, El, RTH, TreeH, TR, AU, AL, OrNil, AuP, SetO, Many, ScO, Nat.zero_add, Nat.reduceAdd] at hc
        go_wp2_with (first | ((first | (with_reducible refine wpl_seal S ?_) | (with_reducible refine cw_seal S ?_) | (with_reducible refine bp_seal S ?_) | (with_reducible refine ca_seal S ?_)); clear S; (try clear hc); intro w1 S; (try simp only [List.set_cons_zero, List.set_cons_succ, List.nil_append] at S); have hc := S.cells; simp only [Cells, cellsC, Im, Row, El, RTH, TreeH, TR, AU, AL, OrNil, AuP, SetO, Many, ScO, Nat.zero_add, Nat.reduceAdd] at hc))
        go_roundw
        case rel => exact ⟨t + 1, by omega, by go_num, ⟨HMS.out fun h => hle h.2⟩, ⟨(S.sel [1, 2] (by decide) rfl (by simp) : SH _ _ _ [_, _] _ _)⟩⟩
        case measure => simp [intOf] <;> omega
    · have htk' : decide ((t : Int) < W.length) = false := by simpa using htk
      obtain rfl : t = W.length := by omega
      have HE := As.mk (lab_miss HK.out)
      go_wp2_with (first | ((first | (with_reducible refine wpl_seal S ?_) | (with_reducible refine cw_seal S ?_) | (with_reducible refine bp_seal S ?_) | (with_reducible refine ca_seal S ?_)); clear S; (try clear hc); intro w1 S; (try simp only [List.set_cons_zero, List.set_cons_succ, List.nil_append] at S); have hc := S.cells; simp only [Cells, cellsC, Im, Row, El, RTH, TreeH, TR, AU, AL, OrNil, AuP, SetO, Many, ScO, Nat.zero_add, Nat.reduceAdd] at hc))
      go_ret
      exact ⟨ret_int HE.out.symm, S.out⟩
end Go.Proofs.Ytooaelpfbamebaa
