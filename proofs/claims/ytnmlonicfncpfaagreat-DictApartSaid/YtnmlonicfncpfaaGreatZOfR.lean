/- Which variant a template's turn is; the owners of a variant: the document's. The owners of a variant: the document's. -/
import Derived.Test.YtnmlonicfncpfaaGreatZRsg
import Derived.Test.YtnmlonicfncpfaaGreatDYLd
import Derived.Test.YtnmlonicfncpfaaGreatDOwn
namespace Go.Proofs.YtnmlonicfncpfaaGreat
open Go.RowKit X
set_option maxHeartbeats 4000000
set_option maxRecDepth 8000
set_option linter.unusedSimpArgs false
set_option linter.unusedVariables false
abbrev kyO : Kd (Int × Int) := Kd.two 102
theorem ty_yowns : TyOk Tryz.prog 98 kyO 16 := TyOk.mk' (size := 2) (z := .agg #[.int .i64 0, .int .i64 0]) Tryz.underlying98 (by kernel_rfl) rfl rfl (by decide)
def ofP (l : List Tv) (t g : Int) : Int := if (0 ≤ t ∧ t < l.length) ∧ g ∈ (l.getD t.toNat default).turns then idxI (varsP l) (layT (l.getD t.toNat default) g) else -1
theorem yof_c (l : List Tv) (A : Option Addr) (n : Nat) (t g : Int) (w : World) (I : Fp) (hI : ∀ b, I b → b < w.heap.size) (hl : Sl kyT w I A l) (hln : l.length ≤ 20) (hs : ∀ t ∈ l, SmT t) {r : Int} (hr : ofP l t g = r) :
    Calls Tryz.prog 41 #[.slice A l.length n, .int .i64 t, .int .i64 g] w fun e w' => e = .returned (.int .i64 r) ∧ Ext w w' := by
  have S := (SH.start w I hI).know (h := Im kyT A l) hl
  have HV := As.mk (fun v (hv : varsP l = v) w I hI hl => yvars_c l A n w I hI hl (by omega) (fun t ht => (hs t ht).ok) hv)
  have HVL := As.mk (vars_small l hs).2.1
  have HS := As.mk hs
  have HR := As.mk hr
  unfold ofP at HR
  clear hl hs hr
  have hc := S.cells; simp only [Cells, cellsC, Im, Row, El, Nat.zero_add, Nat.reduceAdd] at hc
  by_cases h0 : t < 0
  · have h0' : decide (t < 0) = true := decide_eq_true h0
    have HF := As.mk ((if_neg (by omega)).symm.trans HR.out)
    obtain rfl := HF.out
    clear HF HR h0
    go_enter Tryz.func41, Tryz.ntmps41
    go_wp2_with (first | ((first | (with_reducible refine wpl_seal S ?_) | (with_reducible refine cw_seal S ?_) | (with_reducible refine bp_seal S ?_) | (with_reducible refine ca_seal S ?_)); clear S; (try clear hc); intro w1 S; (try simp only [List.set_cons_zero, List.set_cons_succ, List.nil_append] at S); have hc := S.cells; simp only [Cells, cellsC, Im, Row, El, Nat.zero_add, Nat.reduceAdd] at hc))
    go_ret
    exact ⟨rfl, S.out⟩
  · have h0' : decide (t < 0) = false := decide_eq_false h0
    by_cases h1 : t ≥ l.length
    · have h1' : decide (t ≥ (l.length : Int)) = true := decide_eq_true h1
      have HF := As.mk ((if_neg (by omega)).symm.trans HR.out)
      obtain rfl := HF.out
      clear HF HR
      go_enter Tryz.func41, Tryz.ntmps41
      go_wp2_with (first | ((first | (with_reducible refine wpl_seal S ?_) | (with_reducible refine cw_seal S ?_) | (with_reducible refine bp_seal S ?_) | (with_reducible refine ca_seal S ?_)); clear S; (try clear hc); intro w1 S; (try simp only [List.set_cons_zero, List.set_cons_succ, List.nil_append] at S); have hc := S.cells; simp only [Cells, cellsC, Im, Row, El, Nat.zero_add, Nat.reduceAdd] at hc))
      go_ret
      exact ⟨rfl, S.out⟩
    · have h1' : decide (t ≥ (l.length : Int)) = false := decide_eq_false h1
      obtain ⟨m, rfl⟩ : ∃ m : Nat, t = m := ⟨t.toNat, by omega⟩
      have hm : m < l.length := by omega
      have HTI := As.mk (List.getElem?_eq_getElem hm)
      have HD : As (l.getD m default = l[m]) := ⟨by rw [List.getD_eq_getElem?_getD, HTI.out]; rfl⟩
      have HT := As.mk (HS.out _ (List.getElem_mem hm)).ok
      have HR2 : As ((if g ∈ l[m].turns then idxI (varsP l) (layT l[m] g) else -1) = r) := ⟨by
        have := HR.out
        rw [Int.toNat_natCast, HD.out] at this
        rw [← this]
        by_cases h : g ∈ l[m].turns
        · rw [if_pos h, if_pos ⟨⟨by omega, by omega⟩, h⟩]
        · rw [if_neg h, if_neg (fun e => h e.2)]⟩
      clear HR HD
      generalize l[m] = x at HTI HT HR2
      have HML := As.mk HT.out.len
      have HMA := As.mk HT.out.may
      have htn := HT.out.few
      have HLD := As.mk (fun g hg A B n d w I hI hl hnc z hz ho => ylaid_c x g hg A B n d w I hI hl HT.out.mx HT.out.len hnc (z := z) hz ho)
      clear HT HS
      go_enter Tryz.func41, Tryz.ntmps41
      go_wp2_with (first | ((first | (with_reducible refine wpl_seal S ?_) | (with_reducible refine cw_seal S ?_) | (with_reducible refine bp_seal S ?_) | (with_reducible refine ca_seal S ?_)); clear S; (try clear hc); intro w1 S; (try simp only [List.set_cons_zero, List.set_cons_succ, List.nil_append] at S); have hc := S.cells; simp only [Cells, cellsC, Im, Row, El, Nat.zero_add, Nat.reduceAdd] at hc))
      clear hc
      go_loopw [7] (fun kv w' => ∃ (k : Nat) (J : Fp), kv = .int .i64 k ∧ k ≤ x.turns.length ∧ As (∀ (j : Nat) (h : j < x.turns.length), j < k → x.turns[j] ≠ g) ∧ As (SH No I w [Im kyT A l] w' J)) (fun kv _ => x.turns.length - (intOf kv).toNat)
      case atStart => exact ⟨0, _, rfl, by omega, ⟨fun j _ h => absurd h (Nat.not_lt_zero j)⟩, ⟨S⟩⟩
      case round =>
        clear S
        obtain ⟨k, J, rfl, hk, HK, ⟨S⟩⟩ := hrel
        obtain ⟨b1, o1, A2, c2, B2, d2, rfl, ⟨g0, g1, g2, g3, g4, g5⟩, ⟨hc2, hx2⟩, hd2, ht2⟩ := (S.im 0 rfl).tv_at HTI.out
        replace S := (S.know (h := Im kP A2 x.p.x.l) hx2).know (h := Im kI B2 x.turns) ht2
        clear hx2 ht2
        by_cases hkl : k < x.turns.length
        · have hkl' : decide ((k : Int) < x.turns.length) = true := decide_eq_true (by omega)
          obtain ⟨gb, go, rfl, hct⟩ := (S.im 0 rfl).num_at (List.getElem?_eq_getElem hkl)
          have HM := As.mk (List.getElem_mem hkl)
          have HN : As (x.turns[k] ≠ g → ∀ (j : Nat) (h : j < x.turns.length), j < k + 1 → x.turns[j] ≠ g) := ⟨fun h0 j hj h => by
            rcases Nat.lt_or_eq_of_le (Nat.le_of_lt_succ h) with h1 | h1
            · exact HK.out j hj h1
            · subst h1; exact h0⟩
          generalize x.turns[k] = gg at hct HM HN
          by_cases hgg : gg = g
          · subst hgg
            have hgg' : (gg == gg) = true := beq_self_eq_true _
            obtain ⟨hg1, hg2, hlk⟩ := HMA.out _ HM.out
            obtain ⟨g, rfl⟩ : ∃ g : Nat, gg = g := ⟨gg.toNat, by omega⟩
            rw [Int.toNat_natCast] at hlk
            have hg : g < 8 := by omega
            obtain ⟨z, hz⟩ : ∃ z, layP x.p.x g = z := ⟨_, rfl⟩
            have HZ := As.mk hz
            have HZL := As.mk (show z.l.length ≤ 1000000 by have := layP_len x.p.x g; rw [hz] at this; have := HML.out; omega)
            have HK2 := As.mk hlk
            have hzt : layT x (g : Int) = ⟨x.p.c, x.p.m, z⟩ := by unfold layT; rw [Int.toNat_natCast, hz]
            obtain ⟨V, hV⟩ : ∃ V, varsP l = V := ⟨_, rfl⟩
            have HR3 : As (idxI V ⟨x.p.c, x.p.m, z⟩ = r) := ⟨by rw [← HR2.out, if_pos HM.out, hzt, hV]⟩
            rw [hV] at HVL
            have HVV := As.mk hV
            have HVN := As.mk (show V.length ≤ 1000000 by have := HVL.out; omega)
            clear HN HR2 hV hz hzt hlk hg1 hg2
            obtain ⟨⟨c, m9, ⟨a, b, l9⟩⟩, turns⟩ := x
            dsimp only [tvV, picV] at *
            have p0 := ClE.cell (w := wr.drew) g0
            have p1 := ClE.cell (w := wr.drew) g1
            have p2 := ClE.cell (w := wr.drew) g2
            have p3 := ClE.cell (w := wr.drew) g3
            have p4 := ClE.cell (w := wr.drew) g4
            have p5 := ClE.cell (w := wr.drew) g5
            have hc := S.cells; simp only [Cells, cellsC, Im, Row, El, Nat.zero_add, Nat.reduceAdd] at hc
            have hq := S.cellsE; simp only [CellsE, cellsE, Im, Row, El, Nat.zero_add, Nat.reduceAdd] at hq
            have m1 : True := trivial
            go_wp2_with (first | ((first | (with_reducible refine wpl_seal S ?_) | (with_reducible refine cw_seal S ?_) | (with_reducible refine bp_seal S ?_) | (with_reducible refine ca_seal S ?_)); clear S; (try clear hc); intro w1 S; (try simp only [List.set_cons_zero, List.set_cons_succ, List.nil_append] at S); have hc := S.cells; simp only [Cells, cellsC, Im, Row, El, Nat.zero_add, Nat.reduceAdd] at hc))
            refine wp_region_ext [⟨[0, 2, 3, 4, 5], [6], 1, true⟩, ⟨[], [], 7, false⟩, ⟨[], [], 8, false⟩] [9] (by kernel_rfl) (by kernel_rfl) ?_
            refine mix_cons rfl rfl rfl ?_
            simp only [opsAt, List.getD_cons_succ, List.getD_cons_zero]
            repeat (go_big_quiet_step ((intro hC; first | rfl | (go_simp; first | done | rfl))))
            refine wpQuiet_nil ?_
            repeat (go_big_quiet_step ((intro hC; first | rfl | (go_simp; first | done | rfl))))
            refine wpQuiet_nil ?_
            clear hc hq p0 p1 p2 p3 p4 p5 g0 g1 g2 g3 g4 g5 hct
            replace S := S.drew
            generalize wr.drew = w5 at S ⊢
            have hc := S.cells; simp only [Cells, cellsC, Im, Row, El, Nat.zero_add, Nat.reduceAdd] at hc
            go_wp2_with (first | ((first | (with_reducible refine mx_seal S ?_) | (with_reducible refine wpl_seal S ?_) | (with_reducible refine ca_seal S ?_)); clear S; (try clear hc); intro w1 S; (try simp only [List.set_cons_zero, List.set_cons_succ, List.nil_append] at S); have hc := S.cells; simp only [Cells, cellsC, Im, Row, El, Nat.zero_add, Nat.reduceAdd] at hc) | (go_at_call 34; refine (HV.out V HVV.out _ _ S.bd (S.im 2 rfl)).mono ?_; rintro e w1 ⟨BV, cV, rfl, hcV, hu⟩; have hxf := hu.ext; obtain ⟨I1, S1, hI1⟩ := S.new hu; clear S hu hI1; (try clear hc); have S := S1; clear S1; have hc := S.cells; simp only [Cells, cellsC, Im, Row, El, Nat.zero_add, Nat.reduceAdd] at hc; have hc := S.cells; simp only [Cells, cellsC, Im, Row, El, Nat.zero_add, Nat.reduceAdd] at hc))
            refine ⟨fun _ => hxf, ?_⟩
            (first | refine ⟨(fun h => by cases h), ?_⟩ | skip); (first | ((first | (with_reducible refine mx_seal S ?_)); clear S; (try clear hc); intro w1 S; (try simp only [List.set_cons_zero, List.set_cons_succ, List.nil_append] at S); have hc := S.cells; simp only [Cells, cellsC, Im, Row, El, Nat.zero_add, Nat.reduceAdd] at hc) | skip); (try simp only [Act.put, List.setIfInBounds_toArray, List.set_cons_succ, List.set_cons_zero])
            refine mix_cons rfl rfl rfl ?_
            simp only [opsAt, List.getD_cons_succ, List.getD_cons_zero]
            repeat (go_big_quiet_step ((intro hC; first | rfl | (go_simp; first | done | rfl))))
            refine wpQuiet_nil ?_
            repeat (go_big_quiet_step ((intro hC; first | rfl | (go_simp; first | done | rfl))))
            refine wpQuiet_nil ?_
            go_wp2_with (first | ((first | (with_reducible refine mx_seal S ?_) | (with_reducible refine wpl_seal S ?_) | (with_reducible refine ca_seal S ?_)); clear S; (try clear hc); intro w1 S; (try simp only [List.set_cons_zero, List.set_cons_succ, List.nil_append] at S); have hc := S.cells; simp only [Cells, cellsC, Im, Row, El, Nat.zero_add, Nat.reduceAdd] at hc) | (go_at_call 64; refine (HLD.out g hg A2 (some ⟨gb, go, none⟩) c2 d2 _ _ S.bd (S.im 2 rfl) hc2 z HZ.out HK2.out).mono ?_; rintro e w1 ⟨BL, cL, rfl, hcL, hu⟩; obtain ⟨I1, S1, hI1⟩ := S.new hu; clear S hu hI1; (try clear hc); have S := S1; clear S1; have hc := S.cells; simp only [Cells, cellsC, Im, Row, El, Nat.zero_add, Nat.reduceAdd] at hc; have hc := S.cells; simp only [Cells, cellsC, Im, Row, El, Nat.zero_add, Nat.reduceAdd] at hc))
            (first | refine ⟨(fun h => by cases h), ?_⟩ | skip); (first | ((first | (with_reducible refine mx_seal S ?_)); clear S; (try clear hc); intro w1 S; (try simp only [List.set_cons_zero, List.set_cons_succ, List.nil_append] at S); have hc := S.cells; simp only [Cells, cellsC, Im, Row, El, Nat.zero_add, Nat.reduceAdd] at hc) | skip); (try simp only [Act.put, List.setIfInBounds_toArray, List.set_cons_succ, List.set_cons_zero])
            refine mix_cons rfl rfl rfl ?_
            simp only [opsAt, List.getD_cons_succ, List.getD_cons_zero]
            repeat (go_big_quiet_step ((intro hC; first | rfl | (go_simp; first | done | rfl))))
            refine wpQuiet_nil ?_
            repeat (go_big_quiet_step ((intro hC; first | rfl | (go_simp; first | done | rfl))))
            refine wpQuiet_nil ?_
            go_wp2_with (first | ((first | (with_reducible refine mx_seal S ?_) | (with_reducible refine wpl_seal S ?_) | (with_reducible refine ca_seal S ?_)); clear S; (try clear hc); intro w1 S; (try simp only [List.set_cons_zero, List.set_cons_succ, List.nil_append] at S); have hc := S.cells; simp only [Cells, cellsC, Im, Row, El, Nat.zero_add, Nat.reduceAdd] at hc) | (go_at_call 65; refine (find_c V ⟨c, m9, z⟩ BV BL cV cL _ _ S.bd (S.im 1 rfl) (S.im 0 rfl) HZL.out HVN.out HR3.out).mono ?_; rintro e w1 ⟨rfl, hx⟩; replace S := S.ext hx; clear hx; (try clear hc); have hc := S.cells; simp only [Cells, cellsC, Im, Row, El, Nat.zero_add, Nat.reduceAdd] at hc))
            (first | refine ⟨(fun h => by cases h), ?_⟩ | skip); (first | ((first | (with_reducible refine mx_seal S ?_)); clear S; (try clear hc); intro w1 S; (try simp only [List.set_cons_zero, List.set_cons_succ, List.nil_append] at S); have hc := S.cells; simp only [Cells, cellsC, Im, Row, El, Nat.zero_add, Nat.reduceAdd] at hc) | skip); (try simp only [Act.put, List.setIfInBounds_toArray, List.set_cons_succ, List.set_cons_zero])
            refine mix_last rfl ?_
            simp only [opsAt, List.getD_cons_succ, List.getD_cons_zero]
            repeat (go_big_quiet_step ((intro hC; first | rfl | (go_simp; first | done | rfl))))
            refine wpQuiet_nil ?_
            simp only [calmQ]
            go_wp2_with (first | ((first | (with_reducible refine wpl_seal S ?_) | (with_reducible refine cw_seal S ?_) | (with_reducible refine bp_seal S ?_) | (with_reducible refine ca_seal S ?_)); clear S; (try clear hc); intro w1 S; (try simp only [List.set_cons_zero, List.set_cons_succ, List.nil_append] at S); have hc := S.cells; simp only [Cells, cellsC, Im, Row, El, Nat.zero_add, Nat.reduceAdd] at hc))
            go_ret
            exact ⟨rfl, S.out⟩
          · have hgg' : (gg == g) = false := by rw [beq_eq_false_iff_ne]; exact hgg
            have HN2 := As.mk (HN.out hgg)
            clear HN hgg
            have hc := S.cells; simp only [Cells, cellsC, Im, Row, El, Nat.zero_add, Nat.reduceAdd] at hc
            go_wp2_with (first | ((first | (with_reducible refine wpl_seal S ?_) | (with_reducible refine cw_seal S ?_) | (with_reducible refine bp_seal S ?_) | (with_reducible refine ca_seal S ?_)); clear S; (try clear hc); intro w1 S; (try simp only [List.set_cons_zero, List.set_cons_succ, List.nil_append] at S); have hc := S.cells; simp only [Cells, cellsC, Im, Row, El, Nat.zero_add, Nat.reduceAdd] at hc))
            go_roundw
            case rel => exact ⟨k + 1, _, by go_num, by omega, HN2, ⟨(S.sel [2] (by decide) rfl (by simp) : SH _ _ _ [_] _ _)⟩⟩
            case measure => simp [intOf]; omega
        · have hkl' : decide ((k : Int) < x.turns.length) = false := decide_eq_false (by omega)
          have HF := As.mk ((if_neg (fun h => by obtain ⟨j, hj, e⟩ := List.mem_iff_getElem.1 h; exact HK.out j hj (by omega) e)).symm.trans HR2.out)
          obtain rfl := HF.out
          clear HF HR2
          have hc := S.cells; simp only [Cells, cellsC, Im, Row, El, Nat.zero_add, Nat.reduceAdd] at hc
          go_wp2_with (first | ((first | (with_reducible refine wpl_seal S ?_) | (with_reducible refine cw_seal S ?_) | (with_reducible refine bp_seal S ?_) | (with_reducible refine ca_seal S ?_)); clear S; (try clear hc); intro w1 S; (try simp only [List.set_cons_zero, List.set_cons_succ, List.nil_append] at S); have hc := S.cells; simp only [Cells, cellsC, Im, Row, El, Nat.zero_add, Nat.reduceAdd] at hc))
          go_ret
          exact ⟨rfl, S.out⟩
end Go.Proofs.YtnmlonicfncpfaaGreat
namespace Go.Proofs.YtnmlonicfncpfaaGreat
open Go.RowKit X
set_option maxHeartbeats 4000000
set_option maxRecDepth 8000
set_option linter.unusedSimpArgs false
set_option linter.unusedVariables false
theorem yowners_c (l : List Tv) (A : Option Addr) (n : Nat) (v : Int) (w : World) (I : Fp) (hI : ∀ b, I b → b < w.heap.size) (hl : Sl kyT w I A l) (hln : l.length ≤ 20) (hs : ∀ t ∈ l, SmT t) {r : List (Int × Int)} (hr : ownersP (l.map (tmOf (varsP l))) v = r) :
    Calls Tryz.prog 43 #[.slice A l.length n, .int .i64 v] w fun e w' => ∃ B c, e = .returned (.slice B r.length c) ∧ r.length ≤ c ∧ Upd w No I w' (Im kyO B r) := by
  have S := ((SH.start w I hI).know (h := Im kyT A l) hl).nilrow (k := kyO)
  have HV := As.mk (fun v (hv : varsP l = v) w I hI hl => yvars_c l A n w I hI hl (by omega) (fun t ht => (hs t ht).ok) hv)
  have HVL := As.mk (vars_small l hs).2.1
  have HS := As.mk hs
  obtain ⟨V, hV⟩ : ∃ V, varsP l = V := ⟨_, rfl⟩
  rw [hV] at HVL hr
  have HVV := As.mk hV
  have HVN := As.mk (show V.length ≤ 1000000 by have := HVL.out; omega)
  obtain ⟨f, hf⟩ : ∃ f : Nat → List (Int × Int), (fun i => ownT i ((l.map (tmOf V)).getD i default) v) = f := ⟨_, rfl⟩
  have HR : As ((List.range l.length).flatMap f = r) := ⟨by rw [← hr, ← hf]; unfold ownersP; rw [List.length_map]⟩
  have HF := As.mk (show ∀ (i : Nat) (t : Tv), l[i]? = some t → f i = (List.range t.turns.length).flatMap (own1 i (tmOf V t) v) by
    intro i t h
    rw [← hf]
    show ownT i ((l.map (tmOf V)).getD i default) v = _
    rw [List.getD_eq_getElem?_getD, List.getElem?_map, h]
    rfl)
  clear hl hs hr hf hV
  have hc := S.cells; simp only [Cells, cellsC, Im, Row, El, Im, Nat.zero_add, Nat.reduceAdd] at hc
  go_enter Tryz.func43, Tryz.ntmps43
  go_wp2_with (first | ((first | (with_reducible refine wpl_seal S ?_) | (with_reducible refine cw_seal S ?_) | (with_reducible refine bp_seal S ?_) | (with_reducible refine ca_seal S ?_)); clear S; (try clear hc); intro w1 S; (try simp only [List.set_cons_zero, List.set_cons_succ, List.nil_append] at S); have hc := S.cells; simp only [Cells, cellsC, Im, Row, El, Im, Nat.zero_add, Nat.reduceAdd] at hc) | (go_at_call 34; refine (HV.out V HVV.out _ _ S.bd (S.im 1 rfl)).mono ?_; rintro e w1 ⟨BV, cV, rfl, hcV, hu⟩; obtain ⟨I1, S1, hI1⟩ := S.new hu; clear S hu hI1; (try clear hc); have S := S1; clear S1; have hc := S.cells; simp only [Cells, cellsC, Im, Row, El, Im, Nat.zero_add, Nat.reduceAdd] at hc; have hc := S.cells; simp only [Cells, cellsC, Im, Row, El, Im, Nat.zero_add, Nat.reduceAdd] at hc))
  clear hc
  go_loopw [6, 7] (fun ov iv w' => ∃ (i : Nat) (o : List (Int × Int)) (J : Fp), iv = .int .i64 i ∧ i ≤ l.length ∧ o.length ≤ i * 8 ∧ As ((List.range i).flatMap f = o) ∧ As (SH No I w [Row kyO ov o, Im kyG BV V, Im kyT A l] w' J)) (fun _ iv _ => l.length - (intOf iv).toNat)
  case atStart => exact ⟨0, [], _, rfl, by omega, by simp, ⟨rfl⟩, ⟨(S.sel [1, 0, 2] (by decide) rfl (by simp) : SH _ _ _ [_, _, _] _ _)⟩⟩
  case round =>
    clear S
    obtain ⟨i, o, J, rfl, hi, hol, HS1, ⟨S⟩⟩ := hrel
    by_cases hlt : i < l.length
    · have hlt' : decide ((i : Int) < l.length) = true := decide_eq_true (by omega)
      have HTI := As.mk (List.getElem?_eq_getElem hlt)
      have HT := As.mk (HS.out _ (List.getElem_mem hlt)).ok
      generalize l[i] = t at HTI HT
      have HN := As.mk (show (List.range (i + 1)).flatMap f = o ++ (List.range t.turns.length).flatMap (own1 i (tmOf V t) v) by rw [flatR_succ, HS1.out, HF.out i t HTI.out])
      obtain ⟨b1, o1, A2, c2, B2, d2, rfl, -⟩ := (S.im 2 rfl).tv_at HTI.out
      have htn := HT.out.few
      have HML := As.mk HT.out.len
      have HMA := As.mk HT.out.may
      have HLD := As.mk (fun g hg A B n d w I hI hl hnc z hz ho => ylaid_c t g hg A B n d w I hI hl HT.out.mx HT.out.len hnc (z := z) hz ho)
      clear HT
      have HO1 := As.mk (show ∀ (k : Nat) (g : Int), t.turns[k]? = some g → own1 i (tmOf V t) v k = if idxI V (layT t g) = v then [((i : Int), g)] else [] by
        intro k g h
        unfold own1 tmOf
        dsimp only
        rw [List.getD_eq_getElem?_getD, List.getElem?_map, h, List.getD_eq_getElem?_getD, h]
        rfl)
      have hc := S.cells; simp only [Cells, cellsC, Im, Row, El, Im, Nat.zero_add, Nat.reduceAdd] at hc
      have m1 : True := trivial
      go_wp2_with (first | ((first | (with_reducible refine wpl_seal S ?_) | (with_reducible refine cw_seal S ?_) | (with_reducible refine bp_seal S ?_) | (with_reducible refine ca_seal S ?_)); clear S; (try clear hc); intro w1 S; (try simp only [List.set_cons_zero, List.set_cons_succ, List.nil_append] at S); have hc := S.cells; simp only [Cells, cellsC, Im, Row, El, Im, Nat.zero_add, Nat.reduceAdd] at hc))
      clear hc
      go_loopw [6, 8] (fun ov kv w' => ∃ (k : Nat) (p : List (Int × Int)) (J : Fp), kv = .int .i64 k ∧ k ≤ t.turns.length ∧ p.length ≤ i * 8 + k ∧ As (o ++ (List.range k).flatMap (own1 i (tmOf V t) v) = p) ∧ As (SH No I w [Row kyO ov p, Im kyG BV V, Im kyT (some ⟨b1, o1, none⟩) l] w' J)) (fun _ kv _ => t.turns.length - (intOf kv).toNat)
      case atStart => exact ⟨0, o, _, rfl, by omega, by omega, ⟨by simp⟩, ⟨S⟩⟩
      case round =>
        clear S
        obtain ⟨k, p, J, rfl, hk, hpl, HS2, ⟨S⟩⟩ := hrel
        obtain ⟨b3, o3, A2, c2, B2, d2, e1, ⟨g0, g1, g2, g3, g4, g5⟩, ⟨hc2, hx2⟩, hd2, ht2⟩ := (S.im 2 rfl).tv_at HTI.out
        rw [Option.some.injEq, Addr.mk.injEq] at e1
        obtain ⟨rfl, rfl, -⟩ := e1
        replace S := (S.know (h := Im kP A2 t.p.x.l) hx2).know (h := Im kI B2 t.turns) ht2
        clear hx2 ht2
        by_cases hkl : k < t.turns.length
        · have hkl' : decide ((k : Int) < t.turns.length) = true := decide_eq_true (by omega)
          obtain ⟨gb, go, rfl, hct⟩ := (S.im 0 rfl).num_at (List.getElem?_eq_getElem hkl)
          have HN1 := As.mk (show o ++ (List.range (k + 1)).flatMap (own1 i (tmOf V t) v) = p ++ (if idxI V (layT t t.turns[k]) = v then [((i : Int), t.turns[k])] else []) by rw [flatR_succ, ← List.append_assoc, HS2.out, HO1.out k _ (List.getElem?_eq_getElem hkl)])
          obtain ⟨hg1, hg2, hlk⟩ := HMA.out _ (List.getElem_mem hkl)
          have HTK := As.mk (List.getElem?_eq_getElem hkl)
          generalize t.turns[k] = gg at hct HN1 hg1 hg2 hlk HTK
          obtain ⟨g, rfl⟩ : ∃ g : Nat, gg = g := ⟨gg.toNat, by omega⟩
          rw [Int.toNat_natCast] at hlk
          have hg : g < 8 := by omega
          obtain ⟨z, hz⟩ : ∃ z, layP t.p.x g = z := ⟨_, rfl⟩
          have HZ := As.mk hz
          have HZL := As.mk (show z.l.length ≤ 1000000 by have := layP_len t.p.x g; rw [hz] at this; have := HML.out; omega)
          have HK2 := As.mk hlk
          have hzt : layT t (g : Int) = ⟨t.p.c, t.p.m, z⟩ := by unfold layT; rw [Int.toNat_natCast, hz]
          rw [hzt] at HN1
          obtain ⟨q, hq⟩ : ∃ q, idxI V ⟨t.p.c, t.p.m, z⟩ = q := ⟨_, rfl⟩
          rw [hq] at HN1
          have HQ := As.mk hq
          clear hz hzt hlk hg1 hg2 hq
          obtain ⟨⟨c, m9, ⟨a, b, l9⟩⟩, turns⟩ := t
          dsimp only [tvV, picV] at *
          have p0 := ClE.cell (w := wr.drew) g0
          have p1 := ClE.cell (w := wr.drew) g1
          have p2 := ClE.cell (w := wr.drew) g2
          have p3 := ClE.cell (w := wr.drew) g3
          have p4 := ClE.cell (w := wr.drew) g4
          have p5 := ClE.cell (w := wr.drew) g5
          have p6 := ClE.cell (w := wr.drew) hct
          have hc := S.cells; simp only [Cells, cellsC, Im, Row, El, Im, Nat.zero_add, Nat.reduceAdd] at hc
          have hq := S.cellsE; simp only [CellsE, cellsE, Im, Row, El, Im, Nat.zero_add, Nat.reduceAdd] at hq
          have m2 : True := trivial
          go_wp2_with (first | ((first | (with_reducible refine wpl_seal S ?_) | (with_reducible refine cw_seal S ?_) | (with_reducible refine bp_seal S ?_) | (with_reducible refine ca_seal S ?_)); clear S; (try clear hc); intro w1 S; (try simp only [List.set_cons_zero, List.set_cons_succ, List.nil_append] at S); have hc := S.cells; simp only [Cells, cellsC, Im, Row, El, Im, Nat.zero_add, Nat.reduceAdd] at hc))
          refine wp_region_ext [⟨[1, 2, 3, 4, 5, 6, 7, 8, 9, 10, 11, 12], [0, 15], 13, false⟩, ⟨[], [], 14, false⟩] [16] (by kernel_rfl) (by kernel_rfl) ?_
          refine mix_cons rfl rfl rfl ?_
          simp only [opsAt, List.getD_cons_succ, List.getD_cons_zero]
          repeat (go_big_quiet_step ((intro hC; first | rfl | (go_simp; first | done | rfl))))
          refine wpQuiet_nil ?_
          repeat (go_big_quiet_step ((intro hC; first | rfl | (go_simp; first | done | rfl))))
          refine wpQuiet_nil ?_
          clear hc hq p0 p1 p2 p3 p4 p5 p6 g0 g1 g2 g3 g4 g5 hct
          replace S := S.drew
          generalize wr.drew = w5 at S ⊢
          have hc := S.cells; simp only [Cells, cellsC, Im, Row, El, Im, Nat.zero_add, Nat.reduceAdd] at hc
          go_wp2_with (first | ((first | (with_reducible refine mx_seal S ?_) | (with_reducible refine wpl_seal S ?_) | (with_reducible refine ca_seal S ?_)); clear S; (try clear hc); intro w1 S; (try simp only [List.set_cons_zero, List.set_cons_succ, List.nil_append] at S); have hc := S.cells; simp only [Cells, cellsC, Im, Row, El, Im, Nat.zero_add, Nat.reduceAdd] at hc) | (go_at_call 64; refine (HLD.out g hg A2 (some ⟨gb, go, none⟩) c2 d2 _ _ S.bd (S.im 1 rfl) hc2 z HZ.out HK2.out).mono ?_; rintro e w1 ⟨BL, cL, rfl, hcL, hu⟩; obtain ⟨I1, S1, hI1⟩ := S.new hu; clear S hu hI1; (try clear hc); have S := S1; clear S1; have hc := S.cells; simp only [Cells, cellsC, Im, Row, El, Im, Nat.zero_add, Nat.reduceAdd] at hc; have hc := S.cells; simp only [Cells, cellsC, Im, Row, El, Im, Nat.zero_add, Nat.reduceAdd] at hc))
          (first | refine ⟨(fun h => by cases h), ?_⟩ | skip); (first | ((first | (with_reducible refine mx_seal S ?_)); clear S; (try clear hc); intro w1 S; (try simp only [List.set_cons_zero, List.set_cons_succ, List.nil_append] at S); have hc := S.cells; simp only [Cells, cellsC, Im, Row, El, Im, Nat.zero_add, Nat.reduceAdd] at hc) | skip); (try simp only [Act.put, List.setIfInBounds_toArray, List.set_cons_succ, List.set_cons_zero])
          refine mix_cons rfl rfl rfl ?_
          simp only [opsAt, List.getD_cons_succ, List.getD_cons_zero]
          repeat (go_big_quiet_step ((intro hC; first | rfl | (go_simp; first | done | rfl))))
          refine wpQuiet_nil ?_
          repeat (go_big_quiet_step ((intro hC; first | rfl | (go_simp; first | done | rfl))))
          refine wpQuiet_nil ?_
          go_wp2_with (first | ((first | (with_reducible refine mx_seal S ?_) | (with_reducible refine wpl_seal S ?_) | (with_reducible refine ca_seal S ?_)); clear S; (try clear hc); intro w1 S; (try simp only [List.set_cons_zero, List.set_cons_succ, List.nil_append] at S); have hc := S.cells; simp only [Cells, cellsC, Im, Row, El, Im, Nat.zero_add, Nat.reduceAdd] at hc) | (go_at_call 65; refine (find_c V ⟨c, m9, z⟩ BV BL cV cL _ _ S.bd (S.im 4 rfl) (S.im 0 rfl) HZL.out HVN.out HQ.out).mono ?_; rintro e w1 ⟨rfl, hx⟩; replace S := S.ext hx; clear hx; (try clear hc); have hc := S.cells; simp only [Cells, cellsC, Im, Row, El, Im, Nat.zero_add, Nat.reduceAdd] at hc))
          (first | refine ⟨(fun h => by cases h), ?_⟩ | skip); (first | ((first | (with_reducible refine mx_seal S ?_)); clear S; (try clear hc); intro w1 S; (try simp only [List.set_cons_zero, List.set_cons_succ, List.nil_append] at S); have hc := S.cells; simp only [Cells, cellsC, Im, Row, El, Im, Nat.zero_add, Nat.reduceAdd] at hc) | skip); (try simp only [Act.put, List.setIfInBounds_toArray, List.set_cons_succ, List.set_cons_zero])
          refine mix_last rfl ?_
          simp only [opsAt, List.getD_cons_succ, List.getD_cons_zero]
          repeat (go_big_quiet_step ((intro hC; first | rfl | (go_simp; first | done | rfl))))
          refine wpQuiet_nil ?_
          simp only [calmQ]
          by_cases hqv : q = v
          · subst hqv
            have hqv' : (q == q) = true := beq_self_eq_true _
            have HN2 := As.mk (HN1.out.trans (by rw [if_pos rfl]))
            clear HN1
            obtain ⟨b4, o4, A4, c4, B4, d4, e4, ⟨-, -, -, -, -, g5⟩, -, hd4, ht4⟩ := (S.im 5 rfl).tv_at HTI.out
            rw [Option.some.injEq, Addr.mk.injEq] at e4
            obtain ⟨rfl, rfl, -⟩ := e4
            obtain ⟨gb4, go4, rfl, hct4⟩ := ht4.num_at HTK.out
            obtain ⟨Ar, cr, rfl, -, -⟩ := S.row 3 rfl
            have hc := S.cells; simp only [Cells, cellsC, Im, Row, El, Im, Nat.zero_add, Nat.reduceAdd] at hc
            go_wp2_with (first | ((first | (with_reducible refine wpl_seal S ?_) | (with_reducible refine cw_seal S ?_) | (with_reducible refine bp_seal S ?_) | (with_reducible refine ca_seal S ?_)); clear S; (try clear hc); intro w1 S; (try simp only [List.set_cons_zero, List.set_cons_succ, List.nil_append] at S); have hc := S.cells; simp only [Cells, cellsC, Im, Row, El, Im, Nat.zero_add, Nat.reduceAdd] at hc) | (at_builtin; refine wpl_push S 4 rfl rfl _ _ rfl ty_yowns rfl ((i : Int), (g : Int)) _ _ rfl [.int .i64 i, .int .i64 g] _ (S.cel 0 rfl) rfl (by (try simp only [maxLen, List.length_nil, List.length_append, List.length_cons]); omega) (by (try simp only [maxLen, List.length_nil, List.length_append, List.length_cons]); omega) ?_; clear S; (try clear hc); intro va w1 S; simp only [List.set_cons_zero, List.set_cons_succ, List.nil_append] at S; have hc := S.cells; simp only [Cells, cellsC, Im, Row, El, Im, Nat.zero_add, Nat.reduceAdd] at hc))
            go_roundw
            case rel => exact ⟨k + 1, p ++ [((i : Int), (g : Int))], _, by go_num, by omega, by rw [List.length_append]; simp; omega, HN2, ⟨(S.sel [4, 5, 6] (by decide) rfl (by simp) : SH _ _ _ [_, _, _] _ _)⟩⟩
            case measure => simp [intOf]; omega
          · have hqv' : (q == v) = false := by rw [beq_eq_false_iff_ne]; exact hqv
            have HN2 := As.mk (HN1.out.trans (by rw [if_neg hqv, List.append_nil]))
            clear HN1 hqv
            have hc := S.cells; simp only [Cells, cellsC, Im, Row, El, Im, Nat.zero_add, Nat.reduceAdd] at hc
            go_wp2_with (first | ((first | (with_reducible refine wpl_seal S ?_) | (with_reducible refine cw_seal S ?_) | (with_reducible refine bp_seal S ?_) | (with_reducible refine ca_seal S ?_)); clear S; (try clear hc); intro w1 S; (try simp only [List.set_cons_zero, List.set_cons_succ, List.nil_append] at S); have hc := S.cells; simp only [Cells, cellsC, Im, Row, El, Im, Nat.zero_add, Nat.reduceAdd] at hc))
            go_roundw
            case rel => exact ⟨k + 1, p, _, by go_num, by omega, by omega, HN2, ⟨(S.sel [3, 4, 5] (by decide) rfl (by simp) : SH _ _ _ [_, _, _] _ _)⟩⟩
            case measure => simp [intOf]; omega
        · have hkl' : decide ((k : Int) < t.turns.length) = false := decide_eq_false (by omega)
          obtain rfl : k = t.turns.length := by omega
          have HN2 := As.mk (HN.out.trans HS2.out)
          have hc := S.cells; simp only [Cells, cellsC, Im, Row, El, Im, Nat.zero_add, Nat.reduceAdd] at hc
          go_wp2_with (first | ((first | (with_reducible refine wpl_seal S ?_) | (with_reducible refine cw_seal S ?_) | (with_reducible refine bp_seal S ?_) | (with_reducible refine ca_seal S ?_)); clear S; (try clear hc); intro w1 S; (try simp only [List.set_cons_zero, List.set_cons_succ, List.nil_append] at S); have hc := S.cells; simp only [Cells, cellsC, Im, Row, El, Im, Nat.zero_add, Nat.reduceAdd] at hc))
          go_roundw
          case rel => exact ⟨i + 1, p, _, by go_num, by omega, by omega, HN2, ⟨(S.sel [2, 3, 4] (by decide) rfl (by simp) : SH _ _ _ [_, _, _] _ _)⟩⟩
          case measure => simp [intOf]; omega
    · have hlt' : decide ((i : Int) < l.length) = false := decide_eq_false (by omega)
      obtain rfl : i = l.length := by omega
      have HF2 := As.mk (HS1.out.symm.trans HR.out)
      obtain rfl := HF2.out
      have hc := S.cells; simp only [Cells, cellsC, Im, Row, El, Im, Nat.zero_add, Nat.reduceAdd] at hc
      go_wp2_with (first | ((first | (with_reducible refine wpl_seal S ?_) | (with_reducible refine cw_seal S ?_) | (with_reducible refine bp_seal S ?_) | (with_reducible refine ca_seal S ?_)); clear S; (try clear hc); intro w1 S; (try simp only [List.set_cons_zero, List.set_cons_succ, List.nil_append] at S); have hc := S.cells; simp only [Cells, cellsC, Im, Row, El, Im, Nat.zero_add, Nat.reduceAdd] at hc))
      obtain ⟨A1, c1, I1, e1, hc1, S1, hI1⟩ := S.frow 0 rfl; subst e1; clear S hI1; have S := S1; clear S1; simp only [List.set_cons_zero, List.set_cons_succ, List.nil_append] at S
      go_ret
      exact ⟨A1, c1, rfl, hc1, S.ret 0 rfl⟩
end Go.Proofs.YtnmlonicfncpfaaGreat
