/- Labels of a row. -/
import Derived.Test.YtooaelpfbamebaaWLaw
namespace Go.Proofs.Ytooaelpfbamebaa
open Go.RowKit X
set_option maxHeartbeats 4000000
set_option maxRecDepth 8000
set_option linter.unusedSimpArgs false
set_option linter.unusedVariables false
/-- what the closure of a label reads -/
def LbR (w : World) (g1 g2 gs : Nat) (W : List (List Int)) (wv : Int) : Prop := w.cell? ⟨g1, 0, none⟩ = some (.pointer (some ⟨gs, 0, none⟩)) ∧ w.cell? ⟨g2, 0, none⟩ = some (.int .i64 wv) ∧ ∃ A c D, w.cell? ⟨gs, 1, none⟩ = some (.slice A W.length c) ∧ Sl kW w D A W
theorem LbR.ext {w w' : World} {g1 g2 gs : Nat} {W : List (List Int)} {wv : Int} (h : LbR w g1 g2 gs W wv) (hx : Ext w w') : LbR w' g1 g2 gs W wv := by
  obtain ⟨h1, h2, A, c, D, h3, h4⟩ := h
  exact ⟨hx.cell h1, hx.cell h2, A, c, D, hx.cell h3, h4.below hx⟩
theorem wclo_c (x m n c c' b o g1 g2 gs : Nat) (A' : Option Addr) (wv : Int) (bv : Bool) (w : World) (h1 : w.cell? ⟨g1, 0, none⟩ = some (.pointer (some ⟨gs, 0, none⟩))) (h2 : w.cell? ⟨g2, 0, none⟩ = some (.int .i64 wv)) (h3 : w.cell? ⟨gs, 1, none⟩ = some (.slice (some ⟨b, o, none⟩) m c)) (hx : x < m) (h4 : w.cell? ⟨b, o + x, none⟩ = some (.slice A' n c')) (hb : ((n : Int) == wv) = bv) :
    Calls Try.prog 39 #[.int .i64 x, .pointer (some ⟨g1, 0, none⟩), .pointer (some ⟨g2, 0, none⟩)] w fun e w' => e = .returned (.bool bv) ∧ Ext w w' := by
  have S := SH.start w No (fun b h => h.elim)
  have hx9 : (x : Int) < m := by omega
  have hq1 := ClE.cell (w := w.drew) h1
  have hq2 := ClE.cell (w := w.drew) h2
  have hq3 := ClE.cell (w := w.drew) h3
  have hq4 := ClE.cell (w := w.drew) h4
  have hc := S.cells; simp only [Cells, cellsC, Im, Row, El, RTH, TreeH, TR, AU, AL, OrNil, AuP, SetO, Many, ScO, Nat.zero_add, Nat.reduceAdd] at hc
  go_enter Try.func39, Try.ntmps39
  go_wp2_with (first | ((first | (with_reducible refine wpl_seal S ?_) | (with_reducible refine cw_seal S ?_) | (with_reducible refine bp_seal S ?_) | (with_reducible refine ca_seal S ?_)); clear S; (try clear hc); intro w1 S; (try simp only [List.set_cons_zero, List.set_cons_succ, List.nil_append] at S); have hc := S.cells; simp only [Cells, cellsC, Im, Row, El, RTH, TreeH, TR, AU, AL, OrNil, AuP, SetO, Many, ScO, Nat.zero_add, Nat.reduceAdd] at hc))
  have hq := S.cellsE; simp only [CellsE, cellsE, Im, Row, El, RTH, TreeH, TR, AU, AL, OrNil, AuP, SetO, Many, ScO, Nat.zero_add, Nat.reduceAdd] at hq
  refine wp_region_ext [] [0, 1, 2, 3, 4, 5, 6, 7, 8, 9, 10] (by kernel_rfl) (by kernel_rfl) ?_
  refine mix_last rfl ?_
  simp only [opsAt, List.getD_cons_succ, List.getD_cons_zero]
  repeat (go_big_quiet_step ((intro hC; first | rfl | (go_simp; first | done | rfl))))
  refine wpQuiet_nil ?_
  simp only [calmQ]
  clear hq hq1 hq2 hq3 hq4
  replace S := S.drew
  have hc := S.cells; simp only [Cells, cellsC, Im, Row, El, RTH, TreeH, TR, AU, AL, OrNil, AuP, SetO, Many, ScO, Nat.zero_add, Nat.reduceAdd] at hc
  go_wp2_with (first | ((first | (with_reducible refine wpl_seal S ?_) | (with_reducible refine cw_seal S ?_) | (with_reducible refine bp_seal S ?_) | (with_reducible refine ca_seal S ?_)); clear S; (try clear hc); intro w1 S; (try simp only [List.set_cons_zero, List.set_cons_succ, List.nil_append] at S); have hc := S.cells; simp only [Cells, cellsC, Im, Row, El, RTH, TreeH, TR, AU, AL, OrNil, AuP, SetO, Many, ScO, Nat.zero_add, Nat.reduceAdd] at hc))
  go_ret
  exact ⟨rfl, S.out⟩
def labP (W : List (List Int)) (wv : Int) (y : Int) : Bool := ((pa W y.toNat).length : Int) == wv
def LabR (W : List (List Int)) (wv : Int) (ids : List Int) (r : Int) : Prop := (r = -1 ∧ ∀ y ∈ ids, labP W wv y = false) ∨ ∃ i : Nat, ∃ h : i < ids.length, r = i ∧ labP W wv ids[i] = true ∧ ∀ t (ht : t < i), labP W wv (ids[t]'(by omega)) = false
def labF (W : List (List Int)) (wv : Int) (ids : List Int) : Int := (ids.find? (labP W wv)).getD (-1)
theorem labR_ex (W : List (List Int)) (wv : Int) : ∀ ids : List Int, (LabR W wv ids (-1) ∧ labF W wv ids = -1) ∨ ∃ i : Nat, ∃ h : i < ids.length, LabR W wv ids i ∧ labF W wv ids = ids[i]
  | [] => .inl ⟨.inl ⟨rfl, by simp⟩, rfl⟩
  | y :: r => by
    rcases hb : labP W wv y with _ | _
    · have e : labF W wv (y :: r) = labF W wv r := by unfold labF; rw [List.find?_cons_of_neg (by rw [hb]; simp)]
      rcases labR_ex W wv r with ⟨h1, h2⟩ | ⟨i, hi, h1, h2⟩
      · refine .inl ⟨.inl ⟨rfl, fun z hz => ?_⟩, by rw [e, h2]⟩
        rcases List.mem_cons.1 hz with rfl | hz
        · exact hb
        · rcases h1 with ⟨_, h1⟩ | ⟨j, _, h1, _⟩
          · exact h1 z hz
          · omega
      · refine .inr ⟨i + 1, by simpa using hi, .inr ⟨i + 1, by simpa using hi, rfl, ?_, fun t ht => ?_⟩, by rw [e, h2]; rfl⟩
        · rcases h1 with ⟨h1, _⟩ | ⟨j, hj, h1, h3, _⟩
          · omega
          · obtain rfl : i = j := by omega
            exact h3
        · rcases t with _ | t
          · exact hb
          · rcases h1 with ⟨h1, _⟩ | ⟨j, hj, h1, _, h3⟩
            · omega
            · obtain rfl : i = j := by omega
              exact h3 t (by omega)
    · exact .inr ⟨0, by simp, .inr ⟨0, by simp, rfl, hb, fun t ht => absurd ht (Nat.not_lt_zero t)⟩, by unfold labF; rw [List.find?_cons_of_pos hb]; rfl⟩
theorem windex_c (ids : List Int) (W : List (List Int)) (wv r : Int) (hr : LabR W wv ids r) (hid : ∀ y ∈ ids, 0 ≤ y ∧ y < W.length) (A : Option Addr) (c g1 g2 gs : Nat) (w : World) (D : Fp) (hs : Sl kI w D A ids) (hL : LbR w g1 g2 gs W wv) (hn : ids.length ≤ 1000000) :
    Calls Try.prog 38 #[.slice A ids.length c, .func (.func 39) #[] #[.pointer (some ⟨g1, 0, none⟩), .pointer (some ⟨g2, 0, none⟩)]] w fun e w' => e = .returned (.int .i64 r) ∧ Ext w w' := by
  have HR := As.mk hr
  have HID := As.mk hid
  have HS := As.mk hs
  have HL := As.mk hL
  clear hr hid hs hL
  go_enter Try.func38, Try.ntmps38
  go_wp2
  go_loopw [8] (fun i w' => ∃ k : Nat, k ≤ ids.length ∧ i = .int .i64 k ∧ As (∀ t (ht : t < ids.length), t < k → labP W wv ids[t] = false) ∧ As (Ext w w')) (fun i _ => ids.length - (intOf i).toNat)
  case atStart => exact ⟨0, Nat.zero_le _, rfl, ⟨fun t _ h => absurd h (Nat.not_lt_zero t)⟩, ⟨Ext.refl _⟩⟩
  case round =>
    obtain ⟨k, hk, rfl, HK, HX⟩ := hrel
    by_cases hlt : k < ids.length
    · have hlt' : decide ((k : Int) < ids.length) = true := by simpa using hlt
      obtain ⟨b, o, rfl, hce⟩ := (HS.out.below HX.out).int_at hlt
      obtain ⟨bv, hbv⟩ : ∃ bv, labP W wv ids[k] = bv := ⟨_, rfl⟩
      have HBV := As.mk hbv
      have HCL : As (Calls Try.prog 39 #[.int .i64 ids[k], .pointer (some ⟨g1, 0, none⟩), .pointer (some ⟨g2, 0, none⟩)] wr fun e w' => e = .returned (.bool bv) ∧ Ext wr w') := ⟨by
        obtain ⟨h1, h2, A9, c9, D9, h3, h4⟩ := HL.out.ext HX.out
        obtain ⟨i1, i2⟩ := HID.out _ (List.getElem_mem hlt)
        obtain ⟨q, hq⟩ : ∃ q : Nat, ids[k] = q := ⟨ids[k].toNat, by omega⟩
        rw [hq] at i2 hbv ⊢
        have hql : q < W.length := by omega
        obtain ⟨b8, o8, A8, c8, rfl, h5, h6, h7⟩ := h4.sl_at hql
        refine wclo_c q W.length W[q].length c9 c8 b8 o8 g1 g2 gs A8 wv bv wr h1 h2 h3 hql h5 ?_
        rw [← hbv]
        unfold labP
        rw [Int.toNat_natCast, pa_eq hql]⟩
      generalize hy : ids[k] = y at hce HCL
      have HY := As.mk hy
      clear hbv hy
      cases bv
      · go_wp2_with (first | (go_at_call 39; refine HCL.out.mono ?_; rintro e w' ⟨rfl, hx⟩; have HX' := As.mk (HX.out.tr hx); clear hx))
        go_roundw
        case rel =>
          refine ⟨k + 1, by omega, by go_num, ⟨fun t ht h => ?_⟩, HX'⟩
          rcases Nat.lt_or_eq_of_le (Nat.le_of_lt_succ h) with h1 | h1
          · exact HK.out t ht h1
          · subst h1; exact HBV.out
        case measure => simp [intOf]; omega
      · have HE : As ((k : Int) = r) := ⟨by
          rcases HR.out with ⟨h1, h2⟩ | ⟨i, hi, h1, h2, h3⟩
          · have := h2 _ (List.getElem_mem hlt)
            rw [HBV.out] at this; cases this
          · rcases Nat.lt_trichotomy i k with h | h | h
            · have := HK.out i hi h
              rw [h2] at this; cases this
            · omega
            · have := h3 k h
              rw [HBV.out] at this; cases this⟩
        go_wp2_with (first | (go_at_call 39; refine HCL.out.mono ?_; rintro e w' ⟨rfl, hx⟩; have HX' := As.mk (HX.out.tr hx); clear hx))
        go_ret
        exact ⟨ret_int HE.out, HX'.out⟩
    · have hlt' : decide ((k : Int) < ids.length) = false := by simpa using hlt
      have HE : As (-1 = r) := ⟨by
        rcases HR.out with ⟨h1, h2⟩ | ⟨i, hi, h1, h2, h3⟩
        · exact h1.symm
        · have := HK.out i hi (by omega)
          rw [h2] at this; cases this⟩
      go_wp2
      go_ret
      exact ⟨ret_int HE.out, HX.out⟩
theorem endsR_rng {L W : List (List Int)} {z y : Int} (h : y ∈ endsR L W z) : 0 ≤ y ∧ y < W.length := by
  unfold endsR at h
  split at h
  · obtain ⟨k, e, h1, _⟩ := endsL_mem.1 h
    omega
  · cases h
section
variable {F0 I0 F I : Fp} {w0 w w' : World} {O : List Ob} {L W : List (List Int)} {A : Option Addr} {c gs gc : Nat} {xs : List Int} {k : Int}
theorem X.SH.openSetL (S : SH F0 I0 w0 (SetO gs L W :: O) w I) : ∃ gt v pa, SH F0 I0 w0 (setM gs L W gt v pa ++ O) w I := by
  obtain ⟨⟨gt, v, pa⟩, S1⟩ := S.pick (h' := fun x : Nat × Value × Value => Many (setM gs L W x.1 x.2.1 x.2.2)) 0 rfl (fun F ⟨gt, v, pa, h⟩ => ⟨(gt, v, pa), h⟩)
  exact ⟨gt, v, pa, SH.openM S1⟩
theorem wlabel_r (S0 : SH F0 I0 w0 O w I) (i : Nat) (e : O[i]? = some (SetO gs L W)) (hL : L.length ≤ 100000) (hW : W.length ≤ 1000) (hG : GoodR L W) (hNE : NeW W) (B : Nat) (hB : ∀ x ∈ L, x.length ≤ B) (hB1 : B ≤ 1000) (hx : Sl kP w I A xs) (hn : xs.length ≤ 1000000) (wv : Int) :
    Calls Try.prog 24 #[.pointer (some ⟨gs, 0, none⟩), .slice A xs.length c, .int .i64 wv] w fun e w' => ∃ v J, e = .returned v ∧ SH F0 I0 w0 (Row kI v ((scanR L W 0 xs).map (labF W wv)) :: O) w' J := by
  obtain ⟨F, hI, S, back⟩ := S0.call2 i e
  have HB0 := As.mk back
  have HL5 := As.mk hB
  have hO : O.set i (SetO gs L W) = O := by
    have hlt := lt_of_get e
    rw [List.getElem?_eq_getElem hlt] at e
    rw [← Option.some.inj e, List.set_getElem_self]
  have HO0 := As.mk hO
  have HNE := As.mk hNE
  have HG := As.mk hG
  obtain ⟨SC, hSC⟩ : ∃ SC, scanR L W 0 xs = SC := ⟨_, rfl⟩
  have HSC := As.mk hSC
  have hsl : SC.length = xs.length := by rw [← hSC]; exact scanR_len xs
  have HSL := As.mk hsl
  have HSR : As (∀ l ∈ SC, l.length ≤ 1000000 ∧ ∀ y ∈ l, 0 ≤ y ∧ y < W.length) := ⟨fun l hl => by
    rw [← hSC] at hl
    unfold scanR at hl
    obtain ⟨z, _, rfl⟩ := List.mem_map.1 hl
    exact ⟨by have := endsR_len (L := L) (W := W) (z := z); omega, fun y hy => endsR_rng hy⟩⟩
  have S := (S.know (h := Im kP A xs) hx)
  clear back S0 hB hO e hNE hG hx hSC hsl
  have hc := S.cells; simp only [Cells, cellsC, Im, Row, El, RTH, TreeH, TR, AU, AL, OrNil, AuP, SetO, Many, ScO, Nat.zero_add, Nat.reduceAdd] at hc
  go_enter Try.func24, Try.ntmps24
  go_wp2_with (first | ((first | (with_reducible refine wpl_seal S ?_) | (with_reducible refine cw_seal S ?_) | (with_reducible refine bp_seal S ?_) | (with_reducible refine ca_seal S ?_)); clear S; (try clear hc); intro w1 S; (try simp only [List.set_cons_zero, List.set_cons_succ, List.nil_append] at S); have hc := S.cells; simp only [Cells, cellsC, Im, Row, El, RTH, TreeH, TR, AU, AL, OrNil, AuP, SetO, Many, ScO, Nat.zero_add, Nat.reduceAdd] at hc) | (go_at_call 11; refine (wscan_r S 3 rfl hL (by omega) HG.out HNE.out B HL5.out hB1 (S.im 2 rfl) hn).mono ?_; rw [HSC.out]; rintro e w1 ⟨v9, J, rfl, S9⟩; clear S hc; have S := S9; clear S9; obtain ⟨A5, c5, I1, e1, hc5, S1, hI1⟩ := S.frow 0 rfl; subst e1; clear S hI1; have S := S1; clear S1; simp only [List.set_cons_zero, List.set_cons_succ, List.nil_append] at S; rw [HSL.out] at hc5 ⊢; have hc := S.cells; simp only [Cells, cellsC, Im, Row, El, RTH, TreeH, TR, AU, AL, OrNil, AuP, SetO, Many, ScO, Nat.zero_add, Nat.reduceAdd] at hc))
  replace S := (S.sel [4, 0, 1, 2, 3] (by decide) rfl (by simp) : SH _ _ _ [_, _, _, _, _] _ _)
  obtain ⟨gt, vW, pa, S⟩ := S.openSetL
  unfold setM at S
  simp only [List.cons_append, List.nil_append] at S
  obtain ⟨AW, cW, rfl, hW1, -⟩ := S.row 2 rfl
  replace S := ((S.sel [0, 1, 2, 3, 4, 5, 6, 7] (by decide) rfl (by simp) : SH _ _ _ [_, _, _, _, _, _, _, _] _ _)).nilrow (k := kI)
  obtain ⟨g2, eg2⟩ := S.name 6 rfl; rw [← eg2] at S ⊢; clear eg2
  obtain ⟨g1, eg1⟩ := S.name 7 rfl; rw [← eg1] at S ⊢; clear eg1
  clear hc
  have S1 := S
  clear S
  go_loopw [7, 15] (fun o i w' => ∃ (m : Nat) (J : Fp), m ≤ xs.length ∧ i = .int .i64 m ∧ As (SH F I w [Row kI o ((SC.take m).map (labF W wv)), Cel gs 61 [.pointer (some ⟨gt, 0, none⟩), .slice AW W.length cW, pa], TR gt L W, Row kW (.slice AW W.length cW) W, AuP pa L W, Im kII A5 SC, Cel g2 3 [.int .i64 wv], Cel g1 24 [.pointer (some ⟨gs, 0, none⟩)], Im kP A xs] w' J)) (fun _ i _ => xs.length - (intOf i).toNat)
  case atStart => exact ⟨0, _, Nat.zero_le _, rfl, ⟨by rw [List.take_zero, List.map_nil]; exact S1⟩⟩
  case round =>
    clear S1
    obtain ⟨m, J, hm, rfl, ⟨S⟩⟩ := hrel
    have hol : ((SC.take m).map (labF W wv)).length ≤ 1000000 := by rw [List.length_map, List.length_take]; omega
    have hc := S.cells; simp only [Cells, cellsC, Im, Row, El, RTH, TreeH, TR, AU, AL, OrNil, AuP, SetO, Many, ScO, Nat.zero_add, Nat.reduceAdd] at hc
    by_cases hkt : m < xs.length
    · have hkt' : decide ((m : Int) < xs.length) = true := by simpa using hkt
      have hms : m < SC.length := by rw [HSL.out]; exact hkt
      obtain ⟨l, hl⟩ : ∃ l, SC[m] = l := ⟨_, rfl⟩
      have HL2 : As (SC[m]? = some l) := ⟨by rw [List.getElem?_eq_getElem hms, hl]⟩
      obtain ⟨hl1, hl2⟩ := HSR.out l (by rw [← hl]; exact List.getElem_mem hms)
      have HRNG := As.mk hl2
      have HNX : As ((SC.take (m + 1)).map (labF W wv) = (SC.take m).map (labF W wv) ++ [labF W wv l]) := ⟨by rw [List.take_succ_eq_append_getElem hms, List.map_append, hl]; rfl⟩
      clear hl hms hl2
      obtain ⟨be, oe, A6, c6, rfl, hce, hc6, hs6⟩ := ii_at (S.im 5 rfl) m l HL2.out
      replace S := S.know (h := Im kI A6 l) hs6
      clear hs6
      generalize hout : (SC.take m).map (labF W wv) = out at S hol HNX
      have HOUT := As.mk hout
      clear hout
      have HIX : As (∀ r, LabR W wv l r → ∀ vo w' J', SH F I w [Im kI A6 l, Row kI vo out, Cel gs 61 [.pointer (some ⟨gt, 0, none⟩), .slice AW W.length cW, pa], TR gt L W, Row kW (.slice AW W.length cW) W, AuP pa L W, Im kII (some ⟨be, oe, none⟩) SC, Cel g2 3 [.int .i64 wv], Cel g1 24 [.pointer (some ⟨gs, 0, none⟩)], Im kP A xs] w' J' → Calls Try.prog 38 #[.slice A6 l.length c6, .func (.func 39) #[] #[.pointer (some ⟨g1, 0, none⟩), .pointer (some ⟨g2, 0, none⟩)]] w' fun e w'' => e = .returned (.int .i64 r) ∧ Ext w' w'') := ⟨fun r hr vo w' J' S => by
        obtain ⟨A', c', e', _, h⟩ := S.row 4 rfl
        cases e'
        exact windex_c l W wv r hr HRNG.out A6 c6 g1 g2 gs w' _ (S.im 0 rfl) ⟨S.cell 8 0 rfl rfl, S.cell 7 0 rfl rfl, _, _, _, S.cell 2 1 rfl rfl, h⟩ hl1⟩
      rcases labR_ex W wv l with ⟨hr, he⟩ | ⟨ix, hix, hr, he⟩
      · have HR := As.mk hr
        rw [he] at HNX
        clear hr he
        go_wp2_with (first | ((first | (with_reducible refine wpl_seal S ?_) | (with_reducible refine cw_seal S ?_) | (with_reducible refine bp_seal S ?_) | (with_reducible refine ca_seal S ?_)); clear S; (try clear hc); intro w1 S; (try simp only [List.set_cons_zero, List.set_cons_succ, List.nil_append] at S); have hc := S.cells; simp only [Cells, cellsC, Im, Row, El, RTH, TreeH, TR, AU, AL, OrNil, AuP, SetO, Many, ScO, Nat.zero_add, Nat.reduceAdd] at hc) | (go_at_call 38; refine (HIX.out _ HR.out _ _ _ S).mono ?_; rintro e w1 ⟨rfl, hx⟩; clear hce; replace S := S.ext hx; clear hx; (try clear hc); have hc := S.cells; simp only [Cells, cellsC, Im, Row, El, RTH, TreeH, TR, AU, AL, OrNil, AuP, SetO, Many, ScO, Nat.zero_add, Nat.reduceAdd] at hc) | (at_builtin; refine wpl_push S 2 rfl rfl _ _ rfl ty_ints rfl (-1 : Int) _ _ rfl [_] _ (S.cel 0 rfl) rfl (by (try simp only [maxLen, List.length_nil, List.length_append, List.length_cons]); omega) (by (try simp only [maxLen, List.length_nil, List.length_append, List.length_cons]); omega) ?_; clear S; (try clear hc); intro va w1 S; simp only [List.set_cons_zero, List.set_cons_succ, List.nil_append] at S; have hc := S.cells; simp only [Cells, cellsC, Im, Row, El, RTH, TreeH, TR, AU, AL, OrNil, AuP, SetO, Many, ScO, Nat.zero_add, Nat.reduceAdd] at hc))
        go_roundw
        case rel => exact ⟨m + 1, _, by omega, by go_num, ⟨by rw [HNX.out]; exact (S.sel [2, 3, 4, 5, 6, 7, 8, 9, 10] (by decide) rfl (by simp) : SH _ _ _ [_, _, _, _, _, _, _, _, _] _ _)⟩⟩
        case measure => simp [intOf] <;> omega
      · have HR := As.mk hr
        have hixl : (ix : Int) < (l.length : Int) := by omega
        have HE := As.mk he
        obtain ⟨y, hy⟩ : ∃ y, l[ix] = y := ⟨_, rfl⟩
        rw [he, hy] at HNX
        have HY := As.mk hy
        clear hr he hy
        have HIA : As (∀ w' J', Sl kI w' J' A6 l → ∃ b o, A6 = some ⟨b, o, none⟩ ∧ w'.cell? ⟨b, o + ix, none⟩ = some (.int .i64 y)) := ⟨fun w' J' h => by
          obtain ⟨b, o, e1, e2⟩ := h.int_at hix
          rw [HY.out] at e2
          exact ⟨b, o, e1, e2⟩⟩
        go_wp2_with (first | ((first | (with_reducible refine wpl_seal S ?_) | (with_reducible refine cw_seal S ?_) | (with_reducible refine bp_seal S ?_) | (with_reducible refine ca_seal S ?_)); clear S; (try clear hc); intro w1 S; (try simp only [List.set_cons_zero, List.set_cons_succ, List.nil_append] at S); have hc := S.cells; simp only [Cells, cellsC, Im, Row, El, RTH, TreeH, TR, AU, AL, OrNil, AuP, SetO, Many, ScO, Nat.zero_add, Nat.reduceAdd] at hc) | (go_at_call 38; refine (HIX.out _ HR.out _ _ _ S).mono ?_; rintro e w1 ⟨rfl, hx⟩; clear hce; replace S := S.ext hx; clear hx; (try clear hc); have hc := S.cells; simp only [Cells, cellsC, Im, Row, El, RTH, TreeH, TR, AU, AL, OrNil, AuP, SetO, Many, ScO, Nat.zero_add, Nat.reduceAdd] at hc; obtain ⟨b7, o7, rfl, hcy⟩ := HIA.out _ _ (S.im 0 rfl)) | (at_builtin; refine wpl_push S 2 rfl rfl _ _ rfl ty_ints rfl y _ _ rfl [_] _ (S.cel 0 rfl) rfl (by (try simp only [maxLen, List.length_nil, List.length_append, List.length_cons]); omega) (by (try simp only [maxLen, List.length_nil, List.length_append, List.length_cons]); omega) ?_; clear S; (try clear hc); intro va w1 S; simp only [List.set_cons_zero, List.set_cons_succ, List.nil_append] at S; have hc := S.cells; simp only [Cells, cellsC, Im, Row, El, RTH, TreeH, TR, AU, AL, OrNil, AuP, SetO, Many, ScO, Nat.zero_add, Nat.reduceAdd] at hc))
        go_roundw
        case rel => exact ⟨m + 1, _, by omega, by go_num, ⟨by rw [HNX.out]; exact (S.sel [2, 3, 4, 5, 6, 7, 8, 9, 10] (by decide) rfl (by simp) : SH _ _ _ [_, _, _, _, _, _, _, _, _] _ _)⟩⟩
        case measure => simp [intOf] <;> omega
    · have hkt' : decide ((m : Int) < xs.length) = false := by simpa using hkt
      have hme : SC.take m = SC := List.take_of_length_le (by rw [HSL.out]; omega)
      rw [hme] at S
      clear hol hme
      go_wp2_with (first | ((first | (with_reducible refine wpl_seal S ?_) | (with_reducible refine cw_seal S ?_) | (with_reducible refine bp_seal S ?_) | (with_reducible refine ca_seal S ?_)); clear S; (try clear hc); intro w1 S; (try simp only [List.set_cons_zero, List.set_cons_succ, List.nil_append] at S); have hc := S.cells; simp only [Cells, cellsC, Im, Row, El, RTH, TreeH, TR, AU, AL, OrNil, AuP, SetO, Many, ScO, Nat.zero_add, Nat.reduceAdd] at hc))
      go_ret
      have S2 := (((S.sel [1, 2, 3, 4, 0] (by decide) rfl (by simp) : SH _ _ _ [_, _, _, _, _] _ _)).pack (setM gs L W gt (.slice AW W.length cW) pa) (L := [_])).asSetA 0 rfl
      have u := S2.ret2 0 1 (by omega) rfl rfl
      obtain ⟨I', S4, -⟩ := HB0.out _ _ _ u
      rw [HO0.out] at S4
      rw [HSC.out]
      exact ⟨_, I', rfl, S4⟩
end
end Go.Proofs.Ytooaelpfbamebaa
