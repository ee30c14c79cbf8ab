/- WordsOwn: the law's walk. -/
import Derived.Test.YtooaelpfbamebaaYLb
namespace Go.Proofs.Ytooaelpfbamebaa
open Go.RowKit X
set_option maxHeartbeats 1000000
set_option maxRecDepth 8000
set_option linter.unusedSimpArgs false
set_option linter.unusedVariables false
theorem addW_nodup {W : List (List Int)} {x : List Int} (h : W.Nodup) : (addW W x).Nodup := by
  unfold addW
  split
  · exact h
  · split
    · exact h
    · rename_i hf
      refine List.nodup_append.2 ⟨h, (by simp), fun a ha b hb => ?_⟩
      rw [List.mem_singleton] at hb
      subst hb
      rintro rfl
      obtain ⟨i, hi, e⟩ := List.mem_iff_getElem.1 ha
      have := findT_at h hi
      rw [pa_eq hi, e] at this
      omega
theorem setT_nodup : ∀ (own : List (List Int)) (s : List (List Int) × List (List Int)), s.2.Nodup → (own.foldl stepW s).2.Nodup
  | [], _, h => h
  | x :: r, s, h => setT_nodup r (stepW s x) (addW_nodup h)
theorem setT_uniq {own L W : List (List Int)} (h : setT own = (L, W)) : W.Nodup := by
  have := setT_nodup own ([[]], []) List.nodup_nil
  rw [show own.foldl stepW ([[]], []) = (L, W) from h] at this
  exact this
theorem own_lab {W : List (List Int)} (h : W.Nodup) {i : Nat} (hi : i < W.length) (al : List Int) (hs : W[i] <:+ al) : labF W (W[i].length : Int) (endsL W al) = i := by
  refine lab_hit hi (by rw [pa_eq hi]; exact hs) (by rw [pa_eq hi]) fun q hq ⟨h1, h2⟩ => ?_
  have hql : q < W.length := by omega
  rw [pa_eq hql] at h1 h2
  have e : W[q] = W[i] := by
    obtain ⟨a, ha⟩ := h1
    obtain ⟨b, hb⟩ := hs
    exact (List.append_inj' (ha.trans hb.symm) (by omega)).2
  have h3 := findT_at h hi
  have h4 := findT_at h hql
  rw [pa_eq hi] at h3
  rw [pa_eq hql, e, h3] at h4
  omega
def hasB (l : List Int) (j : Int) : Bool := l.any fun x => x == j
theorem hasB_take {l : List Int} {j : Int} {m : Nat} (hm : m < l.length) : hasB (l.take (m + 1)) j = (hasB (l.take m) j || l[m] == j) := by
  unfold hasB
  rw [List.take_succ_eq_append_getElem hm, List.any_append]
  simp
theorem vown_c (raw : Bool) (ls : List (List Int)) (xs : List Int) (A Ax : Option Addr) (c cx : Nat) (w : World) (I : Fp) (hI : ∀ b, I b → b < w.heap.size) (hx : Sl kW w I A ls) (hxx : Sl kP w I Ax xs) :
    Calls Try.prog 8 #[.slice A ls.length c, .bool raw, .slice Ax xs.length cx] w fun e w' => e = .returned (.bool true) ∧ Ext w w' := by
  have S := (SH.start w I hI).know (h := Im kP Ax xs) hxx
  have HXL := As.mk hx
  clear hx hxx
  obtain ⟨hs, hhs⟩ : ∃ ys, rowT xs 6 = ys := ⟨_, rfl⟩
  have hhl : hs.length ≤ 6 := by rw [← hhs, rowT_len]; omega
  have HHS := As.mk hhs
  clear hhs
  have hc := S.cells; simp only [Cells, cellsC, Im, Row, El, RTH, TreeH, TR, AU, AL, OrNil, AuP, SetO, Many, ScO, Nat.zero_add, Nat.reduceAdd] at hc
  go_enter Try.func8, Try.ntmps8
  go_wp2_with (first | ((first | (with_reducible refine wpl_seal S ?_) | (with_reducible refine cw_seal S ?_) | (with_reducible refine bp_seal S ?_) | (with_reducible refine ca_seal S ?_)); clear S; (try clear hc); intro w1 S; (try simp only [List.set_cons_zero, List.set_cons_succ, List.nil_append] at S); have hc := S.cells; simp only [Cells, cellsC, Im, Row, El, RTH, TreeH, TR, AU, AL, OrNil, AuP, SetO, Many, ScO, Nat.zero_add, Nat.reduceAdd] at hc) | (go_at_call 9; refine (begin14_c raw ls A c _ I S.bd (HXL.out.below S.out)).mono ?_; rintro e w1 ⟨gs, L, W, a2, d2, J, rfl, S2, hd2, hbg, hL, hW, hL5, hW5⟩; obtain ⟨J2, S3, -, -⟩ := S.comp S2; have HND := As.mk (setT_uniq hbg); have HL5 := As.mk hL5; have HW5 := As.mk hW5; clear S hc S2 hL5 hW5 hbg; have S := S3; clear S3; simp only [List.cons_append, List.nil_append] at S; have HG := As.mk (S.setG 0 rfl); have HNW := As.mk (neW_of HW5.out); have HWs : As (ShortW W) := ⟨fun x hx => by have := (HW5.out x hx).2; omega⟩; have hc := S.cells; simp only [Cells, cellsC, Im, Row, El, RTH, TreeH, TR, AU, AL, OrNil, AuP, SetO, Many, ScO, Nat.zero_add, Nat.reduceAdd] at hc))
  have S1 := S
  clear S hc
  go_loopw [9] (fun v w' => ∃ (i : Nat), v = .int .i64 i ∧ i ≤ W.length ∧ ∃ I', As (SH No I w [SetO gs L W, Im kW a2 W, Im kP Ax xs] w' I')) (fun v _ => W.length - (intOf v).toNat)
  case atStart => exact ⟨0, rfl, by omega, _, ⟨S1⟩⟩
  case round =>
    clear S1
    obtain ⟨i, rfl, hi0, I', ⟨S⟩⟩ := hrel
    have hc := S.cells; simp only [Cells, cellsC, Im, Row, El, RTH, TreeH, TR, AU, AL, OrNil, AuP, SetO, Many, ScO, Nat.zero_add, Nat.reduceAdd] at hc
    by_cases hil : i < W.length
    · have hil' : decide ((i : Int) < W.length) = true := by simpa using hil
      obtain ⟨bw, ow, Aw, cw, rfl, hcw, hcw1, hsw⟩ := (S.im 1 rfl).sl_at hil
      have h5 := (HW5.out _ (List.getElem_mem hil)).2
      have h0 := (HW5.out _ (List.getElem_mem hil)).1
      have HLB := As.mk (own_lab HND.out hil (hs ++ W[i]) (List.suffix_append _ _))
      have HEI : As ((i : Int) ∈ endsL W (hs ++ W[i])) := ⟨endsL_mem.2 ⟨i, rfl, hil, by rw [pa_eq hil]; exact List.suffix_append _ _⟩⟩
      obtain ⟨wi, hwi⟩ : ∃ x, W[i] = x := ⟨_, rfl⟩
      have HAT : As (∀ w' J', Sl kW w' J' (some ⟨bw, ow, none⟩) W → ∃ A3 c3, w'.cell? ⟨bw, ow + i, none⟩ = some (.slice A3 wi.length c3) ∧ wi.length ≤ c3 ∧ Sl kP w' J' A3 wi) := ⟨fun w' J' h => by
        obtain ⟨bA, oA, A3, c3, e, h1, h2, h3⟩ := h.sl_at hil
        cases e
        rw [hwi] at h1 h2 h3
        exact ⟨A3, c3, h1, h2, h3⟩⟩
      rw [hwi] at hcw hcw1 hsw h5 h0 HLB HEI
      clear hwi hcw hcw1 hsw Aw cw
      obtain ⟨al, hal⟩ : ∃ x, hs ++ wi = x := ⟨_, rfl⟩
      have hwl : wi.length ≠ 0 := fun e => h0 (List.eq_nil_of_length_eq_zero e)
      have hall : al.length = hs.length + wi.length := by rw [← hal, List.length_append]
      rw [hal] at HLB HEI
      obtain ⟨q, hqa, hq1, hq2, hal1⟩ : ∃ q : Nat, q < al.length ∧ ((al.length : Int) - 1) = q ∧ q + 1 = al.length ∧ al.length ≤ 11 := ⟨al.length - 1, by omega, by omega, by omega, by omega⟩
      have HTK : As (al.take (q + 1) = al) := ⟨List.take_of_length_le (by omega)⟩
      have HAL := As.mk hal
      obtain ⟨SC, hSC⟩ : ∃ SC, scanR L W 0 al = SC := ⟨_, rfl⟩
      have HSC := As.mk hSC
      have HSL : As (SC.length = al.length) := ⟨by rw [← hSC]; exact scanR_len al⟩
      obtain ⟨ES, hES⟩ : ∃ ES, endsL W al = ES := ⟨_, rfl⟩
      have HSQ : As (SC[q]? = some ES) := ⟨by rw [← hSC, scanR_at HG.out al q hqa, HTK.out, hES]⟩
      obtain ⟨LC, hLC⟩ : ∃ LC, (scanR L W 0 al).map (labF W (wi.length : Int)) = LC := ⟨_, rfl⟩
      have HLC := As.mk hLC
      have HLL : As (LC.length = al.length) := ⟨by rw [← hLC, List.length_map]; exact scanR_len al⟩
      have HLQ : As (∃ h2 : q < LC.length, LC[q] = (i : Int)) := ⟨by
        have h2 : q < LC.length := by rw [HLL.out]; exact hqa
        refine ⟨h2, ?_⟩
        have e2 : LC[q]? = some (i : Int) := by rw [← hLC, List.getElem?_map, scanR_at HG.out al q hqa, HTK.out, Option.map_some, HLB.out]
        rw [List.getElem?_eq_getElem h2] at e2
        exact Option.some.inj e2⟩
      have hel : ES.length ≤ 1000000 := by rw [← hES]; have h2 : (endsL W al).length ≤ W.length := endK_le (W := W) (x := al) (m := W.length); omega
      have HIN : As (hasB ES i = true) := ⟨by unfold hasB; rw [List.any_eq_true]; exact ⟨i, by rw [← hES]; exact HEI.out, by simp⟩⟩
      clear hal hSC hES hLC hq2 h0 hwl hall HLB HEI
      replace S := S.nilrow (k := kP)
      have hm1 : As (1 = 1) := ⟨rfl⟩
      have hc := S.cells; simp only [Cells, cellsC, Im, Row, El, RTH, TreeH, TR, AU, AL, OrNil, AuP, SetO, Many, ScO, Nat.zero_add, Nat.reduceAdd] at hc
      go_wp2_with (first | ((first | (with_reducible refine wpl_seal S ?_) | (with_reducible refine cw_seal S ?_) | (with_reducible refine bp_seal S ?_) | (with_reducible refine ca_seal S ?_)); clear S; (try clear hc); intro w1 S; (try simp only [List.set_cons_zero, List.set_cons_succ, List.nil_append] at S); have hc := S.cells; simp only [Cells, cellsC, Im, Row, El, RTH, TreeH, TR, AU, AL, OrNil, AuP, SetO, Many, ScO, Nat.zero_add, Nat.reduceAdd] at hc) | (go_at_call 10; refine (row_c xs 6 Ax cx _ _ S.bd (S.im 3 rfl) (by omega)).mono ?_; rw [HHS.out]; rintro e w1 ⟨v, rfl, hu⟩; obtain ⟨I1, S1, hI1⟩ := S.new hu; clear S hu hI1; (try clear hc); have S := S1; clear S1; have hc := S.cells; simp only [Cells, cellsC, Im, Row, El, RTH, TreeH, TR, AU, AL, OrNil, AuP, SetO, Many, ScO, Nat.zero_add, Nat.reduceAdd] at hc; obtain ⟨A8, c8, I1, e1, hc8, S1, hI1⟩ := S.frow 0 rfl; subst e1; clear S hI1; have S := S1; clear S1; simp only [List.set_cons_zero, List.set_cons_succ, List.nil_append] at S; have hc := S.cells; simp only [Cells, cellsC, Im, Row, El, RTH, TreeH, TR, AU, AL, OrNil, AuP, SetO, Many, ScO, Nat.zero_add, Nat.reduceAdd] at hc) | (clear hm1; (at_builtin; refine wpl_app S 1 rfl rfl _ _ rfl ty_pixs rfl A8 c8 _ rfl _ (fun _ _ h => h) (S.im 0 rfl) (by (try simp only [maxLen, List.length_nil, List.length_append, List.length_cons]); omega) (by (try simp only [maxLen, List.length_nil, List.length_append, List.length_cons]); omega) ?_; clear S; (try clear hc); intro va w1 S; simp only [List.set_cons_zero, List.set_cons_succ, List.nil_append] at S; have hc := S.cells; simp only [Cells, cellsC, Im, Row, El, RTH, TreeH, TR, AU, AL, OrNil, AuP, SetO, Many, ScO, Nat.zero_add, Nat.reduceAdd] at hc); obtain ⟨A7, c7, hcw, hcw1, hsw⟩ := HAT.out _ _ (S.im 3 rfl)) | ((at_builtin; refine wpl_app S 1 rfl rfl _ _ rfl ty_pixs rfl A7 c7 _ rfl _ (fun _ _ h => h) hsw (by (try simp only [maxLen, List.length_nil, List.length_append, List.length_cons]); omega) (by (try simp only [maxLen, List.length_nil, List.length_append, List.length_cons]); omega) ?_; clear S; (try clear hc); intro va w1 S; simp only [List.set_cons_zero, List.set_cons_succ, List.nil_append] at S; have hc := S.cells; simp only [Cells, cellsC, Im, Row, El, RTH, TreeH, TR, AU, AL, OrNil, AuP, SetO, Many, ScO, Nat.zero_add, Nat.reduceAdd] at hc); clear hcw hcw1 hsw; rw [HAL.out] at S; obtain ⟨Aa, ca, I1, e1, hca, S1, hI1⟩ := S.frow 1 rfl; subst e1; clear S hI1; have S := S1; clear S1; simp only [List.set_cons_zero, List.set_cons_succ, List.nil_append] at S; have hc := S.cells; simp only [Cells, cellsC, Im, Row, El, RTH, TreeH, TR, AU, AL, OrNil, AuP, SetO, Many, ScO, Nat.zero_add, Nat.reduceAdd] at hc) | (go_at_call 11; refine (wscan_r S 2 rfl (by omega) (by omega) HG.out HNW.out 5 HL5.out (by omega) (S.im 1 rfl) (by omega)).mono ?_; rw [HSC.out]; rintro e w1 ⟨v9, J9, rfl, S9⟩; clear S hc; have S := S9; clear S9; obtain ⟨A5, c5, I1, e1, hc5, S1, hI1⟩ := S.frow 0 rfl; subst e1; clear S hI1; have S := S1; clear S1; simp only [List.set_cons_zero, List.set_cons_succ, List.nil_append] at S; rw [HSL.out] at hc5 ⊢; obtain ⟨A7, c7, hcw, hcw1, hsw⟩ := HAT.out _ _ (S.im 4 rfl); have hc := S.cells; simp only [Cells, cellsC, Im, Row, El, RTH, TreeH, TR, AU, AL, OrNil, AuP, SetO, Many, ScO, Nat.zero_add, Nat.reduceAdd] at hc) | (go_at_call 24; clear hcw hcw1 hsw; refine (wlabel_r S 3 rfl (by omega) (by omega) HG.out HNW.out 5 HL5.out (by omega) (S.im 2 rfl) (by omega) (wi.length : Int)).mono ?_; rw [HLC.out]; rintro e w1 ⟨v9, J9, rfl, S9⟩; clear S hc; have S := S9; clear S9; obtain ⟨A4, c4, I1, e1, hc4, S1, hI1⟩ := S.frow 0 rfl; subst e1; clear S hI1; have S := S1; clear S1; simp only [List.set_cons_zero, List.set_cons_succ, List.nil_append] at S; rw [HLL.out] at hc4 ⊢; have hc := S.cells; simp only [Cells, cellsC, Im, Row, El, RTH, TreeH, TR, AU, AL, OrNil, AuP, SetO, Many, ScO, Nat.zero_add, Nat.reduceAdd] at hc))
      have S1 := S
      clear S hc
      go_loopw [13, 14] (fun o v w' => ∃ (m : Nat) (bv : Bool), v = .int .i64 m ∧ m ≤ ES.length ∧ o = .bool bv ∧ As (bv = hasB (ES.take m) i) ∧ ∃ I', As (SH No I w [Im kI A4 LC, Im kII A5 SC, SetO gs L W, Im kW (some ⟨bw, ow, none⟩) W, Im kP Ax xs] w' I')) (fun _ v _ => ES.length - (intOf v).toNat)
      case atStart => exact ⟨0, false, rfl, by omega, rfl, ⟨rfl⟩, _, ⟨S1.sel [0, 1, 4, 5, 6] (by decide) rfl (by simp)⟩⟩
      case round =>
        clear S1
        obtain ⟨m, bv, rfl, hmy, rfl, HBV, I', ⟨S⟩⟩ := hrel
        have hc := S.cells; simp only [Cells, cellsC, Im, Row, El, RTH, TreeH, TR, AU, AL, OrNil, AuP, SetO, Many, ScO, Nat.zero_add, Nat.reduceAdd] at hc
        obtain ⟨be, oe, A6, c6, rfl, hce, hc6, hs6⟩ := ii_at (S.im 1 rfl) q ES HSQ.out
        by_cases hml : m < ES.length
        · have hml' : decide ((m : Int) < (ES.length : Int)) = true := by simpa using hml
          obtain ⟨b6, o6, rfl, hcm⟩ := hs6.int_at hml
          have HNX := As.mk (hasB_take (j := (i : Int)) hml)
          generalize ES[m] = em at hcm HNX
          cases bv
          · go_wp2_with (first | ((first | (with_reducible refine wpl_seal S ?_) | (with_reducible refine cw_seal S ?_) | (with_reducible refine bp_seal S ?_) | (with_reducible refine ca_seal S ?_)); clear S; (try clear hc); intro w1 S; (try simp only [List.set_cons_zero, List.set_cons_succ, List.nil_append] at S); have hc := S.cells; simp only [Cells, cellsC, Im, Row, El, RTH, TreeH, TR, AU, AL, OrNil, AuP, SetO, Many, ScO, Nat.zero_add, Nat.reduceAdd] at hc))
            go_roundw
            case rel => exact ⟨m + 1, _, by go_num, by omega, rfl, ⟨by rw [HNX.out, ← HBV.out]; simp⟩, _, ⟨by first | exact S | trivial⟩⟩
            case measure => simp [intOf] <;> omega
          · go_wp2_with (first | ((first | (with_reducible refine wpl_seal S ?_) | (with_reducible refine cw_seal S ?_) | (with_reducible refine bp_seal S ?_) | (with_reducible refine ca_seal S ?_)); clear S; (try clear hc); intro w1 S; (try simp only [List.set_cons_zero, List.set_cons_succ, List.nil_append] at S); have hc := S.cells; simp only [Cells, cellsC, Im, Row, El, RTH, TreeH, TR, AU, AL, OrNil, AuP, SetO, Many, ScO, Nat.zero_add, Nat.reduceAdd] at hc))
            go_roundw
            case rel => exact ⟨m + 1, true, by go_num, by omega, rfl, ⟨by rw [HNX.out, ← HBV.out]; simp⟩, _, ⟨by first | exact S | trivial⟩⟩
            case measure => simp [intOf] <;> omega
        · have hml' : decide ((m : Int) < (ES.length : Int)) = false := by simpa using hml
          obtain rfl : m = ES.length := by omega
          have hbt : bv = true := by rw [HBV.out, List.take_length]; exact HIN.out
          subst hbt
          obtain ⟨h2, h3⟩ := HLQ.out
          obtain ⟨b4, o4, rfl, hcl⟩ := (S.im 0 rfl).int_at h2
          rw [h3] at hcl
          clear h3
          go_wp2_with (first | ((first | (with_reducible refine wpl_seal S ?_) | (with_reducible refine cw_seal S ?_) | (with_reducible refine bp_seal S ?_) | (with_reducible refine ca_seal S ?_)); clear S; (try clear hc); intro w1 S; (try simp only [List.set_cons_zero, List.set_cons_succ, List.nil_append] at S); have hc := S.cells; simp only [Cells, cellsC, Im, Row, El, RTH, TreeH, TR, AU, AL, OrNil, AuP, SetO, Many, ScO, Nat.zero_add, Nat.reduceAdd] at hc))
          go_roundw
          case rel => exact ⟨i + 1, by go_num, by omega, _, ⟨(S.sel [2, 3, 4] (by decide) rfl (by simp) : SH _ _ _ [_, _, _] _ _)⟩⟩
          case measure => simp [intOf] <;> omega
    · have hil' : decide ((i : Int) < W.length) = false := by simpa using hil
      go_wp2_with (first | ((first | (with_reducible refine wpl_seal S ?_) | (with_reducible refine cw_seal S ?_) | (with_reducible refine bp_seal S ?_) | (with_reducible refine ca_seal S ?_)); clear S; (try clear hc); intro w1 S; (try simp only [List.set_cons_zero, List.set_cons_succ, List.nil_append] at S); have hc := S.cells; simp only [Cells, cellsC, Im, Row, El, RTH, TreeH, TR, AU, AL, OrNil, AuP, SetO, Many, ScO, Nat.zero_add, Nat.reduceAdd] at hc) | (go_at_call 14; refine (lives14_c _ _ S.bd).mono ?_; rintro e w1 ⟨rfl, hx⟩; replace S := S.ext hx; clear hx; (try clear hc); have hc := S.cells; simp only [Cells, cellsC, Im, Row, El, RTH, TreeH, TR, AU, AL, OrNil, AuP, SetO, Many, ScO, Nat.zero_add, Nat.reduceAdd] at hc))
      go_ret
      exact ⟨rfl, S.out⟩
end Go.Proofs.Ytooaelpfbamebaa
