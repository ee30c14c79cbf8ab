/- The reference's automaton. -/
import Derived.Test.YtpgphhkhjbhimaaAcP
import Derived.Test.YtpgphhkhjbhimaaRWor
import Derived.Test.YtpgphhkhjbhimaaCut
namespace Go.Proofs.Ytpgphhkhjbhimaa
open Go.RowKit X
set_option maxHeartbeats 2000000
set_option maxRecDepth 8000
set_option linter.unusedSimpArgs false
set_option linter.unusedVariables false
theorem X.Sl.dropI {ety : TypeId} {kd : IntKind} {w : World} {D : Fp} {A : Option Addr} {xs : List Int} (h : Sl (Kd.int ety kd) w D A xs) (lo : Nat) : Sl (Kd.int ety kd) w D (A.map (fun x => x.add lo)) (xs.drop lo) := by
  have := h.cut (l := lo) (hi := xs.length) (c := xs.length + lo + 1) (Nat.le_refl _) (by omega)
  rw [if_neg (by omega), List.take_length] at this
  simpa [Kd.int] using this
theorem X.Sl.dropC {ety : TypeId} {kd : IntKind} {w : World} {D : Fp} {A : Option Addr} {xs : List Int} (h : Sl (Kd.int ety kd) w D A xs) (lo c : Nat) (hc : xs.length ≤ c) : Sl (Kd.int ety kd) w D (if c = lo then A else A.map (fun x => x.add lo)) (xs.drop lo) := by
  have := h.cut (l := lo) (hi := xs.length) (c := c) (Nat.le_refl _) hc
  rw [List.take_length] at this
  simpa [Kd.int] using this
theorem deepest_c (L W : List (List Int)) (xs : List Int) (m : Nat) (A A' B : Option Addr) (c c' d : Nat) (w : World) (D E : Fp) (hL : Sl kW w D A L) (hx : Sl kP w E B xs) (hd : xs.length ≤ d) (hm : m ≤ xs.length) (hsL : L.length ≤ 1000000) (hs : ShortW L) (hxl : xs.length ≤ 1000000) :
    Calls Try.prog 42 #[rtV A L.length c A' W.length c', .slice B xs.length d, .int .i64 m] w fun e w' => e = .returned (.int .i64 (dpst L xs m)) ∧ Ext w w' := by
  have HL := As.mk hL
  have HX := As.mk hx
  have HS := As.mk hs
  have S := SH.start w No (fun _ h => h.elim)
  have hmin : min (xs.length : Int) (m : Int) = m := by omega
  clear hL hx hs
  by_cases hml : m < xs.length
  · skip
    have hc := S.cells; simp only [Cells, cellsC, Im, Row, El, RTH, TreeH, TR, Nat.zero_add, Nat.reduceAdd] at hc
    go_enter Try.func42, Try.ntmps42
    go_upto_if 1 with (first | ((first | (with_reducible refine wpl_seal S ?_) | (with_reducible refine cw_seal S ?_) | (with_reducible refine bp_seal S ?_) | (with_reducible refine ca_seal S ?_)); clear S; (try clear hc); intro w1 S; (try simp only [List.set_cons_zero, List.set_cons_succ, List.nil_append] at S); have hc := S.cells; simp only [Cells, cellsC, Im, Row, El, RTH, TreeH, TR, Nat.zero_add, Nat.reduceAdd] at hc))
    obtain ⟨gB, egB⟩ := S.name 0 rfl; rw [← egB] at S ⊢; clear egB
    have hc := S.cells; simp only [Cells, cellsC, Im, Row, El, RTH, TreeH, TR, Nat.zero_add, Nat.reduceAdd] at hc
    go_wp2_with (first | ((first | (with_reducible refine wpl_seal S ?_) | (with_reducible refine cw_seal S ?_) | (with_reducible refine bp_seal S ?_) | (with_reducible refine ca_seal S ?_)); clear S; (try clear hc); intro w1 S; (try simp only [List.set_cons_zero, List.set_cons_succ, List.nil_append] at S); have hc := S.cells; simp only [Cells, cellsC, Im, Row, El, RTH, TreeH, TR, Nat.zero_add, Nat.reduceAdd] at hc))
    clear hc
    go_loopw [7] (fun i w' => ∃ k : Nat, k ≤ m ∧ i = .int .i64 k ∧ As (dpst L xs k = dpst L xs m) ∧ As (SH No No w [Cel gB 46 [.slice A L.length c, .slice A' W.length c']] w' No)) (fun i _ => (intOf i).toNat)
    case atStart => exact ⟨m, Nat.le_refl _, rfl, ⟨rfl⟩, ⟨S⟩⟩
    case round =>
      clear S
      obtain ⟨k, hk, rfl, HE, ⟨S⟩⟩ := hrel
      have hc := S.cells; simp only [Cells, cellsC, Im, Row, El, RTH, TreeH, TR, Nat.zero_add, Nat.reduceAdd] at hc
      by_cases hk0 : 0 < k
      · obtain ⟨lo, hlo⟩ : ∃ lo, xs.length = lo + k := ⟨xs.length - k, by omega⟩
        have hq := S.cellsE; simp only [CellsE, cellsE, Im, Row, El, RTH, TreeH, TR, Nat.zero_add, Nat.reduceAdd] at hq
        have HF : As (∀ w', Ext w w' → Calls Try.prog 59 #[rtV A L.length c A' W.length c', .slice (B.map (fun x => x.add lo)) k (d - lo)] w' fun e w'' => e = .returned (.int .i64 (findT L (xs.drop lo))) ∧ Ext w' w'') := ⟨fun w' hx => by
          have h1 := find_c L W (xs.drop lo) A A' (B.map (fun x => x.add lo)) c c' (d - lo) w' _ _ (HL.out.below hx) ((HX.out.below hx).dropI lo) hsL HS.out (by rw [List.length_drop]; omega)
          rw [List.length_drop, show xs.length - lo = k by omega] at h1
          exact h1⟩
        have HD : As (dpst L xs k = if 0 ≤ findT L (xs.drop lo) then findT L (xs.drop lo) else dpst L xs (k - 1)) := ⟨by
          obtain ⟨q, rfl⟩ : ∃ q, k = q + 1 := ⟨k - 1, by omega⟩
          simp only [dpst]
          rw [show xs.length - (q + 1) = lo by omega, Nat.add_sub_cancel]⟩
        generalize findT L (xs.drop lo) = fv at HF HD
        go_wp2_with (first | ((first | (with_reducible refine wpl_seal S ?_) | (with_reducible refine cw_seal S ?_) | (with_reducible refine bp_seal S ?_) | (with_reducible refine ca_seal S ?_)); clear S; (try clear hc); intro w1 S; (try simp only [List.set_cons_zero, List.set_cons_succ, List.nil_append] at S); have hc := S.cells; simp only [Cells, cellsC, Im, Row, El, RTH, TreeH, TR, Nat.zero_add, Nat.reduceAdd] at hc))
        refine wp_region_ext [⟨[0, 1, 2, 3, 4, 5, 6], [], 7, false⟩] [8] (by kernel_rfl) (by kernel_rfl) ?_
        refine mix_cons rfl rfl rfl ?_
        simp only [opsAt, List.getD_cons_succ, List.getD_cons_zero]
        repeat (go_big_quiet_step ((intro hC; first | rfl | (go_simp; first | done | rfl))))
        refine wpQuiet_nil ?_
        repeat (go_big_quiet_step ((intro hC; first | rfl | (go_simp; first | done | rfl))))
        refine wpQuiet_nil ?_
        clear hq hc
        replace S := S.drew
        go_wp2_with (first | ((first | (with_reducible refine mx_seal S ?_) | (with_reducible refine wpl_seal S ?_) | (with_reducible refine ca_seal S ?_)); clear S; (try clear hc); intro w1 S; (try simp only [List.set_cons_zero, List.set_cons_succ, List.nil_append] at S); have hc := S.cells; simp only [Cells, cellsC, Im, Row, El, RTH, TreeH, TR, Nat.zero_add, Nat.reduceAdd] at hc) | (go_at_call 59; refine (HF.out _ S.out).mono ?_; rintro e w1 ⟨rfl, hx⟩; replace S := S.ext hx; clear hx; (try clear hc); have hc := S.cells; simp only [Cells, cellsC, Im, Row, El, RTH, TreeH, TR, Nat.zero_add, Nat.reduceAdd] at hc))
        refine ⟨(fun h => by cases h), ?_⟩
        refine mix_last rfl ?_
        simp only [opsAt, List.getD_cons_succ, List.getD_cons_zero]
        repeat (go_big_quiet_step ((intro hC; first | rfl | (go_simp; first | done | rfl))))
        refine wpQuiet_nil ?_
        simp only [calmQ]
        have hc := S.cells; simp only [Cells, cellsC, Im, Row, El, RTH, TreeH, TR, Nat.zero_add, Nat.reduceAdd] at hc
        by_cases hfv : 0 ≤ fv
        · go_wp2_with (first | ((first | (with_reducible refine wpl_seal S ?_) | (with_reducible refine cw_seal S ?_) | (with_reducible refine bp_seal S ?_) | (with_reducible refine ca_seal S ?_)); clear S; (try clear hc); intro w1 S; (try simp only [List.set_cons_zero, List.set_cons_succ, List.nil_append] at S); have hc := S.cells; simp only [Cells, cellsC, Im, Row, El, RTH, TreeH, TR, Nat.zero_add, Nat.reduceAdd] at hc))
          go_ret
          exact ⟨ret_int (by rw [← HE.out, HD.out, if_pos hfv]), S.out⟩
        · have HE2 : As (dpst L xs (k - 1) = dpst L xs m) := ⟨by rw [← HE.out, HD.out, if_neg hfv]⟩
          go_wp2_with (first | ((first | (with_reducible refine wpl_seal S ?_) | (with_reducible refine cw_seal S ?_) | (with_reducible refine bp_seal S ?_) | (with_reducible refine ca_seal S ?_)); clear S; (try clear hc); intro w1 S; (try simp only [List.set_cons_zero, List.set_cons_succ, List.nil_append] at S); have hc := S.cells; simp only [Cells, cellsC, Im, Row, El, RTH, TreeH, TR, Nat.zero_add, Nat.reduceAdd] at hc))
          go_roundw
          case rel => exact ⟨k - 1, by omega, by go_num, by first | exact HE2 | exact ⟨HE2.out⟩, ⟨by first | exact S | trivial⟩⟩
          case measure => simp [intOf] <;> omega
      · obtain rfl : k = 0 := by omega
        go_wp2_with (first | ((first | (with_reducible refine wpl_seal S ?_) | (with_reducible refine cw_seal S ?_) | (with_reducible refine bp_seal S ?_) | (with_reducible refine ca_seal S ?_)); clear S; (try clear hc); intro w1 S; (try simp only [List.set_cons_zero, List.set_cons_succ, List.nil_append] at S); have hc := S.cells; simp only [Cells, cellsC, Im, Row, El, RTH, TreeH, TR, Nat.zero_add, Nat.reduceAdd] at hc))
        go_ret
        exact ⟨ret_int (by rw [← HE.out]; rfl), S.out⟩
  · have HM : As (m = xs.length) := ⟨by omega⟩
    have hc := S.cells; simp only [Cells, cellsC, Im, Row, El, RTH, TreeH, TR, Nat.zero_add, Nat.reduceAdd] at hc
    go_enter Try.func42, Try.ntmps42
    go_upto_if 1 with (first | ((first | (with_reducible refine wpl_seal S ?_) | (with_reducible refine cw_seal S ?_) | (with_reducible refine bp_seal S ?_) | (with_reducible refine ca_seal S ?_)); clear S; (try clear hc); intro w1 S; (try simp only [List.set_cons_zero, List.set_cons_succ, List.nil_append] at S); have hc := S.cells; simp only [Cells, cellsC, Im, Row, El, RTH, TreeH, TR, Nat.zero_add, Nat.reduceAdd] at hc))
    obtain ⟨gB, egB⟩ := S.name 0 rfl; rw [← egB] at S ⊢; clear egB
    have hc := S.cells; simp only [Cells, cellsC, Im, Row, El, RTH, TreeH, TR, Nat.zero_add, Nat.reduceAdd] at hc
    go_wp2_with (first | ((first | (with_reducible refine wpl_seal S ?_) | (with_reducible refine cw_seal S ?_) | (with_reducible refine bp_seal S ?_) | (with_reducible refine ca_seal S ?_)); clear S; (try clear hc); intro w1 S; (try simp only [List.set_cons_zero, List.set_cons_succ, List.nil_append] at S); have hc := S.cells; simp only [Cells, cellsC, Im, Row, El, RTH, TreeH, TR, Nat.zero_add, Nat.reduceAdd] at hc))
    clear hc
    go_loopw [7] (fun i w' => ∃ k : Nat, k ≤ m ∧ i = .int .i64 k ∧ As (dpst L xs k = dpst L xs m) ∧ As (SH No No w [Cel gB 46 [.slice A L.length c, .slice A' W.length c']] w' No)) (fun i _ => (intOf i).toNat)
    case atStart => exact ⟨xs.length, by omega, rfl, ⟨by rw [HM.out]⟩, ⟨S⟩⟩
    case round =>
      clear S
      obtain ⟨k, hk, rfl, HE, ⟨S⟩⟩ := hrel
      have hc := S.cells; simp only [Cells, cellsC, Im, Row, El, RTH, TreeH, TR, Nat.zero_add, Nat.reduceAdd] at hc
      by_cases hk0 : 0 < k
      · obtain ⟨lo, hlo⟩ : ∃ lo, xs.length = lo + k := ⟨xs.length - k, by omega⟩
        have hq := S.cellsE; simp only [CellsE, cellsE, Im, Row, El, RTH, TreeH, TR, Nat.zero_add, Nat.reduceAdd] at hq
        have HF : As (∀ w', Ext w w' → Calls Try.prog 59 #[rtV A L.length c A' W.length c', .slice (B.map (fun x => x.add lo)) k (d - lo)] w' fun e w'' => e = .returned (.int .i64 (findT L (xs.drop lo))) ∧ Ext w' w'') := ⟨fun w' hx => by
          have h1 := find_c L W (xs.drop lo) A A' (B.map (fun x => x.add lo)) c c' (d - lo) w' _ _ (HL.out.below hx) ((HX.out.below hx).dropI lo) hsL HS.out (by rw [List.length_drop]; omega)
          rw [List.length_drop, show xs.length - lo = k by omega] at h1
          exact h1⟩
        have HD : As (dpst L xs k = if 0 ≤ findT L (xs.drop lo) then findT L (xs.drop lo) else dpst L xs (k - 1)) := ⟨by
          obtain ⟨q, rfl⟩ : ∃ q, k = q + 1 := ⟨k - 1, by omega⟩
          simp only [dpst]
          rw [show xs.length - (q + 1) = lo by omega, Nat.add_sub_cancel]⟩
        generalize findT L (xs.drop lo) = fv at HF HD
        go_wp2_with (first | ((first | (with_reducible refine wpl_seal S ?_) | (with_reducible refine cw_seal S ?_) | (with_reducible refine bp_seal S ?_) | (with_reducible refine ca_seal S ?_)); clear S; (try clear hc); intro w1 S; (try simp only [List.set_cons_zero, List.set_cons_succ, List.nil_append] at S); have hc := S.cells; simp only [Cells, cellsC, Im, Row, El, RTH, TreeH, TR, Nat.zero_add, Nat.reduceAdd] at hc))
        refine wp_region_ext [⟨[0, 1, 2, 3, 4, 5, 6], [], 7, false⟩] [8] (by kernel_rfl) (by kernel_rfl) ?_
        refine mix_cons rfl rfl rfl ?_
        simp only [opsAt, List.getD_cons_succ, List.getD_cons_zero]
        repeat (go_big_quiet_step ((intro hC; first | rfl | (go_simp; first | done | rfl))))
        refine wpQuiet_nil ?_
        repeat (go_big_quiet_step ((intro hC; first | rfl | (go_simp; first | done | rfl))))
        refine wpQuiet_nil ?_
        clear hq hc
        replace S := S.drew
        go_wp2_with (first | ((first | (with_reducible refine mx_seal S ?_) | (with_reducible refine wpl_seal S ?_) | (with_reducible refine ca_seal S ?_)); clear S; (try clear hc); intro w1 S; (try simp only [List.set_cons_zero, List.set_cons_succ, List.nil_append] at S); have hc := S.cells; simp only [Cells, cellsC, Im, Row, El, RTH, TreeH, TR, Nat.zero_add, Nat.reduceAdd] at hc) | (go_at_call 59; refine (HF.out _ S.out).mono ?_; rintro e w1 ⟨rfl, hx⟩; replace S := S.ext hx; clear hx; (try clear hc); have hc := S.cells; simp only [Cells, cellsC, Im, Row, El, RTH, TreeH, TR, Nat.zero_add, Nat.reduceAdd] at hc))
        refine ⟨(fun h => by cases h), ?_⟩
        refine mix_last rfl ?_
        simp only [opsAt, List.getD_cons_succ, List.getD_cons_zero]
        repeat (go_big_quiet_step ((intro hC; first | rfl | (go_simp; first | done | rfl))))
        refine wpQuiet_nil ?_
        simp only [calmQ]
        have hc := S.cells; simp only [Cells, cellsC, Im, Row, El, RTH, TreeH, TR, Nat.zero_add, Nat.reduceAdd] at hc
        by_cases hfv : 0 ≤ fv
        · go_wp2_with (first | ((first | (with_reducible refine wpl_seal S ?_) | (with_reducible refine cw_seal S ?_) | (with_reducible refine bp_seal S ?_) | (with_reducible refine ca_seal S ?_)); clear S; (try clear hc); intro w1 S; (try simp only [List.set_cons_zero, List.set_cons_succ, List.nil_append] at S); have hc := S.cells; simp only [Cells, cellsC, Im, Row, El, RTH, TreeH, TR, Nat.zero_add, Nat.reduceAdd] at hc))
          go_ret
          exact ⟨ret_int (by rw [← HE.out, HD.out, if_pos hfv]), S.out⟩
        · have HE2 : As (dpst L xs (k - 1) = dpst L xs m) := ⟨by rw [← HE.out, HD.out, if_neg hfv]⟩
          go_wp2_with (first | ((first | (with_reducible refine wpl_seal S ?_) | (with_reducible refine cw_seal S ?_) | (with_reducible refine bp_seal S ?_) | (with_reducible refine ca_seal S ?_)); clear S; (try clear hc); intro w1 S; (try simp only [List.set_cons_zero, List.set_cons_succ, List.nil_append] at S); have hc := S.cells; simp only [Cells, cellsC, Im, Row, El, RTH, TreeH, TR, Nat.zero_add, Nat.reduceAdd] at hc))
          go_roundw
          case rel => exact ⟨k - 1, by omega, by go_num, by first | exact HE2 | exact ⟨HE2.out⟩, ⟨by first | exact S | trivial⟩⟩
          case measure => simp [intOf] <;> omega
      · obtain rfl : k = 0 := by omega
        go_wp2_with (first | ((first | (with_reducible refine wpl_seal S ?_) | (with_reducible refine cw_seal S ?_) | (with_reducible refine bp_seal S ?_) | (with_reducible refine ca_seal S ?_)); clear S; (try clear hc); intro w1 S; (try simp only [List.set_cons_zero, List.set_cons_succ, List.nil_append] at S); have hc := S.cells; simp only [Cells, cellsC, Im, Row, El, RTH, TreeH, TR, Nat.zero_add, Nat.reduceAdd] at hc))
        go_ret
        exact ⟨ret_int (by rw [← HE.out]; rfl), S.out⟩
theorem xlast_c (xs ys : List Int) (A B : Option Addr) (c d : Nat) (w : World) (D E : Fp) (hx : Sl kP w D A xs) (hy : Sl kP w E B ys) (hc : xs.length ≤ c) (hd : ys.length ≤ d) (hxl : xs.length ≤ 1000000) (hyl : ys.length ≤ 1000000) :
    Calls Try.prog 39 #[.slice A xs.length c, .slice B ys.length d] w fun e w' => e = .returned (.bool (decide (ys <:+ xs))) ∧ Ext w w' := by
  have HX := As.mk hx
  have HY := As.mk hy
  clear hx hy
  by_cases hl : ys.length ≤ xs.length
  · obtain ⟨lo, hlo⟩ : ∃ lo, xs.length = lo + ys.length := ⟨xs.length - ys.length, by omega⟩
    have HE : As (decide (xs.drop lo = ys) = decide (ys <:+ xs)) := ⟨by
      rw [decide_eq_decide, List.suffix_iff_eq_drop, show xs.length - ys.length = lo by omega]
      exact eq_comm⟩
    have h0 := (HX.out.dropC lo c hc)
    have hlen : (xs.drop lo).length = ys.length := by rw [List.length_drop]; omega
    have HH : As (∀ A2 c2, Sl kP w D A2 (xs.drop lo) → Calls Try.prog 58 #[.slice A2 ys.length c2, .slice B ys.length d] w fun e w' => e = .returned (.bool (decide (ys <:+ xs))) ∧ Ext w w') := ⟨fun A2 c2 h2 => by
      have := sameRow_c (xs.drop lo) ys A2 B c2 d w D E h2 HY.out hyl
      rw [hlen, HE.out] at this
      exact this.mono fun e w' ⟨h1, h2⟩ => ⟨h1, h2.ext⟩⟩
    have H0 := As.mk h0
    clear h0 hlen
    go_enter Try.func39, Try.ntmps39
    go_wp2_with (first | (go_at_call 58; refine (HH.out _ _ H0.out).mono ?_; rintro e w1 ⟨rfl, hx⟩))
    all_goals
      go_ret
      exact ⟨rfl, hx⟩
  · have hl1 : xs.length < ys.length := by omega
    have HE : As (decide (ys <:+ xs) = false) := ⟨by rw [decide_eq_false_iff_not]; intro h; have := h.length_le; omega⟩
    go_enter Try.func39, Try.ntmps39
    go_wp2
    go_ret
    exact ⟨ret_bool HE.out.symm, Ext.refl _⟩
def endK (W : List (List Int)) (x : List Int) (m : Nat) : List Int := ((List.range m).filter (fun i => decide (pa W i <:+ x))).map (fun k : Nat => (k : Int))
theorem endK_yes {W : List (List Int)} {x : List Int} {m : Nat} (h : decide (pa W m <:+ x) = true) : endK W x (m + 1) = endK W x m ++ [(m : Int)] := by
  unfold endK; rw [List.range_succ, List.filter_append, List.filter_cons_of_pos (p := fun i => decide (pa W i <:+ x)) h, List.map_append]; rfl
theorem endK_no {W : List (List Int)} {x : List Int} {m : Nat} (h : decide (pa W m <:+ x) = false) : endK W x (m + 1) = endK W x m := by
  unfold endK; rw [List.range_succ, List.filter_append, List.filter_cons_of_neg (p := fun i => decide (pa W i <:+ x)) (by rw [h]; simp), List.filter_nil, List.append_nil]
theorem endK_le {W : List (List Int)} {x : List Int} {m : Nat} : (endK W x m).length ≤ m := by
  unfold endK
  rw [List.length_map]
  exact Nat.le_trans (List.length_filter_le _ _) (by simp)
end Go.Proofs.Ytpgphhkhjbhimaa
