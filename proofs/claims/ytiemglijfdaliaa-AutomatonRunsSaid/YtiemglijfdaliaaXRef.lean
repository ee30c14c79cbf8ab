/- The reference's automaton. -/
import Derived.Test.YtiemglijfdaliaaAcP
import Derived.Test.YtiemglijfdaliaaRWor
import Derived.Test.YtiemglijfdaliaaCut
namespace Go.Proofs.Ytiemglijfdaliaa
open Go.RowKit X
set_option maxHeartbeats 2000000
set_option maxRecDepth 8000
set_option linter.unusedSimpArgs false
set_option linter.unusedVariables false
theorem xin_c (L W : List (List Int)) (n : Int) (A A' : Option Addr) (c c' : Nat) (w : World) :
    Calls Try.prog 37 #[rtV A L.length c A' W.length c', .int .i64 n] w fun e w' => e = .returned (.bool (decide (0 ≤ n) && decide (n < L.length))) ∧ Ext w w' := by
  have S := SH.start w No (fun _ h => h.elim)
  have hc := S.cells; simp only [Cells, cellsC, Im, Row, El, RTH, TreeH, TR, Nat.zero_add, Nat.reduceAdd] at hc
  by_cases h : 0 ≤ n
  · have h' : decide (0 ≤ n) = true := by simpa using h
    go_enter Try.func37, Try.ntmps37
    go_wp2_with (first | ((first | (with_reducible refine wpl_seal S ?_) | (with_reducible refine cw_seal S ?_) | (with_reducible refine bp_seal S ?_) | (with_reducible refine ca_seal S ?_)); clear S; (try clear hc); intro w1 S; (try simp only [List.set_cons_zero, List.set_cons_succ, List.nil_append] at S); have hc := S.cells; simp only [Cells, cellsC, Im, Row, El, RTH, TreeH, TR, Nat.zero_add, Nat.reduceAdd] at hc))
    go_ret
    exact ⟨by simp [h'], S.out⟩
  · have h' : decide (0 ≤ n) = false := by simpa using h
    go_enter Try.func37, Try.ntmps37
    go_wp2_with (first | ((first | (with_reducible refine wpl_seal S ?_) | (with_reducible refine cw_seal S ?_) | (with_reducible refine bp_seal S ?_) | (with_reducible refine ca_seal S ?_)); clear S; (try clear hc); intro w1 S; (try simp only [List.set_cons_zero, List.set_cons_succ, List.nil_append] at S); have hc := S.cells; simp only [Cells, cellsC, Im, Row, El, RTH, TreeH, TR, Nat.zero_add, Nat.reduceAdd] at hc))
    go_ret
    exact ⟨by simp [h'], S.out⟩
theorem X.Sl.dropI {ety : TypeId} {kd : IntKind} {w : World} {D : Fp} {A : Option Addr} {xs : List Int} (h : Sl (Kd.int ety kd) w D A xs) (lo : Nat) : Sl (Kd.int ety kd) w D (A.map (fun x => x.add lo)) (xs.drop lo) := by
  have := h.cut (l := lo) (hi := xs.length) (c := xs.length + lo + 1) (Nat.le_refl _) (by omega)
  rw [if_neg (by omega), List.take_length] at this
  simpa [Kd.int] using this
theorem X.Sl.dropC {ety : TypeId} {kd : IntKind} {w : World} {D : Fp} {A : Option Addr} {xs : List Int} (h : Sl (Kd.int ety kd) w D A xs) (lo c : Nat) (hc : xs.length ≤ c) : Sl (Kd.int ety kd) w D (if c = lo then A else A.map (fun x => x.add lo)) (xs.drop lo) := by
  have := h.cut (l := lo) (hi := xs.length) (c := c) (Nat.le_refl _) hc
  rw [List.take_length] at this
  simpa [Kd.int] using this
theorem deepest_c (L W : List (List Int)) (xs : List Int) (m : Nat) (A A' B : Option Addr) (c c' d : Nat) (w : World) (D E : Fp) (hL : Sl kW w D A L) (hx : Sl kP w E B xs) (hd : xs.length ≤ d) (hm : m ≤ xs.length) (hsL : L.length ≤ 1000000) (hs : ShortW L) (hxl : xs.length ≤ 1000000) :
    Calls Try.prog 15 #[rtV A L.length c A' W.length c', .slice B xs.length d, .int .i64 m] w fun e w' => e = .returned (.int .i64 (dpst L xs m)) ∧ Ext w w' := by
  have HL := As.mk hL
  have HX := As.mk hx
  have HS := As.mk hs
  have S := SH.start w No (fun _ h => h.elim)
  have hmin : min (xs.length : Int) (m : Int) = m := by omega
  clear hL hx hs
  by_cases hml : m < xs.length
  · skip
    have hc := S.cells; simp only [Cells, cellsC, Im, Row, El, RTH, TreeH, TR, Nat.zero_add, Nat.reduceAdd] at hc
    go_enter Try.func15, Try.ntmps15
    go_upto_if 1 with (first | ((first | (with_reducible refine wpl_seal S ?_) | (with_reducible refine cw_seal S ?_) | (with_reducible refine bp_seal S ?_) | (with_reducible refine ca_seal S ?_)); clear S; (try clear hc); intro w1 S; (try simp only [List.set_cons_zero, List.set_cons_succ, List.nil_append] at S); have hc := S.cells; simp only [Cells, cellsC, Im, Row, El, RTH, TreeH, TR, Nat.zero_add, Nat.reduceAdd] at hc))
    obtain ⟨gB, egB⟩ := S.name 0 rfl; rw [← egB] at S ⊢; clear egB
    have hc := S.cells; simp only [Cells, cellsC, Im, Row, El, RTH, TreeH, TR, Nat.zero_add, Nat.reduceAdd] at hc
    go_wp2_with (first | ((first | (with_reducible refine wpl_seal S ?_) | (with_reducible refine cw_seal S ?_) | (with_reducible refine bp_seal S ?_) | (with_reducible refine ca_seal S ?_)); clear S; (try clear hc); intro w1 S; (try simp only [List.set_cons_zero, List.set_cons_succ, List.nil_append] at S); have hc := S.cells; simp only [Cells, cellsC, Im, Row, El, RTH, TreeH, TR, Nat.zero_add, Nat.reduceAdd] at hc))
    clear hc
    go_loopw [7] (fun i w' => ∃ k : Nat, k ≤ m ∧ i = .int .i64 k ∧ As (dpst L xs k = dpst L xs m) ∧ As (SH No No w [Cel gB 27 [.slice A L.length c, .slice A' W.length c']] w' No)) (fun i _ => (intOf i).toNat)
    case atStart => exact ⟨m, Nat.le_refl _, rfl, ⟨rfl⟩, ⟨S⟩⟩
    case round =>
      clear S
      obtain ⟨k, hk, rfl, HE, ⟨S⟩⟩ := hrel
      have hc := S.cells; simp only [Cells, cellsC, Im, Row, El, RTH, TreeH, TR, Nat.zero_add, Nat.reduceAdd] at hc
      by_cases hk0 : 0 < k
      · obtain ⟨lo, hlo⟩ : ∃ lo, xs.length = lo + k := ⟨xs.length - k, by omega⟩
        have hq := S.cellsE; simp only [CellsE, cellsE, Im, Row, El, RTH, TreeH, TR, Nat.zero_add, Nat.reduceAdd] at hq
        have HF : As (∀ w', Ext w w' → Calls Try.prog 38 #[rtV A L.length c A' W.length c', .slice (B.map (fun x => x.add lo)) k (d - lo)] w' fun e w'' => e = .returned (.int .i64 (findT L (xs.drop lo))) ∧ Ext w' w'') := ⟨fun w' hx => by
          have h1 := find_c L W (xs.drop lo) A A' (B.map (fun x => x.add lo)) c c' (d - lo) w' _ _ (HL.out.below hx) ((HX.out.below hx).dropI lo) hsL HS.out (by rw [List.length_drop]; omega)
          rw [List.length_drop, show xs.length - lo = k by omega] at h1
          exact h1⟩
        have HD : As (dpst L xs k = if 0 ≤ findT L (xs.drop lo) then findT L (xs.drop lo) else dpst L xs (k - 1)) := ⟨by
          obtain ⟨q, rfl⟩ : ∃ q, k = q + 1 := ⟨k - 1, by omega⟩
          simp only [dpst]
          rw [show xs.length - (q + 1) = lo by omega, Nat.add_sub_cancel]⟩
        generalize findT L (xs.drop lo) = fv at HF HD
        go_wp2_with (first | ((first | (with_reducible refine wpl_seal S ?_) | (with_reducible refine cw_seal S ?_) | (with_reducible refine bp_seal S ?_) | (with_reducible refine ca_seal S ?_)); clear S; (try clear hc); intro w1 S; (try simp only [List.set_cons_zero, List.set_cons_succ, List.nil_append] at S); have hc := S.cells; simp only [Cells, cellsC, Im, Row, El, RTH, TreeH, TR, Nat.zero_add, Nat.reduceAdd] at hc))
        refine wp_region_ext [⟨[0, 1, 2, 3, 4, 5, 6], [], 7, false⟩] [8] (by kernel_rfl) (by kernel_rfl) ?_
        refine mix_cons rfl rfl rfl ?_
        simp only [opsAt, List.getD_cons_succ, List.getD_cons_zero]
        repeat (go_big_quiet_step ((intro hC; first | rfl | (go_simp; first | done | rfl))))
        refine wpQuiet_nil ?_
        repeat (go_big_quiet_step ((intro hC; first | rfl | (go_simp; first | done | rfl))))
        refine wpQuiet_nil ?_
        clear hq hc
        replace S := S.drew
        go_wp2_with (first | ((first | (with_reducible refine mx_seal S ?_) | (with_reducible refine wpl_seal S ?_) | (with_reducible refine ca_seal S ?_)); clear S; (try clear hc); intro w1 S; (try simp only [List.set_cons_zero, List.set_cons_succ, List.nil_append] at S); have hc := S.cells; simp only [Cells, cellsC, Im, Row, El, RTH, TreeH, TR, Nat.zero_add, Nat.reduceAdd] at hc) | (go_at_call 38; refine (HF.out _ S.out).mono ?_; rintro e w1 ⟨rfl, hx⟩; replace S := S.ext hx; clear hx; (try clear hc); have hc := S.cells; simp only [Cells, cellsC, Im, Row, El, RTH, TreeH, TR, Nat.zero_add, Nat.reduceAdd] at hc))
        refine ⟨(fun h => by cases h), ?_⟩
        refine mix_last rfl ?_
        simp only [opsAt, List.getD_cons_succ, List.getD_cons_zero]
        repeat (go_big_quiet_step ((intro hC; first | rfl | (go_simp; first | done | rfl))))
        refine wpQuiet_nil ?_
        simp only [calmQ]
        have hc := S.cells; simp only [Cells, cellsC, Im, Row, El, RTH, TreeH, TR, Nat.zero_add, Nat.reduceAdd] at hc
        by_cases hfv : 0 ≤ fv
        · go_wp2_with (first | ((first | (with_reducible refine wpl_seal S ?_) | (with_reducible refine cw_seal S ?_) | (with_reducible refine bp_seal S ?_) | (with_reducible refine ca_seal S ?_)); clear S; (try clear hc); intro w1 S; (try simp only [List.set_cons_zero, List.set_cons_succ, List.nil_append] at S); have hc := S.cells; simp only [Cells, cellsC, Im, Row, El, RTH, TreeH, TR, Nat.zero_add, Nat.reduceAdd] at hc))
          go_ret
          exact ⟨ret_int (by rw [← HE.out, HD.out, if_pos hfv]), S.out⟩
        · have HE2 : As (dpst L xs (k - 1) = dpst L xs m) := ⟨by rw [← HE.out, HD.out, if_neg hfv]⟩
          go_wp2_with (first | ((first | (with_reducible refine wpl_seal S ?_) | (with_reducible refine cw_seal S ?_) | (with_reducible refine bp_seal S ?_) | (with_reducible refine ca_seal S ?_)); clear S; (try clear hc); intro w1 S; (try simp only [List.set_cons_zero, List.set_cons_succ, List.nil_append] at S); have hc := S.cells; simp only [Cells, cellsC, Im, Row, El, RTH, TreeH, TR, Nat.zero_add, Nat.reduceAdd] at hc))
          go_roundw
          case rel => exact ⟨k - 1, by omega, by go_num, by first | exact HE2 | exact ⟨HE2.out⟩, ⟨by first | exact S | trivial⟩⟩
          case measure => simp [intOf] <;> omega
      · obtain rfl : k = 0 := by omega
        go_wp2_with (first | ((first | (with_reducible refine wpl_seal S ?_) | (with_reducible refine cw_seal S ?_) | (with_reducible refine bp_seal S ?_) | (with_reducible refine ca_seal S ?_)); clear S; (try clear hc); intro w1 S; (try simp only [List.set_cons_zero, List.set_cons_succ, List.nil_append] at S); have hc := S.cells; simp only [Cells, cellsC, Im, Row, El, RTH, TreeH, TR, Nat.zero_add, Nat.reduceAdd] at hc))
        go_ret
        exact ⟨ret_int (by rw [← HE.out]; rfl), S.out⟩
  · have HM : As (m = xs.length) := ⟨by omega⟩
    have hc := S.cells; simp only [Cells, cellsC, Im, Row, El, RTH, TreeH, TR, Nat.zero_add, Nat.reduceAdd] at hc
    go_enter Try.func15, Try.ntmps15
    go_upto_if 1 with (first | ((first | (with_reducible refine wpl_seal S ?_) | (with_reducible refine cw_seal S ?_) | (with_reducible refine bp_seal S ?_) | (with_reducible refine ca_seal S ?_)); clear S; (try clear hc); intro w1 S; (try simp only [List.set_cons_zero, List.set_cons_succ, List.nil_append] at S); have hc := S.cells; simp only [Cells, cellsC, Im, Row, El, RTH, TreeH, TR, Nat.zero_add, Nat.reduceAdd] at hc))
    obtain ⟨gB, egB⟩ := S.name 0 rfl; rw [← egB] at S ⊢; clear egB
    have hc := S.cells; simp only [Cells, cellsC, Im, Row, El, RTH, TreeH, TR, Nat.zero_add, Nat.reduceAdd] at hc
    go_wp2_with (first | ((first | (with_reducible refine wpl_seal S ?_) | (with_reducible refine cw_seal S ?_) | (with_reducible refine bp_seal S ?_) | (with_reducible refine ca_seal S ?_)); clear S; (try clear hc); intro w1 S; (try simp only [List.set_cons_zero, List.set_cons_succ, List.nil_append] at S); have hc := S.cells; simp only [Cells, cellsC, Im, Row, El, RTH, TreeH, TR, Nat.zero_add, Nat.reduceAdd] at hc))
    clear hc
    go_loopw [7] (fun i w' => ∃ k : Nat, k ≤ m ∧ i = .int .i64 k ∧ As (dpst L xs k = dpst L xs m) ∧ As (SH No No w [Cel gB 27 [.slice A L.length c, .slice A' W.length c']] w' No)) (fun i _ => (intOf i).toNat)
    case atStart => exact ⟨xs.length, by omega, rfl, ⟨by rw [HM.out]⟩, ⟨S⟩⟩
    case round =>
      clear S
      obtain ⟨k, hk, rfl, HE, ⟨S⟩⟩ := hrel
      have hc := S.cells; simp only [Cells, cellsC, Im, Row, El, RTH, TreeH, TR, Nat.zero_add, Nat.reduceAdd] at hc
      by_cases hk0 : 0 < k
      · obtain ⟨lo, hlo⟩ : ∃ lo, xs.length = lo + k := ⟨xs.length - k, by omega⟩
        have hq := S.cellsE; simp only [CellsE, cellsE, Im, Row, El, RTH, TreeH, TR, Nat.zero_add, Nat.reduceAdd] at hq
        have HF : As (∀ w', Ext w w' → Calls Try.prog 38 #[rtV A L.length c A' W.length c', .slice (B.map (fun x => x.add lo)) k (d - lo)] w' fun e w'' => e = .returned (.int .i64 (findT L (xs.drop lo))) ∧ Ext w' w'') := ⟨fun w' hx => by
          have h1 := find_c L W (xs.drop lo) A A' (B.map (fun x => x.add lo)) c c' (d - lo) w' _ _ (HL.out.below hx) ((HX.out.below hx).dropI lo) hsL HS.out (by rw [List.length_drop]; omega)
          rw [List.length_drop, show xs.length - lo = k by omega] at h1
          exact h1⟩
        have HD : As (dpst L xs k = if 0 ≤ findT L (xs.drop lo) then findT L (xs.drop lo) else dpst L xs (k - 1)) := ⟨by
          obtain ⟨q, rfl⟩ : ∃ q, k = q + 1 := ⟨k - 1, by omega⟩
          simp only [dpst]
          rw [show xs.length - (q + 1) = lo by omega, Nat.add_sub_cancel]⟩
        generalize findT L (xs.drop lo) = fv at HF HD
        go_wp2_with (first | ((first | (with_reducible refine wpl_seal S ?_) | (with_reducible refine cw_seal S ?_) | (with_reducible refine bp_seal S ?_) | (with_reducible refine ca_seal S ?_)); clear S; (try clear hc); intro w1 S; (try simp only [List.set_cons_zero, List.set_cons_succ, List.nil_append] at S); have hc := S.cells; simp only [Cells, cellsC, Im, Row, El, RTH, TreeH, TR, Nat.zero_add, Nat.reduceAdd] at hc))
        refine wp_region_ext [⟨[0, 1, 2, 3, 4, 5, 6], [], 7, false⟩] [8] (by kernel_rfl) (by kernel_rfl) ?_
        refine mix_cons rfl rfl rfl ?_
        simp only [opsAt, List.getD_cons_succ, List.getD_cons_zero]
        repeat (go_big_quiet_step ((intro hC; first | rfl | (go_simp; first | done | rfl))))
        refine wpQuiet_nil ?_
        repeat (go_big_quiet_step ((intro hC; first | rfl | (go_simp; first | done | rfl))))
        refine wpQuiet_nil ?_
        clear hq hc
        replace S := S.drew
        go_wp2_with (first | ((first | (with_reducible refine mx_seal S ?_) | (with_reducible refine wpl_seal S ?_) | (with_reducible refine ca_seal S ?_)); clear S; (try clear hc); intro w1 S; (try simp only [List.set_cons_zero, List.set_cons_succ, List.nil_append] at S); have hc := S.cells; simp only [Cells, cellsC, Im, Row, El, RTH, TreeH, TR, Nat.zero_add, Nat.reduceAdd] at hc) | (go_at_call 38; refine (HF.out _ S.out).mono ?_; rintro e w1 ⟨rfl, hx⟩; replace S := S.ext hx; clear hx; (try clear hc); have hc := S.cells; simp only [Cells, cellsC, Im, Row, El, RTH, TreeH, TR, Nat.zero_add, Nat.reduceAdd] at hc))
        refine ⟨(fun h => by cases h), ?_⟩
        refine mix_last rfl ?_
        simp only [opsAt, List.getD_cons_succ, List.getD_cons_zero]
        repeat (go_big_quiet_step ((intro hC; first | rfl | (go_simp; first | done | rfl))))
        refine wpQuiet_nil ?_
        simp only [calmQ]
        have hc := S.cells; simp only [Cells, cellsC, Im, Row, El, RTH, TreeH, TR, Nat.zero_add, Nat.reduceAdd] at hc
        by_cases hfv : 0 ≤ fv
        · go_wp2_with (first | ((first | (with_reducible refine wpl_seal S ?_) | (with_reducible refine cw_seal S ?_) | (with_reducible refine bp_seal S ?_) | (with_reducible refine ca_seal S ?_)); clear S; (try clear hc); intro w1 S; (try simp only [List.set_cons_zero, List.set_cons_succ, List.nil_append] at S); have hc := S.cells; simp only [Cells, cellsC, Im, Row, El, RTH, TreeH, TR, Nat.zero_add, Nat.reduceAdd] at hc))
          go_ret
          exact ⟨ret_int (by rw [← HE.out, HD.out, if_pos hfv]), S.out⟩
        · have HE2 : As (dpst L xs (k - 1) = dpst L xs m) := ⟨by rw [← HE.out, HD.out, if_neg hfv]⟩
          go_wp2_with (first | ((first | (with_reducible refine wpl_seal S ?_) | (with_reducible refine cw_seal S ?_) | (with_reducible refine bp_seal S ?_) | (with_reducible refine ca_seal S ?_)); clear S; (try clear hc); intro w1 S; (try simp only [List.set_cons_zero, List.set_cons_succ, List.nil_append] at S); have hc := S.cells; simp only [Cells, cellsC, Im, Row, El, RTH, TreeH, TR, Nat.zero_add, Nat.reduceAdd] at hc))
          go_roundw
          case rel => exact ⟨k - 1, by omega, by go_num, by first | exact HE2 | exact ⟨HE2.out⟩, ⟨by first | exact S | trivial⟩⟩
          case measure => simp [intOf] <;> omega
      · obtain rfl : k = 0 := by omega
        go_wp2_with (first | ((first | (with_reducible refine wpl_seal S ?_) | (with_reducible refine cw_seal S ?_) | (with_reducible refine bp_seal S ?_) | (with_reducible refine ca_seal S ?_)); clear S; (try clear hc); intro w1 S; (try simp only [List.set_cons_zero, List.set_cons_succ, List.nil_append] at S); have hc := S.cells; simp only [Cells, cellsC, Im, Row, El, RTH, TreeH, TR, Nat.zero_add, Nat.reduceAdd] at hc))
        go_ret
        exact ⟨ret_int (by rw [← HE.out]; rfl), S.out⟩
theorem xfall_c (L W : List (List Int)) (n : Int) (v : Value) (w : World) (I : Fp) (hI : ∀ b, I b → b < w.heap.size) (hR : RT w I v L W) (hL : L.length ≤ 1000000) (hs : ShortW L) (hne : ∀ i, 0 < i → i < L.length → pa L i ≠ []) :
    Calls Try.prog 27 #[v, .int .i64 n] w fun e w' => e = .returned (.int .i64 (fallR L n)) ∧ Ext w w' := by
  obtain ⟨A, c, A', c', rfl, hc0, hc', hLs, hWs⟩ := hR
  have S := (SH.start w I hI).know (h := Im kW A L) hLs
  have HS := As.mk hs
  have HNE := As.mk hne
  clear hs hne hLs hWs
  have hc := S.cells; simp only [Cells, cellsC, Im, Row, El, RTH, TreeH, TR, Nat.zero_add, Nat.reduceAdd] at hc
  by_cases h1 : 1 ≤ n
  · by_cases h2 : n < L.length
    · obtain ⟨k, rfl⟩ : ∃ k : Nat, n = k := ⟨n.toNat, by omega⟩
      have hk : k < L.length := by omega
      have hne' := HNE.out k (by omega) hk
      have h6 := HS.out _ (List.getElem_mem hk)
      have HE : As (fallR L k = dpst L L[k] (L[k].length - 1)) := ⟨by unfold fallR; rw [if_pos ⟨h1, h2⟩, Int.toNat_natCast, pa_eq hk]⟩
      rw [pa_eq hk] at hne'
      obtain ⟨b, o, A1, c1, rfl, hcx, hc1, hs1⟩ := (S.im 0 rfl).sl_at hk
      generalize L[k] = xs at hcx hc1 hs1 HE hne' h6
      replace S := S.know (h := Im kP A1 xs) hs1
      obtain ⟨m, hm⟩ : ∃ m, xs.length = m + 1 := ⟨xs.length - 1, by have : xs.length ≠ 0 := fun e => hne' (List.eq_nil_of_length_eq_zero e); omega⟩
      have HX : As (∀ w' I', SH No I w [Cel w.heap.size 27 [.slice (some ⟨b, o, none⟩) L.length c, .slice A' W.length c'], Im kP A1 xs, Im kW (some ⟨b, o, none⟩) L] w' I' → Calls Try.prog 15 #[rtV (some ⟨b, o, none⟩) L.length c A' W.length c', .slice A1 (m + 1) c1, .int .i64 m] w' fun e w'' => e = .returned (.int .i64 (fallR L k)) ∧ Ext w' w'') := ⟨fun w' I' S' => by
        have := deepest_c L W xs m (some ⟨b, o, none⟩) A' A1 c c' c1 w' _ _ (S'.im 2 rfl) (S'.im 1 rfl) (by omega) (by omega) hL HS.out (by omega)
        rw [hm] at this
        rw [HE.out, hm]
        exact this⟩
      rw [hm] at hcx
      clear hs1 hne'
      go_enter Try.func27, Try.ntmps27
      go_upto_if 1 with (first | ((first | (with_reducible refine wpl_seal S ?_) | (with_reducible refine cw_seal S ?_) | (with_reducible refine bp_seal S ?_) | (with_reducible refine ca_seal S ?_)); clear S; (try clear hc); intro w1 S; (try simp only [List.set_cons_zero, List.set_cons_succ, List.nil_append] at S); have hc := S.cells; simp only [Cells, cellsC, Im, Row, El, RTH, TreeH, TR, Nat.zero_add, Nat.reduceAdd] at hc))
      have hcx := S.out.cell hcx
      have hq := S.cellsE; simp only [CellsE, cellsE, Im, Row, El, RTH, TreeH, TR, Nat.zero_add, Nat.reduceAdd] at hq
      have hqx := ClE.cell (w := w1.drew) hcx
      have hmw : IntKind.i64.wrap (m : Int) = m := IntWalk.i64_in _ ⟨by omega, by omega⟩
      go_wp2_with (first | ((first | (with_reducible refine wpl_seal S ?_) | (with_reducible refine cw_seal S ?_) | (with_reducible refine bp_seal S ?_) | (with_reducible refine ca_seal S ?_)); clear S; (try clear hc); intro w1 S; (try simp only [List.set_cons_zero, List.set_cons_succ, List.nil_append] at S); have hc := S.cells; simp only [Cells, cellsC, Im, Row, El, RTH, TreeH, TR, Nat.zero_add, Nat.reduceAdd] at hc))
      refine wp_region_ext [⟨[0, 1, 2, 3, 4, 5, 6, 7, 8, 9, 10, 11, 12], [], 13, false⟩] [14] (by kernel_rfl) (by kernel_rfl) ?_
      refine mix_cons rfl rfl rfl ?_
      simp only [opsAt, List.getD_cons_succ, List.getD_cons_zero]
      repeat (go_big_quiet_step ((intro hC; first | rfl | (go_simp; first | done | rfl))))
      refine wpQuiet_nil ?_
      repeat (go_big_quiet_step ((intro hC; first | rfl | (go_simp; first | done | rfl))))
      refine wpQuiet_nil ?_
      clear hq hqx hcx hc
      replace S := S.drew
      have hc := S.cells; simp only [Cells, cellsC, Im, Row, El, RTH, TreeH, TR, Nat.zero_add, Nat.reduceAdd] at hc
      have hxx := HX.out _ _ S
      go_wp2_with (first | ((first | (with_reducible refine mx_seal S ?_) | (with_reducible refine wpl_seal S ?_) | (with_reducible refine ca_seal S ?_)); clear S; (try clear hc); intro w1 S; (try simp only [List.set_cons_zero, List.set_cons_succ, List.nil_append] at S); have hc := S.cells; simp only [Cells, cellsC, Im, Row, El, RTH, TreeH, TR, Nat.zero_add, Nat.reduceAdd] at hc) | (go_at_call 15; refine hxx.mono ?_; clear hxx; rintro e w1 ⟨rfl, hx⟩; replace S := S.ext hx; clear hx; (try clear hc); have hc := S.cells; simp only [Cells, cellsC, Im, Row, El, RTH, TreeH, TR, Nat.zero_add, Nat.reduceAdd] at hc))
      refine ⟨(fun h => by cases h), ?_⟩
      refine mix_last rfl ?_
      simp only [opsAt, List.getD_cons_succ, List.getD_cons_zero]
      repeat (go_big_quiet_step ((intro hC; first | rfl | (go_simp; first | done | rfl))))
      refine wpQuiet_nil ?_
      simp only [calmQ]
      have hc := S.cells; simp only [Cells, cellsC, Im, Row, El, RTH, TreeH, TR, Nat.zero_add, Nat.reduceAdd] at hc
      go_wp2_with (first | ((first | (with_reducible refine wpl_seal S ?_) | (with_reducible refine cw_seal S ?_) | (with_reducible refine bp_seal S ?_) | (with_reducible refine ca_seal S ?_)); clear S; (try clear hc); intro w1 S; (try simp only [List.set_cons_zero, List.set_cons_succ, List.nil_append] at S); have hc := S.cells; simp only [Cells, cellsC, Im, Row, El, RTH, TreeH, TR, Nat.zero_add, Nat.reduceAdd] at hc))
      go_ret
      exact ⟨rfl, S.out⟩
    · have HE : As (fallR L n = -1) := ⟨by unfold fallR; rw [if_neg (by omega)]⟩
      have hk1 : ¬ n < 1 := by omega
      have hk2 : (L.length : Int) ≤ n := by omega
      go_enter Try.func27, Try.ntmps27
      go_wp2_with (first | ((first | (with_reducible refine wpl_seal S ?_) | (with_reducible refine cw_seal S ?_) | (with_reducible refine bp_seal S ?_) | (with_reducible refine ca_seal S ?_)); clear S; (try clear hc); intro w1 S; (try simp only [List.set_cons_zero, List.set_cons_succ, List.nil_append] at S); have hc := S.cells; simp only [Cells, cellsC, Im, Row, El, RTH, TreeH, TR, Nat.zero_add, Nat.reduceAdd] at hc))
      go_ret
      exact ⟨ret_int HE.out.symm, S.out⟩
  · have HE : As (fallR L n = -1) := ⟨by unfold fallR; rw [if_neg (by omega)]⟩
    have hk1 : n < 1 := by omega
    go_enter Try.func27, Try.ntmps27
    go_wp2_with (first | ((first | (with_reducible refine wpl_seal S ?_) | (with_reducible refine cw_seal S ?_) | (with_reducible refine bp_seal S ?_) | (with_reducible refine ca_seal S ?_)); clear S; (try clear hc); intro w1 S; (try simp only [List.set_cons_zero, List.set_cons_succ, List.nil_append] at S); have hc := S.cells; simp only [Cells, cellsC, Im, Row, El, RTH, TreeH, TR, Nat.zero_add, Nat.reduceAdd] at hc))
    go_ret
    exact ⟨ret_int HE.out.symm, S.out⟩
theorem xnext_c (L W : List (List Int)) (n p : Int) (v : Value) (w : World) (I : Fp) (hI : ∀ b, I b → b < w.heap.size) (hR : RT w I v L W) (hL : L.length ≤ 1000000) (hs : ∀ x ∈ L, x.length ≤ 100000) :
    Calls Try.prog 11 #[v, .int .i64 n, .int .u64 p] w fun e w' => e = .returned (.int .i64 (nextR L n p)) ∧ Ext w w' := by
  obtain ⟨A, c, A', c', rfl, hc0, hc', hLs, hWs⟩ := hR
  have S := ((SH.start w I hI).know (h := Im kW A L) hLs).nilrow (k := kP)
  have HS := As.mk hs
  clear hs hLs hWs
  have hc := S.cells; simp only [Cells, cellsC, Im, Row, El, RTH, TreeH, TR, Nat.zero_add, Nat.reduceAdd] at hc
  by_cases hin : 0 ≤ n ∧ n < L.length
  · obtain ⟨k, rfl⟩ : ∃ k : Nat, n = k := ⟨n.toNat, by omega⟩
    have hk : k < L.length := by omega
    have hi' : (decide (0 ≤ (k : Int)) && decide ((k : Int) < L.length)) = true := by simp; omega
    have h6 := HS.out _ (List.getElem_mem hk)
    have HE : As (nextR L k p = dpst L (L[k] ++ [p]) (L[k].length + 1)) := ⟨by unfold nextR; rw [if_pos (by omega), Int.toNat_natCast, pa_eq hk]⟩
    obtain ⟨b, o, A1, c1, rfl, hcx, hc1, hs1⟩ := (S.im 1 rfl).sl_at hk
    generalize L[k] = xs at hcx hc1 hs1 HE h6
    replace S := S.know (h := Im kP A1 xs) hs1
    have HIN := As.mk hi'
    have HCX := As.mk hcx
    have HY : As (∀ (w' : World) (A7 : Option Addr) (c7 : Nat) (I' : Fp), Sl kP w' I' A7 (xs ++ [p]) → Sl kW w' I' (some ⟨b, o, none⟩) L → (xs ++ [p]).length ≤ c7 → Calls Try.prog 15 #[rtV (some ⟨b, o, none⟩) L.length c A' W.length c', .slice A7 (xs.length + 1) c7, .int .i64 (xs.length + 1)] w' fun e w'' => e = .returned (.int .i64 (nextR L k p)) ∧ Ext w' w'') := ⟨fun w' A7 c7 I' h7 h8 h9 => by
      have := deepest_c L W (xs ++ [p]) (xs.length + 1) (some ⟨b, o, none⟩) A' A7 c c' c7 w' _ _ h8 h7 h9 (by simp) hL (fun x hx => by have := HS.out x hx; omega) (by simp; omega)
      rw [HE.out]
      simpa using this⟩
    clear hs1 hin hi' hcx
    have hb : ∀ w', Ext w w' → w'.cell? ⟨b, o + k, none⟩ = some (.slice A1 xs.length c1) := fun w' hx => hx.cell HCX.out
    have HB := As.mk hb
    clear hb
    go_enter Try.func11, Try.ntmps11
    go_wp2_with (first | ((first | (with_reducible refine wpl_seal S ?_) | (with_reducible refine cw_seal S ?_) | (with_reducible refine bp_seal S ?_) | (with_reducible refine ca_seal S ?_)); clear S; (try clear hc); intro w1 S; (try simp only [List.set_cons_zero, List.set_cons_succ, List.nil_append] at S); have hc := S.cells; simp only [Cells, cellsC, Im, Row, El, RTH, TreeH, TR, Nat.zero_add, Nat.reduceAdd] at hc; have hcx := HB.out _ S.out) | (go_at_call 37; refine (xin_c L W k _ _ _ _ _).mono ?_; rw [HIN.out]; rintro e w1 ⟨rfl, hx⟩; replace S := S.ext hx; clear hx; (try clear hc); have hc := S.cells; simp only [Cells, cellsC, Im, Row, El, RTH, TreeH, TR, Nat.zero_add, Nat.reduceAdd] at hc; have hcx := HB.out _ S.out) | (at_builtin; with_reducible refine wpl_app S 2 rfl rfl _ _ rfl ty_pixs rfl A1 c1 xs rfl I (fun _ _ h => h) (S.im 1 rfl) (by simp only [maxLen, List.length_nil]; omega) (by simp only [List.length_nil]; omega) ?_; clear S hc; intro va w1 S; simp only [List.set_cons_zero, List.set_cons_succ, List.nil_append] at S; have hc := S.cells; simp only [Cells, cellsC, Im, Row, El, RTH, TreeH, TR, Nat.zero_add, Nat.reduceAdd] at hc) | (at_builtin; refine wpl_push S 3 rfl rfl _ _ rfl ty_pixs rfl p _ _ rfl [_] _ (S.cel 0 rfl) rfl (by (try simp only [maxLen, List.length_nil, List.length_append, List.length_cons]); omega) (by (try simp only [maxLen, List.length_nil, List.length_append, List.length_cons]); omega) ?_; clear S; (try clear hc); intro va w1 S; simp only [List.set_cons_zero, List.set_cons_succ, List.nil_append] at S; obtain ⟨Av, cv, eva, -, -⟩ := S.row 3 rfl; subst eva; have hc := S.cells; simp only [Cells, cellsC, Im, Row, El, RTH, TreeH, TR, Nat.zero_add, Nat.reduceAdd] at hc) | (go_at_call 15; obtain ⟨A7, c7, I7, e7, hc7, S7, -⟩ := S.frow 3 rfl; cases e7; clear S; have S := S7; clear S7; simp only [List.set_cons_zero, List.set_cons_succ, List.nil_append] at S; have HX := HY.out _ _ _ _ (S.im 3 rfl) (S.im 4 rfl) hc7; refine HX.mono ?_; clear HX; rintro e w1 ⟨rfl, hx⟩; replace S := S.ext hx; clear hx; (try clear hc); have hc := S.cells; simp only [Cells, cellsC, Im, Row, El, RTH, TreeH, TR, Nat.zero_add, Nat.reduceAdd] at hc))
    go_ret
    exact ⟨rfl, S.out⟩
  · have hi' : (decide (0 ≤ n) && decide (n < L.length)) = false := by
      rw [Bool.eq_false_iff]; intro h; simp only [Bool.and_eq_true, decide_eq_true_eq] at h; omega
    have HE : As (nextR L n p = -1) := ⟨by unfold nextR; rw [if_neg hin]⟩
    have HIN := As.mk hi'
    clear hi' hin
    go_enter Try.func11, Try.ntmps11
    go_wp2_with (first | ((first | (with_reducible refine wpl_seal S ?_) | (with_reducible refine cw_seal S ?_) | (with_reducible refine bp_seal S ?_) | (with_reducible refine ca_seal S ?_)); clear S; (try clear hc); intro w1 S; (try simp only [List.set_cons_zero, List.set_cons_succ, List.nil_append] at S); have hc := S.cells; simp only [Cells, cellsC, Im, Row, El, RTH, TreeH, TR, Nat.zero_add, Nat.reduceAdd] at hc) | (go_at_call 37; refine (xin_c L W n _ _ _ _ _).mono ?_; rw [HIN.out]; rintro e w1 ⟨rfl, hx⟩; replace S := S.ext hx; clear hx; (try clear hc); have hc := S.cells; simp only [Cells, cellsC, Im, Row, El, RTH, TreeH, TR, Nat.zero_add, Nat.reduceAdd] at hc))
    go_ret
    exact ⟨ret_int HE.out.symm, S.out⟩
theorem xlast_c (xs ys : List Int) (A B : Option Addr) (c d : Nat) (w : World) (D E : Fp) (hx : Sl kP w D A xs) (hy : Sl kP w E B ys) (hc : xs.length ≤ c) (hd : ys.length ≤ d) (hxl : xs.length ≤ 1000000) (hyl : ys.length ≤ 1000000) :
    Calls Try.prog 17 #[.slice A xs.length c, .slice B ys.length d] w fun e w' => e = .returned (.bool (decide (ys <:+ xs))) ∧ Ext w w' := by
  have HX := As.mk hx
  have HY := As.mk hy
  clear hx hy
  by_cases hl : ys.length ≤ xs.length
  · obtain ⟨lo, hlo⟩ : ∃ lo, xs.length = lo + ys.length := ⟨xs.length - ys.length, by omega⟩
    have HE : As (decide (xs.drop lo = ys) = decide (ys <:+ xs)) := ⟨by
      rw [decide_eq_decide, List.suffix_iff_eq_drop, show xs.length - ys.length = lo by omega]
      exact eq_comm⟩
    have h0 := (HX.out.dropC lo c hc)
    have hlen : (xs.drop lo).length = ys.length := by rw [List.length_drop]; omega
    have HH : As (∀ A2 c2, Sl kP w D A2 (xs.drop lo) → Calls Try.prog 40 #[.slice A2 ys.length c2, .slice B ys.length d] w fun e w' => e = .returned (.bool (decide (ys <:+ xs))) ∧ Ext w w') := ⟨fun A2 c2 h2 => by
      have := sameRow_c (xs.drop lo) ys A2 B c2 d w D E h2 HY.out hyl
      rw [hlen, HE.out] at this
      exact this.mono fun e w' ⟨h1, h2⟩ => ⟨h1, h2.ext⟩⟩
    have H0 := As.mk h0
    clear h0 hlen
    go_enter Try.func17, Try.ntmps17
    go_wp2_with (first | (go_at_call 40; refine (HH.out _ _ H0.out).mono ?_; rintro e w1 ⟨rfl, hx⟩))
    all_goals
      go_ret
      exact ⟨rfl, hx⟩
  · have hl1 : xs.length < ys.length := by omega
    have HE : As (decide (ys <:+ xs) = false) := ⟨by rw [decide_eq_false_iff_not]; intro h; have := h.length_le; omega⟩
    go_enter Try.func17, Try.ntmps17
    go_wp2
    go_ret
    exact ⟨ret_bool HE.out.symm, Ext.refl _⟩
def endK (W : List (List Int)) (x : List Int) (m : Nat) : List Int := ((List.range m).filter (fun i => decide (pa W i <:+ x))).map (fun k : Nat => (k : Int))
theorem endK_yes {W : List (List Int)} {x : List Int} {m : Nat} (h : decide (pa W m <:+ x) = true) : endK W x (m + 1) = endK W x m ++ [(m : Int)] := by
  unfold endK; rw [List.range_succ, List.filter_append, List.filter_cons_of_pos (p := fun i => decide (pa W i <:+ x)) h, List.map_append]; rfl
theorem endK_no {W : List (List Int)} {x : List Int} {m : Nat} (h : decide (pa W m <:+ x) = false) : endK W x (m + 1) = endK W x m := by
  unfold endK; rw [List.range_succ, List.filter_append, List.filter_cons_of_neg (p := fun i => decide (pa W i <:+ x)) (by rw [h]; simp), List.filter_nil, List.append_nil]
theorem endK_le {W : List (List Int)} {x : List Int} {m : Nat} : (endK W x m).length ≤ m := by
  unfold endK
  rw [List.length_map]
  exact Nat.le_trans (List.length_filter_le _ _) (by simp)
theorem xends_c (L W : List (List Int)) (n : Int) (v : Value) (w : World) (I : Fp) (hI : ∀ b, I b → b < w.heap.size) (hR : RT w I v L W) (hL : L.length ≤ 1000000) (hW : W.length ≤ 1000000) (hs : ShortW L) (hs2 : ShortW W) :
    Calls Try.prog 29 #[v, .int .i64 n] w fun e w' => ∃ v, e = .returned v ∧ Upd w No I w' (Row kI v (endsR L W n)) := by
  obtain ⟨A, c, A', c', rfl, hc0, hc', hLs, hWs⟩ := hR
  have S := (((SH.start w I hI).know (h := Im kW A' W) hWs).know (h := Im kW A L) hLs).nilrow (k := kI)
  have HS := As.mk hs
  have HS2 := As.mk hs2
  clear hLs hWs hs hs2
  have hc := S.cells; simp only [Cells, cellsC, Im, Row, El, RTH, TreeH, TR, Nat.zero_add, Nat.reduceAdd] at hc
  by_cases hin : 0 ≤ n ∧ n < L.length
  · obtain ⟨k, rfl⟩ : ∃ k : Nat, n = k := ⟨n.toNat, by omega⟩
    have hk : k < L.length := by omega
    have hi' : (decide (0 ≤ (k : Int)) && decide ((k : Int) < L.length)) = true := by simp; omega
    have HIN := As.mk hi'
    have HE : As (endsR L W k = endK W L[k] W.length) := ⟨by unfold endsR; rw [if_pos hin, Int.toNat_natCast, pa_eq hk]; rfl⟩
    have h6 := HS.out _ (List.getElem_mem hk)
    have hmx : max (k : Int) 0 = k := by omega
    have hmn : min (k : Int) ((L.length : Int) - 1) = k := by omega
    clear hi' hin
    go_enter Try.func29, Try.ntmps29
    go_upto_if 2 with (first | ((first | (with_reducible refine wpl_seal S ?_) | (with_reducible refine cw_seal S ?_) | (with_reducible refine bp_seal S ?_) | (with_reducible refine ca_seal S ?_)); clear S; (try clear hc); intro w1 S; (try simp only [List.set_cons_zero, List.set_cons_succ, List.nil_append] at S); have hc := S.cells; simp only [Cells, cellsC, Im, Row, El, RTH, TreeH, TR, Nat.zero_add, Nat.reduceAdd] at hc))
    obtain ⟨gB, egB⟩ := S.name 0 rfl; rw [← egB] at S ⊢; clear egB
    have hc := S.cells; simp only [Cells, cellsC, Im, Row, El, RTH, TreeH, TR, Nat.zero_add, Nat.reduceAdd] at hc
    go_wp2_with (first | ((first | (with_reducible refine wpl_seal S ?_) | (with_reducible refine cw_seal S ?_) | (with_reducible refine bp_seal S ?_) | (with_reducible refine ca_seal S ?_)); clear S; (try clear hc); intro w1 S; (try simp only [List.set_cons_zero, List.set_cons_succ, List.nil_append] at S); have hc := S.cells; simp only [Cells, cellsC, Im, Row, El, RTH, TreeH, TR, Nat.zero_add, Nat.reduceAdd] at hc))
    clear hc
    go_loopw [5, 6] (fun o i w' => ∃ (t : Nat) (out : List Int), As (out = endK W L[k] t) ∧ t ≤ W.length ∧ i = .int .i64 t ∧ As (SH No I w [Cel gB 27 [.slice A L.length c, .slice A' W.length c'], Row kI o out, Im kW A L, Im kW A' W] w' I)) (fun _ i _ => W.length - (intOf i).toNat)
    case atStart => exact ⟨0, [], ⟨rfl⟩, Nat.zero_le _, rfl, ⟨S⟩⟩
    case round =>
      clear S
      obtain ⟨t, out, HO, ht, rfl, ⟨S⟩⟩ := hrel
      have hol : out.length ≤ 1000000 := by rw [HO.out]; have := endK_le (W := W) (x := L[k]) (m := t); omega
      have hc := S.cells; simp only [Cells, cellsC, Im, Row, El, RTH, TreeH, TR, Nat.zero_add, Nat.reduceAdd] at hc
      have hq := S.cellsE; simp only [CellsE, cellsE, Im, Row, El, RTH, TreeH, TR, Nat.zero_add, Nat.reduceAdd] at hq
      by_cases htk : t < W.length
      · have htk' : decide ((t : Int) < W.length) = true := by simpa using htk
        have hpw : pa W t = W[t] := pa_eq htk
        have hly := HS2.out _ (List.getElem_mem htk)
        obtain ⟨b, o, A1, c1, rfl, hcx, hc1, hs1⟩ := (S.im 2 rfl).sl_at hk
        obtain ⟨b', o', A2, c2, rfl, hcy, hc2, hs2⟩ := (S.im 3 rfl).sl_at htk
        have hqx := ClE.cell (w := wr.drew) hcx
        have hqy := ClE.cell (w := wr.drew) hcy
        have HYS : As (decide (pa W t <:+ L[k]) = true → endK W L[k] (t + 1) = out ++ [(t : Int)]) := ⟨fun h => by rw [endK_yes h, HO.out]⟩
        have HNO : As (decide (pa W t <:+ L[k]) = false → endK W L[k] (t + 1) = out) := ⟨fun h => by rw [endK_no h, HO.out]⟩
        rw [hpw] at HYS HNO
        have HLX : As (L[k].length ≤ 1000000) := ⟨h6⟩
        generalize hgx : L[k] = xs at hcx hqx hc1 hs1 HYS HNO HLX
        generalize W[t] = ys at hcy hqy hc2 hs2 hly HYS HNO
        replace S := (S.know (h := Im kP A2 ys) hs2).know (h := Im kP A1 xs) hs1
        have HGX := As.mk hgx
        clear hs1 hs2 hpw hgx
        generalize hbv : decide (ys <:+ xs) = bv at HYS HNO
        have HBV := As.mk hbv
        clear hbv
        go_wp2_with (first | ((first | (with_reducible refine wpl_seal S ?_) | (with_reducible refine cw_seal S ?_) | (with_reducible refine bp_seal S ?_) | (with_reducible refine ca_seal S ?_)); clear S; (try clear hc); intro w1 S; (try simp only [List.set_cons_zero, List.set_cons_succ, List.nil_append] at S); have hc := S.cells; simp only [Cells, cellsC, Im, Row, El, RTH, TreeH, TR, Nat.zero_add, Nat.reduceAdd] at hc))
        refine wp_region_ext [⟨[0, 1], [], 2, false⟩, ⟨[3, 4, 5, 6, 7, 8, 9, 10, 11, 12, 13, 14, 15, 16, 17, 18, 19], [], 20, false⟩] [21] (by kernel_rfl) (by kernel_rfl) ?_
        refine mix_cons rfl rfl rfl ?_
        simp only [opsAt, List.getD_cons_succ, List.getD_cons_zero]
        repeat (go_big_quiet_step ((intro hC; first | rfl | (go_simp; first | done | rfl))))
        refine wpQuiet_nil ?_
        repeat (go_big_quiet_step ((intro hC; first | rfl | (go_simp; first | done | rfl))))
        refine wpQuiet_nil ?_
        clear hq hqx hqy hc
        replace S := S.drew
        replace hcx : wr.drew.cell? ⟨b, o + k, none⟩ = some (.slice A1 xs.length c1) := hcx
        replace hcy : wr.drew.cell? ⟨b', o' + t, none⟩ = some (.slice A2 ys.length c2) := hcy
        generalize wr.drew = w1 at S hcx hcy ⊢
        have hc := S.cells; simp only [Cells, cellsC, Im, Row, El, RTH, TreeH, TR, Nat.zero_add, Nat.reduceAdd] at hc
        go_wp2_with (first | ((first | (with_reducible refine mx_seal S ?_) | (with_reducible refine wpl_seal S ?_) | (with_reducible refine ca_seal S ?_)); clear S; (try clear hc); intro w1 S; (try simp only [List.set_cons_zero, List.set_cons_succ, List.nil_append] at S); have hc := S.cells; simp only [Cells, cellsC, Im, Row, El, RTH, TreeH, TR, Nat.zero_add, Nat.reduceAdd] at hc) | (go_at_call 37; refine (xin_c L W k _ _ _ _ _).mono ?_; rw [HIN.out]; rintro e w2 ⟨rfl, hx⟩; replace hcx := hx.cell hcx; replace hcy := hx.cell hcy; replace S := S.ext hx; clear hx; (try clear hc); have hc := S.cells; simp only [Cells, cellsC, Im, Row, El, RTH, TreeH, TR, Nat.zero_add, Nat.reduceAdd] at hc))
        (first | refine ⟨(fun h => by cases h), ?_⟩ | skip); (first | ((first | (with_reducible refine mx_seal S ?_)); clear S; (try clear hc); intro w1 S; (try simp only [List.set_cons_zero, List.set_cons_succ, List.nil_append] at S); have hc := S.cells; simp only [Cells, cellsC, Im, Row, El, RTH, TreeH, TR, Nat.zero_add, Nat.reduceAdd] at hc) | skip); (try simp only [Act.put, List.setIfInBounds_toArray, List.set_cons_succ, List.set_cons_zero])
        have hq := CellsE_of S.cells; simp only [CellsE, cellsE, Im, Row, El, RTH, TreeH, TR, Nat.zero_add, Nat.reduceAdd] at hq
        have hqx := ClE.cell (w := w2) hcx
        have hqy := ClE.cell (w := w2) hcy
        refine mix_cons rfl rfl rfl ?_
        simp only [opsAt, List.getD_cons_succ, List.getD_cons_zero]
        repeat (go_big_quiet_step ((intro hC; first | rfl | (go_simp; first | done | rfl))))
        refine wpQuiet_nil ?_
        repeat (go_big_quiet_step ((intro hC; first | rfl | (go_simp; first | done | rfl))))
        refine wpQuiet_nil ?_
        clear hq hqx hqy hcx hcy
        go_wp2_with (first | ((first | (with_reducible refine mx_seal S ?_) | (with_reducible refine wpl_seal S ?_) | (with_reducible refine ca_seal S ?_)); clear S; (try clear hc); intro w1 S; (try simp only [List.set_cons_zero, List.set_cons_succ, List.nil_append] at S); have hc := S.cells; simp only [Cells, cellsC, Im, Row, El, RTH, TreeH, TR, Nat.zero_add, Nat.reduceAdd] at hc) | (go_at_call 17; refine (xlast_c xs ys A1 A2 c1 c2 _ _ _ (S.im 0 rfl) (S.im 1 rfl) hc1 hc2 HLX.out hly).mono ?_; rw [HBV.out]; rintro e w3 ⟨rfl, hx⟩; replace S := S.ext hx; clear hx; (try clear hc); have hc := S.cells; simp only [Cells, cellsC, Im, Row, El, RTH, TreeH, TR, Nat.zero_add, Nat.reduceAdd] at hc))
        (first | refine ⟨(fun h => by cases h), ?_⟩ | skip); (first | ((first | (with_reducible refine mx_seal S ?_)); clear S; (try clear hc); intro w1 S; (try simp only [List.set_cons_zero, List.set_cons_succ, List.nil_append] at S); have hc := S.cells; simp only [Cells, cellsC, Im, Row, El, RTH, TreeH, TR, Nat.zero_add, Nat.reduceAdd] at hc) | skip); (try simp only [Act.put, List.setIfInBounds_toArray, List.set_cons_succ, List.set_cons_zero])
        refine mix_last rfl ?_
        simp only [opsAt, List.getD_cons_succ, List.getD_cons_zero]
        repeat (go_big_quiet_step ((intro hC; first | rfl | (go_simp; first | done | rfl))))
        refine wpQuiet_nil ?_
        simp only [calmQ]
        have hc := S.cells; simp only [Cells, cellsC, Im, Row, El, RTH, TreeH, TR, Nat.zero_add, Nat.reduceAdd] at hc
        cases bv
        · go_wp2_with (first | ((first | (with_reducible refine wpl_seal S ?_) | (with_reducible refine cw_seal S ?_) | (with_reducible refine bp_seal S ?_) | (with_reducible refine ca_seal S ?_)); clear S; (try clear hc); intro w1 S; (try simp only [List.set_cons_zero, List.set_cons_succ, List.nil_append] at S); have hc := S.cells; simp only [Cells, cellsC, Im, Row, El, RTH, TreeH, TR, Nat.zero_add, Nat.reduceAdd] at hc))
          go_roundw
          case rel => exact ⟨t + 1, out, ⟨by rw [HGX.out] at *; exact (HNO.out rfl).symm⟩, by omega, by go_num, ⟨(S.sel [2, 3, 4, 5] (by decide) rfl (by simp) : SH _ _ _ [_, _, _, _] _ _)⟩⟩
          case measure => simp [intOf] <;> omega
        · go_wp2_with (first | ((first | (with_reducible refine wpl_seal S ?_) | (with_reducible refine cw_seal S ?_) | (with_reducible refine bp_seal S ?_) | (with_reducible refine ca_seal S ?_)); clear S; (try clear hc); intro w1 S; (try simp only [List.set_cons_zero, List.set_cons_succ, List.nil_append] at S); have hc := S.cells; simp only [Cells, cellsC, Im, Row, El, RTH, TreeH, TR, Nat.zero_add, Nat.reduceAdd] at hc) | (at_builtin; refine wpl_push S 4 rfl rfl _ _ rfl ty_ints rfl (t : Int) _ _ rfl [_] _ (S.cel 0 rfl) rfl (by (try simp only [maxLen, List.length_nil, List.length_append, List.length_cons]); omega) (by (try simp only [maxLen, List.length_nil, List.length_append, List.length_cons]); omega) ?_; clear S; (try clear hc); intro va w1 S; simp only [List.set_cons_zero, List.set_cons_succ, List.nil_append] at S; have hc := S.cells; simp only [Cells, cellsC, Im, Row, El, RTH, TreeH, TR, Nat.zero_add, Nat.reduceAdd] at hc))
          go_roundw
          case rel => exact ⟨t + 1, _, ⟨by rw [HGX.out] at *; exact (HYS.out rfl).symm⟩, by omega, by go_num, ⟨(S.sel [3, 4, 5, 6] (by decide) rfl (by simp) : SH _ _ _ [_, _, _, _] _ _)⟩⟩
          case measure => simp [intOf] <;> omega
      · have htk' : decide ((t : Int) < W.length) = false := by simpa using htk
        obtain rfl : t = W.length := by omega
        go_wp2_with (first | ((first | (with_reducible refine wpl_seal S ?_) | (with_reducible refine cw_seal S ?_) | (with_reducible refine bp_seal S ?_) | (with_reducible refine ca_seal S ?_)); clear S; (try clear hc); intro w1 S; (try simp only [List.set_cons_zero, List.set_cons_succ, List.nil_append] at S); have hc := S.cells; simp only [Cells, cellsC, Im, Row, El, RTH, TreeH, TR, Nat.zero_add, Nat.reduceAdd] at hc))
        go_ret
        refine ⟨_, rfl, ?_⟩
        rw [HE.out, ← HO.out]
        exact S.ret 1 rfl
  · have hi' : (decide (0 ≤ n) && decide (n < L.length)) = false := by
      rw [Bool.eq_false_iff]; intro h; simp only [Bool.and_eq_true, decide_eq_true_eq] at h; omega
    have HE : As (endsR L W n = []) := ⟨by unfold endsR; rw [if_neg hin]⟩
    have HIN := As.mk hi'
    clear hi' hin
    go_enter Try.func29, Try.ntmps29
    go_upto_if 2 with (first | ((first | (with_reducible refine wpl_seal S ?_) | (with_reducible refine cw_seal S ?_) | (with_reducible refine bp_seal S ?_) | (with_reducible refine ca_seal S ?_)); clear S; (try clear hc); intro w1 S; (try simp only [List.set_cons_zero, List.set_cons_succ, List.nil_append] at S); have hc := S.cells; simp only [Cells, cellsC, Im, Row, El, RTH, TreeH, TR, Nat.zero_add, Nat.reduceAdd] at hc))
    obtain ⟨gB, egB⟩ := S.name 0 rfl; rw [← egB] at S ⊢; clear egB
    have hc := S.cells; simp only [Cells, cellsC, Im, Row, El, RTH, TreeH, TR, Nat.zero_add, Nat.reduceAdd] at hc
    go_wp2_with (first | ((first | (with_reducible refine wpl_seal S ?_) | (with_reducible refine cw_seal S ?_) | (with_reducible refine bp_seal S ?_) | (with_reducible refine ca_seal S ?_)); clear S; (try clear hc); intro w1 S; (try simp only [List.set_cons_zero, List.set_cons_succ, List.nil_append] at S); have hc := S.cells; simp only [Cells, cellsC, Im, Row, El, RTH, TreeH, TR, Nat.zero_add, Nat.reduceAdd] at hc))
    clear hc
    go_loopw [5, 6] (fun o i w' => ∃ (t : Nat), o = .slice none 0 0 ∧ t ≤ W.length ∧ i = .int .i64 t ∧ As (SH No I w [Cel gB 27 [.slice A L.length c, .slice A' W.length c'], Row kI (.slice none 0 0) [], Im kW A L, Im kW A' W] w' I)) (fun _ i _ => W.length - (intOf i).toNat)
    case atStart => exact ⟨0, rfl, Nat.zero_le _, rfl, ⟨S⟩⟩
    case round =>
      clear S
      obtain ⟨t, rfl, ht, rfl, ⟨S⟩⟩ := hrel
      have hc := S.cells; simp only [Cells, cellsC, Im, Row, El, RTH, TreeH, TR, Nat.zero_add, Nat.reduceAdd] at hc
      have hq := S.cellsE; simp only [CellsE, cellsE, Im, Row, El, RTH, TreeH, TR, Nat.zero_add, Nat.reduceAdd] at hq
      by_cases htk : t < W.length
      · have htk' : decide ((t : Int) < W.length) = true := by simpa using htk
        go_wp2_with (first | ((first | (with_reducible refine wpl_seal S ?_) | (with_reducible refine cw_seal S ?_) | (with_reducible refine bp_seal S ?_) | (with_reducible refine ca_seal S ?_)); clear S; (try clear hc); intro w1 S; (try simp only [List.set_cons_zero, List.set_cons_succ, List.nil_append] at S); have hc := S.cells; simp only [Cells, cellsC, Im, Row, El, RTH, TreeH, TR, Nat.zero_add, Nat.reduceAdd] at hc))
        refine wp_region_ext [⟨[0, 1], [], 2, false⟩, ⟨[3, 4, 5, 6, 7, 8, 9, 10, 11, 12, 13, 14, 15, 16, 17, 18, 19], [], 20, false⟩] [21] (by kernel_rfl) (by kernel_rfl) ?_
        refine mix_cons rfl rfl rfl ?_
        simp only [opsAt, List.getD_cons_succ, List.getD_cons_zero]
        repeat (go_big_quiet_step ((intro hC; first | rfl | (go_simp; first | done | rfl))))
        refine wpQuiet_nil ?_
        repeat (go_big_quiet_step ((intro hC; first | rfl | (go_simp; first | done | rfl))))
        refine wpQuiet_nil ?_
        clear hq hc
        replace S := S.drew
        generalize wr.drew = w1 at S ⊢
        have hc := S.cells; simp only [Cells, cellsC, Im, Row, El, RTH, TreeH, TR, Nat.zero_add, Nat.reduceAdd] at hc
        go_wp2_with (first | ((first | (with_reducible refine mx_seal S ?_) | (with_reducible refine wpl_seal S ?_) | (with_reducible refine ca_seal S ?_)); clear S; (try clear hc); intro w1 S; (try simp only [List.set_cons_zero, List.set_cons_succ, List.nil_append] at S); have hc := S.cells; simp only [Cells, cellsC, Im, Row, El, RTH, TreeH, TR, Nat.zero_add, Nat.reduceAdd] at hc) | (go_at_call 37; refine (xin_c L W n _ _ _ _ _).mono ?_; rw [HIN.out]; rintro e w2 ⟨rfl, hx⟩; replace S := S.ext hx; clear hx; (try clear hc); have hc := S.cells; simp only [Cells, cellsC, Im, Row, El, RTH, TreeH, TR, Nat.zero_add, Nat.reduceAdd] at hc))
        (first | refine ⟨(fun h => by cases h), ?_⟩ | skip); (first | ((first | (with_reducible refine mx_seal S ?_)); clear S; (try clear hc); intro w1 S; (try simp only [List.set_cons_zero, List.set_cons_succ, List.nil_append] at S); have hc := S.cells; simp only [Cells, cellsC, Im, Row, El, RTH, TreeH, TR, Nat.zero_add, Nat.reduceAdd] at hc) | skip); (try simp only [Act.put, List.setIfInBounds_toArray, List.set_cons_succ, List.set_cons_zero])
        have hq := CellsE_of S.cells; simp only [CellsE, cellsE, Im, Row, El, RTH, TreeH, TR, Nat.zero_add, Nat.reduceAdd] at hq
        refine mix_cons rfl rfl rfl ?_
        simp only [opsAt, List.getD_cons_succ, List.getD_cons_zero]
        repeat (go_big_quiet_step ((intro hC; first | rfl | (go_simp; first | done | rfl))))
        refine wpQuiet_nil ?_
        repeat (go_big_quiet_step ((intro hC; first | rfl | (go_simp; first | done | rfl))))
        refine wpQuiet_nil ?_
        clear hq
        go_wp2_with (first | ((first | (with_reducible refine mx_seal S ?_) | (with_reducible refine wpl_seal S ?_) | (with_reducible refine ca_seal S ?_)); clear S; (try clear hc); intro w1 S; (try simp only [List.set_cons_zero, List.set_cons_succ, List.nil_append] at S); have hc := S.cells; simp only [Cells, cellsC, Im, Row, El, RTH, TreeH, TR, Nat.zero_add, Nat.reduceAdd] at hc))
        (first | refine ⟨(fun h => by cases h), ?_⟩ | skip); (first | ((first | (with_reducible refine mx_seal S ?_)); clear S; (try clear hc); intro w1 S; (try simp only [List.set_cons_zero, List.set_cons_succ, List.nil_append] at S); have hc := S.cells; simp only [Cells, cellsC, Im, Row, El, RTH, TreeH, TR, Nat.zero_add, Nat.reduceAdd] at hc) | skip); (try simp only [Act.put, List.setIfInBounds_toArray, List.set_cons_succ, List.set_cons_zero])
        refine mix_last rfl ?_
        simp only [opsAt, List.getD_cons_succ, List.getD_cons_zero]
        repeat (go_big_quiet_step ((intro hC; first | rfl | (go_simp; first | done | rfl))))
        refine wpQuiet_nil ?_
        simp only [calmQ]
        have hc := S.cells; simp only [Cells, cellsC, Im, Row, El, RTH, TreeH, TR, Nat.zero_add, Nat.reduceAdd] at hc
        go_wp2_with (first | ((first | (with_reducible refine wpl_seal S ?_) | (with_reducible refine cw_seal S ?_) | (with_reducible refine bp_seal S ?_) | (with_reducible refine ca_seal S ?_)); clear S; (try clear hc); intro w1 S; (try simp only [List.set_cons_zero, List.set_cons_succ, List.nil_append] at S); have hc := S.cells; simp only [Cells, cellsC, Im, Row, El, RTH, TreeH, TR, Nat.zero_add, Nat.reduceAdd] at hc))
        go_roundw
        case rel => exact ⟨t + 1, rfl, by omega, by go_num, ⟨S⟩⟩
        case measure => simp [intOf] <;> omega
      · have htk' : decide ((t : Int) < W.length) = false := by simpa using htk
        obtain rfl : t = W.length := by omega
        go_wp2_with (first | ((first | (with_reducible refine wpl_seal S ?_) | (with_reducible refine cw_seal S ?_) | (with_reducible refine bp_seal S ?_) | (with_reducible refine ca_seal S ?_)); clear S; (try clear hc); intro w1 S; (try simp only [List.set_cons_zero, List.set_cons_succ, List.nil_append] at S); have hc := S.cells; simp only [Cells, cellsC, Im, Row, El, RTH, TreeH, TR, Nat.zero_add, Nat.reduceAdd] at hc))
        go_ret
        refine ⟨_, rfl, ?_⟩
        rw [HE.out]
        exact S.ret 1 rfl
theorem xlink_c (L W : List (List Int)) (n : Int) (v : Value) (w : World) (I : Fp) (hI : ∀ b, I b → b < w.heap.size) (hR : RT w I v L W) (hG : GoodR L W) (hL : L.length ≤ 1000000) (hW : W.length ≤ 1000000) (hs : ShortW L) (hs2 : ShortW W) :
    Calls Try.prog 34 #[v, .int .i64 n] w fun e w' => e = .returned (.int .i64 (linkR L W n)) ∧ Ext w w' := by
  have hne : ∀ i, 0 < i → i < L.length → pa L i ≠ [] := fun i h0 hi => hG.ne h0 hi
  obtain ⟨A, c, A', c', rfl, hc0, hc', hLs, hWs⟩ := hR
  have S := ((SH.start w I hI).know (h := Im kW A' W) hWs).know (h := Im kW A L) hLs
  have HS := As.mk hs
  have HS2 := As.mk hs2
  have HNE := As.mk hne
  have HG := As.mk hG
  clear hLs hWs hs hs2 hne hG
  have HF : As (∀ (z : Int) w' I', SH No I w [Cel w.heap.size 27 [.slice A L.length c, .slice A' W.length c'], Im kW A L, Im kW A' W] w' I' → Calls Try.prog 27 #[rtV A L.length c A' W.length c', .int .i64 z] w' fun e w'' => e = .returned (.int .i64 (fallR L z)) ∧ Ext w' w'') := ⟨fun z w' I' S' => xfall_c L W z _ w' I' S'.bd ⟨A, c, A', c', rfl, hc0, hc', S'.im 1 rfl, S'.im 2 rfl⟩ hL HS.out HNE.out⟩
  have HWD : As (∀ (z : Int) w' I', SH No I w [Cel w.heap.size 27 [.slice A L.length c, .slice A' W.length c'], Im kW A L, Im kW A' W] w' I' → Calls Try.prog 32 #[rtV A L.length c A' W.length c', .int .i64 z] w' fun e w'' => ∃ v, e = .returned v ∧ Upd w' No I' w'' (Row kI v (wsR L W z))) := ⟨fun z w' I' S' => rwords_c L W z _ w' I' S'.bd ⟨A, c, A', c', rfl, hc0, hc', S'.im 1 rfl, S'.im 2 rfl⟩ hL hW HS.out HS2.out⟩
  have hc := S.cells; simp only [Cells, cellsC, Im, Row, El, RTH, TreeH, TR, Nat.zero_add, Nat.reduceAdd] at hc
  go_enter Try.func34, Try.ntmps34
  go_wp2_with (first | ((first | (with_reducible refine wpl_seal S ?_) | (with_reducible refine cw_seal S ?_) | (with_reducible refine bp_seal S ?_) | (with_reducible refine ca_seal S ?_)); clear S; (try clear hc); intro w1 S; (try simp only [List.set_cons_zero, List.set_cons_succ, List.nil_append] at S); have hc := S.cells; simp only [Cells, cellsC, Im, Row, El, RTH, TreeH, TR, Nat.zero_add, Nat.reduceAdd] at hc) | (go_at_call 27; refine (HF.out n _ _ S).mono ?_; rintro e w1 ⟨rfl, hx⟩; replace S := S.ext hx; clear hx; (try clear hc); have hc := S.cells; simp only [Cells, cellsC, Im, Row, El, RTH, TreeH, TR, Nat.zero_add, Nat.reduceAdd] at hc))
  clear hc
  obtain ⟨f, hf⟩ : ∃ f, linkR L W n = linkF L W f (fallR L n) ∧ (∀ k : Nat, fallR L n = k → k < L.length → dpN L k < f ∨ k = 0) := ⟨_, rfl, fun k hk hkl => by
    by_cases hin : 0 < n ∧ n < L.length
    · obtain ⟨q, rfl⟩ : ∃ q : Nat, n = q := ⟨n.toNat, by omega⟩
      obtain ⟨j, e, j1, j2⟩ := fallR_lt HG.out (n := q) (by omega) (by omega)
      rw [Int.toNat_natCast]
      obtain rfl : j = k := by omega
      exact .inl j2
    · exfalso
      unfold fallR at hk
      rw [if_neg (by omega)] at hk
      omega⟩
  go_loopw [5] (fun v w' => ∃ (z : Int) (f : Nat), v = .int .i64 z ∧ (z = -1 ∨ ∃ k : Nat, z = k ∧ k < L.length) ∧ (∀ k : Nat, z = k → k < L.length → dpN L k < f ∨ k = 0) ∧ As (linkF L W f z = linkR L W n) ∧ As (SH No I w [Cel w.heap.size 27 [.slice A L.length c, .slice A' W.length c'], Im kW A L, Im kW A' W] w' I)) (fun v _ => msN L v)
  case atStart =>
    refine ⟨fallR L n, f, rfl, ?_, hf.2, ⟨hf.1.symm⟩, ⟨S⟩⟩
    by_cases hin : 0 < n ∧ n < L.length
    · obtain ⟨q, rfl⟩ : ∃ q : Nat, n = q := ⟨n.toNat, by omega⟩
      obtain ⟨j, e, j1, j2⟩ := fallR_lt HG.out (n := q) (by omega) (by omega)
      exact .inr ⟨j, e, j1⟩
    · exact .inl (by unfold fallR; rw [if_neg (by omega)])
  case round =>
    clear S hf
    obtain ⟨z, f, rfl, hz, hf, HE, ⟨S⟩⟩ := hrel
    have hc := S.cells; simp only [Cells, cellsC, Im, Row, El, RTH, TreeH, TR, Nat.zero_add, Nat.reduceAdd] at hc
    by_cases h0 : 0 < z
    · obtain ⟨k, rfl⟩ : ∃ k : Nat, z = k := ⟨z.toNat, by omega⟩
      have hk : k < L.length := by rcases hz with h | ⟨q, h, hq⟩ <;> omega
      have hfk := (hf k rfl hk).resolve_right (by omega)
      obtain ⟨g, rfl⟩ : ∃ g, f = g + 1 := ⟨f - 1, by omega⟩
      obtain ⟨j, ej, j1, j2⟩ := fallR_lt HG.out (n := k) (by omega) hk
      have HE2 : As ((if wsR L W k ≠ [] then (k : Int) else linkF L W g (fallR L k)) = linkR L W n) := ⟨by rw [← HE.out]; simp only [linkF]; rw [if_pos h0]⟩
      obtain ⟨wl, hwl⟩ : ∃ wl, (wsR L W k).length = wl := ⟨_, rfl⟩
      have hzw : wl = 0 ↔ wsR L W k = [] := by rw [← hwl]; exact List.length_eq_zero_iff
      have HWK : As (∀ w' I', SH No I w [Cel w.heap.size 27 [.slice A L.length c, .slice A' W.length c'], Im kW A L, Im kW A' W] w' I' → Calls Try.prog 32 #[rtV A L.length c A' W.length c', .int .i64 k] w' fun e w'' => ∃ A3 c3, e = .returned (.slice A3 wl c3) ∧ Ext w' w'') := ⟨fun w' I' S' => (HWD.out k w' I' S').mono fun e w'' ⟨v, he, hu⟩ => by
        obtain ⟨F', I2, ⟨ho, _⟩, _⟩ := hu
        obtain ⟨A3, c3, ev, _, _⟩ := ho.sl
        rw [hwl] at ev
        exact ⟨A3, c3, by rw [he, ev], (show Upd w' No I' w'' (Row kI v (wsR L W k)) from ⟨F', I2, ⟨ho, by assumption⟩, by assumption⟩).ext⟩⟩
      have HJ := As.mk ej
      by_cases hw0 : 0 < wl
      · have hw1 : 0 < (wl : Int) := by omega
        have HR := As.mk (show linkR L W n = k by
          rw [← HE2.out, if_pos (fun e => by have := hzw.2 e; omega)])
        clear hzw hwl
        go_wp2_with (first | ((first | (with_reducible refine wpl_seal S ?_) | (with_reducible refine cw_seal S ?_) | (with_reducible refine bp_seal S ?_) | (with_reducible refine ca_seal S ?_)); clear S; (try clear hc); intro w1 S; (try simp only [List.set_cons_zero, List.set_cons_succ, List.nil_append] at S); have hc := S.cells; simp only [Cells, cellsC, Im, Row, El, RTH, TreeH, TR, Nat.zero_add, Nat.reduceAdd] at hc) | (go_at_call 32; refine (HWK.out _ _ S).mono ?_; rintro e w1 ⟨A3, c3, rfl, hx⟩; replace S := S.ext hx; clear hx; (try clear hc); have hc := S.cells; simp only [Cells, cellsC, Im, Row, El, RTH, TreeH, TR, Nat.zero_add, Nat.reduceAdd] at hc))
        go_ret
        exact ⟨ret_int HR.out.symm, S.out⟩
      · have hw1 : ¬ 0 < (wl : Int) := by omega
        have HR := As.mk (show linkF L W g j = linkR L W n by
          rw [← HE2.out, if_neg (by simpa using hzw.1 (by omega)), ej])
        clear hzw hwl
        go_wp2_with (first | ((first | (with_reducible refine wpl_seal S ?_) | (with_reducible refine cw_seal S ?_) | (with_reducible refine bp_seal S ?_) | (with_reducible refine ca_seal S ?_)); clear S; (try clear hc); intro w1 S; (try simp only [List.set_cons_zero, List.set_cons_succ, List.nil_append] at S); have hc := S.cells; simp only [Cells, cellsC, Im, Row, El, RTH, TreeH, TR, Nat.zero_add, Nat.reduceAdd] at hc) | (go_at_call 32; refine (HWK.out _ _ S).mono ?_; rintro e w1 ⟨A3, c3, rfl, hx⟩; replace S := S.ext hx; clear hx; (try clear hc); have hc := S.cells; simp only [Cells, cellsC, Im, Row, El, RTH, TreeH, TR, Nat.zero_add, Nat.reduceAdd] at hc) | (go_at_call 27; refine (HF.out k _ _ S).mono ?_; rw [HJ.out]; rintro e w1 ⟨rfl, hx⟩; replace S := S.ext hx; clear hx; (try clear hc); have hc := S.cells; simp only [Cells, cellsC, Im, Row, El, RTH, TreeH, TR, Nat.zero_add, Nat.reduceAdd] at hc))
        go_roundw
        case rel => exact ⟨j, g, rfl, .inr ⟨j, rfl, j1⟩, fun q hq hql => by
          obtain rfl : j = q := by omega
          have h3 : dpN L j < dpN L k := j2
          exact .inl (by omega), HR, ⟨by first | exact S | trivial⟩⟩
        case measure => rw [msN_nat, msN_nat]; have h3 : dpN L j < dpN L k := j2; omega
    · have HR : As (linkR L W n = -1) := ⟨by
        rw [← HE.out]
        cases f <;> simp only [linkF]
        rw [if_neg h0]⟩
      go_wp2_with (first | ((first | (with_reducible refine wpl_seal S ?_) | (with_reducible refine cw_seal S ?_) | (with_reducible refine bp_seal S ?_) | (with_reducible refine ca_seal S ?_)); clear S; (try clear hc); intro w1 S; (try simp only [List.set_cons_zero, List.set_cons_succ, List.nil_append] at S); have hc := S.cells; simp only [Cells, cellsC, Im, Row, El, RTH, TreeH, TR, Nat.zero_add, Nat.reduceAdd] at hc))
      go_ret
      exact ⟨ret_int HR.out.symm, S.out⟩
end Go.Proofs.Ytiemglijfdaliaa
