/- Rows of ints alike; the words that end at a node. -/
import Derived.Test.YtiemglijfdaliaaRLev
namespace Go.Proofs.Ytiemglijfdaliaa
open Go.RowKit X
set_option maxHeartbeats 2000000
set_option maxRecDepth 8000
set_option linter.unusedSimpArgs false
set_option linter.unusedVariables false
theorem sameI_c (xs ys : List Int) (A B : Option Addr) (c d : Nat) (w : World) (D E : Nat → Prop) (hx : Sl kI w D A xs) (hy : Sl kI w E B ys) (hyl : ys.length ≤ 1000000) :
    Calls Try.prog 28 #[.slice A xs.length c, .slice B ys.length d] w fun e w' => e = .returned (.bool (decide (xs = ys))) ∧ Qt w w' := by
  by_cases hn : xs.length = ys.length
  · have H1 := As.mk hn
    have hq : (((xs.length : Int) != (ys.length : Int))) = false := by simp [hn]
    have hle : xs.length ≤ ys.length := by omega
    clear hn
    have HX := As.mk hx
    have HY := As.mk hy
    clear hx hy
    go_enter Try.func28, Try.ntmps28
    go_wp2
    go_loopw [5] (fun i w' => ∃ k : Nat, k ≤ xs.length ∧ i = .int .i64 k ∧ As (∀ t, t < k → xs[t]? = ys[t]?) ∧ As (Qt w w')) (fun i _ => xs.length - (intOf i).toNat)
    case atStart => exact ⟨0, Nat.zero_le _, rfl, ⟨fun t ht => absurd ht (Nat.not_lt_zero t)⟩, ⟨Qt.refl w⟩⟩
    case round =>
      obtain ⟨k, hk, rfl, HK, HQ⟩ := hrel
      by_cases hlt : k < xs.length
      · have hlt' : decide ((k : Int) < xs.length) = true := by simpa using hlt
        have hk2 : k < ys.length := by omega
        obtain ⟨m, rfl⟩ := HQ.out
        obtain ⟨b, o, rfl, hc⟩ := HX.out.int_at hlt
        obtain ⟨b', o', rfl, hc'⟩ := HY.out.int_at (i := k) hk2
        by_cases he : xs[k] = ys[k]
        · have he' : (xs[k] != ys[k]) = false := by simp [he]
          have HE := As.mk he
          clear he
          go_wp2
          go_quiet (fail)
          go_wp2
          go_roundw
          case rel =>
            refine ⟨k + 1, by omega, by go_num, ⟨fun t ht => ?_⟩, ⟨?_⟩⟩
            · rcases Nat.lt_or_eq_of_le (Nat.le_of_lt_succ ht) with h | h
              · exact HK.out t h
              · subst h; rw [List.getElem?_eq_getElem hlt, List.getElem?_eq_getElem hk2, HE.out]
            · exact ⟨_, rfl⟩
          case measure => simp [intOf]; omega
        · have he' : (xs[k] != ys[k]) = true := by simp [he]
          have HE := As.mk he
          clear he
          go_wp2
          go_quiet (fail)
          go_wp2
          go_ret
          refine ⟨ret_bool ?_, HQ.out.trans ⟨_, rfl⟩⟩
          symm
          rw [decide_eq_false_iff_not]
          rintro rfl
          exact HE.out rfl
      · have hlt' : decide ((k : Int) < xs.length) = false := by simpa using hlt
        go_wp2
        go_ret
        refine ⟨ret_bool ?_, HQ.out⟩
        symm
        rw [decide_eq_true_iff]
        apply List.ext_getElem?
        intro t
        rcases Nat.lt_or_ge t k with h | h
        · exact HK.out t h
        · rw [List.getElem?_eq_none (by omega), List.getElem?_eq_none (by have := H1.out; omega)]
  · have H1 := As.mk hn
    have hq : (((xs.length : Int) != (ys.length : Int))) = true := by simp; omega
    clear hn hx hy
    go_enter Try.func28, Try.ntmps28
    go_wp2
    go_ret
    refine ⟨ret_bool ?_, Qt.refl w⟩
    symm
    rw [decide_eq_false_iff_not]
    rintro rfl
    exact H1.out rfl


theorem sameRow_e (xs : List Int) (A B : Option Addr) (c d : Nat) (w : World) (D E : Nat → Prop) (hx : Sl kP w D A xs) (hy : Sl kP w E B xs) (hyl : xs.length ≤ 1000000) :
    Calls Try.prog 40 #[.slice A xs.length c, .slice B xs.length d] w fun e w' => e = .returned (.bool true) ∧ Qt w w' := by
  refine (sameRow_c xs xs A B c d w D E hx hy hyl).mono ?_
  rintro e w' ⟨rfl, h⟩
  exact ⟨ret_bool (by simp), h⟩
theorem sameI_e (xs : List Int) (A B : Option Addr) (c d : Nat) (w : World) (D E : Nat → Prop) (hx : Sl kI w D A xs) (hy : Sl kI w E B xs) (hyl : xs.length ≤ 1000000) :
    Calls Try.prog 28 #[.slice A xs.length c, .slice B xs.length d] w fun e w' => e = .returned (.bool true) ∧ Qt w w' := by
  refine (sameI_c xs xs A B c d w D E hx hy hyl).mono ?_
  rintro e w' ⟨rfl, h⟩
  exact ⟨ret_bool (by simp), h⟩
theorem wsR_eq (L W : List (List Int)) (n : Int) : wsR L W n = ((List.range W.length).filter (fun k => decide (findT L (pa W k) = n))).map (fun k : Nat => (k : Int)) := rfl
def wsK (L W : List (List Int)) (n : Int) (m : Nat) : List Int := ((List.range m).filter (fun k => decide (findT L (pa W k) = n))).map (fun k : Nat => (k : Int))
theorem wsK_yes {L W : List (List Int)} {n : Int} {m : Nat} (h : findT L (pa W m) = n) : wsK L W n (m + 1) = wsK L W n m ++ [(m : Int)] := by
  unfold wsK; rw [List.range_succ, List.filter_append, show [m].filter (fun k => decide (findT L (pa W k) = n)) = [m] from List.filter_cons_of_pos (p := fun k => decide (findT L (pa W k) = n)) (by exact decide_eq_true h), List.map_append]; rfl
theorem wsK_no {L W : List (List Int)} {n : Int} {m : Nat} (h : findT L (pa W m) ≠ n) : wsK L W n (m + 1) = wsK L W n m := by
  unfold wsK; rw [List.range_succ, List.filter_append, show [m].filter (fun k => decide (findT L (pa W k) = n)) = [] from List.filter_cons_of_neg (p := fun k => decide (findT L (pa W k) = n)) (by simpa only [decide_eq_true_eq] using h), List.append_nil]
theorem wsK_le {L W : List (List Int)} {n : Int} {m : Nat} : (wsK L W n m).length ≤ m := by
  unfold wsK
  rw [List.length_map]
  exact Nat.le_trans (List.length_filter_le _ _) (by simp)
theorem rwords_c (L W : List (List Int)) (n : Int) (v : Value) (w : World) (I : Fp) (hI : ∀ b, I b → b < w.heap.size) (hR : RT w I v L W) (hL : L.length ≤ 1000000) (hW : W.length ≤ 1000000) (hs : ShortW L) (hs2 : ShortW W) :
    Calls Try.prog 32 #[v, .int .i64 n] w fun e w' => ∃ v, e = .returned v ∧ Upd w No I w' (Row kI v (wsR L W n)) := by
  obtain ⟨A, c, A', c', rfl, hc0, hc', hLs, hWs⟩ := hR
  have S := (((SH.start w I hI).know (h := Im kW A' W) hWs).know (h := Im kW A L) hLs).nilrow (k := kI)
  have HS := As.mk hs
  have HS2 := As.mk hs2
  clear hLs hWs hs hs2
  have hc := S.cells; simp only [Cells, cellsC, Im, Row, El, RTH, TreeH, TR, Nat.zero_add, Nat.reduceAdd] at hc
  go_enter Try.func32, Try.ntmps32
  go_upto_if 3 with (first | ((first | (with_reducible refine wpl_seal S ?_) | (with_reducible refine cw_seal S ?_) | (with_reducible refine bp_seal S ?_) | (with_reducible refine ca_seal S ?_)); clear S; (try clear hc); intro w1 S; (try simp only [List.set_cons_zero, List.set_cons_succ, List.nil_append] at S); have hc := S.cells; simp only [Cells, cellsC, Im, Row, El, RTH, TreeH, TR, Nat.zero_add, Nat.reduceAdd] at hc))
  obtain ⟨gB, egB⟩ := S.name 0 rfl; rw [← egB] at S ⊢; clear egB
  have hc := S.cells; simp only [Cells, cellsC, Im, Row, El, RTH, TreeH, TR, Nat.zero_add, Nat.reduceAdd] at hc
  go_wp2_with (first | ((first | (with_reducible refine wpl_seal S ?_) | (with_reducible refine cw_seal S ?_) | (with_reducible refine bp_seal S ?_) | (with_reducible refine ca_seal S ?_)); clear S; (try clear hc); intro w1 S; (try simp only [List.set_cons_zero, List.set_cons_succ, List.nil_append] at S); have hc := S.cells; simp only [Cells, cellsC, Im, Row, El, RTH, TreeH, TR, Nat.zero_add, Nat.reduceAdd] at hc))
  clear hc
  go_loopw [5, 6] (fun o i w' => ∃ (k : Nat) (out : List Int), As (out = wsK L W n k) ∧ k ≤ W.length ∧ i = .int .i64 k ∧ As (SH No I w [Cel gB 27 [.slice A L.length c, .slice A' W.length c'], Row kI o out, Im kW A L, Im kW A' W] w' I)) (fun _ i _ => W.length - (intOf i).toNat)
  case atStart => exact ⟨0, [], ⟨rfl⟩, Nat.zero_le _, rfl, ⟨S⟩⟩
  case round =>
    clear S
    obtain ⟨k, out, HO, hk, rfl, ⟨S⟩⟩ := hrel
    have hol : out.length ≤ 1000000 := by rw [HO.out]; have := wsK_le (L := L) (W := W) (n := n) (m := k); omega
    have hc := S.cells; simp only [Cells, cellsC, Im, Row, El, RTH, TreeH, TR, Nat.zero_add, Nat.reduceAdd] at hc
    have hq := S.cellsE; simp only [CellsE, cellsE, Im, Row, El, RTH, TreeH, TR, Nat.zero_add, Nat.reduceAdd] at hq
    by_cases hkt : k < W.length
    · have hkt' : decide ((k : Int) < W.length) = true := by simpa using hkt
      have hsl := (S.im 3 rfl).sl_at hkt
      have hpw : pa W k = W[k] := pa_eq hkt
      obtain ⟨b, o, A1, c1, rfl, hcx, hc1, hs1⟩ := hsl
      have hqx := ClE.cell (w := wr.drew) hcx
      have h5 := HS2.out _ (List.getElem_mem hkt)
      have HFE : As (findT L (pa W k) = findT L W[k]) := ⟨by rw [hpw]⟩
      generalize W[k] = xs at hcx hqx hs1 hc1 h5 HFE
      replace S := S.know (h := Im kP A1 xs) hs1
      clear hs1 hpw
      by_cases hf : findT L xs = n
      · have hf' : (findT L xs == n) = true := by simpa using hf
        have HE : As (out ++ [(k : Int)] = wsK L W n (k + 1)) := ⟨by rw [HO.out, wsK_yes (by rw [HFE.out]; exact hf)]⟩
        clear hf
        go_wp2_with (first | ((first | (with_reducible refine wpl_seal S ?_) | (with_reducible refine cw_seal S ?_) | (with_reducible refine bp_seal S ?_) | (with_reducible refine ca_seal S ?_)); clear S; (try clear hc); intro w1 S; (try simp only [List.set_cons_zero, List.set_cons_succ, List.nil_append] at S); have hc := S.cells; simp only [Cells, cellsC, Im, Row, El, RTH, TreeH, TR, Nat.zero_add, Nat.reduceAdd] at hc))
        refine wp_region_ext [⟨[0, 1, 2, 3, 4, 5], [7], 6, false⟩] [8] (by kernel_rfl) (by kernel_rfl) ?_
        refine mix_cons rfl rfl rfl ?_
        simp only [opsAt, List.getD_cons_succ, List.getD_cons_zero]
        repeat (go_big_quiet_step ((intro hC; first | rfl | (go_simp; first | done | rfl))))
        refine wpQuiet_nil ?_
        repeat (go_big_quiet_step ((intro hC; first | rfl | (go_simp; first | done | rfl))))
        refine wpQuiet_nil ?_
        clear hq hqx hcx hc
        replace S := S.drew
        have hc := S.cells; simp only [Cells, cellsC, Im, Row, El, RTH, TreeH, TR, Nat.zero_add, Nat.reduceAdd] at hc
        go_wp2_with (first | ((first | (with_reducible refine mx_seal S ?_) | (with_reducible refine wpl_seal S ?_) | (with_reducible refine ca_seal S ?_)); clear S; (try clear hc); intro w1 S; (try simp only [List.set_cons_zero, List.set_cons_succ, List.nil_append] at S); have hc := S.cells; simp only [Cells, cellsC, Im, Row, El, RTH, TreeH, TR, Nat.zero_add, Nat.reduceAdd] at hc) | (go_at_call 38; refine (find_c L W xs A _ A1 c c' c1 _ _ _ (S.im 3 rfl) (S.im 0 rfl) hL HS.out h5).mono ?_; rintro e w1 ⟨rfl, hx⟩; replace S := S.ext hx; clear hx; (try clear hc); have hc := S.cells; simp only [Cells, cellsC, Im, Row, El, RTH, TreeH, TR, Nat.zero_add, Nat.reduceAdd] at hc))
        (first | refine ⟨(fun h => by cases h), ?_⟩ | skip); (first | ((first | (with_reducible refine mx_seal S ?_)); clear S; (try clear hc); intro w1 S; (try simp only [List.set_cons_zero, List.set_cons_succ, List.nil_append] at S); have hc := S.cells; simp only [Cells, cellsC, Im, Row, El, RTH, TreeH, TR, Nat.zero_add, Nat.reduceAdd] at hc) | skip); (try simp only [Act.put, List.setIfInBounds_toArray, List.set_cons_succ, List.set_cons_zero])
        refine mix_last rfl ?_
        simp only [opsAt, List.getD_cons_succ, List.getD_cons_zero]
        repeat (go_big_quiet_step ((intro hC; first | rfl | (go_simp; first | done | rfl))))
        refine wpQuiet_nil ?_
        simp only [calmQ]
        have hc := S.cells; simp only [Cells, cellsC, Im, Row, El, RTH, TreeH, TR, Nat.zero_add, Nat.reduceAdd] at hc
        go_wp2_with (first | ((first | (with_reducible refine wpl_seal S ?_) | (with_reducible refine cw_seal S ?_) | (with_reducible refine bp_seal S ?_) | (with_reducible refine ca_seal S ?_)); clear S; (try clear hc); intro w1 S; (try simp only [List.set_cons_zero, List.set_cons_succ, List.nil_append] at S); have hc := S.cells; simp only [Cells, cellsC, Im, Row, El, RTH, TreeH, TR, Nat.zero_add, Nat.reduceAdd] at hc) | (at_builtin; refine wpl_push S 3 rfl rfl _ _ rfl ty_ints rfl (k : Int) _ _ rfl [_] _ (S.cel 0 rfl) rfl (by (try simp only [maxLen, List.length_nil, List.length_append, List.length_cons]); omega) (by (try simp only [maxLen, List.length_nil, List.length_append, List.length_cons]); omega) ?_; clear S; (try clear hc); intro va w1 S; simp only [List.set_cons_zero, List.set_cons_succ, List.nil_append] at S; have hc := S.cells; simp only [Cells, cellsC, Im, Row, El, RTH, TreeH, TR, Nat.zero_add, Nat.reduceAdd] at hc))
        go_roundw
        case rel => exact ⟨k + 1, _, HE, by omega, by go_num, ⟨(S.sel [2, 3, 4, 5] (by decide) rfl (by simp) : SH _ _ _ [_, _, _, _] _ _)⟩⟩
        case measure => simp [intOf] <;> omega
      · have hf' : (findT L xs == n) = false := by simpa using hf
        have HE : As (out = wsK L W n (k + 1)) := ⟨by rw [HO.out, wsK_no (by rw [HFE.out]; exact hf)]⟩
        clear hf
        go_wp2_with (first | ((first | (with_reducible refine wpl_seal S ?_) | (with_reducible refine cw_seal S ?_) | (with_reducible refine bp_seal S ?_) | (with_reducible refine ca_seal S ?_)); clear S; (try clear hc); intro w1 S; (try simp only [List.set_cons_zero, List.set_cons_succ, List.nil_append] at S); have hc := S.cells; simp only [Cells, cellsC, Im, Row, El, RTH, TreeH, TR, Nat.zero_add, Nat.reduceAdd] at hc))
        refine wp_region_ext [⟨[0, 1, 2, 3, 4, 5], [7], 6, false⟩] [8] (by kernel_rfl) (by kernel_rfl) ?_
        refine mix_cons rfl rfl rfl ?_
        simp only [opsAt, List.getD_cons_succ, List.getD_cons_zero]
        repeat (go_big_quiet_step ((intro hC; first | rfl | (go_simp; first | done | rfl))))
        refine wpQuiet_nil ?_
        repeat (go_big_quiet_step ((intro hC; first | rfl | (go_simp; first | done | rfl))))
        refine wpQuiet_nil ?_
        clear hq hqx hcx hc
        replace S := S.drew
        have hc := S.cells; simp only [Cells, cellsC, Im, Row, El, RTH, TreeH, TR, Nat.zero_add, Nat.reduceAdd] at hc
        go_wp2_with (first | ((first | (with_reducible refine mx_seal S ?_) | (with_reducible refine wpl_seal S ?_) | (with_reducible refine ca_seal S ?_)); clear S; (try clear hc); intro w1 S; (try simp only [List.set_cons_zero, List.set_cons_succ, List.nil_append] at S); have hc := S.cells; simp only [Cells, cellsC, Im, Row, El, RTH, TreeH, TR, Nat.zero_add, Nat.reduceAdd] at hc) | (go_at_call 38; refine (find_c L W xs A _ A1 c c' c1 _ _ _ (S.im 3 rfl) (S.im 0 rfl) hL HS.out h5).mono ?_; rintro e w1 ⟨rfl, hx⟩; replace S := S.ext hx; clear hx; (try clear hc); have hc := S.cells; simp only [Cells, cellsC, Im, Row, El, RTH, TreeH, TR, Nat.zero_add, Nat.reduceAdd] at hc))
        (first | refine ⟨(fun h => by cases h), ?_⟩ | skip); (first | ((first | (with_reducible refine mx_seal S ?_)); clear S; (try clear hc); intro w1 S; (try simp only [List.set_cons_zero, List.set_cons_succ, List.nil_append] at S); have hc := S.cells; simp only [Cells, cellsC, Im, Row, El, RTH, TreeH, TR, Nat.zero_add, Nat.reduceAdd] at hc) | skip); (try simp only [Act.put, List.setIfInBounds_toArray, List.set_cons_succ, List.set_cons_zero])
        refine mix_last rfl ?_
        simp only [opsAt, List.getD_cons_succ, List.getD_cons_zero]
        repeat (go_big_quiet_step ((intro hC; first | rfl | (go_simp; first | done | rfl))))
        refine wpQuiet_nil ?_
        simp only [calmQ]
        have hc := S.cells; simp only [Cells, cellsC, Im, Row, El, RTH, TreeH, TR, Nat.zero_add, Nat.reduceAdd] at hc
        go_wp2_with (first | ((first | (with_reducible refine wpl_seal S ?_) | (with_reducible refine cw_seal S ?_) | (with_reducible refine bp_seal S ?_) | (with_reducible refine ca_seal S ?_)); clear S; (try clear hc); intro w1 S; (try simp only [List.set_cons_zero, List.set_cons_succ, List.nil_append] at S); have hc := S.cells; simp only [Cells, cellsC, Im, Row, El, RTH, TreeH, TR, Nat.zero_add, Nat.reduceAdd] at hc))
        go_roundw
        case rel => exact ⟨k + 1, _, HE, by omega, by go_num, ⟨(S.sel [1, 2, 3, 4] (by decide) rfl (by simp) : SH _ _ _ [_, _, _, _] _ _)⟩⟩
        case measure => simp [intOf] <;> omega
    · have hkt' : decide ((k : Int) < W.length) = false := by simpa using hkt
      obtain rfl : k = W.length := by omega
      go_wp2_with (first | ((first | (with_reducible refine wpl_seal S ?_) | (with_reducible refine cw_seal S ?_) | (with_reducible refine bp_seal S ?_) | (with_reducible refine ca_seal S ?_)); clear S; (try clear hc); intro w1 S; (try simp only [List.set_cons_zero, List.set_cons_succ, List.nil_append] at S); have hc := S.cells; simp only [Cells, cellsC, Im, Row, El, RTH, TreeH, TR, Nat.zero_add, Nat.reduceAdd] at hc))
      go_ret
      refine ⟨_, rfl, ?_⟩
      rw [wsR_eq, ← wsK, ← HO.out]
      exact S.ret 1 rfl
end Go.Proofs.Ytiemglijfdaliaa
