/- Records of one package as those of another; are they the same? -/
import Derived.Test.YteaekpnmiicbhaaDoorPGood
namespace Go.Proofs.YteaekpnmiicbhaaDoor
open Go.RowKit X
set_option maxHeartbeats 1000000
set_option maxRecDepth 8000
set_option linter.unusedSimpArgs false
set_option linter.unusedVariables false
theorem of_c (l : List R5) (A : Option Addr) (c : Nat) (w : World) (I : Fp) (hI : ∀ b, I b → b < w.heap.size) (hl : Sl kR w I A l) (hn : l.length ≤ 1000) :
    Calls Tryd.prog 8 #[.slice A l.length c] w fun e w' => ∃ v, e = .returned v ∧ Upd w No I w' (Row kC v l) := by
  have S := ((SH.start w I hI).know (h := Im kR A l) hl).nilrow (k := kC)
  clear hl
  have hc := S.cells; simp only [Cells, cellsC, Im, Row, El, Nat.zero_add, Nat.reduceAdd] at hc
  go_enter Tryd.func8, Tryd.ntmps8
  go_wp2_with (first | ((first | (with_reducible refine wpl_seal S ?_) | (with_reducible refine cw_seal S ?_) | (with_reducible refine bp_seal S ?_) | (with_reducible refine ca_seal S ?_)); clear S; (try clear hc); intro w1 S; (try simp only [List.set_cons_zero, List.set_cons_succ, List.nil_append] at S); have hc := S.cells; simp only [Cells, cellsC, Im, Row, El, Nat.zero_add, Nat.reduceAdd] at hc))
  have S1 := S
  clear S hc
  go_loopw [3, 4] (fun v i w' => ∃ (k : Nat), k ≤ l.length ∧ i = .int .i64 k ∧ ∃ I', As (SH No I w [Row kC v (l.take k), Im kR A l] w' I')) (fun _ i _ => l.length - (intOf i).toNat)
  case atStart => exact ⟨0, by omega, rfl, _, ⟨S1⟩⟩
  case round =>
    clear S1
    obtain ⟨k, hk, rfl, I', ⟨S⟩⟩ := hrel
    by_cases hlt : k < l.length
    · have hlt' : decide ((k : Int) < l.length) = true := by simp; omega
      obtain ⟨b, o, rfl, g0, g1, g2, g3, g4⟩ := (S.im 1 rfl).r5_at hlt
      have HT := As.mk (List.take_succ_eq_append_getElem hlt)
      have htl : (l.take k).length ≤ 1000 := by rw [List.length_take]; omega
      have HY := As.mk (List.getElem?_eq_getElem hlt)
      generalize l[k] = y at g0 g1 g2 g3 g4 HT HY
      generalize l.take k = ys at S HT htl
      have hc := S.cells; simp only [Cells, cellsC, Im, Row, El, Nat.zero_add, Nat.reduceAdd] at hc
      go_wp2_with (first | ((first | (with_reducible refine wpl_seal S ?_) | (with_reducible refine cw_seal S ?_) | (with_reducible refine bp_seal S ?_) | (with_reducible refine ca_seal S ?_)); clear S; (try clear hc); intro w1 S; (try simp only [List.set_cons_zero, List.set_cons_succ, List.nil_append] at S); have hc := S.cells; simp only [Cells, cellsC, Im, Row, El, Nat.zero_add, Nat.reduceAdd] at hc))
      obtain ⟨g0, g1, g2, g3, g4⟩ := (S.im 2 rfl).r5_get HY.out
      have q0 := ClE.cell (w := w1.drew) g0
      have q1 := ClE.cell (w := w1.drew) g1
      have q2 := ClE.cell (w := w1.drew) g2
      have q3 := ClE.cell (w := w1.drew) g3
      have q4 := ClE.cell (w := w1.drew) g4
      obtain ⟨gp, egp⟩ := S.name 0 rfl; rw [← egp] at S ⊢; clear egp
      have hq := S.cellsE; simp only [CellsE, cellsE, Im, Row, El, Nat.zero_add, Nat.reduceAdd] at hq
      refine wp_region_ext [⟨[1, 2, 3, 4, 5, 6, 7, 8, 9, 10, 11, 12, 13, 14, 15], [0], 16, false⟩, ⟨[], [], 17, false⟩] [18] (by kernel_rfl) (by kernel_rfl) ?_
      refine mix_cons rfl rfl rfl ?_
      simp only [opsAt, List.getD_cons_succ, List.getD_cons_zero]
      repeat (go_big_quiet_step ((intro hC; first | rfl | (go_simp; first | done | rfl))))
      refine wpQuiet_nil ?_
      repeat (go_big_quiet_step ((intro hC; first | rfl | (go_simp; first | done | rfl))))
      refine wpQuiet_nil ?_
      clear q0 q1 q2 q3 q4 g0 g1 g2 g3 g4 hq
      replace S := S.drew
      generalize w1.drew = w2 at S ⊢
      have hc := S.cells; simp only [Cells, cellsC, Im, Row, El, Nat.zero_add, Nat.reduceAdd] at hc
      go_wp2_with (first | ((first | (with_reducible refine mx_seal S ?_) | (with_reducible refine wpl_seal S ?_) | (with_reducible refine ca_seal S ?_)); clear S; (try clear hc); intro w1 S; (try simp only [List.set_cons_zero, List.set_cons_succ, List.nil_append] at S); have hc := S.cells; simp only [Cells, cellsC, Im, Row, El, Nat.zero_add, Nat.reduceAdd] at hc))
      (first | refine ⟨(fun h => by cases h), ?_⟩ | skip); (first | ((first | (with_reducible refine mx_seal S ?_)); clear S; (try clear hc); intro w1 S; (try simp only [List.set_cons_zero, List.set_cons_succ, List.nil_append] at S); have hc := S.cells; simp only [Cells, cellsC, Im, Row, El, Nat.zero_add, Nat.reduceAdd] at hc) | skip); (try simp only [Act.put, List.setIfInBounds_toArray, List.set_cons_succ, List.set_cons_zero])
      refine mix_cons rfl rfl rfl ?_
      simp only [opsAt, List.getD_cons_succ, List.getD_cons_zero]
      repeat (go_big_quiet_step ((intro hC; first | rfl | (go_simp; first | done | rfl))))
      refine wpQuiet_nil ?_
      repeat (go_big_quiet_step ((intro hC; first | rfl | (go_simp; first | done | rfl))))
      refine wpQuiet_nil ?_
      go_wp2_with (first | ((first | (with_reducible refine mx_seal S ?_) | (with_reducible refine wpl_seal S ?_) | (with_reducible refine ca_seal S ?_)); clear S; (try clear hc); intro w1 S; (try simp only [List.set_cons_zero, List.set_cons_succ, List.nil_append] at S); have hc := S.cells; simp only [Cells, cellsC, Im, Row, El, Nat.zero_add, Nat.reduceAdd] at hc) | (at_builtin; refine wpl_push S 2 rfl rfl _ _ rfl ty_recs rfl y _ _ rfl y.cells _ (S.cel 0 rfl) rfl (by (try simp only [maxLen, List.length_nil, List.length_append, List.length_cons]); omega) (by (try simp only [maxLen, List.length_nil, List.length_append, List.length_cons]); omega) ?_; clear S; (try clear hc); intro va w1 S; simp only [List.set_cons_zero, List.set_cons_succ, List.nil_append] at S; have hc := S.cells; simp only [Cells, cellsC, Im, Row, El, Nat.zero_add, Nat.reduceAdd] at hc))
      (first | refine ⟨(fun h => by cases h), ?_⟩ | skip); (first | ((first | (with_reducible refine mx_seal S ?_)); clear S; (try clear hc); intro w1 S; (try simp only [List.set_cons_zero, List.set_cons_succ, List.nil_append] at S); have hc := S.cells; simp only [Cells, cellsC, Im, Row, El, Nat.zero_add, Nat.reduceAdd] at hc) | skip); (try simp only [Act.put, List.setIfInBounds_toArray, List.set_cons_succ, List.set_cons_zero])
      refine mix_last rfl ?_
      simp only [opsAt, List.getD_cons_succ, List.getD_cons_zero]
      repeat (go_big_quiet_step ((intro hC; first | rfl | (go_simp; first | done | rfl))))
      refine wpQuiet_nil ?_
      simp only [calmQ]
      go_wp2_with (first | ((first | (with_reducible refine wpl_seal S ?_) | (with_reducible refine cw_seal S ?_) | (with_reducible refine bp_seal S ?_) | (with_reducible refine ca_seal S ?_)); clear S; (try clear hc); intro w1 S; (try simp only [List.set_cons_zero, List.set_cons_succ, List.nil_append] at S); have hc := S.cells; simp only [Cells, cellsC, Im, Row, El, Nat.zero_add, Nat.reduceAdd] at hc))
      go_roundw
      case rel => exact ⟨k + 1, by omega, by go_num, _, ⟨by rw [HT.out]; exact (S.sel [2, 3] (by decide) rfl (by simp) : SH _ _ _ [_, _] _ _)⟩⟩
      case measure => simp [intOf]; omega
    · have hlt' : decide ((k : Int) < l.length) = false := by simp; omega
      obtain rfl : k = l.length := by omega
      rw [List.take_length] at S
      go_wp2_with (first | ((first | (with_reducible refine wpl_seal S ?_) | (with_reducible refine cw_seal S ?_) | (with_reducible refine bp_seal S ?_) | (with_reducible refine ca_seal S ?_)); clear S; (try clear hc); intro w1 S; (try simp only [List.set_cons_zero, List.set_cons_succ, List.nil_append] at S); have hc := S.cells; simp only [Cells, cellsC, Im, Row, El, Nat.zero_add, Nat.reduceAdd] at hc))
      go_ret
      exact ⟨_, rfl, S.ret 0 rfl⟩
theorem as_c (l : List R5) (A : Option Addr) (c : Nat) (w : World) (I : Fp) (hI : ∀ b, I b → b < w.heap.size) (hl : Sl kC w I A l) (hn : l.length ≤ 1000) :
    Calls Tryd.prog 14 #[.slice A l.length c] w fun e w' => ∃ v, e = .returned v ∧ Upd w No I w' (Row kR v l) := by
  have S := ((SH.start w I hI).know (h := Im kC A l) hl).nilrow (k := kR)
  clear hl
  have hc := S.cells; simp only [Cells, cellsC, Im, Row, El, Nat.zero_add, Nat.reduceAdd] at hc
  go_enter Tryd.func14, Tryd.ntmps14
  go_wp2_with (first | ((first | (with_reducible refine wpl_seal S ?_) | (with_reducible refine cw_seal S ?_) | (with_reducible refine bp_seal S ?_) | (with_reducible refine ca_seal S ?_)); clear S; (try clear hc); intro w1 S; (try simp only [List.set_cons_zero, List.set_cons_succ, List.nil_append] at S); have hc := S.cells; simp only [Cells, cellsC, Im, Row, El, Nat.zero_add, Nat.reduceAdd] at hc))
  have S1 := S
  clear S hc
  go_loopw [3, 4] (fun v i w' => ∃ (k : Nat), k ≤ l.length ∧ i = .int .i64 k ∧ ∃ I', As (SH No I w [Row kR v (l.take k), Im kC A l] w' I')) (fun _ i _ => l.length - (intOf i).toNat)
  case atStart => exact ⟨0, by omega, rfl, _, ⟨S1⟩⟩
  case round =>
    clear S1
    obtain ⟨k, hk, rfl, I', ⟨S⟩⟩ := hrel
    by_cases hlt : k < l.length
    · have hlt' : decide ((k : Int) < l.length) = true := by simp; omega
      obtain ⟨b, o, rfl, g0, g1, g2, g3, g4⟩ := (S.im 1 rfl).r5_at hlt
      have HT := As.mk (List.take_succ_eq_append_getElem hlt)
      have htl : (l.take k).length ≤ 1000 := by rw [List.length_take]; omega
      generalize l[k] = y at g0 g1 g2 g3 g4 HT
      generalize l.take k = ys at S HT htl
      have q0 := ClE.cell (w := wr.drew) g0
      have q1 := ClE.cell (w := wr.drew) g1
      have q2 := ClE.cell (w := wr.drew) g2
      have q3 := ClE.cell (w := wr.drew) g3
      have q4 := ClE.cell (w := wr.drew) g4
      have hc := S.cells; simp only [Cells, cellsC, Im, Row, El, Nat.zero_add, Nat.reduceAdd] at hc
      go_wp2_with (first | ((first | (with_reducible refine wpl_seal S ?_) | (with_reducible refine cw_seal S ?_) | (with_reducible refine bp_seal S ?_) | (with_reducible refine ca_seal S ?_)); clear S; (try clear hc); intro w1 S; (try simp only [List.set_cons_zero, List.set_cons_succ, List.nil_append] at S); have hc := S.cells; simp only [Cells, cellsC, Im, Row, El, Nat.zero_add, Nat.reduceAdd] at hc))
      refine wp_region_ext [⟨[1, 2, 3, 4, 5, 6, 7, 8, 9, 10, 11, 12, 13, 14, 15, 16, 17, 18, 19, 20, 21, 22, 23, 24, 25, 26, 27, 28, 29, 30, 31], [0], 32, false⟩, ⟨[], [], 33, false⟩] [34] (by kernel_rfl) (by kernel_rfl) ?_
      refine mix_cons rfl rfl rfl ?_
      simp only [opsAt, List.getD_cons_succ, List.getD_cons_zero]
      repeat (go_big_quiet_step ((intro hC; first | rfl | (go_simp; first | done | rfl))))
      refine wpQuiet_nil ?_
      repeat (go_big_quiet_step ((intro hC; first | rfl | (go_simp; first | done | rfl))))
      refine wpQuiet_nil ?_
      clear q0 q1 q2 q3 q4 g0 g1 g2 g3 g4
      replace S := S.drew
      generalize wr.drew = w2 at S ⊢
      have hc := S.cells; simp only [Cells, cellsC, Im, Row, El, Nat.zero_add, Nat.reduceAdd] at hc
      go_wp2_with (first | ((first | (with_reducible refine mx_seal S ?_) | (with_reducible refine wpl_seal S ?_) | (with_reducible refine ca_seal S ?_)); clear S; (try clear hc); intro w1 S; (try simp only [List.set_cons_zero, List.set_cons_succ, List.nil_append] at S); have hc := S.cells; simp only [Cells, cellsC, Im, Row, El, Nat.zero_add, Nat.reduceAdd] at hc))
      (first | refine ⟨(fun h => by cases h), ?_⟩ | skip); (first | ((first | (with_reducible refine mx_seal S ?_)); clear S; (try clear hc); intro w1 S; (try simp only [List.set_cons_zero, List.set_cons_succ, List.nil_append] at S); have hc := S.cells; simp only [Cells, cellsC, Im, Row, El, Nat.zero_add, Nat.reduceAdd] at hc) | skip); (try simp only [Act.put, List.setIfInBounds_toArray, List.set_cons_succ, List.set_cons_zero])
      refine mix_cons rfl rfl rfl ?_
      simp only [opsAt, List.getD_cons_succ, List.getD_cons_zero]
      repeat (go_big_quiet_step ((intro hC; first | rfl | (go_simp; first | done | rfl))))
      refine wpQuiet_nil ?_
      repeat (go_big_quiet_step ((intro hC; first | rfl | (go_simp; first | done | rfl))))
      refine wpQuiet_nil ?_
      go_wp2_with (first | ((first | (with_reducible refine mx_seal S ?_) | (with_reducible refine wpl_seal S ?_) | (with_reducible refine ca_seal S ?_)); clear S; (try clear hc); intro w1 S; (try simp only [List.set_cons_zero, List.set_cons_succ, List.nil_append] at S); have hc := S.cells; simp only [Cells, cellsC, Im, Row, El, Nat.zero_add, Nat.reduceAdd] at hc) | (at_builtin; refine wpl_push S 1 rfl rfl _ _ rfl ty_r5s rfl y _ _ rfl y.cells _ (S.cel 0 rfl) rfl (by (try simp only [maxLen, List.length_nil, List.length_append, List.length_cons]); omega) (by (try simp only [maxLen, List.length_nil, List.length_append, List.length_cons]); omega) ?_; clear S; (try clear hc); intro va w1 S; simp only [List.set_cons_zero, List.set_cons_succ, List.nil_append] at S; have hc := S.cells; simp only [Cells, cellsC, Im, Row, El, Nat.zero_add, Nat.reduceAdd] at hc))
      (first | refine ⟨(fun h => by cases h), ?_⟩ | skip); (first | ((first | (with_reducible refine mx_seal S ?_)); clear S; (try clear hc); intro w1 S; (try simp only [List.set_cons_zero, List.set_cons_succ, List.nil_append] at S); have hc := S.cells; simp only [Cells, cellsC, Im, Row, El, Nat.zero_add, Nat.reduceAdd] at hc) | skip); (try simp only [Act.put, List.setIfInBounds_toArray, List.set_cons_succ, List.set_cons_zero])
      refine mix_last rfl ?_
      simp only [opsAt, List.getD_cons_succ, List.getD_cons_zero]
      repeat (go_big_quiet_step ((intro hC; first | rfl | (go_simp; first | done | rfl))))
      refine wpQuiet_nil ?_
      simp only [calmQ]
      go_wp2_with (first | ((first | (with_reducible refine wpl_seal S ?_) | (with_reducible refine cw_seal S ?_) | (with_reducible refine bp_seal S ?_) | (with_reducible refine ca_seal S ?_)); clear S; (try clear hc); intro w1 S; (try simp only [List.set_cons_zero, List.set_cons_succ, List.nil_append] at S); have hc := S.cells; simp only [Cells, cellsC, Im, Row, El, Nat.zero_add, Nat.reduceAdd] at hc))
      go_roundw
      case rel => exact ⟨k + 1, by omega, by go_num, _, ⟨by rw [HT.out]; exact (S.sel [1, 2] (by decide) rfl (by simp) : SH _ _ _ [_, _] _ _)⟩⟩
      case measure => simp [intOf]; omega
    · have hlt' : decide ((k : Int) < l.length) = false := by simp; omega
      obtain rfl : k = l.length := by omega
      rw [List.take_length] at S
      go_wp2_with (first | ((first | (with_reducible refine wpl_seal S ?_) | (with_reducible refine cw_seal S ?_) | (with_reducible refine bp_seal S ?_) | (with_reducible refine ca_seal S ?_)); clear S; (try clear hc); intro w1 S; (try simp only [List.set_cons_zero, List.set_cons_succ, List.nil_append] at S); have hc := S.cells; simp only [Cells, cellsC, Im, Row, El, Nat.zero_add, Nat.reduceAdd] at hc))
      go_ret
      exact ⟨_, rfl, S.ret 0 rfl⟩
theorem neq_r5 (x y : R5) (h : x ≠ y) (w : World) : (binOp .neq 41 x.v y.v).run Tryd.prog w = .ok (.bool true) w := by
  obtain ⟨x0, x1, x2, x3, x4⟩ := x
  obtain ⟨y0, y1, y2, y3, y4⟩ := y
  simp only [R5.v]
  rw [run_neq_struct]
  go_simp
  rintro rfl rfl rfl rfl rfl
  exact h rfl
theorem sameR_c (xs ys : List R5) (A B : Option Addr) (c d : Nat) (w : World) (D E : Nat → Prop) (hx : Sl kR w D A xs) (hy : Sl kR w E B ys) (hyl : ys.length ≤ 1000000) :
    Calls Tryd.prog 13 #[.slice A xs.length c, .slice B ys.length d] w fun e w' => e = .returned (.bool (decide (xs = ys))) ∧ Qt w w' := by
  by_cases hn : xs.length = ys.length
  · have H1 := As.mk hn
    have hq : (((xs.length : Int) != (ys.length : Int))) = false := by simp [hn]
    have hle : xs.length ≤ ys.length := by omega
    clear hn
    have HX := As.mk hx
    have HY := As.mk hy
    clear hx hy
    go_enter Tryd.func13, Tryd.ntmps13
    go_wp2
    go_loopw [5] (fun i w' => ∃ k : Nat, k ≤ xs.length ∧ i = .int .i64 k ∧ As (∀ t, t < k → xs[t]? = ys[t]?) ∧ As (Qt w w')) (fun i _ => xs.length - (intOf i).toNat)
    case atStart => exact ⟨0, Nat.zero_le _, rfl, ⟨fun t ht => absurd ht (Nat.not_lt_zero t)⟩, ⟨Qt.refl w⟩⟩
    case round =>
      obtain ⟨k, hk, rfl, HK, HQ⟩ := hrel
      by_cases hlt : k < xs.length
      · have hlt' : decide ((k : Int) < xs.length) = true := by simpa using hlt
        have hk2 : k < ys.length := by omega
        obtain ⟨m, rfl⟩ := HQ.out
        obtain ⟨b, o, rfl, g0, g1, g2, g3, g4⟩ := HX.out.r5_at hlt
        obtain ⟨b', o', rfl, e0, e1, e2, e3, e4⟩ := HY.out.r5_at (i := k) hk2
        have HEX := As.mk (List.getElem?_eq_getElem hlt)
        have HEY := As.mk (List.getElem?_eq_getElem hk2)
        generalize xs[k] = x at g0 g1 g2 g3 g4 HEX
        generalize ys[k] = y at e0 e1 e2 e3 e4 HEY
        by_cases he : x = y
        · have HE := As.mk he
          subst he
          go_wp2
          go_quiet (fail)
          go_wp2
          go_roundw
          case rel =>
            refine ⟨k + 1, by omega, by go_num, ⟨fun t ht => ?_⟩, ⟨?_⟩⟩
            · rcases Nat.lt_or_eq_of_le (Nat.le_of_lt_succ ht) with h | h
              · exact HK.out t h
              · subst h; rw [HEX.out, HEY.out]
            · exact ⟨_, rfl⟩
          case measure => simp [intOf]; omega
        · have HE := As.mk he
          have hnq := neq_r5 x y he
          dsimp only [R5.v] at hnq
          clear he
          go_wp2
          go_quiet (fail)
          go_wp2
          go_ret
          refine ⟨ret_bool ?_, HQ.out.trans ⟨_, rfl⟩⟩
          symm
          rw [decide_eq_false_iff_not]
          rintro rfl
          exact HE.out (Option.some.inj (HEX.out.symm.trans HEY.out))
      · have hlt' : decide ((k : Int) < xs.length) = false := by simpa using hlt
        go_wp2
        go_ret
        refine ⟨ret_bool ?_, HQ.out⟩
        symm
        rw [decide_eq_true_iff]
        apply List.ext_getElem?
        intro t
        rcases Nat.lt_or_ge t k with h | h
        · exact HK.out t h
        · rw [List.getElem?_eq_none (by omega), List.getElem?_eq_none (by have := H1.out; omega)]
  · have H1 := As.mk hn
    have hq : (((xs.length : Int) != (ys.length : Int))) = true := by simp; omega
    clear hn hx hy
    go_enter Tryd.func13, Tryd.ntmps13
    go_wp2
    go_ret
    refine ⟨ret_bool ?_, Qt.refl w⟩
    symm
    rw [decide_eq_false_iff_not]
    rintro rfl
    exact H1.out rfl
end Go.Proofs.YteaekpnmiicbhaaDoor
