/- Whether matrices, images are the same; slices cloned. Where a matrix, an image, is among others. -/
import Derived.Test.YtnmlonicfncpfaaGreatDPix
namespace Go.Proofs.YtnmlonicfncpfaaGreat
open Go.RowKit X
set_option maxHeartbeats 2000000
set_option maxRecDepth 8000
set_option linter.unusedSimpArgs false
set_option linter.unusedVariables false
section
variable {F0 I0 : Fp} {w0 w : World} {L : List Ob} {I : Fp} {α : Type} {k : Kd α} {xs : List α} {g : Nat}
/-- one block of cells as a row that may grow -/
theorem X.SH.celRow (s : SH F0 I0 w0 L w I) (i : Nat) {cells : List Value} (e : L[i]? = some (Cel g k.ety cells)) (hf : Flat k w I xs cells) (hm : xs.length ≤ 1000000) : SH F0 I0 w0 (L.set i (Row k (.slice (some ⟨g, 0, none⟩) xs.length xs.length) xs)) w I :=
  s.updI i e (h' := Row k (.slice (some ⟨g, 0, none⟩) xs.length xs.length) xs) fun F ⟨hh, hF⟩ hb =>
    ⟨F, ⟨⟨cells, ⟨⟨hf.1, .inr ⟨g, xs.length, cells.toArray, rfl, Nat.zero_le _, hh, Nat.le_refl _, by unfold maxLen; omega, by rw [List.size_toArray]; exact hf.1, by rw [List.take_of_length_le (by rw [hf.1]; exact Nat.le_refl _)]⟩⟩, fun b hb' => by cases hb'; exact (hb _ hF).2⟩, hf⟩, fun b hb' => by cases hb'; exact hF⟩, fun b hb' => ⟨(hb b hb').1, .inl hb'⟩, Chg.refl _ _⟩
theorem Flat.nil {w : World} {D : Fp} {k : Kd α} : Flat k w D ([] : List α) [] := ⟨by simp, fun i hi => absurd hi (Nat.not_lt_zero i)⟩
end
theorem equalP_c (xs ys : List Int) (A B : Option Addr) (c d : Nat) (w : World) (D E : Nat → Prop) (hx : Sl kP w D A xs) (hy : Sl kP w E B ys) (hyl : ys.length ≤ 1000000) :
    Calls Tryz.prog 79 #[.slice A xs.length c, .slice B ys.length d] w fun e w' => e = .returned (.bool (decide (xs = ys))) ∧ Qt w w' := by
  by_cases hn : xs.length = ys.length
  · have H1 := As.mk hn
    have hq : (((xs.length : Int) != (ys.length : Int))) = false := by simp [hn]
    have hle : xs.length ≤ ys.length := by omega
    clear hn
    have HX := As.mk hx
    have HY := As.mk hy
    clear hx hy
    go_enter Tryz.func79, Tryz.ntmps79
    go_wp2
    go_loopw [13] (fun i w' => ∃ k : Nat, k ≤ xs.length ∧ i = .int .i64 k ∧ As (∀ t, t < k → xs[t]? = ys[t]?) ∧ As (Qt w w')) (fun i _ => xs.length - (intOf i).toNat)
    case atStart => exact ⟨0, Nat.zero_le _, rfl, ⟨fun t ht => absurd ht (Nat.not_lt_zero t)⟩, ⟨Qt.refl w⟩⟩
    case round =>
      obtain ⟨k, hk, rfl, HK, HQ⟩ := hrel
      by_cases hlt : k < xs.length
      · have hlt' : decide ((k : Int) < xs.length) = true := by simpa using hlt
        have hk2 : k < ys.length := by omega
        obtain ⟨m, rfl⟩ := HQ.out
        obtain ⟨b, o, rfl, hc⟩ := HX.out.int_at hlt
        obtain ⟨b', o', rfl, hc'⟩ := HY.out.int_at (i := k) hk2
        by_cases he : xs[k] = ys[k]
        · have he' : (xs[k] != ys[k]) = false := by simp [he]
          have HE := As.mk he
          clear he
          go_wp2
          go_quiet (fail)
          go_wp2
          go_roundw
          case rel =>
            refine ⟨k + 1, by omega, by go_num, ⟨fun t ht => ?_⟩, ⟨?_⟩⟩
            · rcases Nat.lt_or_eq_of_le (Nat.le_of_lt_succ ht) with h | h
              · exact HK.out t h
              · subst h; rw [List.getElem?_eq_getElem hlt, List.getElem?_eq_getElem hk2, HE.out]
            · exact ⟨_, rfl⟩
          case measure => simp [intOf]; omega
        · have he' : (xs[k] != ys[k]) = true := by simp [he]
          have HE := As.mk he
          clear he
          go_wp2
          go_quiet (fail)
          go_wp2
          go_ret
          refine ⟨ret_bool ?_, HQ.out.trans ⟨_, rfl⟩⟩
          symm
          rw [decide_eq_false_iff_not]
          rintro rfl
          exact HE.out rfl
      · have hlt' : decide ((k : Int) < xs.length) = false := by simpa using hlt
        go_wp2
        go_ret
        refine ⟨ret_bool ?_, HQ.out⟩
        symm
        rw [decide_eq_true_iff]
        apply List.ext_getElem?
        intro t
        rcases Nat.lt_or_ge t k with h | h
        · exact HK.out t h
        · rw [List.getElem?_eq_none (by omega), List.getElem?_eq_none (by have := H1.out; omega)]
  · have H1 := As.mk hn
    have hq : (((xs.length : Int) != (ys.length : Int))) = true := by simp; omega
    clear hn hx hy
    go_enter Tryz.func79, Tryz.ntmps79
    go_wp2
    go_ret
    refine ⟨ret_bool ?_, Qt.refl w⟩
    symm
    rw [decide_eq_false_iff_not]
    rintro rfl
    exact H1.out rfl
theorem sameRow_c (xs ys : List Int) (A B : Option Addr) (c d : Nat) (w : World) (D E : Nat → Prop) (hx : Sl kP w D A xs) (hy : Sl kP w E B ys) (hyl : ys.length ≤ 1000000) :
    Calls Tryz.prog 83 #[.slice A xs.length c, .slice B ys.length d] w fun e w' => e = .returned (.bool (decide (xs = ys))) ∧ Qt w w' := by
  by_cases hn : xs.length = ys.length
  · have H1 := As.mk hn
    have hq : (((xs.length : Int) != (ys.length : Int))) = false := by simp [hn]
    have hle : xs.length ≤ ys.length := by omega
    clear hn
    have HX := As.mk hx
    have HY := As.mk hy
    clear hx hy
    go_enter Tryz.func83, Tryz.ntmps83
    go_wp2
    go_loopw [5] (fun i w' => ∃ k : Nat, k ≤ xs.length ∧ i = .int .i64 k ∧ As (∀ t, t < k → xs[t]? = ys[t]?) ∧ As (Qt w w')) (fun i _ => xs.length - (intOf i).toNat)
    case atStart => exact ⟨0, Nat.zero_le _, rfl, ⟨fun t ht => absurd ht (Nat.not_lt_zero t)⟩, ⟨Qt.refl w⟩⟩
    case round =>
      obtain ⟨k, hk, rfl, HK, HQ⟩ := hrel
      by_cases hlt : k < xs.length
      · have hlt' : decide ((k : Int) < xs.length) = true := by simpa using hlt
        have hk2 : k < ys.length := by omega
        obtain ⟨m, rfl⟩ := HQ.out
        obtain ⟨b, o, rfl, hc⟩ := HX.out.int_at hlt
        obtain ⟨b', o', rfl, hc'⟩ := HY.out.int_at (i := k) hk2
        by_cases he : xs[k] = ys[k]
        · have he' : (xs[k] != ys[k]) = false := by simp [he]
          have HE := As.mk he
          clear he
          go_wp2
          go_quiet (fail)
          go_wp2
          go_roundw
          case rel =>
            refine ⟨k + 1, by omega, by go_num, ⟨fun t ht => ?_⟩, ⟨?_⟩⟩
            · rcases Nat.lt_or_eq_of_le (Nat.le_of_lt_succ ht) with h | h
              · exact HK.out t h
              · subst h; rw [List.getElem?_eq_getElem hlt, List.getElem?_eq_getElem hk2, HE.out]
            · exact ⟨_, rfl⟩
          case measure => simp [intOf]; omega
        · have he' : (xs[k] != ys[k]) = true := by simp [he]
          have HE := As.mk he
          clear he
          go_wp2
          go_quiet (fail)
          go_wp2
          go_ret
          refine ⟨ret_bool ?_, HQ.out.trans ⟨_, rfl⟩⟩
          symm
          rw [decide_eq_false_iff_not]
          rintro rfl
          exact HE.out rfl
      · have hlt' : decide ((k : Int) < xs.length) = false := by simpa using hlt
        go_wp2
        go_ret
        refine ⟨ret_bool ?_, HQ.out⟩
        symm
        rw [decide_eq_true_iff]
        apply List.ext_getElem?
        intro t
        rcases Nat.lt_or_ge t k with h | h
        · exact HK.out t h
        · rw [List.getElem?_eq_none (by omega), List.getElem?_eq_none (by have := H1.out; omega)]
  · have H1 := As.mk hn
    have hq : (((xs.length : Int) != (ys.length : Int))) = true := by simp; omega
    clear hn hx hy
    go_enter Tryz.func83, Tryz.ntmps83
    go_wp2
    go_ret
    refine ⟨ret_bool ?_, Qt.refl w⟩
    symm
    rw [decide_eq_false_iff_not]
    rintro rfl
    exact H1.out rfl
theorem eqn_P (w : World) (a : Option Addr) (n c n' c' : Nat) : (binOp .eql 32 (.slice a n c) (.slice none n' c')).run Tryz.prog w = .ok (.bool a.isNone) w := Lib.run_eql_slice_nil w 32 _ a n c n' c' Tryz.underlying32
theorem cloneP_c (xs : List Int) (A : Option Addr) (c : Nat) (w : World) (I : Fp) (hI : ∀ b, I b → b < w.heap.size) (hx : Sl kP w I A xs) (hn : xs.length ≤ 1000000) :
    Calls Tryz.prog 51 #[.slice A xs.length c] w fun e w' => ∃ v, e = .returned v ∧ Upd w No I w' (Row kP v xs) := by
  have q := eqn_P
  have S := (SH.start w I hI).know (h := Im kP A xs) hx
  rcases A with _ | ad
  · have h0 : xs = [] := by
      rcases xs with _ | ⟨x, r⟩
      · rfl
      · obtain ⟨b, o, cs, e, _⟩ := hx 0 (by simp)
        cases e
    subst h0
    clear hx
    have hc := S.cells; simp only [Cells, cellsC, Im, Row, El, Nat.zero_add, Nat.reduceAdd] at hc
    go_enter Tryz.func51, Tryz.ntmps51
    go_wp2_with (first | ((first | (with_reducible refine wpl_seal S ?_) | (with_reducible refine cw_seal S ?_) | (with_reducible refine bp_seal S ?_) | (with_reducible refine ca_seal S ?_)); clear S; (try clear hc); intro w1 S; (try simp only [List.set_cons_zero, List.set_cons_succ, List.nil_append] at S); have hc := S.cells; simp only [Cells, cellsC, Im, Row, El, Nat.zero_add, Nat.reduceAdd] at hc))
    go_ret
    exact ⟨_, rfl, (S.nilrow (k := kP)).ret 0 rfl⟩
  · clear hx
    have hc := S.cells; simp only [Cells, cellsC, Im, Row, El, Nat.zero_add, Nat.reduceAdd] at hc
    go_enter Tryz.func51, Tryz.ntmps51
    go_wp2_with (first | ((first | (with_reducible refine wpl_seal S ?_) | (with_reducible refine cw_seal S ?_) | (with_reducible refine bp_seal S ?_) | (with_reducible refine ca_seal S ?_)); clear S; (try clear hc); intro w1 S; (try simp only [List.set_cons_zero, List.set_cons_succ, List.nil_append] at S); have hc := S.cells; simp only [Cells, cellsC, Im, Row, El, Nat.zero_add, Nat.reduceAdd] at hc) | (have S1 := S.celRow 0 (k := kP) (xs := []) rfl Flat.nil (by simp); clear S; have S := S1; clear S1; (at_builtin; refine wpl_app S 0 rfl rfl _ _ rfl ty_pixs rfl (some ad) c _ rfl _ (fun _ _ h => h) ((S.im 1 rfl)) (by (try simp only [maxLen, List.length_nil, List.length_append, List.length_cons]); omega) (by (try simp only [maxLen, List.length_nil, List.length_append, List.length_cons]); omega) ?_; clear S; (try clear hc); intro va w1 S; simp only [List.set_cons_zero, List.set_cons_succ, List.nil_append] at S; have hc := S.cells; simp only [Cells, cellsC, Im, Row, El, Nat.zero_add, Nat.reduceAdd] at hc)))
    go_ret
    exact ⟨_, rfl, S.ret 0 rfl⟩
theorem eqn_G (w : World) (a : Option Addr) (n c n' c' : Nat) : (binOp .eql 65 (.slice a n c) (.slice none n' c')).run Tryz.prog w = .ok (.bool a.isNone) w := Lib.run_eql_slice_nil w 65 _ a n c n' c' Tryz.underlying65
theorem cloneG_c (xs : List Pic) (A : Option Addr) (c : Nat) (w : World) (I : Fp) (hI : ∀ b, I b → b < w.heap.size) (hx : Sl kG w I A xs) (hn : xs.length ≤ 1000000) :
    Calls Tryz.prog 26 #[.slice A xs.length c] w fun e w' => ∃ v, e = .returned v ∧ Upd w No I w' (Row kG v xs) := by
  have q := eqn_G
  have S := (SH.start w I hI).know (h := Im kG A xs) hx
  rcases A with _ | ad
  · have h0 : xs = [] := by
      rcases xs with _ | ⟨x, r⟩
      · rfl
      · obtain ⟨b, o, cs, e, _⟩ := hx 0 (by simp)
        cases e
    subst h0
    clear hx
    have hc := S.cells; simp only [Cells, cellsC, Im, Row, El, Nat.zero_add, Nat.reduceAdd] at hc
    go_enter Tryz.func26, Tryz.ntmps26
    go_wp2_with (first | ((first | (with_reducible refine wpl_seal S ?_) | (with_reducible refine cw_seal S ?_) | (with_reducible refine bp_seal S ?_) | (with_reducible refine ca_seal S ?_)); clear S; (try clear hc); intro w1 S; (try simp only [List.set_cons_zero, List.set_cons_succ, List.nil_append] at S); have hc := S.cells; simp only [Cells, cellsC, Im, Row, El, Nat.zero_add, Nat.reduceAdd] at hc))
    go_ret
    exact ⟨_, rfl, (S.nilrow (k := kG)).ret 0 rfl⟩
  · clear hx
    have hc := S.cells; simp only [Cells, cellsC, Im, Row, El, Nat.zero_add, Nat.reduceAdd] at hc
    go_enter Tryz.func26, Tryz.ntmps26
    go_wp2_with (first | ((first | (with_reducible refine wpl_seal S ?_) | (with_reducible refine cw_seal S ?_) | (with_reducible refine bp_seal S ?_) | (with_reducible refine ca_seal S ?_)); clear S; (try clear hc); intro w1 S; (try simp only [List.set_cons_zero, List.set_cons_succ, List.nil_append] at S); have hc := S.cells; simp only [Cells, cellsC, Im, Row, El, Nat.zero_add, Nat.reduceAdd] at hc) | (have S1 := S.celRow 0 (k := kG) (xs := []) rfl Flat.nil (by simp); clear S; have S := S1; clear S1; (at_builtin; refine wpl_app S 0 rfl rfl _ _ rfl ty_pics rfl (some ad) c _ rfl _ (fun _ _ h => h) ((S.im 1 rfl)) (by (try simp only [maxLen, List.length_nil, List.length_append, List.length_cons]); omega) (by (try simp only [maxLen, List.length_nil, List.length_append, List.length_cons]); omega) ?_; clear S; (try clear hc); intro va w1 S; simp only [List.set_cons_zero, List.set_cons_succ, List.nil_append] at S; have hc := S.cells; simp only [Cells, cellsC, Im, Row, El, Nat.zero_add, Nat.reduceAdd] at hc)))
    go_ret
    exact ⟨_, rfl, S.ret 0 rfl⟩
theorem eqn_T (w : World) (a : Option Addr) (n c n' c' : Nat) : (binOp .eql 64 (.slice a n c) (.slice none n' c')).run Tryz.prog w = .ok (.bool a.isNone) w := Lib.run_eql_slice_nil w 64 _ a n c n' c' Tryz.underlying64
theorem cloneT_c (xs : List Tm) (A : Option Addr) (c : Nat) (w : World) (I : Fp) (hI : ∀ b, I b → b < w.heap.size) (hx : Sl kT w I A xs) (hn : xs.length ≤ 1000000) :
    Calls Tryz.prog 30 #[.slice A xs.length c] w fun e w' => ∃ v, e = .returned v ∧ Upd w No I w' (Row kT v xs) := by
  have q := eqn_T
  have S := (SH.start w I hI).know (h := Im kT A xs) hx
  rcases A with _ | ad
  · have h0 : xs = [] := by
      rcases xs with _ | ⟨x, r⟩
      · rfl
      · obtain ⟨b, o, cs, e, _⟩ := hx 0 (by simp)
        cases e
    subst h0
    clear hx
    have hc := S.cells; simp only [Cells, cellsC, Im, Row, El, Nat.zero_add, Nat.reduceAdd] at hc
    go_enter Tryz.func30, Tryz.ntmps30
    go_wp2_with (first | ((first | (with_reducible refine wpl_seal S ?_) | (with_reducible refine cw_seal S ?_) | (with_reducible refine bp_seal S ?_) | (with_reducible refine ca_seal S ?_)); clear S; (try clear hc); intro w1 S; (try simp only [List.set_cons_zero, List.set_cons_succ, List.nil_append] at S); have hc := S.cells; simp only [Cells, cellsC, Im, Row, El, Nat.zero_add, Nat.reduceAdd] at hc))
    go_ret
    exact ⟨_, rfl, (S.nilrow (k := kT)).ret 0 rfl⟩
  · clear hx
    have hc := S.cells; simp only [Cells, cellsC, Im, Row, El, Nat.zero_add, Nat.reduceAdd] at hc
    go_enter Tryz.func30, Tryz.ntmps30
    go_wp2_with (first | ((first | (with_reducible refine wpl_seal S ?_) | (with_reducible refine cw_seal S ?_) | (with_reducible refine bp_seal S ?_) | (with_reducible refine ca_seal S ?_)); clear S; (try clear hc); intro w1 S; (try simp only [List.set_cons_zero, List.set_cons_succ, List.nil_append] at S); have hc := S.cells; simp only [Cells, cellsC, Im, Row, El, Nat.zero_add, Nat.reduceAdd] at hc) | (have S1 := S.celRow 0 (k := kT) (xs := []) rfl Flat.nil (by simp); clear S; have S := S1; clear S1; (at_builtin; refine wpl_app S 0 rfl rfl _ _ rfl ty_tmps rfl (some ad) c _ rfl _ (fun _ _ h => h) ((S.im 1 rfl)) (by (try simp only [maxLen, List.length_nil, List.length_append, List.length_cons]); omega) (by (try simp only [maxLen, List.length_nil, List.length_append, List.length_cons]); omega) ?_; clear S; (try clear hc); intro va w1 S; simp only [List.set_cons_zero, List.set_cons_succ, List.nil_append] at S; have hc := S.cells; simp only [Cells, cellsC, Im, Row, El, Nat.zero_add, Nat.reduceAdd] at hc)))
    go_ret
    exact ⟨_, rfl, S.ret 0 rfl⟩
theorem eqn_N (w : World) (a : Option Addr) (n c n' c' : Nat) : (binOp .eql 41 (.slice a n c) (.slice none n' c')).run Tryz.prog w = .ok (.bool a.isNone) w := Lib.run_eql_slice_nil w 41 _ a n c n' c' Tryz.underlying41
theorem cloneN_c (xs : List Int) (A : Option Addr) (c : Nat) (w : World) (I : Fp) (hI : ∀ b, I b → b < w.heap.size) (hx : Sl kI w I A xs) (hn : xs.length ≤ 1000000) :
    Calls Tryz.prog 47 #[.slice A xs.length c] w fun e w' => ∃ v, e = .returned v ∧ Upd w No I w' (Row kI v xs) := by
  have q := eqn_N
  have S := (SH.start w I hI).know (h := Im kI A xs) hx
  rcases A with _ | ad
  · have h0 : xs = [] := by
      rcases xs with _ | ⟨x, r⟩
      · rfl
      · obtain ⟨b, o, cs, e, _⟩ := hx 0 (by simp)
        cases e
    subst h0
    clear hx
    have hc := S.cells; simp only [Cells, cellsC, Im, Row, El, Nat.zero_add, Nat.reduceAdd] at hc
    go_enter Tryz.func47, Tryz.ntmps47
    go_wp2_with (first | ((first | (with_reducible refine wpl_seal S ?_) | (with_reducible refine cw_seal S ?_) | (with_reducible refine bp_seal S ?_) | (with_reducible refine ca_seal S ?_)); clear S; (try clear hc); intro w1 S; (try simp only [List.set_cons_zero, List.set_cons_succ, List.nil_append] at S); have hc := S.cells; simp only [Cells, cellsC, Im, Row, El, Nat.zero_add, Nat.reduceAdd] at hc))
    go_ret
    exact ⟨_, rfl, (S.nilrow (k := kI)).ret 0 rfl⟩
  · clear hx
    have hc := S.cells; simp only [Cells, cellsC, Im, Row, El, Nat.zero_add, Nat.reduceAdd] at hc
    go_enter Tryz.func47, Tryz.ntmps47
    go_wp2_with (first | ((first | (with_reducible refine wpl_seal S ?_) | (with_reducible refine cw_seal S ?_) | (with_reducible refine bp_seal S ?_) | (with_reducible refine ca_seal S ?_)); clear S; (try clear hc); intro w1 S; (try simp only [List.set_cons_zero, List.set_cons_succ, List.nil_append] at S); have hc := S.cells; simp only [Cells, cellsC, Im, Row, El, Nat.zero_add, Nat.reduceAdd] at hc) | (have S1 := S.celRow 0 (k := kI) (xs := []) rfl Flat.nil (by simp); clear S; have S := S1; clear S1; (at_builtin; refine wpl_app S 0 rfl rfl _ _ rfl ty_ints rfl (some ad) c _ rfl _ (fun _ _ h => h) ((S.im 1 rfl)) (by (try simp only [maxLen, List.length_nil, List.length_append, List.length_cons]); omega) (by (try simp only [maxLen, List.length_nil, List.length_append, List.length_cons]); omega) ?_; clear S; (try clear hc); intro va w1 S; simp only [List.set_cons_zero, List.set_cons_succ, List.nil_append] at S; have hc := S.cells; simp only [Cells, cellsC, Im, Row, El, Nat.zero_add, Nat.reduceAdd] at hc)))
    go_ret
    exact ⟨_, rfl, S.ret 0 rfl⟩
theorem sameM_c (x y : Mx) (A B : Option Addr) (c d : Nat) (w : World) (I : Fp) (hI : ∀ b, I b → b < w.heap.size) (hx : Sl kP w I A x.l) (hy : Sl kP w I B y.l) (hn : y.l.length ≤ 1000000) {r : Bool} (hr : decide (x = y) = r) :
    Calls Tryz.prog 58 #[mxV x A c, mxV y B d] w fun e w' => e = .returned (.bool r) ∧ Ext w w' := by
  have S := ((SH.start w I hI).know (h := Im kP A x.l) hx).know (h := Im kP B y.l) hy
  obtain ⟨a, b, l⟩ := x
  obtain ⟨a2, b2, l2⟩ := y
  dsimp only [mxV] at *
  have F : As (∀ q : Bool, (q = true ↔ a = a2 ∧ b = b2 ∧ l = l2) → q = r) := ⟨fun q h => by rw [← hr, Bool.eq_iff_iff, h, decide_eq_true_eq, Mx.mk.injEq]⟩
  clear hx hy hr
  have hc := S.cells; simp only [Cells, cellsC, Im, Row, El, Nat.zero_add, Nat.reduceAdd] at hc
  by_cases h1 : a = a2
  · have h1' : (a == a2) = true := by rw [h1]; exact beq_self_eq_true _
    by_cases h2 : b = b2
    · have h2' : (b == b2) = true := by rw [h2]; exact beq_self_eq_true _
      have HR := As.mk (F.out (decide (l = l2)) (by simp [h1, h2]))
      clear F h1 h2
      go_enter Tryz.func58, Tryz.ntmps58
      go_wp2_with (first | ((first | (with_reducible refine wpl_seal S ?_) | (with_reducible refine cw_seal S ?_) | (with_reducible refine bp_seal S ?_) | (with_reducible refine ca_seal S ?_)); clear S; (try clear hc); intro w1 S; (try simp only [List.set_cons_zero, List.set_cons_succ, List.nil_append] at S); have hc := S.cells; simp only [Cells, cellsC, Im, Row, El, Nat.zero_add, Nat.reduceAdd] at hc) | (go_at_call 79; refine (equalP_c l l2 A B c d _ _ _ (S.im 3 rfl) (S.im 2 rfl) hn).mono ?_; rw [HR.out]; rintro e w1 ⟨rfl, hx⟩; have hx := hx.ext; replace S := S.ext hx; clear hx; (try clear hc); have hc := S.cells; simp only [Cells, cellsC, Im, Row, El, Nat.zero_add, Nat.reduceAdd] at hc))
      go_ret
      exact ⟨rfl, S.out⟩
    · have h2' : (b == b2) = false := by rw [beq_eq_false_iff_ne]; exact h2
      have HR := As.mk (F.out false (by simp [h2]))
      clear F h1 h2
      go_enter Tryz.func58, Tryz.ntmps58
      go_wp2_with (first | ((first | (with_reducible refine wpl_seal S ?_) | (with_reducible refine cw_seal S ?_) | (with_reducible refine bp_seal S ?_) | (with_reducible refine ca_seal S ?_)); clear S; (try clear hc); intro w1 S; (try simp only [List.set_cons_zero, List.set_cons_succ, List.nil_append] at S); have hc := S.cells; simp only [Cells, cellsC, Im, Row, El, Nat.zero_add, Nat.reduceAdd] at hc))
      go_ret
      exact ⟨by rw [← HR.out]; rfl, S.out⟩
  · have h1' : (a == a2) = false := by rw [beq_eq_false_iff_ne]; exact h1
    have HR := As.mk (F.out false (by simp [h1]))
    clear F h1
    go_enter Tryz.func58, Tryz.ntmps58
    go_wp2_with (first | ((first | (with_reducible refine wpl_seal S ?_) | (with_reducible refine cw_seal S ?_) | (with_reducible refine bp_seal S ?_) | (with_reducible refine ca_seal S ?_)); clear S; (try clear hc); intro w1 S; (try simp only [List.set_cons_zero, List.set_cons_succ, List.nil_append] at S); have hc := S.cells; simp only [Cells, cellsC, Im, Row, El, Nat.zero_add, Nat.reduceAdd] at hc))
    go_ret
    exact ⟨by rw [← HR.out]; rfl, S.out⟩
theorem sameG_c (p q : Pic) (A B : Option Addr) (c d : Nat) (w : World) (I : Fp) (hI : ∀ b, I b → b < w.heap.size) (hx : Sl kP w I A p.x.l) (hy : Sl kP w I B q.x.l) (hn : q.x.l.length ≤ 1000000) {r : Bool} (hr : decide (p = q) = r) :
    Calls Tryz.prog 29 #[picV p A c, picV q B d] w fun e w' => e = .returned (.bool r) ∧ Ext w w' := by
  have S := ((SH.start w I hI).know (h := Im kP A p.x.l) hx).know (h := Im kP B q.x.l) hy
  obtain ⟨c1, m1, x⟩ := p
  obtain ⟨c2, m2, y⟩ := q
  have F : As (∀ q : Bool, (q = true ↔ (c1 = c2 ∧ m1 = m2) ∧ x = y) → q = r) := ⟨fun q h => by rw [← hr, Bool.eq_iff_iff, h, decide_eq_true_eq, Pic.mk.injEq, and_assoc]⟩
  obtain ⟨a, b, l⟩ := x
  obtain ⟨a2, b2, l2⟩ := y
  dsimp only [picV] at *
  clear hx hy hr
  have hc := S.cells; simp only [Cells, cellsC, Im, Row, El, Nat.zero_add, Nat.reduceAdd] at hc
  by_cases h1 : c1 = c2 ∧ m1 = m2
  · obtain ⟨rfl, rfl⟩ := h1
    have HR := As.mk (F.out (decide ((⟨a, b, l⟩ : Mx) = ⟨a2, b2, l2⟩)) (by simp))
    clear F
    go_enter Tryz.func29, Tryz.ntmps29
    go_wp2_with (first | ((first | (with_reducible refine wpl_seal S ?_) | (with_reducible refine cw_seal S ?_) | (with_reducible refine bp_seal S ?_) | (with_reducible refine ca_seal S ?_)); clear S; (try clear hc); intro w1 S; (try simp only [List.set_cons_zero, List.set_cons_succ, List.nil_append] at S); have hc := S.cells; simp only [Cells, cellsC, Im, Row, El, Nat.zero_add, Nat.reduceAdd] at hc) | (go_at_call 58; refine (sameM_c ⟨a, b, l⟩ ⟨a2, b2, l2⟩ A B c d _ _ S.bd (S.im 3 rfl) (S.im 2 rfl) hn HR.out).mono ?_; rintro e w1 ⟨rfl, hx⟩; replace S := S.ext hx; clear hx; (try clear hc); have hc := S.cells; simp only [Cells, cellsC, Im, Row, El, Nat.zero_add, Nat.reduceAdd] at hc))
    go_ret
    exact ⟨rfl, S.out⟩
  · have HR := As.mk (F.out false (by simp only [Bool.false_eq_true, false_iff]; exact fun e => h1 e.1))
    have H1 := As.mk h1
    clear F h1
    go_enter Tryz.func29, Tryz.ntmps29
    go_wp2_with (first | ((first | (with_reducible refine wpl_seal S ?_) | (with_reducible refine cw_seal S ?_) | (with_reducible refine bp_seal S ?_) | (with_reducible refine ca_seal S ?_)); clear S; (try clear hc); intro w1 S; (try simp only [List.set_cons_zero, List.set_cons_succ, List.nil_append] at S); have hc := S.cells; simp only [Cells, cellsC, Im, Row, El, Nat.zero_add, Nat.reduceAdd] at hc))
    all_goals first | exact absurd ⟨by assumption, by assumption⟩ H1.out | (go_ret; exact ⟨by rw [← HR.out]; rfl, S.out⟩)
end Go.Proofs.YtnmlonicfncpfaaGreat
namespace Go.Proofs.YtnmlonicfncpfaaGreat
open Go.RowKit X
set_option maxHeartbeats 2000000
set_option maxRecDepth 8000
set_option linter.unusedSimpArgs false
set_option linter.unusedVariables false
/-- where the first one is that is y; -1 -/
def idxI {α : Type} [DecidableEq α] (l : List α) (y : α) : Int := if y ∈ l then (l.idxOf y : Int) else -1
theorem idxI_at {α : Type} [DecidableEq α] {l : List α} {y : α} {k : Nat} (h : k < l.length) (e : l[k] = y) (hn : ∀ (j : Nat) (h : j < l.length), j < k → l[j] ≠ y) : idxI l y = k := by
  unfold idxI
  rw [if_pos (e ▸ List.getElem_mem h)]
  congr 1
  have hm : y ∈ l := e ▸ List.getElem_mem h
  have h1 : l.idxOf y < l.length := List.idxOf_lt_length_iff.2 hm
  have h2 : l[l.idxOf y] = y := List.getElem_idxOf h1
  rcases Nat.lt_trichotomy (l.idxOf y) k with h3 | h3 | h3
  · exact absurd h2 (hn _ h1 h3)
  · exact h3
  · exfalso
    have : l.idxOf y ≤ k := by
      rw [List.idxOf]
      refine Nat.le_of_not_lt fun hc => ?_
      have := List.not_of_lt_findIdx (p := (· == y)) (xs := l) (i := k) hc
      simp [e] at this
    omega
theorem idxI_none {α : Type} [DecidableEq α] {l : List α} {y : α} (hn : ∀ (j : Nat) (h : j < l.length), l[j] ≠ y) : idxI l y = -1 := by
  unfold idxI
  rw [if_neg]
  intro hm
  obtain ⟨j, hj, e⟩ := List.mem_iff_getElem.1 hm
  exact hn j hj e
theorem cloM_c (x y : Mx) (A B : Option Addr) (c d : Nat) (g : Nat) (w : World) (I : Fp) (hI : ∀ b, I b → b < w.heap.size) (hx : Sl kP w I A x.l) (hy : Sl kP w I B y.l) (hn : y.l.length ≤ 1000000) (c0 : w.cell? ⟨g, 0, none⟩ = some (.int .i64 y.w)) (c1 : w.cell? ⟨g, 1, none⟩ = some (.int .i64 y.h)) (c2 : w.cell? ⟨g, 2, none⟩ = some (.slice B y.l.length d)) {r : Bool} (hr : decide (x = y) = r) :
    Calls Tryz.prog 57 #[mxV x A c, .pointer (some ⟨g, 0, none⟩)] w fun e w' => e = .returned (.bool r) ∧ Ext w w' := by
  have S := ((SH.start w I hI).know (h := Im kP A x.l) hx).know (h := Im kP B y.l) hy
  have HR := As.mk hr
  have HC := As.mk (And.intro c0 (And.intro c1 c2))
  clear hx hy hr c0 c1 c2
  have H := As.mk (fun w' I' hI' hx' hy' => sameM_c x y A B c d w' I' hI' hx' hy' hn HR.out)
  obtain ⟨a, b, l⟩ := x
  obtain ⟨a2, b2, l2⟩ := y
  dsimp only [mxV] at *
  have hc := S.cells; simp only [Cells, cellsC, Im, Row, El, Im, Nat.zero_add, Nat.reduceAdd] at hc
  go_enter Tryz.func57, Tryz.ntmps57
  go_wp2_with (first | ((first | (with_reducible refine wpl_seal S ?_) | (with_reducible refine cw_seal S ?_) | (with_reducible refine bp_seal S ?_) | (with_reducible refine ca_seal S ?_)); clear S; (try clear hc); intro w1 S; (try simp only [List.set_cons_zero, List.set_cons_succ, List.nil_append] at S); have hc := S.cells; simp only [Cells, cellsC, Im, Row, El, Im, Nat.zero_add, Nat.reduceAdd] at hc; have k0 := S.out.cell HC.out.1; have k1 := S.out.cell HC.out.2.1; have k2 := S.out.cell HC.out.2.2) | (go_at_call 58; refine (H.out _ _ S.bd (S.im 2 rfl) (S.im 1 rfl)).mono ?_; rintro e w1 ⟨rfl, hx⟩; replace S := S.ext hx; clear hx; (try clear hc); have hc := S.cells; simp only [Cells, cellsC, Im, Row, El, Im, Nat.zero_add, Nat.reduceAdd] at hc))
  go_ret
  exact ⟨rfl, S.out⟩
theorem indexM_c (l : List Mx) (y : Mx) (A B : Option Addr) (n d : Nat) (g : Nat) (w : World) (I : Fp) (hI : ∀ b, I b → b < w.heap.size) (hl : Sl kM w I A l) (hy : Sl kP w I B y.l) (hn : y.l.length ≤ 1000000) (hln : l.length ≤ 1000000) (c0 : w.cell? ⟨g, 0, none⟩ = some (.int .i64 y.w)) (c1 : w.cell? ⟨g, 1, none⟩ = some (.int .i64 y.h)) (c2 : w.cell? ⟨g, 2, none⟩ = some (.slice B y.l.length d)) {r : Int} (hr : idxI l y = r) :
    Calls Tryz.prog 56 #[.slice A l.length n, .func (.func 57) #[] #[.pointer (some ⟨g, 0, none⟩)]] w fun e w' => e = .returned (.int .i64 r) ∧ Ext w w' := by
  have HL := As.mk hl
  have HY := As.mk hy
  have HC := As.mk (And.intro c0 (And.intro c1 c2))
  have HR := As.mk hr
  have HI := As.mk hI
  clear hl hy hr hI c0 c1 c2
  go_enter Tryz.func56, Tryz.ntmps56
  go_wp2_with fail
  go_loopw [8] (fun i w' => ∃ (k : Nat), k ≤ l.length ∧ i = .int .i64 k ∧ As (∀ (j : Nat) (h : j < l.length), j < k → l[j] ≠ y) ∧ As (Ext w w')) (fun i _ => l.length - (intOf i).toNat)
  case atStart => exact ⟨0, by omega, rfl, ⟨fun j _ h => absurd h (Nat.not_lt_zero j)⟩, ⟨Ext.refl w⟩⟩
  case round =>
    obtain ⟨k, hk, rfl, HK, HX⟩ := hrel
    by_cases hlt : k < l.length
    · have hlt' : decide ((k : Int) < l.length) = true := by simp; omega
      have hl2 : Sl kM wr I A l := HL.out.keep (fun b hb _ => HX.out.block b hb)
      have hy2 : Sl kP wr I B y.l := HY.out.keep (fun b hb _ => HX.out.block b hb)
      have HI2 : As (∀ b, I b → b < wr.heap.size) := ⟨fun b hb => Nat.lt_of_lt_of_le (HI.out b hb) HX.out.size⟩
      obtain ⟨b, o, A2, c2, rfl, g0, g1, g2, hcl, hx2⟩ := hl2.mx_at (List.getElem?_eq_getElem hlt)
      obtain ⟨q, hq⟩ : ∃ q, decide (l[k] = y) = q := ⟨_, rfl⟩
      have HQ := As.mk hq
      have HH := As.mk (And.intro hx2 hy2)
      have HF : As (q = true → idxI l y = k) := ⟨fun h => idxI_at hlt (of_decide_eq_true (by rw [hq, h])) HK.out⟩
      have HT : As (q = false → ∀ (j : Nat) (h : j < l.length), j < k + 1 → l[j] ≠ y) := ⟨fun h0 j hj h => by
        rcases Nat.lt_or_eq_of_le (Nat.le_of_lt_succ h) with h1 | h1
        · exact HK.out j hj h1
        · subst h1; exact of_decide_eq_false (by rw [hq, h0])⟩
      clear hl2 hy2 hx2 hq
      generalize l[k] = x at g0 g1 g2 HQ HH hcl
      have HCL := As.mk (cloM_c x y A2 B c2 d g wr I HI2.out HH.out.1 HH.out.2 hn (HX.out.cell HC.out.1) (HX.out.cell HC.out.2.1) (HX.out.cell HC.out.2.2) HQ.out)
      dsimp only [mxV] at HCL
      cases q
      · go_wp2_with (go_at_call 57; refine HCL.out.mono ?_; rintro e w1 ⟨rfl, hx⟩; have HX2 := As.mk (HX.out.tr hx); clear hx)
        go_roundw
        case rel => exact ⟨k + 1, by omega, by go_num, ⟨HT.out (by first | rfl | trivial)⟩, HX2⟩
        case measure => simp [intOf]; omega
      · go_wp2_with (go_at_call 57; refine HCL.out.mono ?_; rintro e w1 ⟨rfl, hx⟩; have HX2 := As.mk (HX.out.tr hx); clear hx)
        go_ret
        have hF := HF.out (by first | rfl | trivial)
        exact ⟨by rw [← HR.out, hF]; rfl, HX2.out⟩
    · have hlt' : decide ((k : Int) < l.length) = false := by simp; omega
      have hN := As.mk (idxI_none (l := l) (y := y) fun j hj => HK.out j hj (by omega))
      go_wp2_with fail
      go_ret
      exact ⟨by rw [← HR.out, hN.out]; rfl, HX.out⟩
theorem cloG_c (x y : Pic) (A B : Option Addr) (c d : Nat) (g : Nat) (w : World) (I : Fp) (hI : ∀ b, I b → b < w.heap.size) (hx : Sl kP w I A x.x.l) (hy : Sl kP w I B y.x.l) (hn : y.x.l.length ≤ 1000000) (c0 : w.cell? ⟨g, 0, none⟩ = some (.int .i64 y.c)) (c1 : w.cell? ⟨g, 1, none⟩ = some (.int .i64 y.m)) (c2 : w.cell? ⟨g, 2, none⟩ = some (.int .i64 y.x.w)) (c3 : w.cell? ⟨g, 3, none⟩ = some (.int .i64 y.x.h)) (c4 : w.cell? ⟨g, 4, none⟩ = some (.slice B y.x.l.length d)) {r : Bool} (hr : decide (x = y) = r) :
    Calls Tryz.prog 28 #[picV x A c, .pointer (some ⟨g, 0, none⟩)] w fun e w' => e = .returned (.bool r) ∧ Ext w w' := by
  have S := ((SH.start w I hI).know (h := Im kP A x.x.l) hx).know (h := Im kP B y.x.l) hy
  have HR := As.mk hr
  have HC := As.mk (And.intro c0 (And.intro c1 (And.intro c2 (And.intro c3 c4))))
  clear hx hy hr c0 c1 c2 c3 c4
  have H := As.mk (fun w' I' hI' hx' hy' => sameG_c x y A B c d w' I' hI' hx' hy' hn HR.out)
  obtain ⟨p1, p2, a, b, l⟩ := x
  obtain ⟨q1, q2, a2, b2, l2⟩ := y
  dsimp only [picV] at *
  have hc := S.cells; simp only [Cells, cellsC, Im, Row, El, Im, Nat.zero_add, Nat.reduceAdd] at hc
  go_enter Tryz.func28, Tryz.ntmps28
  go_wp2_with (first | ((first | (with_reducible refine wpl_seal S ?_) | (with_reducible refine cw_seal S ?_) | (with_reducible refine bp_seal S ?_) | (with_reducible refine ca_seal S ?_)); clear S; (try clear hc); intro w1 S; (try simp only [List.set_cons_zero, List.set_cons_succ, List.nil_append] at S); have hc := S.cells; simp only [Cells, cellsC, Im, Row, El, Im, Nat.zero_add, Nat.reduceAdd] at hc; have k0 := S.out.cell HC.out.1; have k1 := S.out.cell HC.out.2.1; have k2 := S.out.cell HC.out.2.2.1; have k3 := S.out.cell HC.out.2.2.2.1; have k4 := S.out.cell HC.out.2.2.2.2) | (go_at_call 29; refine (H.out _ _ S.bd (S.im 2 rfl) (S.im 1 rfl)).mono ?_; rintro e w1 ⟨rfl, hx⟩; replace S := S.ext hx; clear hx; (try clear hc); have hc := S.cells; simp only [Cells, cellsC, Im, Row, El, Im, Nat.zero_add, Nat.reduceAdd] at hc))
  go_ret
  exact ⟨rfl, S.out⟩
theorem indexG_c (l : List Pic) (y : Pic) (A B : Option Addr) (n d : Nat) (g : Nat) (w : World) (I : Fp) (hI : ∀ b, I b → b < w.heap.size) (hl : Sl kG w I A l) (hy : Sl kP w I B y.x.l) (hn : y.x.l.length ≤ 1000000) (hln : l.length ≤ 1000000) (c0 : w.cell? ⟨g, 0, none⟩ = some (.int .i64 y.c)) (c1 : w.cell? ⟨g, 1, none⟩ = some (.int .i64 y.m)) (c2 : w.cell? ⟨g, 2, none⟩ = some (.int .i64 y.x.w)) (c3 : w.cell? ⟨g, 3, none⟩ = some (.int .i64 y.x.h)) (c4 : w.cell? ⟨g, 4, none⟩ = some (.slice B y.x.l.length d)) {r : Int} (hr : idxI l y = r) :
    Calls Tryz.prog 27 #[.slice A l.length n, .func (.func 28) #[] #[.pointer (some ⟨g, 0, none⟩)]] w fun e w' => e = .returned (.int .i64 r) ∧ Ext w w' := by
  have HL := As.mk hl
  have HY := As.mk hy
  have HC := As.mk (And.intro c0 (And.intro c1 (And.intro c2 (And.intro c3 c4))))
  have HR := As.mk hr
  have HI := As.mk hI
  clear hl hy hr hI c0 c1 c2 c3 c4
  go_enter Tryz.func27, Tryz.ntmps27
  go_wp2_with fail
  go_loopw [8] (fun i w' => ∃ (k : Nat), k ≤ l.length ∧ i = .int .i64 k ∧ As (∀ (j : Nat) (h : j < l.length), j < k → l[j] ≠ y) ∧ As (Ext w w')) (fun i _ => l.length - (intOf i).toNat)
  case atStart => exact ⟨0, by omega, rfl, ⟨fun j _ h => absurd h (Nat.not_lt_zero j)⟩, ⟨Ext.refl w⟩⟩
  case round =>
    obtain ⟨k, hk, rfl, HK, HX⟩ := hrel
    by_cases hlt : k < l.length
    · have hlt' : decide ((k : Int) < l.length) = true := by simp; omega
      have hl2 : Sl kG wr I A l := HL.out.keep (fun b hb _ => HX.out.block b hb)
      have hy2 : Sl kP wr I B y.x.l := HY.out.keep (fun b hb _ => HX.out.block b hb)
      have HI2 : As (∀ b, I b → b < wr.heap.size) := ⟨fun b hb => Nat.lt_of_lt_of_le (HI.out b hb) HX.out.size⟩
      obtain ⟨b, o, A2, c2, rfl, ⟨g0, g1, g2, g3, g4⟩, hcl, hx2⟩ := hl2.pic_at (List.getElem?_eq_getElem hlt)
      obtain ⟨q, hq⟩ : ∃ q, decide (l[k] = y) = q := ⟨_, rfl⟩
      have HQ := As.mk hq
      have HH := As.mk (And.intro hx2 hy2)
      have HF : As (q = true → idxI l y = k) := ⟨fun h => idxI_at hlt (of_decide_eq_true (by rw [hq, h])) HK.out⟩
      have HT : As (q = false → ∀ (j : Nat) (h : j < l.length), j < k + 1 → l[j] ≠ y) := ⟨fun h0 j hj h => by
        rcases Nat.lt_or_eq_of_le (Nat.le_of_lt_succ h) with h1 | h1
        · exact HK.out j hj h1
        · subst h1; exact of_decide_eq_false (by rw [hq, h0])⟩
      clear hl2 hy2 hx2 hq
      generalize l[k] = x at g0 g1 g2 g3 g4 HQ HH hcl
      have HCL := As.mk (cloG_c x y A2 B c2 d g wr I HI2.out HH.out.1 HH.out.2 hn (HX.out.cell HC.out.1) (HX.out.cell HC.out.2.1) (HX.out.cell HC.out.2.2.1) (HX.out.cell HC.out.2.2.2.1) (HX.out.cell HC.out.2.2.2.2) HQ.out)
      dsimp only [picV] at HCL
      cases q
      · go_wp2_with (go_at_call 28; refine HCL.out.mono ?_; rintro e w1 ⟨rfl, hx⟩; have HX2 := As.mk (HX.out.tr hx); clear hx)
        go_roundw
        case rel => exact ⟨k + 1, by omega, by go_num, ⟨HT.out (by first | rfl | trivial)⟩, HX2⟩
        case measure => simp [intOf]; omega
      · go_wp2_with (go_at_call 28; refine HCL.out.mono ?_; rintro e w1 ⟨rfl, hx⟩; have HX2 := As.mk (HX.out.tr hx); clear hx)
        go_ret
        have hF := HF.out (by first | rfl | trivial)
        exact ⟨by rw [← HR.out, hF]; rfl, HX2.out⟩
    · have hlt' : decide ((k : Int) < l.length) = false := by simp; omega
      have hN := As.mk (idxI_none (l := l) (y := y) fun j hj => HK.out j hj (by omega))
      go_wp2_with fail
      go_ret
      exact ⟨by rw [← HR.out, hN.out]; rfl, HX.out⟩
end Go.Proofs.YtnmlonicfncpfaaGreat
