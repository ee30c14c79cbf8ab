/- Whether matrices, images are the same; slices cloned. -/
import Derived.Test.YtnmlonicfncpfaaDMayI
namespace Go.Proofs.Ytnmlonicfncpfaa
open Go.RowKit X
set_option maxHeartbeats 2000000
set_option maxRecDepth 8000
set_option linter.unusedSimpArgs false
set_option linter.unusedVariables false
section
variable {F0 I0 : Fp} {w0 w : World} {L : List Ob} {I : Fp} {α : Type} {k : Kd α} {xs : List α} {g : Nat}
/-- one block of cells as a row that may grow -/
theorem X.SH.celRow (s : SH F0 I0 w0 L w I) (i : Nat) {cells : List Value} (e : L[i]? = some (Cel g k.ety cells)) (hf : Flat k w I xs cells) (hm : xs.length ≤ 1000000) : SH F0 I0 w0 (L.set i (Row k (.slice (some ⟨g, 0, none⟩) xs.length xs.length) xs)) w I :=
  s.updI i e (h' := Row k (.slice (some ⟨g, 0, none⟩) xs.length xs.length) xs) fun F ⟨hh, hF⟩ hb =>
    ⟨F, ⟨⟨cells, ⟨⟨hf.1, .inr ⟨g, xs.length, cells.toArray, rfl, Nat.zero_le _, hh, Nat.le_refl _, by unfold maxLen; omega, by rw [List.size_toArray]; exact hf.1, by rw [List.take_of_length_le (by rw [hf.1]; exact Nat.le_refl _)]⟩⟩, fun b hb' => by cases hb'; exact (hb _ hF).2⟩, hf⟩, fun b hb' => by cases hb'; exact hF⟩, fun b hb' => ⟨(hb b hb').1, .inl hb'⟩, Chg.refl _ _⟩
theorem Flat.nil {w : World} {D : Fp} {k : Kd α} : Flat k w D ([] : List α) [] := ⟨by simp, fun i hi => absurd hi (Nat.not_lt_zero i)⟩
end
theorem equalP_c (xs ys : List Int) (A B : Option Addr) (c d : Nat) (w : World) (D E : Nat → Prop) (hx : Sl kP w D A xs) (hy : Sl kP w E B ys) (hyl : ys.length ≤ 1000000) :
    Calls Try.prog 63 #[.slice A xs.length c, .slice B ys.length d] w fun e w' => e = .returned (.bool (decide (xs = ys))) ∧ Qt w w' := by
  by_cases hn : xs.length = ys.length
  · have H1 := As.mk hn
    have hq : (((xs.length : Int) != (ys.length : Int))) = false := by simp [hn]
    have hle : xs.length ≤ ys.length := by omega
    clear hn
    have HX := As.mk hx
    have HY := As.mk hy
    clear hx hy
    go_enter Try.func63, Try.ntmps63
    go_wp2
    go_loopw [13] (fun i w' => ∃ k : Nat, k ≤ xs.length ∧ i = .int .i64 k ∧ As (∀ t, t < k → xs[t]? = ys[t]?) ∧ As (Qt w w')) (fun i _ => xs.length - (intOf i).toNat)
    case atStart => exact ⟨0, Nat.zero_le _, rfl, ⟨fun t ht => absurd ht (Nat.not_lt_zero t)⟩, ⟨Qt.refl w⟩⟩
    case round =>
      obtain ⟨k, hk, rfl, HK, HQ⟩ := hrel
      by_cases hlt : k < xs.length
      · have hlt' : decide ((k : Int) < xs.length) = true := by simpa using hlt
        have hk2 : k < ys.length := by omega
        obtain ⟨m, rfl⟩ := HQ.out
        obtain ⟨b, o, rfl, hc⟩ := HX.out.int_at hlt
        obtain ⟨b', o', rfl, hc'⟩ := HY.out.int_at (i := k) hk2
        by_cases he : xs[k] = ys[k]
        · have he' : (xs[k] != ys[k]) = false := by simp [he]
          have HE := As.mk he
          clear he
          go_wp2
          go_quiet (fail)
          go_wp2
          go_roundw
          case rel =>
            refine ⟨k + 1, by omega, by go_num, ⟨fun t ht => ?_⟩, ⟨?_⟩⟩
            · rcases Nat.lt_or_eq_of_le (Nat.le_of_lt_succ ht) with h | h
              · exact HK.out t h
              · subst h; rw [List.getElem?_eq_getElem hlt, List.getElem?_eq_getElem hk2, HE.out]
            · exact ⟨_, rfl⟩
          case measure => simp [intOf]; omega
        · have he' : (xs[k] != ys[k]) = true := by simp [he]
          have HE := As.mk he
          clear he
          go_wp2
          go_quiet (fail)
          go_wp2
          go_ret
          refine ⟨ret_bool ?_, HQ.out.trans ⟨_, rfl⟩⟩
          symm
          rw [decide_eq_false_iff_not]
          rintro rfl
          exact HE.out rfl
      · have hlt' : decide ((k : Int) < xs.length) = false := by simpa using hlt
        go_wp2
        go_ret
        refine ⟨ret_bool ?_, HQ.out⟩
        symm
        rw [decide_eq_true_iff]
        apply List.ext_getElem?
        intro t
        rcases Nat.lt_or_ge t k with h | h
        · exact HK.out t h
        · rw [List.getElem?_eq_none (by omega), List.getElem?_eq_none (by have := H1.out; omega)]
  · have H1 := As.mk hn
    have hq : (((xs.length : Int) != (ys.length : Int))) = true := by simp; omega
    clear hn hx hy
    go_enter Try.func63, Try.ntmps63
    go_wp2
    go_ret
    refine ⟨ret_bool ?_, Qt.refl w⟩
    symm
    rw [decide_eq_false_iff_not]
    rintro rfl
    exact H1.out rfl
theorem sameRow_c (xs ys : List Int) (A B : Option Addr) (c d : Nat) (w : World) (D E : Nat → Prop) (hx : Sl kP w D A xs) (hy : Sl kP w E B ys) (hyl : ys.length ≤ 1000000) :
    Calls Try.prog 87 #[.slice A xs.length c, .slice B ys.length d] w fun e w' => e = .returned (.bool (decide (xs = ys))) ∧ Qt w w' := by
  by_cases hn : xs.length = ys.length
  · have H1 := As.mk hn
    have hq : (((xs.length : Int) != (ys.length : Int))) = false := by simp [hn]
    have hle : xs.length ≤ ys.length := by omega
    clear hn
    have HX := As.mk hx
    have HY := As.mk hy
    clear hx hy
    go_enter Try.func87, Try.ntmps87
    go_wp2
    go_loopw [5] (fun i w' => ∃ k : Nat, k ≤ xs.length ∧ i = .int .i64 k ∧ As (∀ t, t < k → xs[t]? = ys[t]?) ∧ As (Qt w w')) (fun i _ => xs.length - (intOf i).toNat)
    case atStart => exact ⟨0, Nat.zero_le _, rfl, ⟨fun t ht => absurd ht (Nat.not_lt_zero t)⟩, ⟨Qt.refl w⟩⟩
    case round =>
      obtain ⟨k, hk, rfl, HK, HQ⟩ := hrel
      by_cases hlt : k < xs.length
      · have hlt' : decide ((k : Int) < xs.length) = true := by simpa using hlt
        have hk2 : k < ys.length := by omega
        obtain ⟨m, rfl⟩ := HQ.out
        obtain ⟨b, o, rfl, hc⟩ := HX.out.int_at hlt
        obtain ⟨b', o', rfl, hc'⟩ := HY.out.int_at (i := k) hk2
        by_cases he : xs[k] = ys[k]
        · have he' : (xs[k] != ys[k]) = false := by simp [he]
          have HE := As.mk he
          clear he
          go_wp2
          go_quiet (fail)
          go_wp2
          go_roundw
          case rel =>
            refine ⟨k + 1, by omega, by go_num, ⟨fun t ht => ?_⟩, ⟨?_⟩⟩
            · rcases Nat.lt_or_eq_of_le (Nat.le_of_lt_succ ht) with h | h
              · exact HK.out t h
              · subst h; rw [List.getElem?_eq_getElem hlt, List.getElem?_eq_getElem hk2, HE.out]
            · exact ⟨_, rfl⟩
          case measure => simp [intOf]; omega
        · have he' : (xs[k] != ys[k]) = true := by simp [he]
          have HE := As.mk he
          clear he
          go_wp2
          go_quiet (fail)
          go_wp2
          go_ret
          refine ⟨ret_bool ?_, HQ.out.trans ⟨_, rfl⟩⟩
          symm
          rw [decide_eq_false_iff_not]
          rintro rfl
          exact HE.out rfl
      · have hlt' : decide ((k : Int) < xs.length) = false := by simpa using hlt
        go_wp2
        go_ret
        refine ⟨ret_bool ?_, HQ.out⟩
        symm
        rw [decide_eq_true_iff]
        apply List.ext_getElem?
        intro t
        rcases Nat.lt_or_ge t k with h | h
        · exact HK.out t h
        · rw [List.getElem?_eq_none (by omega), List.getElem?_eq_none (by have := H1.out; omega)]
  · have H1 := As.mk hn
    have hq : (((xs.length : Int) != (ys.length : Int))) = true := by simp; omega
    clear hn hx hy
    go_enter Try.func87, Try.ntmps87
    go_wp2
    go_ret
    refine ⟨ret_bool ?_, Qt.refl w⟩
    symm
    rw [decide_eq_false_iff_not]
    rintro rfl
    exact H1.out rfl
theorem eqn_P (w : World) (a : Option Addr) (n c n' c' : Nat) : (binOp .eql 27 (.slice a n c) (.slice none n' c')).run Try.prog w = .ok (.bool a.isNone) w := Lib.run_eql_slice_nil w 27 _ a n c n' c' Try.underlying27
theorem cloneP_c (xs : List Int) (A : Option Addr) (c : Nat) (w : World) (I : Fp) (hI : ∀ b, I b → b < w.heap.size) (hx : Sl kP w I A xs) (hn : xs.length ≤ 1000000) :
    Calls Try.prog 38 #[.slice A xs.length c] w fun e w' => ∃ v, e = .returned v ∧ Upd w No I w' (Row kP v xs) := by
  have q := eqn_P
  have S := (SH.start w I hI).know (h := Im kP A xs) hx
  rcases A with _ | ad
  · have h0 : xs = [] := by
      rcases xs with _ | ⟨x, r⟩
      · rfl
      · obtain ⟨b, o, cs, e, _⟩ := hx 0 (by simp)
        cases e
    subst h0
    clear hx
    have hc := S.cells; simp only [Cells, cellsC, Im, Row, El, Nat.zero_add, Nat.reduceAdd] at hc
    go_enter Try.func38, Try.ntmps38
    go_wp2_with (first | ((first | (with_reducible refine wpl_seal S ?_) | (with_reducible refine cw_seal S ?_) | (with_reducible refine bp_seal S ?_) | (with_reducible refine ca_seal S ?_)); clear S; (try clear hc); intro w1 S; (try simp only [List.set_cons_zero, List.set_cons_succ, List.nil_append] at S); have hc := S.cells; simp only [Cells, cellsC, Im, Row, El, Nat.zero_add, Nat.reduceAdd] at hc))
    go_ret
    exact ⟨_, rfl, (S.nilrow (k := kP)).ret 0 rfl⟩
  · clear hx
    have hc := S.cells; simp only [Cells, cellsC, Im, Row, El, Nat.zero_add, Nat.reduceAdd] at hc
    go_enter Try.func38, Try.ntmps38
    go_wp2_with (first | ((first | (with_reducible refine wpl_seal S ?_) | (with_reducible refine cw_seal S ?_) | (with_reducible refine bp_seal S ?_) | (with_reducible refine ca_seal S ?_)); clear S; (try clear hc); intro w1 S; (try simp only [List.set_cons_zero, List.set_cons_succ, List.nil_append] at S); have hc := S.cells; simp only [Cells, cellsC, Im, Row, El, Nat.zero_add, Nat.reduceAdd] at hc) | (have S1 := S.celRow 0 (k := kP) (xs := []) rfl Flat.nil (by simp); clear S; have S := S1; clear S1; (at_builtin; refine wpl_app S 0 rfl rfl _ _ rfl ty_pixs rfl (some ad) c _ rfl _ (fun _ _ h => h) ((S.im 1 rfl)) (by (try simp only [maxLen, List.length_nil, List.length_append, List.length_cons]); omega) (by (try simp only [maxLen, List.length_nil, List.length_append, List.length_cons]); omega) ?_; clear S; (try clear hc); intro va w1 S; simp only [List.set_cons_zero, List.set_cons_succ, List.nil_append] at S; have hc := S.cells; simp only [Cells, cellsC, Im, Row, El, Nat.zero_add, Nat.reduceAdd] at hc)))
    go_ret
    exact ⟨_, rfl, S.ret 0 rfl⟩
theorem eqn_G (w : World) (a : Option Addr) (n c n' c' : Nat) : (binOp .eql 60 (.slice a n c) (.slice none n' c')).run Try.prog w = .ok (.bool a.isNone) w := Lib.run_eql_slice_nil w 60 _ a n c n' c' Try.underlying60
theorem cloneG_c (xs : List Pic) (A : Option Addr) (c : Nat) (w : World) (I : Fp) (hI : ∀ b, I b → b < w.heap.size) (hx : Sl kG w I A xs) (hn : xs.length ≤ 1000000) :
    Calls Try.prog 27 #[.slice A xs.length c] w fun e w' => ∃ v, e = .returned v ∧ Upd w No I w' (Row kG v xs) := by
  have q := eqn_G
  have S := (SH.start w I hI).know (h := Im kG A xs) hx
  rcases A with _ | ad
  · have h0 : xs = [] := by
      rcases xs with _ | ⟨x, r⟩
      · rfl
      · obtain ⟨b, o, cs, e, _⟩ := hx 0 (by simp)
        cases e
    subst h0
    clear hx
    have hc := S.cells; simp only [Cells, cellsC, Im, Row, El, Nat.zero_add, Nat.reduceAdd] at hc
    go_enter Try.func27, Try.ntmps27
    go_wp2_with (first | ((first | (with_reducible refine wpl_seal S ?_) | (with_reducible refine cw_seal S ?_) | (with_reducible refine bp_seal S ?_) | (with_reducible refine ca_seal S ?_)); clear S; (try clear hc); intro w1 S; (try simp only [List.set_cons_zero, List.set_cons_succ, List.nil_append] at S); have hc := S.cells; simp only [Cells, cellsC, Im, Row, El, Nat.zero_add, Nat.reduceAdd] at hc))
    go_ret
    exact ⟨_, rfl, (S.nilrow (k := kG)).ret 0 rfl⟩
  · clear hx
    have hc := S.cells; simp only [Cells, cellsC, Im, Row, El, Nat.zero_add, Nat.reduceAdd] at hc
    go_enter Try.func27, Try.ntmps27
    go_wp2_with (first | ((first | (with_reducible refine wpl_seal S ?_) | (with_reducible refine cw_seal S ?_) | (with_reducible refine bp_seal S ?_) | (with_reducible refine ca_seal S ?_)); clear S; (try clear hc); intro w1 S; (try simp only [List.set_cons_zero, List.set_cons_succ, List.nil_append] at S); have hc := S.cells; simp only [Cells, cellsC, Im, Row, El, Nat.zero_add, Nat.reduceAdd] at hc) | (have S1 := S.celRow 0 (k := kG) (xs := []) rfl Flat.nil (by simp); clear S; have S := S1; clear S1; (at_builtin; refine wpl_app S 0 rfl rfl _ _ rfl ty_pics rfl (some ad) c _ rfl _ (fun _ _ h => h) ((S.im 1 rfl)) (by (try simp only [maxLen, List.length_nil, List.length_append, List.length_cons]); omega) (by (try simp only [maxLen, List.length_nil, List.length_append, List.length_cons]); omega) ?_; clear S; (try clear hc); intro va w1 S; simp only [List.set_cons_zero, List.set_cons_succ, List.nil_append] at S; have hc := S.cells; simp only [Cells, cellsC, Im, Row, El, Nat.zero_add, Nat.reduceAdd] at hc)))
    go_ret
    exact ⟨_, rfl, S.ret 0 rfl⟩
theorem eqn_T (w : World) (a : Option Addr) (n c n' c' : Nat) : (binOp .eql 59 (.slice a n c) (.slice none n' c')).run Try.prog w = .ok (.bool a.isNone) w := Lib.run_eql_slice_nil w 59 _ a n c n' c' Try.underlying59
theorem cloneT_c (xs : List Tm) (A : Option Addr) (c : Nat) (w : World) (I : Fp) (hI : ∀ b, I b → b < w.heap.size) (hx : Sl kT w I A xs) (hn : xs.length ≤ 1000000) :
    Calls Try.prog 31 #[.slice A xs.length c] w fun e w' => ∃ v, e = .returned v ∧ Upd w No I w' (Row kT v xs) := by
  have q := eqn_T
  have S := (SH.start w I hI).know (h := Im kT A xs) hx
  rcases A with _ | ad
  · have h0 : xs = [] := by
      rcases xs with _ | ⟨x, r⟩
      · rfl
      · obtain ⟨b, o, cs, e, _⟩ := hx 0 (by simp)
        cases e
    subst h0
    clear hx
    have hc := S.cells; simp only [Cells, cellsC, Im, Row, El, Nat.zero_add, Nat.reduceAdd] at hc
    go_enter Try.func31, Try.ntmps31
    go_wp2_with (first | ((first | (with_reducible refine wpl_seal S ?_) | (with_reducible refine cw_seal S ?_) | (with_reducible refine bp_seal S ?_) | (with_reducible refine ca_seal S ?_)); clear S; (try clear hc); intro w1 S; (try simp only [List.set_cons_zero, List.set_cons_succ, List.nil_append] at S); have hc := S.cells; simp only [Cells, cellsC, Im, Row, El, Nat.zero_add, Nat.reduceAdd] at hc))
    go_ret
    exact ⟨_, rfl, (S.nilrow (k := kT)).ret 0 rfl⟩
  · clear hx
    have hc := S.cells; simp only [Cells, cellsC, Im, Row, El, Nat.zero_add, Nat.reduceAdd] at hc
    go_enter Try.func31, Try.ntmps31
    go_wp2_with (first | ((first | (with_reducible refine wpl_seal S ?_) | (with_reducible refine cw_seal S ?_) | (with_reducible refine bp_seal S ?_) | (with_reducible refine ca_seal S ?_)); clear S; (try clear hc); intro w1 S; (try simp only [List.set_cons_zero, List.set_cons_succ, List.nil_append] at S); have hc := S.cells; simp only [Cells, cellsC, Im, Row, El, Nat.zero_add, Nat.reduceAdd] at hc) | (have S1 := S.celRow 0 (k := kT) (xs := []) rfl Flat.nil (by simp); clear S; have S := S1; clear S1; (at_builtin; refine wpl_app S 0 rfl rfl _ _ rfl ty_tmps rfl (some ad) c _ rfl _ (fun _ _ h => h) ((S.im 1 rfl)) (by (try simp only [maxLen, List.length_nil, List.length_append, List.length_cons]); omega) (by (try simp only [maxLen, List.length_nil, List.length_append, List.length_cons]); omega) ?_; clear S; (try clear hc); intro va w1 S; simp only [List.set_cons_zero, List.set_cons_succ, List.nil_append] at S; have hc := S.cells; simp only [Cells, cellsC, Im, Row, El, Nat.zero_add, Nat.reduceAdd] at hc)))
    go_ret
    exact ⟨_, rfl, S.ret 0 rfl⟩
theorem sameM_c (x y : Mx) (A B : Option Addr) (c d : Nat) (w : World) (I : Fp) (hI : ∀ b, I b → b < w.heap.size) (hx : Sl kP w I A x.l) (hy : Sl kP w I B y.l) (hn : y.l.length ≤ 1000000) {r : Bool} (hr : decide (x = y) = r) :
    Calls Try.prog 45 #[mxV x A c, mxV y B d] w fun e w' => e = .returned (.bool r) ∧ Ext w w' := by
  have S := ((SH.start w I hI).know (h := Im kP A x.l) hx).know (h := Im kP B y.l) hy
  obtain ⟨a, b, l⟩ := x
  obtain ⟨a2, b2, l2⟩ := y
  dsimp only [mxV] at *
  have F : As (∀ q : Bool, (q = true ↔ a = a2 ∧ b = b2 ∧ l = l2) → q = r) := ⟨fun q h => by rw [← hr, Bool.eq_iff_iff, h, decide_eq_true_eq, Mx.mk.injEq]⟩
  clear hx hy hr
  have hc := S.cells; simp only [Cells, cellsC, Im, Row, El, Nat.zero_add, Nat.reduceAdd] at hc
  by_cases h1 : a = a2
  · have h1' : (a == a2) = true := by rw [h1]; exact beq_self_eq_true _
    by_cases h2 : b = b2
    · have h2' : (b == b2) = true := by rw [h2]; exact beq_self_eq_true _
      have HR := As.mk (F.out (decide (l = l2)) (by simp [h1, h2]))
      clear F h1 h2
      go_enter Try.func45, Try.ntmps45
      go_wp2_with (first | ((first | (with_reducible refine wpl_seal S ?_) | (with_reducible refine cw_seal S ?_) | (with_reducible refine bp_seal S ?_) | (with_reducible refine ca_seal S ?_)); clear S; (try clear hc); intro w1 S; (try simp only [List.set_cons_zero, List.set_cons_succ, List.nil_append] at S); have hc := S.cells; simp only [Cells, cellsC, Im, Row, El, Nat.zero_add, Nat.reduceAdd] at hc) | (go_at_call 63; refine (equalP_c l l2 A B c d _ _ _ (S.im 3 rfl) (S.im 2 rfl) hn).mono ?_; rw [HR.out]; rintro e w1 ⟨rfl, hx⟩; have hx := hx.ext; replace S := S.ext hx; clear hx; (try clear hc); have hc := S.cells; simp only [Cells, cellsC, Im, Row, El, Nat.zero_add, Nat.reduceAdd] at hc))
      go_ret
      exact ⟨rfl, S.out⟩
    · have h2' : (b == b2) = false := by rw [beq_eq_false_iff_ne]; exact h2
      have HR := As.mk (F.out false (by simp [h2]))
      clear F h1 h2
      go_enter Try.func45, Try.ntmps45
      go_wp2_with (first | ((first | (with_reducible refine wpl_seal S ?_) | (with_reducible refine cw_seal S ?_) | (with_reducible refine bp_seal S ?_) | (with_reducible refine ca_seal S ?_)); clear S; (try clear hc); intro w1 S; (try simp only [List.set_cons_zero, List.set_cons_succ, List.nil_append] at S); have hc := S.cells; simp only [Cells, cellsC, Im, Row, El, Nat.zero_add, Nat.reduceAdd] at hc))
      go_ret
      exact ⟨by rw [← HR.out]; rfl, S.out⟩
  · have h1' : (a == a2) = false := by rw [beq_eq_false_iff_ne]; exact h1
    have HR := As.mk (F.out false (by simp [h1]))
    clear F h1
    go_enter Try.func45, Try.ntmps45
    go_wp2_with (first | ((first | (with_reducible refine wpl_seal S ?_) | (with_reducible refine cw_seal S ?_) | (with_reducible refine bp_seal S ?_) | (with_reducible refine ca_seal S ?_)); clear S; (try clear hc); intro w1 S; (try simp only [List.set_cons_zero, List.set_cons_succ, List.nil_append] at S); have hc := S.cells; simp only [Cells, cellsC, Im, Row, El, Nat.zero_add, Nat.reduceAdd] at hc))
    go_ret
    exact ⟨by rw [← HR.out]; rfl, S.out⟩
theorem sameG_c (p q : Pic) (A B : Option Addr) (c d : Nat) (w : World) (I : Fp) (hI : ∀ b, I b → b < w.heap.size) (hx : Sl kP w I A p.x.l) (hy : Sl kP w I B q.x.l) (hn : q.x.l.length ≤ 1000000) {r : Bool} (hr : decide (p = q) = r) :
    Calls Try.prog 30 #[picV p A c, picV q B d] w fun e w' => e = .returned (.bool r) ∧ Ext w w' := by
  have S := ((SH.start w I hI).know (h := Im kP A p.x.l) hx).know (h := Im kP B q.x.l) hy
  obtain ⟨c1, m1, x⟩ := p
  obtain ⟨c2, m2, y⟩ := q
  have F : As (∀ q : Bool, (q = true ↔ (c1 = c2 ∧ m1 = m2) ∧ x = y) → q = r) := ⟨fun q h => by rw [← hr, Bool.eq_iff_iff, h, decide_eq_true_eq, Pic.mk.injEq, and_assoc]⟩
  obtain ⟨a, b, l⟩ := x
  obtain ⟨a2, b2, l2⟩ := y
  dsimp only [picV] at *
  clear hx hy hr
  have hc := S.cells; simp only [Cells, cellsC, Im, Row, El, Nat.zero_add, Nat.reduceAdd] at hc
  by_cases h1 : c1 = c2 ∧ m1 = m2
  · obtain ⟨rfl, rfl⟩ := h1
    have HR := As.mk (F.out (decide ((⟨a, b, l⟩ : Mx) = ⟨a2, b2, l2⟩)) (by simp))
    clear F
    go_enter Try.func30, Try.ntmps30
    go_wp2_with (first | ((first | (with_reducible refine wpl_seal S ?_) | (with_reducible refine cw_seal S ?_) | (with_reducible refine bp_seal S ?_) | (with_reducible refine ca_seal S ?_)); clear S; (try clear hc); intro w1 S; (try simp only [List.set_cons_zero, List.set_cons_succ, List.nil_append] at S); have hc := S.cells; simp only [Cells, cellsC, Im, Row, El, Nat.zero_add, Nat.reduceAdd] at hc) | (go_at_call 45; refine (sameM_c ⟨a, b, l⟩ ⟨a2, b2, l2⟩ A B c d _ _ S.bd (S.im 3 rfl) (S.im 2 rfl) hn HR.out).mono ?_; rintro e w1 ⟨rfl, hx⟩; replace S := S.ext hx; clear hx; (try clear hc); have hc := S.cells; simp only [Cells, cellsC, Im, Row, El, Nat.zero_add, Nat.reduceAdd] at hc))
    go_ret
    exact ⟨rfl, S.out⟩
  · have HR := As.mk (F.out false (by simp only [Bool.false_eq_true, false_iff]; exact fun e => h1 e.1))
    have H1 := As.mk h1
    clear F h1
    go_enter Try.func30, Try.ntmps30
    go_wp2_with (first | ((first | (with_reducible refine wpl_seal S ?_) | (with_reducible refine cw_seal S ?_) | (with_reducible refine bp_seal S ?_) | (with_reducible refine ca_seal S ?_)); clear S; (try clear hc); intro w1 S; (try simp only [List.set_cons_zero, List.set_cons_succ, List.nil_append] at S); have hc := S.cells; simp only [Cells, cellsC, Im, Row, El, Nat.zero_add, Nat.reduceAdd] at hc))
    all_goals first | exact absurd ⟨by assumption, by assumption⟩ H1.out | (go_ret; exact ⟨by rw [← HR.out]; rfl, S.out⟩)
end Go.Proofs.Ytnmlonicfncpfaa
