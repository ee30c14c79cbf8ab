/- The pixels of images; whether two lists are the same: the document's. -/
import Derived.Test.YtnmlonicfncpfaaGreatZRsg
namespace Go.Proofs.YtnmlonicfncpfaaGreat
open Go.RowKit X
set_option maxHeartbeats 2000000
set_option maxRecDepth 8000
set_option linter.unusedSimpArgs false
set_option linter.unusedVariables false
theorem areaP_mono : ∀ (V : List Pic) (n : Int), n ≤ V.foldl (fun n p => n + (p.x.l.length : Int)) n := by
  intro V
  induction V with
  | nil => intro n; exact Int.le_refl n
  | cons p V ih => intro n; rw [List.foldl_cons]; exact Int.le_trans (by omega) (ih _)
theorem yarea_c (V : List Pic) (A : Option Addr) (n : Nat) (w : World) (I : Fp) (hI : ∀ b, I b → b < w.heap.size) (hl : Sl kyG w I A V) (hn : V.length ≤ 1000000) (hb : ∀ p ∈ V, p.x.l.length ≤ 1000000) {r : Int} (hr : areaP V = r) :
    Calls Tryz.prog 33 #[.slice A V.length n] w fun e w' => e = .returned (.int .i64 r) ∧ Ext w w' := by
  have S := (SH.start w I hI).know (h := Im kyG A V) hl
  have HR := As.mk hr
  have HB := As.mk hb
  obtain ⟨f, hf⟩ : ∃ f : Int → Pic → Int, (fun n p => n + (p.x.l.length : Int)) = f := ⟨_, rfl⟩
  have HFD := As.mk (show ∀ n p, f n p = n + (p.x.l.length : Int) by rw [← hf]; exact fun _ _ => rfl)
  have HE := As.mk (show V.foldl f 0 = r by rw [← hf]; exact hr)
  clear hl hr hb hf
  have hc := S.cells; simp only [Cells, cellsC, Im, Row, El, Nat.zero_add, Nat.reduceAdd] at hc
  go_enter Tryz.func33, Tryz.ntmps33
  go_wp2_with (first | ((first | (with_reducible refine wpl_seal S ?_) | (with_reducible refine cw_seal S ?_) | (with_reducible refine bp_seal S ?_) | (with_reducible refine ca_seal S ?_)); clear S; (try clear hc); intro w1 S; (try simp only [List.set_cons_zero, List.set_cons_succ, List.nil_append] at S); have hc := S.cells; simp only [Cells, cellsC, Im, Row, El, Nat.zero_add, Nat.reduceAdd] at hc))
  clear hc
  go_loopw [3, 4] (fun nv iv w' => ∃ (i : Nat) (a : Int) (J : Fp), iv = .int .i64 i ∧ i ≤ V.length ∧ nv = .int .i64 a ∧ 0 ≤ a ∧ a ≤ i * 1000000 ∧ As ((V.take i).foldl f 0 = a) ∧ As (SH No I w [Im kyG A V] w' J)) (fun _ iv _ => V.length - (intOf iv).toNat)
  case atStart => exact ⟨0, 0, _, rfl, by omega, rfl, by omega, by omega, ⟨rfl⟩, ⟨S⟩⟩
  case round =>
    clear S
    obtain ⟨i, a, J, rfl, hi, rfl, ha0, ha1, HS, ⟨S⟩⟩ := hrel
    by_cases hlt : i < V.length
    · have hlt' : decide ((i : Int) < V.length) = true := decide_eq_true (by omega)
      have HPI := As.mk (List.getElem?_eq_getElem hlt)
      have hpl := HB.out _ (List.getElem_mem hlt)
      have HN := As.mk (show (V.take (i + 1)).foldl f 0 = a + (V[i].x.l.length : Int) by rw [List.take_succ_eq_append_getElem hlt, List.foldl_append, HS.out, List.foldl_cons, List.foldl_nil, HFD.out])
      obtain ⟨pb, po, A2, c2, rfl, ⟨g0, g1, g2, g3, g4⟩, hc2, hx2⟩ := (S.im 0 rfl).pic_at HPI.out
      generalize V[i] = p at HPI HN g0 g1 g2 g3 g4 hc2 hx2 hpl
      obtain ⟨pc, pm, ⟨pw, ph, pl⟩⟩ := p
      dsimp only at *
      have hwr : IntKind.i64.wrap (a + (pl.length : Int)) = a + pl.length := by rw [IntKind.wrap_i64]; omega
      have hc := S.cells; simp only [Cells, cellsC, Im, Row, El, Nat.zero_add, Nat.reduceAdd] at hc
      go_wp2_with (first | ((first | (with_reducible refine wpl_seal S ?_) | (with_reducible refine cw_seal S ?_) | (with_reducible refine bp_seal S ?_) | (with_reducible refine ca_seal S ?_)); clear S; (try clear hc); intro w1 S; (try simp only [List.set_cons_zero, List.set_cons_succ, List.nil_append] at S); have hc := S.cells; simp only [Cells, cellsC, Im, Row, El, Nat.zero_add, Nat.reduceAdd] at hc))
      go_roundw
      case rel => exact ⟨i + 1, a + pl.length, _, by go_num, by omega, by go_num, by omega, by omega, HN, ⟨S⟩⟩
      case measure => simp [intOf]; omega
    · have hlt' : decide ((i : Int) < V.length) = false := decide_eq_false (by omega)
      obtain rfl : i = V.length := by omega
      have HF := As.mk (show a = r by rw [← HS.out, ← HE.out, List.take_length])
      obtain rfl := HF.out
      have hc := S.cells; simp only [Cells, cellsC, Im, Row, El, Nat.zero_add, Nat.reduceAdd] at hc
      go_wp2_with (first | ((first | (with_reducible refine wpl_seal S ?_) | (with_reducible refine cw_seal S ?_) | (with_reducible refine bp_seal S ?_) | (with_reducible refine ca_seal S ?_)); clear S; (try clear hc); intro w1 S; (try simp only [List.set_cons_zero, List.set_cons_succ, List.nil_append] at S); have hc := S.cells; simp only [Cells, cellsC, Im, Row, El, Nat.zero_add, Nat.reduceAdd] at hc))
      go_ret
      exact ⟨rfl, S.out⟩
theorem ysame_c (xs ys : List Int) (A B : Option Addr) (c d : Nat) (w : World) (D E : Nat → Prop) (hx : Sl kI w D A xs) (hy : Sl kI w E B ys) (hyl : ys.length ≤ 1000000) {r : Bool} (hr : decide (xs = ys) = r) :
    Calls Tryz.prog 39 #[.slice A xs.length c, .slice B ys.length d] w fun e w' => e = .returned (.bool r) ∧ Qt w w' := by
  subst hr
  by_cases hn : xs.length = ys.length
  · have H1 := As.mk hn
    have hq : (((xs.length : Int) != (ys.length : Int))) = false := by simp [hn]
    have hle : xs.length ≤ ys.length := by omega
    clear hn
    have HX := As.mk hx
    have HY := As.mk hy
    clear hx hy
    go_enter Tryz.func39, Tryz.ntmps39
    go_wp2
    go_loopw [5] (fun i w' => ∃ k : Nat, k ≤ xs.length ∧ i = .int .i64 k ∧ As (∀ t, t < k → xs[t]? = ys[t]?) ∧ As (Qt w w')) (fun i _ => xs.length - (intOf i).toNat)
    case atStart => exact ⟨0, Nat.zero_le _, rfl, ⟨fun t ht => absurd ht (Nat.not_lt_zero t)⟩, ⟨Qt.refl w⟩⟩
    case round =>
      obtain ⟨k, hk, rfl, HK, HQ⟩ := hrel
      by_cases hlt : k < xs.length
      · have hlt' : decide ((k : Int) < xs.length) = true := by simpa using hlt
        have hk2 : k < ys.length := by omega
        obtain ⟨m, rfl⟩ := HQ.out
        obtain ⟨b, o, rfl, hc⟩ := HX.out.int_at hlt
        obtain ⟨b', o', rfl, hc'⟩ := HY.out.int_at (i := k) hk2
        by_cases he : xs[k] = ys[k]
        · have he' : (xs[k] != ys[k]) = false := by simp [he]
          have HE := As.mk he
          clear he
          go_wp2
          go_quiet (fail)
          go_wp2
          go_roundw
          case rel =>
            refine ⟨k + 1, by omega, by go_num, ⟨fun t ht => ?_⟩, ⟨?_⟩⟩
            · rcases Nat.lt_or_eq_of_le (Nat.le_of_lt_succ ht) with h | h
              · exact HK.out t h
              · subst h; rw [List.getElem?_eq_getElem hlt, List.getElem?_eq_getElem hk2, HE.out]
            · exact ⟨_, rfl⟩
          case measure => simp [intOf]; omega
        · have he' : (xs[k] != ys[k]) = true := by simp [he]
          have HE := As.mk he
          clear he
          go_wp2
          go_quiet (fail)
          go_wp2
          go_ret
          refine ⟨ret_bool ?_, HQ.out.trans ⟨_, rfl⟩⟩
          symm
          rw [decide_eq_false_iff_not]
          rintro rfl
          exact HE.out rfl
      · have hlt' : decide ((k : Int) < xs.length) = false := by simpa using hlt
        go_wp2
        go_ret
        refine ⟨ret_bool ?_, HQ.out⟩
        symm
        rw [decide_eq_true_iff]
        apply List.ext_getElem?
        intro t
        rcases Nat.lt_or_ge t k with h | h
        · exact HK.out t h
        · rw [List.getElem?_eq_none (by omega), List.getElem?_eq_none (by have := H1.out; omega)]
  · have H1 := As.mk hn
    have hq : (((xs.length : Int) != (ys.length : Int))) = true := by simp; omega
    clear hn hx hy
    go_enter Tryz.func39, Tryz.ntmps39
    go_wp2
    go_ret
    refine ⟨ret_bool ?_, Qt.refl w⟩
    symm
    rw [decide_eq_false_iff_not]
    rintro rfl
    exact H1.out rfl
end Go.Proofs.YtnmlonicfncpfaaGreat
