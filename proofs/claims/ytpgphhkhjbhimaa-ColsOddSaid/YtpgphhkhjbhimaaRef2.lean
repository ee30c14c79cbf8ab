/- The reference's functions: a tree's paths. -/
import Derived.Test.YtpgphhkhjbhimaaRef
namespace Go.Proofs.Ytpgphhkhjbhimaa
open Go.RowKit X
set_option maxHeartbeats 400000
set_option maxRecDepth 8000
set_option linter.unusedSimpArgs false
set_option linter.unusedVariables false
/-- the reference's tree: v, its paths, its words -/
def RT (w : World) (D : Fp) (v : Value) (L W : List (List Int)) : Prop := ∃ A c A' c', v = rtV A L.length c A' W.length c' ∧ L.length ≤ c ∧ W.length ≤ c' ∧ Sl kW w D A L ∧ Sl kW w D A' W
theorem RT.keep {w w' : World} {D : Fp} {v : Value} {L W : List (List Int)} (h : RT w D v L W) (hk : ∀ b, b < w.heap.size → D b → w'.heap[b]? = w.heap[b]?) : RT w' D v L W := by
  obtain ⟨A, c, A', c', e, h1, h2, h3, h4⟩ := h
  exact ⟨A, c, A', c', e, h1, h2, h3.keep hk, h4.keep hk⟩
theorem RT.weak {w : World} {D D' : Fp} {v : Value} {L W : List (List Int)} (h : RT w D v L W) (hk : ∀ b, b < w.heap.size → D b → D' b) : RT w D' v L W := by
  obtain ⟨A, c, A', c', e, h1, h2, h3, h4⟩ := h
  exact ⟨A, c, A', c', e, h1, h2, h3.weak hk, h4.weak hk⟩
def RTH (v : Value) (L W : List (List Int)) : Ob := .of {
  sat := fun w _ I => RT w I v L W
  keep := fun h hk => h.keep fun b hb hd => hk b hb (.inr hd)
  weak := fun h _ hi _ => h.weak hi }

theorem ty_rows : TyOk Try.prog 44 kW 24 := TyOk.mk' Try.underlying44 (z := .slice none 0 0) (size := 1) (by kernel_rfl) rfl rfl (by omega)
theorem blk_kept {w w' : World} {b : Nat} {cur : Array Value} {t0 : TypeId} {fr : Nat × Nat} {row : Option Nat} (h : w.heap[b]? = some (.cells cur t0 fr)) (hg : w.grownBy w' row) (t : TypeId) (hr : ∀ g, row = some g → ∃ cur, w.heap[g]? = some (.cells cur t (0, 0))) (h1 : t ≠ t0) : w'.heap[b]? = some (.cells cur t0 fr) := by
  refine (hg.block b (lt_of_heap h) (fun e => ?_)).trans h
  obtain ⟨cur', hh'⟩ := hr b e.symm
  rw [h] at hh'
  injection hh' with i1
  injection i1 with _ i2 _
  exact h1 i2.symm
theorem X.Sl.take {α : Type} {k : Kd α} {w : World} {D : Nat → Prop} {A : Option Addr} {xs : List α} (h : Sl k w D A xs) (n : Nat) : Sl k w D A (xs.take n) := by
  intro i hi
  rw [List.length_take] at hi
  obtain ⟨b, o, cs, e, hb, hd, hr, hl, hc⟩ := h i (by omega)
  exact ⟨b, o, cs, e, hb, hd, by rw [List.getElem_take]; exact hr, hl, hc⟩

theorem X.Own.sl' {α : Type} {k : Kd α} {w : World} {D : Nat → Prop} {B : Nat} {A : Option Addr} {n c : Nat} {xs : List α} (h : Own k w B D (.slice A n c) xs) : Sl k w Any A xs := by
  obtain ⟨A', c', e, _, hs⟩ := h.sl
  cases e
  exact hs.any
theorem rnew_c (w : World) : Calls Try.prog 43 #[] w fun e w' => ∃ v, e = .returned v ∧ Upd w No No w' (RTH v [[]] []) := by
  have S := SH.start w No (fun _ h => h.elim)
  have hc := S.cells; simp only [Cells, cellsC, Im, Row, El, RTH, Nat.zero_add, Nat.reduceAdd] at hc
  go_enter Try.func43, Try.ntmps43
  go_wp2_with (first | ((first | (with_reducible refine wpl_seal S ?_) | (with_reducible refine cw_seal S ?_) | (with_reducible refine bp_seal S ?_) | (with_reducible refine ca_seal S ?_)); clear S; (try clear hc); intro w1 S; (try simp only [List.set_cons_zero, List.set_cons_succ, List.nil_append] at S); have hc := S.cells; simp only [Cells, cellsC, Im, Row, El, RTH, Nat.zero_add, Nat.reduceAdd] at hc))
  obtain ⟨I1, S, hI⟩ := S.lit 0 rfl (k := kW) (xs := [[]]) (Flat.single ⟨none, 0, rfl, Nat.le_refl _, Sl.nil⟩)
  simp only [List.set_cons_zero, List.set_cons_succ, List.nil_append] at S
  refine bodyPost_ret (results_cell_row rfl _ _ _ 46 _ (0, 0) _ rfl (S.cel 1 rfl) Try.underlying46 rfl (by kernel_rfl)) rfl ?_
  exact ⟨_, rfl, (S.know (h := RTH _ [[]] []) ⟨_, _, _, _, rfl, Nat.le_refl _, Nat.le_refl _, S.im 0 rfl, Sl.nil⟩).ret 0 rfl⟩
/-- paths of a word's beginnings, put one behind the other -/
def putL (L : List (List Int)) (xs : List Int) : Nat → List (List Int)
  | 0 => L
  | i + 1 => if findT (putL L xs i) (xs.take (i + 1)) < 0 then putL L xs i ++ [xs.take (i + 1)] else putL L xs i
theorem putL_len (L : List (List Int)) (xs : List Int) : ∀ k, L.length ≤ (putL L xs k).length ∧ (putL L xs k).length ≤ L.length + k
  | 0 => ⟨Nat.le_refl _, Nat.le_refl _⟩
  | k + 1 => by
    have := putL_len L xs k
    simp only [putL]
    split
    · rw [List.length_append]; simp; omega
    · omega
theorem putL_short {L : List (List Int)} {xs : List Int} (h : ShortW L) (hx : xs.length ≤ 1000000) : ∀ k, ShortW (putL L xs k)
  | 0 => h
  | k + 1 => by
    have := putL_short h hx k
    simp only [putL]
    split
    · intro x hx'
      rcases List.mem_append.1 hx' with h | h
      · exact this x h
      · rw [List.mem_singleton.1 h, List.length_take]; omega
    · exact this

theorem rput_c (L W : List (List Int)) (xs : List Int) (v : Value) (B : Option Addr) (d : Nat) (w : World) (I : Fp) (hI : ∀ b, I b → b < w.heap.size) (hR : RT w I v L W) (hx : Sl kP w I B xs) (hd : xs.length ≤ d) (hL : L.length + xs.length ≤ 900000) (hW : W.length ≤ 900000) (hs : ShortW L) :
    Calls Try.prog 44 #[v, .slice B xs.length d] w fun e w' => ∃ v', e = .returned v' ∧ Upd w No I w' (RTH v' (putL L xs xs.length) (W ++ [xs])) := by
  obtain ⟨A, c, A', c', rfl, hc0, hc', hLs, hWs⟩ := hR
  have S := (((SH.start w I hI).know (h := Im kP B xs) hx).know (h := Im kW A' W) hWs).know (h := Im kW A L) hLs
  have HS := As.mk hs
  have hc := S.cells; simp only [Cells, cellsC, Im, Row, El, RTH, Nat.zero_add, Nat.reduceAdd] at hc
  clear hLs hWs hx hs hI
  go_enter Try.func44, Try.ntmps44
  go_wp2_with (first | ((first | (with_reducible refine wpl_seal S ?_) | (with_reducible refine cw_seal S ?_) | (with_reducible refine bp_seal S ?_) | (with_reducible refine ca_seal S ?_)); clear S; (try clear hc); intro w1 S; (try simp only [List.set_cons_zero, List.set_cons_succ, List.nil_append] at S); have hc := S.cells; simp only [Cells, cellsC, Im, Row, El, RTH, Nat.zero_add, Nat.reduceAdd] at hc))
  clear hc
  obtain ⟨g2, eg2⟩ := S.name 0 rfl; rw [← eg2] at S ⊢; clear eg2
  obtain ⟨g1, eg1⟩ := S.name 1 rfl; rw [← eg1] at S ⊢; clear eg1
  go_loopw [5] (fun i w' => ∃ (k : Nat) (A1 : Option Addr) (c1 : Nat) (I1 : Fp), k ≤ xs.length ∧ i = .int .i64 ((k : Int) + 1) ∧ (putL L xs k).length ≤ c1 ∧ As (SH No I w [Cel g2 46 [.slice none 0 0, .slice none 0 0], Cel g1 46 [.slice A1 (putL L xs k).length c1, .slice A' W.length c'], Im kW A1 (putL L xs k), Im kW A' W, Im kP B xs] w' I1))
    (fun i _ => xs.length + 1 - (intOf i).toNat)
  case atStart => exact ⟨0, A, c, I, Nat.zero_le _, by go_num, hc0, ⟨S⟩⟩
  case round =>
    clear S
    obtain ⟨k, A1, c1, I1, hk, rfl, hlc, ⟨S⟩⟩ := hrel
    have hLk := (putL_len L xs k).2
    have HSk := As.mk (putL_short HS.out (by omega) (xs := xs) k)
    by_cases hlt : k < xs.length
    · have hlt' : decide ((k : Int) + 1 ≤ xs.length) = true := by simp; omega
      obtain ⟨xb, xo, rfl, _⟩ := (S.im 4 rfl).int_at (i := 0) (by omega)
      have hlk : (xs.take (k + 1)).length = k + 1 := by rw [List.length_take]; omega
      have HLK := As.mk hlk
      clear hlk
      by_cases hf : findT (putL L xs k) (xs.take (k + 1)) < 0
      · have hf' : decide (findT (putL L xs k) (xs.take (k + 1)) < 0) = true := by simpa using hf
        have HPE : As (putL L xs (k + 1) = putL L xs k ++ [xs.take (k + 1)]) := ⟨by simp only [putL, if_pos hf]⟩
        clear hf
        have hc := S.cells; simp only [Cells, cellsC, Im, Row, El, RTH, Nat.zero_add, Nat.reduceAdd] at hc
        have hq := S.cellsE; simp only [CellsE, cellsE, Im, Row, El, RTH, Nat.zero_add, Nat.reduceAdd] at hq
        go_wp2_with (first | ((first | (with_reducible refine wpl_seal S ?_) | (with_reducible refine cw_seal S ?_) | (with_reducible refine bp_seal S ?_) | (with_reducible refine ca_seal S ?_)); clear S; (try clear hc); intro w1 S; (try simp only [List.set_cons_zero, List.set_cons_succ, List.nil_append] at S); have hc := S.cells; simp only [Cells, cellsC, Im, Row, El, RTH, Nat.zero_add, Nat.reduceAdd] at hc))
        refine wp_region_ext [⟨[0, 1, 2, 3], [], 4, false⟩] [5] (by kernel_rfl) (by kernel_rfl) ?_
        refine mix_cons rfl rfl rfl ?_
        simp only [opsAt, List.getD_cons_succ, List.getD_cons_zero]
        repeat (go_big_quiet_step ((intro hC; first | rfl | (go_simp; first | done | rfl))))
        refine wpQuiet_nil ?_
        repeat (go_big_quiet_step ((intro hC; first | rfl | (go_simp; first | done | rfl))))
        refine wpQuiet_nil ?_
        clear hq hc
        replace S := S.drew
        go_wp2_with (first | ((first | (with_reducible refine wpl_seal S ?_) | (with_reducible refine cw_seal S ?_) | (with_reducible refine bp_seal S ?_) | (with_reducible refine ca_seal S ?_)); clear S; (try clear hc); intro w1 S; (try simp only [List.set_cons_zero, List.set_cons_succ, List.nil_append] at S); have hc := S.cells; simp only [Cells, cellsC, Im, Row, El, RTH, Nat.zero_add, Nat.reduceAdd] at hc) | (go_at_call 59; have h1 := find_c (putL L xs k) W (xs.take (k + 1)) A1 A' (some ⟨xb, xo, none⟩) c1 c' d _ _ _ (S.im 2 rfl) ((S.im 4 rfl).take _) (by omega) HSk.out (by rw [HLK.out]; omega); rw [HLK.out] at h1; refine h1.mono ?_; clear h1; rintro e w1 ⟨rfl, hx⟩; replace S := S.ext hx; clear hx))
        refine ⟨(fun h => by cases h), ?_⟩
        refine mix_last rfl ?_
        simp only [opsAt, List.getD_cons_succ, List.getD_cons_zero]
        repeat (go_big_quiet_step ((intro hC; first | rfl | (go_simp; first | done | rfl))))
        refine wpQuiet_nil ?_
        simp only [calmQ]
        replace S := S.nilrow (k := kW)
        have hc := S.cells; simp only [Cells, cellsC, Im, Row, El, RTH, Nat.zero_add, Nat.reduceAdd] at hc
        go_wp2_with (first | ((first | (with_reducible refine wpl_seal S ?_) | (with_reducible refine cw_seal S ?_) | (with_reducible refine bp_seal S ?_) | (with_reducible refine ca_seal S ?_)); clear S; (try clear hc); intro w1 S; (try simp only [List.set_cons_zero, List.set_cons_succ, List.nil_append] at S); have hc := S.cells; simp only [Cells, cellsC, Im, Row, El, RTH, Nat.zero_add, Nat.reduceAdd] at hc) | (at_builtin; refine wpl_app S 0 rfl rfl _ _ rfl ty_rows rfl A1 c1 _ rfl I1 (fun _ _ h => h) (S.im 3 rfl) (by simp only [maxLen, List.length_nil]; omega) (by simp only [List.length_nil]; omega) ?_; clear S hc; intro v2 w1 S; simp only [List.set_cons_zero, List.set_cons_succ, List.nil_append] at S; have hc := S.cells; simp only [Cells, cellsC, Im, Row, El, RTH, Nat.zero_add, Nat.reduceAdd] at hc) | (at_builtin; refine wpl_push S 1 rfl rfl _ _ rfl ty_rows rfl (xs.take (k + 1)) _ _ rfl [_] _ (S.cel 0 rfl) ⟨_, _, by rw [HLK.out], by rw [HLK.out]; omega, (S.im 6 rfl).take _⟩ (by simp only [maxLen]; omega) (by omega) ?_; clear S hc; intro v3 w1 S; simp only [List.set_cons_zero, List.set_cons_succ, List.nil_append] at S; obtain ⟨A3, c3, I3, e3, hc3, S3, hI3⟩ := S.frow 1 rfl; subst e3; clear S; have S := S3; clear S3; simp only [List.set_cons_zero, List.set_cons_succ, List.nil_append] at S; have hc := S.cells; simp only [Cells, cellsC, Im, Row, El, RTH, Nat.zero_add, Nat.reduceAdd] at hc))
        go_roundw
        case rel =>
          refine ⟨k + 1, A3, c3, I3, by omega, by go_num, by rw [HPE.out]; exact hc3, ⟨?_⟩⟩
          rw [HPE.out]
          have S1 := (S.sel [2, 3, 1, 5, 6] (by decide) rfl (by simp) : SH _ _ _ [_, _, _, _, _] _ _)
          simpa only [List.length_append, List.length_cons, List.length_nil, Nat.zero_add, List.nil_append] using S1
        case measure => simp [intOf]; omega
      · have hf' : decide (findT (putL L xs k) (xs.take (k + 1)) < 0) = false := by simpa using hf
        have HPE : As (putL L xs (k + 1) = putL L xs k) := ⟨by simp only [putL, if_neg hf]⟩
        clear hf
        have hc := S.cells; simp only [Cells, cellsC, Im, Row, El, RTH, Nat.zero_add, Nat.reduceAdd] at hc
        have hq := S.cellsE; simp only [CellsE, cellsE, Im, Row, El, RTH, Nat.zero_add, Nat.reduceAdd] at hq
        go_wp2_with (first | ((first | (with_reducible refine wpl_seal S ?_) | (with_reducible refine cw_seal S ?_) | (with_reducible refine bp_seal S ?_) | (with_reducible refine ca_seal S ?_)); clear S; (try clear hc); intro w1 S; (try simp only [List.set_cons_zero, List.set_cons_succ, List.nil_append] at S); have hc := S.cells; simp only [Cells, cellsC, Im, Row, El, RTH, Nat.zero_add, Nat.reduceAdd] at hc))
        refine wp_region_ext [⟨[0, 1, 2, 3], [], 4, false⟩] [5] (by kernel_rfl) (by kernel_rfl) ?_
        refine mix_cons rfl rfl rfl ?_
        simp only [opsAt, List.getD_cons_succ, List.getD_cons_zero]
        repeat (go_big_quiet_step ((intro hC; first | rfl | (go_simp; first | done | rfl))))
        refine wpQuiet_nil ?_
        repeat (go_big_quiet_step ((intro hC; first | rfl | (go_simp; first | done | rfl))))
        refine wpQuiet_nil ?_
        clear hq hc
        replace S := S.drew
        go_wp2_with (first | ((first | (with_reducible refine wpl_seal S ?_) | (with_reducible refine cw_seal S ?_) | (with_reducible refine bp_seal S ?_) | (with_reducible refine ca_seal S ?_)); clear S; (try clear hc); intro w1 S; (try simp only [List.set_cons_zero, List.set_cons_succ, List.nil_append] at S); have hc := S.cells; simp only [Cells, cellsC, Im, Row, El, RTH, Nat.zero_add, Nat.reduceAdd] at hc) | (go_at_call 59; have h1 := find_c (putL L xs k) W (xs.take (k + 1)) A1 A' (some ⟨xb, xo, none⟩) c1 c' d _ _ _ (S.im 2 rfl) ((S.im 4 rfl).take _) (by omega) HSk.out (by rw [HLK.out]; omega); rw [HLK.out] at h1; refine h1.mono ?_; clear h1; rintro e w1 ⟨rfl, hx⟩; replace S := S.ext hx; clear hx))
        refine ⟨(fun h => by cases h), ?_⟩
        refine mix_last rfl ?_
        simp only [opsAt, List.getD_cons_succ, List.getD_cons_zero]
        repeat (go_big_quiet_step ((intro hC; first | rfl | (go_simp; first | done | rfl))))
        refine wpQuiet_nil ?_
        simp only [calmQ]
        go_wp2_with (first | ((first | (with_reducible refine wpl_seal S ?_) | (with_reducible refine cw_seal S ?_) | (with_reducible refine bp_seal S ?_) | (with_reducible refine ca_seal S ?_)); clear S; (try clear hc); intro w1 S; (try simp only [List.set_cons_zero, List.set_cons_succ, List.nil_append] at S); have hc := S.cells; simp only [Cells, cellsC, Im, Row, El, RTH, Nat.zero_add, Nat.reduceAdd] at hc))
        go_roundw
        case rel => exact ⟨k + 1, A1, c1, I1, by omega, by go_num, by rw [HPE.out]; exact hlc, ⟨by rw [HPE.out]; exact S⟩⟩
        case measure => simp [intOf]; omega
    · have hlt' : decide ((k : Int) + 1 ≤ xs.length) = false := by simp; omega
      have hke : k = xs.length := by omega
      subst hke
      replace S := S.nilrow (k := kW)
      have hc := S.cells; simp only [Cells, cellsC, Im, Row, El, RTH, Nat.zero_add, Nat.reduceAdd] at hc
      go_wp2_with (first | ((first | (with_reducible refine wpl_seal S ?_) | (with_reducible refine cw_seal S ?_) | (with_reducible refine bp_seal S ?_) | (with_reducible refine ca_seal S ?_)); clear S; (try clear hc); intro w1 S; (try simp only [List.set_cons_zero, List.set_cons_succ, List.nil_append] at S); have hc := S.cells; simp only [Cells, cellsC, Im, Row, El, RTH, Nat.zero_add, Nat.reduceAdd] at hc) | (at_builtin; refine wpl_app S 0 rfl rfl _ _ rfl ty_rows rfl A' c' _ rfl I1 (fun _ _ h => h) (S.im 4 rfl) (by simp only [maxLen, List.length_nil]; omega) (by simp only [List.length_nil]; omega) ?_; clear S hc; intro v2 w1 S; simp only [List.set_cons_zero, List.set_cons_succ, List.nil_append] at S; have hc := S.cells; simp only [Cells, cellsC, Im, Row, El, RTH, Nat.zero_add, Nat.reduceAdd] at hc) | (at_builtin; refine wpl_push S 1 rfl rfl _ _ rfl ty_rows rfl xs _ _ rfl [_] _ (S.cel 0 rfl) ⟨_, _, rfl, hd, S.im 6 rfl⟩ (by simp only [maxLen]; omega) (by omega) ?_; clear S hc; intro v3 w1 S; simp only [List.set_cons_zero, List.set_cons_succ, List.nil_append] at S; obtain ⟨A3, c3, I3, e3, hc3, S3, hI3⟩ := S.frow 1 rfl; subst e3; clear S; have S := S3; clear S3; simp only [List.set_cons_zero, List.set_cons_succ, List.nil_append] at S; have hc := S.cells; simp only [Cells, cellsC, Im, Row, El, RTH, Nat.zero_add, Nat.reduceAdd] at hc))
      refine bodyPost_ret (results_cell_row rfl _ _ _ 46 _ (0, 0) _ rfl (S.cel 2 rfl) Try.underlying46 rfl (by kernel_rfl)) rfl ?_
      exact ⟨_, rfl, (S.know (h := RTH _ (putL L xs xs.length) (W ++ [xs])) ⟨_, _, _, _, by simp, hlc, hc3, S.im 4 rfl, S.im 1 rfl⟩).ret 0 rfl⟩
end Go.Proofs.Ytpgphhkhjbhimaa
