/- What a dictionary tells of its templates and variants: rows of their own. -/
import Derived.Test.YtnmlonicfncpfaaGreatDOwn
import Derived.Test.YtnmlonicfncpfaaGreatDTrn
namespace Go.Proofs.YtnmlonicfncpfaaGreat.X
open Go.RowKit
section
variable {F0 I0 F : Fp} {w0 w w' : World} {L l : List Ob} {I J : Fp} {h d : Ob}
theorem SH.openAt {i : Nat} (s : SH F0 I0 w0 (L.set i (Many (d :: l))) w I) (hi : i < L.length) : SH F0 I0 w0 (l ++ L.set i d) w I := by
  obtain ⟨c, bd, ini, Fs, h1, h2, h3⟩ := s
  obtain ⟨Gs, g1, g2, g3⟩ := h1 i _ (List.getElem?_set_self hi)
  refine ⟨c, bd, ini, fun j => if j < l.length then Gs (j + 1) else if j - l.length = i then Gs 0 else Fs (j - l.length), fun j o e => ?_, fun j b hb => ?_, fun j k b hjk hb hb' => ?_⟩
  · by_cases hj : j < l.length
    · simp only [if_pos hj]
      rw [List.getElem?_append_left hj] at e
      exact g1 (j + 1) o (by simpa using e)
    · simp only [if_neg hj]
      rw [List.getElem?_append_right (by omega)] at e
      by_cases hji : j - l.length = i
      · simp only [if_pos hji]
        rw [hji, List.getElem?_set_self hi] at e
        exact g1 0 o (by simpa using e)
      · simp only [if_neg hji]
        rw [List.getElem?_set_ne (fun h => hji h.symm)] at e
        exact h1 _ o (by rw [List.getElem?_set_ne (fun h => hji h.symm)]; exact e)
  · by_cases hj : j < l.length
    · simp only [if_pos hj] at hb; exact h2 i b (g2 _ b hb)
    · simp only [if_neg hj] at hb
      by_cases hji : j - l.length = i
      · simp only [if_pos hji] at hb; exact h2 i b (g2 _ b hb)
      · simp only [if_neg hji] at hb; exact h2 _ b hb
  · by_cases hj : j < l.length
    · simp only [if_pos hj] at hb
      by_cases hk : k < l.length
      · simp only [if_pos hk] at hb'; exact g3 _ _ b (by omega) hb hb'
      · simp only [if_neg hk] at hb'
        by_cases hki : k - l.length = i
        · simp only [if_pos hki] at hb'; exact g3 _ _ b (by omega) hb hb'
        · simp only [if_neg hki] at hb'; exact h3 i _ b (fun h => hki h.symm) (g2 _ b hb) hb'
    · simp only [if_neg hj] at hb
      by_cases hk : k < l.length
      · simp only [if_pos hk] at hb'
        by_cases hji : j - l.length = i
        · simp only [if_pos hji] at hb; exact g3 _ _ b (by omega) hb hb'
        · simp only [if_neg hji] at hb; exact h3 _ i b hji hb (g2 _ b hb')
      · simp only [if_neg hk] at hb'
        by_cases hji : j - l.length = i
        · simp only [if_pos hji] at hb
          by_cases hki : k - l.length = i
          · omega
          · simp only [if_neg hki] at hb'; exact h3 i _ b (fun h => hki h.symm) (g2 _ b hb) hb'
        · simp only [if_neg hji] at hb
          by_cases hki : k - l.length = i
          · simp only [if_pos hki] at hb'; exact h3 _ i b hji hb (g2 _ b hb')
          · simp only [if_neg hki] at hb'; exact h3 _ _ b (by omega) hb hb'
/-- a call that is handed one object, leaves it as it was, and makes others -/
theorem SH.call1k (s : SH F0 I0 w0 L w I) (i : Nat) (e : L[i]? = some h) :
    ∃ F, (∀ b, I b → b < w.heap.size) ∧ SH F I w [h] w I ∧ ∀ (l : List Ob) (w' : World), Upd w F I w' (Many (h :: l)) → ∃ I', SH F0 I0 w0 (l ++ L) w' I' := by
  obtain ⟨F, hI, s1, back⟩ := s.call1 i e
  refine ⟨F, hI, s1, fun l w' u => ?_⟩
  obtain ⟨I', s2, -⟩ := back _ _ u
  obtain ⟨hi, e2⟩ := List.getElem?_eq_some_iff.1 e
  have s3 := s2.openAt hi
  have : L.set i h = L := by rw [← e2]; exact List.set_getElem_self hi
  rw [this] at s3
  exact ⟨I', s3⟩
end
theorem results_cell_tmp2R {P : Program} {fn : Func} {t u p : Tmp} {ty : TypeId} (h : fn.results = #[.cell p ty, .tmp t, .tmp u]) (tmps : Array Value) (w : World) (g : Nat) (e : TypeId) (cs : Array Value) (fr : Nat × Nat) (d : TypeDesc)
    (hp : tmps.getD p undef = .pointer (some ⟨g, 0, none⟩)) (hg : w.heap[g]? = some (.cells cs e fr))
    (hu : P.underlying ty = some d) (hd : (match d with | .struct _ | .array _ _ => true | _ => false) = true) (hi : (P.info? ty).map (·.size) = some cs.size) :
    (results fn tmps).run P w = .ok (.tuple #[.agg cs, tmps.getD t undef, tmps.getD u undef]) w := by
  have hp' : tmps[p]?.getD undef = .pointer (some ⟨g, 0, none⟩) := by simpa using hp
  simp [results, h, hp', asAddr, run_loadVar_row w g e ty cs fr d hg hu hd hi]
end Go.Proofs.YtnmlonicfncpfaaGreat.X
namespace Go.Proofs.YtnmlonicfncpfaaGreat
open Go.RowKit X
set_option maxHeartbeats 2000000
set_option maxRecDepth 8000
set_option linter.unusedSimpArgs false
set_option linter.unusedVariables false
theorem clone_r (p : Pic) (A : Option Addr) (n : Nat) (w : World) (I : Fp) (hI : ∀ b, I b → b < w.heap.size) (hl : Sl kP w I A p.x.l) (hn : p.x.l.length ≤ 1000000) :
    Calls Tryz.prog 21 #[picV p A n] w fun e w' => ∃ B c, e = .returned (picV p B c) ∧ Upd w No I w' (Row kP (.slice B p.x.l.length c) p.x.l) := by
  have S := (SH.start w I hI).know (h := Im kP A p.x.l) hl
  clear hl
  obtain ⟨c, m, a, b, l⟩ := p
  dsimp only [picV] at *
  have hc := S.cells; simp only [Cells, cellsC, Im, Row, El, Nat.zero_add, Nat.reduceAdd] at hc
  go_enter Tryz.func21, Tryz.ntmps21
  go_wp2_with (first | ((first | (with_reducible refine wpl_seal S ?_) | (with_reducible refine cw_seal S ?_) | (with_reducible refine bp_seal S ?_) | (with_reducible refine ca_seal S ?_)); clear S; (try clear hc); intro w1 S; (try simp only [List.set_cons_zero, List.set_cons_succ, List.nil_append] at S); have hc := S.cells; simp only [Cells, cellsC, Im, Row, El, Nat.zero_add, Nat.reduceAdd] at hc) | (go_at_call 51; refine (cloneP_c l A n _ _ S.bd (S.im 2 rfl) hn).mono ?_; rintro e w1 ⟨v, rfl, hu⟩; obtain ⟨I1, S1, hI1⟩ := S.new hu; clear S hu hI1; (try clear hc); have S := S1; clear S1; have hc := S.cells; simp only [Cells, cellsC, Im, Row, El, Nat.zero_add, Nat.reduceAdd] at hc; obtain ⟨B1, c1, rfl, -, -⟩ := S.row 0 rfl; have hc := S.cells; simp only [Cells, cellsC, Im, Row, El, Nat.zero_add, Nat.reduceAdd] at hc))
  refine bodyPost_ret (results_cell_row rfl _ _ _ 36 _ (0, 0) _ rfl (S.cel 1 rfl) Tryz.underlying36 rfl (by kernel_rfl)) rfl ?_
  exact ⟨B1, c1, rfl, S.ret 0 rfl⟩
section
variable {F0 I0 I : Fp} {w0 w : World} {O : List Ob}
theorem variant_s (b : Nat) (L : List Tm) (V : List Pic) (ar : Int) (S0 : SH F0 I0 w0 O w I) (i : Nat) (e : O[i]? = some (DicO b L V ar)) (v : Nat) (hv : v < V.length) (hn : V[v].x.l.length ≤ 1000000) {p : Pic} (hp : V[v] = p) :
    Calls Tryz.prog 17 #[.pointer (some ⟨b, 0, none⟩), .int .i64 v] w fun e w' => ∃ B c J, e = .returned (.tuple #[picV p B c, .bool true]) ∧ SH F0 I0 w0 (Row kP (.slice B p.x.l.length c) p.x.l :: O) w' J := by
  obtain ⟨F, hI, S, back⟩ := S0.call1k i e
  refine Calls.mono (R := fun e w' => ∃ B c, e = .returned (.tuple #[picV p B c, .bool true]) ∧ Upd w F I w' (Many [DicO b L V ar, Row kP (.slice B p.x.l.length c) p.x.l])) ?_ fun e w' ⟨B, c, h1, h2⟩ => by obtain ⟨J, h3⟩ := back _ _ h2; exact ⟨B, c, J, h1, h3⟩
  clear back S0 e
  obtain ⟨A, c, B, d, h1, h2, S⟩ := S.dOpen 0 rfl
  simp only [List.set_cons_zero, List.set_cons_succ, List.nil_append] at S
  have HP := As.mk (show V[v]? = some p by rw [List.getElem?_eq_getElem hv, hp])
  rw [hp] at hn
  obtain ⟨b2, o2, A2, c2, rfl, ⟨g0, g1, g2, g3, g4⟩, hc2, hx2⟩ := (S.im 1 rfl).pic_at HP.out
  have hv' : decide ((v : Int) < 0) = false := decide_eq_false (by omega)
  have hv2 : decide ((v : Int) ≥ V.length) = false := decide_eq_false (by omega)
  clear hp g0 g1 g2 g3 g4 hx2
  obtain ⟨pc, pm, ⟨pw, ph, pl⟩⟩ := p
  dsimp only [picV] at *
  have hc := S.cells; simp only [Cells, cellsC, Im, Row, El, Nat.zero_add, Nat.reduceAdd] at hc
  go_enter Tryz.func17, Tryz.ntmps17
  go_upto_region 3 with (first | ((first | (with_reducible refine wpl_seal S ?_) | (with_reducible refine cw_seal S ?_) | (with_reducible refine bp_seal S ?_) | (with_reducible refine ca_seal S ?_)); clear S; (try clear hc); intro w1 S; (try simp only [List.set_cons_zero, List.set_cons_succ, List.nil_append] at S); have hc := S.cells; simp only [Cells, cellsC, Im, Row, El, Nat.zero_add, Nat.reduceAdd] at hc))
  obtain ⟨b3, o3, A2, c2, e3, ⟨g0, g1, g2, g3, g4⟩, hc2, hx2⟩ := (S.im 2 rfl).pic_at HP.out
  rw [Option.some.injEq, Addr.mk.injEq] at e3
  obtain ⟨rfl, rfl, -⟩ := e3
  replace S := S.know (h := Im kP A2 pl) hx2
  clear hx2
  have hc := S.cells; simp only [Cells, cellsC, Im, Row, El, Nat.zero_add, Nat.reduceAdd] at hc
  go_wp2_with (first | ((first | (with_reducible refine wpl_seal S ?_) | (with_reducible refine cw_seal S ?_) | (with_reducible refine bp_seal S ?_) | (with_reducible refine ca_seal S ?_)); clear S; (try clear hc); intro w1 S; (try simp only [List.set_cons_zero, List.set_cons_succ, List.nil_append] at S); have hc := S.cells; simp only [Cells, cellsC, Im, Row, El, Nat.zero_add, Nat.reduceAdd] at hc) | (go_at_call 21; refine (clone_r ⟨pc, pm, ⟨pw, ph, pl⟩⟩ A2 c2 _ _ S.bd (S.im 0 rfl) hn).mono ?_; rintro e w1 ⟨B5, c5, rfl, hu⟩; obtain ⟨I1, S1, hI1⟩ := S.new hu; clear S hu hI1; (try clear hc); have S := S1; clear S1; have hc := S.cells; simp only [Cells, cellsC, Im, Row, El, Nat.zero_add, Nat.reduceAdd] at hc; have hc := S.cells; simp only [Cells, cellsC, Im, Row, El, Nat.zero_add, Nat.reduceAdd] at hc))
  refine bodyPost_ret (results_cell_tmpR rfl _ _ _ 36 _ (0, 0) _ rfl (S.cel 2 rfl) Tryz.underlying36 rfl (by kernel_rfl)) rfl ?_
  exact ⟨B5, c5, rfl, ((S.dClose 5 rfl h1 h2 (S.im 3 rfl) (S.im 4 rfl)).many [5, 0] (by decide) rfl (by simp)).retF 0 rfl⟩
abbrev pic0 : Value := .agg #[.int .i64 0, .int .i64 0, .int .i64 0, .int .i64 0, .slice none 0 0]
theorem variantNo_s (b : Nat) (L : List Tm) (V : List Pic) (ar : Int) (S0 : SH F0 I0 w0 O w I) (i : Nat) (e : O[i]? = some (DicO b L V ar)) :
    Calls Tryz.prog 17 #[.pointer (some ⟨b, 0, none⟩), .int .i64 V.length] w fun e w' => ∃ J, e = .returned (.tuple #[pic0, .bool false]) ∧ SH F0 I0 w0 O w' J := by
  obtain ⟨F, hI, S, back⟩ := S0.call1k i e
  refine Calls.mono (R := fun e w' => e = .returned (.tuple #[pic0, .bool false]) ∧ Upd w F I w' (Many [DicO b L V ar])) ?_ fun e w' ⟨h1, h2⟩ => by obtain ⟨J, h3⟩ := back _ _ h2; exact ⟨J, h1, h3⟩
  clear back S0 e
  obtain ⟨A, c, B, d, h1, h2, S⟩ := S.dOpen 0 rfl
  simp only [List.set_cons_zero, List.set_cons_succ, List.nil_append] at S
  have hv' : decide ((V.length : Int) < 0) = false := decide_eq_false (by omega)
  have hv2 : decide ((V.length : Int) ≥ V.length) = true := decide_eq_true (by omega)
  have hc := S.cells; simp only [Cells, cellsC, Im, Row, El, Nat.zero_add, Nat.reduceAdd] at hc
  go_enter Tryz.func17, Tryz.ntmps17
  go_wp2_with (first | ((first | (with_reducible refine wpl_seal S ?_) | (with_reducible refine cw_seal S ?_) | (with_reducible refine bp_seal S ?_) | (with_reducible refine ca_seal S ?_)); clear S; (try clear hc); intro w1 S; (try simp only [List.set_cons_zero, List.set_cons_succ, List.nil_append] at S); have hc := S.cells; simp only [Cells, cellsC, Im, Row, El, Nat.zero_add, Nat.reduceAdd] at hc))
  refine bodyPost_ret (results_cell_tmpR rfl _ _ _ 36 _ (0, 0) _ rfl (S.cel 0 rfl) Tryz.underlying36 rfl (by kernel_rfl)) rfl ?_
  exact ⟨rfl, ((S.dClose 3 rfl h1 h2 (S.im 1 rfl) (S.im 2 rfl)).many [3] (by decide) rfl (by simp)).retF 0 rfl⟩
theorem template_s (b : Nat) (L : List Tm) (V : List Pic) (ar : Int) (S0 : SH F0 I0 w0 O w I) (i : Nat) (e : O[i]? = some (DicO b L V ar)) (v : Nat) (t : Tm) (ht : L[v]? = some t) (hn : t.p.x.l.length ≤ 1000000) (hn2 : t.turns.length ≤ 1000000) :
    Calls Tryz.prog 15 #[.pointer (some ⟨b, 0, none⟩), .int .i64 v] w fun e w' => ∃ B c C d J, e = .returned (.tuple #[picV t.p B c, .slice C t.turns.length d, .bool true]) ∧ SH F0 I0 w0 (Row kP (.slice B t.p.x.l.length c) t.p.x.l :: Row kI (.slice C t.turns.length d) t.turns :: O) w' J := by
  obtain ⟨F, hI, S, back⟩ := S0.call1k i e
  refine Calls.mono (R := fun e w' => ∃ B c C d, e = .returned (.tuple #[picV t.p B c, .slice C t.turns.length d, .bool true]) ∧ Upd w F I w' (Many [DicO b L V ar, Row kP (.slice B t.p.x.l.length c) t.p.x.l, Row kI (.slice C t.turns.length d) t.turns])) ?_ fun e w' ⟨B, c, C, d, h1, h2⟩ => by obtain ⟨J, h3⟩ := back _ _ h2; exact ⟨B, c, C, d, J, h1, h3⟩
  clear back S0 e
  obtain ⟨A, c, B, d, h1, h2, S⟩ := S.dOpen 0 rfl
  simp only [List.set_cons_zero, List.set_cons_succ, List.nil_append] at S
  have HP := As.mk ht
  have hv : v < L.length := (List.getElem?_eq_some_iff.1 ht).1
  clear ht
  obtain ⟨b2, o2, -, -, -, -, -, -, rfl, -⟩ := (S.im 0 rfl).tm_at HP.out
  have hv' : decide ((v : Int) < 0) = false := decide_eq_false (by omega)
  have hv2 : decide ((v : Int) ≥ L.length) = false := decide_eq_false (by omega)
  obtain ⟨⟨pc, pm, ⟨pw, ph, pl⟩⟩, ts, ws⟩ := t
  dsimp only [picV] at *
  have hc := S.cells; simp only [Cells, cellsC, Im, Row, El, Nat.zero_add, Nat.reduceAdd] at hc
  go_enter Tryz.func15, Tryz.ntmps15
  go_upto_region 3 with (first | ((first | (with_reducible refine wpl_seal S ?_) | (with_reducible refine cw_seal S ?_) | (with_reducible refine bp_seal S ?_) | (with_reducible refine ca_seal S ?_)); clear S; (try clear hc); intro w1 S; (try simp only [List.set_cons_zero, List.set_cons_succ, List.nil_append] at S); have hc := S.cells; simp only [Cells, cellsC, Im, Row, El, Nat.zero_add, Nat.reduceAdd] at hc))
  obtain ⟨b3, o3, A2, c2, B2, d2, C2, e2, e3, ⟨g0, g1, g2, g3, g4, g5, g6⟩, ⟨hc2, hx2⟩, ⟨hd2, ht2⟩, -⟩ := (S.im 1 rfl).tm_at HP.out
  rw [Option.some.injEq, Addr.mk.injEq] at e3
  obtain ⟨rfl, rfl, -⟩ := e3
  replace S := (S.know (h := Im kP A2 pl) hx2).know (h := Im kI B2 ts) ht2
  clear hx2 ht2
  dsimp only at g0 g1 g2 g3 g4 g5
  have p0 := ClE.cell (w := w1.drew) g0
  have p1 := ClE.cell (w := w1.drew) g1
  have p2 := ClE.cell (w := w1.drew) g2
  have p3 := ClE.cell (w := w1.drew) g3
  have p4 := ClE.cell (w := w1.drew) g4
  have p5 := ClE.cell (w := w1.drew) g5
  have hc := S.cells; simp only [Cells, cellsC, Im, Row, El, Nat.zero_add, Nat.reduceAdd] at hc
  have hq := S.cellsE; simp only [CellsE, cellsE, Im, Row, El, Nat.zero_add, Nat.reduceAdd] at hq
  refine wp_region_ext [⟨[0, 1, 2, 3, 4, 5, 6, 7, 9, 10, 11, 12, 13, 14, 15, 16], [], 8, true⟩, ⟨[], [], 17, false⟩, ⟨[], [], 18, false⟩] [19, 20] (by kernel_rfl) (by kernel_rfl) ?_
  refine mix_cons rfl rfl rfl ?_
  simp only [opsAt, List.getD_cons_succ, List.getD_cons_zero]
  repeat (go_big_quiet_step ((intro hC; first | rfl | (go_simp; first | done | rfl))))
  refine wpQuiet_nil ?_
  repeat (go_big_quiet_step ((intro hC; first | rfl | (go_simp; first | done | rfl))))
  refine wpQuiet_nil ?_
  clear hc hq p0 p1 p2 p3 p4 p5 g0 g1 g2 g3 g4 g5 g6
  replace S := S.drew
  generalize w1.drew = w5 at S ⊢
  have hc := S.cells; simp only [Cells, cellsC, Im, Row, El, Nat.zero_add, Nat.reduceAdd] at hc
  go_wp2_with (first | ((first | (with_reducible refine mx_seal S ?_) | (with_reducible refine wpl_seal S ?_) | (with_reducible refine ca_seal S ?_)); clear S; (try clear hc); intro w1 S; (try simp only [List.set_cons_zero, List.set_cons_succ, List.nil_append] at S); have hc := S.cells; simp only [Cells, cellsC, Im, Row, El, Nat.zero_add, Nat.reduceAdd] at hc) | (go_at_call 21; refine (clone_r ⟨pc, pm, ⟨pw, ph, pl⟩⟩ A2 c2 _ _ S.bd (S.im 1 rfl) hn).mono ?_; rintro e w1 ⟨B5, c5, rfl, hu⟩; have hxf := hu.ext; obtain ⟨I1, S1, hI1⟩ := S.new hu; clear S hu hI1; (try clear hc); have S := S1; clear S1; have hc := S.cells; simp only [Cells, cellsC, Im, Row, El, Nat.zero_add, Nat.reduceAdd] at hc; have hc := S.cells; simp only [Cells, cellsC, Im, Row, El, Nat.zero_add, Nat.reduceAdd] at hc))
  refine ⟨fun _ => hxf, ?_⟩
  (first | refine ⟨(fun h => by cases h), ?_⟩ | skip); (first | ((first | (with_reducible refine mx_seal S ?_)); clear S; (try clear hc); intro w1 S; (try simp only [List.set_cons_zero, List.set_cons_succ, List.nil_append] at S); have hc := S.cells; simp only [Cells, cellsC, Im, Row, El, Nat.zero_add, Nat.reduceAdd] at hc) | skip); (try simp only [Act.put, List.setIfInBounds_toArray, List.set_cons_succ, List.set_cons_zero])
  refine mix_cons rfl rfl rfl ?_
  simp only [opsAt, List.getD_cons_succ, List.getD_cons_zero]
  repeat (go_big_quiet_step ((intro hC; first | rfl | (go_simp; first | done | rfl))))
  refine wpQuiet_nil ?_
  repeat (go_big_quiet_step ((intro hC; first | rfl | (go_simp; first | done | rfl))))
  refine wpQuiet_nil ?_
  go_wp2_with (first | ((first | (with_reducible refine mx_seal S ?_) | (with_reducible refine wpl_seal S ?_) | (with_reducible refine ca_seal S ?_)); clear S; (try clear hc); intro w1 S; (try simp only [List.set_cons_zero, List.set_cons_succ, List.nil_append] at S); have hc := S.cells; simp only [Cells, cellsC, Im, Row, El, Nat.zero_add, Nat.reduceAdd] at hc) | (go_at_call 47; refine (cloneN_c ts B2 d2 _ _ S.bd (S.im 1 rfl) hn2).mono ?_; rintro e w1 ⟨v, rfl, hu⟩; obtain ⟨I1, S1, hI1⟩ := S.new hu; clear S hu hI1; (try clear hc); have S := S1; clear S1; have hc := S.cells; simp only [Cells, cellsC, Im, Row, El, Nat.zero_add, Nat.reduceAdd] at hc; obtain ⟨B6, c6, rfl, -, -⟩ := S.row 0 rfl; have hc := S.cells; simp only [Cells, cellsC, Im, Row, El, Nat.zero_add, Nat.reduceAdd] at hc))
  (first | refine ⟨(fun h => by cases h), ?_⟩ | skip); (first | ((first | (with_reducible refine mx_seal S ?_)); clear S; (try clear hc); intro w1 S; (try simp only [List.set_cons_zero, List.set_cons_succ, List.nil_append] at S); have hc := S.cells; simp only [Cells, cellsC, Im, Row, El, Nat.zero_add, Nat.reduceAdd] at hc) | skip); (try simp only [Act.put, List.setIfInBounds_toArray, List.set_cons_succ, List.set_cons_zero])
  refine mix_cons rfl rfl rfl ?_
  simp only [opsAt, List.getD_cons_succ, List.getD_cons_zero]
  repeat (go_big_quiet_step ((intro hC; first | rfl | (go_simp; first | done | rfl))))
  refine wpQuiet_nil ?_
  repeat (go_big_quiet_step ((intro hC; first | rfl | (go_simp; first | done | rfl))))
  refine wpQuiet_nil ?_
  go_wp2_with (first | ((first | (with_reducible refine mx_seal S ?_) | (with_reducible refine wpl_seal S ?_) | (with_reducible refine ca_seal S ?_)); clear S; (try clear hc); intro w1 S; (try simp only [List.set_cons_zero, List.set_cons_succ, List.nil_append] at S); have hc := S.cells; simp only [Cells, cellsC, Im, Row, El, Nat.zero_add, Nat.reduceAdd] at hc))
  (first | refine ⟨(fun h => by cases h), ?_⟩ | skip); (first | ((first | (with_reducible refine mx_seal S ?_)); clear S; (try clear hc); intro w1 S; (try simp only [List.set_cons_zero, List.set_cons_succ, List.nil_append] at S); have hc := S.cells; simp only [Cells, cellsC, Im, Row, El, Nat.zero_add, Nat.reduceAdd] at hc) | skip); (try simp only [Act.put, List.setIfInBounds_toArray, List.set_cons_succ, List.set_cons_zero])
  refine mix_last rfl ?_
  simp only [opsAt, List.getD_cons_succ, List.getD_cons_zero]
  repeat (go_big_quiet_step ((intro hC; first | rfl | (go_simp; first | done | rfl))))
  refine wpQuiet_nil ?_
  simp only [calmQ]
  go_wp2_with (first | ((first | (with_reducible refine wpl_seal S ?_) | (with_reducible refine cw_seal S ?_) | (with_reducible refine bp_seal S ?_) | (with_reducible refine ca_seal S ?_)); clear S; (try clear hc); intro w1 S; (try simp only [List.set_cons_zero, List.set_cons_succ, List.nil_append] at S); have hc := S.cells; simp only [Cells, cellsC, Im, Row, El, Nat.zero_add, Nat.reduceAdd] at hc))
  refine bodyPost_ret (results_cell_tmp2R rfl _ _ _ 36 _ (0, 0) _ rfl (S.cel 4 rfl) Tryz.underlying36 rfl (by kernel_rfl)) rfl ?_
  exact ⟨B5, c5, B6, c6, rfl, ((S.dClose 7 rfl h1 h2 (S.im 5 rfl) (S.im 6 rfl)).many [7, 1, 0] (by decide) rfl (by simp)).retF 0 rfl⟩
theorem templateNo_s (b : Nat) (L : List Tm) (V : List Pic) (ar : Int) (S0 : SH F0 I0 w0 O w I) (i : Nat) (e : O[i]? = some (DicO b L V ar)) :
    Calls Tryz.prog 15 #[.pointer (some ⟨b, 0, none⟩), .int .i64 L.length] w fun e w' => ∃ J, e = .returned (.tuple #[pic0, .slice none 0 0, .bool false]) ∧ SH F0 I0 w0 O w' J := by
  obtain ⟨F, hI, S, back⟩ := S0.call1k i e
  refine Calls.mono (R := fun e w' => e = .returned (.tuple #[pic0, .slice none 0 0, .bool false]) ∧ Upd w F I w' (Many [DicO b L V ar])) ?_ fun e w' ⟨h1, h2⟩ => by obtain ⟨J, h3⟩ := back _ _ h2; exact ⟨J, h1, h3⟩
  clear back S0 e
  obtain ⟨A, c, B, d, h1, h2, S⟩ := S.dOpen 0 rfl
  simp only [List.set_cons_zero, List.set_cons_succ, List.nil_append] at S
  have hv' : decide ((L.length : Int) < 0) = false := decide_eq_false (by omega)
  have hv2 : decide ((L.length : Int) ≥ L.length) = true := decide_eq_true (by omega)
  have hc := S.cells; simp only [Cells, cellsC, Im, Row, El, Nat.zero_add, Nat.reduceAdd] at hc
  go_enter Tryz.func15, Tryz.ntmps15
  go_wp2_with (first | ((first | (with_reducible refine wpl_seal S ?_) | (with_reducible refine cw_seal S ?_) | (with_reducible refine bp_seal S ?_) | (with_reducible refine ca_seal S ?_)); clear S; (try clear hc); intro w1 S; (try simp only [List.set_cons_zero, List.set_cons_succ, List.nil_append] at S); have hc := S.cells; simp only [Cells, cellsC, Im, Row, El, Nat.zero_add, Nat.reduceAdd] at hc))
  refine bodyPost_ret (results_cell_tmp2R rfl _ _ _ 36 _ (0, 0) _ rfl (S.cel 0 rfl) Tryz.underlying36 rfl (by kernel_rfl)) rfl ?_
  exact ⟨rfl, ((S.dClose 3 rfl h1 h2 (S.im 1 rfl) (S.im 2 rfl)).many [3] (by decide) rfl (by simp)).retF 0 rfl⟩
end
end Go.Proofs.YtnmlonicfncpfaaGreat
