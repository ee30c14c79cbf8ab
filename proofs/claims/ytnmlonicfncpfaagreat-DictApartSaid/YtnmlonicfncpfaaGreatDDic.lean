/- A dictionary: its templates and variants; an image of its own memory. -/
import Derived.Test.YtnmlonicfncpfaaGreatDSrt
import Derived.Test.YtnmlonicfncpfaaGreatDOrb
namespace Go.Proofs.YtnmlonicfncpfaaGreat
open Go.RowKit X
set_option maxHeartbeats 4000000
set_option maxRecDepth 8000
set_option linter.unusedSimpArgs false
set_option linter.unusedVariables false
/-- a dictionary at b: its templates, its variants, their pixels -/
def DicO (b : Nat) (L : List Tm) (V : List Pic) (ar : Int) : Ob := .of {
  sat := fun w F I => ∃ A c B d, (w.heap[b]? = some (.cells [Value.slice A L.length c, .slice B V.length d, .int .i64 ar].toArray 67 (0, 0)) ∧ F b) ∧ (L.length ≤ c ∧ Sl kT w I A L) ∧ V.length ≤ d ∧ Sl kG w I B V
  keep := fun ⟨A, c, B, d, ⟨h, f⟩, ⟨h1, h2⟩, h3, h4⟩ hk => ⟨A, c, B, d, ⟨(hk b (lt_of_heap h) (.inl f)).trans h, f⟩, ⟨h1, h2.keep fun b hb hd => hk b hb (.inr hd)⟩, h3, h4.keep fun b hb hd => hk b hb (.inr hd)⟩
  weak := fun ⟨A, c, B, d, ⟨h, f⟩, ⟨h1, h2⟩, h3, h4⟩ hf hi _ => ⟨A, c, B, d, ⟨h, hf b (lt_of_heap h) f⟩, ⟨h1, h2.weak hi⟩, h3, h4.weak hi⟩ }
section
variable {F0 I0 I : Fp} {w0 w : World} {O : List Ob} {b : Nat} {L : List Tm} {V : List Pic} {ar : Int}
theorem X.SH.dOpen (s : SH F0 I0 w0 O w I) (i : Nat) (e : O[i]? = some (DicO b L V ar)) : ∃ A c B d, L.length ≤ c ∧ V.length ≤ d ∧ SH F0 I0 w0 (Im kT A L :: Im kG B V :: O.set i (Cel b 67 [.slice A L.length c, .slice B V.length d, .int .i64 ar])) w I := by
  obtain ⟨F, ⟨A, c, B, d, ⟨h, f⟩, ⟨h1, h2⟩, h3, h4⟩, hb⟩ := s.get i e
  have s1 : SH F0 I0 w0 (O.set i (Cel b 67 [.slice A L.length c, .slice B V.length d, .int .i64 ar])) w I := s.updI i e fun F' ⟨A', c', B', d', ⟨h', f'⟩, _⟩ hb' => ⟨F', ⟨h, f'⟩, fun k hk => ⟨(hb' k hk).1, .inl hk⟩, Chg.refl _ _⟩
  exact ⟨A, c, B, d, h1, h3, (s1.know (h := Im kG B V) h4).know (h := Im kT A L) h2⟩
theorem X.SH.dClose (s : SH F0 I0 w0 O w I) (i : Nat) {A B : Option Addr} {c d : Nat} (e : O[i]? = some (Cel b 67 [.slice A L.length c, .slice B V.length d, .int .i64 ar])) (h1 : L.length ≤ c) (h2 : V.length ≤ d) (hA : Sl kT w I A L) (hB : Sl kG w I B V) : SH F0 I0 w0 (O.set i (DicO b L V ar)) w I :=
  s.updI i e (h' := DicO b L V ar) fun F ⟨hh, hF⟩ hb => ⟨F, ⟨A, c, B, d, ⟨hh, hF⟩, ⟨h1, hA⟩, h2, hB⟩, fun k hk => ⟨(hb k hk).1, .inl hk⟩, Chg.refl _ _⟩
end
theorem newD_c (w : World) (I : Fp) (hI : ∀ b, I b → b < w.heap.size) : Calls Tryz.prog 7 #[] w fun e w' => ∃ g, e = .returned (.pointer (some ⟨g, 0, none⟩)) ∧ Upd w No I w' (DicO g [] [] 0) := by
  have S := SH.start w I hI
  have hc := S.cells; simp only [Cells, cellsC, Im, Row, El, Nat.zero_add, Nat.reduceAdd] at hc
  go_enter Tryz.func7, Tryz.ntmps7
  go_wp2_with (first | ((first | (with_reducible refine wpl_seal S ?_) | (with_reducible refine cw_seal S ?_) | (with_reducible refine bp_seal S ?_) | (with_reducible refine ca_seal S ?_)); clear S; (try clear hc); intro w1 S; (try simp only [List.set_cons_zero, List.set_cons_succ, List.nil_append] at S); have hc := S.cells; simp only [Cells, cellsC, Im, Row, El, Nat.zero_add, Nat.reduceAdd] at hc))
  obtain ⟨g, eg⟩ := S.name 0 rfl; rw [← eg] at S ⊢; clear eg
  go_ret
  have S1 := S.dClose 0 (L := []) (V := []) (A := none) (B := none) (c := 0) (d := 0) rfl (by simp) (by simp) Sl.nil Sl.nil
  exact ⟨g, rfl, S1.ret 0 rfl⟩
theorem variants_c (b : Nat) (L : List Tm) (V : List Pic) (ar : Int) {F0 I0 I : Fp} {w0 w : World} {O : List Ob} (S0 : SH F0 I0 w0 O w I) (i : Nat) (e : O[i]? = some (DicO b L V ar)) :
    Calls Tryz.prog 16 #[.pointer (some ⟨b, 0, none⟩)] w fun e w' => e = .returned (.int .i64 V.length) ∧ w' = w := by
  obtain ⟨F, hI, S, -⟩ := S0.call1 i e
  obtain ⟨A, c, B, d, h1, h2, S⟩ := S.dOpen 0 rfl
  simp only [List.set_cons_zero, List.set_cons_succ, List.nil_append] at S
  have hc := S.cells; simp only [Cells, cellsC, Im, Row, El, Nat.zero_add, Nat.reduceAdd] at hc
  go_enter Tryz.func16, Tryz.ntmps16
  go_wp2_with (first | ((first | (with_reducible refine wpl_seal S ?_) | (with_reducible refine cw_seal S ?_) | (with_reducible refine bp_seal S ?_) | (with_reducible refine ca_seal S ?_)); clear S; (try clear hc); intro w1 S; (try simp only [List.set_cons_zero, List.set_cons_succ, List.nil_append] at S); have hc := S.cells; simp only [Cells, cellsC, Im, Row, El, Nat.zero_add, Nat.reduceAdd] at hc))
  go_ret
  exact ⟨rfl, rfl⟩
theorem templates_c (b : Nat) (L : List Tm) (V : List Pic) (ar : Int) {F0 I0 I : Fp} {w0 w : World} {O : List Ob} (S0 : SH F0 I0 w0 O w I) (i : Nat) (e : O[i]? = some (DicO b L V ar)) :
    Calls Tryz.prog 35 #[.pointer (some ⟨b, 0, none⟩)] w fun e w' => e = .returned (.int .i64 L.length) ∧ w' = w := by
  obtain ⟨F, hI, S, -⟩ := S0.call1 i e
  obtain ⟨A, c, B, d, h1, h2, S⟩ := S.dOpen 0 rfl
  simp only [List.set_cons_zero, List.set_cons_succ, List.nil_append] at S
  have hc := S.cells; simp only [Cells, cellsC, Im, Row, El, Nat.zero_add, Nat.reduceAdd] at hc
  go_enter Tryz.func35, Tryz.ntmps35
  go_wp2_with (first | ((first | (with_reducible refine wpl_seal S ?_) | (with_reducible refine cw_seal S ?_) | (with_reducible refine bp_seal S ?_) | (with_reducible refine ca_seal S ?_)); clear S; (try clear hc); intro w1 S; (try simp only [List.set_cons_zero, List.set_cons_succ, List.nil_append] at S); have hc := S.cells; simp only [Cells, cellsC, Im, Row, El, Nat.zero_add, Nat.reduceAdd] at hc))
  go_ret
  exact ⟨rfl, rfl⟩
theorem area_c (b : Nat) (L : List Tm) (V : List Pic) (ar : Int) {F0 I0 I : Fp} {w0 w : World} {O : List Ob} (S0 : SH F0 I0 w0 O w I) (i : Nat) (e : O[i]? = some (DicO b L V ar)) :
    Calls Tryz.prog 36 #[.pointer (some ⟨b, 0, none⟩)] w fun e w' => e = .returned (.int .i64 ar) ∧ w' = w := by
  obtain ⟨F, hI, S, -⟩ := S0.call1 i e
  obtain ⟨A, c, B, d, h1, h2, S⟩ := S.dOpen 0 rfl
  simp only [List.set_cons_zero, List.set_cons_succ, List.nil_append] at S
  have hc := S.cells; simp only [Cells, cellsC, Im, Row, El, Nat.zero_add, Nat.reduceAdd] at hc
  go_enter Tryz.func36, Tryz.ntmps36
  go_wp2_with (first | ((first | (with_reducible refine wpl_seal S ?_) | (with_reducible refine cw_seal S ?_) | (with_reducible refine bp_seal S ?_) | (with_reducible refine ca_seal S ?_)); clear S; (try clear hc); intro w1 S; (try simp only [List.set_cons_zero, List.set_cons_succ, List.nil_append] at S); have hc := S.cells; simp only [Cells, cellsC, Im, Row, El, Nat.zero_add, Nat.reduceAdd] at hc))
  go_ret
  exact ⟨rfl, rfl⟩
theorem clone_c (p : Pic) (A : Option Addr) (n : Nat) (w : World) (I : Fp) (hI : ∀ b, I b → b < w.heap.size) (hl : Sl kP w I A p.x.l) (hn : p.x.l.length ≤ 1000000) :
    Calls Tryz.prog 21 #[picV p A n] w fun e w' => ∃ B c, e = .returned (picV p B c) ∧ p.x.l.length ≤ c ∧ Upd w No I w' (Im kP B p.x.l) := by
  have S := (SH.start w I hI).know (h := Im kP A p.x.l) hl
  clear hl
  obtain ⟨c, m, a, b, l⟩ := p
  dsimp only [picV] at *
  have hc := S.cells; simp only [Cells, cellsC, Im, Row, El, Nat.zero_add, Nat.reduceAdd] at hc
  go_enter Tryz.func21, Tryz.ntmps21
  go_wp2_with (first | ((first | (with_reducible refine wpl_seal S ?_) | (with_reducible refine cw_seal S ?_) | (with_reducible refine bp_seal S ?_) | (with_reducible refine ca_seal S ?_)); clear S; (try clear hc); intro w1 S; (try simp only [List.set_cons_zero, List.set_cons_succ, List.nil_append] at S); have hc := S.cells; simp only [Cells, cellsC, Im, Row, El, Nat.zero_add, Nat.reduceAdd] at hc) | (go_at_call 51; refine (cloneP_c l A n _ _ S.bd (S.im 2 rfl) hn).mono ?_; rintro e w1 ⟨v, rfl, hu⟩; obtain ⟨I1, S1, hI1⟩ := S.new hu; clear S hu hI1; (try clear hc); have S := S1; clear S1; have hc := S.cells; simp only [Cells, cellsC, Im, Row, El, Nat.zero_add, Nat.reduceAdd] at hc; obtain ⟨B1, c1, I1, e1, hc1, S1, hI1⟩ := S.frow 0 rfl; subst e1; clear S hI1; have S := S1; clear S1; simp only [List.set_cons_zero, List.set_cons_succ, List.nil_append] at S; have hc := S.cells; simp only [Cells, cellsC, Im, Row, El, Nat.zero_add, Nat.reduceAdd] at hc))
  refine bodyPost_ret (results_cell_row rfl _ _ _ 36 _ (0, 0) _ rfl (S.cel 1 rfl) Tryz.underlying36 rfl (by kernel_rfl)) rfl ?_
  exact ⟨B1, c1, rfl, hc1, S.ret 0 rfl⟩
theorem contI_c (xs : List Int) (y : Int) (A : Option Addr) (c : Nat) (w : World) (D : Fp) (hx : Sl kI w D A xs) (hn : xs.length ≤ 1000000) {r : Bool} (hr : decide (y ∈ xs) = r) :
    Calls Tryz.prog 25 #[.slice A xs.length c, .int .i64 y] w fun e w' => e = .returned (.bool r) ∧ w' = w := by
  subst hr
  by_cases h0 : xs.length = 0
  · have e0 : xs = [] := List.eq_nil_of_length_eq_zero h0
    subst e0
    exact Tryz.slices_Contains_int_empty A c y w
  · obtain ⟨b, o, rfl, -⟩ := hx.num_at (List.getElem?_eq_getElem (show 0 < xs.length by omega))
    refine (Tryz.slices_Contains_int b o xs.length c xs y w (Nat.le_refl _) (by omega) fun j hj => ?_).mono ?_
    · obtain ⟨b', o', e', h⟩ := hx.num_at (List.getElem?_eq_getElem hj)
      cases e'
      rw [h, List.getD, List.getElem?_eq_getElem hj]
      rfl
    · rintro e w' ⟨rfl, rfl⟩
      rw [List.take_length]
      exact ⟨ret_bool (by rw [Bool.eq_iff_iff]; simp), rfl⟩
end Go.Proofs.YtnmlonicfncpfaaGreat
