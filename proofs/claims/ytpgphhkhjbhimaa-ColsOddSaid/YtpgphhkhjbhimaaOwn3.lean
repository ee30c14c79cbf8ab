/- Rows of four cells written. -/
import Derived.Test.YtpgphhkhjbhimaaOwnT
import Derived.Test.YtpgphhkhjbhimaaOwn2
namespace Go.Proofs.Ytpgphhkhjbhimaa.X
open Go.RowKit
set_option linter.unusedVariables false
/-! ### rows of four cells -/
structure S4 where
  c0 : Value
  c1 : Value
  c2 : Value
  c3 : Value
def enc4 (x : S4) : List Value := [x.c0, x.c1, x.c2, x.c3]
theorem enc4_len (x : S4) : (enc4 x).length = 4 := rfl
def One4 (x : S4) : Prop := x.c0.oneCell' = true ∧ x.c1.oneCell' = true ∧ x.c2.oneCell' = true ∧ x.c3.oneCell' = true
def k4 (t : TypeId) : Kd S4 where
  ety := t
  size := 4
  rel := fun _ _ x cs => cs = enc4 x ∧ One4 x
  keep := fun h _ => h
  weak := fun h _ => h
  len := fun h => by obtain ⟨rfl, _⟩ := h; rfl
  one := fun h => by obtain ⟨rfl, h1, h2, h3, h4⟩ := h; simp [enc4]; exact ⟨h1, h2, h3, h4⟩
end Go.Proofs.Ytpgphhkhjbhimaa.X
namespace Go.Proofs.Ytpgphhkhjbhimaa
open Go.RowKit X
theorem flat4 {t : TypeId} {w : World} {D : Nat → Prop} {xs : List S4} {cells : List Value} : Flat (k4 t) w D xs cells ↔ cells = xs.flatMap enc4 ∧ ∀ x ∈ xs, One4 x := by
  constructor
  · rintro ⟨h1, h2⟩
    induction xs generalizing cells with
    | nil => exact ⟨List.eq_nil_of_length_eq_zero (by simpa using h1), by simp⟩
    | cons x xs ih =>
      have h0 := h2 0 (by simp)
      have e0 : cells.take 4 = enc4 x := by have := h0.1; simpa [k4] using this
      have hl : cells.length = xs.length * 4 + 4 := by rw [h1, List.length_cons]; show (xs.length + 1) * 4 = _; omega
      obtain ⟨i1, i2⟩ := ih (cells := cells.drop 4) (by rw [List.length_drop, hl]; rfl) (fun i hi => by
        have := h2 (i + 1) (by simpa using hi)
        rw [List.drop_drop]
        have e2 : 4 + i * (k4 t).size = (i + 1) * (k4 t).size := by show 4 + i * 4 = (i + 1) * 4; omega
        rw [e2]
        simpa using this)
      refine ⟨by rw [List.flatMap_cons, ← i1, ← e0, List.take_append_drop], fun y hy => ?_⟩
      rcases List.mem_cons.1 hy with rfl | hy
      · exact h0.2
      · exact i2 y hy
  · rintro ⟨rfl, h⟩
    refine ⟨len_flat enc4 4 enc4_len xs, fun i hi => ?_⟩
    refine ⟨?_, h _ (List.getElem_mem hi)⟩
    show ((xs.flatMap enc4).drop (i * 4)).take 4 = enc4 xs[i]
    rw [drop_flat enc4 4 enc4_len, List.drop_eq_getElem_cons hi, List.flatMap_cons, List.take_append_of_le_length (by rw [enc4_len]; omega), List.take_of_length_le (by rw [enc4_len]; omega)]
section
variable {F0 I0 : Fp} {w0 w w' : World} {L : List Ob} {I : Fp} {t : TypeId} {g n c : Nat} {xs : List S4}
theorem X.SH.put4 (s : SH F0 I0 w0 L w I) (m : Nat) (e : L[m]? = some (Row (k4 t) (.slice (some ⟨g, 0, none⟩) n c) xs)) (i j : Nat) (hi : i < xs.length) (hj : j < 4) (u : Value) (y : S4) (hy : enc4 y = (enc4 xs[i]).set j u) (h1 : One4 y) :
    SH F0 I0 w0 (L.set m (Row (k4 t) (.slice (some ⟨g, 0, none⟩) n c) (xs.set i y))) (w.setCell ⟨g, i * 4 + j, none⟩ u) I := by
  refine s.updI m e fun F ⟨⟨cells, ⟨ho, hnd⟩, hf⟩, hF⟩ hb => ?_
  have hn : xs.length = n := by
    rcases ho.2 with ⟨e, _⟩ | ⟨_, _, _, e, _⟩
    · cases e
    · cases e; rfl
  subst hn
  obtain ⟨s1, s2⟩ := ho.stored (i * 4 + j) u
  refine ⟨F, ⟨⟨cells.set (i * 4 + j) u, ⟨by rw [List.length_set]; exact s1, hnd⟩, ?_⟩, hF⟩, fun k hk => ⟨by simpa [World.setCell] using (hb k hk).1, .inl hk⟩, Chg.of_grown s2 fun g' e => hF g' e⟩
  rw [flat4] at hf ⊢
  refine ⟨by rw [hf.1, set_flat enc4 4 enc4_len j hj u xs i y hi hy], fun x hx => ?_⟩
  rcases List.mem_or_eq_of_mem_set hx with hx | rfl
  · exact hf.2 x hx
  · exact h1
theorem X.SH.get4 (s : SH F0 I0 w0 L w I) (m : Nat) (e : L[m]? = some (Row (k4 t) (.slice (some ⟨g, 0, none⟩) n c) xs)) {i : Nat} (hi : i < xs.length) :
    w.cell? ⟨g, i * 4, none⟩ = some xs[i].c0 ∧ w.cell? ⟨g, i * 4 + 1, none⟩ = some xs[i].c1 ∧ w.cell? ⟨g, i * 4 + 2, none⟩ = some xs[i].c2 ∧ w.cell? ⟨g, i * 4 + 3, none⟩ = some xs[i].c3 ∧ ∀ j, w.frozen? ⟨g, j, none⟩ = false := by
  have ho := s.own m e
  obtain ⟨A, c', e, _, hs⟩ := ho.sl
  obtain ⟨b, o, cs, hA, hb, hd, ⟨rfl, _⟩, hl, hc⟩ := hs i hi
  cases e
  cases hA
  simp only [Nat.zero_add] at hc
  exact ⟨hc 0 _ rfl, hc 1 _ rfl, hc 2 _ rfl, hc 3 _ rfl, fun j => ho.not_frozen j⟩
/-! ### seals at such rows -/
class KLt (k n : Nat) : Prop where out : k < n
class OneV (u : Value) : Prop where out : u.oneCell' = true
instance (k : IntKind) (x : Int) : OneV (.int k x) := ⟨by simp [Value.oneCell']⟩
instance (A : Option Addr) (n c : Nat) : OneV (.slice A n c) := ⟨by simp [Value.oneCell']⟩
instance (k n : Nat) (xs : List S4) (y : S4) [h : KLt k xs.length] : KLt k (xs.set n y).length := ⟨by rw [List.length_set]; exact h.out⟩
def put4 (x : S4) : Nat → Value → S4
  | 0, u => { x with c0 := u }
  | 1, u => { x with c1 := u }
  | 2, u => { x with c2 := u }
  | _, u => { x with c3 := u }
theorem one_of {t : TypeId} {w : World} {D : Fp} {xs : List S4} {v : Value} {B : Nat} (h : Own (k4 t) w B D v xs) {i : Nat} (hi : i < xs.length) : One4 xs[i] := by
  obtain ⟨cells, _, hf⟩ := h
  exact (flat4.1 hf).2 _ (List.getElem_mem hi)
class SetR4 (L : List Ob) (b k j : Nat) (u : Value) (L' : outParam (List Ob)) : Prop where
  out : ∃ m t n c xs, L[m]? = some (Row (k4 t) (.slice (some ⟨b, 0, none⟩) n c) xs) ∧ ∃ h : k < xs.length, u.oneCell' = true ∧ L' = L.set m (Row (k4 t) (.slice (some ⟨b, 0, none⟩) n c) (xs.set k (put4 xs[k] j u)))
instance (t : TypeId) (b n c k j : Nat) (u : Value) (xs : List S4) (L : List Ob) [h : KLt k xs.length] [g : OneV u] : SetR4 (Row (k4 t) (.slice (some ⟨b, 0, none⟩) n c) xs :: L) b k j u (Row (k4 t) (.slice (some ⟨b, 0, none⟩) n c) (xs.set k (put4 (xs[k]'h.out) j u)) :: L) := ⟨0, t, n, c, xs, rfl, h.out, g.out, rfl⟩
instance (priority := 500) (b k j : Nat) (u : Value) (o : Ob) (L L' : List Ob) [h : SetR4 L b k j u L'] : SetR4 (o :: L) b k j u (o :: L') := by
  obtain ⟨m, t, n, c, xs, h1, h2, h3, h4⟩ := h.out
  exact ⟨m + 1, t, n, c, xs, by simpa using h1, h2, h3, by rw [h4]; rfl⟩
theorem X.SH.set4 {L' : List Ob} {b k j : Nat} {u : Value} (s : SH F0 I0 w0 L w I) [h : SetR4 L b k j u L'] (hj : j < 4) : SH F0 I0 w0 L' (w.setCell ⟨b, k * 4 + j, none⟩ u) I := by
  obtain ⟨m, t, n, c, xs, h1, h2, h3, rfl⟩ := h.out
  have h4 := one_of (s.own m h1) h2
  obtain ⟨o0, o1, o2, o3⟩ := h4
  refine s.put4 m h1 k j h2 hj u _ ?_ ?_
  · match j, hj with
    | 0, _ => rfl
    | 1, _ => rfl
    | 2, _ => rfl
    | 3, _ => rfl
  · match j, hj with
    | 0, _ => exact ⟨h3, o1, o2, o3⟩
    | 1, _ => exact ⟨o0, h3, o2, o3⟩
    | 2, _ => exact ⟨o0, o1, h3, o3⟩
    | 3, _ => exact ⟨o0, o1, o2, h3⟩
instance (w : World) (L : List Ob) (b k : Nat) (u : Value) (W : World) (L' L2 : List Ob) [h : Built w L W L'] [g : SetR4 L' b k 0 u L2] : Built1 w L (W.setCell ⟨b, k * 4, none⟩ u) L2 := ⟨fun s => (h.out s).set4 (j := 0) (by omega)⟩
instance (w : World) (L : List Ob) (b k : Nat) (u : Value) (W : World) (L' L2 : List Ob) [h : Built w L W L'] [g : SetR4 L' b k 1 u L2] : Built1 w L (W.setCell ⟨b, k * 4 + 1, none⟩ u) L2 := ⟨fun s => (h.out s).set4 (j := 1) (by omega)⟩
instance (w : World) (L : List Ob) (b k : Nat) (u : Value) (W : World) (L' L2 : List Ob) [h : Built w L W L'] [g : SetR4 L' b k 2 u L2] : Built1 w L (W.setCell ⟨b, k * 4 + 2, none⟩ u) L2 := ⟨fun s => (h.out s).set4 (j := 2) (by omega)⟩
instance (w : World) (L : List Ob) (b k : Nat) (u : Value) (W : World) (L' L2 : List Ob) [h : Built w L W L'] [g : SetR4 L' b k 3 u L2] : Built1 w L (W.setCell ⟨b, k * 4 + 3, none⟩ u) L2 := ⟨fun s => (h.out s).set4 (j := 3) (by omega)⟩
/-- where such a row stands -/
class HasR4 (L : List Ob) (t : outParam TypeId) (g n c : outParam Nat) (xs : outParam (List S4)) : Prop where
  out : ∃ m : Nat, L[m]? = some (Row (k4 t) (.slice (some ⟨g, 0, none⟩) n c) xs)
instance (t : TypeId) (g n c : Nat) (xs : List S4) (L : List Ob) : HasR4 (Row (k4 t) (.slice (some ⟨g, 0, none⟩) n c) xs :: L) t g n c xs := ⟨0, rfl⟩
instance (priority := 500) (t : TypeId) (g n c : Nat) (xs : List S4) (o : Ob) (L : List Ob) [h : HasR4 L t g n c xs] : HasR4 (o :: L) t g n c xs := ⟨by obtain ⟨m, e⟩ := h.out; exact ⟨m + 1, by simpa using e⟩⟩
theorem X.SH.at4 (s : SH F0 I0 w0 L w I) [h : HasR4 L t g n c xs] (i : Nat) [hi : KLt i xs.length] :
    w.cell? ⟨g, i * 4, none⟩ = some (xs[i]'hi.out).c0 ∧ w.cell? ⟨g, i * 4 + 1, none⟩ = some (xs[i]'hi.out).c1 ∧ w.cell? ⟨g, i * 4 + 2, none⟩ = some (xs[i]'hi.out).c2 ∧ w.cell? ⟨g, i * 4 + 3, none⟩ = some (xs[i]'hi.out).c3 ∧ ∀ j, w.frozen? ⟨g, j, none⟩ = false := by
  obtain ⟨m, e⟩ := h.out
  exact s.get4 m e hi.out
end
end Go.Proofs.Ytpgphhkhjbhimaa
