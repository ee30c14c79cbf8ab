/- Several objects as one. -/
import Derived.Test.YtnmlonicfncpfaaSep2
namespace Go.Proofs.Ytnmlonicfncpfaa.X
open Go.RowKit
set_option linter.unusedVariables false
section
variable {F0 I0 F : Fp} {w0 w w' : World} {L l : List Ob} {I J : Fp} {h h' : Ob}
/-- several objects, apart from one another, as one -/
def Many (l : List Ob) : Ob := .of {
  sat := fun w F I => ∃ Fs : Nat → Fp, (∀ (i : Nat) (h : Ob), l[i]? = some h → h.sat w (Fs i) I) ∧ (∀ i b, Fs i b → F b) ∧ (∀ i j b, i ≠ j → Fs i b → Fs j b → False)
  keep := fun ⟨Fs, a, c, d⟩ hk => ⟨Fs, fun i h e => h.keep (a i h e) fun b hb hd => hk b hb (hd.imp (c i b) id), c, d⟩
  weak := fun {w F F' I I'} ⟨Fs, a, c, d⟩ hf hi hn => ⟨fun i x => Fs i x ∧ x < w.heap.size, fun i h e => h.weak (a i h e) (fun x hx h => ⟨h, hx⟩) hi (fun x h => hn x (hf x h.2 (c i x h.1))), fun i x h => hf x h.2 (c i x h.1), fun i j x hij h h' => d i j x hij h.1 h'.1⟩ }
theorem SH.openM (s : SH F0 I0 w0 (Many l :: L) w I) : SH F0 I0 w0 (l ++ L) w I := by
  obtain ⟨c, bd, ini, Fs, h1, h2, h3⟩ := s
  obtain ⟨Gs, g1, g2, g3⟩ := h1 0 _ rfl
  refine ⟨c, bd, ini, fun i => if i < l.length then Gs i else Fs (i - l.length + 1), fun i o e => ?_, fun i b hb => ?_, fun i j b hij hb hb' => ?_⟩
  · by_cases hi : i < l.length
    · simp only [if_pos hi]
      rw [List.getElem?_append_left hi] at e
      exact g1 i o e
    · simp only [if_neg hi]
      rw [List.getElem?_append_right (by omega)] at e
      exact h1 _ o (by simpa using e)
  · by_cases hi : i < l.length
    · simp only [if_pos hi] at hb; exact h2 0 b (g2 i b hb)
    · simp only [if_neg hi] at hb; exact h2 _ b hb
  · by_cases hi : i < l.length
    · simp only [if_pos hi] at hb
      by_cases hj : j < l.length
      · simp only [if_pos hj] at hb'; exact g3 i j b hij hb hb'
      · simp only [if_neg hj] at hb'; exact h3 0 _ b (by omega) (g2 i b hb) hb'
    · simp only [if_neg hi] at hb
      by_cases hj : j < l.length
      · simp only [if_pos hj] at hb'; exact h3 _ 0 b (by omega) hb (g2 j b hb')
      · simp only [if_neg hj] at hb'; exact h3 _ _ b (by omega) hb hb'
theorem SH.many (s : SH F0 I0 w0 L w I) (ix : List Nat) (hn : ix.Nodup) (e : l = ix.filterMap (fun i => L[i]?)) (hl : ∀ i ∈ ix, i < L.length) : SH F0 I0 w0 [Many l] w I := by
  have s' := s.sel ix hn e hl
  obtain ⟨c, bd, ini, Fs, h1, h2, h3⟩ := s'
  refine ⟨c, bd, ini, fun i b => i = 0 ∧ ∃ j, Fs j b, fun i o e => ?_, fun i b hb => ?_, fun i j b hij hb hb' => hij (hb.1.trans hb'.1.symm)⟩
  · rcases i with _ | i
    · simp at e
      subst e
      refine ⟨Fs, h1, fun j b hb => ⟨rfl, j, hb⟩, h3⟩
    · simp at e
  · obtain ⟨_, j, hj⟩ := hb
    exact h2 j b hj
/-- what a call has made of the object that it was handed -/
theorem SH.retU (s : SH F I w L w' J) (i : Nat) (e : L[i]? = some h) : Upd w F I w' h := s.retF i e
/-- a call that is handed one object -/
theorem SH.call1 (s : SH F0 I0 w0 L w I) (i : Nat) (e : L[i]? = some h) :
    ∃ F, (∀ b, I b → b < w.heap.size) ∧ SH F I w [h] w I ∧ ∀ (h' : Ob) (w' : World), Upd w F I w' h' → ∃ I', SH F0 I0 w0 (L.set i h') w' I' ∧ (∀ b, I b → I' b) := by
  obtain ⟨F, hF, hb, back⟩ := s.upd i e
  exact ⟨F, s.bd, SH.start1 hF (fun b h => (hb b h).1) s.bd (fun b h h' => (hb b h).2.2 h'), fun h' w' u => back w' h' u⟩
/-- a pointer that is nil, or leads to an object -/
def OrNil (p : Value) (h : Nat → Hp) : Ob := .of {
  sat := fun w F I => p = .pointer none ∨ ∃ g, p = .pointer (some ⟨g, 0, none⟩) ∧ (h g).sat w F I
  keep := fun a hk => a.imp id fun ⟨g, e, s⟩ => ⟨g, e, (h g).keep s hk⟩
  weak := fun a hf hi hn => a.imp id fun ⟨g, e, s⟩ => ⟨g, e, (h g).weak s hf hi hn⟩ }
end
end Go.Proofs.Ytnmlonicfncpfaa.X
