/- More on objects apart. -/
import Derived.Test.YtnmlonicfncpfaaSep
import Derived.Test.YtnmlonicfncpfaaMix
namespace Go.Proofs.Ytnmlonicfncpfaa.X
open Go.RowKit
section
variable {F0 I0 : Fp} {w0 w w' : World} {L M : List Ob} {I I' : Fp} {h h' : Ob}
/-- what a call made, beside what there was -/
theorem SH.comp (s : SH F0 I0 w0 L w I) (t : SH No I w M w' I') : ∃ J, SH F0 I0 w0 (M ++ L) w' J ∧ (∀ b, I b → J b) ∧ (∀ b, I' b → J b) := by
  have hx := t.out
  obtain ⟨c, bd, ini, Fs, h1, h2, h3⟩ := s.ext hx
  have bd0 := s.bd
  obtain ⟨c', bd', ini', Gs, g1, g2, g3⟩ := t
  obtain ⟨c0, _, _, Fs0, k1, k2, k3⟩ := s
  refine ⟨fun b => I b ∨ I' b, ⟨c, ?_, ?_, fun i => if i < M.length then Gs i else Fs0 (i - M.length), ?_, ?_, ?_⟩, fun b h => .inl h, fun b h => .inr h⟩
  · rintro b (hb | hb)
    · exact bd b hb
    · exact bd' b hb
  · rintro b (hb | hb)
    · exact ini b hb
    · rcases ini' b hb with h4 | h4 | h4
      · exact ini b h4
      · exact h4.elim
      · exact .inr (.inr (Nat.le_trans c0.size h4))
  · intro i o e
    by_cases hi : i < M.length
    · simp only [if_pos hi]
      rw [List.getElem?_append_left hi] at e
      refine o.weak (g1 i o e) (fun _ _ hb => hb) (fun _ _ hb => .inr hb) fun b hb hI => ?_
      rcases hI with hI | hI
      · rcases (g2 i b hb).2.1 with h4 | h4
        · exact h4
        · exact absurd (bd0 b hI) (by omega)
      · exact (g2 i b hb).2.2 hI
    · simp only [if_neg hi]
      rw [List.getElem?_append_right (by omega)] at e
      refine o.weak (o.keep (k1 _ o e) fun b hb _ => hx.block b hb) (fun _ _ hb => hb) (fun _ _ hb => .inl hb) fun b hb hI => ?_
      rcases hI with hI | hI
      · exact (k2 _ b hb).2.2 hI
      · rcases ini' b hI with h4 | h4 | h4
        · exact (k2 _ b hb).2.2 h4
        · exact h4
        · exact absurd (k2 _ b hb).1 (by omega)
  · intro i b
    by_cases hi : i < M.length
    · simp only [if_pos hi]
      intro hb
      refine ⟨(g2 i b hb).1, .inr (Nat.le_trans c0.size ((g2 i b hb).2.1.resolve_left id)), ?_⟩
      rintro (hI | hI)
      · exact absurd (bd0 b hI) (by have := (g2 i b hb).2.1.resolve_left id; omega)
      · exact (g2 i b hb).2.2 hI
    · simp only [if_neg hi]
      intro hb
      refine ⟨Nat.lt_of_lt_of_le (k2 _ b hb).1 hx.size, (k2 _ b hb).2.1, ?_⟩
      rintro (hI | hI)
      · exact (k2 _ b hb).2.2 hI
      · rcases ini' b hI with h4 | h4 | h4
        · exact (k2 _ b hb).2.2 h4
        · exact h4
        · exact absurd (k2 _ b hb).1 (by omega)
  · intro i j b hij
    have new : ∀ i, Gs i b → w.heap.size ≤ b := fun i hb => (g2 i b hb).2.1.resolve_left id
    by_cases hi : i < M.length
    · simp only [if_pos hi]
      by_cases hj : j < M.length
      · simp only [if_pos hj]; exact g3 i j b hij
      · simp only [if_neg hj]
        intro hb hb'
        have := new i hb
        have := (k2 _ b hb').1
        omega
    · simp only [if_neg hi]
      by_cases hj : j < M.length
      · simp only [if_pos hj]
        intro hb' hb
        have := new j hb
        have := (k2 _ b hb').1
        omega
      · simp only [if_neg hj]; exact k3 _ _ b (by omega)
theorem Upd.ext {F : Fp} (u : Upd w No F w' h) : Ext w w' := by
  obtain ⟨F', I', _, _, _, _, h5⟩ := u
  exact h5.ext fun _ _ e => e
theorem Flat.cons {α : Type} {k : Kd α} {D : Fp} {x : α} {xs : List α} {cs cells : List Value} (h : k.rel w D x cs) (g : Flat k w D xs cells) : Flat k w D (x :: xs) (cs ++ cells) := (Flat.single h).append g
/-- a value that leads to nothing -/
theorem SH.any {F0 I0 : Fp} (s : SH F0 I0 w0 L w I) (h0 : h.sat w No I) : SH F0 I0 w0 (h :: L) w I := s.know h0
end
/-- the cells of a row's element, wherever the same is read -/
theorem ClE.sl {α : Type} {k : Kd α} {w : World} {D : Nat → Prop} {A : Option Addr} {xs : List α} (h : Sl k w D A xs) : ∀ x, ClE w.drew x → Sl k x D A xs := fun _ hx => h.below (w' := _) ⟨hx.os, hx.tape, hx.output, hx.size, hx.block⟩
end Go.Proofs.Ytnmlonicfncpfaa.X
