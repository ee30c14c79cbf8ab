/- A text cut at the first sign of a kind, and its pieces: plain law. -/
import Derived.Test.YteaekpnmiicbhaaDoorPSpl
namespace Go.Proofs.YteaekpnmiicbhaaDoor
open Go.RowKit X
set_option linter.unusedSimpArgs false
set_option linter.unusedVariables false
theorem cut_eq (c : UInt8) : ∀ l : List UInt8, ((Lib.cut l [c]).2.2 = true ∧ spl c l = (Lib.cut l [c]).1 :: spl c (Lib.cut l [c]).2.1 ∧ (Lib.cut l [c]).2.1.length < l.length ∧ (Lib.cut l [c]).1.length ≤ l.length) ∨ ((Lib.cut l [c]).2.2 = false ∧ spl c l = [l] ∧ (Lib.cut l [c]).1 = l)
  | [] => .inr ⟨rfl, rfl, rfl⟩
  | b :: r => by
    have ih := cut_eq c r
    by_cases h : b = c
    · subst h
      have hix : Lib.index (b :: r) [b] = 0 := by rw [Lib.index]; simp [List.isPrefixOf]
      have e : Lib.cut (b :: r) [b] = ([], r, true) := by
        unfold Lib.cut
        rw [hix]
        simp
      rw [e]
      exact .inl ⟨rfl, by simp [spl], by simp, by simp⟩
    · have hp : ([c] : List UInt8).isPrefixOf (b :: r) = false := by simp [List.isPrefixOf, Ne.symm h]
      have hix : Lib.index (b :: r) [c] = if Lib.index r [c] == -1 then -1 else Lib.index r [c] + 1 := by rw [Lib.index, hp]; simp
      have hge := Lib.index_ge r [c]
      by_cases hm : Lib.index r [c] = -1
      · have e1 : Lib.cut r [c] = (r, [], false) := by unfold Lib.cut; rw [hm]; rfl
        have e2 : Lib.cut (b :: r) [c] = (b :: r, [], false) := by unfold Lib.cut; rw [hix, hm]; rfl
        rw [e1] at ih
        rw [e2]
        rcases ih with ⟨h1, _⟩ | ⟨_, h2, _⟩
        · cases h1
        · exact .inr ⟨rfl, by simp [spl, h, h2], rfl⟩
      · obtain ⟨j, hj⟩ : ∃ j : Nat, Lib.index r [c] = j := ⟨(Lib.index r [c]).toNat, by omega⟩
        have hix' : Lib.index (b :: r) [c] = ((j + 1 : Nat) : Int) := by rw [hix, if_neg (fun e => hm (beq_iff_eq.1 e)), hj]; omega
        have e1 : Lib.cut r [c] = (r.take j, r.drop (j + 1), true) := by unfold Lib.cut; rw [hj, if_pos (by omega)]; simp
        have e2 : Lib.cut (b :: r) [c] = (b :: r.take j, r.drop (j + 1), true) := by unfold Lib.cut; rw [hix', if_pos (by omega)]; simp
        rw [e1] at ih
        rw [e2]
        rcases ih with ⟨_, h2, h3, h4⟩ | ⟨h1, _⟩
        · exact .inl ⟨rfl, by simp [spl, h, h2], by simp at h3 ⊢; omega, by simp at h4 ⊢; omega⟩
        · cases h1
end Go.Proofs.YteaekpnmiicbhaaDoor
