/- A tree of words, made. -/
import Derived.Test.YtpgphhkhjbhimaaLiv
import Derived.Test.YtpgphhkhjbhimaaSep2
import Derived.Deep.DeepCutAuto
namespace Go.Proofs.Ytpgphhkhjbhimaa
open Go.RowKit X
set_option maxHeartbeats 4000000
set_option maxRecDepth 8000
set_option linter.unusedSimpArgs false
set_option linter.unusedVariables false
theorem putL_mem {L : List (List Int)} {xs : List Int} {n : Nat} (h : ∀ x ∈ L, x.length ≤ n) (hx : xs.length ≤ n) : ∀ k, ∀ x ∈ putL L xs k, x.length ≤ n
  | 0 => h
  | k + 1 => by
    have := putL_mem h hx k
    simp only [putL]
    split
    · intro x hx'
      rcases List.mem_append.1 hx' with h | h
      · exact this x h
      · rw [List.mem_singleton.1 h, List.length_take]; omega
    · exact this
/-- a word put into the reference's tree; none that is empty -/
def stepB (s : List (List Int) × List (List Int)) (x : List Int) : List (List Int) × List (List Int) := if x = [] then s else (putL s.1 x x.length, s.2 ++ [x])
def begT (own : List (List Int)) : List (List Int) × List (List Int) := own.foldl stepB ([[]], [])
theorem begT_succ {own : List (List Int)} {k : Nat} (h : k < own.length) : begT (own.take (k + 1)) = stepB (begT (own.take k)) own[k] := by
  unfold begT
  rw [List.take_succ_eq_append_getElem h, List.foldl_append]; rfl
theorem smallT_ne {ls : List (List Int)} {m : Nat} : ∀ x ∈ smallT ls m, x ≠ [] ∧ x.length ≤ 5 := by
  intro x hx
  unfold smallT at hx
  rw [List.mem_filter] at hx
  obtain ⟨h1, h2⟩ := hx
  obtain ⟨y, _, rfl⟩ := List.mem_map.1 h1
  refine ⟨?_, by rw [rowT_len]; omega⟩
  intro e
  rw [e] at h2
  simp at h2

/-- the words that a tree is made of -/
def rawT (ls : List (List Int)) (k : Nat) : List (List Int) := (ls.take k).map (·.take 5)
def ownW (raw : Bool) (ls : List (List Int)) : List (List Int) := if raw then rawT ls 8 else smallT ls 8
theorem rawT_succ {ls : List (List Int)} {k : Nat} (h : k < ls.length) : rawT ls (k + 1) = rawT ls k ++ [ls[k].take 5] := by
  unfold rawT
  rw [List.take_succ_eq_append_getElem h, List.map_append]; rfl
theorem rawT_all {ls : List (List Int)} {k m : Nat} (h : ¬ (k < ls.length ∧ k < m)) (hk : k ≤ m) : rawT ls k = rawT ls m := by
  unfold rawT
  by_cases h1 : k < ls.length
  · have : k = m := by omega
    rw [this]
  · rw [List.take_of_length_le (by omega), List.take_of_length_le (by omega)]
theorem rawT_len (ls : List (List Int)) (m : Nat) : (rawT ls m).length ≤ m := by
  unfold rawT; rw [List.length_map, List.length_take]; omega
theorem ownW_len (raw : Bool) (ls : List (List Int)) : (ownW raw ls).length ≤ 8 := by
  unfold ownW; split
  · exact rawT_len ls 8
  · exact smallT_len ls 8
theorem ownW_five (raw : Bool) (ls : List (List Int)) : ∀ x ∈ ownW raw ls, x.length ≤ 5 := by
  intro x hx
  unfold ownW at hx
  split at hx
  · unfold rawT at hx
    obtain ⟨y, _, rfl⟩ := List.mem_map.1 hx
    rw [List.length_take]; omega
  · exact (smallT_ne x hx).2

theorem X.SH.rt {F0 I0 I : Fp} {w0 w : World} {Ob0 : List Ob} {v : Value} {L W : List (List Int)} (S : SH F0 I0 w0 Ob0 w I) (i : Nat) (e : Ob0[i]? = some (RTH v L W)) : RT w I v L W := by
  obtain ⟨F, h, _⟩ := S.get i e
  exact h
end Go.Proofs.Ytpgphhkhjbhimaa
