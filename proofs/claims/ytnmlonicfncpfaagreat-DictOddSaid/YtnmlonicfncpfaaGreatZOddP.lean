/- A template that may be, or not, is added: program and document answer alike. -/
import Derived.Test.YtnmlonicfncpfaaGreatZAdd
namespace Go.Proofs.YtnmlonicfncpfaaGreat
open Go.RowKit X
set_option maxRecDepth 8000
set_option maxHeartbeats 1000000
theorem sort_rising {ts : List Int} (h : mayTs ts = true) : sortI (risP ts) = sortI ts ∧ mayTs (risP ts) = true := by
  have h1 := rising_sort (ris_strict ts)
  exact ⟨by rw [h1, may_sort h], mayTs_rising (ris_strict ts) ((ris_may ts).1 h).1 fun g hg => (ris_mem.1 hg).1⟩
theorem addD_ris {D : DS} {p : Pic} {ts : List Int} (h : mayTs ts = true) : addD D p ts = addD D p (risP ts) := by
  obtain ⟨h1, h2⟩ := sort_rising h
  unfold addD
  rw [h1, h, h2]
theorem add_gen {D : DS} {o : List Tv} (h : DOk D o) (hs : ∀ t ∈ o, SmT t) (hn : o.length ≤ 20) {p : Pic} (hp : mayG p = true → Small p) (ts : List Int) :
    ∃ D' n e o', addD D p ts = (D', n, e) ∧ refAdd o p ts = (o', e) ∧ DOk D' o' ∧ (∀ t ∈ o', SmT t) ∧ o'.length ≤ o.length + 1 ∧ ((e = 0 ∧ n = (o.length : Int)) ∨ (e = 1 ∧ n = -1)) := by
  by_cases hc : mayG p = true ∧ mayTs ts = true
  · have ht := small_tv (hp hc.1) hc.2
    obtain ⟨D', h1, h2⟩ := add_small h hs ht hn
    refine ⟨D', _, 0, _, by rw [addD_ris hc.2]; exact h1, by unfold refAdd; rw [if_pos hc], h2, fun t hx => ?_, by simp, .inl ⟨rfl, rfl⟩⟩
    rcases List.mem_append.1 hx with h | h
    · exact hs t h
    · rw [List.mem_singleton] at h; subst h; exact ht
  · exact ⟨D, -1, 1, o, by unfold addD; rw [if_neg hc], by unfold refAdd; rw [if_neg hc], h, hs, by omega, .inr ⟨rfl, rfl⟩⟩
theorem add_zero (D : DS) (ts : List Int) : addD D ⟨0, 0, ⟨0, 0, []⟩⟩ ts = (D, -1, 1) := by
  unfold addD
  rw [if_neg]
  rintro ⟨h, -⟩
  have := (mayX_iff.1 (mayG_x h)).1.1
  dsimp only at this
  omega
/-- an image that may be, of which one number is another one -/
def setX (p : Pic) (a : Nat) (y : Int) : Pic := ⟨p.c, p.m, ⟨p.x.w, p.x.h, p.x.l.set a y⟩⟩
theorem setX_ok {p : Pic} (h : Small p) {a : Nat} {y : Int} (hy : U64 y) : mayX (setX p a y).x = true ∧ (∀ q ∈ (setX p a y).x.l, U64 q) ∧ (setX p a y).x.l.length ≤ 256 ∧ (mayG (setX p a y) = true → Small (setX p a y)) := by
  have hl : (setX p a y).x.l.length = p.x.l.length := by unfold setX; simp
  have hu : ∀ q ∈ (setX p a y).x.l, U64 q := fun q hq => by
    rcases List.mem_or_eq_of_mem_set hq with h1 | h1
    · exact h.u q h1
    · rw [h1]; exact hy
  have hm : MxOk (setX p a y).x := by
    obtain ⟨h1, h2, h3⟩ := h.mx
    exact ⟨h1, h2, by rw [hl]; exact h3⟩
  refine ⟨?_, hu, by rw [hl]; exact h.len, fun hg => ⟨hm, h.w, h.h, by rw [hl]; exact h.len, hg, hu⟩⟩
  obtain ⟨⟨h1, h2, h3, h4, h5⟩, h6⟩ := mayX_iff.1 (mayG_x h.may)
  exact mayX_iff.2 ⟨⟨h1, h2, h3, h4, h5⟩, by rw [hl]; exact h6⟩
end Go.Proofs.YtnmlonicfncpfaaGreat
