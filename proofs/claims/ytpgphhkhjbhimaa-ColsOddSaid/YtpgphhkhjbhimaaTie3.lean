/- Plain words: words put twice. -/
import Derived.Test.YtpgphhkhjbhimaaBeg
namespace Go.Proofs.Ytpgphhkhjbhimaa
open Go.RowKit X
theorem Tie.prefix {l : List Nd} {L : List (List Int)} (h : Tie l L) : ∀ (n i : Nat), i ≤ n → i < l.length → ∀ t, ∃ j, j < l.length ∧ pa L j = (pa L i).take t
  | 0, i, hn, hi, t => ⟨i, hi, by
      have : i = 0 := by omega
      subst this
      rw [h.root, List.take_nil]⟩
  | n + 1, i, hn, hi, t => by
    by_cases h0 : i = 0
    · subst h0
      exact ⟨0, hi, by rw [h.root, List.take_nil]⟩
    · obtain ⟨u, e1, e2, e3⟩ := h.path i hi (by omega)
      by_cases ht : t ≤ (pa L u).length
      · obtain ⟨j, j1, j2⟩ := Tie.prefix h n u (by omega) (by omega) t
        exact ⟨j, j1, by rw [j2, e3, List.take_append_of_le_length ht]⟩
      · exact ⟨i, hi, by rw [List.take_of_length_le (by rw [e3, List.length_append, List.length_singleton]; omega)]⟩
theorem Tie.fix {l : List Nd} {L : List (List Int)} (h : Tie l L) {i : Nat} (hi : i < l.length) {xs : List Int} (hx : pa L i = xs) : ∀ k, putL L xs k = L
  | 0 => rfl
  | k + 1 => by
    simp only [putL]
    rw [Tie.fix h hi hx k]
    obtain ⟨j, j1, j2⟩ := h.prefix i i (Nat.le_refl _) hi (k + 1)
    rw [hx] at j2
    rw [← j2, findT_at h.nodup (by rw [← h.len]; exact j1), if_neg (by omega)]
theorem St.same {l : List Nd} {ws : List Int} {L V : List (List Int)} (h : St l ws L V) {k k' : Nat} (hk : k < V.length) (hk' : k' < V.length) (e : pa V k = pa V k') : wordT ws k = wordT ws k' := by
  obtain ⟨j, a1, a2, a3⟩ := h.at_ k hk
  obtain ⟨j', b1, b2, b3⟩ := h.at_ k' hk'
  have hl := h.wlen
  unfold wordT
  rw [if_pos (by omega), if_pos (by omega), Int.toNat_natCast, Int.toNat_natCast, a1, b1]
  have : j = j' := by
    rw [← e, ← a3, pa_eq (by rw [← h.tie.len]; exact b2), pa_eq (by rw [← h.tie.len]; exact a2)] at b3
    exact ((List.getElem_inj h.tie.nodup).1 b3).symm
  rw [this]
theorem begT_W : ∀ (own : List (List Int)) (s : List (List Int) × List (List Int)), (own.foldl stepB s).2 = s.2 ++ own.filter (fun x => decide (x ≠ []))
  | [], s => by simp
  | x :: r, s => by
    rw [List.foldl_cons, begT_W r]
    unfold stepB
    by_cases hx : x = []
    · rw [if_pos hx, List.filter_cons, if_neg (by simp [hx])]
    · rw [if_neg hx, List.filter_cons, if_pos (by simp [hx])]; simp
theorem begT_small {ls : List (List Int)} {m : Nat} {L W : List (List Int)} (h : begT (smallT ls m) = (L, W)) : ∀ x ∈ W, x ≠ [] ∧ x.length ≤ 5 := by
  intro x hx
  have e : W = (begT (smallT ls m)).2 := by rw [h]
  rw [e] at hx
  unfold begT at hx
  rw [begT_W] at hx
  have := (List.mem_filter.1 (by simpa using hx : x ∈ (smallT ls m).filter (fun x => decide (x ≠ [])))).1
  exact smallT_ne x this
theorem begT_ne2 {own : List (List Int)} {L W : List (List Int)} (h : begT own = (L, W)) : ∀ x ∈ W, x ≠ [] ∧ x ∈ own := by
  intro x hx
  have e : W = (begT own).2 := by rw [h]
  rw [e] at hx
  unfold begT at hx
  rw [begT_W, List.nil_append, List.mem_filter] at hx
  exact ⟨by simpa using hx.2, hx.1⟩
end Go.Proofs.Ytpgphhkhjbhimaa
