/- Plain words: the paths of a tree, as a set; words that end at a path. -/
import Derived.Test.YthmcefalaieigaaTie3
namespace Go.Proofs.Ythmcefalaieigaa
open Go.RowKit X
theorem nodup_le {α : Type} [DecidableEq α] : ∀ {l l' : List α}, l.Nodup → (∀ x ∈ l, x ∈ l') → l.length ≤ l'.length
  | [], _, _, _ => Nat.zero_le _
  | x :: r, l', hn, hs => by
    have hn' := List.nodup_cons.1 hn
    have hx : x ∈ l' := hs x List.mem_cons_self
    have := nodup_le (l := r) (l' := l'.erase x) hn'.2 (fun y hy => by
      have hne : y ≠ x := fun e => hn'.1 (e ▸ hy)
      exact (List.mem_erase_of_ne hne).2 (hs y (List.mem_cons_of_mem _ hy)))
    rw [List.length_erase_of_mem hx] at this
    have hp : 0 < l'.length := List.length_pos_of_mem hx
    rw [List.length_cons]; omega
theorem findT_mem {L : List (List Int)} {p : List Int} : findT L p < 0 ↔ p ∉ L := by
  constructor
  · intro h hm
    obtain ⟨t, ht, e⟩ := List.mem_iff_getElem.1 hm
    unfold findT at h
    split at h
    · omega
    · rename_i hq
      rw [List.findIdx?_eq_none_iff] at hq
      have := hq p hm
      simp at this
  · intro h
    rw [findT_none fun t ht e => h (by rw [← e]; exact List.getElem_mem ht)]
    decide
theorem mem_putL {L : List (List Int)} {xs x : List Int} : ∀ k, x ∈ putL L xs k ↔ x ∈ L ∨ ∃ t, 0 < t ∧ t ≤ k ∧ x = xs.take t
  | 0 => by
    simp only [putL]
    constructor
    · exact .inl
    · rintro (h | ⟨t, h1, h2, _⟩)
      · exact h
      · omega
  | k + 1 => by
    have ih := mem_putL (L := L) (xs := xs) (x := x) k
    simp only [putL]
    constructor
    · intro h
      split at h
      · rcases List.mem_append.1 h with h | h
        · rcases ih.1 h with h | ⟨t, h1, h2, h3⟩
          · exact .inl h
          · exact .inr ⟨t, h1, by omega, h3⟩
        · exact .inr ⟨k + 1, by omega, Nat.le_refl _, List.mem_singleton.1 h⟩
      · rcases ih.1 h with h | ⟨t, h1, h2, h3⟩
        · exact .inl h
        · exact .inr ⟨t, h1, by omega, h3⟩
    · intro h
      have hr : (x ∈ L ∨ ∃ t, 0 < t ∧ t ≤ k ∧ x = xs.take t) ∨ x = xs.take (k + 1) := by
        rcases h with h | ⟨t, h1, h2, h3⟩
        · exact .inl (.inl h)
        · rcases Nat.lt_or_ge k t with h4 | h4
          · have : t = k + 1 := by omega
            subst this
            exact .inr h3
          · exact .inl (.inr ⟨t, h1, h4, h3⟩)
      split
      · rename_i hf
        rcases hr with hr | hr
        · exact List.mem_append_left _ (ih.2 hr)
        · exact List.mem_append_right _ (List.mem_singleton.2 hr)
      · rename_i hf
        rcases hr with hr | hr
        · exact ih.2 hr
        · rw [findT_mem] at hf
          rw [hr]
          exact Classical.not_not.1 hf
/-- the paths are the beginnings of words -/
def PreOf (W : List (List Int)) (x : List Int) : Prop := x = [] ∨ ∃ y ∈ W, ∃ t, 0 < t ∧ t ≤ y.length ∧ x = y.take t
theorem mem_fold : ∀ (own : List (List Int)) (s : List (List Int) × List (List Int)), (∀ x, x ∈ s.1 ↔ PreOf s.2 x) → ∀ x, x ∈ (own.foldl stepB s).1 ↔ PreOf (own.foldl stepB s).2 x
  | [], s, h => h
  | y :: r, s, h => by
    rw [List.foldl_cons]
    refine mem_fold r _ fun x => ?_
    unfold stepB
    by_cases hy : y = []
    · rw [if_pos hy]; exact h x
    · rw [if_neg hy]
      rw [mem_putL, h x]
      unfold PreOf
      constructor
      · rintro ((h | ⟨z, hz, t, h1, h2, h3⟩) | ⟨t, h1, h2, h3⟩)
        · exact .inl h
        · exact .inr ⟨z, List.mem_append_left _ hz, t, h1, h2, h3⟩
        · exact .inr ⟨y, List.mem_append_right _ (List.mem_singleton.2 rfl), t, h1, h2, h3⟩
      · rintro (h | ⟨z, hz, t, h1, h2, h3⟩)
        · exact .inl (.inl h)
        · rcases List.mem_append.1 hz with hz | hz
          · exact .inl (.inr ⟨z, hz, t, h1, h2, h3⟩)
          · rw [List.mem_singleton.1 hz] at h2 h3
            exact .inr ⟨t, h1, h2, h3⟩
theorem begT_mem (own : List (List Int)) (x : List Int) : x ∈ (begT own).1 ↔ PreOf (begT own).2 x :=
  mem_fold own ([[]], []) (fun x => by simp [PreOf]) x
/-- a node's path -/
theorem Tie.pathOf {l : List Nd} {L : List (List Int)} (h : Tie l L) (hG : GoodT l) : ∀ (n i : Nat), i ≤ n → i < l.length → pathT l i = pa L i := by
  have h00 : upT l 1 0 = [] := by
    rw [upT, if_neg (by omega)]
  intro n
  induction n with
  | zero =>
    intro i hn hi
    have : i = 0 := by omega
    subst this
    rw [h.root]
    unfold pathT
    rw [show ((0 : Nat) : Int) = 0 from rfl, show ((0 : Int).toNat + 1) = 1 from rfl, h00]; rfl
  | succ n ih =>
    intro i hn hi
    by_cases h0 : i = 0
    · exact ih i (by omega) hi
    · obtain ⟨u, e1, e2, e3⟩ := h.path i hi (by omega)
      have hN : nd l i = l[i] := getD_eq hi
      rw [hN] at e1 e3
      have hu := ih u (by omega) (by omega)
      unfold pathT at hu ⊢
      rw [Int.toNat_natCast] at hu ⊢
      rw [upT_step hG hi (by omega), e1, Int.toNat_natCast, List.reverse_cons, hu, e3]
theorem Tie.walkOf {l : List Nd} {L : List (List Int)} (h : Tie l L) {j : Nat} (hj : j < l.length) : ∀ (r : List Int) (i : Nat), i < l.length → pa L j = pa L i ++ r → walkF L i (pa L i) r = ((j : Int), r.length)
  | [], i, hi, e => by
    rw [List.append_nil, pa_eq (by rw [← h.len]; exact hj), pa_eq (by rw [← h.len]; exact hi)] at e
    have : j = i := (List.getElem_inj h.nodup).1 e
    subst this
    rfl
  | p :: r, i, hi, e => by
    obtain ⟨k, k1, k2⟩ := h.prefix j j (Nat.le_refl _) hj ((pa L i).length + 1)
    have e2 : (pa L j).take ((pa L i).length + 1) = pa L i ++ [p] := by
      rw [e, show pa L i ++ p :: r = (pa L i ++ [p]) ++ r by simp, show (pa L i).length + 1 = (pa L i ++ [p]).length by simp, List.take_left]
    rw [e2] at k2
    have hf : findT L (pa L i ++ [p]) = k := by rw [← k2]; exact findT_at h.nodup (by rw [← h.len]; exact k1)
    have ih := Tie.walkOf h hj r k k1 (by rw [k2, e]; simp)
    rw [k2] at ih
    simp only [walkF]
    rw [hf, if_neg (by omega), ih]
    rfl
theorem range_count (W : List (List Int)) (q : List Int → Bool) : ((List.range W.length).filter (fun k => q (pa W k))).length = W.countP q := by
  have e : W = (List.range W.length).map (pa W) := by
    apply List.ext_getElem
    · simp
    · intro i h1 h2
      rw [List.getElem_map, List.getElem_range, pa_eq h1]
  conv => rhs; rw [e]
  rw [List.countP_map, List.countP_eq_length_filter]
  rfl
theorem St.count {l : List Nd} {ws : List Int} {L W : List (List Int)} (h : St l ws L W) {n : Nat} (hn : n < l.length) : (nd l n).words.length = W.countP (fun x => decide (x = pa L n)) := by
  rw [h.words n hn, ← range_count]
  unfold endsAt
  rw [List.length_map, h.wlen]
  congr 1
  apply List.filter_congr
  intro k hk
  rw [List.mem_range] at hk
  obtain ⟨j, a1, a2, a3⟩ := h.at_ k hk
  rw [a1, ← a3]
  by_cases hjn : j = n
  · subst hjn; simp
  · have h1 : ¬ ((j : Int) = (n : Int)) := by omega
    have h2 : ¬ (pa L j = pa L n) := fun e => hjn (by
      rw [pa_eq (by rw [← h.tie.len]; exact a2), pa_eq (by rw [← h.tie.len]; exact hn)] at e
      exact (List.getElem_inj h.tie.nodup).1 e)
    rw [decide_eq_false h1, decide_eq_false h2]
end Go.Proofs.Ythmcefalaieigaa
