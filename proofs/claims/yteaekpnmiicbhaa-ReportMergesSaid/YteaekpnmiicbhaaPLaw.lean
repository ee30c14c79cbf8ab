/- Records in order, each once: the plain law. -/
import Derived.Test.YteaekpnmiicbhaaPRefS
namespace Go.Proofs.Yteaekpnmiicbhaa
open Go.RowKit X
set_option maxHeartbeats 400000
def Strict (xs : List R5) : Prop := xs.Pairwise fun x y => cmpR x y < 0
theorem cmpR_asym {x y : R5} (h : cmpR x y < 0) (g : cmpR y x < 0) : False := by
  rw [cmpR_swap] at g; omega
theorem cmpR_irr {x : R5} (h : cmpR x x < 0) : False := by
  rw [cmpR_self] at h; omega
theorem strict_ext : ∀ {xs ys : List R5}, Strict xs → Strict ys → (∀ x, x ∈ xs ↔ x ∈ ys) → xs = ys
  | [], [], _, _, _ => rfl
  | [], b :: s, _, _, h => by have := (h b).2 (by simp); simp at this
  | a :: r, [], _, _, h => by have := (h a).1 (by simp); simp at this
  | a :: r, b :: s, hx, hy, h => by
    obtain ⟨h1, h2⟩ := List.pairwise_cons.1 hx
    obtain ⟨g1, g2⟩ := List.pairwise_cons.1 hy
    have hab : a = b := by
      have h3 := (h a).1 (by simp)
      have h4 := (h b).2 (by simp)
      rw [List.mem_cons] at h3 h4
      rcases h3 with h3 | h3
      · exact h3
      · rcases h4 with h4 | h4
        · exact h4.symm
        · exact (cmpR_asym (h1 _ h4) (g1 _ h3)).elim
    subst hab
    congr 1
    refine strict_ext h2 g2 fun x => ⟨fun hm => ?_, fun hm => ?_⟩
    · have := (h x).1 (List.mem_cons_of_mem _ hm)
      rw [List.mem_cons] at this
      rcases this with rfl | this
      · exact (cmpR_irr (h1 _ hm)).elim
      · exact this
    · have := (h x).2 (List.mem_cons_of_mem _ hm)
      rw [List.mem_cons] at this
      rcases this with rfl | this
      · exact (cmpR_irr (g1 _ hm)).elim
      · exact this
theorem cpt_mem : ∀ (xs : List R5) (z : R5), z ∈ cpt xs ↔ z ∈ xs
  | [], _ => Iff.rfl
  | [x], _ => Iff.rfl
  | x :: y :: r, z => by
    rw [cpt]
    split
    · rename_i h
      subst h
      rw [cpt_mem (x :: r) z]
      simp
    · rw [List.mem_cons, cpt_mem (y :: r) z, List.mem_cons (a := z) (b := x)]
theorem cpt_strict : ∀ (xs : List R5), (xs.Pairwise fun x y => cmpR x y ≤ 0) → Strict (cpt xs)
  | [], _ => List.Pairwise.nil
  | [x], _ => List.pairwise_singleton _ _
  | x :: y :: r, h => by
    obtain ⟨h1, h2⟩ := List.pairwise_cons.1 h
    have ih := cpt_strict (y :: r) h2
    rw [cpt]
    split
    · exact ih
    · rename_i hne
      refine List.pairwise_cons.2 ⟨fun z hz => ?_, ih⟩
      rw [cpt_mem] at hz
      have hxy : cmpR x y < 0 := by
        have := h1 y (by simp)
        rcases Int.lt_or_eq_of_le this with h3 | h3
        · exact h3
        · exact (hne (cmpR_zero h3)).elim
      rw [List.mem_cons] at hz
      rcases hz with rfl | hz
      · exact hxy
      · have := (List.pairwise_cons.1 h2).1 z hz
        rcases Int.lt_or_eq_of_le this with h3 | h3
        · exact cmpR_trans hxy h3
        · rw [← cmpR_zero h3]; exact hxy
theorem cpt_len : ∀ (xs : List R5), (cpt xs).length ≤ xs.length
  | [] => Nat.le_refl _
  | [x] => Nat.le_refl _
  | x :: y :: r => by
    have := cpt_len (y :: r)
    rw [cpt]
    split
    · rw [List.length_cons (a := x)]; omega
    · rw [List.length_cons, List.length_cons (a := x)]; omega
theorem rSort_mem (xs : List R5) (z : R5) : z ∈ rSort xs ↔ z ∈ xs := by
  unfold rSort
  rw [cpt_mem, (sortR_perm xs).mem_iff]
theorem rSort_strict (xs : List R5) : Strict (rSort xs) := cpt_strict _ (sortR_srt xs)
theorem rSort_len (xs : List R5) : (rSort xs).length ≤ xs.length := by
  have h1 := cpt_len (sortR xs)
  have h2 := sortR_len xs
  unfold rSort
  omega
theorem rSort_idem (xs : List R5) : rSort (rSort xs) = rSort xs := strict_ext (rSort_strict _) (rSort_strict _) fun x => by rw [rSort_mem]
theorem rSort_merge (a b : List R5) : rSort (a ++ b) = rSort (rSort b ++ rSort a) := strict_ext (rSort_strict _) (rSort_strict _) fun x => by
  rw [rSort_mem, rSort_mem, List.mem_append, List.mem_append, rSort_mem, rSort_mem, or_comm]
theorem insR_nil (x : R5) : insR [] x = [x] := by
  rw [insR_new (k := 0) rfl (by simp)]; rfl
theorem leadR_cons (y x : R5) (r : List R5) : leadR (y :: r) x = if cmpR y x < 0 then leadR r x + 1 else 0 := by
  unfold leadR
  by_cases h : cmpR y x < 0
  · rw [if_pos h, List.takeWhile_cons_of_pos (by simpa using h), List.length_cons]
  · rw [if_neg h, List.takeWhile_cons_of_neg (by simpa using h), List.length_nil]
theorem insR_cons (y x : R5) (r : List R5) : insR (y :: r) x = if cmpR y x < 0 then y :: insR r x else if cmpR y x = 0 then y :: r else x :: y :: r := by
  by_cases h : cmpR y x < 0
  · rw [if_pos h]
    have hl : leadR (y :: r) x = leadR r x + 1 := by rw [leadR_cons, if_pos h]
    by_cases h2 : ∃ z, r[leadR r x]? = some z ∧ cmpR z x = 0
    · obtain ⟨z, h3, h4⟩ := h2
      rw [insR_same hl (by rw [List.getElem?_cons_succ]; exact h3) h4, insR_same rfl h3 h4]
    · rw [insR_new hl (fun z h3 h4 => h2 ⟨z, by rw [List.getElem?_cons_succ] at h3; exact h3, h4⟩), insR_new rfl (fun z h3 h4 => h2 ⟨z, h3, h4⟩)]
      simp
  · rw [if_neg h]
    have hl : leadR (y :: r) x = 0 := by rw [leadR_cons, if_neg h]
    by_cases h2 : cmpR y x = 0
    · rw [if_pos h2, insR_same hl rfl h2]
    · rw [if_neg h2, insR_new hl (by intro z h3; simp at h3; subst h3; exact h2)]
      simp
theorem insR_mem : ∀ (out : List R5) (x z : R5), z ∈ insR out x ↔ z ∈ out ∨ z = x
  | [], x, z => by rw [insR_nil]; simp
  | y :: r, x, z => by
    rw [insR_cons]
    split
    · rw [List.mem_cons, insR_mem r x z, List.mem_cons, or_assoc]
    · split
      · rename_i h
        have h := cmpR_zero h
        subst h
        simp only [List.mem_cons]
        constructor
        · exact Or.inl
        · rintro (h | rfl)
          · exact h
          · exact .inl rfl
      · simp only [List.mem_cons]
        constructor
        · rintro (h | h | h)
          · exact .inr h
          · exact .inl (.inl h)
          · exact .inl (.inr h)
        · rintro ((h | h) | h)
          · exact .inr (.inl h)
          · exact .inr (.inr h)
          · exact .inl h
theorem insR_strict : ∀ (out : List R5) (x : R5), Strict out → Strict (insR out x)
  | [], x, _ => by rw [insR_nil]; exact List.pairwise_singleton _ _
  | y :: r, x, h => by
    obtain ⟨h1, h2⟩ := List.pairwise_cons.1 h
    rw [insR_cons]
    split
    · rename_i hl
      refine List.pairwise_cons.2 ⟨fun z hz => ?_, insR_strict r x h2⟩
      rw [insR_mem] at hz
      rcases hz with hz | rfl
      · exact h1 z hz
      · exact hl
    · rename_i hl
      split
      · exact h
      · rename_i hz
        have hxy : cmpR x y < 0 := by rw [cmpR_swap]; omega
        refine List.pairwise_cons.2 ⟨fun z hm => ?_, h⟩
        rw [List.mem_cons] at hm
        rcases hm with rfl | hm
        · exact hxy
        · exact cmpR_trans hxy (h1 z hm)
theorem foldR_mem : ∀ (xs out : List R5) (z : R5), z ∈ xs.foldl insR out ↔ z ∈ out ∨ z ∈ xs
  | [], out, z => by simp
  | x :: r, out, z => by
    rw [List.foldl_cons, foldR_mem r (insR out x) z, insR_mem, List.mem_cons, or_assoc]
theorem foldR_strict : ∀ (xs out : List R5), Strict out → Strict (xs.foldl insR out)
  | [], out, h => h
  | x :: r, out, h => by
    rw [List.foldl_cons]
    exact foldR_strict r _ (insR_strict _ _ h)
theorem refS_eq (xs : List R5) : refS xs = rSort xs := strict_ext (foldR_strict xs [] List.Pairwise.nil) (rSort_strict _) fun x => by
  unfold refS
  rw [foldR_mem, rSort_mem]
  simp
end Go.Proofs.Yteaekpnmiicbhaa
