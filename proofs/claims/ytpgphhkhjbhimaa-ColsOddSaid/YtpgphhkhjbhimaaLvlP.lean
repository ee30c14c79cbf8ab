/- Nodes by their depth: no program in sight. -/
import Derived.Test.YtpgphhkhjbhimaaTreeC
namespace Go.Proofs.Ytpgphhkhjbhimaa
open X
/-- the nodes of depth d among the first k; all of depth 1 to d -/
def lvk (f : Nat → Nat) (d k : Nat) : List Nat := (List.range k).filter (fun i => decide (f i = d))
def lvU (f : Nat → Nat) (N : Nat) : Nat → List Nat
  | 0 => []
  | d + 1 => lvU f N d ++ lvk f (d + 1) N
variable {f : Nat → Nat} {N B d k : Nat}
theorem lvk_yes (h : f k = d) : lvk f d (k + 1) = lvk f d k ++ [k] := by
  unfold lvk; rw [List.range_succ, List.filter_append]; simp [h]
theorem lvk_no (h : f k ≠ d) : lvk f d (k + 1) = lvk f d k := by
  unfold lvk; rw [List.range_succ, List.filter_append]; simp [h]
theorem lvk_lt {x : Nat} (h : x ∈ lvk f d k) : x < k ∧ f x = d := by
  unfold lvk at h
  simpa using h
theorem lvU_lt {x : Nat} : ∀ {d : Nat}, x ∈ lvU f N d → x < N
  | 0, h => by cases h
  | d + 1, h => by
    simp only [lvU, List.mem_append] at h
    rcases h with h | h
    · exact lvU_lt h
    · exact (lvk_lt h).1
theorem filter_split {p q r : Nat → Bool} : ∀ (l : List Nat), (∀ x ∈ l, r x = (p x || q x) ∧ ¬ (p x = true ∧ q x = true)) → (l.filter r).length = (l.filter p).length + (l.filter q).length
  | [], _ => rfl
  | x :: l, h => by
    have ih := filter_split l (fun y hy => h y (List.mem_cons_of_mem _ hy))
    obtain ⟨h1, h2⟩ := h x List.mem_cons_self
    simp only [List.filter_cons, h1]
    cases hp : p x <;> cases hq : q x <;> simp_all <;> omega
theorem lvU_len : ∀ d, (lvU f N d).length = ((List.range N).filter (fun i => decide (1 ≤ f i ∧ f i ≤ d))).length
  | 0 => by
    have : (List.range N).filter (fun i => decide (1 ≤ f i ∧ f i ≤ 0)) = [] := by
      rw [List.filter_eq_nil_iff]; intro a _; simp; omega
    rw [this]; rfl
  | d + 1 => by
    rw [lvU, List.length_append, lvU_len d, lvk]
    symm
    apply filter_split
    intro x _
    refine ⟨?_, by simp; omega⟩
    rw [Bool.eq_iff_iff]; simp; omega
theorem lvU_le (h0 : f 0 = 0) (d : Nat) : (lvU f N d).length ≤ N - 1 := by
  rw [lvU_len]
  rcases N with _ | n
  · simp
  · rw [List.range_succ_eq_map, List.filter_cons_of_neg (by simp [h0])]
    refine Nat.le_trans (List.length_filter_le _ _) ?_
    simp
theorem lvU_all (h0 : f 0 = 0) (h1 : ∀ i, 0 < i → i < N → 1 ≤ f i ∧ f i ≤ B) : (lvU f N B).length = N - 1 := by
  rw [lvU_len]
  rcases N with _ | n
  · simp
  · rw [List.range_succ_eq_map, List.filter_cons_of_neg (by simp [h0]), List.filter_eq_self.2]
    · simp
    · intro a ha
      simp only [List.mem_map, List.mem_range] at ha
      obtain ⟨j, hj, rfl⟩ := ha
      simpa using h1 (j + 1) (by omega) (by omega)
theorem lvU_pre {d e : Nat} (h : d ≤ e) : lvU f N d <+: lvU f N e := by
  induction e with
  | zero => obtain rfl : d = 0 := by omega
            exact List.prefix_refl _
  | succ e ih =>
    rcases Nat.eq_or_lt_of_le h with h | h
    · subst h; exact List.prefix_refl _
    · exact (ih (by omega)).trans (List.prefix_append _ _)
theorem lvU_full (h0 : f 0 = 0) (h1 : ∀ i, 0 < i → i < N → 1 ≤ f i ∧ f i ≤ B) (hd : d ≤ B) (h : ¬ (lvU f N d).length < N - 1) : lvU f N d = lvU f N B :=
  (lvU_pre hd).eq_of_length (by rw [lvU_all h0 h1]; have := lvU_le (N := N) h0 d; omega)
theorem lvU_more (h0 : f 0 = 0) (h1 : ∀ i, 0 < i → i < N → 1 ≤ f i ∧ f i ≤ B) (hd : d ≤ B) (h : (lvU f N d).length < N - 1) : d < B := by
  rcases Nat.eq_or_lt_of_le hd with e | e
  · subst e; rw [lvU_all h0 h1] at h; omega
  · exact e
theorem lvk_le : (lvk f d k).length ≤ k := by
  unfold lvk
  exact Nat.le_trans (List.length_filter_le _ _) (by simp)
theorem lvk_pre {k m : Nat} (h : k ≤ m) : lvk f d k <+: lvk f d m := by
  induction m with
  | zero => obtain rfl : k = 0 := by omega
            exact List.prefix_refl _
  | succ m ih =>
    rcases Nat.eq_or_lt_of_le h with h | h
    · subst h; exact List.prefix_refl _
    · refine (ih (by omega)).trans ?_
      by_cases hm : f m = d
      · rw [lvk_yes hm]; exact List.prefix_append _ _
      · rw [lvk_no hm]; exact List.prefix_refl _
/-- the depths of a tree of paths -/
def dpN (L : List (List Int)) (i : Nat) : Nat := (pa L i).length
/-- all nodes by their depth -/
def lvL (L : List (List Int)) (B : Nat) : List Nat := lvU (dpN L) L.length B
theorem GoodR.dp0 {L W : List (List Int)} (h : GoodR L W) : dpN L 0 = 0 := by unfold dpN; rw [h.root]; rfl
theorem GoodR.dp1 {L W : List (List Int)} (h : GoodR L W) (hB : ∀ x ∈ L, x.length ≤ B) : ∀ i, 0 < i → i < L.length → 1 ≤ dpN L i ∧ dpN L i ≤ B := by
  intro i h0 hi
  unfold dpN
  rw [pa_eq hi]
  refine ⟨?_, hB _ (List.getElem_mem hi)⟩
  rcases hx : L[i] with _ | ⟨a, r⟩
  · have h1 := findT_at h.nodup hi
    have h2 := findT_at h.nodup h.pos
    rw [h.root] at h2
    rw [pa_eq hi, hx, h2] at h1
    omega
  · simp
end Go.Proofs.Ytpgphhkhjbhimaa
