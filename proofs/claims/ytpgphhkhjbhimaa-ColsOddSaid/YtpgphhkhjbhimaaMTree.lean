/- Plain words on edges and nodes: no program in sight. -/
namespace Go.Proofs.Ytpgphhkhjbhimaa.X

/-- A node of a tree: its parent, its number, its depth, its children, the words that end there. -/
structure Nd where
  up : Int
  p : Int
  depth : Int
  kids : List (Int × Int)
  words : List Int


instance : Inhabited Nd := ⟨⟨0, 0, 0, [], []⟩⟩

/-- how many children have a smaller number -/
def posE (l : List (Int × Int)) (p : Int) : Nat := (l.filter fun e => decide (e.1 < p)).length
/-- is there a child of this number? -/
def hasE (l : List (Int × Int)) (p : Int) : Bool := l.any fun e => e.1 == p

theorem posE_of {l : List (Int × Int)} {p : Int} {i : Nat} (hi : i ≤ l.length) (h1 : ∀ (t : Nat) (h : t < l.length), t < i → (l[t]).1 < p) (h2 : ∀ (t : Nat) (h : t < l.length), i ≤ t → p ≤ (l[t]).1) :
    posE l p = i := by
  have e : l.filter (fun e => decide (e.1 < p)) = l.take i := by
    conv => lhs; rw [← List.take_append_drop i l]
    rw [List.filter_append]
    have a : (l.take i).filter (fun e => decide (e.1 < p)) = l.take i := by
      rw [List.filter_eq_self]
      intro e he
      obtain ⟨t, ht, rfl⟩ := List.mem_iff_getElem.1 he
      rw [List.length_take] at ht
      simpa using h1 t (by omega) (by omega)
    have b : (l.drop i).filter (fun e => decide (e.1 < p)) = [] := by
      rw [List.filter_eq_nil_iff]
      intro e he
      obtain ⟨t, ht, rfl⟩ := List.mem_iff_getElem.1 he
      rw [List.length_drop] at ht
      have := h2 (i + t) (by omega) (by omega)
      simpa using this
    rw [a, b, List.append_nil]
  unfold posE
  rw [e, List.length_take]
  omega
theorem posE_le (l : List (Int × Int)) (p : Int) : posE l p ≤ l.length := List.length_filter_le _ _
/-- edges in the row of their numbers -/
def Srt (l : List (Int × Int)) : Prop := l.Pairwise fun a b => a.1 < b.1
theorem Srt.lt {l : List (Int × Int)} (h : Srt l) {i j : Nat} (hij : i < j) (hj : j < l.length) : (l[i]).1 < (l[j]).1 := List.pairwise_iff_getElem.1 h i j (by omega) hj hij
theorem hasE_at {l : List (Int × Int)} {p : Int} {i : Nat} (h1 : ∀ (t : Nat) (h : t < l.length), t < i → (l[t]).1 < p) (h2 : ∀ (t : Nat) (h : t < l.length), i ≤ t → p ≤ (l[t]).1) (hs : Srt l) :
    hasE l p = decide (∃ h : i < l.length, (l[i]).1 = p) := by
  unfold hasE
  rw [Bool.eq_iff_iff]
  simp only [List.any_eq_true, beq_iff_eq, decide_eq_true_eq]
  constructor
  · rintro ⟨e, he, rfl⟩
    obtain ⟨t, ht, rfl⟩ := List.mem_iff_getElem.1 he
    have a := h1 t ht
    have b := h2 t ht
    by_cases hti : t < i
    · have := a hti; omega
    · by_cases hte : t = i
      · subst hte; exact ⟨ht, rfl⟩
      · have hlt : i < t := by omega
        have c := h2 i (by omega) (Nat.le_refl _)
        have d := hs.lt hlt ht
        omega
  · rintro ⟨h, rfl⟩
    exact ⟨l[i], List.getElem_mem h, rfl⟩
end Go.Proofs.Ytpgphhkhjbhimaa.X
