/- Plain words: a word is put into a tree. -/
import Derived.Test.YtpgphhkhjbhimaaOwnU
namespace Go.Proofs.Ytpgphhkhjbhimaa
open Go.RowKit X

theorem insE_len {xs : List (Int × Int)} {i : Nat} {y : Int × Int} (hi : i ≤ xs.length) : (insE xs i y).length = xs.length + 1 := by
  simp [insE]; omega
theorem mem_insE {xs : List (Int × Int)} {i : Nat} {y z : Int × Int} : z ∈ insE xs i y ↔ z = y ∨ z ∈ xs := by
  have : z ∈ xs ↔ z ∈ xs.take i ∨ z ∈ xs.drop i := by
    rw [← List.mem_append, List.take_append_drop]
  rw [this]
  simp only [insE, List.mem_append, List.mem_singleton]
  constructor
  · rintro ((h | h) | h)
    · exact .inr (.inl h)
    · exact .inl h
    · exact .inr (.inr h)
  · rintro (h | h | h)
    · exact .inl (.inr h)
    · exact .inl (.inl h)
    · exact .inr h
theorem posE_cons_lt {x : Int × Int} {xs : List (Int × Int)} {p : Int} (h : x.1 < p) : posE (x :: xs) p = posE xs p + 1 := by
  simp [posE, h]
theorem posE_cons_ge {x : Int × Int} {xs : List (Int × Int)} {p : Int} (hs : Srt (x :: xs)) (h : ¬ x.1 < p) : posE (x :: xs) p = 0 := by
  unfold posE
  rw [List.length_eq_zero_iff, List.filter_eq_nil_iff]
  intro e he
  rcases List.mem_cons.1 he with rfl | he
  · simpa using h
  · have := (List.pairwise_cons.1 hs).1 e he
    simp; omega
theorem srt_insE : ∀ {xs : List (Int × Int)} {p k : Int}, Srt xs → hasE xs p = false → Srt (insE xs (posE xs p) (p, k))
  | [], p, k, _, _ => by simp [insE, posE, Srt]
  | x :: xs, p, k, hs, hh => by
    have hs' := List.pairwise_cons.1 hs
    simp only [hasE, List.any_cons, Bool.or_eq_false_iff, beq_eq_false_iff_ne, ne_eq] at hh
    by_cases hx : x.1 < p
    · rw [posE_cons_lt hx]
      have e : insE (x :: xs) (posE xs p + 1) (p, k) = x :: insE xs (posE xs p) (p, k) := by simp [insE]
      rw [e]
      refine List.pairwise_cons.2 ⟨fun z hz => ?_, srt_insE hs'.2 hh.2⟩
      rcases mem_insE.1 hz with rfl | hz
      · exact hx
      · exact hs'.1 z hz
    · rw [posE_cons_ge hs hx]
      have e : insE (x :: xs) 0 (p, k) = (p, k) :: x :: xs := by simp [insE]
      rw [e]
      refine List.pairwise_cons.2 ⟨fun z hz => ?_, hs⟩
      have hpx : p < x.1 := by have := hh.1; omega
      rcases List.mem_cons.1 hz with rfl | hz
      · exact hpx
      · exact Int.lt_trans hpx (hs'.1 z hz)

/-- a child is made -/
def addT (l : List Nd) (i : Nat) (p : Int) : List Nd :=
  l.set i { l.getD i default with kids := insE (l.getD i default).kids (posE (l.getD i default).kids p) (p, l.length) } ++ [⟨i, p, (l.getD i default).depth + 1, [], []⟩]
/-- the rest of a word is made -/
def putT : List Nd → Nat → List Int → List Nd × Nat
  | l, i, [] => (l, i)
  | l, i, p :: r => putT (addT l i p) l.length r
/-- a word ends -/
def endT (l : List Nd) (i : Nat) (k : Int) : List Nd := l.set i { l.getD i default with words := (l.getD i default).words ++ [k] }
/-- the tree behind a word -/
def putN (l : List Nd) (xs : List Int) : List Nd × Nat := putT l (walkT l 0 xs).1.toNat (xs.drop (walkT l 0 xs).2)

structure WfT (l : List Nd) (n : Nat) : Prop where
  pos : 0 < l.length
  kn : ∀ x ∈ l, x.kids.length < l.length
  srt : ∀ x ∈ l, Srt x.kids
  up : ∀ (i : Nat) (h : i < l.length), 0 < i → 0 ≤ (l[i]).up ∧ (l[i]).up < i
  kr : ∀ x ∈ l, ∀ e ∈ x.kids, 0 < e.2 ∧ e.2 < l.length
  wn : ∀ x ∈ l, x.words.length ≤ n
  dp : ∀ x ∈ l, 0 ≤ x.depth ∧ x.depth < l.length
theorem WfT.good {l : List Nd} {n : Nat} (h : WfT l n) (hl : l.length ≤ 1048576) : GoodT l :=
  ⟨hl, fun x hx => by have := h.kn x hx; omega, h.srt, h.up⟩
theorem WfT.one : WfT [⟨-1, 0, 0, [], []⟩] 0 := by
  refine ⟨by simp, ?_, ?_, ?_, ?_, ?_, ?_⟩
  · intro x hx; rw [List.mem_singleton] at hx; subst hx; simp
  · intro x hx; rw [List.mem_singleton] at hx; subst hx; simp [Srt]
  · intro i h h0; simp at h; omega
  · intro x hx e he; rw [List.mem_singleton] at hx; subst hx; simp at he
  · intro x hx; rw [List.mem_singleton] at hx; subst hx; simp
  · intro x hx; rw [List.mem_singleton] at hx; subst hx; simp
theorem getD_eq {l : List Nd} {i : Nat} (h : i < l.length) : l.getD i default = l[i] := by simp [List.getD_eq_getElem?_getD, h]
theorem addT_len (l : List Nd) (i : Nat) (p : Int) : (addT l i p).length = l.length + 1 := by simp [addT]
theorem addT_last (l : List Nd) (i : Nat) (p : Int) : (addT l i p)[l.length]? = some ⟨i, p, (l.getD i default).depth + 1, [], []⟩ := by
  unfold addT
  rw [List.getElem?_append_right (by rw [List.length_set]; exact Nat.le_refl _), List.length_set, Nat.sub_self]; rfl
theorem mem_addT {l : List Nd} {i : Nat} {p : Int} {x : Nd} (hi : i < l.length) (hx : x ∈ addT l i p) : x ∈ l ∨ x = { l[i] with kids := insE l[i].kids (posE l[i].kids p) (p, l.length) } ∨ x = ⟨i, p, l[i].depth + 1, [], []⟩ := by
  unfold addT at hx
  rw [getD_eq hi] at hx
  rcases List.mem_append.1 hx with hx | hx
  · rcases List.mem_or_eq_of_mem_set hx with hx | hx
    · exact .inl hx
    · exact .inr (.inl hx)
  · exact .inr (.inr (List.mem_singleton.1 hx))
theorem addT_at (l : List Nd) (i : Nat) (p : Int) {j : Nat} (hj : j < l.length) : (addT l i p)[j]? = some (if i = j then { l.getD i default with kids := insE (l.getD i default).kids (posE (l.getD i default).kids p) (p, l.length) } else l[j]) := by
  unfold addT
  rw [List.getElem?_append_left (by rw [List.length_set]; exact hj), List.getElem?_set]
  split
  · rename_i hij
    subst hij
    rw [if_pos hj]
  · rw [List.getElem?_eq_getElem hj]
theorem addT_get (l : List Nd) (i : Nat) (p : Int) {j : Nat} (hj : j < l.length) (h : j < (addT l i p).length) : (addT l i p)[j].up = l[j].up ∧ (addT l i p)[j].p = l[j].p ∧ (addT l i p)[j].depth = l[j].depth ∧ (addT l i p)[j].words = l[j].words := by
  have e := addT_at l i p hj
  rw [List.getElem?_eq_getElem h] at e
  rw [Option.some.inj e]
  split
  · rename_i hij
    subst hij
    rw [getD_eq hj]
    exact ⟨rfl, rfl, rfl, rfl⟩
  · exact ⟨rfl, rfl, rfl, rfl⟩
theorem WfT.add {l : List Nd} {n : Nat} (h : WfT l n) {i : Nat} {p : Int} (hi : i < l.length) (hp : hasE l[i].kids p = false) : WfT (addT l i p) n := by
  refine ⟨by rw [addT_len]; omega, ?_, ?_, ?_, ?_, ?_, ?_⟩
  · intro x hx
    rw [addT_len]
    rcases mem_addT hi hx with hx | rfl | rfl
    · have := h.kn x hx; omega
    · have := h.kn _ (List.getElem_mem hi)
      show (insE _ _ _).length < _
      rw [insE_len (posE_le _ _)]; omega
    · simp
  · intro x hx
    rcases mem_addT hi hx with hx | rfl | rfl
    · exact h.srt x hx
    · exact srt_insE (h.srt _ (List.getElem_mem hi)) hp
    · exact List.Pairwise.nil
  · intro j hj h0
    by_cases hjl : j < l.length
    · rw [(addT_get l i p hjl hj).1]
      exact h.up j hjl h0
    · have e : j = l.length := by rw [addT_len] at hj; omega
      subst e
      have := addT_last l i p
      rw [List.getElem?_eq_getElem hj] at this
      rw [Option.some.inj this]
      show (0 : Int) ≤ (i : Int) ∧ (i : Int) < (l.length : Int)
      omega
  · intro x hx e he
    rw [addT_len]
    rcases mem_addT hi hx with hx | rfl | rfl
    · have := h.kr x hx e he; omega
    · rcases mem_insE.1 he with rfl | he
      · show (0 : Int) < (l.length : Int) ∧ (l.length : Int) < _
        omega
      · have := h.kr _ (List.getElem_mem hi) e he; omega
    · simp at he
  · intro x hx
    rcases mem_addT hi hx with hx | rfl | rfl
    · exact h.wn x hx
    · exact h.wn l[i] (List.getElem_mem hi)
    · simp
  · intro x hx
    rw [addT_len]
    rcases mem_addT hi hx with hx | rfl | rfl
    · have := h.dp x hx; omega
    · have := h.dp l[i] (List.getElem_mem hi)
      show 0 ≤ l[i].depth ∧ l[i].depth < _
      omega
    · have := h.dp l[i] (List.getElem_mem hi)
      show 0 ≤ l[i].depth + 1 ∧ l[i].depth + 1 < _
      omega
theorem WfT.putT {n : Nat} : ∀ {xs : List Int} {l : List Nd} {i : Nat}, WfT l n → i < l.length → (∀ p r, xs = p :: r → hasE (l.getD i default).kids p = false) → WfT (putT l i xs).1 n ∧ (putT l i xs).2 < (putT l i xs).1.length ∧ (putT l i xs).1.length = l.length + xs.length
  | [], l, i, h, hi, _ => ⟨h, hi, rfl⟩
  | p :: r, l, i, h, hi, hp => by
    have hp' := hp p r rfl
    rw [getD_eq hi] at hp'
    obtain ⟨g1, g2, g3⟩ := WfT.putT (xs := r) (h.add hi hp') (i := l.length) (by rw [addT_len]; omega) (fun q t _ => by
      rw [List.getD_eq_getElem?_getD, addT_last]; rfl)
    refine ⟨g1, g2, ?_⟩
    show (Ytpgphhkhjbhimaa.putT (addT l i p) l.length r).1.length = _
    rw [g3, addT_len, List.length_cons]; omega
theorem WfT.end {l : List Nd} {n : Nat} (h : WfT l n) {i : Nat} (k : Int) (hi : i < l.length) : WfT (endT l i k) (n + 1) := by
  have hm : ∀ x ∈ endT l i k, x ∈ l ∨ x = { l[i] with words := l[i].words ++ [k] } := fun x hx => by
    unfold endT at hx
    rw [getD_eq hi] at hx
    exact List.mem_or_eq_of_mem_set hx
  have hl : (endT l i k).length = l.length := by simp [endT]
  refine ⟨by rw [hl]; exact h.pos, ?_, ?_, ?_, ?_, ?_, ?_⟩
  · intro x hx
    rw [hl]
    rcases hm x hx with hx | rfl
    · exact h.kn x hx
    · exact h.kn l[i] (List.getElem_mem hi)
  · intro x hx
    rcases hm x hx with hx | rfl
    · exact h.srt x hx
    · exact h.srt l[i] (List.getElem_mem hi)
  · intro j hj h0
    rw [hl] at hj
    have e : (endT l i k)[j]'(by rw [hl]; exact hj) = if i = j then { l.getD i default with words := (l.getD i default).words ++ [k] } else l[j] := by
      unfold endT; rw [List.getElem_set]
    rw [e]
    split
    · rename_i hij
      subst hij
      rw [getD_eq hi]
      exact h.up i hi h0
    · exact h.up j hj h0
  · intro x hx e he
    rw [hl]
    rcases hm x hx with hx | rfl
    · exact h.kr x hx e he
    · exact h.kr l[i] (List.getElem_mem hi) e he
  · intro x hx
    rcases hm x hx with hx | rfl
    · have := h.wn x hx; omega
    · have := h.wn l[i] (List.getElem_mem hi)
      show (l[i].words ++ [k]).length ≤ _
      rw [List.length_append]; simp; omega
  · intro x hx
    rw [hl]
    rcases hm x hx with hx | rfl
    · exact h.dp x hx
    · exact h.dp l[i] (List.getElem_mem hi)
theorem childT_of {l : List Nd} {n : Nat} (h : WfT l n) {i p : Int} (hc : childT l i p ≠ -1) : 0 < childT l i p ∧ childT l i p < l.length := by
  unfold childT at hc ⊢
  split at hc
  · rename_i hin
    obtain ⟨k, rfl, hk⟩ := inB_true hin
    rw [if_pos hin, Int.toNat_natCast, getD_eq hk] at *
    split at hc
    · rename_i hh
      rw [if_pos hh]
      obtain ⟨hlt, _⟩ := hasE_pos (h.srt _ (List.getElem_mem hk)) hh
      rw [List.getD_eq_getElem?_getD, List.getElem?_eq_getElem hlt]
      exact h.kr _ (List.getElem_mem hk) _ (List.getElem_mem hlt)
    · exact absurd rfl hc
  · exact absurd rfl hc
theorem childT_none {l : List Nd} {n : Nat} (h : WfT l n) {i : Nat} {p : Int} (hi : i < l.length) (hc : childT l i p = -1) : hasE l[i].kids p = false := by
  unfold childT at hc
  rw [if_pos (inB_nat hi), Int.toNat_natCast, getD_eq hi] at hc
  by_cases hh : hasE l[i].kids p = true
  · rw [if_pos hh] at hc
    obtain ⟨hlt, _⟩ := hasE_pos (h.srt _ (List.getElem_mem hi)) hh
    rw [List.getD_eq_getElem?_getD, List.getElem?_eq_getElem hlt] at hc
    have := h.kr _ (List.getElem_mem hi) _ (List.getElem_mem hlt)
    simp only [Option.getD_some] at hc
    omega
  · simpa using hh
theorem walkT_of {l : List Nd} {n : Nat} (h : WfT l n) : ∀ (xs : List Int) (i : Nat), i < l.length → ∃ j : Nat, (walkT l i xs).1 = j ∧ j < l.length ∧ (walkT l i xs).2 ≤ xs.length ∧ ∀ p r, xs.drop (walkT l i xs).2 = p :: r → hasE (l.getD j default).kids p = false
  | [], i, hi => ⟨i, rfl, hi, Nat.le_refl _, fun p r e => by simp [walkT] at e⟩
  | p :: r, i, hi => by
    by_cases hc : childT l i p = -1
    · refine ⟨i, by simp only [walkT, if_pos hc], hi, by simp only [walkT, if_pos hc]; omega, fun q t e => ?_⟩
      simp only [walkT, if_pos hc, List.drop_zero, List.cons.injEq] at e
      obtain ⟨rfl, rfl⟩ := e
      rw [getD_eq hi]
      exact childT_none h hi hc
    · obtain ⟨h1, h2⟩ := childT_of h hc
      obtain ⟨k, hk⟩ : ∃ k : Nat, childT l i p = k := ⟨(childT l i p).toNat, by omega⟩
      obtain ⟨j, e1, e2, e3, e4⟩ := walkT_of h r k (by omega)
      refine ⟨j, ?_, e2, ?_, fun q t e => ?_⟩
      · simp only [walkT, if_neg hc]; rw [hk]; exact e1
      · simp only [walkT, if_neg hc]; rw [hk, List.length_cons]; omega
      · simp only [walkT, if_neg hc, List.drop_succ_cons] at e
        rw [hk] at e
        exact e4 q t e
end Go.Proofs.Ytpgphhkhjbhimaa
