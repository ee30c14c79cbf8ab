/- Plain words: trees and words behind many puts. -/
import Derived.Test.YtpgphhkhjbhimaaTie
namespace Go.Proofs.Ytpgphhkhjbhimaa
open Go.RowKit X

theorem putF_old : ∀ (xs : List Int) {L : List (List Int)} {pre : List Int} {i : Nat}, i < L.length → pa (putF L pre xs) i = pa L i ∧ L.length ≤ (putF L pre xs).length
  | [], L, pre, i, _ => ⟨rfl, Nat.le_refl _⟩
  | p :: r, L, pre, i, hi => by
    simp only [putF]
    split
    · obtain ⟨h1, h2⟩ := putF_old r (L := L ++ [pre ++ [p]]) (pre := pre ++ [p]) (i := i) (by rw [List.length_append]; omega)
      rw [List.length_append] at h2
      exact ⟨by rw [h1, pa_left hi], by omega⟩
    · exact putF_old r hi
theorem nd_addT_words (l : List Nd) (i : Nat) (p : Int) (j : Nat) (hi : i < l.length) : (nd (addT l i p) j).words = if j < l.length then (nd l j).words else (nd (addT l i p) j).words := by
  split
  · rename_i hj
    by_cases hij : i = j
    · subst hij; rw [nd_addT_same hi]
    · rw [nd_addT_old hj hij]
  · rfl
theorem putT_words : ∀ (xs : List Int) {l : List Nd} {i j : Nat}, i < l.length → j < (putT l i xs).1.length → (nd (putT l i xs).1 j).words = if j < l.length then (nd l j).words else []
  | [], l, i, j, _, hj => by
    have hj' : j < l.length := hj
    simp only [putT]
    rw [if_pos hj']
  | p :: r, l, i, j, hi, hj => by
    have ih := putT_words r (l := addT l i p) (i := l.length) (j := j) (by rw [addT_len]; omega) hj
    simp only [putT]
    rw [ih, addT_len]
    by_cases h1 : j < l.length
    · rw [if_pos h1, if_pos (by omega), nd_addT_words l i p j hi, if_pos h1]
    · rw [if_neg h1]
      split
      · have e : j = l.length := by omega
        subst e
        rw [nd_addT_new]
      · rfl

/-- the words' numbers that end at a node -/
def endsAt (ws : List Int) (i : Nat) : List Int := ((List.range ws.length).filter (fun k => decide (ws.getD k 0 = (i : Int)))).map (fun k : Nat => (k : Int))
theorem endsAt_push (ws : List Int) (x : Int) (i : Nat) : endsAt (ws ++ [x]) i = endsAt ws i ++ (if x = (i : Int) then [(ws.length : Int)] else []) := by
  unfold endsAt
  rw [List.length_append, List.length_singleton, List.range_succ, List.filter_append, List.map_append]
  congr 1
  · congr 1
    apply List.filter_congr
    intro k hk
    rw [List.mem_range] at hk
    rw [List.getD_eq_getElem?_getD, List.getElem?_append_left hk, List.getD_eq_getElem?_getD]
  · have e : (ws ++ [x]).getD ws.length 0 = x := by simp [List.getD_eq_getElem?_getD]
    by_cases hx : x = (i : Int)
    · simp [hx]
    · rw [if_neg hx]
      simp only [List.filter_cons, e, List.filter_nil, decide_eq_true_eq]
      rw [if_neg hx]; rfl

structure St (l : List Nd) (ws : List Int) (L W : List (List Int)) : Prop where
  tie : Tie l L
  wf : WfT l ws.length
  wlen : ws.length = W.length
  at_ : ∀ k, k < W.length → ∃ j : Nat, ws.getD k 0 = j ∧ j < l.length ∧ pa L j = pa W k
  words : ∀ i, i < l.length → (nd l i).words = endsAt ws i
  rup : (nd l 0).up = -1
theorem putT_up : ∀ (xs : List Int) {l : List Nd} {i j : Nat}, i < l.length → j < l.length → (nd (putT l i xs).1 j).up = (nd l j).up
  | [], _, _, _, _, _ => rfl
  | p :: r, l, i, j, hi, hj => by
    simp only [putT]
    rw [putT_up r (l := addT l i p) (i := l.length) (by rw [addT_len]; omega) (by rw [addT_len]; omega)]
    by_cases hij : i = j
    · subst hij; rw [nd_addT_same hi]
    · rw [nd_addT_old hj hij]
theorem endT_up (l : List Nd) (j : Nat) (k : Int) (i : Nat) : (nd (endT l j k) i).up = (nd l i).up := by
  unfold nd endT
  rw [List.getD_eq_getElem?_getD, List.getElem?_set]
  by_cases hij : j = i
  · subst hij
    rw [if_pos rfl]
    split
    · rfl
    · rename_i h
      rw [List.getD_eq_getElem?_getD, List.getElem?_eq_none (by omega)]
  · rw [if_neg hij, List.getD_eq_getElem?_getD]
theorem St.one : St [⟨-1, 0, 0, [], []⟩] [] [[]] [] := by
  refine ⟨Tie.one, WfT.one, rfl, fun k hk => by simp at hk, fun i hi => ?_, rfl⟩
  obtain rfl : i = 0 := by simpa using hi
  rfl
theorem St.put {l : List Nd} {ws : List Int} {L W : List (List Int)} (h : St l ws L W) (xs : List Int) :
    St (endT (putN l xs).1 (putN l xs).2 ws.length) (ws ++ [((putN l xs).2 : Int)]) (putL L xs xs.length) (W ++ [xs]) ∧ (endT (putN l xs).1 (putN l xs).2 ws.length).length ≤ l.length + xs.length - (walkT l 0 xs).2 := by
  obtain ⟨j0, w1, w2, w3, w4⟩ := walkT_of h.wf xs 0 h.wf.pos
  obtain ⟨j, e1, g1, g2, g3⟩ := h.tie.put h.wf xs h.wf.pos
  rw [show ((0 : Nat) : Int) = 0 from rfl] at w1 w3 w4 e1 g1 g2 g3
  have hj0 : j0 = j := by rw [w1] at e1; omega
  subst hj0
  obtain ⟨f1, f2, f3⟩ := WfT.putT h.wf w2 w4
  have hPN : putN l xs = putT l j0 (xs.drop (walkT l 0 xs).2) := by unfold putN; rw [w1]; rfl
  rw [← hPN] at g1 g2 g3 f1 f2 f3
  have hr : pa L 0 = [] := h.tie.root
  rw [hr] at g1 g2
  rw [putL_all]
  rw [List.nil_append] at g2
  have hll : (endT (putN l xs).1 (putN l xs).2 ws.length).length = (putN l xs).1.length := by simp [endT]
  have hwl := h.wlen
  refine ⟨⟨g1.end g3 _, ?_, ?_, ?_, ?_, by rw [endT_up, hPN, putT_up _ w2 h.wf.pos]; exact h.rup⟩, ?_⟩
  · rw [List.length_append, List.length_singleton]
    exact f1.end _ g3
  · rw [List.length_append, List.length_append, hwl]; rfl
  · intro k hk
    rw [hll]
    rw [List.length_append, List.length_singleton] at hk
    by_cases hkl : k < W.length
    · obtain ⟨j, a1, a2, a3⟩ := h.at_ k hkl
      refine ⟨j, ?_, ?_, ?_⟩
      · rw [List.getD_eq_getElem?_getD, List.getElem?_append_left (by omega), ← List.getD_eq_getElem?_getD]; exact a1
      · rw [f3]; omega
      · rw [(putF_old xs (by rw [← h.tie.len]; exact a2)).1, a3, pa_left hkl]
    · have e : k = W.length := by omega
      subst e
      refine ⟨(putN l xs).2, ?_, g3, ?_⟩
      · rw [List.getD_eq_getElem?_getD, ← hwl]; simp
      · rw [g2, pa_last]
  · intro i hi
    rw [hll] at hi
    rw [endsAt_push]
    have hpw : (nd (putN l xs).1 i).words = endsAt ws i := by
      rw [hPN, putT_words _ w2 (by rw [← hPN]; exact hi)]
      split
      · rename_i hil
        exact h.words i hil
      · rename_i hil
        unfold endsAt
        symm
        rw [List.map_eq_nil_iff, List.filter_eq_nil_iff]
        intro k hk
        rw [List.mem_range, hwl] at hk
        obtain ⟨j, a1, a2, _⟩ := h.at_ k hk
        rw [a1]
        simp only [decide_eq_true_eq]
        omega
    unfold nd endT
    rw [List.getD_eq_getElem?_getD, List.getElem?_set]
    by_cases hij : (putN l xs).2 = i
    · subst hij
      rw [if_pos rfl, if_pos g3, if_pos rfl, Option.getD_some, ← hpw]
    · rw [if_neg hij, if_neg (by omega), List.append_nil, ← hpw, ← List.getD_eq_getElem?_getD]
  · rw [hll, f3, List.length_drop]; omega
end Go.Proofs.Ytpgphhkhjbhimaa
