/- As many templates, and pixels, as there may be: no program in sight. -/
import Derived.Test.YtnmlonicfncpfaaDTalL
namespace Go.Proofs.Ytnmlonicfncpfaa
open Go.RowKit X
set_option maxRecDepth 8000
def dot : Pic := ⟨1, 9, ⟨1, 1, [px0]⟩⟩
theorem dot_flat : dot = flatG 1 1 1 := rfl
theorem dot_may : mayG dot = true := by rw [dot_flat]; exact flatG_may (by decide)
theorem dot_lay : layP dot.x 0 = dot.x := by decide +kernel
def dotT : Tm := ⟨dot, [0], [0]⟩
def fullD (k : Nat) : DS := ⟨List.replicate k dotT, if k = 0 then [] else [dot], if k = 0 then 0 else 1⟩
theorem full_ok {k : Nat} (h : k < 64) : addD (fullD k) dot [0] = (fullD (k + 1), (k : Int), (0 : Int)) := by
  have hl : (fullD k).L.length = k := List.length_replicate ..
  have hs : (⟨dot.c, dot.m, layP dot.x (0 : Int).toNat⟩ : Pic) = dot := by show (⟨1, 9, layP dot.x 0⟩ : Pic) = dot; rw [dot_lay]; rfl
  by_cases h0 : k = 0
  · subst h0
    rw [add_one_new (g := 0) dot_may (by decide) (by decide +kernel) (by simp [fullD]), if_neg (by rw [hl]; simp [fullD, dot]), hs]
    rfl
  · rw [add_one_old (g := 0) dot_may (by decide) (by decide +kernel) (by rw [hs]; simp [fullD, h0]), if_neg (by rw [hl]; simp [fullD, h0]; omega), hs, hl]
    unfold fullD
    simp only [h0, if_false, Nat.succ_ne_zero]
    rw [List.replicate_succ', show idxI [dot] dot = 0 by decide +kernel]
    rfl
theorem full_no : addD (fullD 64) dot [0] = (fullD 64, -1, 8) := by
  have hs : (⟨dot.c, dot.m, layP dot.x (0 : Int).toNat⟩ : Pic) = dot := by show (⟨1, 9, layP dot.x 0⟩ : Pic) = dot; rw [dot_lay]; rfl
  rw [add_one_old (g := 0) dot_may (by decide) (by decide +kernel) (by rw [hs]; simp [fullD]), if_pos (.inl (List.length_replicate ..))]
theorem full_own (k : Nat) : ownersP (fullD k).L 0 = (List.range k).map fun i : Nat => ((i : Int), (0 : Int)) := by
  have hl : (fullD k).L.length = k := List.length_replicate ..
  unfold ownersP
  rw [hl]
  have key : ∀ m, m ≤ k → ((List.range m).flatMap fun i => ownT i ((fullD k).L.getD i default) 0) = (List.range m).map fun i : Nat => ((i : Int), (0 : Int)) := by
    intro m
    induction m with
    | zero => intro _; rfl
    | succ m ih =>
      intro hm
      have hg : (fullD k).L.getD m default = dotT := by
        show (List.replicate k dotT).getD m default = dotT
        rw [List.getD_eq_getElem?_getD, List.getElem?_replicate, if_pos (by omega : m < k)]
        rfl
      rw [flatR_succ, ih (by omega), hg, List.range_succ, List.map_append]
      rfl
  exact key k (Nat.le_refl k)
theorem full_tms (k : Nat) : ∀ t ∈ (fullD k).L, t.turns.length ≤ 1000 ∧ t.whr.length = t.turns.length := by
  intro t ht
  have ht : t ∈ List.replicate k dotT := ht
  rw [List.eq_of_mem_replicate ht]
  decide
theorem big_add (h : Nat) (h1 : 254 ≤ h) (h2 : h ≤ 258) : (h ≤ 256 ∧ ∃ t v, addD ⟨[], [], 0⟩ (flatG 256 h (256 * h)) [0, 2] = (⟨[t], [⟨1, 9, v⟩], 256 * h⟩, 0, 0) ∧ v.w = 256) ∨ (256 < h ∧ addD ⟨[], [], 0⟩ (flatG 256 h (256 * h)) [0, 2] = (⟨[], [], 0⟩, -1, 8)) := by
  have hp : ([0, 2] : List Int).Pairwise (· < ·) := by decide
  have hm : mayG (flatG 256 h (256 * h)) = true := flatG_may ⟨by omega, by omega, by omega, by omega, rfl, by omega⟩
  have hn : ((256 * h : Nat) : Int) = ((256 : Nat) : Int) * (h : Int) := by simp
  obtain ⟨x, hx⟩ : ∃ x, (flatG 256 h (256 * h)).x = x := ⟨_, rfl⟩
  obtain ⟨v, hv⟩ : ∃ v, layP (flatG 256 h (256 * h)).x 0 = v := ⟨_, rfl⟩
  have hv2 : layP (flatG 256 h (256 * h)).x 2 = v := by
    rw [← hv, lay_flat hn (by decide) (by decide) (by omega), lay_flat hn (by decide) (by decide) (by omega)]
    rfl
  have hvw : v.w = 256 := by rw [← hv, lay_flat hn (by decide) (by decide) (by omega)]; rfl
  have hvl : v.l.length = 256 * h := by rw [← hv, layP_len]; exact List.length_replicate ..
  have hz : sizedP ((256 : Nat) : Int) (h : Int) = true := by rw [sizedP_iff]; omega
  have h0 : layOk (flatG 256 h (256 * h)).x (0 : Int).toNat = true := hz
  have h3 : layOk (flatG 256 h (256 * h)).x (2 : Int).toNat = true := hz
  have ho : orbP (flatG 256 h (256 * h)).x [0, 2] = ([v], [0, 0]) := by
    unfold orbP
    rw [List.foldl_cons, List.foldl_cons, List.foldl_nil]
    unfold orbS
    rw [h0, h3, show (0 : Int).toNat = 0 from rfl, show (2 : Int).toNat = 2 from rfl, hv, hv2]
    simp [idxI]
  have ha : [v].foldl (addV 1 9) ([], [], 0) = ([(⟨1, 9, v⟩ : Pic)], [(0 : Int)], (256 * h : Int)) := by
    rw [List.foldl_cons, List.foldl_nil, addV_out (by simp), hvl]
    simp
  have key : addD ⟨[], [], 0⟩ (flatG 256 h (256 * h)) [0, 2] = if (0 : Nat) = 64 ∨ 65536 < (256 * h : Int) then ((⟨[], [], 0⟩ : DS), (-1 : Int), (8 : Int)) else ((⟨[⟨flatG 256 h (256 * h), [0, 2], [0, 0]⟩], [⟨1, 9, v⟩], 256 * h⟩ : DS), (0 : Int), (0 : Int)) := by
    unfold addD
    rw [if_pos ⟨hm, mayTs_rising hp (by decide) (by decide)⟩, rising_sort hp, ho]
    dsimp only
    rw [if_neg (by simp)]
    have hc : (flatG 256 h (256 * h)).c = 1 ∧ (flatG 256 h (256 * h)).m = 9 := ⟨rfl, rfl⟩
    rw [hc.1, hc.2, ha]
    rfl
  rw [key]
  by_cases hc : h ≤ 256
  · exact .inl ⟨hc, _, v, by rw [if_neg (by omega)], hvw⟩
  · exact .inr ⟨by omega, by rw [if_pos (by omega)]⟩
theorem big_dot (t : Tm) (v : Mx) (hv : v.w = 256) (h : Nat) (h1 : 254 ≤ h) (h2 : h ≤ 256) : (h = 256 ∧ addD ⟨[t], [⟨1, 9, v⟩], 256 * h⟩ dot [0] = (⟨[t], [⟨1, 9, v⟩], 256 * h⟩, -1, 8)) ∨ (h ≠ 256 ∧ ∃ D k, addD ⟨[t], [⟨1, 9, v⟩], 256 * h⟩ dot [0] = (D, k, 0)) := by
  have hn : (⟨dot.c, dot.m, layP dot.x (0 : Int).toNat⟩ : Pic) ∉ [(⟨1, 9, v⟩ : Pic)] := by
    show (⟨1, 9, layP dot.x 0⟩ : Pic) ∉ _
    rw [dot_lay, List.mem_singleton]
    intro e
    injection e with _ _ e
    have : dot.x.w = v.w := by rw [e]
    rw [hv] at this
    exact absurd this (by decide)
  have e1 : (dot.x.l.length : Int) = 1 := by decide
  by_cases hc : h = 256
  · refine .inl ⟨hc, ?_⟩
    rw [add_one_new (g := 0) dot_may (by decide) (by decide +kernel) hn, if_pos (.inr (by rw [e1]; dsimp only; omega))]
  · refine .inr ⟨hc, ⟨[t] ++ [⟨dot, [0], [1]⟩], [⟨1, 9, v⟩] ++ [⟨1, 9, layP dot.x 0⟩], 256 * h + 1⟩, 1, ?_⟩
    rw [add_one_new (g := 0) dot_may (by decide) (by decide +kernel) hn, if_neg (by rw [e1]; simp; omega)]
    rfl
end Go.Proofs.Ytnmlonicfncpfaa
