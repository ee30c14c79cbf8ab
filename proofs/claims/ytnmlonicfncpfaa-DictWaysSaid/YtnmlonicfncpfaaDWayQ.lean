/- All ways to lay a small template, twice: no program in sight. -/
import Derived.Test.YtnmlonicfncpfaaDWayP
namespace Go.Proofs.Ytnmlonicfncpfaa.X
def sumN (n : Nat) (f : Nat → Nat) : Nat := ((List.range n).map f).sum
theorem sumN_succ (n : Nat) (f : Nat → Nat) : sumN (n + 1) f = sumN n f + f n := by unfold sumN; rw [List.range_succ, List.map_append, List.sum_append]; simp
theorem sumN_congr {n : Nat} {f g : Nat → Nat} (h : ∀ i, i < n → f i = g i) : sumN n f = sumN n g := by
  unfold sumN
  rw [List.map_congr_left fun i hi => h i (List.mem_range.1 hi)]
theorem sumN_add (n : Nat) (f g : Nat → Nat) : sumN n (fun i => f i + g i) = sumN n f + sumN n g := by
  induction n with
  | zero => rfl
  | succ n ih => rw [sumN_succ, sumN_succ, sumN_succ, ih]; omega
theorem sumN_zero (n : Nat) : sumN n (fun _ => 0) = 0 := by
  induction n with
  | zero => rfl
  | succ n ih => rw [sumN_succ, ih]
theorem sumN_swap (n k : Nat) (g : Nat → Nat → Nat) : sumN n (fun v => sumN k (fun i => g v i)) = sumN k (fun i => sumN n (fun v => g v i)) := by
  induction n with
  | zero => exact (sumN_zero k).symm
  | succ n ih => rw [sumN_succ, ih, ← sumN_add]; exact sumN_congr fun i _ => (sumN_succ n fun v => g v i).symm
theorem sumN_ind (n : Nat) (a : Int) (h0 : 0 ≤ a) (h1 : a < n) : sumN n (fun v => if a = (v : Int) then 1 else 0) = 1 := by
  have key : ∀ n : Nat, sumN n (fun v => if a = (v : Int) then 1 else 0) = if a < n then 1 else 0 := by
    intro n
    induction n with
    | zero => rw [if_neg (by omega)]; rfl
    | succ n ih =>
      rw [sumN_succ, ih]
      by_cases e : a = (n : Int)
      · rw [if_neg (by omega), if_pos e, if_pos (by omega)]
      · rw [if_neg e]
        by_cases h : a < n
        · rw [if_pos h, if_pos (by omega)]
        · rw [if_neg h, if_neg (by omega)]
  rw [key, if_pos h1]
theorem sumN_one (n : Nat) : sumN n (fun _ => 1) = n := by
  induction n with
  | zero => rfl
  | succ n ih => rw [sumN_succ, ih]
end Go.Proofs.Ytnmlonicfncpfaa.X
namespace Go.Proofs.Ytnmlonicfncpfaa
open Go.RowKit X
set_option maxRecDepth 8000
theorem len_flatR {α : Type} (k : Nat) (f : Nat → List α) : ((List.range k).flatMap f).length = sumN k fun i => (f i).length := by
  unfold sumN
  rw [List.length_flatMap]
/-- every turn of every template is one owner -/
theorem owners_all {L : List Tm} {n : Nat} (h : ∀ t ∈ L, t.whr.length = t.turns.length ∧ ∀ i ∈ t.whr, 0 ≤ i ∧ i < n) : sumN n (fun v => (ownersP L v).length) = sumN L.length fun i => (L.getD i default).turns.length := by
  have e : ∀ v : Nat, (ownersP L v).length = sumN L.length fun i => sumN (L.getD i default).turns.length fun k => if (L.getD i default).whr.getD k 0 = (v : Int) then 1 else 0 := fun v => by
    unfold ownersP
    rw [len_flatR]
    refine sumN_congr fun i _ => ?_
    unfold ownT
    rw [len_flatR]
    refine sumN_congr fun k _ => ?_
    unfold own1
    split <;> rfl
  rw [sumN_congr fun v _ => e v, sumN_swap]
  refine sumN_congr fun i hi => ?_
  have hm : L.getD i default ∈ L := by rw [List.getD_eq_getElem?_getD, List.getElem?_eq_getElem hi]; exact List.getElem_mem hi
  obtain ⟨h1, h2⟩ := h _ hm
  generalize L.getD i default = t at h1 h2
  rw [sumN_swap]
  rw [sumN_congr (g := fun _ => 1)]
  · exact sumN_one _
  · intro k hk
    have hk' : k < t.whr.length := by omega
    have hg : t.whr.getD k 0 ∈ t.whr := by rw [List.getD_eq_getElem?_getD, List.getElem?_eq_getElem hk']; exact List.getElem_mem hk'
    exact sumN_ind n _ (h2 _ hg).1 (h2 _ hg).2
theorem exT_in : ∀ g ∈ exT, 0 ≤ g ∧ g < 8 := by decide
theorem DOk.whr {D : DS} {l : List Tv} (h : DOk D l) : ∀ t ∈ D.L, t.whr.length = t.turns.length ∧ ∀ i ∈ t.whr, 0 ≤ i ∧ i < D.V.length := by
  intro t ht
  rw [h.t] at ht
  obtain ⟨u, hu, rfl⟩ := List.mem_map.1 ht
  refine ⟨by unfold tmOf; simp, fun i hi => ?_⟩
  obtain ⟨g, hg, rfl⟩ := List.mem_map.1 hi
  obtain ⟨e, hl⟩ := idxI_in (show layT u g ∈ D.V by rw [h.v]; exact vars_mem l [] u g hu hg)
  omega
theorem DOk.tm {D : DS} {l : List Tv} (h : DOk D l) (hs : ∀ t ∈ l, SmT t) : ∀ t ∈ D.L, t.turns.length ≤ 1000 ∧ t.whr.length = t.turns.length := by
  intro t ht
  refine ⟨?_, (h.whr t ht).1⟩
  rw [h.t] at ht
  obtain ⟨u, hu, rfl⟩ := List.mem_map.1 ht
  have := (hs u hu).few
  show u.turns.length ≤ 1000
  omega
theorem DOk.small {D : DS} {l : List Tv} (h : DOk D l) (hs : ∀ t ∈ l, SmT t) (hn : l.length ≤ 20) : D.L.length = l.length ∧ D.V.length ≤ 160 ∧ 0 ≤ D.ar ∧ D.ar ≤ 40960 := by
  obtain ⟨-, h2, -⟩ := vars_small l hs
  obtain ⟨h3, h4⟩ := area_small l hs
  refine ⟨by rw [h.t, List.length_map], by rw [h.v]; omega, by rw [h.a, h.v]; exact h4, by rw [h.a, h.v]; omega⟩
theorem ways_law {p : Pic} (h : Small p) {a : Nat} (ha : a < 8) : ∃ (D1 D2 : DS) (n : Nat), addD ⟨[], [], 0⟩ p exT = (D1, 0, 0) ∧ addD D1 ⟨p.c, p.m, layP p.x a⟩ exT = (D2, 1, 0) ∧ D1.V.length = n ∧ D2.V.length = n ∧ 0 < n ∧ n ≤ 8 ∧ 8 % n = 0 ∧ (varsP [⟨p, exT⟩]).length = n ∧
    sumN n (fun v => (ownersP D2.L v).length) = 16 ∧ (D1.L.length = 1 ∧ 0 ≤ D1.ar ∧ D1.ar ≤ 40960) ∧ D2.L.length = 2 ∧ ∀ t ∈ D2.L, t.turns.length ≤ 1000 ∧ t.whr.length = t.turns.length := by
  have hq := small_lay h ha
  have s1 : SmT ⟨p, exT⟩ := ⟨h, (by decide : 0 < exT.length), (by decide : exT.length ≤ 8), exT_in, exT_rising⟩
  have s2 : SmT ⟨⟨p.c, p.m, layP p.x a⟩, exT⟩ := ⟨hq, (by decide : 0 < exT.length), (by decide : exT.length ≤ 8), exT_in, exT_rising⟩
  obtain ⟨D1, e1, o1⟩ := add_small DOk.start (by simp) s1 (by decide)
  have hs1 : ∀ u ∈ [] ++ [(⟨p, exT⟩ : Tv)], SmT u := fun u hu => by rw [List.nil_append, List.mem_singleton] at hu; subst hu; exact s1
  obtain ⟨D2, e2, o2⟩ := add_small o1 hs1 s2 (by simp)
  have hs2 : ∀ u ∈ [] ++ [(⟨p, exT⟩ : Tv)] ++ [⟨⟨p.c, p.m, layP p.x a⟩, exT⟩], SmT u := fun u hu => by
    rcases List.mem_append.1 hu with hu | hu
    · exact hs1 u hu
    · rw [List.mem_singleton] at hu; subst hu; exact s2
  have hv : varsP ([] ++ [(⟨p, exT⟩ : Tv)]) = (((List.range 8).map (layP p.x)).foldl insA []).map (Pic.mk p.c p.m) := by
    rw [insA_map (fun a b e => by injection e), vars_snoc, List.map_map]
    have e8 : exT = (List.range 8).map fun n : Nat => (n : Int) := by decide
    show (exT.map (layT ⟨p, exT⟩)).foldl insA [] = _
    have e9 : exT.map (layT ⟨p, exT⟩) = (List.range 8).map (Pic.mk p.c p.m ∘ layP p.x) := by
      rw [show exT.map (layT ⟨p, exT⟩) = ((List.range 8).map fun n : Nat => (n : Int)).map (layT ⟨p, exT⟩) from congrArg _ e8, List.map_map]
      refine List.map_congr_left fun n _ => ?_
      show layT ⟨p, exT⟩ (n : Int) = Pic.mk p.c p.m (layP p.x n)
      unfold layT
      rw [Int.toNat_natCast]
    rw [e9]
    rfl
  obtain ⟨w1, w2⟩ := ways_div h.mx
  have hlen : (varsP ([] ++ [(⟨p, exT⟩ : Tv)])).length = (((List.range 8).map (layP p.x)).foldl insA []).length := by rw [hv, List.length_map]
  have hv2 : D2.V = D1.V := by
    rw [o2.v, o1.v, vars_snoc]
    refine insA_all fun y hy => ?_
    obtain ⟨g, hg, rfl⟩ := List.mem_map.1 hy
    obtain ⟨g0, g1⟩ := exT_in g hg
    have hgn : g.toNat < 8 := by omega
    have e : layT ⟨⟨p.c, p.m, layP p.x a⟩, exT⟩ g = layT ⟨p, exT⟩ (comp a g.toNat : Nat) := by
      unfold layT
      dsimp only
      rw [lay_comp h.mx ha hgn, Int.toNat_natCast]
    rw [e]
    refine vars_mem _ [] _ _ List.mem_cons_self ?_
    have := comp_lt a ha _ hgn
    generalize comp a g.toNat = k at this
    show (k : Int) ∈ [0, 1, 2, 3, 4, 5, 6, 7]
    obtain rfl | rfl | rfl | rfl | rfl | rfl | rfl | rfl : k = 0 ∨ k = 1 ∨ k = 2 ∨ k = 3 ∨ k = 4 ∨ k = 5 ∨ k = 6 ∨ k = 7 := by omega
    all_goals decide
  have b1 := o1.small hs1 (by simp)
  have b2 := o2.small hs2 (by simp)
  have hl8 : (((List.range 8).map (layP p.x)).foldl insA []).length ≤ 8 := by
    have := insA_len ((List.range 8).map (layP p.x)) []
    simpa using this
  refine ⟨D1, D2, D1.V.length, e1, e2, rfl, by rw [hv2], by rw [o1.v, hlen]; exact w1, by rw [o1.v, hlen]; exact hl8, by rw [o1.v, hlen]; exact w2, by rw [o1.v]; rfl, ?_, ⟨b1.1, b1.2.2⟩, b2.1, o2.tm hs2⟩
  have hw := o2.whr
  rw [hv2] at hw
  rw [owners_all hw, o2.t]
  rfl
end Go.Proofs.Ytnmlonicfncpfaa
