/- Small templates; all ways to lay one: no program in sight. All ways to lay a small template, twice: no program in sight. -/
import Derived.Test.YtnmlonicfncpfaaGreatDSt
import Derived.Test.YtnmlonicfncpfaaGreatDGdC
namespace Go.Proofs.YtnmlonicfncpfaaGreat
open Go.RowKit X
set_option maxRecDepth 8000
set_option maxHeartbeats 1000000
structure Small (p : Pic) : Prop where
  mx : MxOk p.x
  w : p.x.w ≤ 16
  h : p.x.h ≤ 16
  len : p.x.l.length ≤ 256
  may : mayG p = true
  u : ∀ q ∈ p.x.l, U64 q
theorem sized_small {a b : Int} (h1 : 1 ≤ a ∧ a ≤ 16) (h2 : 1 ≤ b ∧ b ≤ 16) : sizedP a b = true := by
  have := Int.mul_le_mul h1.2 h2.2 (by omega) (by omega)
  exact sizedP_iff.2 ⟨h1.1, by omega, h2.1, by omega, by omega⟩
theorem Small.lay {p : Pic} (h : Small p) (g : Nat) : layOk p.x g = true := by
  obtain ⟨⟨h1, -⟩, ⟨h2, -⟩, -⟩ := h.mx
  have := h.w
  have := h.h
  unfold layOk sizeP
  split <;> exact sized_small ⟨by assumption, by assumption⟩ ⟨by assumption, by assumption⟩
theorem lay_mem {x : Mx} (hx : MxOk x) {g : Nat} (hg : g < 8) {q : Int} (hq : q ∈ (layP x g).l) : q ∈ x.l := by
  obtain ⟨⟨h1, -⟩, ⟨h2, -⟩, h3⟩ := hx
  unfold layP at hq
  obtain ⟨i, hi, rfl⟩ := List.mem_map.1 hq
  have hi := List.mem_range.1 hi
  have hn : (x.l.length : Int) = (sizeP x.w x.h g).1 * (sizeP x.w x.h g).2 := by
    rw [h3]; unfold sizeP; split
    · rfl
    · exact Int.mul_comm _ _
  obtain ⟨ha, hb⟩ := split_in hn (by unfold sizeP; split <;> assumption) hi
  obtain ⟨f1, f2⟩ := from_in hg ha hb
  obtain ⟨i1, i2⟩ := idx_in h3 f1 f2
  unfold layAt
  rw [List.getD_eq_getElem?_getD, List.getElem?_eq_getElem (by omega)]
  exact List.getElem_mem _
theorem mayG_of {p : Pic} (h : sizedP p.x.w p.x.h = true) (hl : (p.x.l.length : Int) = p.x.w * p.x.h) (hf : ∀ q ∈ p.x.l, fitsP q p.c p.m = true) : mayG p = true := by
  unfold mayG mayX allFit
  rw [h, Bool.true_and, Bool.and_eq_true, decide_eq_true_eq, List.all_eq_true]
  exact ⟨hl, hf⟩
theorem mayG_fit {p : Pic} (h : mayG p = true) {q : Int} (hq : q ∈ p.x.l) : fitsP q p.c p.m = true := by
  unfold mayG allFit at h
  rw [Bool.and_eq_true, List.all_eq_true] at h
  exact h.2 q hq
theorem small_lay {p : Pic} (h : Small p) {g : Nat} (hg : g < 8) : Small ⟨p.c, p.m, layP p.x g⟩ := by
  have hs := h.lay g
  have ho := lay_ok h.mx g
  have hw := h.w
  have hh := h.h
  refine ⟨ho, ?_, ?_, ?_, mayG_of hs ho.2.2 fun q hq => mayG_fit h.may (lay_mem h.mx hg hq), fun q hq => h.u q (lay_mem h.mx hg hq)⟩
  · show (sizeP p.x.w p.x.h g).1 ≤ 16; unfold sizeP; split <;> assumption
  · show (sizeP p.x.w p.x.h g).2 ≤ 16; unfold sizeP; split <;> assumption
  · show (layP p.x g).l.length ≤ 256; rw [layP_len]; exact h.len
theorem good_small (x : Rg) {mo : Int} (h1 : 1 ≤ mo) (h2 : mo ≤ 16) : Small (goodI x mo) := by
  obtain ⟨l1, l2, l3⟩ := goodX_len x h1 h2
  obtain ⟨a1, a2⟩ := goodS_in (n := x.w) h1
  obtain ⟨b1, b2⟩ := goodS_in (n := x.h) h1
  have hm : ∀ q ∈ (goodX x mo).l, ∃ i, q = goodF x i := fun q hq => by
    obtain ⟨i, -, rfl⟩ := List.mem_map.1 hq
    exact ⟨i, rfl⟩
  refine ⟨⟨⟨a1, by show goodS x.w mo ≤ _; omega⟩, ⟨b1, by show goodS x.h mo ≤ _; omega⟩, l1⟩, by show goodS x.w mo ≤ _; omega, by show goodS x.h mo ≤ _; omega, l2, mayG_of (sized_small ⟨a1, by show goodS x.w mo ≤ _; omega⟩ ⟨b1, by show goodS x.h mo ≤ _; omega⟩) l1 fun q hq => ?_, fun q hq => ?_⟩
  · obtain ⟨i, rfl⟩ := hm q hq; exact (goodF_fits x i).1
  · obtain ⟨i, rfl⟩ := hm q hq; exact (goodF_fits x i).2
theorem area_le : ∀ (V : List Pic) (n : Int), (∀ p ∈ V, p.x.l.length ≤ 256) → V.foldl (fun n p => n + (p.x.l.length : Int)) n ≤ n + 256 * V.length
  | [], n, _ => by simp
  | p :: V, n, h => by
    rw [List.foldl_cons, List.length_cons]
    have := area_le V (n + p.x.l.length) fun q hq => h q (List.mem_cons_of_mem _ hq)
    have := h p List.mem_cons_self
    omega
/-- a small template -/
structure SmT (t : Tv) : Prop where
  p : Small t.p
  pos : 0 < t.turns.length
  few : t.turns.length ≤ 8
  inn : ∀ g ∈ t.turns, 0 ≤ g ∧ g < 8
  ris : t.turns.Pairwise (· < ·)
theorem SmT.ok {t : Tv} (h : SmT t) : TvOk t := ⟨h.p.mx, by have := h.p.len; omega, h.few, fun g hg => ⟨(h.inn g hg).1, (h.inn g hg).2, h.p.lay _⟩⟩
theorem vars_small (l : List Tv) (h : ∀ t ∈ l, SmT t) : (∀ p ∈ varsP l, Small p) ∧ (varsP l).length ≤ 8 * l.length ∧ (varsP l).Nodup := by
  have key : ∀ (l : List Tv) (o : List Pic), (∀ t ∈ l, SmT t) → (∀ p ∈ o, Small p) → o.Nodup → (∀ p ∈ l.foldl varT o, Small p) ∧ (l.foldl varT o).length ≤ o.length + 8 * l.length ∧ (l.foldl varT o).Nodup := by
    intro l
    induction l with
    | nil => intro o _ h hn; exact ⟨h, by simp, hn⟩
    | cons t r ih =>
      intro o ht ho hn
      have h1 := ht t List.mem_cons_self
      have h2 := insA_len (t.turns.map (layT t)) o
      rw [List.length_map] at h2
      have h3 := h1.few
      have hnd : ∀ (l s : List Pic), s.Nodup → (l.foldl insA s).Nodup := by
        intro l
        induction l with
        | nil => intro s h; exact h
        | cons y r ih =>
          intro s h
          refine ih _ ?_
          unfold insA
          split
          · exact h
          · rw [List.nodup_append]
            refine ⟨h, by simp, ?_⟩
            intro a ha b hb
            rw [List.mem_singleton] at hb
            subst hb
            rintro rfl
            contradiction
      have h4 := ih (varT o t) (fun u hu => ht u (List.mem_cons_of_mem _ hu)) (fun p hp => by
        rw [varT_ins] at hp
        rcases insA_mem.1 hp with hp | hp
        · exact ho p hp
        · obtain ⟨g, hg, rfl⟩ := List.mem_map.1 hp
          obtain ⟨g0, g1⟩ := h1.inn g hg
          exact small_lay h1.p (by omega)) (by rw [varT_ins]; exact hnd _ _ hn)
      rw [List.foldl_cons, List.length_cons]
      refine ⟨h4.1, ?_, h4.2.2⟩
      have h5 := h4.2.1
      rw [varT_ins] at h5 ⊢
      omega
  have := key l [] h (by simp) (by simp)
  simpa [varsP] using this
theorem area_small (l : List Tv) (h : ∀ t ∈ l, SmT t) : areaP (varsP l) ≤ 2048 * l.length ∧ 0 ≤ areaP (varsP l) := by
  obtain ⟨h1, h2, -⟩ := vars_small l h
  have := area_le (varsP l) 0 fun p hp => (h1 p hp).len
  have pos : ∀ (V : List Pic) (n : Int), 0 ≤ n → 0 ≤ V.foldl (fun n p => n + (p.x.l.length : Int)) n := by
    intro V
    induction V with
    | nil => intro n h; exact h
    | cons p V ih => intro n h; exact ih _ (by show (0 : Int) ≤ n + (p.x.l.length : Int); omega)
  refine ⟨?_, pos _ _ (by decide)⟩
  unfold areaP
  omega
theorem add_small {D : DS} {l : List Tv} {t : Tv} (h : DOk D l) (hl : ∀ u ∈ l, SmT u) (ht : SmT t) (hn : l.length ≤ 20) : ∃ D', addD D t.p t.turns = (D', (l.length : Int), 0) ∧ DOk D' (l ++ [t]) := by
  refine add_ok h ht.p.may (mayTs_rising ht.ris ht.pos ht.inn) (rising_sort ht.ris) (fun g _ => ht.p.lay _) (by omega) ?_
  have := (area_small (l ++ [t]) fun u hu => by rcases List.mem_append.1 hu with hu | hu; · exact hl u hu
                                                · rw [List.mem_singleton] at hu; subst hu; exact ht).1
  rw [List.length_append] at this
  have e : ([t] : List Tv).length = 1 := rfl
  show areaP (varsP (l ++ [t])) ≤ 65536
  omega
end Go.Proofs.YtnmlonicfncpfaaGreat
namespace Go.Proofs.YtnmlonicfncpfaaGreat.X
def sumN (n : Nat) (f : Nat → Nat) : Nat := ((List.range n).map f).sum
theorem sumN_succ (n : Nat) (f : Nat → Nat) : sumN (n + 1) f = sumN n f + f n := by unfold sumN; rw [List.range_succ, List.map_append, List.sum_append]; simp
theorem sumN_congr {n : Nat} {f g : Nat → Nat} (h : ∀ i, i < n → f i = g i) : sumN n f = sumN n g := by
  unfold sumN
  rw [List.map_congr_left fun i hi => h i (List.mem_range.1 hi)]
theorem sumN_add (n : Nat) (f g : Nat → Nat) : sumN n (fun i => f i + g i) = sumN n f + sumN n g := by
  induction n with
  | zero => rfl
  | succ n ih => rw [sumN_succ, sumN_succ, sumN_succ, ih]; omega
theorem sumN_zero (n : Nat) : sumN n (fun _ => 0) = 0 := by
  induction n with
  | zero => rfl
  | succ n ih => rw [sumN_succ, ih]
theorem sumN_swap (n k : Nat) (g : Nat → Nat → Nat) : sumN n (fun v => sumN k (fun i => g v i)) = sumN k (fun i => sumN n (fun v => g v i)) := by
  induction n with
  | zero => exact (sumN_zero k).symm
  | succ n ih => rw [sumN_succ, ih, ← sumN_add]; exact sumN_congr fun i _ => (sumN_succ n fun v => g v i).symm
theorem sumN_ind (n : Nat) (a : Int) (h0 : 0 ≤ a) (h1 : a < n) : sumN n (fun v => if a = (v : Int) then 1 else 0) = 1 := by
  have key : ∀ n : Nat, sumN n (fun v => if a = (v : Int) then 1 else 0) = if a < n then 1 else 0 := by
    intro n
    induction n with
    | zero => rw [if_neg (by omega)]; rfl
    | succ n ih =>
      rw [sumN_succ, ih]
      by_cases e : a = (n : Int)
      · rw [if_neg (by omega), if_pos e, if_pos (by omega)]
      · rw [if_neg e]
        by_cases h : a < n
        · rw [if_pos h, if_pos (by omega)]
        · rw [if_neg h, if_neg (by omega)]
  rw [key, if_pos h1]
theorem sumN_one (n : Nat) : sumN n (fun _ => 1) = n := by
  induction n with
  | zero => rfl
  | succ n ih => rw [sumN_succ, ih]
end Go.Proofs.YtnmlonicfncpfaaGreat.X
namespace Go.Proofs.YtnmlonicfncpfaaGreat
open Go.RowKit X
set_option maxRecDepth 8000
theorem len_flatR {α : Type} (k : Nat) (f : Nat → List α) : ((List.range k).flatMap f).length = sumN k fun i => (f i).length := by
  unfold sumN
  rw [List.length_flatMap]
/-- every turn of every template is one owner -/
theorem owners_all {L : List Tm} {n : Nat} (h : ∀ t ∈ L, t.whr.length = t.turns.length ∧ ∀ i ∈ t.whr, 0 ≤ i ∧ i < n) : sumN n (fun v => (ownersP L v).length) = sumN L.length fun i => (L.getD i default).turns.length := by
  have e : ∀ v : Nat, (ownersP L v).length = sumN L.length fun i => sumN (L.getD i default).turns.length fun k => if (L.getD i default).whr.getD k 0 = (v : Int) then 1 else 0 := fun v => by
    unfold ownersP
    rw [len_flatR]
    refine sumN_congr fun i _ => ?_
    unfold ownT
    rw [len_flatR]
    refine sumN_congr fun k _ => ?_
    unfold own1
    split <;> rfl
  rw [sumN_congr fun v _ => e v, sumN_swap]
  refine sumN_congr fun i hi => ?_
  have hm : L.getD i default ∈ L := by rw [List.getD_eq_getElem?_getD, List.getElem?_eq_getElem hi]; exact List.getElem_mem hi
  obtain ⟨h1, h2⟩ := h _ hm
  generalize L.getD i default = t at h1 h2
  rw [sumN_swap]
  rw [sumN_congr (g := fun _ => 1)]
  · exact sumN_one _
  · intro k hk
    have hk' : k < t.whr.length := by omega
    have hg : t.whr.getD k 0 ∈ t.whr := by rw [List.getD_eq_getElem?_getD, List.getElem?_eq_getElem hk']; exact List.getElem_mem hk'
    exact sumN_ind n _ (h2 _ hg).1 (h2 _ hg).2
theorem exT_in : ∀ g ∈ exT, 0 ≤ g ∧ g < 8 := by decide
theorem DOk.whr {D : DS} {l : List Tv} (h : DOk D l) : ∀ t ∈ D.L, t.whr.length = t.turns.length ∧ ∀ i ∈ t.whr, 0 ≤ i ∧ i < D.V.length := by
  intro t ht
  rw [h.t] at ht
  obtain ⟨u, hu, rfl⟩ := List.mem_map.1 ht
  refine ⟨by unfold tmOf; simp, fun i hi => ?_⟩
  obtain ⟨g, hg, rfl⟩ := List.mem_map.1 hi
  obtain ⟨e, hl⟩ := idxI_in (show layT u g ∈ D.V by rw [h.v]; exact vars_mem l [] u g hu hg)
  omega
theorem DOk.tm {D : DS} {l : List Tv} (h : DOk D l) (hs : ∀ t ∈ l, SmT t) : ∀ t ∈ D.L, t.turns.length ≤ 1000 ∧ t.whr.length = t.turns.length := by
  intro t ht
  refine ⟨?_, (h.whr t ht).1⟩
  rw [h.t] at ht
  obtain ⟨u, hu, rfl⟩ := List.mem_map.1 ht
  have := (hs u hu).few
  show u.turns.length ≤ 1000
  omega
theorem DOk.small {D : DS} {l : List Tv} (h : DOk D l) (hs : ∀ t ∈ l, SmT t) (hn : l.length ≤ 20) : D.L.length = l.length ∧ D.V.length ≤ 160 ∧ 0 ≤ D.ar ∧ D.ar ≤ 40960 := by
  obtain ⟨-, h2, -⟩ := vars_small l hs
  obtain ⟨h3, h4⟩ := area_small l hs
  refine ⟨by rw [h.t, List.length_map], by rw [h.v]; omega, by rw [h.a, h.v]; exact h4, by rw [h.a, h.v]; omega⟩
theorem ways_law {p : Pic} (h : Small p) {a : Nat} (ha : a < 8) : ∃ (D1 D2 : DS) (n : Nat), addD ⟨[], [], 0⟩ p exT = (D1, 0, 0) ∧ addD D1 ⟨p.c, p.m, layP p.x a⟩ exT = (D2, 1, 0) ∧ D1.V.length = n ∧ D2.V.length = n ∧ 0 < n ∧ n ≤ 8 ∧ 8 % n = 0 ∧ (varsP [⟨p, exT⟩]).length = n ∧
    sumN n (fun v => (ownersP D2.L v).length) = 16 ∧ (D1.L.length = 1 ∧ 0 ≤ D1.ar ∧ D1.ar ≤ 40960) ∧ D2.L.length = 2 ∧ ∀ t ∈ D2.L, t.turns.length ≤ 1000 ∧ t.whr.length = t.turns.length := by
  have hq := small_lay h ha
  have s1 : SmT ⟨p, exT⟩ := ⟨h, (by decide : 0 < exT.length), (by decide : exT.length ≤ 8), exT_in, exT_rising⟩
  have s2 : SmT ⟨⟨p.c, p.m, layP p.x a⟩, exT⟩ := ⟨hq, (by decide : 0 < exT.length), (by decide : exT.length ≤ 8), exT_in, exT_rising⟩
  obtain ⟨D1, e1, o1⟩ := add_small DOk.start (by simp) s1 (by decide)
  have hs1 : ∀ u ∈ [] ++ [(⟨p, exT⟩ : Tv)], SmT u := fun u hu => by rw [List.nil_append, List.mem_singleton] at hu; subst hu; exact s1
  obtain ⟨D2, e2, o2⟩ := add_small o1 hs1 s2 (by simp)
  have hs2 : ∀ u ∈ [] ++ [(⟨p, exT⟩ : Tv)] ++ [⟨⟨p.c, p.m, layP p.x a⟩, exT⟩], SmT u := fun u hu => by
    rcases List.mem_append.1 hu with hu | hu
    · exact hs1 u hu
    · rw [List.mem_singleton] at hu; subst hu; exact s2
  have hv : varsP ([] ++ [(⟨p, exT⟩ : Tv)]) = (((List.range 8).map (layP p.x)).foldl insA []).map (Pic.mk p.c p.m) := by
    rw [insA_map (fun a b e => by injection e), vars_snoc, List.map_map]
    have e8 : exT = (List.range 8).map fun n : Nat => (n : Int) := by decide
    show (exT.map (layT ⟨p, exT⟩)).foldl insA [] = _
    have e9 : exT.map (layT ⟨p, exT⟩) = (List.range 8).map (Pic.mk p.c p.m ∘ layP p.x) := by
      rw [show exT.map (layT ⟨p, exT⟩) = ((List.range 8).map fun n : Nat => (n : Int)).map (layT ⟨p, exT⟩) from congrArg _ e8, List.map_map]
      refine List.map_congr_left fun n _ => ?_
      show layT ⟨p, exT⟩ (n : Int) = Pic.mk p.c p.m (layP p.x n)
      unfold layT
      rw [Int.toNat_natCast]
    rw [e9]
    rfl
  obtain ⟨w1, w2⟩ := ways_div h.mx
  have hlen : (varsP ([] ++ [(⟨p, exT⟩ : Tv)])).length = (((List.range 8).map (layP p.x)).foldl insA []).length := by rw [hv, List.length_map]
  have hv2 : D2.V = D1.V := by
    rw [o2.v, o1.v, vars_snoc]
    refine insA_all fun y hy => ?_
    obtain ⟨g, hg, rfl⟩ := List.mem_map.1 hy
    obtain ⟨g0, g1⟩ := exT_in g hg
    have hgn : g.toNat < 8 := by omega
    have e : layT ⟨⟨p.c, p.m, layP p.x a⟩, exT⟩ g = layT ⟨p, exT⟩ (comp a g.toNat : Nat) := by
      unfold layT
      dsimp only
      rw [lay_comp h.mx ha hgn, Int.toNat_natCast]
    rw [e]
    refine vars_mem _ [] _ _ List.mem_cons_self ?_
    have := comp_lt a ha _ hgn
    generalize comp a g.toNat = k at this
    show (k : Int) ∈ [0, 1, 2, 3, 4, 5, 6, 7]
    obtain rfl | rfl | rfl | rfl | rfl | rfl | rfl | rfl : k = 0 ∨ k = 1 ∨ k = 2 ∨ k = 3 ∨ k = 4 ∨ k = 5 ∨ k = 6 ∨ k = 7 := by omega
    all_goals decide
  have b1 := o1.small hs1 (by simp)
  have b2 := o2.small hs2 (by simp)
  have hl8 : (((List.range 8).map (layP p.x)).foldl insA []).length ≤ 8 := by
    have := insA_len ((List.range 8).map (layP p.x)) []
    simpa using this
  refine ⟨D1, D2, D1.V.length, e1, e2, rfl, by rw [hv2], by rw [o1.v, hlen]; exact w1, by rw [o1.v, hlen]; exact hl8, by rw [o1.v, hlen]; exact w2, by rw [o1.v]; rfl, ?_, ⟨b1.1, b1.2.2⟩, b2.1, o2.tm hs2⟩
  have hw := o2.whr
  rw [hv2] at hw
  rw [owners_all hw, o2.t]
  rfl
end Go.Proofs.YtnmlonicfncpfaaGreat
