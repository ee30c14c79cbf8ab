/- Small templates; all ways to lay one: no program in sight. -/
import Derived.Test.YtnmlonicfncpfaaDCom
import Derived.Test.YtnmlonicfncpfaaDGdC
namespace Go.Proofs.Ytnmlonicfncpfaa
open Go.RowKit X
set_option maxRecDepth 8000
set_option maxHeartbeats 1000000
structure Small (p : Pic) : Prop where
  mx : MxOk p.x
  w : p.x.w ≤ 16
  h : p.x.h ≤ 16
  len : p.x.l.length ≤ 256
  may : mayG p = true
  u : ∀ q ∈ p.x.l, U64 q
theorem sized_small {a b : Int} (h1 : 1 ≤ a ∧ a ≤ 16) (h2 : 1 ≤ b ∧ b ≤ 16) : sizedP a b = true := by
  have := Int.mul_le_mul h1.2 h2.2 (by omega) (by omega)
  exact sizedP_iff.2 ⟨h1.1, by omega, h2.1, by omega, by omega⟩
theorem Small.lay {p : Pic} (h : Small p) (g : Nat) : layOk p.x g = true := by
  obtain ⟨⟨h1, -⟩, ⟨h2, -⟩, -⟩ := h.mx
  have := h.w
  have := h.h
  unfold layOk sizeP
  split <;> exact sized_small ⟨by assumption, by assumption⟩ ⟨by assumption, by assumption⟩
theorem lay_mem {x : Mx} (hx : MxOk x) {g : Nat} (hg : g < 8) {q : Int} (hq : q ∈ (layP x g).l) : q ∈ x.l := by
  obtain ⟨⟨h1, -⟩, ⟨h2, -⟩, h3⟩ := hx
  unfold layP at hq
  obtain ⟨i, hi, rfl⟩ := List.mem_map.1 hq
  have hi := List.mem_range.1 hi
  have hn : (x.l.length : Int) = (sizeP x.w x.h g).1 * (sizeP x.w x.h g).2 := by
    rw [h3]; unfold sizeP; split
    · rfl
    · exact Int.mul_comm _ _
  obtain ⟨ha, hb⟩ := split_in hn (by unfold sizeP; split <;> assumption) hi
  obtain ⟨f1, f2⟩ := from_in hg ha hb
  obtain ⟨i1, i2⟩ := idx_in h3 f1 f2
  unfold layAt
  rw [List.getD_eq_getElem?_getD, List.getElem?_eq_getElem (by omega)]
  exact List.getElem_mem _
theorem mayG_of {p : Pic} (h : sizedP p.x.w p.x.h = true) (hl : (p.x.l.length : Int) = p.x.w * p.x.h) (hf : ∀ q ∈ p.x.l, fitsP q p.c p.m = true) : mayG p = true := by
  unfold mayG mayX allFit
  rw [h, Bool.true_and, Bool.and_eq_true, decide_eq_true_eq, List.all_eq_true]
  exact ⟨hl, hf⟩
theorem mayG_fit {p : Pic} (h : mayG p = true) {q : Int} (hq : q ∈ p.x.l) : fitsP q p.c p.m = true := by
  unfold mayG allFit at h
  rw [Bool.and_eq_true, List.all_eq_true] at h
  exact h.2 q hq
theorem small_lay {p : Pic} (h : Small p) {g : Nat} (hg : g < 8) : Small ⟨p.c, p.m, layP p.x g⟩ := by
  have hs := h.lay g
  have ho := lay_ok h.mx g
  have hw := h.w
  have hh := h.h
  refine ⟨ho, ?_, ?_, ?_, mayG_of hs ho.2.2 fun q hq => mayG_fit h.may (lay_mem h.mx hg hq), fun q hq => h.u q (lay_mem h.mx hg hq)⟩
  · show (sizeP p.x.w p.x.h g).1 ≤ 16; unfold sizeP; split <;> assumption
  · show (sizeP p.x.w p.x.h g).2 ≤ 16; unfold sizeP; split <;> assumption
  · show (layP p.x g).l.length ≤ 256; rw [layP_len]; exact h.len
theorem good_small (x : Rg) {mo : Int} (h1 : 1 ≤ mo) (h2 : mo ≤ 16) : Small (goodI x mo) := by
  obtain ⟨l1, l2, l3⟩ := goodX_len x h1 h2
  obtain ⟨a1, a2⟩ := goodS_in (n := x.w) h1
  obtain ⟨b1, b2⟩ := goodS_in (n := x.h) h1
  have hm : ∀ q ∈ (goodX x mo).l, ∃ i, q = goodF x i := fun q hq => by
    obtain ⟨i, -, rfl⟩ := List.mem_map.1 hq
    exact ⟨i, rfl⟩
  refine ⟨⟨⟨a1, by show goodS x.w mo ≤ _; omega⟩, ⟨b1, by show goodS x.h mo ≤ _; omega⟩, l1⟩, by show goodS x.w mo ≤ _; omega, by show goodS x.h mo ≤ _; omega, l2, mayG_of (sized_small ⟨a1, by show goodS x.w mo ≤ _; omega⟩ ⟨b1, by show goodS x.h mo ≤ _; omega⟩) l1 fun q hq => ?_, fun q hq => ?_⟩
  · obtain ⟨i, rfl⟩ := hm q hq; exact (goodF_fits x i).1
  · obtain ⟨i, rfl⟩ := hm q hq; exact (goodF_fits x i).2
theorem area_le : ∀ (V : List Pic) (n : Int), (∀ p ∈ V, p.x.l.length ≤ 256) → V.foldl (fun n p => n + (p.x.l.length : Int)) n ≤ n + 256 * V.length
  | [], n, _ => by simp
  | p :: V, n, h => by
    rw [List.foldl_cons, List.length_cons]
    have := area_le V (n + p.x.l.length) fun q hq => h q (List.mem_cons_of_mem _ hq)
    have := h p List.mem_cons_self
    omega
/-- a small template -/
structure SmT (t : Tv) : Prop where
  p : Small t.p
  pos : 0 < t.turns.length
  few : t.turns.length ≤ 8
  inn : ∀ g ∈ t.turns, 0 ≤ g ∧ g < 8
  ris : t.turns.Pairwise (· < ·)
theorem SmT.ok {t : Tv} (h : SmT t) : TvOk t := ⟨h.p.mx, by have := h.p.len; omega, h.few, fun g hg => ⟨(h.inn g hg).1, (h.inn g hg).2, h.p.lay _⟩⟩
theorem vars_small (l : List Tv) (h : ∀ t ∈ l, SmT t) : (∀ p ∈ varsP l, Small p) ∧ (varsP l).length ≤ 8 * l.length ∧ (varsP l).Nodup := by
  have key : ∀ (l : List Tv) (o : List Pic), (∀ t ∈ l, SmT t) → (∀ p ∈ o, Small p) → o.Nodup → (∀ p ∈ l.foldl varT o, Small p) ∧ (l.foldl varT o).length ≤ o.length + 8 * l.length ∧ (l.foldl varT o).Nodup := by
    intro l
    induction l with
    | nil => intro o _ h hn; exact ⟨h, by simp, hn⟩
    | cons t r ih =>
      intro o ht ho hn
      have h1 := ht t List.mem_cons_self
      have h2 := insA_len (t.turns.map (layT t)) o
      rw [List.length_map] at h2
      have h3 := h1.few
      have hnd : ∀ (l s : List Pic), s.Nodup → (l.foldl insA s).Nodup := by
        intro l
        induction l with
        | nil => intro s h; exact h
        | cons y r ih =>
          intro s h
          refine ih _ ?_
          unfold insA
          split
          · exact h
          · rw [List.nodup_append]
            refine ⟨h, by simp, ?_⟩
            intro a ha b hb
            rw [List.mem_singleton] at hb
            subst hb
            rintro rfl
            contradiction
      have h4 := ih (varT o t) (fun u hu => ht u (List.mem_cons_of_mem _ hu)) (fun p hp => by
        rw [varT_ins] at hp
        rcases insA_mem.1 hp with hp | hp
        · exact ho p hp
        · obtain ⟨g, hg, rfl⟩ := List.mem_map.1 hp
          obtain ⟨g0, g1⟩ := h1.inn g hg
          exact small_lay h1.p (by omega)) (by rw [varT_ins]; exact hnd _ _ hn)
      rw [List.foldl_cons, List.length_cons]
      refine ⟨h4.1, ?_, h4.2.2⟩
      have h5 := h4.2.1
      rw [varT_ins] at h5 ⊢
      omega
  have := key l [] h (by simp) (by simp)
  simpa [varsP] using this
theorem area_small (l : List Tv) (h : ∀ t ∈ l, SmT t) : areaP (varsP l) ≤ 2048 * l.length ∧ 0 ≤ areaP (varsP l) := by
  obtain ⟨h1, h2, -⟩ := vars_small l h
  have := area_le (varsP l) 0 fun p hp => (h1 p hp).len
  have pos : ∀ (V : List Pic) (n : Int), 0 ≤ n → 0 ≤ V.foldl (fun n p => n + (p.x.l.length : Int)) n := by
    intro V
    induction V with
    | nil => intro n h; exact h
    | cons p V ih => intro n h; exact ih _ (by show (0 : Int) ≤ n + (p.x.l.length : Int); omega)
  refine ⟨?_, pos _ _ (by decide)⟩
  unfold areaP
  omega
theorem add_small {D : DS} {l : List Tv} {t : Tv} (h : DOk D l) (hl : ∀ u ∈ l, SmT u) (ht : SmT t) (hn : l.length ≤ 20) : ∃ D', addD D t.p t.turns = (D', (l.length : Int), 0) ∧ DOk D' (l ++ [t]) := by
  refine add_ok h ht.p.may (mayTs_rising ht.ris ht.pos ht.inn) (rising_sort ht.ris) (fun g _ => ht.p.lay _) (by omega) ?_
  have := (area_small (l ++ [t]) fun u hu => by rcases List.mem_append.1 hu with hu | hu; · exact hl u hu
                                                · rw [List.mem_singleton] at hu; subst hu; exact ht).1
  rw [List.length_append] at this
  have e : ([t] : List Tv).length = 1 := rfl
  show areaP (varsP (l ++ [t])) ≤ 65536
  omega
end Go.Proofs.Ytnmlonicfncpfaa
