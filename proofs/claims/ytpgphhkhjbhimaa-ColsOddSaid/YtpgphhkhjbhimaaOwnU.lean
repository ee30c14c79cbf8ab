/- A tree that the call owns, changed. -/
import Derived.Test.YtpgphhkhjbhimaaOwnT
namespace Go.Proofs.Ytpgphhkhjbhimaa
open Go.RowKit X
set_option maxHeartbeats 400000
set_option maxRecDepth 8000

theorem X.Own.keptTy {α : Type} {k : Kd α} {w w' : World} {B : Nat} {D : Nat → Prop} {v : Value} {xs : List α} {row : Option Nat} (h : Own k w B D v xs) (hg : w.grownBy w' row) (t : TypeId) (hr : ∀ g, row = some g → ∃ cur, w.heap[g]? = some (.cells cur t (0, 0))) (h1 : t ≠ k.ety) (h2 : ∀ g, D g → False) : Own k w' B D v xs := by
  refine h.kept hg ?_ (fun g _ hd => h2 g hd)
  · cases hv : v.ownBlock with
    | none => exact .inl rfl
    | some g =>
      refine .inr (fun e => ?_)
      obtain ⟨cur, hh⟩ := h.heap hv
      obtain ⟨cur', hh'⟩ := hr g e.symm
      rw [hh] at hh'
      injection hh' with i1
      injection i1 with _ i2 _
      exact h1 i2.symm
theorem X.Own.keptNe {α : Type} {k : Kd α} {w w' : World} {B : Nat} {D : Nat → Prop} {v : Value} {xs : List α} {row : Option Nat} (h : Own k w B D v xs) (hg : w.grownBy w' row) (hne : ∀ g, v.ownBlock = some g → row ≠ some g) (hs : ∀ g, D g → False) : Own k w' B D v xs := by
  refine h.kept hg ?_ (fun g _ hd => hs g hd)
  cases hv : v.ownBlock with
  | none => exact .inl rfl
  | some g => exact .inr (fun e => hne g hv e.symm)
theorem tree_kept {w w' : World} {b : Nat} {cur : Array Value} {row : Option Nat} (h : w.heap[b]? = some (.cells cur 81 (0, 0))) (hg : w.grownBy w' row) (t : TypeId) (hr : ∀ g, row = some g → ∃ cur, w.heap[g]? = some (.cells cur t (0, 0))) (h1 : t ≠ 81) : w'.heap[b]? = some (.cells cur 81 (0, 0)) := by
  refine (hg.block b (lt_of_heap h) (fun e => ?_)).trans h
  obtain ⟨cur', hh'⟩ := hr b e.symm
  rw [h] at hh'
  injection hh' with i1
  injection i1 with _ i2 _
  exact h1 i2.symm
theorem set_at {w : World} {b j : Nat} {cur : Array Value} {t : TypeId} {fr : Nat × Nat} (h : w.heap[b]? = some (.cells cur t fr)) (v : Value) : (w.setCell ⟨b, j, none⟩ v).heap[b]? = some (.cells (cur.setIfInBounds j v) t fr) := by
  simp [World.setCell, Array.getElem?_modify, h]
theorem setBy (w : World) (b j : Nat) (v : Value) : w.grownBy (w.setCell ⟨b, j, none⟩ v) (some b) := ⟨rfl, rfl, rfl, by simp [World.setCell], fun k hk hne => Below.heap_setCell _ _ _ _ (fun e => hne (by rw [e]))⟩
theorem X.Own.rowTy {α : Type} {k : Kd α} {w : World} {B : Nat} {D : Nat → Prop} {v : Value} {xs : List α} (h : Own k w B D v xs) : ∀ g, v.ownBlock = some g → ∃ cur, w.heap[g]? = some (.cells cur k.ety (0, 0)) := fun _ hg => h.heap hg

section
variable {w w1 : World} {F : Fp} {b : Nat} {vn vw : Value} {ns : List Raw} {l : List Nd} {ws : List Int}
/-- a row of edges, or of whole numbers, was changed: what is not the row stays -/
theorem OwnR.kids_upd (h : OwnR w F b vn vw ns l ws) (i : Nat) (hi : i < ns.length) (hi' : i < l.length) (v' : Value) (xs : List (Int × Int)) (ho : Own kE w1 0 No v' xs) (hg : w.grownBy w1 ns[i].kv.ownBlock)
    (hb : v'.ownBlock = ns[i].kv.ownBlock ∨ ∃ g, v'.ownBlock = some g ∧ w.heap.size ≤ g) (hN : ∀ g, w.heap.size ≤ g → F g) {g n c : Nat} (hv : vn = .slice (some ⟨g, 0, none⟩) n c) :
    OwnR (w1.setCell ⟨g, i * 5 + 3, none⟩ v') F b vn vw (ns.set i { ns[i] with kv := v' }) (l.set i { l[i] with kids := xs }) ws ∧ Chg F w (w1.setCell ⟨g, i * 5 + 3, none⟩ v') := by
  have hnd := h.nd i hi hi'
  have hki := hnd.kids
  have vf : ∀ g, v'.ownBlock = some g → F g := fun g e => by
    rcases hb with hb | ⟨g', hb, hlt⟩
    · exact hnd.kf g (hb ▸ e)
    · rw [hb] at e; cases e; exact hN _ hlt
  have r1 := hki.rowTy
  have hone : v'.oneCell' = true := by
    obtain ⟨A, c, e, _⟩ := ho.form
    rw [e]; rfl
  have hwone : ns[i].wv.oneCell' = true := by
    obtain ⟨A, c, e, _⟩ := (h.nd i hi hi').words.form
    rw [e]; rfl
  have at1 := tree_kept h.at_ hg _ r1 (by decide)
  have row1 := h.row.keptTy hg _ r1 (by decide) (fun _ h => h)
  have wrow1 := h.wrow.keptTy hg _ r1 (by decide) (fun _ h => h)
  have r2 := row1.rowTy
  subst hv
  have hg2 := setBy w1 g (i * 5 + 3) v'
  have r2' : ∀ g', some g = some g' → ∃ cur, w1.heap[g']? = some (.cells cur 78 (0, 0)) := fun g' e => r2 g' e
  obtain ⟨row2, _⟩ := row1.raw_set i 3 hi (by omega) v' { ns[i] with kv := v' } rfl ⟨hone, hwone⟩
  refine ⟨⟨tree_kept at1 hg2 _ r2' (by decide), h.base, row2, h.rowf, wrow1.keptTy hg2 _ r2' (by decide) (fun _ h => h), h.wrowf, by rw [List.length_set, List.length_set, h.len], ?_, ?_, ?_, ?_⟩, ?_⟩
  · intro j hj hj'
    rw [List.length_set] at hj hj'
    have hn := h.nd j hj hj'
    by_cases hij : i = j
    · subst hij
      rw [List.getElem_set_self, List.getElem_set_self]
      exact ⟨hn.up, hn.p, hn.depth, ho.keptTy hg2 _ r2' (by decide) (fun _ h => h), (hn.words.keptTy hg _ r1 (by decide) (fun _ h => h)).keptTy hg2 _ r2' (by decide) (fun _ h => h), vf, hn.wf⟩
    · rw [List.getElem_set_ne hij, List.getElem_set_ne hij]
      exact ⟨hn.up, hn.p, hn.depth, (hn.kids.keptNe hg (fun g e => h.dk j i hj hi (fun e => hij e.symm) g e) (fun _ h => h)).keptTy hg2 _ r2' (by decide) (fun _ h => h), (hn.words.keptTy hg _ r1 (by decide) (fun _ h => h)).keptTy hg2 _ r2' (by decide) (fun _ h => h), hn.kf, hn.wf⟩
  · intro j k hj hk hjk g' e1 e2
    rw [List.length_set] at hj hk
    by_cases h1 : i = j
    · subst h1
      rw [List.getElem_set_self] at e1
      rw [List.getElem_set_ne hjk] at e2
      rcases hb with hb | ⟨g2, hb, hlt⟩
      · exact h.dk i k hj hk hjk g' (hb ▸ e1) e2
      · have e1' : v'.ownBlock = some g' := e1
        rw [hb] at e1'
        cases e1'
        have := ((h.nd k hk (by rw [← h.len]; exact hk)).kids.lt e2).2
        omega
    · rw [List.getElem_set_ne h1] at e1
      by_cases h2 : i = k
      · subst h2
        rw [List.getElem_set_self] at e2
        rcases hb with hb | ⟨g2, hb, hlt⟩
        · exact h.dk j i hj hk hjk g' e1 (hb ▸ e2)
        · have e2' : v'.ownBlock = some g' := e2
          rw [hb] at e2'
          cases e2'
          have := ((h.nd j hj (by rw [← h.len]; exact hj)).kids.lt e1).2
          omega
      · rw [List.getElem_set_ne h2] at e2
        exact h.dk j k hj hk hjk g' e1 e2
  · intro j k hj hk hjk g' e1 e2
    rw [List.length_set] at hj hk
    refine h.dw j k hj hk hjk g' ?_ ?_
    · by_cases h1 : i = j
      · subst h1; rw [List.getElem_set_self] at e1; exact e1
      · rw [List.getElem_set_ne h1] at e1; exact e1
    · by_cases h1 : i = k
      · subst h1; rw [List.getElem_set_self] at e2; exact e2
      · rw [List.getElem_set_ne h1] at e2; exact e2
  · intro j hj g' e1
    rw [List.length_set] at hj
    refine h.dv j hj g' ?_
    by_cases h1 : i = j
    · subst h1; rw [List.getElem_set_self] at e1; exact e1
    · rw [List.getElem_set_ne h1] at e1; exact e1
  · have c1 : Chg F w w1 := Chg.of_grown hg hnd.kf
    exact c1.tr (Chg.of_set (h.rowf g rfl))
theorem OwnR.words_upd (h : OwnR w F b vn vw ns l ws) (i : Nat) (hi : i < ns.length) (hi' : i < l.length) (v' : Value) (xs : List Int) (ho : Own kI w1 0 No v' xs) (hg : w.grownBy w1 ns[i].wv.ownBlock)
    (hb : v'.ownBlock = ns[i].wv.ownBlock ∨ v'.ownBlock = some w.heap.size) (hN : ∀ g, w.heap.size ≤ g → F g) {g n c : Nat} (hv : vn = .slice (some ⟨g, 0, none⟩) n c) :
    OwnR (w1.setCell ⟨g, i * 5 + 4, none⟩ v') F b vn vw (ns.set i { ns[i] with wv := v' }) (l.set i { l[i] with words := xs }) ws ∧ Chg F w (w1.setCell ⟨g, i * 5 + 4, none⟩ v') := by
  have hnd := h.nd i hi hi'
  have hki := hnd.words
  have vf : ∀ g, v'.ownBlock = some g → F g := fun g e => by
    rcases hb with hb | hb
    · exact hnd.wf g (hb ▸ e)
    · rw [hb] at e; cases e; exact hN _ (Nat.le_refl _)
  have r1 := hki.rowTy
  have hone : v'.oneCell' = true := by
    obtain ⟨A, c, e, _⟩ := ho.form
    rw [e]; rfl
  have hkone : ns[i].kv.oneCell' = true := by
    obtain ⟨A, c, e, _⟩ := (h.nd i hi hi').kids.form
    rw [e]; rfl
  have at1 := tree_kept h.at_ hg _ r1 (by decide)
  have row1 := h.row.keptTy hg _ r1 (by decide) (fun _ h => h)
  have wrow1 := h.wrow.keptNe hg (fun g e e2 => h.dv i hi g e2 e) (fun _ h => h)
  have r2 := row1.rowTy
  subst hv
  have hg2 := setBy w1 g (i * 5 + 4) v'
  have r2' : ∀ g', some g = some g' → ∃ cur, w1.heap[g']? = some (.cells cur 78 (0, 0)) := fun g' e => r2 g' e
  obtain ⟨row2, _⟩ := row1.raw_set i 4 hi (by omega) v' { ns[i] with wv := v' } rfl ⟨hkone, hone⟩
  refine ⟨⟨tree_kept at1 hg2 _ r2' (by decide), h.base, row2, h.rowf, wrow1.keptTy hg2 _ r2' (by decide) (fun _ h => h), h.wrowf, by rw [List.length_set, List.length_set, h.len], ?_, ?_, ?_, ?_⟩, ?_⟩
  · intro j hj hj'
    rw [List.length_set] at hj hj'
    have hn := h.nd j hj hj'
    by_cases hij : i = j
    · subst hij
      rw [List.getElem_set_self, List.getElem_set_self]
      exact ⟨hn.up, hn.p, hn.depth, (hn.kids.keptTy hg _ r1 (by decide) (fun _ h => h)).keptTy hg2 _ r2' (by decide) (fun _ h => h), ho.keptTy hg2 _ r2' (by decide) (fun _ h => h), hn.kf, vf⟩
    · rw [List.getElem_set_ne hij, List.getElem_set_ne hij]
      exact ⟨hn.up, hn.p, hn.depth, (hn.kids.keptTy hg _ r1 (by decide) (fun _ h => h)).keptTy hg2 _ r2' (by decide) (fun _ h => h), (hn.words.keptNe hg (fun g e => h.dw j i hj hi (fun e => hij e.symm) g e) (fun _ h => h)).keptTy hg2 _ r2' (by decide) (fun _ h => h), hn.kf, hn.wf⟩
  · intro j k hj hk hjk g' e1 e2
    rw [List.length_set] at hj hk
    refine h.dk j k hj hk hjk g' ?_ ?_
    · by_cases h1 : i = j
      · subst h1; rw [List.getElem_set_self] at e1; exact e1
      · rw [List.getElem_set_ne h1] at e1; exact e1
    · by_cases h1 : i = k
      · subst h1; rw [List.getElem_set_self] at e2; exact e2
      · rw [List.getElem_set_ne h1] at e2; exact e2
  · intro j k hj hk hjk g' e1 e2
    rw [List.length_set] at hj hk
    by_cases h1 : i = j
    · subst h1
      rw [List.getElem_set_self] at e1
      rw [List.getElem_set_ne hjk] at e2
      rcases hb with hb | hb
      · exact h.dw i k hj hk hjk g' (hb ▸ e1) e2
      · have e1' : v'.ownBlock = some g' := e1
        rw [hb] at e1'
        cases e1'
        have := ((h.nd k hk (by rw [← h.len]; exact hk)).words.lt e2).2
        omega
    · rw [List.getElem_set_ne h1] at e1
      by_cases h2 : i = k
      · subst h2
        rw [List.getElem_set_self] at e2
        rcases hb with hb | hb
        · exact h.dw j i hj hk hjk g' e1 (hb ▸ e2)
        · have e2' : v'.ownBlock = some g' := e2
          rw [hb] at e2'
          cases e2'
          have := ((h.nd j hj (by rw [← h.len]; exact hj)).words.lt e1).2
          omega
      · rw [List.getElem_set_ne h2] at e2
        exact h.dw j k hj hk hjk g' e1 e2
  · intro j hj g' e1 e2
    rw [List.length_set] at hj
    by_cases h1 : i = j
    · subst h1
      rw [List.getElem_set_self] at e1
      rcases hb with hb | hb
      · exact h.dv i hj g' (hb ▸ e1) e2
      · have e1' : v'.ownBlock = some g' := e1
        rw [hb] at e1'
        cases e1'
        have := (h.wrow.lt e2).2
        omega
    · rw [List.getElem_set_ne h1] at e1
      exact h.dv j hj g' e1 e2
  · have c1 : Chg F w w1 := Chg.of_grown hg hnd.wf
    exact c1.tr (Chg.of_set (h.rowf g rfl))
theorem OwnR.node_push (h : OwnR w F b vn vw ns l ws) (v' : Value) (up p d : Int) (ho : Own kR w1 0 No v' (ns ++ [⟨up, p, d, .slice none 0 0, .slice none 0 0⟩])) (hg : w.grownBy w1 vn.ownBlock) (hb : v'.ownBlock = vn.ownBlock ∨ v'.ownBlock = some w.heap.size) (hN : ∀ g, w.heap.size ≤ g → F g) :
    OwnR (w1.setCell ⟨b, 0, none⟩ v') F b v' vw (ns ++ [⟨up, p, d, .slice none 0 0, .slice none 0 0⟩]) (l ++ [⟨up, p, d, [], []⟩]) ws ∧ Chg F w (w1.setCell ⟨b, 0, none⟩ v') := by
  have vf : ∀ g, v'.ownBlock = some g → F g := fun g e => by
    rcases hb with hb | hb
    · exact h.rowf g (hb ▸ e)
    · rw [hb] at e; cases e; exact hN _ (Nat.le_refl _)
  have r1 := h.row.rowTy
  have at1 := tree_kept h.at_ hg _ r1 (by decide)
  have wrow1 := h.wrow.keptTy hg _ r1 (by decide) (fun _ h => h)
  have hg2 := setBy w1 b 0 v'
  have r2 : ∀ g', some b = some g' → ∃ cur, w1.heap[g']? = some (.cells cur 81 (0, 0)) := fun g' e => by cases e; exact ⟨_, at1⟩
  refine ⟨⟨set_at at1 v', h.base, ho.keptTy hg2 _ r2 (by decide) (fun _ h => h), vf, wrow1.keptTy hg2 _ r2 (by decide) (fun _ h => h), h.wrowf, by rw [List.length_append, List.length_append, h.len]; rfl, ?_, ?_, ?_, ?_⟩, ?_⟩
  · intro j hj hj'
    by_cases hjl : j < ns.length
    · have hn := h.nd j hjl (by rw [← h.len]; exact hjl)
      rw [List.getElem_append_left hjl, List.getElem_append_left (by rw [← h.len]; exact hjl)]
      exact ⟨hn.up, hn.p, hn.depth, (hn.kids.keptTy hg _ r1 (by decide) (fun _ h => h)).keptTy hg2 _ r2 (by decide) (fun _ h => h), (hn.words.keptTy hg _ r1 (by decide) (fun _ h => h)).keptTy hg2 _ r2 (by decide) (fun _ h => h), hn.kf, hn.wf⟩
    · obtain rfl : j = ns.length := by rw [List.length_append] at hj; simp at hj; omega
      rw [List.getElem_append_right (by omega), List.getElem_append_right (by rw [h.len]; omega)]
      simp only [h.len, Nat.sub_self, List.getElem_cons_zero]
      exact ⟨rfl, rfl, rfl, Own.nil, Own.nil, fun _ e => (by cases e), fun _ e => (by cases e)⟩
  · intro j k hj hk hjk g' e1 e2
    by_cases hjl : j < ns.length
    · by_cases hkl : k < ns.length
      · rw [List.getElem_append_left hjl] at e1
        rw [List.getElem_append_left hkl] at e2
        exact h.dk j k hjl hkl hjk g' e1 e2
      · rw [List.getElem_append_right (by omega)] at e2
        simp at e2
        cases e2
    · rw [List.getElem_append_right (by omega)] at e1
      simp at e1
      cases e1
  · intro j k hj hk hjk g' e1 e2
    by_cases hjl : j < ns.length
    · by_cases hkl : k < ns.length
      · rw [List.getElem_append_left hjl] at e1
        rw [List.getElem_append_left hkl] at e2
        exact h.dw j k hjl hkl hjk g' e1 e2
      · rw [List.getElem_append_right (by omega)] at e2
        simp at e2
        cases e2
    · rw [List.getElem_append_right (by omega)] at e1
      simp at e1
      cases e1
  · intro j hj g' e1
    by_cases hjl : j < ns.length
    · rw [List.getElem_append_left hjl] at e1
      exact h.dv j hjl g' e1
    · rw [List.getElem_append_right (by omega)] at e1
      simp at e1
      cases e1
  · have c1 : Chg F w w1 := Chg.of_grown hg h.rowf
    exact c1.tr (Chg.of_set h.base)
theorem OwnR.wrow_upd (h : OwnR w F b vn vw ns l ws) (v' : Value) (xs : List Int) (ho : Own kI w1 0 No v' xs) (hg : w.grownBy w1 vw.ownBlock) (hb : v'.ownBlock = vw.ownBlock ∨ v'.ownBlock = some w.heap.size) (hN : ∀ g, w.heap.size ≤ g → F g) :
    OwnR (w1.setCell ⟨b, 1, none⟩ v') F b vn v' ns l xs ∧ Chg F w (w1.setCell ⟨b, 1, none⟩ v') := by
  have vf : ∀ g, v'.ownBlock = some g → F g := fun g e => by
    rcases hb with hb | hb
    · exact h.wrowf g (hb ▸ e)
    · rw [hb] at e; cases e; exact hN _ (Nat.le_refl _)
  have r1 := h.wrow.rowTy
  have at1 := tree_kept h.at_ hg _ r1 (by decide)
  have row1 := h.row.keptTy hg _ r1 (by decide) (fun _ h => h)
  have hg2 := setBy w1 b 1 v'
  have r2 : ∀ g', some b = some g' → ∃ cur, w1.heap[g']? = some (.cells cur 81 (0, 0)) := fun g' e => by cases e; exact ⟨_, at1⟩
  refine ⟨⟨set_at at1 v', h.base, row1.keptTy hg2 _ r2 (by decide) (fun _ h => h), h.rowf, ho.keptTy hg2 _ r2 (by decide) (fun _ h => h), vf, h.len, ?_, h.dk, h.dw, ?_⟩, ?_⟩
  · intro j hj hj'
    have hn := h.nd j hj hj'
    exact ⟨hn.up, hn.p, hn.depth, (hn.kids.keptTy hg _ r1 (by decide) (fun _ h => h)).keptTy hg2 _ r2 (by decide) (fun _ h => h), (hn.words.keptNe hg (fun g e e2 => h.dv j hj g e e2) (fun _ h => h)).keptTy hg2 _ r2 (by decide) (fun _ h => h), hn.kf, hn.wf⟩
  · intro j hj g' e1 e2
    rcases hb with hb | hb
    · exact h.dv j hj g' e1 (hb ▸ e2)
    · rw [hb] at e2
      cases e2
      have := ((h.nd j hj (by rw [← h.len]; exact hj)).words.lt e1).2
      omega
  · have c1 : Chg F w w1 := Chg.of_grown hg h.wrowf
    exact c1.tr (Chg.of_set h.base)
end
end Go.Proofs.Ytpgphhkhjbhimaa
