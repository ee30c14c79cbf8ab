/- The dictionary's state behind templates is the document's: no program in sight. -/
import Derived.Test.YtnmlonicfncpfaaDPl
import Derived.Test.YtnmlonicfncpfaaDYLd
namespace Go.Proofs.Ytnmlonicfncpfaa.X
section
variable {α : Type} [DecidableEq α]
def insA (s : List α) (y : α) : List α := if y ∈ s then s else s ++ [y]
theorem insA_mem1 {s : List α} {x y : α} : x ∈ insA s y ↔ x ∈ s ∨ x = y := by
  unfold insA
  split
  · exact ⟨.inl, fun h => h.elim id (fun h => h ▸ by assumption)⟩
  · simp
theorem insA_mem {x : α} : ∀ {l s : List α}, x ∈ l.foldl insA s ↔ x ∈ s ∨ x ∈ l
  | [], s => by simp
  | y :: r, s => by
    rw [List.foldl_cons, insA_mem, insA_mem1, List.mem_cons]
    constructor
    · rintro ((h | h) | h)
      · exact .inl h
      · exact .inr (.inl h)
      · exact .inr (.inr h)
    · rintro (h | h | h)
      · exact .inl (.inl h)
      · exact .inl (.inr h)
      · exact .inr h
theorem insA_flat : ∀ (l a s : List α), (l.foldl insA a).foldl insA s = l.foldl insA (a.foldl insA s)
  | [], a, s => rfl
  | y :: r, a, s => by
    rw [List.foldl_cons, List.foldl_cons, insA_flat r (insA a y) s]
    congr 1
    by_cases h : y ∈ a
    · have h2 : y ∈ a.foldl insA s := insA_mem.2 (.inr h)
      unfold insA
      rw [if_pos h, if_pos]
      exact h2
    · rw [show insA a y = a ++ [y] by unfold insA; rw [if_neg h], List.foldl_append]
      rfl
theorem insA_pre : ∀ (l s : List α), ∃ t, l.foldl insA s = s ++ t
  | [], s => ⟨[], by simp⟩
  | y :: r, s => by
    obtain ⟨t, ht⟩ := insA_pre r (insA s y)
    rw [List.foldl_cons, ht]
    unfold insA
    split
    · exact ⟨t, rfl⟩
    · exact ⟨y :: t, by simp⟩
theorem insA_all {s : List α} : ∀ {l : List α}, (∀ y ∈ l, y ∈ s) → l.foldl insA s = s
  | [], _ => rfl
  | y :: r, h => by
    rw [List.foldl_cons, show insA s y = s by unfold insA; rw [if_pos (h y List.mem_cons_self)]]
    exact insA_all fun z hz => h z (List.mem_cons_of_mem _ hz)
theorem insA_map {β : Type} [DecidableEq β] {f : α → β} (hf : ∀ a b, f a = f b → a = b) : ∀ (l s : List α), (l.foldl insA s).map f = (l.map f).foldl insA (s.map f)
  | [], s => rfl
  | y :: r, s => by
    rw [List.foldl_cons, List.map_cons, List.foldl_cons, insA_map hf r]
    congr 1
    unfold insA
    have : f y ∈ s.map f ↔ y ∈ s := ⟨fun h => by obtain ⟨z, hz, e⟩ := List.mem_map.1 h; exact hf _ _ e ▸ hz, fun h => List.mem_map_of_mem h⟩
    by_cases h : y ∈ s
    · rw [if_pos h, if_pos (this.2 h)]
    · rw [if_neg h, if_neg (fun g => h (this.1 g))]; simp
theorem insA_len : ∀ (l s : List α), (l.foldl insA s).length ≤ s.length + l.length
  | [], s => by simp
  | y :: r, s => by
    rw [List.foldl_cons, List.length_cons]
    have h1 := insA_len r (insA s y)
    have h2 : (insA s y).length ≤ s.length + 1 := by unfold insA; split <;> simp
    omega
end
end Go.Proofs.Ytnmlonicfncpfaa.X
namespace Go.Proofs.Ytnmlonicfncpfaa
open Go.RowKit X
set_option maxRecDepth 8000
theorem idxI_pre {α : Type} [DecidableEq α] {s t : List α} {y : α} (h : y ∈ s) : idxI (s ++ t) y = idxI s y := by
  unfold idxI
  rw [if_pos h, if_pos (List.mem_append_left _ h)]
  congr 1
  rw [List.idxOf_append, if_pos h]
theorem idxI_new {α : Type} [DecidableEq α] {s : List α} {y : α} (h : y ∉ s) : idxI (s ++ [y]) y = s.length := by
  unfold idxI
  rw [if_pos (by simp), List.idxOf_append, if_neg h]
  simp
theorem idxI_ins {α : Type} [DecidableEq α] {s : List α} {y : α} : idxI (insA s y) y = if y ∈ s then idxI s y else s.length := by
  unfold insA
  split
  · rfl
  · exact idxI_new (by assumption)
theorem idxI_get {α : Type} [DecidableEq α] {s : List α} {y : α} (h : y ∈ s) {β : Type} (f : α → β) (d : β) : (s.map f).getD (idxI s y).toNat d = f y := by
  obtain ⟨e, hl⟩ := idxI_in h
  rw [e, Int.toNat_natCast, List.getD_eq_getElem?_getD, List.getElem?_map, List.getElem?_eq_getElem hl, List.getElem_idxOf hl]
  rfl
theorem orbS_ok {x : Mx} {pre : List Int} {g : Int} (hg : layOk x g.toNat = true) :
    orbS x ((pre.map fun g => layP x g.toNat).foldl insA [], pre.map fun h => idxI ((pre.map fun g => layP x g.toNat).foldl insA []) (layP x h.toNat)) g =
      (((pre ++ [g]).map fun g => layP x g.toNat).foldl insA [], (pre ++ [g]).map fun h => idxI (((pre ++ [g]).map fun g => layP x g.toNat).foldl insA []) (layP x h.toNat)) := by
  unfold orbS
  rw [if_pos hg]
  rw [List.map_append, List.map_append, List.foldl_append, List.map_cons, List.map_nil, List.map_cons, List.map_nil, List.foldl_cons, List.foldl_nil]
  obtain ⟨o, ho⟩ : ∃ o, (pre.map fun g => layP x g.toNat).foldl insA [] = o := ⟨_, rfl⟩
  have hm : ∀ h ∈ pre, layP x h.toNat ∈ o := fun h hh => by rw [← ho]; exact insA_mem.2 (.inr (List.mem_map.2 ⟨h, hh, rfl⟩))
  rw [ho]
  have hmm : pre.map (fun h => idxI (insA o (layP x g.toNat)) (layP x h.toNat)) = pre.map (fun h => idxI o (layP x h.toNat)) := by
    apply List.map_congr_left
    intro h hh
    unfold insA
    split
    · rfl
    · exact idxI_pre (hm h hh)
  rw [hmm]
  rw [idxI_ins]
  unfold insA
  split <;> rfl
theorem orb_ok {x : Mx} {ts : List Int} (h : ∀ g ∈ ts, layOk x g.toNat = true) :
    orbP x ts = ((ts.map fun g => layP x g.toNat).foldl insA [], ts.map fun h => idxI ((ts.map fun g => layP x g.toNat).foldl insA []) (layP x h.toNat)) := by
  have key : ∀ (ts pre : List Int), (∀ g ∈ ts, layOk x g.toNat = true) →
      ts.foldl (orbS x) ((pre.map fun g => layP x g.toNat).foldl insA [], pre.map fun h => idxI ((pre.map fun g => layP x g.toNat).foldl insA []) (layP x h.toNat)) =
        (((pre ++ ts).map fun g => layP x g.toNat).foldl insA [], (pre ++ ts).map fun h => idxI (((pre ++ ts).map fun g => layP x g.toNat).foldl insA []) (layP x h.toNat)) := by
    intro ts
    induction ts with
    | nil => intro pre _; rw [List.append_nil]; rfl
    | cons g r ih =>
      intro pre hr
      rw [List.foldl_cons, orbS_ok (hr g List.mem_cons_self), ih (pre ++ [g]) (fun y hy => hr y (List.mem_cons_of_mem _ hy)), List.append_assoc]
      rfl
  have := key ts [] h
  simpa [orbP] using this
def areaP (V : List Pic) : Int := V.foldl (fun n p => n + p.x.l.length) 0
theorem area_snoc (V : List Pic) (p : Pic) : areaP (V ++ [p]) = areaP V + p.x.l.length := by unfold areaP; rw [List.foldl_append]; rfl
theorem addV_fold (c m : Int) : ∀ (l : List Mx) (V : List Pic) (a : List Int) (r : Int), l.foldl (addV c m) (V, a, r) =
    ((l.map (Pic.mk c m)).foldl insA V, a ++ l.map (fun y => idxI ((l.map (Pic.mk c m)).foldl insA V) ⟨c, m, y⟩), r - areaP V + areaP ((l.map (Pic.mk c m)).foldl insA V))
  | [], V, a, r => by simp
  | y :: l, V, a, r => by
    have hs : addV c m (V, a, r) y = (insA V ⟨c, m, y⟩, a ++ [idxI (insA V ⟨c, m, y⟩) ⟨c, m, y⟩], r - areaP V + areaP (insA V ⟨c, m, y⟩)) := by
      rw [idxI_ins]
      unfold addV insA
      dsimp only
      by_cases h : (⟨c, m, y⟩ : Pic) ∈ V
      · simp only [if_pos h]; rw [show r - areaP V + areaP V = r by omega]
      · simp only [if_neg h]; rw [area_snoc]; dsimp only; rw [show r - areaP V + (areaP V + (y.l.length : Int)) = r + y.l.length by omega]
    obtain ⟨t, ht⟩ := insA_pre (l.map (Pic.mk c m)) (insA V ⟨c, m, y⟩)
    have hi : idxI ((l.map (Pic.mk c m)).foldl insA (insA V ⟨c, m, y⟩)) ⟨c, m, y⟩ = idxI (insA V ⟨c, m, y⟩) ⟨c, m, y⟩ := by rw [ht]; exact idxI_pre (insA_mem1.2 (.inr rfl))
    rw [List.foldl_cons, hs, addV_fold c m l, List.map_cons, List.map_cons, List.foldl_cons, hi]
    simp only [List.append_assoc, List.cons_append, List.nil_append, Prod.mk.injEq, true_and]
    omega
/-- a template in the state -/
def tmOf (V : List Pic) (t : Tv) : Tm := ⟨t.p, t.turns, t.turns.map fun g => idxI V (layT t g)⟩
structure DOk (D : DS) (l : List Tv) : Prop where
  v : D.V = varsP l
  t : D.L = l.map (tmOf D.V)
  a : D.ar = areaP D.V
theorem DOk.start : DOk ⟨[], [], 0⟩ [] := ⟨rfl, rfl, rfl⟩
theorem varT_ins (o : List Pic) (t : Tv) : varT o t = (t.turns.map (layT t)).foldl insA o := rfl
theorem vars_snoc (l : List Tv) (t : Tv) : varsP (l ++ [t]) = (t.turns.map (layT t)).foldl insA (varsP l) := by unfold varsP; rw [List.foldl_append]; rfl
theorem vars_mem : ∀ (l : List Tv) (o : List Pic) (t : Tv) (g : Int), t ∈ l → g ∈ t.turns → layT t g ∈ l.foldl varT o
  | [], _, _, _, h, _ => by cases h
  | t0 :: r, o, t, g, h, hg => by
    rw [List.foldl_cons]
    rcases List.mem_cons.1 h with rfl | h
    · have key : ∀ (r : List Tv) (o : List Pic) (p : Pic), p ∈ o → p ∈ r.foldl varT o := by
        intro r
        induction r with
        | nil => intro o p h; exact h
        | cons u r ih => intro o p h; exact ih _ _ (by rw [varT_ins]; exact insA_mem.2 (.inl h))
      exact key r _ _ (by rw [varT_ins]; exact insA_mem.2 (.inr (List.mem_map.2 ⟨g, hg, rfl⟩)))
    · exact vars_mem r _ t g h hg
theorem tmOf_pre {V W : List Pic} {t : Tv} (h : ∀ g ∈ t.turns, layT t g ∈ V) : tmOf (V ++ W) t = tmOf V t := by
  unfold tmOf
  congr 1
  exact List.map_congr_left fun g hg => idxI_pre (h g hg)
theorem add_ok {D : DS} {l : List Tv} {p : Pic} {ts : List Int} (h : DOk D l) (hm : mayG p = true) (ht : mayTs ts = true) (hs : sortI ts = ts) (hl : ∀ g ∈ ts, layOk p.x g.toNat = true) (hL : l.length ≠ 64) (hA : areaP (varsP (l ++ [⟨p, ts⟩])) ≤ 65536) :
    ∃ D', addD D p ts = (D', (l.length : Int), 0) ∧ DOk D' (l ++ [⟨p, ts⟩]) := by
  obtain ⟨hv, htt, ha⟩ := h
  obtain ⟨L, V, ar⟩ := D
  dsimp only at hv htt ha
  have hLL : L.length = l.length := by rw [htt, List.length_map]
  have hP : ((ts.map fun g => layP p.x g.toNat).foldl insA []).map (Pic.mk p.c p.m) = (ts.map (layT ⟨p, ts⟩)).foldl insA [] := by
    rw [insA_map (fun a b e => by injection e), List.map_map]
    rfl
  have hV : (((ts.map fun g => layP p.x g.toNat).foldl insA []).map (Pic.mk p.c p.m)).foldl insA V = varsP (l ++ [⟨p, ts⟩]) := by
    rw [hP, insA_flat, vars_snoc, hv]
    rfl
  unfold addD
  rw [if_pos ⟨hm, ht⟩, hs, orb_ok hl]
  dsimp only
  rw [if_neg, addV_fold, hV]
  · dsimp only
    rw [if_neg]
    · refine ⟨_, by rw [hLL], ⟨rfl, ?_, ?_⟩⟩
      · dsimp only
        rw [List.map_append]
        obtain ⟨t, e⟩ := insA_pre (ts.map (layT ⟨p, ts⟩)) (varsP l)
        have e2 : varsP (l ++ [⟨p, ts⟩]) = V ++ t := by rw [vars_snoc, hv]; exact e
        congr 1
        · rw [htt]
          apply List.map_congr_left
          intro t ht
          rw [e2]
          exact (tmOf_pre fun g hg => by rw [hv]; exact vars_mem l [] t g ht hg).symm
        · unfold tmOf
          simp only [List.map_cons, List.map_nil, List.cons.injEq, and_true, Tm.mk.injEq, true_and]
          rw [List.map_map]
          apply List.map_congr_left
          intro g hg
          show List.getD _ _ _ = _
          rw [List.nil_append]
          exact idxI_get (insA_mem.2 (.inr (List.mem_map.2 ⟨g, hg, rfl⟩))) _ _
      · dsimp only
        omega
    · rintro (h | h)
      · omega
      · rw [ha] at h; omega
  · intro h
    obtain ⟨g, hg, e⟩ := List.mem_map.1 h
    obtain ⟨e2, -⟩ := idxI_in (insA_mem (s := []).2 (.inr (List.mem_map.2 ⟨g, hg, rfl⟩)) : layP p.x g.toNat ∈ (ts.map fun g => layP p.x g.toNat).foldl insA [])
    omega
end Go.Proofs.Ytnmlonicfncpfaa
