/- The dictionary's state behind templates is the document's: no program in sight. To lay what is laid; how many layings there are that are not the same: no program in sight. -/
import Derived.Test.YtnmlonicfncpfaaGreatDPl
import Derived.Test.YtnmlonicfncpfaaGreatDYLd
namespace Go.Proofs.YtnmlonicfncpfaaGreat.X
section
variable {α : Type} [DecidableEq α]
def insA (s : List α) (y : α) : List α := if y ∈ s then s else s ++ [y]
theorem insA_mem1 {s : List α} {x y : α} : x ∈ insA s y ↔ x ∈ s ∨ x = y := by
  unfold insA
  split
  · exact ⟨.inl, fun h => h.elim id (fun h => h ▸ by assumption)⟩
  · simp
theorem insA_mem {x : α} : ∀ {l s : List α}, x ∈ l.foldl insA s ↔ x ∈ s ∨ x ∈ l
  | [], s => by simp
  | y :: r, s => by
    rw [List.foldl_cons, insA_mem, insA_mem1, List.mem_cons]
    constructor
    · rintro ((h | h) | h)
      · exact .inl h
      · exact .inr (.inl h)
      · exact .inr (.inr h)
    · rintro (h | h | h)
      · exact .inl (.inl h)
      · exact .inl (.inr h)
      · exact .inr h
theorem insA_flat : ∀ (l a s : List α), (l.foldl insA a).foldl insA s = l.foldl insA (a.foldl insA s)
  | [], a, s => rfl
  | y :: r, a, s => by
    rw [List.foldl_cons, List.foldl_cons, insA_flat r (insA a y) s]
    congr 1
    by_cases h : y ∈ a
    · have h2 : y ∈ a.foldl insA s := insA_mem.2 (.inr h)
      unfold insA
      rw [if_pos h, if_pos]
      exact h2
    · rw [show insA a y = a ++ [y] by unfold insA; rw [if_neg h], List.foldl_append]
      rfl
theorem insA_pre : ∀ (l s : List α), ∃ t, l.foldl insA s = s ++ t
  | [], s => ⟨[], by simp⟩
  | y :: r, s => by
    obtain ⟨t, ht⟩ := insA_pre r (insA s y)
    rw [List.foldl_cons, ht]
    unfold insA
    split
    · exact ⟨t, rfl⟩
    · exact ⟨y :: t, by simp⟩
theorem insA_all {s : List α} : ∀ {l : List α}, (∀ y ∈ l, y ∈ s) → l.foldl insA s = s
  | [], _ => rfl
  | y :: r, h => by
    rw [List.foldl_cons, show insA s y = s by unfold insA; rw [if_pos (h y List.mem_cons_self)]]
    exact insA_all fun z hz => h z (List.mem_cons_of_mem _ hz)
theorem insA_map {β : Type} [DecidableEq β] {f : α → β} (hf : ∀ a b, f a = f b → a = b) : ∀ (l s : List α), (l.foldl insA s).map f = (l.map f).foldl insA (s.map f)
  | [], s => rfl
  | y :: r, s => by
    rw [List.foldl_cons, List.map_cons, List.foldl_cons, insA_map hf r]
    congr 1
    unfold insA
    have : f y ∈ s.map f ↔ y ∈ s := ⟨fun h => by obtain ⟨z, hz, e⟩ := List.mem_map.1 h; exact hf _ _ e ▸ hz, fun h => List.mem_map_of_mem h⟩
    by_cases h : y ∈ s
    · rw [if_pos h, if_pos (this.2 h)]
    · rw [if_neg h, if_neg (fun g => h (this.1 g))]; simp
theorem insA_len : ∀ (l s : List α), (l.foldl insA s).length ≤ s.length + l.length
  | [], s => by simp
  | y :: r, s => by
    rw [List.foldl_cons, List.length_cons]
    have h1 := insA_len r (insA s y)
    have h2 : (insA s y).length ≤ s.length + 1 := by unfold insA; split <;> simp
    omega
end
end Go.Proofs.YtnmlonicfncpfaaGreat.X
namespace Go.Proofs.YtnmlonicfncpfaaGreat
open Go.RowKit X
set_option maxRecDepth 8000
theorem idxI_pre {α : Type} [DecidableEq α] {s t : List α} {y : α} (h : y ∈ s) : idxI (s ++ t) y = idxI s y := by
  unfold idxI
  rw [if_pos h, if_pos (List.mem_append_left _ h)]
  congr 1
  rw [List.idxOf_append, if_pos h]
theorem idxI_new {α : Type} [DecidableEq α] {s : List α} {y : α} (h : y ∉ s) : idxI (s ++ [y]) y = s.length := by
  unfold idxI
  rw [if_pos (by simp), List.idxOf_append, if_neg h]
  simp
theorem idxI_ins {α : Type} [DecidableEq α] {s : List α} {y : α} : idxI (insA s y) y = if y ∈ s then idxI s y else s.length := by
  unfold insA
  split
  · rfl
  · exact idxI_new (by assumption)
theorem idxI_get {α : Type} [DecidableEq α] {s : List α} {y : α} (h : y ∈ s) {β : Type} (f : α → β) (d : β) : (s.map f).getD (idxI s y).toNat d = f y := by
  obtain ⟨e, hl⟩ := idxI_in h
  rw [e, Int.toNat_natCast, List.getD_eq_getElem?_getD, List.getElem?_map, List.getElem?_eq_getElem hl, List.getElem_idxOf hl]
  rfl
theorem orbS_ok {x : Mx} {pre : List Int} {g : Int} (hg : layOk x g.toNat = true) :
    orbS x ((pre.map fun g => layP x g.toNat).foldl insA [], pre.map fun h => idxI ((pre.map fun g => layP x g.toNat).foldl insA []) (layP x h.toNat)) g =
      (((pre ++ [g]).map fun g => layP x g.toNat).foldl insA [], (pre ++ [g]).map fun h => idxI (((pre ++ [g]).map fun g => layP x g.toNat).foldl insA []) (layP x h.toNat)) := by
  unfold orbS
  rw [if_pos hg]
  rw [List.map_append, List.map_append, List.foldl_append, List.map_cons, List.map_nil, List.map_cons, List.map_nil, List.foldl_cons, List.foldl_nil]
  obtain ⟨o, ho⟩ : ∃ o, (pre.map fun g => layP x g.toNat).foldl insA [] = o := ⟨_, rfl⟩
  have hm : ∀ h ∈ pre, layP x h.toNat ∈ o := fun h hh => by rw [← ho]; exact insA_mem.2 (.inr (List.mem_map.2 ⟨h, hh, rfl⟩))
  rw [ho]
  have hmm : pre.map (fun h => idxI (insA o (layP x g.toNat)) (layP x h.toNat)) = pre.map (fun h => idxI o (layP x h.toNat)) := by
    apply List.map_congr_left
    intro h hh
    unfold insA
    split
    · rfl
    · exact idxI_pre (hm h hh)
  rw [hmm]
  rw [idxI_ins]
  unfold insA
  split <;> rfl
theorem orb_ok {x : Mx} {ts : List Int} (h : ∀ g ∈ ts, layOk x g.toNat = true) :
    orbP x ts = ((ts.map fun g => layP x g.toNat).foldl insA [], ts.map fun h => idxI ((ts.map fun g => layP x g.toNat).foldl insA []) (layP x h.toNat)) := by
  have key : ∀ (ts pre : List Int), (∀ g ∈ ts, layOk x g.toNat = true) →
      ts.foldl (orbS x) ((pre.map fun g => layP x g.toNat).foldl insA [], pre.map fun h => idxI ((pre.map fun g => layP x g.toNat).foldl insA []) (layP x h.toNat)) =
        (((pre ++ ts).map fun g => layP x g.toNat).foldl insA [], (pre ++ ts).map fun h => idxI (((pre ++ ts).map fun g => layP x g.toNat).foldl insA []) (layP x h.toNat)) := by
    intro ts
    induction ts with
    | nil => intro pre _; rw [List.append_nil]; rfl
    | cons g r ih =>
      intro pre hr
      rw [List.foldl_cons, orbS_ok (hr g List.mem_cons_self), ih (pre ++ [g]) (fun y hy => hr y (List.mem_cons_of_mem _ hy)), List.append_assoc]
      rfl
  have := key ts [] h
  simpa [orbP] using this
def areaP (V : List Pic) : Int := V.foldl (fun n p => n + p.x.l.length) 0
theorem area_snoc (V : List Pic) (p : Pic) : areaP (V ++ [p]) = areaP V + p.x.l.length := by unfold areaP; rw [List.foldl_append]; rfl
theorem addV_fold (c m : Int) : ∀ (l : List Mx) (V : List Pic) (a : List Int) (r : Int), l.foldl (addV c m) (V, a, r) =
    ((l.map (Pic.mk c m)).foldl insA V, a ++ l.map (fun y => idxI ((l.map (Pic.mk c m)).foldl insA V) ⟨c, m, y⟩), r - areaP V + areaP ((l.map (Pic.mk c m)).foldl insA V))
  | [], V, a, r => by simp
  | y :: l, V, a, r => by
    have hs : addV c m (V, a, r) y = (insA V ⟨c, m, y⟩, a ++ [idxI (insA V ⟨c, m, y⟩) ⟨c, m, y⟩], r - areaP V + areaP (insA V ⟨c, m, y⟩)) := by
      rw [idxI_ins]
      unfold addV insA
      dsimp only
      by_cases h : (⟨c, m, y⟩ : Pic) ∈ V
      · simp only [if_pos h]; rw [show r - areaP V + areaP V = r by omega]
      · simp only [if_neg h]; rw [area_snoc]; dsimp only; rw [show r - areaP V + (areaP V + (y.l.length : Int)) = r + y.l.length by omega]
    obtain ⟨t, ht⟩ := insA_pre (l.map (Pic.mk c m)) (insA V ⟨c, m, y⟩)
    have hi : idxI ((l.map (Pic.mk c m)).foldl insA (insA V ⟨c, m, y⟩)) ⟨c, m, y⟩ = idxI (insA V ⟨c, m, y⟩) ⟨c, m, y⟩ := by rw [ht]; exact idxI_pre (insA_mem1.2 (.inr rfl))
    rw [List.foldl_cons, hs, addV_fold c m l, List.map_cons, List.map_cons, List.foldl_cons, hi]
    simp only [List.append_assoc, List.cons_append, List.nil_append, Prod.mk.injEq, true_and]
    omega
/-- a template in the state -/
def tmOf (V : List Pic) (t : Tv) : Tm := ⟨t.p, t.turns, t.turns.map fun g => idxI V (layT t g)⟩
structure DOk (D : DS) (l : List Tv) : Prop where
  v : D.V = varsP l
  t : D.L = l.map (tmOf D.V)
  a : D.ar = areaP D.V
theorem DOk.start : DOk ⟨[], [], 0⟩ [] := ⟨rfl, rfl, rfl⟩
theorem varT_ins (o : List Pic) (t : Tv) : varT o t = (t.turns.map (layT t)).foldl insA o := rfl
theorem vars_snoc (l : List Tv) (t : Tv) : varsP (l ++ [t]) = (t.turns.map (layT t)).foldl insA (varsP l) := by unfold varsP; rw [List.foldl_append]; rfl
theorem vars_mem : ∀ (l : List Tv) (o : List Pic) (t : Tv) (g : Int), t ∈ l → g ∈ t.turns → layT t g ∈ l.foldl varT o
  | [], _, _, _, h, _ => by cases h
  | t0 :: r, o, t, g, h, hg => by
    rw [List.foldl_cons]
    rcases List.mem_cons.1 h with rfl | h
    · have key : ∀ (r : List Tv) (o : List Pic) (p : Pic), p ∈ o → p ∈ r.foldl varT o := by
        intro r
        induction r with
        | nil => intro o p h; exact h
        | cons u r ih => intro o p h; exact ih _ _ (by rw [varT_ins]; exact insA_mem.2 (.inl h))
      exact key r _ _ (by rw [varT_ins]; exact insA_mem.2 (.inr (List.mem_map.2 ⟨g, hg, rfl⟩)))
    · exact vars_mem r _ t g h hg
theorem tmOf_pre {V W : List Pic} {t : Tv} (h : ∀ g ∈ t.turns, layT t g ∈ V) : tmOf (V ++ W) t = tmOf V t := by
  unfold tmOf
  congr 1
  exact List.map_congr_left fun g hg => idxI_pre (h g hg)
theorem add_ok {D : DS} {l : List Tv} {p : Pic} {ts : List Int} (h : DOk D l) (hm : mayG p = true) (ht : mayTs ts = true) (hs : sortI ts = ts) (hl : ∀ g ∈ ts, layOk p.x g.toNat = true) (hL : l.length ≠ 64) (hA : areaP (varsP (l ++ [⟨p, ts⟩])) ≤ 65536) :
    ∃ D', addD D p ts = (D', (l.length : Int), 0) ∧ DOk D' (l ++ [⟨p, ts⟩]) := by
  obtain ⟨hv, htt, ha⟩ := h
  obtain ⟨L, V, ar⟩ := D
  dsimp only at hv htt ha
  have hLL : L.length = l.length := by rw [htt, List.length_map]
  have hP : ((ts.map fun g => layP p.x g.toNat).foldl insA []).map (Pic.mk p.c p.m) = (ts.map (layT ⟨p, ts⟩)).foldl insA [] := by
    rw [insA_map (fun a b e => by injection e), List.map_map]
    rfl
  have hV : (((ts.map fun g => layP p.x g.toNat).foldl insA []).map (Pic.mk p.c p.m)).foldl insA V = varsP (l ++ [⟨p, ts⟩]) := by
    rw [hP, insA_flat, vars_snoc, hv]
    rfl
  unfold addD
  rw [if_pos ⟨hm, ht⟩, hs, orb_ok hl]
  dsimp only
  rw [if_neg, addV_fold, hV]
  · dsimp only
    rw [if_neg]
    · refine ⟨_, by rw [hLL], ⟨rfl, ?_, ?_⟩⟩
      · dsimp only
        rw [List.map_append]
        obtain ⟨t, e⟩ := insA_pre (ts.map (layT ⟨p, ts⟩)) (varsP l)
        have e2 : varsP (l ++ [⟨p, ts⟩]) = V ++ t := by rw [vars_snoc, hv]; exact e
        congr 1
        · rw [htt]
          apply List.map_congr_left
          intro t ht
          rw [e2]
          exact (tmOf_pre fun g hg => by rw [hv]; exact vars_mem l [] t g ht hg).symm
        · unfold tmOf
          simp only [List.map_cons, List.map_nil, List.cons.injEq, and_true, Tm.mk.injEq, true_and]
          rw [List.map_map]
          apply List.map_congr_left
          intro g hg
          show List.getD _ _ _ = _
          rw [List.nil_append]
          exact idxI_get (insA_mem.2 (.inr (List.mem_map.2 ⟨g, hg, rfl⟩))) _ _
      · dsimp only
        omega
    · rintro (h | h)
      · omega
      · rw [ha] at h; omega
  · intro h
    obtain ⟨g, hg, e⟩ := List.mem_map.1 h
    obtain ⟨e2, -⟩ := idxI_in (insA_mem (s := []).2 (.inr (List.mem_map.2 ⟨g, hg, rfl⟩)) : layP p.x g.toNat ∈ (ts.map fun g => layP p.x g.toNat).foldl insA [])
    omega
end Go.Proofs.YtnmlonicfncpfaaGreat
namespace Go.Proofs.YtnmlonicfncpfaaGreat
open Go.RowKit X
set_option maxRecDepth 8000
set_option maxHeartbeats 4000000
def comp (a b : Nat) : Nat := if b < 4 then (a % 4 + b) % 4 + 4 * (a / 4) else (b % 4 + 4 - a % 4) % 4 + 4 * ((1 + a / 4) % 2)
theorem comp_lt : ∀ a, a < 8 → ∀ b, b < 8 → comp a b < 8 := by decide
theorem from_rng {a b x y : Int} {g : Nat} (hg : g < 8) (hx : 0 ≤ x ∧ x < (sizeP a b g).1) (hy : 0 ≤ y ∧ y < (sizeP a b g).2) : (0 ≤ (fromP a b x y g).1 ∧ (fromP a b x y g).1 < a) ∧ 0 ≤ (fromP a b x y g).2 ∧ (fromP a b x y g).2 < b := from_in hg hx hy
theorem lay_comp {x : Mx} (hx : MxOk x) {a b : Nat} (ha : a < 8) (hb : b < 8) : layP (layP x a) b = layP x (comp a b) := by
  have hsz : sizeP (layP x a).w (layP x a).h b = sizeP x.w x.h (comp a b) := by
    show sizeP (sizeP x.w x.h a).1 (sizeP x.w x.h a).2 b = _
    obtain rfl | rfl | rfl | rfl | rfl | rfl | rfl | rfl : a = 0 ∨ a = 1 ∨ a = 2 ∨ a = 3 ∨ a = 4 ∨ a = 5 ∨ a = 6 ∨ a = 7 := by omega
    all_goals
      obtain rfl | rfl | rfl | rfl | rfl | rfl | rfl | rfl : b = 0 ∨ b = 1 ∨ b = 2 ∨ b = 3 ∨ b = 4 ∨ b = 5 ∨ b = 6 ∨ b = 7 := by omega
      all_goals rfl
  refine mx_ext (lay_ok (lay_ok hx a) b) (lay_ok hx _) (congrArg Prod.fst hsz) (congrArg Prod.snd hsz) fun i j hi hj => ?_
  have hi' : 0 ≤ i ∧ i < (sizeP x.w x.h (comp a b)).1 := by rw [← hsz]; exact hi
  have hj' : 0 ≤ j ∧ j < (sizeP x.w x.h (comp a b)).2 := by rw [← hsz]; exact hj
  obtain ⟨f1, f2⟩ := from_rng (a := (layP x a).w) (b := (layP x a).h) hb hi hj
  rw [lay_at (lay_ok hx a) hi hj, lay_at hx f1 f2, lay_at hx hi' hj']
  clear f1 f2 hi hj hi' hj' hsz
  obtain rfl | rfl | rfl | rfl | rfl | rfl | rfl | rfl : a = 0 ∨ a = 1 ∨ a = 2 ∨ a = 3 ∨ a = 4 ∨ a = 5 ∨ a = 6 ∨ a = 7 := by omega
  all_goals
    obtain rfl | rfl | rfl | rfl | rfl | rfl | rfl | rfl : b = 0 ∨ b = 1 ∨ b = 2 ∨ b = 3 ∨ b = 4 ∨ b = 5 ∨ b = 6 ∨ b = 7 := by omega
    all_goals
      congr 1
      all_goals (simp only [comp, fromP, from0, layP, sizeP]; simp; try omega)
def back (a : Nat) : Nat := if a < 4 then (4 - a) % 4 else a
theorem comp_back : ∀ a, a < 8 → back a < 8 ∧ comp a (back a) = 0 := by decide
theorem comp_0 : ∀ b, b < 8 → comp 0 b = b := by decide
theorem comp_bb : ∀ a, a < 8 → ∀ b, b < 8 → comp (comp a (back b)) b = a := by decide
/-- the first of each class -/
def clsS (r : Nat → Nat → Bool) (s : List Nat) (g : Nat) : List Nat := if s.any (r g) then s else s ++ [g]
def cls (r : Nat → Nat → Bool) : List Nat := (List.range 8).foldl (clsS r) []
theorem cls_ins {α : Type} [DecidableEq α] (f : Nat → α) : ∀ (l s : List Nat), (l.map f).foldl insA (s.map f) = (l.foldl (clsS fun a b => decide (f a = f b)) s).map f
  | [], s => rfl
  | g :: l, s => by
    rw [List.map_cons, List.foldl_cons, List.foldl_cons, ← cls_ins f l]
    congr 1
    unfold insA clsS
    have : f g ∈ s.map f ↔ (s.any fun b => decide (f g = f b)) = true := by
      rw [List.any_eq_true, List.mem_map]
      exact ⟨fun ⟨a, ha, e⟩ => ⟨a, ha, decide_eq_true e.symm⟩, fun ⟨a, ha, e⟩ => ⟨a, ha, (of_decide_eq_true e).symm⟩⟩
    by_cases h : f g ∈ s.map f
    · rw [if_pos h, if_pos (this.1 h)]
    · rw [if_neg h, if_neg (fun g => h (this.2 g))]; simp
theorem clsS_congr {r r' : Nat → Nat → Bool} {l s : List Nat} (h : ∀ a ∈ l, ∀ b, b ∈ s ∨ b ∈ l → r a b = r' a b) : l.foldl (clsS r) s = l.foldl (clsS r') s := by
  induction l generalizing s with
  | nil => rfl
  | cons g l ih =>
    have e : clsS r s g = clsS r' s g := by
      unfold clsS
      have : s.any (r g) = s.any (r' g) := by
        rw [Bool.eq_iff_iff, List.any_eq_true, List.any_eq_true]
        constructor
        · rintro ⟨b, hb, e⟩; exact ⟨b, hb, by rw [← h g List.mem_cons_self b (.inl hb)]; exact e⟩
        · rintro ⟨b, hb, e⟩; exact ⟨b, hb, by rw [h g List.mem_cons_self b (.inl hb)]; exact e⟩
      rw [this]
    rw [List.foldl_cons, List.foldl_cons, e]
    refine ih fun a ha b hb => h a (List.mem_cons_of_mem _ ha) b ?_
    rcases hb with hb | hb
    · unfold clsS at hb
      split at hb
      · exact .inl hb
      · rcases List.mem_append.1 hb with hb | hb
        · exact .inl hb
        · rw [List.mem_singleton] at hb; subst hb; exact .inr List.mem_cons_self
    · exact .inr (List.mem_cons_of_mem _ hb)
/-- eight bits -/
def bit (n g : Nat) : Bool := n.testBit g
def clo (n : Nat) : Bool := bit n 0 && (List.range 8).all fun a => (List.range 8).all fun b => !bit n a || !bit n b || bit n (comp a b)
def chk (n : Nat) : Bool := !clo n || (decide (0 < (cls fun a b => bit n (comp a (back b))).length) && decide (8 % (cls fun a b => bit n (comp a (back b))).length = 0))
theorem chk_all : (List.range 256).all chk = true := by decide +kernel
theorem cls_div (n : Nat) (hn : n < 256) (h0 : bit n 0 = true) (h : ∀ a, a < 8 → ∀ b, b < 8 → bit n a = true → bit n b = true → bit n (comp a b) = true) : 0 < (cls fun a b => bit n (comp a (back b))).length ∧ 8 % (cls fun a b => bit n (comp a (back b))).length = 0 := by
  have h1 := List.all_eq_true.1 chk_all n (List.mem_range.2 hn)
  have h2 : clo n = true := by
    unfold clo
    rw [h0, Bool.true_and, List.all_eq_true]
    intro a ha
    rw [List.all_eq_true]
    intro b hb
    cases e1 : bit n a
    · rfl
    · cases e2 : bit n b
      · rfl
      · rw [h a (List.mem_range.1 ha) b (List.mem_range.1 hb) e1 e2]; rfl
  unfold chk at h1
  rw [h2, Bool.not_true, Bool.false_or, Bool.and_eq_true, decide_eq_true_eq, decide_eq_true_eq] at h1
  exact h1
def toN (s : Nat → Bool) : Nat := (List.range 8).foldl (fun n g => n + if s g then 2 ^ g else 0) 0
theorem toN_ok (s : Nat → Bool) : toN s < 256 ∧ ∀ g, g < 8 → bit (toN s) g = s g := by
  unfold toN bit
  obtain ⟨b0, h0⟩ : ∃ b, s 0 = b := ⟨_, rfl⟩
  obtain ⟨b1, h1⟩ : ∃ b, s 1 = b := ⟨_, rfl⟩
  obtain ⟨b2, h2⟩ : ∃ b, s 2 = b := ⟨_, rfl⟩
  obtain ⟨b3, h3⟩ : ∃ b, s 3 = b := ⟨_, rfl⟩
  obtain ⟨b4, h4⟩ : ∃ b, s 4 = b := ⟨_, rfl⟩
  obtain ⟨b5, h5⟩ : ∃ b, s 5 = b := ⟨_, rfl⟩
  obtain ⟨b6, h6⟩ : ∃ b, s 6 = b := ⟨_, rfl⟩
  obtain ⟨b7, h7⟩ : ∃ b, s 7 = b := ⟨_, rfl⟩
  have e : (List.range 8).foldl (fun n g => n + if s g then 2 ^ g else 0) 0 = 0 + (if b0 then 2 ^ 0 else 0) + (if b1 then 2 ^ 1 else 0) + (if b2 then 2 ^ 2 else 0) + (if b3 then 2 ^ 3 else 0) + (if b4 then 2 ^ 4 else 0) + (if b5 then 2 ^ 5 else 0) + (if b6 then 2 ^ 6 else 0) + (if b7 then 2 ^ 7 else 0) := by
    show 0 + (if s 0 then _ else _) + (if s 1 then _ else _) + (if s 2 then _ else _) + (if s 3 then _ else _) + (if s 4 then _ else _) + (if s 5 then _ else _) + (if s 6 then _ else _) + (if s 7 then _ else _) = _
    rw [h0, h1, h2, h3, h4, h5, h6, h7]
  rw [e]
  have key : ∀ (b0 b1 b2 b3 b4 b5 b6 b7 : Bool), (0 + (if b0 then 2 ^ 0 else 0) + (if b1 then 2 ^ 1 else 0) + (if b2 then 2 ^ 2 else 0) + (if b3 then 2 ^ 3 else 0) + (if b4 then 2 ^ 4 else 0) + (if b5 then 2 ^ 5 else 0) + (if b6 then 2 ^ 6 else 0) + (if b7 then 2 ^ 7 else 0) : Nat) < 256 ∧ ∀ g, g < 8 → (0 + (if b0 then 2 ^ 0 else 0) + (if b1 then 2 ^ 1 else 0) + (if b2 then 2 ^ 2 else 0) + (if b3 then 2 ^ 3 else 0) + (if b4 then 2 ^ 4 else 0) + (if b5 then 2 ^ 5 else 0) + (if b6 then 2 ^ 6 else 0) + (if b7 then 2 ^ 7 else 0) : Nat).testBit g = [b0, b1, b2, b3, b4, b5, b6, b7].getD g false := by decide +kernel
  obtain ⟨k1, k2⟩ := key b0 b1 b2 b3 b4 b5 b6 b7
  refine ⟨k1, fun g hg => ?_⟩
  rw [k2 g hg]
  obtain rfl | rfl | rfl | rfl | rfl | rfl | rfl | rfl : g = 0 ∨ g = 1 ∨ g = 2 ∨ g = 3 ∨ g = 4 ∨ g = 5 ∨ g = 6 ∨ g = 7 := by omega
  all_goals (first | rw [h0] | rw [h1] | rw [h2] | rw [h3] | rw [h4] | rw [h5] | rw [h6] | rw [h7]); rfl
/-- as many layings that are not the same as divide eight -/
theorem ways_div {x : Mx} (hx : MxOk x) : 0 < (((List.range 8).map (layP x)).foldl insA []).length ∧ 8 % (((List.range 8).map (layP x)).foldl insA []).length = 0 := by
  have e := cls_ins (layP x) (List.range 8) []
  rw [List.map_nil] at e
  rw [e, List.length_map]
  obtain ⟨t1, t2⟩ := toN_ok fun g => decide (layP x g = x)
  have e2 : (List.range 8).foldl (clsS fun a b => decide (layP x a = layP x b)) [] = cls fun a b => bit (toN fun g => decide (layP x g = x)) (comp a (back b)) := by
    refine clsS_congr fun a ha b hb => ?_
    have ha8 : a < 8 := List.mem_range.1 ha
    have hb8 : b < 8 := by rcases hb with h | h; · cases h
                           · exact List.mem_range.1 h
    obtain ⟨c1, c2⟩ := comp_back b hb8
    rw [t2 _ (comp_lt a ha8 _ c1), Bool.eq_iff_iff, decide_eq_true_eq, decide_eq_true_eq]
    constructor
    · intro h
      rw [← lay_comp hx ha8 c1, h, lay_comp hx hb8 c1, c2, lay_0 hx]
    · intro h
      have := lay_comp hx (comp_lt a ha8 _ c1) hb8
      rw [h, comp_bb a ha8 b hb8] at this
      exact this.symm
  rw [e2]
  refine cls_div _ t1 ?_ ?_
  · rw [t2 0 (by decide)]; exact decide_eq_true (lay_0 hx)
  · intro a ha b hb h1 h2
    rw [t2 a ha, decide_eq_true_eq] at h1
    rw [t2 b hb, decide_eq_true_eq] at h2
    rw [t2 _ (comp_lt a ha b hb), decide_eq_true_eq, ← lay_comp hx ha hb, h1, h2]
end Go.Proofs.YtnmlonicfncpfaaGreat
