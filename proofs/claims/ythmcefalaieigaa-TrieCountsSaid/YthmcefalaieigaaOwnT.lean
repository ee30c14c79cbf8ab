/- A tree that the call owns. -/
import Derived.Test.YthmcefalaieigaaIns
import Derived.Test.YthmcefalaieigaaPath
namespace Go.Proofs.Ythmcefalaieigaa.X
open Go.RowKit
/-- what lies below B, or is of none of the types, is as it was -/
structure Chg (B : Nat) (tys : List TypeId) (w w' : World) : Prop where
  os : w'.os = w.os
  tape : w'.tape = w.tape
  output : w'.output = w.output
  size : w.heap.size ≤ w'.heap.size
  block : ∀ k, k < w.heap.size → (k < B ∨ ¬ InTy w tys k) → w'.heap[k]? = w.heap[k]?
theorem Chg.refl (B : Nat) (tys : List TypeId) (w : World) : Chg B tys w w := ⟨rfl, rfl, rfl, Nat.le_refl _, fun _ _ _ => rfl⟩
theorem Chg.tr {B : Nat} {tys : List TypeId} {a b c : World} (h : Chg B tys a b) (g : Chg B tys b c) : Chg B tys a c :=
  ⟨g.os.trans h.os, g.tape.trans h.tape, g.output.trans h.output, Nat.le_trans h.size g.size, fun k hk hc => by
    have h1 := h.block k hk hc
    refine (g.block k (Nat.lt_of_lt_of_le hk h.size) ?_).trans h1
    rcases hc with hc | hc
    · exact .inl hc
    · exact .inr (fun ⟨cur, e, fr, hh, hm⟩ => hc ⟨cur, e, fr, h1 ▸ hh, hm⟩)⟩
theorem Chg.of_ext {B : Nat} {tys : List TypeId} {a b : World} (h : Ext a b) : Chg B tys a b := ⟨h.os, h.tape, h.output, h.size, fun k hk _ => h.block k hk⟩
theorem Chg.of_grown {B : Nat} {tys : List TypeId} {a b : World} {row : Option Nat} (h : a.grownBy b row) (hr : ∀ g, row = some g → B ≤ g ∧ InTy a tys g) : Chg B tys a b :=
  ⟨h.os, h.tape, h.output, h.size, fun k hk hc => h.block k hk (fun e => by
    obtain ⟨h1, h2⟩ := hr k e.symm
    rcases hc with hc | hc
    · omega
    · exact hc h2)⟩
theorem Chg.of_set {B : Nat} {tys : List TypeId} {a : World} {p : Addr} {u : Value} (h1 : B ≤ p.block) (h2 : InTy a tys p.block) : Chg B tys a (a.setCell p u) :=
  ⟨rfl, rfl, rfl, by simp [World.setCell], fun k _ hc => Below.heap_setCell _ _ _ _ (fun e => by
    subst e
    rcases hc with hc | hc
    · omega
    · exact hc h2)⟩
theorem Chg.drew {B : Nat} {tys : List TypeId} {a b : World} (h : Chg B tys a b) : Chg B tys a b.drew := ⟨h.os, h.tape, h.output, h.size, h.block⟩
theorem Chg.ext {B : Nat} {tys : List TypeId} {a b : World} (h : Chg B tys a b) (hB : a.heap.size ≤ B) : Ext a b := ⟨h.os, h.tape, h.output, h.size, fun k hk => h.block k hk (.inl (by omega))⟩
theorem Chg.more {B B' : Nat} {tys tys' : List TypeId} {a b : World} (h : Chg B tys a b) (hB : B' ≤ B) (ht : ∀ t ∈ tys, t ∈ tys') : Chg B' tys' a b :=
  ⟨h.os, h.tape, h.output, h.size, fun k hk hc => h.block k hk (by
    rcases hc with hc | hc
    · exact .inl (by omega)
    · exact .inr (fun ⟨cur, e, fr, hh, hm⟩ => hc ⟨cur, e, fr, hh, ht _ hm⟩))⟩
theorem Sl.chg {α : Type} {k : Kd α} {w w' : World} {D : Nat → Prop} {A : Option Addr} {xs : List α} {B : Nat} {tys : List TypeId} (h : Sl k w D A xs) (hc : Chg B tys w w') (hd : ∀ t ∈ k.ety :: k.sub, t ∉ tys) : Sl k w' D A xs :=
  (h.ty.keep (fun b hb ⟨_, cur, e, fr, hh, hm⟩ => hc.block b hb (.inr (fun ⟨cur', e', fr', hh', hm'⟩ => by
    rw [hh] at hh'; cases hh'; exact hd _ hm hm')))).weak fun _ _ h => h.1
theorem Sl.chgB {α : Type} {k : Kd α} {w w' : World} {A : Option Addr} {xs : List α} {B : Nat} {tys : List TypeId} (h : Sl k w (· < B) A xs) (hc : Chg B tys w w') : Sl k w' (· < B) A xs :=
  h.keep (fun b hb hd => hc.block b hb (.inl hd))
theorem Own.chg {α : Type} {k : Kd α} {w w' : World} {D : Nat → Prop} {v : Value} {xs : List α} {B0 B : Nat} {tys : List TypeId} (h : Own k w B0 D v xs) (hc : Chg B tys w w') (hd : ∀ t ∈ k.ety :: k.sub, t ∉ tys) : Own k w' B0 D v xs := by
  obtain ⟨cells, ho, hf⟩ := h
  refine ⟨cells, ⟨ho.1, ?_⟩, (hf.ty.keep (fun b hb ⟨_, cur, e, fr, hh, hm⟩ => hc.block b hb (.inr (fun ⟨cur', e', fr', hh', hm'⟩ => by rw [hh] at hh'; cases hh'; exact hd _ (List.mem_cons_of_mem _ hm) hm')))).weak fun _ _ h => h.1⟩
  rcases ho.2 with h0 | ⟨g, cap, cur, e, hb, hh, r⟩
  · exact .inl h0
  · exact .inr ⟨g, cap, cur, e, hb, (hc.block g (lt_of_heap hh) (.inr (fun ⟨cur', e', fr', hh', hm'⟩ => by rw [hh] at hh'; cases hh'; exact hd _ List.mem_cons_self hm'))).trans hh, r⟩
theorem Own.inTy {α : Type} {k : Kd α} {w : World} {D : Nat → Prop} {v : Value} {xs : List α} {B : Nat} (h : Own k w B D v xs) {tys : List TypeId} (ht : k.ety ∈ tys) : ∀ g, v.ownBlock = some g → B ≤ g ∧ InTy w tys g := fun g hg => by
  obtain ⟨cur, hh⟩ := h.heap hg
  exact ⟨(h.lt hg).1, cur, _, _, hh, ht⟩
/-- two rows of two types are not one -/
theorem own_ne {α β : Type} {k : Kd α} {k' : Kd β} {w : World} {B B' : Nat} {D D' : Nat → Prop} {v v' : Value} {xs : List α} {ys : List β} (h : Own k w B D v xs) (h' : Own k' w B' D' v' ys) (hne : k.ety ≠ k'.ety) : v.ownBlock = none ∨ v.ownBlock ≠ v'.ownBlock := by
  cases hv : v.ownBlock with
  | none => exact .inl rfl
  | some g =>
    refine .inr (fun e => ?_)
    obtain ⟨cur, hh⟩ := h.heap hv
    obtain ⟨cur', hh'⟩ := h'.heap e.symm
    rw [hh] at hh'
    injection hh' with h1
    injection h1 with _ h2 _
    exact hne h2
end Go.Proofs.Ythmcefalaieigaa.X
namespace Go.Proofs.Ythmcefalaieigaa
open Go.RowKit X
set_option maxHeartbeats 400000

/-- a node as its cells are -/
structure Raw where
  up : Int
  p : Int
  depth : Int
  kv : Value
  wv : Value
def encR (x : Raw) : List Value := [.int .i64 x.up, .int .u64 x.p, .int .i64 x.depth, x.kv, x.wv]
theorem encR_len (x : Raw) : (encR x).length = 5 := rfl
def kR : Kd Raw where
  ety := 72
  size := 5
  rel := fun _ _ x cs => cs = encR x ∧ x.kv.oneCell' = true ∧ x.wv.oneCell' = true
  keep := fun h _ => h
  weak := fun h _ => h
  sub := []
  ty := fun h => h
  len := fun h => by obtain ⟨rfl, _⟩ := h; rfl
  one := fun h => by obtain ⟨rfl, h1, h2⟩ := h; simp [encR, Value.oneCell'] at *; exact ⟨h1, h2⟩
theorem ty_raws : TyOk Try.prog 73 kR 72 := TyOk.mk' Try.underlying73 (z := .agg #[.int .i64 0, .int .u64 0, .int .i64 0, .slice none 0 0, .slice none 0 0]) (size := 5) (by kernel_rfl) rfl rfl (by omega) (by decide)
theorem flatR {w : World} {D : Nat → Prop} {xs : List Raw} {cells : List Value} : Flat kR w D xs cells ↔ cells = xs.flatMap encR ∧ ∀ x ∈ xs, x.kv.oneCell' = true ∧ x.wv.oneCell' = true := by
  constructor
  · rintro ⟨h1, h2⟩
    induction xs generalizing cells with
    | nil => exact ⟨List.eq_nil_of_length_eq_zero (by simpa using h1), by simp⟩
    | cons x xs ih =>
      have h0 := h2 0 (by simp)
      have e0 : cells.take 5 = encR x := by have := h0.1; simpa [kR] using this
      have hl : cells.length = xs.length * 5 + 5 := by rw [h1, List.length_cons]; show (xs.length + 1) * 5 = _; omega
      obtain ⟨i1, i2⟩ := ih (cells := cells.drop 5) (by rw [List.length_drop, hl]; rfl) (fun i hi => by
        have := h2 (i + 1) (by simpa using hi)
        rw [List.drop_drop]
        have e2 : 5 + i * kR.size = (i + 1) * kR.size := by show 5 + i * 5 = (i + 1) * 5; omega
        rw [e2]
        simpa using this)
      refine ⟨by rw [List.flatMap_cons, ← i1, ← e0, List.take_append_drop], fun y hy => ?_⟩
      rcases List.mem_cons.1 hy with rfl | hy
      · exact h0.2
      · exact i2 y hy
  · rintro ⟨rfl, h⟩
    refine ⟨len_flat encR 5 encR_len xs, fun i hi => ?_⟩
    refine ⟨?_, h _ (List.getElem_mem hi)⟩
    show ((xs.flatMap encR).drop (i * 5)).take 5 = encR xs[i]
    rw [drop_flat encR 5 encR_len, List.drop_eq_getElem_cons hi, List.flatMap_cons, List.take_append_of_le_length (by rw [encR_len]; omega), List.take_of_length_le (by rw [encR_len]; omega)]
theorem set_flat {α β : Type} (f : α → List β) (m : Nat) (hf : ∀ x, (f x).length = m) (j : Nat) (hj : j < m) (u : β) : ∀ (xs : List α) (i : Nat) (y : α) (hi : i < xs.length), f y = (f xs[i]).set j u → (xs.flatMap f).set (i * m + j) u = (xs.set i y).flatMap f
  | [], i, y, hi, _ => absurd hi (Nat.not_lt_zero i)
  | x :: xs, 0, y, _, h => by
    rw [List.set_cons_zero, List.flatMap_cons, List.flatMap_cons, h, Nat.zero_mul, Nat.zero_add, List.set_append_left _ _ (by rw [hf]; exact hj)]; rfl
  | x :: xs, i + 1, y, hi, h => by
    rw [List.set_cons_succ, List.flatMap_cons, List.flatMap_cons, List.set_append_right _ _ (by rw [hf, Nat.succ_mul]; omega), hf, Nat.succ_mul, show i * m + m + j - m = i * m + j by omega, set_flat f m hf j hj u xs i y (by simpa using hi) (by simpa using h)]
theorem X.Own.raw_set {w : World} {B : Nat} {D : Nat → Prop} {g n c : Nat} {xs : List Raw} (h : Own kR w B D (.slice (some ⟨g, 0, none⟩) n c) xs) (i j : Nat) (hi : i < xs.length) (hj : j < 5) (u : Value) (y : Raw) (hy : encR y = (encR xs[i]).set j u) (h1 : y.kv.oneCell' = true ∧ y.wv.oneCell' = true) :
    Own kR (w.setCell ⟨g, i * 5 + j, none⟩ u) B D (.slice (some ⟨g, 0, none⟩) n c) (xs.set i y) ∧ w.grownBy (w.setCell ⟨g, i * 5 + j, none⟩ u) (some g) := by
  obtain ⟨cells, ho, hf⟩ := h
  have hn : xs.length = n := by
    rcases ho.2 with ⟨e, _⟩ | ⟨_, _, _, e, _⟩
    · cases e
    · cases e; rfl
  subst hn
  obtain ⟨s1, s2⟩ := ho.stored (i * 5 + j) u
  refine ⟨⟨cells.set (i * 5 + j) u, by rw [List.length_set]; exact s1, ?_⟩, s2⟩
  rw [flatR] at hf ⊢
  refine ⟨by rw [hf.1, set_flat encR 5 encR_len j hj u xs i y hi hy], fun x hx => ?_⟩
  rcases List.mem_or_eq_of_mem_set hx with hx | rfl
  · exact hf.2 x hx
  · exact h1
theorem X.Own.raw_cells {w : World} {B : Nat} {D : Nat → Prop} {g n c : Nat} {xs : List Raw} (h : Own kR w B D (.slice (some ⟨g, 0, none⟩) n c) xs) {i : Nat} (hi : i < xs.length) :
    w.cell? ⟨g, i * 5, none⟩ = some (.int .i64 xs[i].up) ∧ w.cell? ⟨g, i * 5 + 1, none⟩ = some (.int .u64 xs[i].p) ∧ w.cell? ⟨g, i * 5 + 2, none⟩ = some (.int .i64 xs[i].depth) ∧ w.cell? ⟨g, i * 5 + 3, none⟩ = some xs[i].kv ∧ w.cell? ⟨g, i * 5 + 4, none⟩ = some xs[i].wv := by
  obtain ⟨A, c', e, _, hs⟩ := h.sl
  obtain ⟨b, o, cur, fr, cs, hA, hd, hh, ⟨rfl, _⟩, hl, hc⟩ := hs i hi
  cases e
  cases hA
  simp only [Nat.zero_add] at hc
  exact ⟨cell_of_heap hh (hc 0 _ rfl), cell_of_heap hh (hc 1 _ rfl), cell_of_heap hh (hc 2 _ rfl), cell_of_heap hh (hc 3 _ rfl), cell_of_heap hh (hc 4 _ rfl)⟩

abbrev kI : Kd Int := Kd.int 3 .i64
/-- the node of cells x is node y -/
structure NdOk (w : World) (B : Nat) (x : Raw) (y : Nd) : Prop where
  up : x.up = y.up
  p : x.p = y.p
  depth : x.depth = y.depth
  kids : Own kE w B Any x.kv y.kids
  words : Own kI w B Any x.wv y.words
/-- the call owns the tree at block b -/
structure OwnR (w : World) (B b : Nat) (vn vw : Value) (ns : List Raw) (l : List Nd) (ws : List Int) : Prop where
  at_ : w.heap[b]? = some (.cells #[vn, vw] 75 (0, 0))
  base : B ≤ b
  row : Own kR w B Any vn ns
  wrow : Own kI w B Any vw ws
  len : ns.length = l.length
  nd : ∀ (i : Nat) (h : i < ns.length) (h' : i < l.length), NdOk w B ns[i] l[i]
  dk : ∀ (i j : Nat) (hi : i < ns.length) (hj : j < ns.length), i ≠ j → ∀ g, ns[i].kv.ownBlock = some g → ns[j].kv.ownBlock ≠ some g
  dw : ∀ (i j : Nat) (hi : i < ns.length) (hj : j < ns.length), i ≠ j → ∀ g, ns[i].wv.ownBlock = some g → ns[j].wv.ownBlock ≠ some g
  dv : ∀ (i : Nat) (hi : i < ns.length) (g : Nat), ns[i].wv.ownBlock = some g → vw.ownBlock ≠ some g
def OwnT (w : World) (B b : Nat) (l : List Nd) (ws : List Int) : Prop := ∃ vn vw ns, OwnR w B b vn vw ns l ws
abbrev tysT : List TypeId := [75, 72, 69, 3]

theorem NdOk.ext {w w' : World} {B : Nat} {x : Raw} {y : Nd} (h : NdOk w B x y) (hx : Ext w w') : NdOk w' B x y := ⟨h.up, h.p, h.depth, h.kids.ext hx, h.words.ext hx⟩
theorem OwnR.ext {w w' : World} {B b : Nat} {vn vw : Value} {ns : List Raw} {l : List Nd} {ws : List Int} (h : OwnR w B b vn vw ns l ws) (hx : Ext w w') : OwnR w' B b vn vw ns l ws :=
  ⟨hx.heap h.at_, h.base, h.row.ext hx, h.wrow.ext hx, h.len, fun i a b => (h.nd i a b).ext hx, h.dk, h.dw, h.dv⟩
theorem OwnT.ext {w w' : World} {B b : Nat} {l : List Nd} {ws : List Int} (h : OwnT w B b l ws) (hx : Ext w w') : OwnT w' B b l ws := by
  obtain ⟨vn, vw, ns, h⟩ := h
  exact ⟨vn, vw, ns, h.ext hx⟩
theorem OwnR.rd {w : World} {B b : Nat} {vn vw : Value} {ns : List Raw} {l : List Nd} {ws : List Int} (h : OwnR w B b vn vw ns l ws) : RdT w Any b l ws := by
  obtain ⟨A, c, e1, hc, hs⟩ := h.row.sl
  obtain ⟨A', c', e2, hc', hs'⟩ := h.wrow.sl
  subst e1 e2
  rw [h.len] at hc
  refine ⟨A, c, A', c', by rw [h.at_, h.len], trivial, hc, fun i hi => ?_, hc', hs'.any⟩
  have hi' : i < ns.length := by rw [h.len]; exact hi
  obtain ⟨g, o, cur, fr, cs, hA, hd, hh, ⟨rfl, _⟩, hl, hcc⟩ := hs i hi'
  obtain ⟨u1, u2, u3, u4, u5⟩ := h.nd i hi' hi
  obtain ⟨A1, c1, e1, l1, s1⟩ := u4.sl
  obtain ⟨A2, c2, e2, l2, s2⟩ := u5.sl
  refine ⟨g, o, cur, fr, encR ns[i], hA, trivial, hh, ⟨A1, c1, A2, c2, ?_, l1, s1.any, l2, s2.any⟩, rfl, hcc⟩
  unfold encR
  rw [u1, u2, u3, e1, e2]
theorem OwnT.rd {w : World} {B b : Nat} {l : List Nd} {ws : List Int} (h : OwnT w B b l ws) : RdT w Any b l ws := by
  obtain ⟨vn, vw, ns, h⟩ := h
  exact h.rd
end Go.Proofs.Ythmcefalaieigaa
