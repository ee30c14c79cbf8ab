/- A small library over worlds: slices that read as lists, by kinds of elements. -/
import Derived.WalkKit
import Derived.Below
import Derived.Laws.OwnMore
import Derived.Laws.Rows
import Derived.Maps.AppendAt
import Derived.KernelRfl
import Derived.RowKit3
import Derived.Deep.QuietTactic
import Derived.BigQuiet
namespace Go.Proofs.YtnmlonicfncpfaaGreat.X
open Go.RowKit

/-- a fact that the walk does not look into -/
structure As (p : Prop) : Prop where mk :: (out : p)

/-- how an element of a slice lies in memory: 'rel w D x cs': the cells cs read as x in world w, all blocks beyond them meet D. -/
structure Kd (α : Type) where
  ety : TypeId
  size : Nat
  rel : World → (Nat → Prop) → α → List Value → Prop
  keep : ∀ {w w' : World} {D : Nat → Prop} {x : α} {cs : List Value}, rel w D x cs → (∀ b, b < w.heap.size → D b → w'.heap[b]? = w.heap[b]?) → rel w' D x cs
  weak : ∀ {w : World} {D D' : Nat → Prop} {x : α} {cs : List Value}, rel w D x cs → (∀ b, b < w.heap.size → D b → D' b) → rel w D' x cs
  len : ∀ {w : World} {D : Nat → Prop} {x : α} {cs : List Value}, rel w D x cs → cs.length = size
  one : ∀ {w : World} {D : Nat → Prop} {x : α} {cs : List Value}, rel w D x cs → ∀ u ∈ cs, u.oneCell' = true

/-- the slice at A reads as xs -/
def Sl {α : Type} (k : Kd α) (w : World) (D : Nat → Prop) (A : Option Addr) (xs : List α) : Prop :=
  ∀ (i : Nat) (h : i < xs.length), ∃ b o cs, A = some ⟨b, o, none⟩ ∧ b < w.heap.size ∧ D b ∧
    k.rel w D xs[i] cs ∧ cs.length = k.size ∧ ∀ j u, cs[j]? = some u → w.cell? ⟨b, o + i * k.size + j, none⟩ = some u

theorem lt_of_heap {w : World} {b : Nat} {o : Obj} (h : w.heap[b]? = some o) : b < w.heap.size := by
  rcases Nat.lt_or_ge b w.heap.size with hlt | hge
  · exact hlt
  · rw [Array.getElem?_eq_none hge] at h; cases h
theorem cell_same {w w' : World} {a : Addr} (h : w'.heap[a.block]? = w.heap[a.block]?) : w'.cell? a = w.cell? a := by simp [World.cell?, h]

section
variable {α : Type} {k : Kd α} {w w' : World} {D D' : Nat → Prop} {A : Option Addr} {xs : List α}
theorem Sl.keep (h : Sl k w D A xs) (hk : ∀ b, b < w.heap.size → D b → w'.heap[b]? = w.heap[b]?) : Sl k w' D A xs := by
  intro i hi
  obtain ⟨b, o, cs, e, hb, hd, hr, hl, hc⟩ := h i hi
  refine ⟨b, o, cs, e, ?_, hd, k.keep hr hk, hl, fun j u hj => (cell_same (hk b hb hd)).trans (hc j u hj)⟩
  have := hk b hb hd
  rw [Array.getElem?_eq_getElem hb] at this
  exact lt_of_heap this
theorem Sl.weak (h : Sl k w D A xs) (hk : ∀ b, b < w.heap.size → D b → D' b) : Sl k w D' A xs := by
  intro i hi
  obtain ⟨b, o, cs, e, hb, hd, hr, hl, hc⟩ := h i hi
  exact ⟨b, o, cs, e, hb, hk b hb hd, k.weak hr hk, hl, hc⟩
theorem Sl.below (h : Sl k w D A xs) (hb : Below w.heap.size w w') : Sl k w' D A xs := h.keep fun b hlt _ => hb.block b hlt
theorem Sl.nil : Sl k w D A [] := fun i h => absurd h (Nat.not_lt_zero i)
end

/-- whole numbers -/
def Kd.int (ety : TypeId) (k : IntKind) : Kd Int where
  ety := ety
  size := 1
  rel := fun _ _ x cs => cs = [.int k x]
  keep := fun h _ => h
  weak := fun h _ => h
  len := fun h => by subst h; rfl
  one := fun h => by subst h; simp [Value.oneCell']
/-- slices -/
def Kd.sl {α : Type} (ety : TypeId) (k : Kd α) : Kd (List α) where
  ety := ety
  size := 1
  rel := fun w D x cs => ∃ A c, cs = [.slice A x.length c] ∧ x.length ≤ c ∧ Sl k w D A x
  keep := fun ⟨A, c, e, l, h⟩ hk => ⟨A, c, e, l, h.keep hk⟩
  weak := fun ⟨A, c, e, l, h⟩ hk => ⟨A, c, e, l, h.weak hk⟩
  len := fun ⟨_, _, e, _⟩ => by subst e; rfl
  one := fun ⟨_, _, e, _⟩ => by subst e; simp [Value.oneCell']

theorem cell_of_heap {w : World} {b j : Nat} {cur : Array Value} {t : TypeId} {fr : Nat × Nat} {u : Value} (h : w.heap[b]? = some (.cells cur t fr)) (hu : cur[j]? = some u) :
    w.cell? ⟨b, j, none⟩ = some u := by
  simp [World.cell?, h, hu]

theorem Sl.int_at {ety : TypeId} {kd : IntKind} {w : World} {D : Nat → Prop} {A : Option Addr} {xs : List Int} (h : Sl (Kd.int ety kd) w D A xs) {i : Nat} (hi : i < xs.length) :
    ∃ b o, A = some ⟨b, o, none⟩ ∧ w.cell? ⟨b, o + i, none⟩ = some (.int kd xs[i]) := by
  obtain ⟨b, o, cs, rfl, hb, hd, rfl, hl, hc⟩ := h i hi
  exact ⟨b, o, rfl, by simpa [Kd.int] using hc 0 _ rfl⟩
theorem Sl.sl_at {α : Type} {k : Kd α} {ety : TypeId} {w : World} {D : Nat → Prop} {A : Option Addr} {xs : List (List α)} (h : Sl (Kd.sl ety k) w D A xs) {i : Nat} (hi : i < xs.length) :
    ∃ b o A' c', A = some ⟨b, o, none⟩ ∧ w.cell? ⟨b, o + i, none⟩ = some (.slice A' xs[i].length c') ∧ xs[i].length ≤ c' ∧ Sl k w D A' xs[i] := by
  obtain ⟨b, o, cs, rfl, hb, hd, ⟨A', c', rfl, hlc, hs⟩, hl, hc⟩ := h i hi
  exact ⟨b, o, A', c', rfl, by simpa [Kd.sl] using hc 0 _ rfl, hlc, hs⟩

theorem ret_bool {a b : Bool} (h : a = b) : Ending.returned (.bool a) = .returned (.bool b) := by rw [h]
theorem ret_int {k : IntKind} {a b : Int} (h : a = b) : Ending.returned (.int k a) = .returned (.int k b) := by rw [h]
theorem ret_ib {k : IntKind} {a a' : Int} {b b' : Bool} (h : a = a') (g : b = b') : Ending.returned (.tuple #[.int k a, .bool b]) = .returned (.tuple #[.int k a', .bool b']) := by rw [h, g]
theorem ret_ii {k l : IntKind} {a a' b b' : Int} (h : a = a') (g : b = b') : Ending.returned (.tuple #[.int k a, .int l b]) = .returned (.tuple #[.int k a', .int l b']) := by rw [h, g]
/-- the world is the old one, some orders having been drawn -/
def Qt (w w' : World) : Prop := ∃ n, w' = w.drewN n
theorem Qt.refl (w : World) : Qt w w := ⟨0, rfl⟩
theorem Qt.trans {a b c : World} (h : Qt a b) (g : Qt b c) : Qt a c := by
  obtain ⟨n, rfl⟩ := h
  obtain ⟨m, rfl⟩ := g
  exact ⟨n + m, World.drewN_drewN ..⟩
theorem Qt.below {w w' : World} (h : Qt w w') (B : Nat) : Below B w w' := by
  obtain ⟨n, rfl⟩ := h
  exact ⟨rfl, rfl, rfl, Nat.le_refl _, fun _ _ => rfl⟩
/-- all that was there is as it was -/
abbrev Ext (w w' : World) : Prop := Below w.heap.size w w'
theorem Ext.refl (w : World) : Ext w w := Below.refl _ _
theorem Ext.tr {a b c : World} (h : Ext a b) (g : Ext b c) : Ext a c := h.trans (g.mono h.size)
theorem Ext.alloc (w : World) (o : Obj) : Ext w (w.alloc o) := (Below.refl _ _).alloc (Nat.le_refl _) o
theorem Qt.ext {w w' : World} (h : Qt w w') : Ext w w' := h.below _
theorem Ext.drewN {w w' : World} (h : Ext w w') (n : Nat) : Ext w (w'.drewN n) := ⟨h.os, h.tape, h.output, h.size, h.block⟩
theorem Ext.cell {w w' : World} (h : Ext w w') {a : Addr} {v : Value} (hc : w.cell? a = some v) : w'.cell? a = some v :=
  (Below.cell h (World.block_lt_of_cell? w a hc)).trans hc
theorem Ext.heap {w w' : World} (h : Ext w w') {b : Nat} {o : Obj} (hc : w.heap[b]? = some o) : w'.heap[b]? = some o :=
  (h.block b (lt_of_heap hc)).trans hc

theorem al1 {w : World} {a : Addr} {v : Value} (h : w.cell? a = some v) : ∀ o, (w.alloc o).cell? a = some v := fun o => (Ext.alloc w o).cell h
theorem al2 {w : World} {a : Addr} {v : Value} (h : w.cell? a = some v) : ∀ o o', ((w.alloc o).alloc o').cell? a = some v := fun o _ => al1 (al1 h o) _
theorem al3 {w : World} {a : Addr} {v : Value} (h : w.cell? a = some v) : ∀ o o' o'', (((w.alloc o).alloc o').alloc o'').cell? a = some v := fun o o' _ => al1 (al2 h o o') _

/-- cmp.Compare on whole numbers -/
def cmpI (a b : Int) : Int := if a < b then -1 else if b < a then 1 else 0
theorem cmpI_lt {a b : Int} (h : a < b) : cmpI a b = -1 := by simp [cmpI, h]
theorem cmpI_gt {a b : Int} (h : b < a) : cmpI a b = 1 := by unfold cmpI; rw [if_neg (by omega), if_pos h]
theorem cmpI_eq {a b : Int} (h : a = b) : cmpI a b = 0 := by unfold cmpI; rw [if_neg (by omega), if_neg (by omega)]

/-! ### What the call owns -/
abbrev Any : Nat → Prop := fun _ => True
theorem Sl.any {α : Type} {k : Kd α} {w : World} {D : Nat → Prop} {A : Option Addr} {xs : List α} (h : Sl k w D A xs) : Sl k w Any A xs := h.weak fun _ _ _ => trivial
/-- the cells read as xs, element by element -/
def Flat {α : Type} (k : Kd α) (w : World) (D : Nat → Prop) (xs : List α) (cells : List Value) : Prop :=
  cells.length = xs.length * k.size ∧ ∀ (i : Nat) (h : i < xs.length), k.rel w D xs[i] ((cells.drop (i * k.size)).take k.size)
/-- value v owns a row that reads as xs; its elements' rows lie elsewhere -/
def Own {α : Type} (k : Kd α) (w : World) (B : Nat) (D : Nat → Prop) (v : Value) (xs : List α) : Prop :=
  ∃ cells, (w.ownsRow B k.ety k.size v xs.length cells ∧ ∀ g, v.ownBlock = some g → ¬ D g) ∧ Flat k w D xs cells
abbrev No : Nat → Prop := fun _ => False

section
variable {α : Type} {k : Kd α} {w w' : World} {D D' : Nat → Prop} {A : Option Addr} {xs ys : List α} {B : Nat} {v : Value} {cells cells' : List Value}
theorem Flat.keep (h : Flat k w D xs cells) (hk : ∀ b, b < w.heap.size → D b → w'.heap[b]? = w.heap[b]?) : Flat k w' D xs cells := ⟨h.1, fun i hi => k.keep (h.2 i hi) hk⟩
theorem Flat.weak (h : Flat k w D xs cells) (hk : ∀ b, b < w.heap.size → D b → D' b) : Flat k w D' xs cells := ⟨h.1, fun i hi => k.weak (h.2 i hi) hk⟩
theorem Flat.imp (h : Flat k w D xs cells) (hE : ∀ x cs, k.rel w D x cs → k.rel w D' x cs) : Flat k w D' xs cells := ⟨h.1, fun i hi => hE _ _ (h.2 i hi)⟩
theorem Flat.one (h : Flat k w D xs cells) : ∀ u ∈ cells, u.oneCell' = true := by
  intro u hu
  obtain ⟨j, hj, rfl⟩ := List.mem_iff_getElem.1 hu
  have hs : 0 < k.size := by
    rcases Nat.eq_zero_or_pos k.size with h0 | h0
    · have := h.1; rw [h0] at this; omega
    · exact h0
  have hlt : j / k.size < xs.length := by
    rw [Nat.div_lt_iff_lt_mul hs, ← h.1]; exact hj
  refine k.one (h.2 _ hlt) _ ?_
  rw [List.mem_iff_getElem]
  have e := Nat.div_add_mod j k.size
  have m := Nat.mod_lt j hs
  rw [Nat.mul_comm] at e
  refine ⟨j % k.size, ?_, ?_⟩
  · rw [List.length_take, List.length_drop]; omega
  · simp only [List.getElem_take, List.getElem_drop, e]
theorem Flat.append (h : Flat k w D xs cells) (g : Flat k w D ys cells') : Flat k w D (xs ++ ys) (cells ++ cells') := by
  refine ⟨by rw [List.length_append, List.length_append, h.1, g.1, Nat.add_mul], fun i hi => ?_⟩
  rcases Nat.lt_or_ge i xs.length with h1 | h1
  · rw [List.getElem_append_left h1]
    have hle : i * k.size + k.size ≤ cells.length := by
      rw [h.1, ← Nat.succ_mul]; exact Nat.mul_le_mul_right _ h1
    rw [List.drop_append_of_le_length (by omega), List.take_append_of_le_length (by rw [List.length_drop]; omega)]
    exact h.2 i h1
  · rw [List.getElem_append_right h1]
    have hi' : i - xs.length < ys.length := by rw [List.length_append] at hi; omega
    have e : i * k.size = cells.length + (i - xs.length) * k.size := by rw [h.1, ← Nat.add_mul]; congr 1; omega
    rw [e, List.drop_append]
    have e2 : List.drop (cells.length + (i - xs.length) * k.size) cells = [] := List.drop_of_length_le (by omega)
    rw [e2, List.nil_append, show cells.length + (i - xs.length) * k.size - cells.length = (i - xs.length) * k.size by omega]
    exact g.2 _ hi'
theorem Flat.nil : Flat k w D [] [] := ⟨by simp, fun i h => absurd h (Nat.not_lt_zero i)⟩
theorem Flat.single {x : α} {cs : List Value} (h : k.rel w D x cs) : Flat k w D [x] cs := by
  refine ⟨by simp [k.len h], fun i hi => ?_⟩
  obtain rfl : i = 0 := by simpa using hi
  simpa [← k.len h] using h

theorem Own.nil : Own k w B D (.slice none 0 0) [] := ⟨[], ⟨World.ownsRow_nil _ _ _ _, fun g h => by cases h⟩, Flat.nil⟩
theorem Own.weak (h : Own k w B D v xs) (hk : ∀ b, b < w.heap.size → D b → D' b) (hn : ∀ g, v.ownBlock = some g → ¬ D' g) : Own k w B D' v xs := by
  obtain ⟨cells, ⟨ho, _⟩, hf⟩ := h
  exact ⟨cells, ⟨ho, hn⟩, hf.weak hk⟩
theorem Own.base {B' : Nat} (h : Own k w B D v xs) (hB : B' ≤ B) : Own k w B' D v xs := by
  obtain ⟨cells, ⟨ho, hn⟩, hf⟩ := h
  refine ⟨cells, ⟨⟨ho.1, ?_⟩, hn⟩, hf⟩
  rcases ho.2 with h0 | ⟨g, cap, cur, e, hb, r⟩
  · exact .inl h0
  · exact .inr ⟨g, cap, cur, e, by omega, r⟩
/-- a change elsewhere -/
theorem Own.kept {row : Option Nat} (h : Own k w B D v xs) (hg : w.grownBy w' row) (hne : v.ownBlock = none ∨ v.ownBlock ≠ row) (hD : ∀ g, row = some g → D g → False) : Own k w' B D v xs := by
  obtain ⟨cells, ⟨ho, hn⟩, hf⟩ := h
  refine ⟨cells, ⟨ho.kept hg hne, hn⟩, hf.keep ?_⟩
  intro b hlt hd
  exact hg.block b hlt (fun e => hD b e.symm hd)
/-- what it leads to, and its own block, are as they were -/
theorem Own.keep (h : Own k w B D v xs) (hk : ∀ b, b < w.heap.size → (D b ∨ v.ownBlock = some b) → w'.heap[b]? = w.heap[b]?) : Own k w' B D v xs := by
  obtain ⟨cells, ⟨ho, hn⟩, hf⟩ := h
  refine ⟨cells, ⟨⟨ho.1, ?_⟩, hn⟩, hf.keep fun b hlt hd => hk b hlt (.inl hd)⟩
  rcases ho.2 with h0 | ⟨g, cap, cur, rfl, hb, hh, r⟩
  · exact .inl h0
  · exact .inr ⟨g, cap, cur, rfl, hb, (hk g (lt_of_heap hh) (.inr rfl)).trans hh, r⟩
theorem Own.ext (h : Own k w B D v xs) (hx : Ext w w') : Own k w' B D v xs := h.keep fun b hb _ => hx.block b hb
theorem Own.lt (h : Own k w B D v xs) {g : Nat} (hg : v.ownBlock = some g) : B ≤ g ∧ g < w.heap.size := by
  obtain ⟨cells, ⟨ho, _⟩, hf⟩ := h
  exact ho.lt g hg
theorem Own.notD (h : Own k w B D v xs) {g : Nat} (hg : v.ownBlock = some g) : ¬ D g := by
  obtain ⟨cells, ⟨_, hn⟩, hf⟩ := h
  exact hn g hg
theorem Own.heap (h : Own k w B D v xs) {g : Nat} (hg : v.ownBlock = some g) : ∃ cur, w.heap[g]? = some (.cells cur k.ety (0, 0)) := by
  obtain ⟨cells, ⟨ho, _⟩, hf⟩ := h
  rcases ho.2 with ⟨rfl, _⟩ | ⟨g', cap, cur, rfl, _, hh, _⟩
  · cases hg
  · simp only [Value.ownBlock, Option.some.injEq] at hg
    subst hg
    exact ⟨cur, hh⟩
theorem Own.form (h : Own k w B D v xs) : ∃ A c, v = .slice A xs.length c ∧ xs.length ≤ c ∧ (xs ≠ [] → ∃ g, A = some ⟨g, 0, none⟩ ∧ v.ownBlock = some g) := by
  obtain ⟨cells, ⟨ho, _⟩, hf⟩ := h
  rcases ho.2 with ⟨rfl, hn⟩ | ⟨g', cap, cur, rfl, _, hh, hc, _⟩
  · have : xs = [] := List.eq_nil_of_length_eq_zero hn
    subst this
    exact ⟨none, 0, rfl, Nat.le_refl _, fun h => absurd rfl h⟩
  · exact ⟨_, cap, rfl, hc, fun _ => ⟨g', rfl, rfl⟩⟩
theorem Own.sl (h : Own k w B D v xs) : ∃ A c, v = .slice A xs.length c ∧ xs.length ≤ c ∧ Sl k w (fun b => D b ∨ v.ownBlock = some b) A xs := by
  obtain ⟨cells, ⟨ho, _⟩, hf⟩ := h
  rcases ho.2 with ⟨rfl, hn⟩ | ⟨g', cap, cur, rfl, _, hh, hc, _, hsz, htake⟩
  · have : xs = [] := List.eq_nil_of_length_eq_zero hn
    subst this
    exact ⟨none, 0, rfl, Nat.le_refl _, Sl.nil⟩
  · refine ⟨_, cap, rfl, hc, fun i hi => ?_⟩
    have hr := hf.2 i hi
    refine ⟨g', 0, _, rfl, lt_of_heap hh, .inr rfl, k.weak hr (fun b _ hb => .inl hb), k.len hr, fun j u hj => cell_of_heap hh ?_⟩
    rw [List.getElem?_take] at hj
    split at hj
    · rename_i hlt
      rw [List.getElem?_drop, ← htake, List.getElem?_take] at hj
      split at hj
      · rw [Nat.zero_add]; simpa using hj
      · cases hj
    · cases hj
/-- the cells of a slice, one behind the other -/
theorem Sl.flat (h : Sl k w D A xs) : ∃ cells, Flat k w D xs cells ∧ (0 < xs.length → ∃ ad, A = some ad ∧ ∀ j u, cells[j]? = some u → w.cell? (ad.add j) = some u) := by
  suffices H : ∀ n, n ≤ xs.length → ∃ cells, Flat k w D (xs.take n) cells ∧ (0 < n → ∃ b o, A = some ⟨b, o, none⟩ ∧ ∀ j u, cells[j]? = some u → w.cell? ⟨b, o + j, none⟩ = some u) by
    obtain ⟨cells, h1, h2⟩ := H xs.length (Nat.le_refl _)
    rw [List.take_length] at h1
    refine ⟨cells, h1, fun h0 => ?_⟩
    obtain ⟨b, o, e, hc⟩ := h2 h0
    refine ⟨_, e, fun j u hj => ?_⟩
    have hadd : (⟨b, o, none⟩ : Addr).add j = ⟨b, o + j, none⟩ := by unfold Addr.add; split <;> simp_all
    rw [hadd]; exact hc j u hj
  intro n
  induction n with
  | zero => exact fun _ => ⟨[], by simpa using Flat.nil, fun h => absurd h (by omega)⟩
  | succ n ih =>
    intro hn
    obtain ⟨cells, h1, h2⟩ := ih (by omega)
    obtain ⟨b, o, cs, e, hb, hd, hr, hl, hc⟩ := h n hn
    refine ⟨cells ++ cs, ?_, fun _ => ⟨b, o, e, fun j u hj => ?_⟩⟩
    · rw [List.take_succ_eq_append_getElem (by omega)]
      exact h1.append (Flat.single hr)
    · have hlen : cells.length = n * k.size := by rw [h1.1, List.length_take]; congr 1; omega
      rw [List.getElem?_append] at hj
      split at hj
      · rename_i hlt
        rcases Nat.eq_zero_or_pos n with h0 | h0
        · subst h0; rw [hlen] at hlt; omega
        · obtain ⟨b', o', e', hc'⟩ := h2 h0
          rw [e] at e'
          cases e'
          exact hc' j u hj
      · rename_i hge
        have := hc (j - cells.length) u hj
        rw [hlen] at this hge
        rw [show o + n * k.size + (j - n * k.size) = o + j by omega] at this
        exact this
end

/-- the element type's row of the table -/
structure TyOk (P : Program) (t : TypeId) {α : Type} (k : Kd α) (bytes : Nat) : Prop where
  und : P.underlying t = some (.slice k.ety)
  inf : ∃ i z, P.info? k.ety = some i ∧ i.zero = some z ∧ i.size = k.size ∧ i.bytes = bytes ∧ z.cells.size = k.size
  pos : 0 < k.size
theorem TyOk.mk' {P : Program} {t : TypeId} {α : Type} {k : Kd α} {bytes size : Nat} {z : Value} (hu : P.underlying t = some (.slice k.ety)) (hi : (P.info? k.ety).map (fun i => (i.zero, i.size, i.bytes)) = some (some z, size, bytes))
    (hz : z.cells.size = size) (hs : size = k.size) (hp : 0 < size) : TyOk P t k bytes := by
  obtain ⟨i, h1, h2, h3, h4⟩ := info_parts hi
  subst hs
  exact ⟨hu, ⟨i, z, h1, h2, h3, h4, hz⟩, hp⟩

section
variable {P : Program} {α : Type} {k : Kd α} {t : TypeId} {bytes : Nat} {ops : Array Oper} {rest : List Oper} {o : Oper} {a : Act} {w : World} {Q : Exit → Act → World → Prop}
/-- the run of an append onto a row of the call's own -/
theorem run_app (T : TyOk P t k bytes) (ty : TypeId) (B : Nat) (D : Nat → Prop) (v : Value) (xs ys : List α) (hown : Own k w B D v xs) (A : Option Addr) (c : Nat) (cells : List Value) (hf : Flat k w D ys cells)
    (hA : 0 < ys.length → ∃ ad, A = some ad ∧ ∀ j u, cells[j]? = some u → w.cell? (ad.add j) = some u)
    (h63 : xs.length + ys.length ≤ maxLen) (hbytes : (xs.length + ys.length) * bytes ≤ 140737488355328) (hB : B ≤ w.heap.size) (hDB : ∀ b, D b → b < w.heap.size) :
    ∃ v' w', (Builtin.append_ #[t, t] ty #[v, .slice A ys.length c]).run P w = .ok v' w' ∧ Own k w' B D v' (xs ++ ys) ∧ w.grownBy w' v.ownBlock ∧ (v'.ownBlock = v.ownBlock ∨ v'.ownBlock = some w.heap.size) := by
  have hD : ∀ g, v.ownBlock = some g → D g → False := fun g hg hd => hown.notD hg hd
  obtain ⟨cells0, ⟨ho, hn0⟩, hf0⟩ := hown
  obtain ⟨i, z, h1, h2, h3, h4, h5⟩ := T.inf
  have hp := T.pos
  have fin : ∀ w', w.grownBy w' v.ownBlock → Flat k w' D (xs ++ ys) (cells0 ++ cells) := fun w' hg => by
    refine (hf0.append hf).keep ?_
    intro b hlt hd
    exact hg.block b hlt (fun e => hD b e.symm hd)
  rcases Nat.eq_zero_or_pos ys.length with h0 | h0
  · have : ys = [] := List.eq_nil_of_length_eq_zero h0
    subst this
    have hc0 : cells = [] := List.eq_nil_of_length_eq_zero (by simpa using hf.1)
    subst hc0
    have hrun : (Builtin.append_ #[t, t] ty #[v, .slice A 0 c]).run P w = .ok v w := by
      rcases ho.2 with ⟨rfl, hn⟩ | ⟨g, cap, cur, rfl, _, _, hnc, _⟩
      · cases A
        · simp [Builtin.append_, run_underlying T.und, sizeOf, typeInfo, h1, Builtin.lenOf, Builtin.firstCells]
        · simp [Builtin.append_, run_underlying T.und, sizeOf, typeInfo, h1, Builtin.lenOf, Builtin.firstCells, loadCells, loadCellsFrom]
      · cases A
        · simp [Builtin.append_, run_underlying T.und, sizeOf, typeInfo, h1, Builtin.lenOf, Builtin.firstCells, hnc, storeCells]
        · simp [Builtin.append_, run_underlying T.und, sizeOf, typeInfo, h1, Builtin.lenOf, Builtin.firstCells, hnc, storeCells, loadCells, loadCellsFrom]
    exact ⟨v, w, hrun, ⟨cells0, ⟨by simpa using ho, hn0⟩, by simpa using hf0⟩, World.grownBy.refl w _, .inl rfl⟩
  · obtain ⟨ad, rfl, hcells⟩ := hA h0
    obtain ⟨v', w', hrun, g1, g2, _, g4⟩ := run_append_own_at (P := P) w B t ty k.ety i z k.size bytes T.und h1 h2 h3 h4 h5 hp v xs.length cells0 ho ad ys.length c cells hf.1 hcells hf.one h63 hbytes hB
    refine ⟨v', w', hrun, ⟨_, ⟨by rw [List.length_append]; exact g1, fun g hg hd => ?_⟩, fin w' g2⟩, g2, g4⟩
    rcases g4 with e | e
    · exact hD g (e ▸ hg) hd
    · rw [e] at hg
      cases hg
      exact Nat.lt_irrefl _ (hDB _ hd)
theorem wp_app {K : Act → World → Prop} (s x : Operand) (ho : o.op = .call { callee := .builtin .append, args := #[s, x], argTypes := #[t, t] }) (T : TyOk P t k bytes)
    (B : Nat) (D : Nat → Prop) (v : Value) (xs ys : List α) (hs : a.eval s = v) (hown : Own k w B D v xs) (A : Option Addr) (c : Nat) (hx : a.eval x = .slice A ys.length c) (cells : List Value) (hf : Flat k w D ys cells)
    (hA : 0 < ys.length → ∃ ad, A = some ad ∧ ∀ j u, cells[j]? = some u → w.cell? (ad.add j) = some u)
    (h63 : xs.length + ys.length ≤ maxLen) (hbytes : (xs.length + ys.length) * bytes ≤ 140737488355328) (hB : B ≤ w.heap.size) (hDB : ∀ b, D b → b < w.heap.size)
    (h : ∀ v' w', Own k w' B D v' (xs ++ ys) → w.grownBy w' v.ownBlock → (v'.ownBlock = v.ownBlock ∨ v'.ownBlock = some w.heap.size) → K (a.put o.dst v') w') : o.wp P a w K Q := by
  obtain ⟨v', w', hrun, h2, h3, h4⟩ := run_app T o.type B D v xs ys hown A c cells hf hA h63 hbytes hB hDB
  unfold Oper.wp execOp
  simp only [ho, resolve, invoke, builtin, Sem.run_bind, Sem.run_pure, Result.andThen_ok, List.map_toArray, List.map_cons, List.map_nil, hs, hx, hrun]
  exact h v' w' h2 h3 h4
/-- 'append(out, ys...)'; w0: the world in which the call began -/
theorem wpList_app (hgd : o.guard = none) (s x : Operand) (ho : o.op = .call { callee := .builtin .append, args := #[s, x], argTypes := #[t, t] }) (T : TyOk P t k bytes)
    (w0 : World) (HX : As (Ext w0 w)) (D : Nat → Prop) (v : Value) (xs ys : List α) (hs : a.eval s = v) (hown : As (Own k w w0.heap.size D v xs)) (A : Option Addr) (c : Nat) (hx : a.eval x = .slice A ys.length c) (E : Nat → Prop) (hE : ∀ x cs, k.rel w E x cs → k.rel w D x cs) (hsl : Sl k w E A ys)
    (h63 : xs.length + ys.length ≤ maxLen) (hbytes : (xs.length + ys.length) * bytes ≤ 140737488355328) (hDB : ∀ b, D b → b < w.heap.size)
    (h : ∀ v' w', As (Own k w' w0.heap.size D v' (xs ++ ys)) → As (Ext w0 w') → As (w.grownBy w' v.ownBlock ∧ (v'.ownBlock = v.ownBlock ∨ v'.ownBlock = some w.heap.size)) → wpList P ops Q rest (a.put o.dst v') w') : wpList P ops Q (o :: rest) a w := by
  obtain ⟨cells, hf0, hA⟩ := hsl.flat
  have hf := hf0.imp hE
  exact wpList_plain hgd fun _ hK => wp_app s x ho T w0.heap.size D v xs ys hs hown.out A c hx cells hf hA h63 hbytes HX.out.size hDB fun v' w' h2 h3 h4 =>
    hK _ _ (h v' w' ⟨h2⟩ ⟨HX.out.grown h3 HX.out.size fun g hg => (hown.out.lt hg).1⟩ ⟨h3, h4⟩)
/-- 'append(out, x)': x lies in a block of its own, just made -/
theorem wpList_push (hgd : o.guard = none) (s x : Operand) (ho : o.op = .call { callee := .builtin .append, args := #[s, x], argTypes := #[t, t] }) (T : TyOk P t k bytes)
    (w0 : World) (HX : As (Ext w0 w)) (D : Nat → Prop) (v : Value) (xs : List α) (hs : a.eval s = v) (hown : As (Own k w w0.heap.size D v xs)) (y : α) (g c : Nat) (hx : a.eval x = .slice (some ⟨g, 0, none⟩) 1 c) (cs : List Value) (e' : TypeId) (fr : Nat × Nat)
    (hg : w.heap[g]? = some (.cells cs.toArray e' fr)) (hr : k.rel w D y cs)
    (h63 : xs.length + 1 ≤ maxLen) (hbytes : (xs.length + 1) * bytes ≤ 140737488355328) (hDB : ∀ b, D b → b < w.heap.size)
    (h : ∀ v' w', As (Own k w' w0.heap.size D v' (xs ++ [y])) → As (Ext w0 w') → As (w.grownBy w' v.ownBlock ∧ (v'.ownBlock = v.ownBlock ∨ v'.ownBlock = some w.heap.size)) → wpList P ops Q rest (a.put o.dst v') w') : wpList P ops Q (o :: rest) a w := by
  refine wpList_plain hgd fun _ hK => wp_app s x ho T w0.heap.size D v xs [y] hs hown.out (some ⟨g, 0, none⟩) c hx cs (Flat.single hr) (fun _ => ⟨_, rfl, fun j u hj => ?_⟩) h63 hbytes HX.out.size hDB fun v' w' h2 h3 h4 =>
    hK _ _ (h v' w' ⟨h2⟩ ⟨HX.out.grown h3 HX.out.size fun g hg => (hown.out.lt hg).1⟩ ⟨h3, h4⟩)
  have hadd : (⟨g, 0, none⟩ : Addr).add j = ⟨g, j, none⟩ := by unfold Addr.add; split <;> simp_all
  rw [hadd]
  exact cell_of_heap hg (by simpa using hj)
end
theorem Own.empty {α : Type} {k : Kd α} {w : World} {D : Nat → Prop} {B : Nat} (hB : B ≤ w.heap.size) (hDB : ∀ b, D b → b < w.heap.size) : Own k (w.alloc (.cells #[] k.ety)) B D (.slice (some ⟨w.heap.size, 0, none⟩) 0 0) [] :=
  ⟨[], ⟨World.ownsRow_made w #[] 0 hB (Nat.zero_le _) (by simp), fun g hg hd => by cases hg; exact Nat.lt_irrefl _ (hDB _ hd)⟩, Flat.nil⟩

/-! ### Owned rows of whole numbers: read, written -/
theorem Flat.int {ety : TypeId} {kd : IntKind} {w : World} {D : Nat → Prop} {xs : List Int} {cells : List Value} : Flat (Kd.int ety kd) w D xs cells ↔ cells = xs.map (Value.int kd) := by
  constructor
  · rintro ⟨h1, h2⟩
    have h1' : cells.length = xs.length := by rw [h1]; exact Nat.mul_one _
    apply List.ext_getElem
    · rw [List.length_map, h1']
    · intro i h3 h4
      have h5 : i < xs.length := by rw [← h1']; exact h3
      have e : ((cells.drop (i * 1)).take 1) = [.int kd xs[i]] := h2 i h5
      rw [Nat.mul_one] at e
      have : cells[i]? = some (.int kd xs[i]) := by
        have := congrArg (fun l => l[0]?) e
        simpa using this
      rw [List.getElem?_eq_getElem h3] at this
      rw [List.getElem_map]
      exact Option.some.inj this
  · rintro rfl
    refine ⟨by rw [List.length_map]; exact (Nat.mul_one _).symm, fun i hi => ?_⟩
    show ((xs.map (Value.int kd)).drop (i * 1)).take 1 = [.int kd xs[i]]
    rw [Nat.mul_one, List.drop_eq_getElem_cons (by simpa using hi)]
    simp
theorem Own.int_cell {ety : TypeId} {kd : IntKind} {w : World} {B : Nat} {D : Nat → Prop} {g n c : Nat} {xs : List Int} (h : Own (Kd.int ety kd) w B D (.slice (some ⟨g, 0, none⟩) n c) xs) {t : Nat} (ht : t < xs.length) :
    w.cell? ⟨g, t, none⟩ = some (.int kd xs[t]) := by
  obtain ⟨A, c', e, _, hs⟩ := h.sl
  obtain ⟨b, o, hA, hc⟩ := hs.int_at ht
  cases e
  cases hA
  simpa using hc
theorem Own.int_set {ety : TypeId} {kd : IntKind} {w : World} {B : Nat} {D : Nat → Prop} {g n c : Nat} {xs : List Int} (h : Own (Kd.int ety kd) w B D (.slice (some ⟨g, 0, none⟩) n c) xs) (t : Nat) (x : Int) :
    Own (Kd.int ety kd) (w.setCell ⟨g, t, none⟩ (.int kd x)) B D (.slice (some ⟨g, 0, none⟩) n c) (xs.set t x) ∧ w.grownBy (w.setCell ⟨g, t, none⟩ (.int kd x)) (some g) := by
  obtain ⟨cells, ⟨ho, hnd⟩, hf⟩ := h
  have hn : xs.length = n := by
    rcases ho.2 with ⟨e, _⟩ | ⟨_, _, _, e, _⟩
    · cases e
    · cases e; rfl
  subst hn
  obtain ⟨h1, h2⟩ := ho.stored t (.int kd x)
  refine ⟨⟨cells.set t (.int kd x), ⟨by rw [List.length_set]; exact h1, hnd⟩, ?_⟩, h2⟩
  rw [Flat.int] at hf ⊢
  rw [hf, List.map_set]
theorem Own.not_frozen {α : Type} {k : Kd α} {w : World} {B : Nat} {D : Nat → Prop} {g n c : Nat} {xs : List α} (h : Own k w B D (.slice (some ⟨g, 0, none⟩) n c) xs) (j : Nat) : w.frozen? ⟨g, j, none⟩ = false := by
  obtain ⟨cur, hh⟩ := h.heap (g := g) rfl
  exact frozen_of_row w g j cur _ hh
theorem grownBy_drew {w w' : World} {row : Option Nat} (h : w.grownBy w' row) : w.grownBy w'.drew row := ⟨h.os, h.tape, h.output, h.size, h.block⟩
theorem Own.drew {α : Type} {k : Kd α} {w : World} {B : Nat} {D : Nat → Prop} {v : Value} {xs : List α} (h : Own k w B D v xs) : Own k w.drew B D v xs := h.ext ⟨rfl, rfl, rfl, Nat.le_refl _, fun _ _ => rfl⟩
theorem Ext.drew {w w' : World} (h : Ext w w') : Ext w w'.drew := ⟨h.os, h.tape, h.output, h.size, h.block⟩
end Go.Proofs.YtnmlonicfncpfaaGreat.X
