/- A tree that the call owns. -/
import Derived.Test.YtpgphhkhjbhimaaIns
import Derived.Test.YtpgphhkhjbhimaaSep
import Derived.Test.YtpgphhkhjbhimaaPath
namespace Go.Proofs.Ytpgphhkhjbhimaa.X
open Go.RowKit
/-- two rows of two types are not one -/
theorem own_ne {α β : Type} {k : Kd α} {k' : Kd β} {w : World} {B B' : Nat} {D D' : Nat → Prop} {v v' : Value} {xs : List α} {ys : List β} (h : Own k w B D v xs) (h' : Own k' w B' D' v' ys) (hne : k.ety ≠ k'.ety) : v.ownBlock = none ∨ v.ownBlock ≠ v'.ownBlock := by
  cases hv : v.ownBlock with
  | none => exact .inl rfl
  | some g =>
    refine .inr (fun e => ?_)
    obtain ⟨cur, hh⟩ := h.heap hv
    obtain ⟨cur', hh'⟩ := h'.heap e.symm
    rw [hh] at hh'
    injection hh' with h1
    injection h1 with _ h2 _
    exact hne h2
end Go.Proofs.Ytpgphhkhjbhimaa.X
namespace Go.Proofs.Ytpgphhkhjbhimaa
open Go.RowKit X
set_option maxHeartbeats 400000
set_option maxRecDepth 8000

/-- a node as its cells are -/
structure Raw where
  up : Int
  p : Int
  depth : Int
  kv : Value
  wv : Value
def encR (x : Raw) : List Value := [.int .i64 x.up, .int .u64 x.p, .int .i64 x.depth, x.kv, x.wv]
theorem encR_len (x : Raw) : (encR x).length = 5 := rfl
def kR : Kd Raw where
  ety := 78
  size := 5
  rel := fun _ _ x cs => cs = encR x ∧ x.kv.oneCell' = true ∧ x.wv.oneCell' = true
  keep := fun h _ => h
  weak := fun h _ => h
  len := fun h => by obtain ⟨rfl, _⟩ := h; rfl
  one := fun h => by obtain ⟨rfl, h1, h2⟩ := h; simp [encR, Value.oneCell'] at *; exact ⟨h1, h2⟩
theorem ty_raws : TyOk Try.prog 79 kR 72 := TyOk.mk' Try.underlying79 (z := .agg #[.int .i64 0, .int .u64 0, .int .i64 0, .slice none 0 0, .slice none 0 0]) (size := 5) (by kernel_rfl) rfl rfl (by omega)
theorem flatR {w : World} {D : Nat → Prop} {xs : List Raw} {cells : List Value} : Flat kR w D xs cells ↔ cells = xs.flatMap encR ∧ ∀ x ∈ xs, x.kv.oneCell' = true ∧ x.wv.oneCell' = true := by
  constructor
  · rintro ⟨h1, h2⟩
    induction xs generalizing cells with
    | nil => exact ⟨List.eq_nil_of_length_eq_zero (by simpa using h1), by simp⟩
    | cons x xs ih =>
      have h0 := h2 0 (by simp)
      have e0 : cells.take 5 = encR x := by have := h0.1; simpa [kR] using this
      have hl : cells.length = xs.length * 5 + 5 := by rw [h1, List.length_cons]; show (xs.length + 1) * 5 = _; omega
      obtain ⟨i1, i2⟩ := ih (cells := cells.drop 5) (by rw [List.length_drop, hl]; rfl) (fun i hi => by
        have := h2 (i + 1) (by simpa using hi)
        rw [List.drop_drop]
        have e2 : 5 + i * kR.size = (i + 1) * kR.size := by show 5 + i * 5 = (i + 1) * 5; omega
        rw [e2]
        simpa using this)
      refine ⟨by rw [List.flatMap_cons, ← i1, ← e0, List.take_append_drop], fun y hy => ?_⟩
      rcases List.mem_cons.1 hy with rfl | hy
      · exact h0.2
      · exact i2 y hy
  · rintro ⟨rfl, h⟩
    refine ⟨len_flat encR 5 encR_len xs, fun i hi => ?_⟩
    refine ⟨?_, h _ (List.getElem_mem hi)⟩
    show ((xs.flatMap encR).drop (i * 5)).take 5 = encR xs[i]
    rw [drop_flat encR 5 encR_len, List.drop_eq_getElem_cons hi, List.flatMap_cons, List.take_append_of_le_length (by rw [encR_len]; omega), List.take_of_length_le (by rw [encR_len]; omega)]
theorem set_flat {α β : Type} (f : α → List β) (m : Nat) (hf : ∀ x, (f x).length = m) (j : Nat) (hj : j < m) (u : β) : ∀ (xs : List α) (i : Nat) (y : α) (hi : i < xs.length), f y = (f xs[i]).set j u → (xs.flatMap f).set (i * m + j) u = (xs.set i y).flatMap f
  | [], i, y, hi, _ => absurd hi (Nat.not_lt_zero i)
  | x :: xs, 0, y, _, h => by
    rw [List.set_cons_zero, List.flatMap_cons, List.flatMap_cons, h, Nat.zero_mul, Nat.zero_add, List.set_append_left _ _ (by rw [hf]; exact hj)]; rfl
  | x :: xs, i + 1, y, hi, h => by
    rw [List.set_cons_succ, List.flatMap_cons, List.flatMap_cons, List.set_append_right _ _ (by rw [hf, Nat.succ_mul]; omega), hf, Nat.succ_mul, show i * m + m + j - m = i * m + j by omega, set_flat f m hf j hj u xs i y (by simpa using hi) (by simpa using h)]
theorem X.Own.raw_set {w : World} {B : Nat} {D : Nat → Prop} {g n c : Nat} {xs : List Raw} (h : Own kR w B D (.slice (some ⟨g, 0, none⟩) n c) xs) (i j : Nat) (hi : i < xs.length) (hj : j < 5) (u : Value) (y : Raw) (hy : encR y = (encR xs[i]).set j u) (h1 : y.kv.oneCell' = true ∧ y.wv.oneCell' = true) :
    Own kR (w.setCell ⟨g, i * 5 + j, none⟩ u) B D (.slice (some ⟨g, 0, none⟩) n c) (xs.set i y) ∧ w.grownBy (w.setCell ⟨g, i * 5 + j, none⟩ u) (some g) := by
  obtain ⟨cells, ⟨ho, hnd⟩, hf⟩ := h
  have hn : xs.length = n := by
    rcases ho.2 with ⟨e, _⟩ | ⟨_, _, _, e, _⟩
    · cases e
    · cases e; rfl
  subst hn
  obtain ⟨s1, s2⟩ := ho.stored (i * 5 + j) u
  refine ⟨⟨cells.set (i * 5 + j) u, ⟨by rw [List.length_set]; exact s1, hnd⟩, ?_⟩, s2⟩
  rw [flatR] at hf ⊢
  refine ⟨by rw [hf.1, set_flat encR 5 encR_len j hj u xs i y hi hy], fun x hx => ?_⟩
  rcases List.mem_or_eq_of_mem_set hx with hx | rfl
  · exact hf.2 x hx
  · exact h1
theorem X.Own.raw_cells {w : World} {B : Nat} {D : Nat → Prop} {g n c : Nat} {xs : List Raw} (h : Own kR w B D (.slice (some ⟨g, 0, none⟩) n c) xs) {i : Nat} (hi : i < xs.length) :
    w.cell? ⟨g, i * 5, none⟩ = some (.int .i64 xs[i].up) ∧ w.cell? ⟨g, i * 5 + 1, none⟩ = some (.int .u64 xs[i].p) ∧ w.cell? ⟨g, i * 5 + 2, none⟩ = some (.int .i64 xs[i].depth) ∧ w.cell? ⟨g, i * 5 + 3, none⟩ = some xs[i].kv ∧ w.cell? ⟨g, i * 5 + 4, none⟩ = some xs[i].wv := by
  obtain ⟨A, c', e, _, hs⟩ := h.sl
  obtain ⟨b, o, cs, hA, hb, hd, ⟨rfl, _⟩, hl, hc⟩ := hs i hi
  cases e
  cases hA
  simp only [Nat.zero_add] at hc
  exact ⟨hc 0 _ rfl, hc 1 _ rfl, hc 2 _ rfl, hc 3 _ rfl, hc 4 _ rfl⟩

abbrev kI : Kd Int := Kd.int 3 .i64
/-- the node of cells x is node y -/
structure NdOk (w : World) (F : Fp) (x : Raw) (y : Nd) : Prop where
  up : x.up = y.up
  p : x.p = y.p
  depth : x.depth = y.depth
  kids : Own kE w 0 No x.kv y.kids
  words : Own kI w 0 No x.wv y.words
  kf : ∀ g, x.kv.ownBlock = some g → F g
  wf : ∀ g, x.wv.ownBlock = some g → F g
/-- the call owns the tree at block b: all of it lies in F -/
structure OwnR (w : World) (F : Fp) (b : Nat) (vn vw : Value) (ns : List Raw) (l : List Nd) (ws : List Int) : Prop where
  at_ : w.heap[b]? = some (.cells #[vn, vw] 81 (0, 0))
  base : F b
  row : Own kR w 0 No vn ns
  rowf : ∀ g, vn.ownBlock = some g → F g
  wrow : Own kI w 0 No vw ws
  wrowf : ∀ g, vw.ownBlock = some g → F g
  len : ns.length = l.length
  nd : ∀ (i : Nat) (h : i < ns.length) (h' : i < l.length), NdOk w F ns[i] l[i]
  dk : ∀ (i j : Nat) (hi : i < ns.length) (hj : j < ns.length), i ≠ j → ∀ g, ns[i].kv.ownBlock = some g → ns[j].kv.ownBlock ≠ some g
  dw : ∀ (i j : Nat) (hi : i < ns.length) (hj : j < ns.length), i ≠ j → ∀ g, ns[i].wv.ownBlock = some g → ns[j].wv.ownBlock ≠ some g
  dv : ∀ (i : Nat) (hi : i < ns.length) (g : Nat), ns[i].wv.ownBlock = some g → vw.ownBlock ≠ some g
def OwnT (w : World) (F : Fp) (b : Nat) (l : List Nd) (ws : List Int) : Prop := ∃ vn vw ns, OwnR w F b vn vw ns l ws

section
variable {w w' : World} {F F' : Fp} {b : Nat} {vn vw : Value} {ns : List Raw} {l : List Nd} {ws : List Int} {x : Raw} {y : Nd}
theorem NdOk.keep (h : NdOk w F x y) (hk : ∀ b, b < w.heap.size → F b → w'.heap[b]? = w.heap[b]?) : NdOk w' F x y :=
  ⟨h.up, h.p, h.depth, h.kids.keep fun b hb e => hk b hb (e.elim False.elim (h.kf b)), h.words.keep fun b hb e => hk b hb (e.elim False.elim (h.wf b)), h.kf, h.wf⟩
theorem NdOk.weak (h : NdOk w F x y) (hf : ∀ b, b < w.heap.size → F b → F' b) : NdOk w F' x y :=
  ⟨h.up, h.p, h.depth, h.kids, h.words, fun g e => hf g (h.kids.lt e).2 (h.kf g e), fun g e => hf g (h.words.lt e).2 (h.wf g e)⟩
theorem OwnR.keep (h : OwnR w F b vn vw ns l ws) (hk : ∀ b, b < w.heap.size → F b → w'.heap[b]? = w.heap[b]?) : OwnR w' F b vn vw ns l ws :=
  ⟨(hk b (lt_of_heap h.at_) h.base).trans h.at_, h.base, h.row.keep fun b hb e => hk b hb (e.elim False.elim (h.rowf b)), h.rowf, h.wrow.keep fun b hb e => hk b hb (e.elim False.elim (h.wrowf b)), h.wrowf, h.len, fun i a b => (h.nd i a b).keep hk, h.dk, h.dw, h.dv⟩
theorem OwnR.weak (h : OwnR w F b vn vw ns l ws) (hf : ∀ b, b < w.heap.size → F b → F' b) : OwnR w F' b vn vw ns l ws :=
  ⟨h.at_, hf b (lt_of_heap h.at_) h.base, h.row, fun g e => hf g (h.row.lt e).2 (h.rowf g e), h.wrow, fun g e => hf g (h.wrow.lt e).2 (h.wrowf g e), h.len, fun i a b => (h.nd i a b).weak hf, h.dk, h.dw, h.dv⟩
theorem OwnR.ext (h : OwnR w F b vn vw ns l ws) (hx : Ext w w') : OwnR w' F b vn vw ns l ws := h.keep fun b hb _ => hx.block b hb
theorem OwnT.keep (h : OwnT w F b l ws) (hk : ∀ b, b < w.heap.size → F b → w'.heap[b]? = w.heap[b]?) : OwnT w' F b l ws := by
  obtain ⟨vn, vw, ns, h⟩ := h
  exact ⟨vn, vw, ns, h.keep hk⟩
theorem OwnT.weak (h : OwnT w F b l ws) (hf : ∀ b, b < w.heap.size → F b → F' b) : OwnT w F' b l ws := by
  obtain ⟨vn, vw, ns, h⟩ := h
  exact ⟨vn, vw, ns, h.weak hf⟩
theorem OwnT.ext (h : OwnT w F b l ws) (hx : Ext w w') : OwnT w' F b l ws := h.keep fun b hb _ => hx.block b hb
theorem OwnT.lt (h : OwnT w F b l ws) : b < w.heap.size := by
  obtain ⟨vn, vw, ns, h⟩ := h
  exact lt_of_heap h.at_
theorem OwnR.rd (h : OwnR w F b vn vw ns l ws) : RdT w Any b l ws := by
  obtain ⟨A, c, e1, hc, hs⟩ := h.row.sl
  obtain ⟨A', c', e2, hc', hs'⟩ := h.wrow.sl
  subst e1 e2
  rw [h.len] at hc
  refine ⟨A, c, A', c', by rw [h.at_, h.len], trivial, hc, fun i hi => ?_, hc', hs'.any⟩
  have hi' : i < ns.length := by rw [h.len]; exact hi
  obtain ⟨g, o, cs, hA, hb, hd, ⟨rfl, _⟩, hl, hcc⟩ := hs i hi'
  have hn := h.nd i hi' hi
  obtain ⟨A1, c1, e1, l1, s1⟩ := hn.kids.sl
  obtain ⟨A2, c2, e2, l2, s2⟩ := hn.words.sl
  refine ⟨g, o, encR ns[i], hA, hb, trivial, ⟨A1, c1, A2, c2, ?_, l1, s1.any, l2, s2.any⟩, rfl, hcc⟩
  unfold encR
  rw [hn.up, hn.p, hn.depth, e1, e2]
theorem OwnR.rdF (h : OwnR w F b vn vw ns l ws) : RdT w F b l ws := by
  obtain ⟨A, c, e1, hc, hs⟩ := h.row.sl
  obtain ⟨A', c', e2, hc', hs'⟩ := h.wrow.sl
  have hrf := h.rowf
  have hwf := h.wrowf
  subst e1 e2
  rw [h.len] at hc
  have up : ∀ {D : Fp} {v : Value}, (∀ g, v.ownBlock = some g → F g) → ∀ b, (D b → F b) → (D b ∨ v.ownBlock = some b) → F b := fun h1 b h2 h3 => h3.elim h2 (h1 b)
  refine ⟨A, c, A', c', by rw [h.at_, h.len], h.base, hc, fun i hi => ?_, hc', hs'.weak fun b _ hb => up hwf b False.elim hb⟩
  have hi' : i < ns.length := by rw [h.len]; exact hi
  obtain ⟨g, o, cs, hA, hb, hd, ⟨rfl, _⟩, hl, hcc⟩ := hs i hi'
  have hn := h.nd i hi' hi
  obtain ⟨A1, c1, e1, l1, s1⟩ := hn.kids.sl
  obtain ⟨A2, c2, e2, l2, s2⟩ := hn.words.sl
  refine ⟨g, o, encR ns[i], hA, hb, up hrf g False.elim hd, ⟨A1, c1, A2, c2, ?_, l1, s1.weak fun b _ hb => up hn.kf b False.elim hb, l2, s2.weak fun b _ hb => up hn.wf b False.elim hb⟩, rfl, hcc⟩
  unfold encR
  rw [hn.up, hn.p, hn.depth, e1, e2]
theorem OwnT.rd (h : OwnT w F b l ws) : RdT w Any b l ws := by
  obtain ⟨vn, vw, ns, h⟩ := h
  exact h.rd
end
/-- a tree -/
def TreeH (b : Nat) (l : List Nd) (ws : List Int) : Ob := .of {
  sat := fun w F _ => OwnT w F b l ws
  keep := fun h hk => h.keep fun b hb hf => hk b hb (.inl hf)
  weak := fun h hf _ _ => h.weak hf }
end Go.Proofs.Ytpgphhkhjbhimaa
