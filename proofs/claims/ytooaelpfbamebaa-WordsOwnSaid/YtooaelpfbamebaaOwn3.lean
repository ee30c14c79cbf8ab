/- More objects: rows made whole, rows of four cells written, two objects as one. -/
import Derived.Test.YtooaelpfbamebaaOwnT
import Derived.Test.YtooaelpfbamebaaSep2
import Derived.OwnWalk
namespace Go.Proofs.Ytooaelpfbamebaa.X
open Go.RowKit
set_option linter.unusedVariables false
section
variable {F0 I0 : Fp} {w0 w w' : World} {L : List Ob} {I : Fp} {h h' : Ob}
/-! ### make([]T, n) -/
theorem made_chunk (z : Array Value) (n i : Nat) (hi : i < n) (h0 : 0 < z.size) : ((madeCells z (n * z.size)).toList.drop (i * z.size)).take z.size = z.toList := by
  have hb : i * z.size + z.size ≤ n * z.size := by rw [← Nat.succ_mul]; exact Nat.mul_le_mul_right _ hi
  apply List.ext_getElem
  · rw [List.length_take, List.length_drop, Array.length_toList, Array.length_toList, size_madeCells]; omega
  · intro j h1 h2
    rw [Array.length_toList] at h2
    rw [List.getElem_take, List.getElem_drop, Array.getElem_toList, Array.getElem_toList]
    simp only [madeCells, Array.getElem_map, Array.getElem_range]
    have e : (i * z.size + j) % z.size = j := by rw [Nat.mul_comm, Nat.mul_add_mod, Nat.mod_eq_of_lt h2]
    rw [e]
    simp [h2]
theorem flat_made {α : Type} {k : Kd α} {D : Fp} {x0 : α} {z : Array Value} {n : Nat} (hr : k.rel w D x0 z.toList) (h0 : 0 < z.size) : Flat k w D (List.replicate n x0) (madeCells z (n * z.size)).toList := by
  have hs : z.size = k.size := by rw [← k.len hr, Array.length_toList]
  refine ⟨by rw [Array.length_toList, size_madeCells, List.length_replicate, hs], fun i hi => ?_⟩
  rw [List.length_replicate] at hi
  rw [List.getElem_replicate, ← hs, made_chunk z n i hi h0]
  exact hr
theorem wpl_make {P : Program} {α : Type} {k : Kd α} {t : TypeId} {ops : Array Oper} {rest : List Oper} {o : Oper} {a : Act} {Q : Exit → Act → World → Prop}
    (s : SH F0 I0 w0 L w I) (hg : o.guard = none) (l c : Operand) (hop : o.op = Op.makeSlice t l c) {z : Value} {bytes size : Nat} (h1 : P.underlying t = some (.slice k.ety)) (hi : (P.info? k.ety).map (fun i => (i.zero, i.size, i.bytes)) = some (some z, size, bytes)) (hz : z.cells.size = size) (hb : bytes ≤ 1000)
    (kl kc : IntKind) (n : Nat) (hl : a.eval l = .int kl n) (hc : a.eval c = .int kc n) (hn : n ≤ 1000000) (x0 : α) (hr : ∀ w, k.rel w No x0 z.cells.toList) (h0 : 0 < size)
    (hK : ∀ g w', SH F0 I0 w0 (Row k (.slice (some ⟨g, 0, none⟩) n n) (List.replicate n x0) :: L) w' I → wpList P ops Q rest (a.put o.dst (.slice (some ⟨g, 0, none⟩) n n)) w') : wpList P ops Q (o :: rest) a w := by
  obtain ⟨i, h2, h3, h4, h5⟩ := info_parts hi
  subst hz h5
  have hb2 : i.bytes * n ≤ 281474976710656 := Nat.le_trans (Nat.mul_le_mul hb hn) (by decide)
  refine wpList_make_full w hg l c t hop 0 k.ety i z z.cells.size h1 h2 h3 h4 kl kc n n n hl hc rfl rfl hb2 (by simp only [maxLen]; omega) (Nat.zero_le _) ?_
  intro w' ho hgr
  refine hK _ _ ?_
  have hf : Flat k w' I (List.replicate n x0) (madeCells z.cells (n * z.cells.size)).toList := flat_made (k.weak (hr w') (fun _ _ h => h.elim)) h0
  have hsz : z.cells.size = k.size := by rw [← k.len (hr w), Array.length_toList]
  have nul : SH F0 I0 w0 ((.of ⟨fun _ _ _ => True, fun _ _ => trivial, fun _ _ _ _ => trivial⟩) :: L) w I := s.know (h := .of ⟨fun _ _ _ => True, fun _ _ => trivial, fun _ _ _ _ => trivial⟩) trivial
  have hsize : w.heap.size < w'.heap.size := by
    rcases ho.2 with ⟨e, _⟩ | ⟨g, _, _, e, _, hh, _⟩
    · cases e
    · cases e; exact lt_of_heap hh
  refine nul.updI (h' := Row k (.slice (some ⟨w.heap.size, 0, none⟩) n n) (List.replicate n x0)) (w' := w') 0 rfl fun F _ hF => ⟨fun b => b = w.heap.size, ⟨⟨_, ⟨?_, fun g e hI => ?_⟩, hf⟩, fun g e => ?_⟩, fun b hb => ?_, Chg.of_grown hgr fun _ e => by cases e⟩
  · rw [List.length_replicate]; rw [hsz] at ho ⊢; exact ho
  · cases e; exact Nat.lt_irrefl _ (s.bd _ hI)
  · cases e; rfl
  · have hb : b = w.heap.size := hb
    subst hb
    exact ⟨hsize, .inr (Nat.le_refl _)⟩
/-! ### an element's cell is written -/
theorem Flat.set {α : Type} {k : Kd α} {D : Fp} {xs : List α} {cells : List Value} (hf : Flat k w D xs cells) {i j : Nat} (hi : i < xs.length) (hj : j < k.size) (u : Value) (y : α) (hy : ∀ cs, k.rel w D xs[i] cs → k.rel w D y (cs.set j u)) : Flat k w D (xs.set i y) (cells.set (i * k.size + j) u) := by
  refine ⟨by rw [List.length_set, List.length_set]; exact hf.1, fun m hm => ?_⟩
  rw [List.length_set] at hm
  have hc := hf.2 m hm
  have hlm := k.len hc
  rw [List.drop_set]
  by_cases hmi : m = i
  · subst hmi
    rw [if_neg (by omega), Nat.add_sub_cancel_left, List.take_set, List.getElem_set_self]
    exact hy _ hc
  · rw [List.getElem_set_ne (fun e => hmi e.symm)]
    rcases Nat.lt_or_ge (i * k.size + j) (m * k.size) with h | h
    · rw [if_pos h]; exact hc
    · rw [if_neg (by omega), List.take_set, List.set_eq_of_length_le]
      · exact hc
      · rw [hlm]
        have h1 : m < i := by
          rcases Nat.lt_or_ge m i with h1 | h1
          · exact h1
          · have h2 : (i + 1) * k.size ≤ m * k.size := Nat.mul_le_mul_right _ (by omega)
            rw [Nat.succ_mul] at h2; omega
        have h2 : (m + 1) * k.size ≤ i * k.size := Nat.mul_le_mul_right _ h1
        rw [Nat.succ_mul] at h2
        omega
theorem SH.putK {α : Type} {k : Kd α} {g n c : Nat} {xs : List α} (s : SH F0 I0 w0 L w I) (m : Nat) (e : L[m]? = some (Row k (.slice (some ⟨g, 0, none⟩) n c) xs)) (i j : Nat) (hi : i < xs.length) (hj : j < k.size) (u : Value) (y : α) (hy : ∀ cs, k.rel w I xs[i] cs → k.rel w I y (cs.set j u)) :
    SH F0 I0 w0 (L.set m (Row k (.slice (some ⟨g, 0, none⟩) n c) (xs.set i y))) (w.setCell ⟨g, i * k.size + j, none⟩ u) I := by
  refine s.updI m e fun F ⟨⟨cells, ⟨ho, hnd⟩, hf⟩, hF⟩ hb => ?_
  have hn : xs.length = n := by
    rcases ho.2 with ⟨e, _⟩ | ⟨_, _, _, e, _⟩
    · cases e
    · cases e; rfl
  subst hn
  obtain ⟨s1, s2⟩ := ho.stored (i * k.size + j) u
  refine ⟨F, ⟨⟨cells.set (i * k.size + j) u, ⟨by rw [List.length_set]; exact s1, hnd⟩, ?_⟩, hF⟩, fun k' hk => ⟨by simpa [World.setCell] using (hb k' hk).1, .inl hk⟩, Chg.of_grown s2 fun g' e => hF g' e⟩
  refine (hf.set hi hj u y hy).keep fun b hb' hI => ?_
  exact Below.heap_setCell _ _ _ _ fun e => hnd g rfl (by
    have e' : g = b := e.symm
    rw [e']; exact hI)
theorem SH.nfzR {α : Type} {k : Kd α} {g n c : Nat} {xs : List α} (s : SH F0 I0 w0 L w I) (m : Nat) (e : L[m]? = some (Row k (.slice (some ⟨g, 0, none⟩) n c) xs)) (j : Nat) : w.frozen? ⟨g, j, none⟩ = false := (s.own m e).not_frozen j
/-- an object, told more closely -/
theorem SH.pick {α : Type} {h' : α → Ob} (s : SH F0 I0 w0 L w I) (i : Nat) (e : L[i]? = some h) (hh : ∀ F, h.sat w F I → ∃ x, (h' x).sat w F I) : ∃ x, SH F0 I0 w0 (L.set i (h' x)) w I := by
  obtain ⟨c, bd, ini, Fs, h1, h2, h3⟩ := s
  obtain ⟨x, hx⟩ := hh _ (h1 i h e)
  refine ⟨x, c, bd, ini, Fs, fun j o ej => ?_, h2, h3⟩
  by_cases hij : j = i
  · subst hij
    rw [List.getElem?_set_self (lt_of_get e)] at ej
    cases ej
    exact hx
  · rw [List.getElem?_set_ne (fun e => hij e.symm)] at ej
    exact h1 j o ej
/-! ### two objects as one -/
def Two (h1 h2 : Ob) : Ob := .of {
  sat := fun w F I => ∃ F1 F2, h1.sat w F1 I ∧ h2.sat w F2 I ∧ (∀ b, F1 b → F b ∧ ¬ F2 b) ∧ (∀ b, F2 b → F b)
  keep := fun ⟨F1, F2, a, b, c, d⟩ hk => ⟨F1, F2, h1.keep a fun b hb hd => hk b hb (hd.imp (fun h => (c b h).1) id), h2.keep b fun b hb hd => hk b hb (hd.imp (d b) id), c, d⟩
  weak := fun {w F F' I I'} ⟨F1, F2, a, b, c, d⟩ hf hi hn => ⟨fun x => F1 x ∧ x < w.heap.size, fun x => F2 x ∧ x < w.heap.size, h1.weak a (fun x hx h => ⟨h, hx⟩) hi (fun x h => hn x (hf x h.2 (c x h.1).1)), h2.weak b (fun x hx h => ⟨h, hx⟩) hi (fun x h => hn x (hf x h.2 (d x h.1))), fun x h => ⟨hf x h.2 (c x h.1).1, fun h' => (c x h.1).2 h'.1⟩, fun x h => hf x h.2 (d x h.1)⟩ }
theorem SH.fork {h1 h2 : Ob} (s : SH F0 I0 w0 L w I) (i : Nat) (e : L[i]? = some (Two h1 h2)) : SH F0 I0 w0 (h2 :: L.set i h1) w I := by
  obtain ⟨c, bd, ini, Fs, k1, k2, k3⟩ := s
  obtain ⟨F1, F2, a1, a2, a3, a4⟩ := k1 i _ e
  have hl := lt_of_get e
  refine ⟨c, bd, ini, fun j => match j with | 0 => F2 | j + 1 => if j = i then F1 else Fs j, fun j o ej => ?_, fun j b hb => ?_, fun j m b hjm hb hb' => ?_⟩
  · rcases j with _ | j
    · simp at ej; subst ej; exact a2
    · simp only [List.getElem?_cons_succ] at ej
      by_cases hij : j = i
      · subst hij
        rw [List.getElem?_set_self hl] at ej
        cases ej
        simp only [if_true]
        exact a1
      · rw [List.getElem?_set_ne (fun e => hij e.symm)] at ej
        simp only [if_neg hij]
        exact k1 j o ej
  · rcases j with _ | j
    · exact k2 i b (a4 b hb)
    · by_cases hij : j = i
      · simp only [if_pos hij] at hb; exact k2 i b (a3 b hb).1
      · simp only [if_neg hij] at hb; exact k2 j b hb
  · rcases j with _ | j
    · rcases m with _ | m
      · exact hjm rfl
      · by_cases hm : m = i
        · simp only [if_pos hm] at hb'; exact (a3 b hb').2 hb
        · simp only [if_neg hm] at hb'; exact k3 i m b (fun e => hm e.symm) (a4 b hb) hb'
    · by_cases hj : j = i
      · simp only [if_pos hj] at hb
        rcases m with _ | m
        · exact (a3 b hb).2 hb'
        · by_cases hm : m = i
          · exact hjm (by rw [hj, hm])
          · simp only [if_neg hm] at hb'; exact k3 i m b (fun e => hm e.symm) (a3 b hb).1 hb'
      · simp only [if_neg hj] at hb
        rcases m with _ | m
        · exact k3 j i b hj hb (a4 b hb')
        · by_cases hm : m = i
          · simp only [if_pos hm] at hb'; exact k3 j i b hj hb (a3 b hb').1
          · simp only [if_neg hm] at hb'; exact k3 j m b (fun e => hjm (by rw [e])) hb hb'
/-- what a call has changed, and made -/
theorem SH.ret2 {h1 h2 : Ob} (s : SH F0 I0 w0 L w I) (i j : Nat) (hij : i ≠ j) (e1 : L[i]? = some h1) (e2 : L[j]? = some h2) : Upd w0 F0 I0 w (Two h1 h2) := by
  obtain ⟨c, bd, ini, Fs, k1, k2, k3⟩ := s
  refine ⟨fun b => Fs i b ∨ Fs j b, I, ⟨Fs i, Fs j, k1 i h1 e1, k1 j h2 e2, fun b hb => ⟨.inl hb, fun hb' => k3 i j b hij hb hb'⟩, fun b hb => .inr hb⟩, fun b hb => ?_, fun b hb => ⟨bd b hb, ini b hb⟩, fun b hb hI => ?_, c⟩
  · rcases hb with hb | hb
    · exact ⟨(k2 i b hb).1, (k2 i b hb).2.1⟩
    · exact ⟨(k2 j b hb).1, (k2 j b hb).2.1⟩
  · rcases hb with hb | hb
    · exact (k2 i b hb).2.2 hI
    · exact (k2 j b hb).2.2 hI
/-- a call that is handed one object, and makes another -/
theorem SH.call2 (s : SH F0 I0 w0 L w I) (i : Nat) (e : L[i]? = some h) :
    ∃ F, (∀ b, I b → b < w.heap.size) ∧ SH F I w [h] w I ∧ ∀ (h1 h2 : Ob) (w' : World), Upd w F I w' (Two h1 h2) → ∃ I', SH F0 I0 w0 (h2 :: L.set i h1) w' I' ∧ (∀ b, I b → I' b) := by
  obtain ⟨F, hF, hb, back⟩ := s.upd i e
  refine ⟨F, s.bd, SH.start1 hF (fun b h => (hb b h).1) s.bd (fun b h h' => (hb b h).2.2 h'), fun h1 h2 w' u => ?_⟩
  obtain ⟨I', s', hI⟩ := back w' _ u
  have := s'.fork i (by rw [List.getElem?_set_self (lt_of_get e)])
  rw [List.set_set] at this
  exact ⟨I', this, hI⟩
end
/-! ### rows of four cells -/
structure S4 where
  c0 : Value
  c1 : Value
  c2 : Value
  c3 : Value
def enc4 (x : S4) : List Value := [x.c0, x.c1, x.c2, x.c3]
theorem enc4_len (x : S4) : (enc4 x).length = 4 := rfl
def One4 (x : S4) : Prop := x.c0.oneCell' = true ∧ x.c1.oneCell' = true ∧ x.c2.oneCell' = true ∧ x.c3.oneCell' = true
def k4 (t : TypeId) : Kd S4 where
  ety := t
  size := 4
  rel := fun _ _ x cs => cs = enc4 x ∧ One4 x
  keep := fun h _ => h
  weak := fun h _ => h
  len := fun h => by obtain ⟨rfl, _⟩ := h; rfl
  one := fun h => by obtain ⟨rfl, h1, h2, h3, h4⟩ := h; simp [enc4]; exact ⟨h1, h2, h3, h4⟩
end Go.Proofs.Ytooaelpfbamebaa.X
namespace Go.Proofs.Ytooaelpfbamebaa
open Go.RowKit X
theorem flat4 {t : TypeId} {w : World} {D : Nat → Prop} {xs : List S4} {cells : List Value} : Flat (k4 t) w D xs cells ↔ cells = xs.flatMap enc4 ∧ ∀ x ∈ xs, One4 x := by
  constructor
  · rintro ⟨h1, h2⟩
    induction xs generalizing cells with
    | nil => exact ⟨List.eq_nil_of_length_eq_zero (by simpa using h1), by simp⟩
    | cons x xs ih =>
      have h0 := h2 0 (by simp)
      have e0 : cells.take 4 = enc4 x := by have := h0.1; simpa [k4] using this
      have hl : cells.length = xs.length * 4 + 4 := by rw [h1, List.length_cons]; show (xs.length + 1) * 4 = _; omega
      obtain ⟨i1, i2⟩ := ih (cells := cells.drop 4) (by rw [List.length_drop, hl]; rfl) (fun i hi => by
        have := h2 (i + 1) (by simpa using hi)
        rw [List.drop_drop]
        have e2 : 4 + i * (k4 t).size = (i + 1) * (k4 t).size := by show 4 + i * 4 = (i + 1) * 4; omega
        rw [e2]
        simpa using this)
      refine ⟨by rw [List.flatMap_cons, ← i1, ← e0, List.take_append_drop], fun y hy => ?_⟩
      rcases List.mem_cons.1 hy with rfl | hy
      · exact h0.2
      · exact i2 y hy
  · rintro ⟨rfl, h⟩
    refine ⟨len_flat enc4 4 enc4_len xs, fun i hi => ?_⟩
    refine ⟨?_, h _ (List.getElem_mem hi)⟩
    show ((xs.flatMap enc4).drop (i * 4)).take 4 = enc4 xs[i]
    rw [drop_flat enc4 4 enc4_len, List.drop_eq_getElem_cons hi, List.flatMap_cons, List.take_append_of_le_length (by rw [enc4_len]; omega), List.take_of_length_le (by rw [enc4_len]; omega)]
section
variable {F0 I0 : Fp} {w0 w w' : World} {L : List Ob} {I : Fp} {t : TypeId} {g n c : Nat} {xs : List S4}
theorem X.SH.put4 (s : SH F0 I0 w0 L w I) (m : Nat) (e : L[m]? = some (Row (k4 t) (.slice (some ⟨g, 0, none⟩) n c) xs)) (i j : Nat) (hi : i < xs.length) (hj : j < 4) (u : Value) (y : S4) (hy : enc4 y = (enc4 xs[i]).set j u) (h1 : One4 y) :
    SH F0 I0 w0 (L.set m (Row (k4 t) (.slice (some ⟨g, 0, none⟩) n c) (xs.set i y))) (w.setCell ⟨g, i * 4 + j, none⟩ u) I := by
  refine s.updI m e fun F ⟨⟨cells, ⟨ho, hnd⟩, hf⟩, hF⟩ hb => ?_
  have hn : xs.length = n := by
    rcases ho.2 with ⟨e, _⟩ | ⟨_, _, _, e, _⟩
    · cases e
    · cases e; rfl
  subst hn
  obtain ⟨s1, s2⟩ := ho.stored (i * 4 + j) u
  refine ⟨F, ⟨⟨cells.set (i * 4 + j) u, ⟨by rw [List.length_set]; exact s1, hnd⟩, ?_⟩, hF⟩, fun k hk => ⟨by simpa [World.setCell] using (hb k hk).1, .inl hk⟩, Chg.of_grown s2 fun g' e => hF g' e⟩
  rw [flat4] at hf ⊢
  refine ⟨by rw [hf.1, set_flat enc4 4 enc4_len j hj u xs i y hi hy], fun x hx => ?_⟩
  rcases List.mem_or_eq_of_mem_set hx with hx | rfl
  · exact hf.2 x hx
  · exact h1
theorem X.SH.get4 (s : SH F0 I0 w0 L w I) (m : Nat) (e : L[m]? = some (Row (k4 t) (.slice (some ⟨g, 0, none⟩) n c) xs)) {i : Nat} (hi : i < xs.length) :
    w.cell? ⟨g, i * 4, none⟩ = some xs[i].c0 ∧ w.cell? ⟨g, i * 4 + 1, none⟩ = some xs[i].c1 ∧ w.cell? ⟨g, i * 4 + 2, none⟩ = some xs[i].c2 ∧ w.cell? ⟨g, i * 4 + 3, none⟩ = some xs[i].c3 ∧ ∀ j, w.frozen? ⟨g, j, none⟩ = false := by
  have ho := s.own m e
  obtain ⟨A, c', e, _, hs⟩ := ho.sl
  obtain ⟨b, o, cs, hA, hb, hd, ⟨rfl, _⟩, hl, hc⟩ := hs i hi
  cases e
  cases hA
  simp only [Nat.zero_add] at hc
  exact ⟨hc 0 _ rfl, hc 1 _ rfl, hc 2 _ rfl, hc 3 _ rfl, fun j => ho.not_frozen j⟩
/-! ### seals at such rows -/
class KLt (k n : Nat) : Prop where out : k < n
class OneV (u : Value) : Prop where out : u.oneCell' = true
instance (k : IntKind) (x : Int) : OneV (.int k x) := ⟨by simp [Value.oneCell']⟩
instance (A : Option Addr) (n c : Nat) : OneV (.slice A n c) := ⟨by simp [Value.oneCell']⟩
instance (k n : Nat) (xs : List S4) (y : S4) [h : KLt k xs.length] : KLt k (xs.set n y).length := ⟨by rw [List.length_set]; exact h.out⟩
def put4 (x : S4) : Nat → Value → S4
  | 0, u => { x with c0 := u }
  | 1, u => { x with c1 := u }
  | 2, u => { x with c2 := u }
  | _, u => { x with c3 := u }
theorem one_of {t : TypeId} {w : World} {D : Fp} {xs : List S4} {v : Value} {B : Nat} (h : Own (k4 t) w B D v xs) {i : Nat} (hi : i < xs.length) : One4 xs[i] := by
  obtain ⟨cells, _, hf⟩ := h
  exact (flat4.1 hf).2 _ (List.getElem_mem hi)
class SetR4 (L : List Ob) (b k j : Nat) (u : Value) (L' : outParam (List Ob)) : Prop where
  out : ∃ m t n c xs, L[m]? = some (Row (k4 t) (.slice (some ⟨b, 0, none⟩) n c) xs) ∧ ∃ h : k < xs.length, u.oneCell' = true ∧ L' = L.set m (Row (k4 t) (.slice (some ⟨b, 0, none⟩) n c) (xs.set k (put4 xs[k] j u)))
instance (t : TypeId) (b n c k j : Nat) (u : Value) (xs : List S4) (L : List Ob) [h : KLt k xs.length] [g : OneV u] : SetR4 (Row (k4 t) (.slice (some ⟨b, 0, none⟩) n c) xs :: L) b k j u (Row (k4 t) (.slice (some ⟨b, 0, none⟩) n c) (xs.set k (put4 (xs[k]'h.out) j u)) :: L) := ⟨0, t, n, c, xs, rfl, h.out, g.out, rfl⟩
instance (priority := 500) (b k j : Nat) (u : Value) (o : Ob) (L L' : List Ob) [h : SetR4 L b k j u L'] : SetR4 (o :: L) b k j u (o :: L') := by
  obtain ⟨m, t, n, c, xs, h1, h2, h3, h4⟩ := h.out
  exact ⟨m + 1, t, n, c, xs, by simpa using h1, h2, h3, by rw [h4]; rfl⟩
theorem X.SH.set4 {L' : List Ob} {b k j : Nat} {u : Value} (s : SH F0 I0 w0 L w I) [h : SetR4 L b k j u L'] (hj : j < 4) : SH F0 I0 w0 L' (w.setCell ⟨b, k * 4 + j, none⟩ u) I := by
  obtain ⟨m, t, n, c, xs, h1, h2, h3, rfl⟩ := h.out
  have h4 := one_of (s.own m h1) h2
  obtain ⟨o0, o1, o2, o3⟩ := h4
  refine s.put4 m h1 k j h2 hj u _ ?_ ?_
  · match j, hj with
    | 0, _ => rfl
    | 1, _ => rfl
    | 2, _ => rfl
    | 3, _ => rfl
  · match j, hj with
    | 0, _ => exact ⟨h3, o1, o2, o3⟩
    | 1, _ => exact ⟨o0, h3, o2, o3⟩
    | 2, _ => exact ⟨o0, o1, h3, o3⟩
    | 3, _ => exact ⟨o0, o1, o2, h3⟩
instance (w : World) (L : List Ob) (b k : Nat) (u : Value) (W : World) (L' L2 : List Ob) [h : Built w L W L'] [g : SetR4 L' b k 0 u L2] : Built1 w L (W.setCell ⟨b, k * 4, none⟩ u) L2 := ⟨fun s => (h.out s).set4 (j := 0) (by omega)⟩
instance (w : World) (L : List Ob) (b k : Nat) (u : Value) (W : World) (L' L2 : List Ob) [h : Built w L W L'] [g : SetR4 L' b k 1 u L2] : Built1 w L (W.setCell ⟨b, k * 4 + 1, none⟩ u) L2 := ⟨fun s => (h.out s).set4 (j := 1) (by omega)⟩
instance (w : World) (L : List Ob) (b k : Nat) (u : Value) (W : World) (L' L2 : List Ob) [h : Built w L W L'] [g : SetR4 L' b k 2 u L2] : Built1 w L (W.setCell ⟨b, k * 4 + 2, none⟩ u) L2 := ⟨fun s => (h.out s).set4 (j := 2) (by omega)⟩
instance (w : World) (L : List Ob) (b k : Nat) (u : Value) (W : World) (L' L2 : List Ob) [h : Built w L W L'] [g : SetR4 L' b k 3 u L2] : Built1 w L (W.setCell ⟨b, k * 4 + 3, none⟩ u) L2 := ⟨fun s => (h.out s).set4 (j := 3) (by omega)⟩
/-- where such a row stands -/
class HasR4 (L : List Ob) (t : outParam TypeId) (g n c : outParam Nat) (xs : outParam (List S4)) : Prop where
  out : ∃ m : Nat, L[m]? = some (Row (k4 t) (.slice (some ⟨g, 0, none⟩) n c) xs)
instance (t : TypeId) (g n c : Nat) (xs : List S4) (L : List Ob) : HasR4 (Row (k4 t) (.slice (some ⟨g, 0, none⟩) n c) xs :: L) t g n c xs := ⟨0, rfl⟩
instance (priority := 500) (t : TypeId) (g n c : Nat) (xs : List S4) (o : Ob) (L : List Ob) [h : HasR4 L t g n c xs] : HasR4 (o :: L) t g n c xs := ⟨by obtain ⟨m, e⟩ := h.out; exact ⟨m + 1, by simpa using e⟩⟩
theorem X.SH.at4 (s : SH F0 I0 w0 L w I) [h : HasR4 L t g n c xs] (i : Nat) [hi : KLt i xs.length] :
    w.cell? ⟨g, i * 4, none⟩ = some (xs[i]'hi.out).c0 ∧ w.cell? ⟨g, i * 4 + 1, none⟩ = some (xs[i]'hi.out).c1 ∧ w.cell? ⟨g, i * 4 + 2, none⟩ = some (xs[i]'hi.out).c2 ∧ w.cell? ⟨g, i * 4 + 3, none⟩ = some (xs[i]'hi.out).c3 ∧ ∀ j, w.frozen? ⟨g, j, none⟩ = false := by
  obtain ⟨m, e⟩ := h.out
  exact s.get4 m e hi.out
end
end Go.Proofs.Ytooaelpfbamebaa
