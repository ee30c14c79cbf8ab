/- More objects: rows made whole, cells of elements written, two objects as one. -/
import Derived.Test.YtnmlonicfncpfaaGreatSep3
import Derived.OwnWalk
namespace Go.Proofs.YtnmlonicfncpfaaGreat.X
open Go.RowKit
set_option linter.unusedVariables false
section
variable {F0 I0 : Fp} {w0 w w' : World} {L : List Ob} {I : Fp} {h h' : Ob}
/-! ### make([]T, n) -/
theorem made_chunk (z : Array Value) (n i : Nat) (hi : i < n) (h0 : 0 < z.size) : ((madeCells z (n * z.size)).toList.drop (i * z.size)).take z.size = z.toList := by
  have hb : i * z.size + z.size ≤ n * z.size := by rw [← Nat.succ_mul]; exact Nat.mul_le_mul_right _ hi
  apply List.ext_getElem
  · rw [List.length_take, List.length_drop, Array.length_toList, Array.length_toList, size_madeCells]; omega
  · intro j h1 h2
    rw [Array.length_toList] at h2
    rw [List.getElem_take, List.getElem_drop, Array.getElem_toList, Array.getElem_toList]
    simp only [madeCells, Array.getElem_map, Array.getElem_range]
    have e : (i * z.size + j) % z.size = j := by rw [Nat.mul_comm, Nat.mul_add_mod, Nat.mod_eq_of_lt h2]
    rw [e]
    simp [h2]
theorem flat_made {α : Type} {k : Kd α} {D : Fp} {x0 : α} {z : Array Value} {n : Nat} (hr : k.rel w D x0 z.toList) (h0 : 0 < z.size) : Flat k w D (List.replicate n x0) (madeCells z (n * z.size)).toList := by
  have hs : z.size = k.size := by rw [← k.len hr, Array.length_toList]
  refine ⟨by rw [Array.length_toList, size_madeCells, List.length_replicate, hs], fun i hi => ?_⟩
  rw [List.length_replicate] at hi
  rw [List.getElem_replicate, ← hs, made_chunk z n i hi h0]
  exact hr
theorem wpl_make {P : Program} {α : Type} {k : Kd α} {t : TypeId} {ops : Array Oper} {rest : List Oper} {o : Oper} {a : Act} {Q : Exit → Act → World → Prop}
    (s : SH F0 I0 w0 L w I) (hg : o.guard = none) (l c : Operand) (hop : o.op = Op.makeSlice t l c) {z : Value} {bytes size : Nat} (h1 : P.underlying t = some (.slice k.ety)) (hi : (P.info? k.ety).map (fun i => (i.zero, i.size, i.bytes)) = some (some z, size, bytes)) (hz : z.cells.size = size) (hb : bytes ≤ 1000)
    (kl kc : IntKind) (n : Nat) (hl : a.eval l = .int kl n) (hc : a.eval c = .int kc n) (hn : n ≤ 1000000) (x0 : α) (hr : ∀ w, k.rel w No x0 z.cells.toList) (h0 : 0 < size)
    (hK : ∀ g w', SH F0 I0 w0 (Row k (.slice (some ⟨g, 0, none⟩) n n) (List.replicate n x0) :: L) w' I → wpList P ops Q rest (a.put o.dst (.slice (some ⟨g, 0, none⟩) n n)) w') : wpList P ops Q (o :: rest) a w := by
  obtain ⟨i, h2, h3, h4, h5⟩ := info_parts hi
  subst hz h5
  have hb2 : i.bytes * n ≤ 281474976710656 := Nat.le_trans (Nat.mul_le_mul hb hn) (by decide)
  refine wpList_make_full w hg l c t hop 0 k.ety i z z.cells.size h1 h2 h3 h4 kl kc n n n hl hc rfl rfl hb2 (by simp only [maxLen]; omega) (Nat.zero_le _) ?_
  intro w' ho hgr
  refine hK _ _ ?_
  have hf : Flat k w' I (List.replicate n x0) (madeCells z.cells (n * z.cells.size)).toList := flat_made (k.weak (hr w') (fun _ _ h => h.elim)) h0
  have hsz : z.cells.size = k.size := by rw [← k.len (hr w), Array.length_toList]
  have nul : SH F0 I0 w0 ((.of ⟨fun _ _ _ => True, fun _ _ => trivial, fun _ _ _ _ => trivial⟩) :: L) w I := s.know (h := .of ⟨fun _ _ _ => True, fun _ _ => trivial, fun _ _ _ _ => trivial⟩) trivial
  have hsize : w.heap.size < w'.heap.size := by
    rcases ho.2 with ⟨e, _⟩ | ⟨g, _, _, e, _, hh, _⟩
    · cases e
    · cases e; exact lt_of_heap hh
  refine nul.updI (h' := Row k (.slice (some ⟨w.heap.size, 0, none⟩) n n) (List.replicate n x0)) (w' := w') 0 rfl fun F _ hF => ⟨fun b => b = w.heap.size, ⟨⟨_, ⟨?_, fun g e hI => ?_⟩, hf⟩, fun g e => ?_⟩, fun b hb => ?_, Chg.of_grown hgr fun _ e => by cases e⟩
  · rw [List.length_replicate]; rw [hsz] at ho ⊢; exact ho
  · cases e; exact Nat.lt_irrefl _ (s.bd _ hI)
  · cases e; rfl
  · have hb : b = w.heap.size := hb
    subst hb
    exact ⟨hsize, .inr (Nat.le_refl _)⟩
/-! ### an element's cell is written -/
theorem Flat.set {α : Type} {k : Kd α} {D : Fp} {xs : List α} {cells : List Value} (hf : Flat k w D xs cells) {i j : Nat} (hi : i < xs.length) (hj : j < k.size) (u : Value) (y : α) (hy : ∀ cs, k.rel w D xs[i] cs → k.rel w D y (cs.set j u)) : Flat k w D (xs.set i y) (cells.set (i * k.size + j) u) := by
  refine ⟨by rw [List.length_set, List.length_set]; exact hf.1, fun m hm => ?_⟩
  rw [List.length_set] at hm
  have hc := hf.2 m hm
  have hlm := k.len hc
  rw [List.drop_set]
  by_cases hmi : m = i
  · subst hmi
    rw [if_neg (by omega), Nat.add_sub_cancel_left, List.take_set, List.getElem_set_self]
    exact hy _ hc
  · rw [List.getElem_set_ne (fun e => hmi e.symm)]
    rcases Nat.lt_or_ge (i * k.size + j) (m * k.size) with h | h
    · rw [if_pos h]; exact hc
    · rw [if_neg (by omega), List.take_set, List.set_eq_of_length_le]
      · exact hc
      · rw [hlm]
        have h1 : m < i := by
          rcases Nat.lt_or_ge m i with h1 | h1
          · exact h1
          · have h2 : (i + 1) * k.size ≤ m * k.size := Nat.mul_le_mul_right _ (by omega)
            rw [Nat.succ_mul] at h2; omega
        have h2 : (m + 1) * k.size ≤ i * k.size := Nat.mul_le_mul_right _ h1
        rw [Nat.succ_mul] at h2
        omega
theorem SH.putK {α : Type} {k : Kd α} {g n c : Nat} {xs : List α} (s : SH F0 I0 w0 L w I) (m : Nat) (e : L[m]? = some (Row k (.slice (some ⟨g, 0, none⟩) n c) xs)) (i j : Nat) (hi : i < xs.length) (hj : j < k.size) (u : Value) (y : α) (hy : ∀ cs, k.rel w I xs[i] cs → k.rel w I y (cs.set j u)) :
    SH F0 I0 w0 (L.set m (Row k (.slice (some ⟨g, 0, none⟩) n c) (xs.set i y))) (w.setCell ⟨g, i * k.size + j, none⟩ u) I := by
  refine s.updI m e fun F ⟨⟨cells, ⟨ho, hnd⟩, hf⟩, hF⟩ hb => ?_
  have hn : xs.length = n := by
    rcases ho.2 with ⟨e, _⟩ | ⟨_, _, _, e, _⟩
    · cases e
    · cases e; rfl
  subst hn
  obtain ⟨s1, s2⟩ := ho.stored (i * k.size + j) u
  refine ⟨F, ⟨⟨cells.set (i * k.size + j) u, ⟨by rw [List.length_set]; exact s1, hnd⟩, ?_⟩, hF⟩, fun k' hk => ⟨by simpa [World.setCell] using (hb k' hk).1, .inl hk⟩, Chg.of_grown s2 fun g' e => hF g' e⟩
  refine (hf.set hi hj u y hy).keep fun b hb' hI => ?_
  exact Below.heap_setCell _ _ _ _ fun e => hnd g rfl (by
    have e' : g = b := e.symm
    rw [e']; exact hI)
theorem SH.nfzR {α : Type} {k : Kd α} {g n c : Nat} {xs : List α} (s : SH F0 I0 w0 L w I) (m : Nat) (e : L[m]? = some (Row k (.slice (some ⟨g, 0, none⟩) n c) xs)) (j : Nat) : w.frozen? ⟨g, j, none⟩ = false := (s.own m e).not_frozen j
/-- an object, told more closely -/
theorem SH.pick {α : Type} {h' : α → Ob} (s : SH F0 I0 w0 L w I) (i : Nat) (e : L[i]? = some h) (hh : ∀ F, h.sat w F I → ∃ x, (h' x).sat w F I) : ∃ x, SH F0 I0 w0 (L.set i (h' x)) w I := by
  obtain ⟨c, bd, ini, Fs, h1, h2, h3⟩ := s
  obtain ⟨x, hx⟩ := hh _ (h1 i h e)
  refine ⟨x, c, bd, ini, Fs, fun j o ej => ?_, h2, h3⟩
  by_cases hij : j = i
  · subst hij
    rw [List.getElem?_set_self (lt_of_get e)] at ej
    cases ej
    exact hx
  · rw [List.getElem?_set_ne (fun e => hij e.symm)] at ej
    exact h1 j o ej
/-! ### two objects as one -/
def Two (h1 h2 : Ob) : Ob := .of {
  sat := fun w F I => ∃ F1 F2, h1.sat w F1 I ∧ h2.sat w F2 I ∧ (∀ b, F1 b → F b ∧ ¬ F2 b) ∧ (∀ b, F2 b → F b)
  keep := fun ⟨F1, F2, a, b, c, d⟩ hk => ⟨F1, F2, h1.keep a fun b hb hd => hk b hb (hd.imp (fun h => (c b h).1) id), h2.keep b fun b hb hd => hk b hb (hd.imp (d b) id), c, d⟩
  weak := fun {w F F' I I'} ⟨F1, F2, a, b, c, d⟩ hf hi hn => ⟨fun x => F1 x ∧ x < w.heap.size, fun x => F2 x ∧ x < w.heap.size, h1.weak a (fun x hx h => ⟨h, hx⟩) hi (fun x h => hn x (hf x h.2 (c x h.1).1)), h2.weak b (fun x hx h => ⟨h, hx⟩) hi (fun x h => hn x (hf x h.2 (d x h.1))), fun x h => ⟨hf x h.2 (c x h.1).1, fun h' => (c x h.1).2 h'.1⟩, fun x h => hf x h.2 (d x h.1)⟩ }
theorem SH.fork {h1 h2 : Ob} (s : SH F0 I0 w0 L w I) (i : Nat) (e : L[i]? = some (Two h1 h2)) : SH F0 I0 w0 (h2 :: L.set i h1) w I := by
  obtain ⟨c, bd, ini, Fs, k1, k2, k3⟩ := s
  obtain ⟨F1, F2, a1, a2, a3, a4⟩ := k1 i _ e
  have hl := lt_of_get e
  refine ⟨c, bd, ini, fun j => match j with | 0 => F2 | j + 1 => if j = i then F1 else Fs j, fun j o ej => ?_, fun j b hb => ?_, fun j m b hjm hb hb' => ?_⟩
  · rcases j with _ | j
    · simp at ej; subst ej; exact a2
    · simp only [List.getElem?_cons_succ] at ej
      by_cases hij : j = i
      · subst hij
        rw [List.getElem?_set_self hl] at ej
        cases ej
        simp only [if_true]
        exact a1
      · rw [List.getElem?_set_ne (fun e => hij e.symm)] at ej
        simp only [if_neg hij]
        exact k1 j o ej
  · rcases j with _ | j
    · exact k2 i b (a4 b hb)
    · by_cases hij : j = i
      · simp only [if_pos hij] at hb; exact k2 i b (a3 b hb).1
      · simp only [if_neg hij] at hb; exact k2 j b hb
  · rcases j with _ | j
    · rcases m with _ | m
      · exact hjm rfl
      · by_cases hm : m = i
        · simp only [if_pos hm] at hb'; exact (a3 b hb').2 hb
        · simp only [if_neg hm] at hb'; exact k3 i m b (fun e => hm e.symm) (a4 b hb) hb'
    · by_cases hj : j = i
      · simp only [if_pos hj] at hb
        rcases m with _ | m
        · exact (a3 b hb).2 hb'
        · by_cases hm : m = i
          · exact hjm (by rw [hj, hm])
          · simp only [if_neg hm] at hb'; exact k3 i m b (fun e => hm e.symm) (a3 b hb).1 hb'
      · simp only [if_neg hj] at hb
        rcases m with _ | m
        · exact k3 j i b hj hb (a4 b hb')
        · by_cases hm : m = i
          · simp only [if_pos hm] at hb'; exact k3 j i b hj hb (a3 b hb').1
          · simp only [if_neg hm] at hb'; exact k3 j m b (fun e => hjm (by rw [e])) hb hb'
/-- what a call has changed, and made -/
theorem SH.ret2 {h1 h2 : Ob} (s : SH F0 I0 w0 L w I) (i j : Nat) (hij : i ≠ j) (e1 : L[i]? = some h1) (e2 : L[j]? = some h2) : Upd w0 F0 I0 w (Two h1 h2) := by
  obtain ⟨c, bd, ini, Fs, k1, k2, k3⟩ := s
  refine ⟨fun b => Fs i b ∨ Fs j b, I, ⟨Fs i, Fs j, k1 i h1 e1, k1 j h2 e2, fun b hb => ⟨.inl hb, fun hb' => k3 i j b hij hb hb'⟩, fun b hb => .inr hb⟩, fun b hb => ?_, fun b hb => ⟨bd b hb, ini b hb⟩, fun b hb hI => ?_, c⟩
  · rcases hb with hb | hb
    · exact ⟨(k2 i b hb).1, (k2 i b hb).2.1⟩
    · exact ⟨(k2 j b hb).1, (k2 j b hb).2.1⟩
  · rcases hb with hb | hb
    · exact (k2 i b hb).2.2 hI
    · exact (k2 j b hb).2.2 hI
/-- a call that is handed one object, and makes another -/
theorem SH.call2 (s : SH F0 I0 w0 L w I) (i : Nat) (e : L[i]? = some h) :
    ∃ F, (∀ b, I b → b < w.heap.size) ∧ SH F I w [h] w I ∧ ∀ (h1 h2 : Ob) (w' : World), Upd w F I w' (Two h1 h2) → ∃ I', SH F0 I0 w0 (h2 :: L.set i h1) w' I' ∧ (∀ b, I b → I' b) := by
  obtain ⟨F, hF, hb, back⟩ := s.upd i e
  refine ⟨F, s.bd, SH.start1 hF (fun b h => (hb b h).1) s.bd (fun b h h' => (hb b h).2.2 h'), fun h1 h2 w' u => ?_⟩
  obtain ⟨I', s', hI⟩ := back w' _ u
  have := s'.fork i (by rw [List.getElem?_set_self (lt_of_get e)])
  rw [List.set_set] at this
  exact ⟨I', this, hI⟩
end
end Go.Proofs.YtnmlonicfncpfaaGreat.X
