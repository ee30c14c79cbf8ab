/- A row cut; its end cleared; an element stored. -/
import Derived.Test.YteaekpnmiicbhaaSep3
import Derived.Test.YteaekpnmiicbhaaCut
namespace Go.Proofs.Yteaekpnmiicbhaa.X
open Go.RowKit
set_option linter.unusedVariables false
set_option linter.unusedSimpArgs false
section
variable {F0 I0 : Fp} {w0 w : World} {L : List Ob} {I : Fp} {α : Type} {k : Kd α} {P : Program} {t : TypeId} {bytes : Nat}
theorem Own.cutR {B : Nat} {D : Fp} {g n c : Nat} {xs : List α} (h : Own k w B D (.slice (some ⟨g, 0, none⟩) n c) xs) (m : Nat) (hm : m ≤ xs.length) : Own k w B D (.slice (some ⟨g, 0, none⟩) m c) (xs.take m) := by
  obtain ⟨cells, ⟨ho, hn⟩, hf⟩ := h
  rcases ho.2 with ⟨e, _⟩ | ⟨g', cap, cur, e, hb, hh, hle, hmax, hsz, htk⟩
  · cases e
  rw [Value.slice.injEq] at e
  obtain ⟨e1, e2, rfl⟩ := e
  cases e1
  have hml : (xs.take m).length = m := by rw [List.length_take]; omega
  refine ⟨cells.take (m * k.size), ⟨⟨?_, .inr ⟨g, c, cur, by rw [hml], hb, hh, by rw [hml]; omega, hmax, hsz, ?_⟩⟩, hn⟩, ?_, fun i hi => ?_⟩
  · rw [List.length_take, hf.1, hml]
    exact Nat.min_eq_left (Nat.mul_le_mul_right _ hm)
  · rw [hml, ← htk, List.take_take, Nat.min_eq_left (Nat.mul_le_mul_right _ hm)]
  · rw [List.length_take, hf.1, hml]
    exact Nat.min_eq_left (Nat.mul_le_mul_right _ hm)
  · rw [hml] at hi
    have h2 := hf.2 i (by omega)
    rw [List.getElem_take]
    have e3 : ((cells.take (m * k.size)).drop (i * k.size)).take k.size = (cells.drop (i * k.size)).take k.size := by
      have h3 : (i + 1) * k.size ≤ m * k.size := Nat.mul_le_mul_right _ hi
      rw [Nat.add_mul, Nat.one_mul] at h3
      rw [List.drop_take, List.take_take, Nat.min_eq_left (by omega)]
    rw [e3]
    exact h2
theorem SH.cutRow {g n c : Nat} {xs : List α} (s : SH F0 I0 w0 L w I) (i : Nat) (e : L[i]? = some (Row k (.slice (some ⟨g, 0, none⟩) n c) xs)) (m : Nat) (hm : m ≤ xs.length) : SH F0 I0 w0 (L.set i (Row k (.slice (some ⟨g, 0, none⟩) m c) (xs.take m))) w I :=
  s.updI i e fun F ⟨h, hF⟩ hb => ⟨F, ⟨h.cutR m hm, fun g' hg' => hF g' hg'⟩, fun b hbF => ⟨(hb b hbF).1, .inl hbF⟩, Chg.refl _ _⟩
/-- the run of 'xs[l:]', its address told -/
theorem run_cutG (T : TyOk P t k bytes) (g o n c l : Nat) (hl : l ≤ n) (hc : n ≤ c) (hlc : l < c) (W : World) : (Instr.sliceAt t (.slice (some ⟨g, o, none⟩) n c) (some (.int .i64 (l : Int))) none none).run P W = .ok (.slice (some ⟨g, o + l * k.size, none⟩) (n - l) (c - l)) W := by
  obtain ⟨i, z, h1, h2, h3, h4, h5⟩ := T.inf
  have he : P.elem t = k.ety := by simp [Program.elem, T.und]
  have hu : P.underlying t = some (.slice (P.elem t)) := by rw [he]; exact T.und
  have hne : ¬ c = l := by omega
  have hadd : (⟨g, o, none⟩ : Addr).add (l * k.size) = ⟨g, o + l * k.size, none⟩ := by unfold Addr.add; split <;> simp_all
  rw [run_sliceAt_slice W t _ _ _ _ hu, run_slice_l W t _ n c hu .i64 l (by omega) (by omega)]
  simp [sizeOf, typeInfo, he, h1, h3, sliced, Result.andThen, hne, hadd]
/-- the run of 'xs[:h]', its address told -/
theorem run_cutH (T : TyOk P t k bytes) (g o n c h : Nat) (hh : h ≤ n) (hc : n ≤ c) (W : World) : (Instr.sliceAt t (.slice (some ⟨g, o, none⟩) n c) none (some (.int .i64 (h : Int))) none).run P W = .ok (.slice (some ⟨g, o, none⟩) h c) W := by
  obtain ⟨i, z, h1, h2, h3, h4, h5⟩ := T.inf
  have he : P.elem t = k.ety := by simp [Program.elem, T.und]
  have hu : P.underlying t = some (.slice (P.elem t)) := by rw [he]; exact T.und
  have hadd : (⟨g, o, none⟩ : Addr).add 0 = ⟨g, o, none⟩ := by unfold Addr.add; split <;> simp_all
  rw [run_sliceAt_slice W t _ _ _ _ hu, run_slice_h W t _ n c hu .i64 h (by omega) (by omega)]
  simp [sizeOf, typeInfo, he, h1, h3, sliced, Result.andThen, hadd]
/-- the run of 'clear(xs[m:])' -/
theorem run_clearG (T : TyOk P t k bytes) {z : Value} (hz : ∀ w, (zeroValue k.ety).run P w = .ok z w) (hzs : z.cells.size = k.size) (hz1 : ∀ v ∈ z.cells.toList, v.oneCell' = true) (ty : TypeId) {B : Nat} {D : Fp} {g n c c' : Nat} {xs : List α} (h : Own k w B D (.slice (some ⟨g, 0, none⟩) n c) xs) (m : Nat) (hm : m < xs.length) :
    ∃ w', (Builtin.clear_ #[t] ty #[.slice (some ⟨g, m * k.size, none⟩) (n - m) c']).run P w = .ok (.tuple #[]) w' ∧ Own k w' B D (.slice (some ⟨g, 0, none⟩) m c) (xs.take m) ∧ w.grownBy w' (some g) := by
  obtain ⟨cells', ⟨ho', hn'⟩, hf'⟩ := h.cutR m (by omega)
  obtain ⟨cells, ⟨ho, hn⟩, hf⟩ := h
  rcases ho.2 with ⟨e, _⟩ | ⟨g', cap, cur, e, hb, hh, hle, hmax, hsz, htk⟩
  · cases e
  rw [Value.slice.injEq] at e
  obtain ⟨e1, e2, rfl⟩ := e
  subst e2
  cases e1
  have hml : (xs.take m).length = m := by rw [List.length_take]; omega
  have htk' : cur.toList.take (m * k.size) = cells' := by
    rcases ho'.2 with ⟨e, _⟩ | ⟨g2, cap2, cur2, e, _, hh2, _, _, _, htk2⟩
    · cases e
    · rw [Value.slice.injEq] at e
      obtain ⟨e1, -, -⟩ := e
      cases e1
      rw [hh] at hh2
      cases hh2
      rw [hml] at htk2
      exact htk2
  obtain ⟨q, hq⟩ : ∃ q, xs.length - m = q + 1 := ⟨xs.length - m - 1, by omega⟩
  obtain ⟨Z, hZ⟩ : ∃ Z, (Builtin.zeroCells z.cells (xs.length - m)).toList = Z := ⟨_, rfl⟩
  have hzl : Z.length = (xs.length - m) * k.size := by rw [← hZ, Array.length_toList, size_zeroCells, hzs]
  have hzone : ∀ v ∈ Z, v.oneCell' = true := fun v hv => by
    rw [← hZ] at hv
    simp only [Builtin.zeroCells, Array.toList_map, List.mem_map] at hv
    obtain ⟨i, hi, rfl⟩ := hv
    have hp := T.pos
    have hlt : i % z.cells.size < z.cells.size := Nat.mod_lt _ (by omega)
    rw [getElem!_pos z.cells _ hlt]
    exact hz1 _ (by simp)
  have hmk : m * k.size + (xs.length - m) * k.size = xs.length * k.size := by rw [← Nat.add_mul]; congr 1; omega
  have hcs : xs.length * k.size ≤ cur.size := by rw [hsz]; exact Nat.mul_le_mul_right _ hle
  have hst := run_storeCells_at (P := P) g (m * k.size) k.ety Z 0 cur w hh (by rw [hzl]; omega) hzone
  obtain ⟨W, hW⟩ : ∃ W, w.setRow g (cur.toList.take (m * k.size + 0) ++ Z ++ cur.toList.drop (m * k.size + 0 + Z.length)).toArray = W := ⟨_, rfl⟩
  have hWh : W.heap[g]? = some (.cells (cur.toList.take (m * k.size + 0) ++ Z ++ cur.toList.drop (m * k.size + 0 + Z.length)).toArray k.ety (0, 0)) := by rw [← hW]; exact setRow_heap w g cur _ k.ety _ hh
  have hWo : ∀ j, j ≠ g → W.heap[j]? = w.heap[j]? := fun j hj => by rw [← hW]; exact setRow_other w g j _ hj
  rw [hW] at hst
  have hrun : (Builtin.clear_ #[t] ty #[.slice (some ⟨g, m * k.size, none⟩) (xs.length - m) c']).run P w = .ok (.tuple #[]) W := by
    have hd := T.und
    rw [hq] at hZ ⊢
    simp [Builtin.clear_, run_underlying hd, hz, hZ, hst]
  refine ⟨W, hrun, ⟨cells', ⟨⟨ho'.1, .inr ⟨g, c, _, by rw [hml], hb, hWh, by rw [hml]; omega, hmax, ?_, ?_⟩⟩, hn⟩, hf'.keep fun b _ hD => hWo b fun e => hn g rfl (e ▸ hD)⟩, ⟨by rw [← hW]; rfl, by rw [← hW]; rfl, by rw [← hW]; rfl, by rw [← hW]; simp [World.setRow], fun j _ hj => hWo j (fun e => hj (by rw [e]))⟩⟩
  · simp only [List.size_toArray, List.length_append, List.length_take, List.length_drop, Array.length_toList]
    omega
  · rw [hml, Nat.add_zero, List.append_assoc, List.take_append_of_le_length (by rw [List.length_take, Array.length_toList]; omega), List.take_take, Nat.min_self]
    exact htk'
end
end Go.Proofs.Yteaekpnmiicbhaa.X
