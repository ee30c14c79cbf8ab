/- A row sorted by the library: elements of several cells. -/
import Derived.Test.YteaekpnmiicbhaaSep3
import Derived.Shelf.SlSortCmp.NoneTotal
namespace Go.Proofs.Yteaekpnmiicbhaa.X
open Go.RowKit Go.Sort
set_option linter.unusedVariables false
set_option linter.unusedSimpArgs false
theorem flat_len {α : Type} [Inhabited α] (enc : α → List Value) (k : Nat) (xs : List α) : (flatK enc k xs.toArray).size = xs.length * k := by simp
theorem flat_get {α : Type} [Inhabited α] (enc : α → List Value) (k : Nat) (hk : ∀ x, (enc x).length = k) (xs : List α) (i j : Nat) (hi : i < xs.length) (hj : j < k) : (flatK enc k xs.toArray)[i * k + j]! = ((enc xs[i])[j]'(by rw [hk]; exact hj)) := by
  have hlt : i * k + j < xs.length * k := by
    have : (i + 1) * k ≤ xs.length * k := Nat.mul_le_mul_right _ hi
    rw [Nat.add_mul, Nat.one_mul] at this
    omega
  rw [get_flatK _ _ _ _ (by simpa using hlt)]
  have h1 : (i * k + j) / k = i := by rw [Nat.mul_comm, Nat.mul_add_div (by omega), Nat.div_eq_of_lt hj, Nat.add_zero]
  have h2 : (i * k + j) % k = j := by rw [Nat.mul_comm, Nat.mul_add_mod, Nat.mod_eq_of_lt hj]
  rw [h1, h2]
  have e : xs.toArray[i]! = xs[i] := by simp [hi]
  rw [e]
  exact getElem!_pos _ _ (by rw [hk]; exact hj)
section
variable {F0 I0 : Fp} {w0 w : World} {L : List Ob} {I : Fp} {α : Type} [Inhabited α] {k : Kd α} {enc : α → List Value}
theorem holdsK_of (hrel : ∀ w D x cs, k.rel w D x cs ↔ cs = enc x) (hk : ∀ x, (enc x).length = k.size) (h0 : 0 < k.size) {g n c : Nat} {xs : List α} (S : SH F0 I0 w0 L w I) (i : Nat) (e : L[i]? = some (Row k (.slice (some ⟨g, 0, none⟩) n c) xs)) : HoldsK enc k.size w g 0 xs.toArray := by
  intro j hj
  rw [flat_len] at hj
  obtain ⟨A, c', e1, -, hs⟩ := S.row i e
  have hd : j / k.size < xs.length := by rw [Nat.div_lt_iff_lt_mul h0]; exact hj
  have hm : j % k.size < k.size := Nat.mod_lt _ h0
  obtain ⟨b, o, cs, e2, -, -, hr, hl, hc⟩ := hs _ hd
  rw [hrel] at hr
  subst hr
  subst e2
  rw [Value.slice.injEq] at e1
  obtain ⟨e3, -, -⟩ := e1
  cases e3
  have hj2 : j / k.size * k.size + j % k.size = j := by rw [Nat.mul_comm]; exact Nat.div_add_mod j k.size
  refine ⟨?_, (S.own i e).not_frozen _⟩
  have h2 := hc (j % k.size) _ (List.getElem?_eq_getElem (by rw [hl]; exact hm))
  rw [← flat_get enc k.size hk xs (j / k.size) (j % k.size) hd hm] at h2
  rw [Nat.add_assoc, hj2] at h2
  exact h2
theorem heap_sortedK {w : World} {g m : Nat} {os : Array Obj} {cur : Array Value} {e : TypeId} {fr : Nat × Nat} (d : Array Value) (hb : w.heap[g]? = some (.cells cur e fr)) :
    (grow (putRow id (Sort.ahead w m) g 0 d) os).heap[g]? = some (.cells (putCells id 0 d cur) e fr) := by
  have hg : g < w.heap.size := (Array.getElem?_eq_some_iff.1 hb).1
  rw [heap_grow_old _ _ (by simpa using hg)]
  simp [putRow, mapBlock, Sort.ahead, Array.getElem?_modify, hb, onCells]
theorem grownBy_sortedK {w : World} {g m : Nat} {os : Array Obj} (d : Array Value) : w.grownBy (grow (putRow id (Sort.ahead w m) g 0 d) os) (some g) := by
  refine ⟨rfl, rfl, rfl, by simp, fun k hk hne => ?_⟩
  rw [heap_grow_old _ _ (by simpa using hk)]
  have : g ≠ k := fun e => hne (by rw [e])
  simp [putRow, mapBlock, Sort.ahead, Array.getElem?_modify, this]
theorem take_putCellsK (cur d : Array Value) (h : d.size ≤ cur.size) : (putCells id 0 d cur).toList.take d.size = d.toList := by
  apply List.ext_getElem?
  intro j
  by_cases hj : j < d.size
  · rw [List.getElem?_take_of_lt hj, Array.getElem?_toList]
    simp [putCells, hj, show j < cur.size by omega]
  · rw [List.getElem?_take_eq_none (by omega), List.getElem?_eq_none (by simp; omega)]
theorem SH.sortedK (hrel : ∀ w D x cs, k.rel w D x cs ↔ cs = enc x) (hk : ∀ x, (enc x).length = k.size) (h0 : 0 < k.size) {g n c : Nat} {xs : List α} (S : SH F0 I0 w0 L w I) (i : Nat) (e : L[i]? = some (Row k (.slice (some ⟨g, 0, none⟩) n c) xs)) (ts : List α) (hts : ts.length = xs.length) (m : Nat) (os : Array Obj) :
    SH F0 I0 w0 (L.set i (Row k (.slice (some ⟨g, 0, none⟩) n c) ts)) (sortWorldK enc k.size w g 0 m ts.toArray os) I := by
  obtain ⟨cells, ⟨ho, hnb⟩, hf⟩ := S.own i e
  rcases ho.2 with ⟨hv, _⟩ | ⟨g', cap, cur, hv, hbase, hh, hle, hmax, hsize, htake⟩
  · cases hv
  rw [Value.slice.injEq] at hv
  obtain ⟨e1, rfl, rfl⟩ := hv
  cases e1
  have hfl : (flatK enc k.size ts.toArray).size = xs.length * k.size := by rw [flat_len, hts]
  have hcs : (flatK enc k.size ts.toArray).size ≤ cur.size := by rw [hfl, hsize]; exact Nat.mul_le_mul_right _ hle
  refine S.app i e ⟨(flatK enc k.size ts.toArray).toList, ⟨⟨?_, .inr ⟨g, _, _, ?_, hbase, heap_sortedK _ hh, by rw [hts]; exact hle, hmax, ?_, ?_⟩⟩, hnb⟩, ?_⟩ (grownBy_sortedK _) (.inl rfl)
  · rw [Array.length_toList, hfl, hts]
  · rw [hts]
  · simp [putCells, hsize]
  · rw [hts, ← hfl]
    exact take_putCellsK cur _ hcs
  · refine ⟨by rw [Array.length_toList, flat_len], fun j hj => ?_⟩
    rw [hrel]
    apply List.ext_getElem?
    intro t
    by_cases ht : t < k.size
    · have hlt : j * k.size + t < (flatK enc k.size ts.toArray).size := by
        rw [flat_len]
        have : (j + 1) * k.size ≤ ts.length * k.size := Nat.mul_le_mul_right _ hj
        rw [Nat.add_mul, Nat.one_mul] at this
        omega
      rw [List.getElem?_take_of_lt ht, List.getElem?_drop, Array.getElem?_toList, Array.getElem?_eq_getElem hlt, List.getElem?_eq_getElem (by rw [hk]; exact ht)]
      congr 1
      rw [← flat_get enc k.size hk ts j t hj ht]
      exact (getElem!_pos (flatK enc k.size ts.toArray) (j * k.size + t) hlt).symm
    · rw [List.getElem?_take_eq_none (by omega), List.getElem?_eq_none (by rw [hk]; omega)]
end
end Go.Proofs.Yteaekpnmiicbhaa.X
