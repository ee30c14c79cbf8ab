/- An argument's words, read. -/
import Derived.Test.YthmcefalaieigaaRows
import Derived.Test.YthmcefalaieigaaRef3
import Derived.WalkKit
import Derived.ProofKit
import Derived.OpenShut
import Derived.ShutString
import Derived.ChangeOld
import Derived.Below
import Derived.SizedLaws
namespace Go.Proofs.Ythmcefalaieigaa
open Go.ChangeShapes Go.WideShapes Go.ChangeAt Go.RowKit X
theorem own : ownKnob Try.prog.godebug = none := by kernel_rfl
theorem laidOut : laidOutB Try.prog = true := by kernel_rfl
section
variable {H : Type} {enc : TypeId × Value → H} {W : World} {base : Nat} {sp : Nat → Bool} {held : Bool}
theorem arow_of {fuel : Nat} {cs : List Value} {x : DataW H × List MemPlace} (h : DataW.trod enc Try.prog W base sp held fuel 38 cs = some x) : ∃ A c xs, cs = [.slice A xs.length c] ∧ ARow W A xs := by
  rcases open_ints Try.underlying38 Try.underlying24 (by kernel_rfl) h with ⟨hcs, _⟩ | ⟨a, l, c, zs, hcs, _, hl, _, hz, _, hcell, _⟩
  · exact ⟨none, 0, [], hcs, fun i hi => absurd hi (Nat.not_lt_zero i)⟩
  · have hlz : l ≤ zs.length := by rw [hz]; split <;> omega
    have e : (zs.take l).length = l := by rw [List.length_take]; omega
    refine ⟨some a, c, zs.take l, by rw [e]; exact hcs, fun i hi => ⟨a, rfl, ?_⟩⟩
    rw [e] at hi
    rw [hcell i (by omega), List.getElem_take, List.getD_eq_getElem?_getD, List.getElem?_eq_getElem (by omega)]; rfl
theorem arows_of {fuel : Nat} {cs : List Value} {x : DataW H × List MemPlace} (h : DataW.trod enc Try.prog W base sp held fuel 22 cs = some x) : ∃ A c ls, cs = [.slice A ls.length c] ∧ ARows W A ls := by
  have hc1 : Try.prog.cellsOf 38 = 1 := by kernel_rfl
  rcases DataW.trod_slice Try.underlying22 h with ⟨hcs, _⟩ | ⟨a, len, cap, elems, rest, n, _, hcs, _, _, _, _, hlen, hel, _⟩
  · exact ⟨none, 0, [], hcs, fun i hi => absurd hi (Nat.not_lt_zero i)⟩
  · have each : ∀ i : Fin len, ∃ xs : List Int, ∃ A' c', W.cell? (a.add i) = some (.slice A' xs.length c') ∧ ARow W A' xs := fun ⟨i, hi⟩ => by
      have hE := hel i hi
      rw [hc1, Nat.mul_one] at hE
      rw [List.getElem?_eq_getElem (by omega)] at hE
      simp only [Option.bind_eq_some_iff] at hE
      obtain ⟨cs', hcs', ht⟩ := hE
      obtain ⟨A', c', xs, rfl, hr⟩ := arow_of ht
      exact ⟨xs, A', c', cell_of_cells?_one hcs', hr⟩
    obtain ⟨f, hf⟩ := Classical.axiomOfChoice each
    refine ⟨some a, cap, List.ofFn f, by rw [List.length_ofFn]; exact hcs, fun i hi => ?_⟩
    rw [List.length_ofFn] at hi
    obtain ⟨A', c', h1, h2⟩ := hf ⟨i, hi⟩
    have e : (List.ofFn f)[i]'(by rw [List.length_ofFn]; exact hi) = f ⟨i, hi⟩ := by rw [List.getElem_ofFn]
    rw [e]
    exact ⟨a, A', c', rfl, h1, h2⟩
end
end Go.Proofs.Ythmcefalaieigaa
