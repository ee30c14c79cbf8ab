/- An argument, read. -/
import Derived.Test.YtnmlonicfncpfaaGreatLib
import Derived.WalkKit
import Derived.ProofKit
import Derived.OpenShut
import Derived.ShutString
import Derived.ChangeOld
import Derived.Below
import Derived.SizedLaws
namespace Go.Proofs.YtnmlonicfncpfaaGreat.X
open Go.ChangeShapes Go.WideShapes Go.ChangeAt Go.RowKit
/-- whatever an argument of type t leads to, lies in the world, and reads so -/
def Opens (P : Program) (t : TypeId) {α : Type} (k : Kd α) : Prop :=
  ∀ (H : Type) (enc : TypeId × Value → H) (W : World) (sp : Nat → Bool) (held : Bool) (fuel : Nat) (cs : List Value) (x : DataW H × List MemPlace), DataW.trod enc P W 0 sp held fuel t cs = some x → ∃ y, k.rel W (fun b => b < W.heap.size) y cs
theorem opens_int {P : Program} {t : TypeId} {i : IntKind} (h : P.underlying t = some (.int i)) (e : TypeId) : Opens P t (Kd.int e i) := fun H enc W sp held fuel cs x hx => by
  obtain ⟨n, rfl, _⟩ := DataW.trod_int h hx
  exact ⟨n, rfl⟩
theorem plain_of_cell {W : World} {a : Addr} {v : Value} (h : W.cell? a = some v) : a = ⟨a.block, a.off, none⟩ := by
  rcases a with ⟨b, o, s⟩
  cases s with
  | none => rfl
  | some s =>
    exfalso
    unfold World.cell? at h
    split at h
    · simp at h
    · cases h
theorem opens_sl {P : Program} {t e : TypeId} {α : Type} {k : Kd α} (hu : P.underlying t = some (.slice e)) (hk : Opens P e k) (hc : P.cellsOf e = k.size) (h0 : 0 < k.size) (q : TypeId) : Opens P t (Kd.sl q k) := fun H enc W sp held fuel cs x hx => by
  rcases DataW.trod_slice hu hx with ⟨rfl, _⟩ | ⟨a, len, cap, elems, rest, n, _, rfl, _, _, hlc, _, hlen, hel, _⟩
  · exact ⟨[], none, 0, rfl, Nat.le_refl _, Sl.nil⟩
  · have each : ∀ i : Fin len, ∃ y cs', W.cells? 0 (a.add (i * k.size)) k.size = some cs' ∧ k.rel W (fun b => b < W.heap.size) y cs' := fun ⟨i, hi⟩ => by
      have hE := hel i hi
      rw [hc, List.getElem?_eq_getElem (by omega)] at hE
      simp only [Option.bind_eq_some_iff] at hE
      obtain ⟨cs', h1, h2⟩ := hE
      obtain ⟨y, hy⟩ := hk _ _ _ _ _ _ _ _ h2
      exact ⟨y, cs', h1, hy⟩
    obtain ⟨f, hf⟩ := Classical.axiomOfChoice each
    refine ⟨List.ofFn f, some a, cap, by rw [List.length_ofFn], by rw [List.length_ofFn]; exact hlc, fun i hi => ?_⟩
    rw [List.length_ofFn] at hi
    have cell : ∀ (i : Nat) (hi : i < len), ∀ cs', W.cells? 0 (a.add (i * k.size)) k.size = some cs' → cs'.length = k.size ∧ ∀ j u, cs'[j]? = some u → W.cell? ((a.add (i * k.size)).add j) = some u := fun i hi cs' h => by
      obtain ⟨_, h1, h2⟩ := World.cells?_some h
      refine ⟨h1, fun j u hj => ?_⟩
      have hjl : j < k.size := by rw [← h1]; exact (List.getElem?_eq_some_iff.1 hj).1
      rw [h2 j hjl]; exact hj
    obtain ⟨cs0, a1, a2⟩ := hf ⟨0, by omega⟩
    obtain ⟨cs1, b1, b2⟩ := hf ⟨i, hi⟩
    obtain ⟨l0, c0⟩ := cell 0 (by omega) cs0 a1
    obtain ⟨l1, c1⟩ := cell i hi cs1 b1
    have e0 : a = ⟨a.block, a.off, none⟩ := by
      have := c0 0 _ (List.getElem?_eq_getElem (by omega))
      have hp := plain_of_cell this
      simpa [Addr.add] using hp
    obtain ⟨ab, ao, rfl⟩ : ∃ ab ao, a = ⟨ab, ao, none⟩ := ⟨_, _, e0⟩
    have hadd : ∀ j, ((⟨ab, ao, none⟩ : Addr).add (i * k.size)).add j = ⟨ab, ao + i * k.size + j, none⟩ := fun j => by
      unfold Addr.add; (repeat' split) <;> simp_all
    have hw : W.cell? ⟨ab, ao + i * k.size + 0, none⟩ = some (cs1[0]'(by omega)) := by
      rw [← hadd 0]; exact c1 0 _ (List.getElem?_eq_getElem (by omega))
    have hlt : ab < W.heap.size := World.block_lt_of_cell? W _ hw
    refine ⟨ab, ao, cs1, rfl, hlt, hlt, by rw [List.getElem_ofFn]; exact b2, l1, fun j u hj => ?_⟩
    rw [← hadd j]; exact c1 j u hj
end Go.Proofs.YtnmlonicfncpfaaGreat.X
