/- The first items of a row, as a slice. -/
import Derived.Test.YtnmlonicfncpfaaGreatCut
namespace Go.Proofs.YtnmlonicfncpfaaGreat.X
open Go.RowKit
theorem Sl.cutF {P : Program} {t : TypeId} {bytes : Nat} {α : Type} {k : Kd α} {w : World} {D : Nat → Prop} {A : Option Addr} {xs : List α} (T : TyOk P t k bytes) (h : Sl k w D A xs) {l c : Nat} (hl : l ≤ xs.length) (hc : xs.length ≤ c) :
    ∃ A', (∀ W, (Instr.sliceAt t (.slice A xs.length c) none (some (.int .i64 (l : Int))) none).run P W = .ok (.slice A' l c) W) ∧ Sl k w D A' (xs.take l) := by
  obtain ⟨i, z, h1, h2, h3, h4, h5⟩ := T.inf
  have he : P.elem t = k.ety := by simp [Program.elem, T.und]
  have hu : P.underlying t = some (.slice (P.elem t)) := by rw [he]; exact T.und
  have hS := h.cut (l := 0) (hi := l) (c := c) hl (by omega)
  rw [List.drop_zero] at hS
  refine ⟨_, fun W => ?_, hS⟩
  rw [run_sliceAt_slice W t _ _ _ _ hu, run_slice_h W t A xs.length c hu .i64 l (by omega) (by omega)]
  simp [sizeOf, typeInfo, he, h1, h3, sliced, Result.andThen]
end Go.Proofs.YtnmlonicfncpfaaGreat.X
