/- A slice cut: it reads as the part. -/
import Derived.Test.YtnmlonicfncpfaaGreatLib
namespace Go.Proofs.YtnmlonicfncpfaaGreat.X
open Go.RowKit
theorem Sl.cut {α : Type} {k : Kd α} {w : World} {D : Nat → Prop} {A : Option Addr} {xs : List α} (h : Sl k w D A xs) {l hi c : Nat} (h2 : hi ≤ xs.length) (hc : hi ≤ c) :
    Sl k w D (if c = l then A else A.map (·.add (l * k.size))) ((xs.take hi).drop l) := by
  split
  · have : (xs.take hi).drop l = [] := List.drop_of_length_le (by rw [List.length_take]; omega)
    rw [this]; exact Sl.nil
  · intro i hi'
    rw [List.length_drop, List.length_take] at hi'
    obtain ⟨b, o, cs, rfl, hb, hd, hr, hl, hcc⟩ := h (l + i) (by omega)
    refine ⟨b, o + l * k.size, cs, ?_, hb, hd, ?_, hl, fun j u hj => ?_⟩
    · show some ((⟨b, o, none⟩ : Addr).add (l * k.size)) = _
      unfold Addr.add; split <;> simp_all
    · rw [List.getElem_drop, List.getElem_take]; exact hr
    · have := hcc j u hj
      rw [← this, show o + l * k.size + i * k.size + j = o + (l + i) * k.size + j from by rw [Nat.add_mul]; omega]
section
variable {P : Program} {α : Type} {k : Kd α} {t : TypeId} {bytes : Nat} {ops : Array Oper} {rest : List Oper} {o : Oper} {a : Act} {w : World} {Q : Exit → Act → World → Prop}
/-- 'xs[lo:]' -/
theorem wpList_cutL (hgd : o.guard = none) (T : TyOk P t k bytes) (x lo : Operand) (ho : o.op = .slice t x (some lo) none none) (D : Nat → Prop) (A : Option Addr) (c l : Nat) (xs : List α) (hx : a.eval x = .slice A xs.length c) (hlo : a.eval lo = .int .i64 (l : Int)) (hl : l ≤ xs.length) (hc : xs.length ≤ c) (hs : As (Sl k w D A xs))
    (h : ∀ A', As (Sl k w D A' (xs.drop l)) → wpList P ops Q rest (a.put o.dst (.slice A' (xs.drop l).length (c - l))) w) : wpList P ops Q (o :: rest) a w := by
  refine wpList_plain hgd fun K hK => ?_
  obtain ⟨i, z, h1, h2, h3, h4, h5⟩ := T.inf
  have he : P.elem t = k.ety := by simp [Program.elem, T.und]
  have hu : P.underlying t = some (.slice (P.elem t)) := by rw [he]; exact T.und
  have hrun : (Instr.sliceAt t (.slice A xs.length c) (some (.int .i64 (l : Int))) none none).run P w = .ok (.slice (if c = l then A else A.map (·.add (l * k.size))) (xs.length - l) (c - l)) w := by
    rw [run_sliceAt_slice w t _ _ _ _ hu, run_slice_l w t A xs.length c hu .i64 l (by omega) (by omega)]
    simp [sizeOf, typeInfo, he, h1, h3, sliced, Result.andThen]
  have hS := hs.out.cut (l := l) (hi := xs.length) (c := c) (Nat.le_refl _) hc
  rw [List.take_length] at hS
  unfold Oper.wp execOp
  simp only [ho, Option.map_some, Option.map_none, hx, hlo, hrun, Sem.run_bind, Sem.run_pure, Result.andThen_ok]
  have := h _ ⟨hS⟩
  rw [List.length_drop] at this
  exact hK _ _ this
end
end Go.Proofs.YtnmlonicfncpfaaGreat.X
