/- A slice's head. -/
import Derived.Test.YthmcefalaieigaaCut
namespace Go.Proofs.Ythmcefalaieigaa.X
open Go.RowKit
section
variable {P : Program} {α : Type} {k : Kd α} {t : TypeId} {bytes : Nat} {ops : Array Oper} {rest : List Oper} {o : Oper} {a : Act} {w : World} {Q : Exit → Act → World → Prop}
/-- 'xs[:hi]' -/
theorem wpList_cutR (hgd : o.guard = none) (T : TyOk P t k bytes) (x hi : Operand) (ho : o.op = .slice t x none (some hi) none) (D : Nat → Prop) (A : Option Addr) (c l : Nat) (xs : List α) (hx : a.eval x = .slice A xs.length c) (hhi : a.eval hi = .int .i64 (l : Int)) (hl : l ≤ xs.length) (hc : xs.length ≤ c) (hs : As (Sl k w D A xs))
    (h : ∀ A', As (Sl k w D A' (xs.take l)) → wpList P ops Q rest (a.put o.dst (.slice A' (xs.take l).length c)) w) : wpList P ops Q (o :: rest) a w := by
  refine wpList_plain hgd fun K hK => ?_
  obtain ⟨i, z, h1, h2, h3, h4, h5⟩ := T.inf
  have he : P.elem t = k.ety := by simp [Program.elem, T.und]
  have hu : P.underlying t = some (.slice (P.elem t)) := by rw [he]; exact T.und
  have hrun : (Instr.sliceAt t (.slice A xs.length c) none (some (.int .i64 (l : Int))) none).run P w = .ok (.slice (if c = 0 then A else A.map (·.add (0 * k.size))) l c) w := by
    rw [run_sliceAt_slice w t _ _ _ _ hu, run_slice_h w t A xs.length c hu .i64 l (by omega) (by omega)]
    simp [sizeOf, typeInfo, he, h1, h3, sliced, Result.andThen]
  have hS := hs.out.cut (l := 0) (hi := l) (c := c) hl (by omega)
  rw [List.drop_zero] at hS
  unfold Oper.wp execOp
  simp only [ho, Option.map_some, Option.map_none, hx, hhi, hrun, Sem.run_bind, Sem.run_pure, Result.andThen_ok]
  have := h _ ⟨hS⟩
  rw [List.length_take, Nat.min_eq_left hl] at this
  exact hK _ _ this
end
end Go.Proofs.Ythmcefalaieigaa.X
