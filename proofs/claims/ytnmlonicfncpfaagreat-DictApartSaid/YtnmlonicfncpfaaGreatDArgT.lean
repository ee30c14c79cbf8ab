/- What a law's arguments are: what templates are made of. -/
import Derived.Test.YtnmlonicfncpfaaGreatDArgG
import Derived.Test.YtnmlonicfncpfaaGreatZGoodT
namespace Go.Proofs.YtnmlonicfncpfaaGreat.X
open Go.ChangeShapes Go.WideShapes Go.ChangeAt Go.RowKit
theorem six_of {cs xs : List Value} {y : Value} (hl : cs.length = 6) (hx : (cs.drop 0).take 5 = xs) (hy : (cs.drop 5).take 1 = [y]) : cs = xs ++ [y] := by
  rcases cs with _ | ⟨x0, _ | ⟨x1, _ | ⟨x2, _ | ⟨x3, _ | ⟨x4, _ | ⟨x5, _ | ⟨x6, r⟩⟩⟩⟩⟩⟩⟩ <;> simp at hl
  simp at hx hy
  subst hx hy
  rfl
theorem opens_gt {P : Program} {t tg ts : TypeId} {f0 f1 : Field} {q q' e2 : TypeId} (ht : P.underlying t = some (.struct #[f0, f1])) (hg : Opens P tg (Kd.rg q e2)) (hs : Opens P ts (Kd.sl q' (Kd.io e2)))
    (ef : (f0.type = tg ∧ f0.offset = 0) ∧ (f1.type = ts ∧ f1.offset = 5)) (c6 : P.cellsOf t = 6) (cg : P.cellsOf tg = 5) (cs1 : P.cellsOf ts = 1) (e : TypeId) : Opens P t (Kd.gt e e2) := fun H enc W sp held fuel cs x hx => by
  obtain ⟨⟨a1, a2⟩, ⟨b1, b2⟩⟩ := ef
  obtain ⟨xs, n, _, _, hl, hlen, hf⟩ := DataW.trod_struct ht hx
  rw [c6] at hl
  have y0 := hf 0 f0 rfl
  have y1 := hf 1 f1 rfl
  rw [List.getElem?_eq_getElem (by rw [hlen]; simp)] at y0 y1
  rw [a1, a2, cg] at y0
  rw [b1, b2, cs1] at y1
  obtain ⟨g, A, c, q0, ⟨hc, hS⟩, r1, r2, r3⟩ := hg _ _ _ _ _ _ _ _ y0
  obtain ⟨l, B, d, q1, hd, hT⟩ := hs _ _ _ _ _ _ _ _ y1
  exact ⟨⟨g, l⟩, A, c, B, d, six_of hl q0 q1, ⟨hc, hS⟩, ⟨hd, hT⟩, r1, r2, r3⟩
end Go.Proofs.YtnmlonicfncpfaaGreat.X
namespace Go.Proofs.YtnmlonicfncpfaaGreat
open Go.RowKit X
theorem o_ygt : Opens Tryz.prog 62 kgt := opens_gt Tryz.underlying62 o_yg o_ints ⟨⟨rfl, rfl⟩, rfl, rfl⟩ (by kernel_rfl) (by kernel_rfl) (by kernel_rfl) 62
theorem o_ygts : Opens Tryz.prog 22 (Kd.sl 22 kgt) := opens_sl Tryz.underlying22 o_ygt (by kernel_rfl) (by decide) 22
end Go.Proofs.YtnmlonicfncpfaaGreat
