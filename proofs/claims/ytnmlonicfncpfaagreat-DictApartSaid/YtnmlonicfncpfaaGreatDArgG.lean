/- What a law's arguments are: what images, and templates, are made of. -/
import Derived.Test.YtnmlonicfncpfaaGreatDArg
import Derived.Test.YtnmlonicfncpfaaGreatDGdA
namespace Go.Proofs.YtnmlonicfncpfaaGreat.X
open Go.ChangeShapes Go.WideShapes Go.ChangeAt Go.RowKit
theorem trod_i64 {P : Program} {H : Type} {enc : TypeId × Value → H} {W : World} {sp : Nat → Bool} {held : Bool} {fuel : Nat} {t : TypeId} {cs : List Value} {x : DataW H × List MemPlace} (h : P.underlying t = some (.int .i64)) (hx : DataW.trod enc P W 0 sp held fuel t cs = some x) : ∃ n, cs = [.int .i64 n] ∧ I64 n := by
  obtain ⟨n, rfl, _, hw⟩ := DataW.trod_int h hx
  have hr : -9223372036854775808 ≤ n ∧ n ≤ 9223372036854775807 := by simpa [Lit.wf, IntKind.signed, IntKind.bits, IntKind.min, IntKind.max] using hw
  exact ⟨n, rfl, hr⟩
theorem opens_io {P : Program} {t : TypeId} (h : P.underlying t = some (.int .i64)) (e : TypeId) : Opens P t (Kd.io e) := fun _ _ _ _ _ _ _ _ hx => trod_i64 h hx
theorem one_of {cs : List Value} {i : Nat} {v : Value} (h : (cs.drop i).take 1 = [v]) : cs[i]? = some v := by
  have := congrArg (fun l => l[0]?) h
  simpa using this
theorem five_of {cs : List Value} {a b c d e : Value} (hl : cs.length = 5) (h0 : cs[0]? = some a) (h1 : cs[1]? = some b) (h2 : cs[2]? = some c) (h3 : cs[3]? = some d) (h4 : cs[4]? = some e) : cs = [a, b, c, d, e] := by
  rcases cs with _ | ⟨x0, _ | ⟨x1, _ | ⟨x2, _ | ⟨x3, _ | ⟨x4, _ | ⟨x5, r⟩⟩⟩⟩⟩⟩ <;> simp at hl
  simp at h0 h1 h2 h3 h4
  subst h0 h1 h2 h3 h4
  rfl
theorem opens_rg {P : Program} {t tb ti ts : TypeId} {f0 f1 f2 f3 f4 : Field} (ht : P.underlying t = some (.struct #[f0, f1, f2, f3, f4])) (hb : P.underlying tb = some .bool) (hi : P.underlying ti = some (.int .i64)) {q e2 : TypeId} (hs : Opens P ts (Kd.sl q (Kd.io e2)))
    (ef : (f0.type = tb ∧ f0.offset = 0) ∧ (f1.type = ti ∧ f1.offset = 1) ∧ (f2.type = ti ∧ f2.offset = 2) ∧ (f3.type = ti ∧ f3.offset = 3) ∧ (f4.type = ts ∧ f4.offset = 4))
    (c5 : P.cellsOf t = 5) (cb : P.cellsOf tb = 1) (c1 : P.cellsOf ti = 1) (cs1 : P.cellsOf ts = 1) (e : TypeId) : Opens P t (Kd.rg e e2) := fun H enc W sp held fuel cs x hx => by
  obtain ⟨⟨a1, a2⟩, ⟨b1, b2⟩, ⟨k1, k2⟩, ⟨d1, d2⟩, ⟨g1, g2⟩⟩ := ef
  obtain ⟨xs, n, _, _, hl, hlen, hf⟩ := DataW.trod_struct ht hx
  rw [c5] at hl
  have y0 := hf 0 f0 rfl
  have y1 := hf 1 f1 rfl
  have y2 := hf 2 f2 rfl
  have y3 := hf 3 f3 rfl
  have y4 := hf 4 f4 rfl
  rw [List.getElem?_eq_getElem (by rw [hlen]; simp)] at y0 y1 y2 y3 y4
  rw [a1, a2, cb] at y0
  rw [b1, b2, c1] at y1
  rw [k1, k2, c1] at y2
  rw [d1, d2, c1] at y3
  rw [g1, g2, cs1] at y4
  obtain ⟨z, q0, -⟩ := DataW.trod_bool hb y0
  obtain ⟨n1, q1, r1⟩ := trod_i64 hi y1
  obtain ⟨n2, q2, r2⟩ := trod_i64 hi y2
  obtain ⟨n3, q3, r3⟩ := trod_i64 hi y3
  obtain ⟨l, A, c, q4, hc, hS⟩ := hs _ _ _ _ _ _ _ _ y4
  exact ⟨⟨z, n1, n2, n3, l⟩, A, c, five_of hl (one_of q0) (one_of q1) (one_of q2) (one_of q3) (one_of q4), ⟨hc, hS⟩, r1, r2, r3⟩
end Go.Proofs.YtnmlonicfncpfaaGreat.X
namespace Go.Proofs.YtnmlonicfncpfaaGreat
open Go.RowKit X
theorem o_ints : Opens Tryz.prog 41 (Kd.sl 41 (Kd.io 3)) := opens_sl Tryz.underlying41 (opens_io Tryz.underlying3 3) (by kernel_rfl) (by decide) 41
theorem o_yg : Opens Tryz.prog 50 (Kd.rg 50 3) := opens_rg Tryz.underlying50 Tryz.underlying4 Tryz.underlying3 o_ints ⟨⟨rfl, rfl⟩, ⟨rfl, rfl⟩, ⟨rfl, rfl⟩, ⟨rfl, rfl⟩, rfl, rfl⟩ (by kernel_rfl) (by kernel_rfl) (by kernel_rfl) (by kernel_rfl) 50
end Go.Proofs.YtnmlonicfncpfaaGreat
