/- What a law's arguments are. -/
import Derived.Test.YteaekpnmiicbhaaDoorRows
import Derived.Test.YteaekpnmiicbhaaDoorPKd
namespace Go.Proofs.YteaekpnmiicbhaaDoor.X
open Go.ChangeShapes Go.WideShapes Go.ChangeAt Go.RowKit
theorem opens_u8 {P : Program} {t : TypeId} (h : P.underlying t = some (.int .u8)) (e : TypeId) : Opens P t (Kd.u8 e) := fun H enc W sp held fuel cs x hx => by
  obtain ⟨n, rfl, _, hw⟩ := DataW.trod_int h hx
  have hr : 0 ≤ n ∧ n ≤ 255 := by simpa [Lit.wf, IntKind.signed, IntKind.bits, IntKind.min, IntKind.max] using hw
  exact ⟨UInt8.ofNat n.toNat, by
    show [Value.int .u8 n] = [Value.int .u8 _]
    rw [UInt8.toNat_ofNat', Nat.mod_eq_of_lt (by omega)]
    congr 2
    omega⟩
theorem u8_wf {n : Int} (hw : (Lit.int .u8 n).wf = true) : ∃ z : UInt8, n = z.toNat := by
  have hr : 0 ≤ n ∧ n ≤ 255 := by simpa [Lit.wf, IntKind.signed, IntKind.bits, IntKind.min, IntKind.max] using hw
  refine ⟨UInt8.ofNat n.toNat, ?_⟩
  rw [UInt8.toNat_ofNat', Nat.mod_eq_of_lt (by omega)]
  omega
theorem i64_wf {n : Int} (hw : (Lit.int .i64 n).wf = true) : I64 n := by
  have hr : -9223372036854775808 ≤ n ∧ n ≤ 9223372036854775807 := by simpa [Lit.wf, IntKind.signed, IntKind.bits, IntKind.min, IntKind.max] using hw
  exact hr
theorem trod_i64 {P : Program} {H : Type} {enc : TypeId × Value → H} {W : World} {sp : Nat → Bool} {held : Bool} {fuel : Nat} {t : TypeId} {cs : List Value} {x : DataW H × List MemPlace} (h : P.underlying t = some (.int .i64)) (hx : DataW.trod enc P W 0 sp held fuel t cs = some x) : ∃ n, cs = [.int .i64 n] ∧ I64 n := by
  obtain ⟨n, rfl, _, hw⟩ := DataW.trod_int h hx
  have hr : -9223372036854775808 ≤ n ∧ n ≤ 9223372036854775807 := by simpa [Lit.wf, IntKind.signed, IntKind.bits, IntKind.min, IntKind.max] using hw
  exact ⟨n, rfl, hr⟩
theorem one_of {cs : List Value} {i : Nat} {v : Value} (h : (cs.drop i).take 1 = [v]) : cs[i]? = some v := by
  have := congrArg (fun l => l[0]?) h
  simpa using this
/-- a struct of five ints, in fields of fields -/
theorem r5_of {cs : List Value} {a b c d e : Value} (hl : cs.length = 5) (h0 : cs[0]? = some a) (h1 : cs[1]? = some b) (h2 : cs[2]? = some c) (h3 : cs[3]? = some d) (h4 : cs[4]? = some e) : cs = [a, b, c, d, e] := by
  rcases cs with _ | ⟨x0, _ | ⟨x1, _ | ⟨x2, _ | ⟨x3, _ | ⟨x4, _ | ⟨x5, r⟩⟩⟩⟩⟩⟩ <;> simp at hl
  simp at h0 h1 h2 h3 h4
  subst h0 h1 h2 h3 h4
  rfl
theorem opens_r5 {P : Program} {t t4 ti : TypeId} {f0 f1 g0 g1 g2 g3 : Field} (ht : P.underlying t = some (.struct #[f0, f1])) (h4 : P.underlying t4 = some (.struct #[g0, g1, g2, g3])) (hi : P.underlying ti = some (.int .i64))
    (ef : f0.type = ti ∧ f0.offset = 0 ∧ f1.type = t4 ∧ f1.offset = 1) (eg : (g0.type = ti ∧ g0.offset = 0) ∧ (g1.type = ti ∧ g1.offset = 1) ∧ (g2.type = ti ∧ g2.offset = 2) ∧ (g3.type = ti ∧ g3.offset = 3))
    (c5 : P.cellsOf t = 5) (c4 : P.cellsOf t4 = 4) (c1 : P.cellsOf ti = 1) (e : TypeId) : Opens P t (Kd.r5o e) := fun H enc W sp held fuel cs x hx => by
  obtain ⟨e1, e2, e3, e4⟩ := ef
  obtain ⟨⟨a1, a2⟩, ⟨b1, b2⟩, ⟨k1, k2⟩, ⟨d1, d2⟩⟩ := eg
  obtain ⟨xs, n, _, _, hl, hlen, hf⟩ := DataW.trod_struct ht hx
  rw [c5] at hl
  have h0 := hf 0 f0 rfl
  have h1 := hf 1 f1 rfl
  rw [List.getElem?_eq_getElem (by rw [hlen]; simp)] at h0 h1
  rw [e1, e2, c1] at h0
  rw [e3, e4, c4] at h1
  obtain ⟨n0, q0, r0⟩ := trod_i64 hi h0
  obtain ⟨ys, m, _, _, yl, ylen, yf⟩ := DataW.trod_struct h4 h1
  have y0 := yf 0 g0 rfl
  have y1 := yf 1 g1 rfl
  have y2 := yf 2 g2 rfl
  have y3 := yf 3 g3 rfl
  rw [List.getElem?_eq_getElem (by rw [ylen]; simp)] at y0 y1 y2 y3
  rw [a1, a2, c1] at y0
  rw [b1, b2, c1] at y1
  rw [k1, k2, c1] at y2
  rw [d1, d2, c1] at y3
  obtain ⟨n1, q1, r1⟩ := trod_i64 hi y0
  obtain ⟨n2, q2, r2⟩ := trod_i64 hi y1
  obtain ⟨n3, q3, r3⟩ := trod_i64 hi y2
  obtain ⟨n4, q4, r4⟩ := trod_i64 hi y3
  have sub : ∀ {i : Nat} {v : Value}, ((((cs.drop 1).take 4).drop i).take 1) = [v] → i < 4 → cs[1 + i]? = some v := fun {i v} h hi => by
    have := one_of h
    rw [List.getElem?_take, if_pos hi, List.getElem?_drop] at this
    exact this
  exact ⟨⟨n0, n1, n2, n3, n4⟩, r5_of hl (one_of q0) (sub q1 (by decide)) (sub q2 (by decide)) (sub q3 (by decide)) (sub q4 (by decide)), r0, r1, r2, r3, r4⟩
end Go.Proofs.YteaekpnmiicbhaaDoor.X
namespace Go.Proofs.YteaekpnmiicbhaaDoor
open Go.RowKit X
theorem own : ownKnob Tryd.prog.godebug = none := by kernel_rfl
theorem laidOut : laidOutB Tryd.prog = true := by kernel_rfl
theorem o_u8s : Opens Tryd.prog 49 (Kd.sl 49 kB) := opens_sl Tryd.underlying49 (opens_u8 Tryd.underlying5 5) (by kernel_rfl) (by decide) 49
theorem o_r5s : Opens Tryd.prog 22 (Kd.sl 22 (Kd.r5o 41)) := opens_sl Tryd.underlying22 (opens_r5 Tryd.underlying41 Tryd.underlying39 Tryd.underlying3 ⟨rfl, rfl, rfl, rfl⟩ ⟨⟨rfl, rfl⟩, ⟨rfl, rfl⟩, ⟨rfl, rfl⟩, rfl, rfl⟩ (by kernel_rfl) (by kernel_rfl) (by kernel_rfl) 41) (by kernel_rfl) (by decide) 22
end Go.Proofs.YteaekpnmiicbhaaDoor
