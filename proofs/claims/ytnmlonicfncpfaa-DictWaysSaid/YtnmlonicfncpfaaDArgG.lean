/- What a law's arguments are: what images, and templates, are made of. -/
import Derived.Test.YtnmlonicfncpfaaDArg
import Derived.Test.YtnmlonicfncpfaaDGdB
namespace Go.Proofs.Ytnmlonicfncpfaa.X
open Go.ChangeShapes Go.WideShapes Go.ChangeAt Go.RowKit
/-- an int, of an argument -/
def Kd.io (ety : TypeId) : Kd Int where
  ety := ety
  size := 1
  rel := fun _ _ x cs => cs = [.int .i64 x] ∧ I64 x
  keep := fun h _ => h
  weak := fun h _ => h
  len := fun h => by obtain ⟨h, _⟩ := h; subst h; rfl
  one := fun h => by obtain ⟨h, _⟩ := h; subst h; simp [Value.oneCell']
theorem Sl.io {ety : TypeId} {w : World} {D : Nat → Prop} {A : Option Addr} {xs : List Int} (h : Sl (Kd.io ety) w D A xs) (ety' : TypeId) : Sl (Kd.int ety' .i64) w D A xs ∧ ∀ x ∈ xs, I64 x := by
  refine ⟨fun i hi => ?_, fun x hx => ?_⟩
  · obtain ⟨b, o, cs, e, hb, hd, hr, hl, hc⟩ := h i hi
    exact ⟨b, o, cs, e, hb, hd, hr.1, hl, hc⟩
  · obtain ⟨i, hi, rfl⟩ := List.mem_iff_getElem.1 hx
    obtain ⟨b, o, cs, e, hb, hd, hr, hl, hc⟩ := h i hi
    exact hr.2
theorem trod_i64 {P : Program} {H : Type} {enc : TypeId × Value → H} {W : World} {sp : Nat → Bool} {held : Bool} {fuel : Nat} {t : TypeId} {cs : List Value} {x : DataW H × List MemPlace} (h : P.underlying t = some (.int .i64)) (hx : DataW.trod enc P W 0 sp held fuel t cs = some x) : ∃ n, cs = [.int .i64 n] ∧ I64 n := by
  obtain ⟨n, rfl, _, hw⟩ := DataW.trod_int h hx
  have hr : -9223372036854775808 ≤ n ∧ n ≤ 9223372036854775807 := by simpa [Lit.wf, IntKind.signed, IntKind.bits, IntKind.min, IntKind.max] using hw
  exact ⟨n, rfl, hr⟩
theorem opens_io {P : Program} {t : TypeId} (h : P.underlying t = some (.int .i64)) (e : TypeId) : Opens P t (Kd.io e) := fun _ _ _ _ _ _ _ _ hx => trod_i64 h hx
theorem one_of {cs : List Value} {i : Nat} {v : Value} (h : (cs.drop i).take 1 = [v]) : cs[i]? = some v := by
  have := congrArg (fun l => l[0]?) h
  simpa using this
theorem five_of {cs : List Value} {a b c d e : Value} (hl : cs.length = 5) (h0 : cs[0]? = some a) (h1 : cs[1]? = some b) (h2 : cs[2]? = some c) (h3 : cs[3]? = some d) (h4 : cs[4]? = some e) : cs = [a, b, c, d, e] := by
  rcases cs with _ | ⟨x0, _ | ⟨x1, _ | ⟨x2, _ | ⟨x3, _ | ⟨x4, _ | ⟨x5, r⟩⟩⟩⟩⟩⟩ <;> simp at hl
  simp at h0 h1 h2 h3 h4
  subst h0 h1 h2 h3 h4
  rfl
/-- what an image is made of -/
def Kd.rg (ety ti : TypeId) : Kd Rg where
  ety := ety
  size := 5
  rel := fun w D x cs => ∃ A c, cs = [.bool x.three, .int .i64 x.mv, .int .i64 x.w, .int .i64 x.h, .slice A x.l.length c] ∧ (x.l.length ≤ c ∧ Sl (Kd.io ti) w D A x.l) ∧ I64 x.mv ∧ I64 x.w ∧ I64 x.h
  keep := fun ⟨A, c, e, ⟨l, h⟩, r⟩ hk => ⟨A, c, e, ⟨l, h.keep hk⟩, r⟩
  weak := fun ⟨A, c, e, ⟨l, h⟩, r⟩ hk => ⟨A, c, e, ⟨l, h.weak hk⟩, r⟩
  len := fun ⟨_, _, e, _⟩ => by subst e; rfl
  one := fun ⟨_, _, e, _⟩ => by subst e; simp [Value.oneCell']
theorem opens_rg {P : Program} {t tb ti ts : TypeId} {f0 f1 f2 f3 f4 : Field} (ht : P.underlying t = some (.struct #[f0, f1, f2, f3, f4])) (hb : P.underlying tb = some .bool) (hi : P.underlying ti = some (.int .i64)) {q e2 : TypeId} (hs : Opens P ts (Kd.sl q (Kd.io e2)))
    (ef : (f0.type = tb ∧ f0.offset = 0) ∧ (f1.type = ti ∧ f1.offset = 1) ∧ (f2.type = ti ∧ f2.offset = 2) ∧ (f3.type = ti ∧ f3.offset = 3) ∧ (f4.type = ts ∧ f4.offset = 4))
    (c5 : P.cellsOf t = 5) (cb : P.cellsOf tb = 1) (c1 : P.cellsOf ti = 1) (cs1 : P.cellsOf ts = 1) (e : TypeId) : Opens P t (Kd.rg e e2) := fun H enc W sp held fuel cs x hx => by
  obtain ⟨⟨a1, a2⟩, ⟨b1, b2⟩, ⟨k1, k2⟩, ⟨d1, d2⟩, ⟨g1, g2⟩⟩ := ef
  obtain ⟨xs, n, _, _, hl, hlen, hf⟩ := DataW.trod_struct ht hx
  rw [c5] at hl
  have y0 := hf 0 f0 rfl
  have y1 := hf 1 f1 rfl
  have y2 := hf 2 f2 rfl
  have y3 := hf 3 f3 rfl
  have y4 := hf 4 f4 rfl
  rw [List.getElem?_eq_getElem (by rw [hlen]; simp)] at y0 y1 y2 y3 y4
  rw [a1, a2, cb] at y0
  rw [b1, b2, c1] at y1
  rw [k1, k2, c1] at y2
  rw [d1, d2, c1] at y3
  rw [g1, g2, cs1] at y4
  obtain ⟨z, q0, -⟩ := DataW.trod_bool hb y0
  obtain ⟨n1, q1, r1⟩ := trod_i64 hi y1
  obtain ⟨n2, q2, r2⟩ := trod_i64 hi y2
  obtain ⟨n3, q3, r3⟩ := trod_i64 hi y3
  obtain ⟨l, A, c, q4, hc, hS⟩ := hs _ _ _ _ _ _ _ _ y4
  exact ⟨⟨z, n1, n2, n3, l⟩, A, c, five_of hl (one_of q0) (one_of q1) (one_of q2) (one_of q3) (one_of q4), ⟨hc, hS⟩, r1, r2, r3⟩
end Go.Proofs.Ytnmlonicfncpfaa.X
namespace Go.Proofs.Ytnmlonicfncpfaa
open Go.RowKit X
theorem o_ints : Opens Try.prog 22 (Kd.sl 22 (Kd.io 3)) := opens_sl Try.underlying22 (opens_io Try.underlying3 3) (by kernel_rfl) (by decide) 22
theorem o_yg : Opens Try.prog 24 (Kd.rg 24 3) := opens_rg Try.underlying24 Try.underlying4 Try.underlying3 o_ints ⟨⟨rfl, rfl⟩, ⟨rfl, rfl⟩, ⟨rfl, rfl⟩, ⟨rfl, rfl⟩, rfl, rfl⟩ (by kernel_rfl) (by kernel_rfl) (by kernel_rfl) (by kernel_rfl) 24
end Go.Proofs.Ytnmlonicfncpfaa
