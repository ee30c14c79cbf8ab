/- To lay a matrix by mirrors and quarters: no program in sight. -/
import Derived.Test.YtnmlonicfncpfaaDYLa
namespace Go.Proofs.Ytnmlonicfncpfaa
open Go.RowKit X
set_option maxRecDepth 8000
/-- a matrix that may be, of small size -/
def MxOk (x : Mx) : Prop := (1 ≤ x.w ∧ x.w ≤ 65536) ∧ (1 ≤ x.h ∧ x.h ≤ 65536) ∧ (x.l.length : Int) = x.w * x.h
theorem mx_ext {x y : Mx} (hx : MxOk x) (hy : MxOk y) (hw : x.w = y.w) (hh : x.h = y.h) (h : ∀ a b, 0 ≤ a ∧ a < x.w → 0 ≤ b ∧ b < x.h → atX x a b = atX y a b) : x = y := by
  obtain ⟨xw, xh, xl⟩ := x
  obtain ⟨yw, yh, yl⟩ := y
  dsimp only at hw hh h
  subst hw hh
  congr 1
  obtain ⟨⟨h1, -⟩, -, h3⟩ := hx
  obtain ⟨-, -, h4⟩ := hy
  dsimp only at h1 h3 h4
  apply List.ext_getElem (by omega)
  intro i hi1 hi2
  obtain ⟨ha, hb⟩ := split_in h3 h1 hi1
  have := h _ _ ha hb
  unfold atX at this
  dsimp only at this
  rw [Int.mul_comm, Int.mul_ediv_add_emod, Int.toNat_natCast, List.getD_eq_getElem?_getD, List.getD_eq_getElem?_getD, List.getElem?_eq_getElem hi1, List.getElem?_eq_getElem hi2] at this
  exact this
theorem at_map {W : Int} {n : Nat} {H : Int} {f : Nat → Int} {h : Int} (hn : (n : Int) = W * H) {a b : Int} (ha : 0 ≤ a ∧ a < W) (hb : 0 ≤ b ∧ b < H) : atX ⟨W, h, (List.range n).map f⟩ a b = f (b * W + a).toNat := by
  obtain ⟨i1, i2⟩ := idx_in hn ha hb
  unfold atX
  dsimp only
  rw [List.getD_eq_getElem?_getD, List.getElem?_map, List.getElem?_range (by omega)]
  rfl
theorem lay_ok {x : Mx} (hx : MxOk x) (g : Nat) : MxOk (layP x g) := by
  obtain ⟨h1, h2, h3⟩ := hx
  unfold layP MxOk sizeP
  rw [List.length_map, List.length_range]
  split
  · exact ⟨h1, h2, h3⟩
  · exact ⟨h2, h1, by rw [h3]; exact Int.mul_comm _ _⟩
theorem lay_at {x : Mx} (hx : MxOk x) {g : Nat} {a b : Int} (ha : 0 ≤ a ∧ a < (sizeP x.w x.h g).1) (hb : 0 ≤ b ∧ b < (sizeP x.w x.h g).2) : atX (layP x g) a b = atX x (fromP x.w x.h a b g).1 (fromP x.w x.h a b g).2 := by
  obtain ⟨-, -, h3⟩ := hx
  have hn : (x.l.length : Int) = (sizeP x.w x.h g).1 * (sizeP x.w x.h g).2 := by
    rw [h3]; unfold sizeP; split
    · rfl
    · exact Int.mul_comm _ _
  obtain ⟨i1, i2⟩ := idx_in hn ha hb
  obtain ⟨d1, d2⟩ := div_mod (y := b) (N := (sizeP x.w x.h g).1) (k := a) ha.1 ha.2
  unfold layP
  rw [at_map hn ha hb]
  unfold layAt
  rw [Int.toNat_of_nonneg i1, d1, d2]
  rfl
theorem mir_ok {x : Mx} (hx : MxOk x) : MxOk (mirP x) := by
  obtain ⟨h1, h2, h3⟩ := hx
  unfold mirP MxOk
  rw [List.length_map, List.length_range]
  exact ⟨h1, h2, h3⟩
theorem qua_ok {x : Mx} (hx : MxOk x) : MxOk (quaP x) := by
  obtain ⟨h1, h2, h3⟩ := hx
  unfold quaP MxOk
  rw [List.length_map, List.length_range]
  exact ⟨h2, h1, by rw [h3]; exact Int.mul_comm _ _⟩
theorem mir_at {x : Mx} (hx : MxOk x) {a b : Int} (ha : 0 ≤ a ∧ a < x.w) (hb : 0 ≤ b ∧ b < x.h) : atX (mirP x) a b = atX x (x.w - 1 - a) b := by
  obtain ⟨-, -, h3⟩ := hx
  obtain ⟨i1, i2⟩ := idx_in h3 ha hb
  obtain ⟨d1, d2⟩ := div_mod (y := b) (N := x.w) (k := a) ha.1 ha.2
  unfold mirP
  rw [at_map h3 ha hb]
  rw [Int.toNat_of_nonneg i1, d1, d2]
theorem qua_at {x : Mx} (hx : MxOk x) {a b : Int} (ha : 0 ≤ a ∧ a < x.h) (hb : 0 ≤ b ∧ b < x.w) : atX (quaP x) a b = atX x b (x.h - 1 - a) := by
  obtain ⟨-, -, h3⟩ := hx
  have hn : (x.l.length : Int) = x.h * x.w := by rw [h3]; exact Int.mul_comm _ _
  obtain ⟨i1, i2⟩ := idx_in hn ha hb
  obtain ⟨d1, d2⟩ := div_mod (y := b) (N := x.h) (k := a) ha.1 ha.2
  unfold quaP
  rw [at_map hn ha hb]
  rw [Int.toNat_of_nonneg i1, d1, d2]
theorem lay_0 {x : Mx} (hx : MxOk x) : layP x 0 = x :=
  mx_ext (lay_ok hx 0) hx rfl rfl fun a b ha hb => by rw [lay_at hx ha hb]; rfl
theorem lay_4 {x : Mx} (hx : MxOk x) : mirP x = layP x 4 :=
  mx_ext (mir_ok hx) (lay_ok hx 4) rfl rfl fun a b ha hb => by rw [mir_at hx ha hb, lay_at hx ha hb]; rfl
theorem lay_next {x : Mx} (hx : MxOk x) {g : Nat} (hg : g < 7) (h3 : g ≠ 3) : quaP (layP x g) = layP x (g + 1) := by
  have ho := lay_ok hx g
  have key : ∀ (a : Int) (y : Mx), 0 ≤ a ∧ a < (quaP y).w → 0 ≤ y.h - 1 - a ∧ y.h - 1 - a < y.h := fun a y h => ⟨by have : a < y.h := h.2; omega, by have := h.1; omega⟩
  obtain rfl | rfl | rfl | rfl | rfl | rfl : g = 0 ∨ g = 1 ∨ g = 2 ∨ g = 4 ∨ g = 5 ∨ g = 6 := by omega
  all_goals
    refine mx_ext (qua_ok ho) (lay_ok hx _) rfl rfl fun a b ha hb => ?_
    rw [qua_at ho ha hb]
    have hh := key a _ ha
    rw [lay_at hx hb hh, lay_at hx ha hb]
    congr 1
    all_goals (simp only [fromP, from0, layP, sizeP]; simp; try omega)
end Go.Proofs.Ytnmlonicfncpfaa
