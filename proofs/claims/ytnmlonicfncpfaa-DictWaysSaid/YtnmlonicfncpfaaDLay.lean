/- A matrix, laid: the program's. -/
import Derived.Test.YtnmlonicfncpfaaDTrn
namespace Go.Proofs.Ytnmlonicfncpfaa.X
open Go.RowKit
class JLt (j n : Nat) : Prop where
  out : j < n
/-- a number of a row is written -/
class SetRN (ety : TypeId) (ik : IntKind) (L : List Ob) (b j : Nat) (z : Int) (L' : outParam (List Ob)) : Prop where
  out : ∃ i n c xs, L[i]? = some (Row (Kd.int ety ik) (.slice (some ⟨b, 0, none⟩) n c) xs) ∧ j < xs.length ∧ L' = L.set i (Row (Kd.int ety ik) (.slice (some ⟨b, 0, none⟩) n c) (xs.set j z))
instance {ety : TypeId} {ik : IntKind} (b j n c : Nat) (z : Int) (xs : List Int) (L : List Ob) [h : JLt j xs.length] : SetRN ety ik (Row (Kd.int ety ik) (.slice (some ⟨b, 0, none⟩) n c) xs :: L) b j z (Row (Kd.int ety ik) (.slice (some ⟨b, 0, none⟩) n c) (xs.set j z) :: L) := ⟨0, n, c, xs, rfl, h.out, rfl⟩
instance (priority := 500) {ety : TypeId} {ik : IntKind} (b j : Nat) (z : Int) (o : Ob) (L L' : List Ob) [h : SetRN ety ik L b j z L'] : SetRN ety ik (o :: L) b j z (o :: L') := by
  obtain ⟨i, n, c, xs, h1, h2, h3⟩ := h.out
  exact ⟨i + 1, n, c, xs, by simpa using h1, h2, by rw [h3]; rfl⟩
theorem SH.setN {ety : TypeId} {ik : IntKind} {F0 I0 I : Fp} {w0 w : World} {L L' : List Ob} {b j : Nat} {z : Int} (s : SH F0 I0 w0 L w I) (h : SetRN ety ik L b j z L') : SH F0 I0 w0 L' (w.setCell ⟨b, j, none⟩ (.int ik z)) I := by
  obtain ⟨i, n, c, xs, e, hj, rfl⟩ := h.out
  have := s.putK i e j 0 hj (by show 0 < 1; omega) (.int ik z) z (fun cs h => by have h : cs = [_] := h; subst h; rfl)
  have e1 : j * (Kd.int ety ik).size + 0 = j := by show j * 1 + 0 = j; omega
  rwa [e1] at this
/-- f up to k, g from there on -/
def upK {α : Type} (n : Nat) (f g : Nat → α) (k : Nat) : List α := (List.range n).map fun i => if i < k then f i else g i
section
variable {α : Type} {n k : Nat} {f g : Nat → α}
theorem upK_len : (upK n f g k).length = n := by simp [upK]
theorem upK_at {i : Nat} (h : i < (upK n f g k).length) : (upK n f g k)[i] = if i < k then f i else g i := by simp [upK]
theorem upK_set : (upK n f g k).set k (f k) = upK n f g (k + 1) := by
  apply List.ext_getElem
  · simp [upK]
  · intro i h1 h2
    rw [List.getElem_set, upK_at, upK_at]
    by_cases hik : k = i
    · subst hik; rw [if_pos rfl, if_pos (Nat.lt_succ_self _)]
    · rw [if_neg hik]
      by_cases h : i < k
      · rw [if_pos h, if_pos (by omega)]
      · rw [if_neg h, if_neg (by omega)]
theorem upK_all : upK n f g n = (List.range n).map f := by
  unfold upK
  apply List.map_congr_left
  intro i hi
  rw [if_pos (List.mem_range.1 hi)]
theorem upK_none {x : α} : List.replicate n x = upK n f (fun _ => x) 0 := by
  apply List.ext_getElem
  · simp [upK]
  · intro i h1 h2
    rw [upK_at, List.getElem_replicate, if_neg (Nat.not_lt_zero _)]
end
end Go.Proofs.Ytnmlonicfncpfaa.X
namespace Go.Proofs.Ytnmlonicfncpfaa
open Go.RowKit X
set_option maxHeartbeats 2000000
set_option maxRecDepth 8000
set_option linter.unusedSimpArgs false
set_option linter.unusedVariables false
def sizeP (a b : Int) (g : Nat) : Int × Int := if g % 2 = 0 then (a, b) else (b, a)
theorem size_c (a b : Int) (g : Nat) (hg : g < 8) (w : World) : Calls Try.prog 60 #[.int .i64 a, .int .i64 b, .int .i64 g] w fun e w' => e = .returned (.tuple #[.int .i64 (sizeP a b g).1, .int .i64 (sizeP a b g).2]) ∧ w' = w := by
  obtain rfl | rfl | rfl | rfl | rfl | rfl | rfl | rfl : g = 0 ∨ g = 1 ∨ g = 2 ∨ g = 3 ∨ g = 4 ∨ g = 5 ∨ g = 6 ∨ g = 7 := by omega
  · go_enter Try.func60, Try.ntmps60
    go_wp2_with (go_at_call 37; refine (mayT_ok 0 (by decide) _).mono ?_; rintro e w1 ⟨rfl, rfl⟩)
    go_ret2
    exact ⟨rfl, rfl⟩
  · go_enter Try.func60, Try.ntmps60
    go_wp2_with (go_at_call 37; refine (mayT_ok 1 (by decide) _).mono ?_; rintro e w1 ⟨rfl, rfl⟩)
    go_ret2
    exact ⟨rfl, rfl⟩
  · go_enter Try.func60, Try.ntmps60
    go_wp2_with (go_at_call 37; refine (mayT_ok 2 (by decide) _).mono ?_; rintro e w1 ⟨rfl, rfl⟩)
    go_ret2
    exact ⟨rfl, rfl⟩
  · go_enter Try.func60, Try.ntmps60
    go_wp2_with (go_at_call 37; refine (mayT_ok 3 (by decide) _).mono ?_; rintro e w1 ⟨rfl, rfl⟩)
    go_ret2
    exact ⟨rfl, rfl⟩
  · go_enter Try.func60, Try.ntmps60
    go_wp2_with (go_at_call 37; refine (mayT_ok 4 (by decide) _).mono ?_; rintro e w1 ⟨rfl, rfl⟩)
    go_ret2
    exact ⟨rfl, rfl⟩
  · go_enter Try.func60, Try.ntmps60
    go_wp2_with (go_at_call 37; refine (mayT_ok 5 (by decide) _).mono ?_; rintro e w1 ⟨rfl, rfl⟩)
    go_ret2
    exact ⟨rfl, rfl⟩
  · go_enter Try.func60, Try.ntmps60
    go_wp2_with (go_at_call 37; refine (mayT_ok 6 (by decide) _).mono ?_; rintro e w1 ⟨rfl, rfl⟩)
    go_ret2
    exact ⟨rfl, rfl⟩
  · go_enter Try.func60, Try.ntmps60
    go_wp2_with (go_at_call 37; refine (mayT_ok 7 (by decide) _).mono ?_; rintro e w1 ⟨rfl, rfl⟩)
    go_ret2
    exact ⟨rfl, rfl⟩
theorem at_c (x : Mx) (A : Option Addr) (n : Nat) (a b : Int) (k : Nat) (y : Int) (ha : 0 ≤ a ∧ a < x.w) (hb : 0 ≤ b ∧ b < x.h) (hk : b * x.w + a = k) (hs : k < 1000000) (hw : x.w ≤ 4096) (hy : x.l[k]? = some y) (w : World) (I : Fp) (hI : ∀ b, I b → b < w.heap.size) (hl : Sl kP w I A x.l) :
    Calls Try.prog 62 #[mxV x A n, .int .i64 a, .int .i64 b] w fun e w' => e = .returned (.tuple #[.int .u64 y, .bool true]) ∧ Ext w w' := by
  have S := (SH.start w I hI).know (h := Im kP A x.l) hl
  obtain ⟨c, d, l⟩ := x
  dsimp only [mxV] at *
  obtain ⟨bb, oo, rfl, hcx⟩ := hl.num_at hy
  have hkl := (List.getElem?_eq_some_iff.1 hy).1
  have d1 : (decide (0 ≤ a) && decide (a < c)) = true := by simp; omega
  have d2 : (decide (0 ≤ b) && decide (b < d)) = true := by simp; omega
  have hbc : 0 ≤ b * c := Int.mul_nonneg hb.1 (by omega)
  have hbc2 : b * c ≤ 1000000 := by omega
  have hix : b * c + a = k := hk
  clear hl hk hcx
  have D1 := As.mk d1
  have HY := As.mk hy
  have D2 := As.mk d2
  clear d1 d2 hy
  have hc := S.cells; simp only [Cells, cellsC, Im, Row, El, Nat.zero_add, Nat.reduceAdd] at hc
  go_enter Try.func62, Try.ntmps62
  have hm1 : True := trivial
  go_wp2_with (first | ((first | (with_reducible refine wpl_seal S ?_) | (with_reducible refine cw_seal S ?_) | (with_reducible refine bp_seal S ?_) | (with_reducible refine ca_seal S ?_)); clear S; (try clear hc); intro w1 S; (try simp only [List.set_cons_zero, List.set_cons_succ, List.nil_append] at S); have hc := S.cells; simp only [Cells, cellsC, Im, Row, El, Nat.zero_add, Nat.reduceAdd] at hc) | (go_at_call 86; clear hm1; refine (in_c a c _).mono ?_; rw [D1.out]; rintro e w1 ⟨rfl, rfl⟩) | (go_at_call 86; refine (in_c b d _).mono ?_; rw [D2.out]; rintro e w1 ⟨rfl, rfl⟩; obtain ⟨b', o', e', hcx2⟩ := (S.im 1 rfl).num_at HY.out; cases e'))
  go_ret2
  exact ⟨rfl, S.out⟩
instance (w : World) (L : List Ob) (b j : Nat) (z : Int) (W : World) (L' L2 : List Ob) [h : Built w L W L'] [g : SetRN 55 .u64 L' b j z L2] : Built1 w L (W.setCell ⟨b, j, none⟩ (.int .u64 z)) L2 := ⟨fun s => (h.out s).setN g⟩
theorem from_in {a b x y : Int} {g : Nat} (hg : g < 8) (hx : 0 ≤ x ∧ x < (sizeP a b g).1) (hy : 0 ≤ y ∧ y < (sizeP a b g).2) : (0 ≤ (fromP a b x y g).1 ∧ (fromP a b x y g).1 < a) ∧ 0 ≤ (fromP a b x y g).2 ∧ (fromP a b x y g).2 < b := by
  obtain rfl | rfl | rfl | rfl | rfl | rfl | rfl | rfl : g = 0 ∨ g = 1 ∨ g = 2 ∨ g = 3 ∨ g = 4 ∨ g = 5 ∨ g = 6 ∨ g = 7 := by omega
  all_goals (simp only [sizeP, Nat.reduceMod, if_true, if_false, Nat.one_ne_zero] at hx hy; simp only [fromP, from0, Nat.reduceLT, if_true, if_false, Nat.reduceSub]; omega)
/-- a laid matrix' number i -/
def layAt (x : Mx) (g i : Nat) : Int := x.l.getD ((fromP x.w x.h ((i : Int) % (sizeP x.w x.h g).1) ((i : Int) / (sizeP x.w x.h g).1) g).2 * x.w + (fromP x.w x.h ((i : Int) % (sizeP x.w x.h g).1) ((i : Int) / (sizeP x.w x.h g).1) g).1).toNat 0
def layP (x : Mx) (g : Nat) : Mx := ⟨(sizeP x.w x.h g).1, (sizeP x.w x.h g).2, (List.range x.l.length).map (layAt x g)⟩
def layOk (x : Mx) (g : Nat) : Bool := sizedP (sizeP x.w x.h g).1 (sizeP x.w x.h g).2
theorem idx_in {a b x y : Int} {n : Nat} (hn : (n : Int) = a * b) (hx : 0 ≤ x ∧ x < a) (hy : 0 ≤ y ∧ y < b) : 0 ≤ y * a + x ∧ y * a + x < n := by
  have h1 : 0 ≤ y * a := Int.mul_nonneg hy.1 (by omega)
  have h2 : (y + 1) * a ≤ b * a := Int.mul_le_mul_of_nonneg_right (by omega) (by omega)
  rw [Int.add_mul, Int.one_mul, Int.mul_comm b a] at h2
  omega
theorem split_in {a b : Int} {n i : Nat} (hn : (n : Int) = a * b) (ha : 1 ≤ a) (hi : i < n) : (0 ≤ (i : Int) % a ∧ (i : Int) % a < a) ∧ 0 ≤ (i : Int) / a ∧ (i : Int) / a < b := by
  refine ⟨⟨Int.emod_nonneg _ (by omega), Int.emod_lt_of_pos _ (by omega)⟩, Int.ediv_nonneg (by omega) (by omega), ?_⟩
  apply Int.ediv_lt_of_lt_mul (by omega)
  rw [Int.mul_comm]
  omega
end Go.Proofs.Ytnmlonicfncpfaa
