/- Numbers as bytes: read, plainly; the program's and the document's reader. -/
import Derived.Test.YteaekpnmiicbhaaDoorPKd
import Derived.Laws.BitsAll
namespace Go.Proofs.YteaekpnmiicbhaaDoor
open Go.RowKit X
set_option maxHeartbeats 1000000
set_option maxRecDepth 8000
set_option linter.unusedSimpArgs false
set_option linter.unusedVariables false
/-- the number that bytes begin with; i: how many were read; n: what they say -/
def getG : Nat → Nat → List UInt8 → Nat × Nat × Nat
  | _, _, [] => (0, 0, 6)
  | i, n, c :: r => if 128 ≤ c.toNat then (if i = 8 then (0, 0, 4) else getG (i + 1) (n + (c.toNat - 128) * 128 ^ i) r)
    else if c.toNat = 0 ∧ 0 < i then (0, 0, 10) else if i = 8 ∧ 63 < c.toNat then (0, 0, 4) else (n + c.toNat * 128 ^ i, i + 1, 0)
def getB (bs : List UInt8) : Nat × Nat × Nat := getG 0 0 bs
theorem or_step {m y k : Nat} (hk : k ≤ 8) (hm : m < 128 ^ k) : bits .or .i64 (m : Int) (RowKit.wrap64 ((y : Int) % 128 * 2 ^ (7 * k))) = ((m + y % 128 * 128 ^ k : Nat) : Int) := by
  have h128 : (128:Nat)^k = 2^(7*k) := by rw [show 128 = 2^7 from rfl, ← Nat.pow_mul]
  have hle : 2^(7*k) ≤ 2^56 := Nat.pow_le_pow_right (by decide) (by omega)
  have hlt : y % 128 * 2^(7*k) ≤ 127 * 2^56 := Nat.mul_le_mul (by omega) hle
  have e : (y:Int) % 128 * 2^(7*k) = ((y % 128 * 2^(7*k) : Nat) : Int) := by simp
  rw [h128] at hm ⊢
  generalize hq : y % 128 * 2^(7*k) = q at *
  have hor : m ||| q = m + q := by
    have := Nat.shiftLeft_add_eq_or_of_lt hm (y % 128)
    rw [Nat.shiftLeft_eq, hq] at this
    rw [Nat.or_comm, ← this, Nat.add_comm]
  have hlt2 : m + q < 2^63 := by
    have : 2 ^ (7 * k) ≤ 2 ^ 56 := hle
    omega
  have ho : ∀ x : Nat, x < 2^63 → (BitVec.ofInt 64 (x:Int)).toNat = x := fun x hx => by
    rw [BitVec.ofInt_natCast, BitVec.toNat_ofNat]; omega
  rw [e, IntWalk.wrap64_in _ ⟨by omega, by omega⟩]
  show IntKind.i64.wrap ((BitVec.ofInt 64 (m : Int) ||| BitVec.ofInt 64 (q : Int)).toNat : Int) = _
  rw [BitVec.toNat_or, ho m (by omega), ho q (by omega), hor]
  rw [IntKind.wrap_i64]
  omega
theorem bits_andNot_u8 (c : Nat) (hc : c < 256) : bits .andNot .u8 (c : Int) 128 = ((c % 128 : Nat) : Int) := by
  rw [show (128 : Int) = ((128 : Nat) : Int) from rfl, u8_andNot_nat c 128 hc (by decide)]
  congr 1
  rw [show 255 - 128 = 2 ^ 7 - 1 from rfl, Nat.and_two_pow_sub_one_eq_mod]
theorem getG_more {i n : Nat} {c : UInt8} {r : List UInt8} (h : 128 ≤ c.toNat) (hi : i ≠ 8) : getG i n (c :: r) = getG (i + 1) (n + c.toNat % 128 * 128 ^ i) r := by
  have := c.toNat_lt
  rw [show c.toNat % 128 = c.toNat - 128 by omega]
  simp only [getG, if_pos h, if_neg hi]
theorem getG_long {n : Nat} {c : UInt8} {r : List UInt8} (h : 128 ≤ c.toNat) : getG 8 n (c :: r) = (0, 0, 4) := by simp only [getG, if_pos h, if_true]
theorem getG_form {i n : Nat} {c : UInt8} {r : List UInt8} (h : c.toNat = 0) (hi : 0 < i) : getG i n (c :: r) = (0, 0, 10) := by
  simp only [getG, if_neg (show ¬ 128 ≤ c.toNat by omega), if_pos (show c.toNat = 0 ∧ 0 < i from ⟨h, hi⟩)]
theorem getG_top {n : Nat} {c : UInt8} {r : List UInt8} (h : ¬ 128 ≤ c.toNat) (h2 : 63 < c.toNat) : getG 8 n (c :: r) = (0, 0, 4) := by
  simp only [getG, if_neg h, if_neg (show ¬ (c.toNat = 0 ∧ 0 < 8) by omega), true_and, if_pos h2]
theorem getG_ok {i n : Nat} {c : UInt8} {r : List UInt8} (h : ¬ 128 ≤ c.toNat) (h1 : ¬ (c.toNat = 0 ∧ 0 < i)) (h2 : ¬ (i = 8 ∧ 63 < c.toNat)) : getG i n (c :: r) = (n + c.toNat % 128 * 128 ^ i, i + 1, 0) := by
  rw [show c.toNat % 128 = c.toNat by omega]
  simp only [getG, if_neg h, if_neg h1, if_neg h2]
theorem pow_le56 {k : Nat} (hk : k ≤ 8) : 128 ^ k ≤ 72057594037927936 := by
  have := Nat.pow_le_pow_right (n := 128) (by decide) hk
  simpa using this
theorem get_bound {k m y : Nat} (hk : k ≤ 8) (hm : m < 128 ^ k) : m + y % 128 * 128 ^ k < 128 ^ (k + 1) := by
  have h1 : (y % 128 + 1) * 128 ^ k ≤ 128 * 128 ^ k := Nat.mul_le_mul_right _ (by omega)
  rw [Nat.add_mul, Nat.one_mul] at h1
  rw [Nat.pow_succ, Nat.mul_comm (128 ^ k) 128]
  omega
theorem get_top {k m y : Nat} (hk : k ≤ 8) (hm : m < 128 ^ k) (hy : y < 128) : (4611686018427387903 < m + y % 128 * 128 ^ k) ↔ (k = 8 ∧ 63 < y) := by
  rw [Nat.mod_eq_of_lt hy]
  by_cases h8 : k = 8
  · subst h8
    have : (128 : Nat) ^ 8 = 72057594037927936 := by decide
    rw [this] at hm ⊢
    omega
  · have h7 : 128 ^ (k + 1) ≤ 128 ^ 8 := Nat.pow_le_pow_right (by decide) (by omega)
    have := get_bound (y := y) hk hm
    rw [Nat.mod_eq_of_lt hy] at this
    have h9 : (128 : Nat) ^ 8 = 72057594037927936 := by decide
    omega
theorem getG_ok_lt : ∀ (bs : List UInt8) {i n a b : Nat}, i ≤ 8 → n < 128 ^ i → getG i n bs = (a, b, 0) → a ≤ 4611686018427387903 ∧ b ≤ i + bs.length ∧ i < b
  | [], i, n, a, b, _, _, h => by simp [getG] at h
  | c :: r, i, n, a, b, hi, hn, h => by
    have hc := c.toNat_lt
    by_cases h128 : 128 ≤ c.toNat
    · by_cases h8 : i = 8
      · subst h8; rw [getG_long h128] at h; simp at h
      · rw [getG_more h128 h8] at h
        have := getG_ok_lt r (by omega) (get_bound hi hn) h
        simp only [List.length_cons]
        omega
    · by_cases h0 : c.toNat = 0 ∧ 0 < i
      · rw [getG_form h0.1 h0.2] at h; simp at h
      · by_cases ht : i = 8 ∧ 63 < c.toNat
        · obtain ⟨rfl, ht⟩ := ht
          rw [getG_top h128 ht] at h; simp at h
        · rw [getG_ok h128 h0 ht] at h
          simp only [Prod.mk.injEq] at h
          have : ¬ 4611686018427387903 < n + c.toNat % 128 * 128 ^ i := fun h => ht ((get_top (y := c.toNat) hi hn (by omega)).1 h)
          simp only [List.length_cons]
          omega
theorem getG_err : ∀ (bs : List UInt8) {i n a b e : Nat}, getG i n bs = (a, b, e) → e ≠ 0 → a = 0 ∧ b = 0
  | [], i, n, a, b, e, h, _ => by simp only [getG, Prod.mk.injEq] at h; omega
  | c :: r, i, n, a, b, e, h, he => by
    simp only [getG] at h
    split at h
    · split at h
      · simp only [Prod.mk.injEq] at h; omega
      · exact getG_err r h he
    · split at h
      · simp only [Prod.mk.injEq] at h; omega
      · split at h
        · simp only [Prod.mk.injEq] at h; omega
        · simp only [Prod.mk.injEq] at h; omega
theorem getB_ok {bs : List UInt8} {a b : Nat} (h : getB bs = (a, b, 0)) : a ≤ 4611686018427387903 ∧ 0 < b ∧ b ≤ bs.length := by
  have := getG_ok_lt bs (i := 0) (n := 0) (by decide) (by decide) h
  omega
theorem ret_iii {k l m : IntKind} {a a' b b' c c' : Int} (h : a = a') (g : b = b') (i : c = c') : Ending.returned (.tuple #[.int k a, .int l b, .int m c]) = .returned (.tuple #[.int k a', .int l b', .int m c']) := by rw [h, g, i]
end Go.Proofs.YteaekpnmiicbhaaDoor
