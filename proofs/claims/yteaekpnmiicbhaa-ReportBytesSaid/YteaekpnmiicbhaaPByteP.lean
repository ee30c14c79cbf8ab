/- Bytes written are read as they were: no program in sight. -/
import Derived.Test.YteaekpnmiicbhaaPBytes
namespace Go.Proofs.Yteaekpnmiicbhaa
open Go.RowKit X
theorem getG_put : ∀ (f m i n : Nat) (r : List UInt8), m < f → i ≤ 8 → (i = 0 ∨ 0 < m) → n + m * 128 ^ i ≤ 4611686018427387903 → getG i n (putB m ++ r) = (n + m * 128 ^ i, i + (putB m).length, 0)
  | 0, m, i, n, r, h, _, _, _ => absurd h (Nat.not_lt_zero _)
  | f + 1, m, i, n, r, h, hi, h0, ht => by
    by_cases hm : m < 128
    · rw [putB_small hm]
      have hu := u8_small (n := m) (by omega)
      show getG i n (UInt8.ofNat m :: r) = _
      rw [getG_ok (by rw [hu]; omega) (by rw [hu]; omega) (by
        rw [hu]
        rintro ⟨rfl, h63⟩
        have h9 : (128 : Nat) ^ 8 = 72057594037927936 := by decide
        rw [h9] at ht
        omega), hu, Nat.mod_eq_of_lt hm]
      rfl
    · rw [putB_big hm]
      have hu := u8_small (n := 128 + m % 128) (by omega)
      have hi8 : i ≠ 8 := by
        rintro rfl
        have h9 : (128 : Nat) ^ 8 = 72057594037927936 := by decide
        rw [h9] at ht
        omega
      show getG i n (UInt8.ofNat (128 + m % 128) :: (putB (m / 128) ++ r)) = _
      have e : n + (128 + m % 128) % 128 * 128 ^ i + m / 128 * 128 ^ (i + 1) = n + m * 128 ^ i := by
        have e1 : (128 + m % 128) % 128 = m % 128 := by omega
        have e2 : m / 128 * 128 ^ (i + 1) = 128 * (m / 128) * 128 ^ i := by rw [Nat.pow_succ, Nat.mul_comm (128 ^ i) 128, ← Nat.mul_assoc, Nat.mul_comm (m / 128) 128]
        have e3 : m * 128 ^ i = (128 * (m / 128) + m % 128) * 128 ^ i := by rw [Nat.div_add_mod]
        rw [e1, e2, e3, Nat.add_mul]
        omega
      have hd : m / 128 < m := Nat.div_lt_self (by omega) (by decide)
      rw [getG_more (by rw [hu]; omega) hi8, hu, getG_put f (m / 128) (i + 1) _ r (by omega) (by omega) (.inr (by omega)) (by rw [e]; exact ht), e]
      simp only [List.length_cons, Prod.mk.injEq, true_and, and_true]
      omega
theorem getB_put {m : Nat} (h : m ≤ 4611686018427387903) (r : List UInt8) : getB (putB m ++ r) = (m, (putB m).length, 0) := by
  have := getG_put (m + 1) m 0 0 r (by omega) (by decide) (.inl rfl) (by simpa using h)
  unfold getB
  simpa using this
theorem nums_put : ∀ (l : List Nat) (r : List UInt8), (∀ m ∈ l, m ≤ 4611686018427387903) → nums l.length (l.flatMap putB ++ r) = (l, 0, r)
  | [], r, _ => rfl
  | m :: l, r, h => by
    have e : (m :: l).flatMap putB ++ r = putB m ++ (l.flatMap putB ++ r) := by rw [List.flatMap_cons, List.append_assoc]
    have hg := getB_put (h m List.mem_cons_self) (l.flatMap putB ++ r)
    rw [e, List.length_cons, nums_ok (by rw [hg]), hg]
    simp only [List.drop_left]
    rw [nums_put l r fun x hx => h x (List.mem_cons_of_mem _ hx)]
def X.R5.nats (x : R5) : List Nat := x.list.map Int.toNat
theorem bytes1_nats (x : R5) : bytes1 x = x.nats.flatMap putB := by
  unfold bytes1 R5.nats
  rw [List.flatMap_map]
theorem mk5_nats {x : R5} (h : ∀ v ∈ x.list, okN v) : mk5 x.nats = x := by
  obtain ⟨a, b, c, d, e⟩ := x
  have h0 := h a (by simp [R5.list])
  have h1 := h b (by simp [R5.list])
  have h2 := h c (by simp [R5.list])
  have h3 := h d (by simp [R5.list])
  have h4 := h e (by simp [R5.list])
  unfold okN at h0 h1 h2 h3 h4
  show (⟨(a.toNat : Int), (b.toNat : Int), (c.toNat : Int), (d.toNat : Int), (e.toNat : Int)⟩ : R5) = _
  rw [Int.toNat_of_nonneg h0.1, Int.toNat_of_nonneg h1.1, Int.toNat_of_nonneg h2.1, Int.toNat_of_nonneg h3.1, Int.toNat_of_nonneg h4.1]
theorem bytes1_pos (x : R5) : 0 < (bytes1 x).length := by
  rw [bytes1_nats]
  show 0 < (putB x.i.toNat ++ _).length
  rw [List.length_append]
  have := putB_pos x.i.toNat
  omega
theorem read_bytes : ∀ (gs : List R5) (f : Nat) (out : List R5), (∀ x ∈ gs, mayR x = true) → (bytesR gs).length ≤ f → readGo f out (bytesR gs) = (out ++ gs, 0, 0)
  | [], f, out, _, _ => by rw [readGo_end rfl, List.append_nil]
  | x :: gs, f, out, h, hf => by
    have hx := h x List.mem_cons_self
    have hok := mayR_ok hx
    have e : bytesR (x :: gs) = bytes1 x ++ bytesR gs := rfl
    have hp := bytes1_pos x
    rw [e, List.length_append] at hf
    obtain ⟨f', rfl⟩ : ∃ f', f = f' + 1 := ⟨f - 1, by omega⟩
    have hn : nums 5 (bytes1 x ++ bytesR gs) = (x.nats, 0, bytesR gs) := by
      rw [bytes1_nats]
      refine nums_put x.nats _ fun m hm => ?_
      unfold X.R5.nats at hm
      rw [List.mem_map] at hm
      obtain ⟨v, hv, rfl⟩ := hm
      have := hok v hv
      unfold okN at this
      omega
    have hu : x.u ≤ 7 := by
      unfold mayR at hx
      rw [Bool.and_eq_true] at hx
      simpa using hx.2
    have hu0 : okN x.u := hok x.u (by simp [R5.list])
    rw [e, readGo, if_neg (by rw [List.length_append]; omega), hn, if_neg (by simp), if_neg (by
      show ¬ 8 ≤ x.u.toNat
      unfold okN at hu0
      omega), mk5_nats hok, read_bytes gs f' (out ++ [x]) (fun y hy => h y (List.mem_cons_of_mem _ hy)) (by omega), List.append_assoc]
    rfl
theorem readB_bytes {gs : List R5} (h : ∀ x ∈ gs, mayR x = true) : readB (bytesR gs) = (gs, 0, 0) := by
  unfold readB
  rw [read_bytes gs _ [] h (Nat.le_refl _), List.nil_append]
end Go.Proofs.Yteaekpnmiicbhaa
