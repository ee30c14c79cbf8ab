/- A number's text reads as the number: plain law. -/
import Derived.Test.YteaekpnmiicbhaaDoorPCan
import Derived.Test.YteaekpnmiicbhaaDoorPGDc
import Derived.Test.YteaekpnmiicbhaaDoorPGPa
namespace Go.Proofs.YteaekpnmiicbhaaDoor
open Go.RowKit X
set_option linter.unusedSimpArgs false
set_option linter.unusedVariables false
theorem loopR_app : ∀ (xs ys : List UInt8) (n : Int), loopR (xs ++ ys) n = if (loopR xs n).2 = 0 then loopR ys (loopR xs n).1 else loopR xs n
  | [], ys, n => by simp [loopR]
  | b :: r, ys, n => by
    simp only [List.cons_append, loopR]
    split
    · exact loopR_app r ys _
    · rename_i h
      first | rfl | (rw [if_neg h]) | simp [h]
theorem step_dig {n d : Nat} (hd : d < 10) (hn : 10 * n + d ≤ 4611686018427387903) : stepR n ((UInt8.ofNat (48 + d)).toNat : Nat) = (((10 * n + d : Nat) : Int), (0 : Int)) := by
  have hx : (UInt8.ofNat (48 + d)).toNat = 48 + d := by rw [UInt8.toNat_ofNat', Nat.mod_eq_of_lt (by omega)]
  rw [hx]
  unfold stepR
  rw [if_neg (by omega), if_neg (by omega)]
  congr 1
  omega
theorem loop_dec : ∀ (f n : Nat), n < f → n ≤ 4611686018427387903 → loopR (decL n) 0 = ((n : Int), 0)
  | 0, n, h, _ => absurd h (Nat.not_lt_zero _)
  | f + 1, n, h, hn => by
    by_cases h10 : n < 10
    · rw [decL_small h10]
      have := step_dig (n := 0) h10 (by omega)
      simp only [loopR]
      rw [show ((0 : Nat) : Int) = 0 from rfl] at this
      rw [this]
      simp
    · rw [decL_big h10, loopR_app, loop_dec f (n / 10) (by omega) (by omega)]
      have := step_dig (n := n / 10) (d := n % 10) (by omega) (by omega)
      simp only [loopR, if_true]
      rw [this]
      simp only [if_true]
      congr 1
      omega
theorem parse_dec (n : Nat) (hn : n ≤ 4611686018427387903) : parseR (decL n) = ((n : Int), 0) := by
  unfold parseR
  rw [if_neg (fun e => by have := digs_ne 10 n; unfold decL at e; simp at e; exact this e), loop_dec (n + 1) n (by omega) hn]
theorem spl_none {c : UInt8} : ∀ {x : List UInt8}, c ∉ x → spl c x = [x]
  | [], _ => rfl
  | b :: r, h => by
    have hb : b ≠ c := fun e => h (e ▸ List.mem_cons_self)
    have ih := spl_none (c := c) (x := r) fun hr => h (List.mem_cons_of_mem _ hr)
    simp [spl, hb, ih]
theorem spl_at {c : UInt8} : ∀ {x : List UInt8} (r : List UInt8), c ∉ x → spl c (x ++ c :: r) = x :: spl c r
  | [], r, _ => by simp [spl]
  | b :: x, r, h => by
    have hb : b ≠ c := fun e => h (e ▸ List.mem_cons_self)
    have ih := spl_at (c := c) (x := x) r fun hr => h (List.mem_cons_of_mem _ hr)
    simp [spl, hb, ih]
theorem decL_dig (n : Nat) : ∀ b ∈ decL n, isDig b := fun b hb => by
  unfold decL at hb
  rw [List.mem_reverse] at hb
  exact (digs_val (n + 1) n (by omega)).2 b hb
theorem decL_no (n : Nat) {c : UInt8} (hc : c.toNat < 48) : c ∉ decL n := fun h => by
  have := decL_dig n c h
  unfold isDig at this
  omega
theorem line_words (a b c d e : Nat) : spl 32 (decL a ++ 32 :: (decL b ++ 32 :: (decL c ++ 32 :: (decL d ++ 32 :: decL e)))) = [decL a, decL b, decL c, decL d, decL e] := by
  rw [spl_at _ (decL_no a (by decide)), spl_at _ (decL_no b (by decide)), spl_at _ (decL_no c (by decide)), spl_at _ (decL_no d (by decide)), spl_none (decL_no e (by decide))]
/-- a record's line, without its end -/
def line0 (x : R5) : List UInt8 := Lib.join (x.list.map fun v => decL v.toNat) [32]
theorem line0_eq (x : R5) : line0 x = decL x.i.toNat ++ 32 :: (decL x.b.toNat ++ 32 :: (decL x.r.toNat ++ 32 :: (decL x.t.toNat ++ 32 :: decL x.u.toNat))) := by
  simp [line0, Lib.join, R5.list]
theorem goL_dec (n : Nat) (hn : n ≤ 4611686018427387903) (r : List (List UInt8)) (ns : List Int) : goL (decL n :: r) ns = goL r (ns ++ [(n : Int)]) := by
  simp only [goL]
  rw [parse_dec n hn]
  simp
theorem line_back {x : R5} (h : mayR x = true) : lineR (line0 x) = (x, 0) := by
  have hk := mayR_ok h
  have hu : x.u ≤ 7 := by
    unfold mayR at h
    rw [Bool.and_eq_true, decide_eq_true_eq] at h
    exact h.2
  obtain ⟨i, b, r, t, u⟩ := x
  have h1 := hk i (by simp [R5.list])
  have h2 := hk b (by simp [R5.list])
  have h3 := hk r (by simp [R5.list])
  have h4 := hk t (by simp [R5.list])
  have h5 := hk u (by simp [R5.list])
  unfold okN at h1 h2 h3 h4 h5
  obtain ⟨i, rfl⟩ : ∃ k : Nat, i = k := ⟨i.toNat, by omega⟩
  obtain ⟨b, rfl⟩ : ∃ k : Nat, b = k := ⟨b.toNat, by omega⟩
  obtain ⟨r, rfl⟩ : ∃ k : Nat, r = k := ⟨r.toNat, by omega⟩
  obtain ⟨t, rfl⟩ : ∃ k : Nat, t = k := ⟨t.toNat, by omega⟩
  obtain ⟨u, rfl⟩ : ∃ k : Nat, u = k := ⟨u.toNat, by omega⟩
  unfold lineR
  rw [line0_eq]
  simp only [Int.toNat_natCast]
  rw [line_words]
  rw [if_neg (by simp), goL_dec _ (by omega), goL_dec _ (by omega), goL_dec _ (by omega), goL_dec _ (by omega), goL_dec _ (by omega)]
  simp only [goL, List.nil_append, List.cons_append]
  unfold endL
  rw [if_neg (by simp)]
  simp only [List.getD_cons_zero, List.getD_cons_succ]
  simp only at hu
  rw [if_neg (by omega)]
  rfl
theorem line0_no (x : R5) : (10 : UInt8) ∉ line0 x := by
  rw [line0_eq]
  have h := fun n => decL_no n (c := 10) (by decide)
  simp only [List.mem_append, List.mem_cons]
  rintro (h1 | h1 | h1 | h1 | h1 | h1 | h1 | h1 | h1)
  · exact h _ h1
  · exact absurd h1 (by decide)
  · exact h _ h1
  · exact absurd h1 (by decide)
  · exact h _ h1
  · exact absurd h1 (by decide)
  · exact h _ h1
  · exact absurd h1 (by decide)
  · exact h _ h1
theorem textR_cons (x : R5) (l : List R5) : textR (x :: l) = line0 x ++ 10 :: textR l := by
  simp [textR, line1, line0]
theorem go_back : ∀ (l : List R5) (i : Nat) (out : List R5), (∀ x ∈ l, mayR x = true) → goP (spl 10 (textR l)) i out = (out ++ l, 0, 0)
  | [], i, out, _ => by simp [textR, spl, goP]
  | x :: l, i, out, h => by
    rw [textR_cons, spl_at _ (line0_no x)]
    simp only [goP]
    rw [if_neg (spl_ne 10 _), line_back (h x List.mem_cons_self)]
    simp only [ne_eq, not_true_eq_false, if_false]
    rw [go_back l (i + 1) (out ++ [x]) fun y hy => h y (List.mem_cons_of_mem _ hy), List.append_assoc]
    rfl
/-- records' text reads as the records -/
theorem text_back {l : List R5} (h : ∀ x ∈ l, mayR x = true) : textP (textR l) = (l, 0, 0) := by
  unfold textP
  rw [go_back l 0 [] h]
  rfl
end Go.Proofs.YteaekpnmiicbhaaDoor
