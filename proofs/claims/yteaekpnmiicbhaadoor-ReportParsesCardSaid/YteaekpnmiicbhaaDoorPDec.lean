/- A number's digits: the iterator; the text; rows of bytes turned. -/
import Derived.Test.YteaekpnmiicbhaaDoorRF
import Derived.Lib.BufferRead
import Derived.Test.YteaekpnmiicbhaaDoorPPut
namespace Go.Proofs.YteaekpnmiicbhaaDoor.X
open Go.RowKit
theorem Flat.u8 {ety : TypeId} {w : World} {D : Nat → Prop} {xs : List UInt8} {cells : List Value} : Flat (Kd.u8 ety) w D xs cells ↔ cells = xs.map fun x => Value.int .u8 x.toNat := by
  constructor
  · rintro ⟨h1, h2⟩
    have h1' : cells.length = xs.length := by rw [h1]; exact Nat.mul_one _
    apply List.ext_getElem
    · rw [List.length_map, h1']
    · intro i h3 h4
      have h5 : i < xs.length := by rw [← h1']; exact h3
      have e : ((cells.drop (i * 1)).take 1) = [.int .u8 xs[i].toNat] := h2 i h5
      rw [Nat.mul_one] at e
      have : cells[i]? = some (.int .u8 xs[i].toNat) := by
        have := congrArg (fun l => l[0]?) e
        simpa using this
      rw [List.getElem?_eq_getElem h3] at this
      rw [List.getElem_map]
      exact Option.some.inj this
  · rintro rfl
    refine ⟨by rw [List.length_map]; exact (Nat.mul_one _).symm, fun i hi => ?_⟩
    show ((xs.map fun x => Value.int .u8 x.toNat).drop (i * 1)).take 1 = [.int .u8 xs[i].toNat]
    rw [Nat.mul_one, List.drop_eq_getElem_cons (by simpa using hi)]
    simp
theorem Own.u8_cell {ety : TypeId} {w : World} {B : Nat} {D : Nat → Prop} {g n c : Nat} {xs : List UInt8} (h : Own (Kd.u8 ety) w B D (.slice (some ⟨g, 0, none⟩) n c) xs) {t : Nat} (ht : t < xs.length) :
    w.cell? ⟨g, t, none⟩ = some (.int .u8 xs[t].toNat) := by
  obtain ⟨A, c', e, _, hs⟩ := h.sl
  obtain ⟨b, o, hA, hc⟩ := hs.u8_at ht
  cases e
  cases hA
  simpa using hc
theorem Own.u8_set {ety : TypeId} {w : World} {B : Nat} {D : Nat → Prop} {g n c : Nat} {xs : List UInt8} (h : Own (Kd.u8 ety) w B D (.slice (some ⟨g, 0, none⟩) n c) xs) (t : Nat) (x : UInt8) :
    Own (Kd.u8 ety) (w.setCell ⟨g, t, none⟩ (.int .u8 x.toNat)) B D (.slice (some ⟨g, 0, none⟩) n c) (xs.set t x) ∧ w.grownBy (w.setCell ⟨g, t, none⟩ (.int .u8 x.toNat)) (some g) := by
  obtain ⟨cells, ⟨ho, hnd⟩, hf⟩ := h
  have hn : xs.length = n := by
    rcases ho.2 with ⟨e, _⟩ | ⟨_, _, _, e, _⟩
    · cases e
    · cases e; rfl
  subst hn
  obtain ⟨h1, h2⟩ := ho.stored t (.int .u8 x.toNat)
  refine ⟨⟨cells.set t (.int .u8 x.toNat), ⟨by rw [List.length_set]; exact h1, hnd⟩, ?_⟩, h2⟩
  rw [Flat.u8] at hf ⊢
  rw [hf, List.map_set]
/-- a text -/
abbrev strV (l : List UInt8) : Value := .string ⟨l.toArray⟩
theorem conv_sl {P : Program} {src dst ety : TypeId} (hs : P.underlying src = some (.slice ety)) (he : P.underlying ety = some (.int .u8)) (hd : P.underlying dst = some .string) {w : World} {D : Nat → Prop} {A : Option Addr} {xs : List UInt8} (h : Sl (Kd.u8 ety) w D A xs) (c : Nat) (hA : xs = [] → A = none ∨ ∃ b o, A = some ⟨b, o, none⟩) :
    (convert src dst (.slice A xs.length c)).run P w = .ok (strV xs) w := by
  rcases xs with _ | ⟨x, r⟩
  · rcases hA rfl with rfl | ⟨b, o, rfl⟩
    · exact Lib.run_convert_nil_bytes w src dst ety c hs he hd
    · exact run_convert_bytes_back w src dst ety ⟨b, o, none⟩ c [] hs he hd fun j hj => absurd hj (Nat.not_lt_zero j)
  · obtain ⟨b, o, rfl, _⟩ := h.u8_at (i := 0) (by simp)
    refine run_convert_bytes_back w src dst ety ⟨b, o, none⟩ c (x :: r) hs he hd fun j hj => ?_
    obtain ⟨b', o', e, hc⟩ := h.u8_at (i := j) hj
    cases e
    have hadd : (⟨b, o, none⟩ : Addr).add j = ⟨b, o + j, none⟩ := by unfold Addr.add; split <;> simp_all
    rw [hadd]
    exact hc
end Go.Proofs.YteaekpnmiicbhaaDoor.X
namespace Go.Proofs.YteaekpnmiicbhaaDoor
open Go.RowKit X
set_option maxHeartbeats 1000000
set_option maxRecDepth 8000
set_option linter.unusedSimpArgs false
set_option linter.unusedVariables false
/-- a number's digits, the lowest first -/
def digs (b n : Nat) : List Nat := if h : n < b ∨ b < 2 then [n % b] else n % b :: digs b (n / b)
termination_by n
decreasing_by exact Nat.div_lt_self (by omega) (by omega)
theorem digs_one {b n : Nat} (h : n < b) : digs b n = [n % b] := by rw [digs, dif_pos (.inl h)]
theorem digs_more {b n : Nat} (h : ¬ n < b) (hb : 2 ≤ b) : digs b n = n % b :: digs b (n / b) := by rw [digs, dif_neg (by omega)]
theorem digs_lt (b : Nat) (hb : 2 ≤ b) : ∀ (f n : Nat), n < f → ∀ d ∈ digs b n, d < b
  | 0, n, h => absurd h (Nat.not_lt_zero _)
  | f + 1, n, h => by
    by_cases hn : n < b
    · rw [digs_one hn]
      intro d hd
      rw [List.mem_singleton] at hd
      subst hd
      exact Nat.mod_lt _ (by omega)
    · rw [digs_more hn hb]
      intro d hd
      rw [List.mem_cons] at hd
      rcases hd with rfl | hd
      · exact Nat.mod_lt _ (by omega)
      · exact digs_lt b hb f (n / b) (by have := Nat.div_lt_self (n := n) (k := b) (by omega) (by omega); omega) d hd
theorem digs_len (b : Nat) (hb : 2 ≤ b) : ∀ (k n : Nat), n < b ^ (k + 1) → (digs b n).length ≤ k + 1
  | 0, n, h => by rw [digs_one (by simpa using h)]; simp
  | k + 1, n, h => by
    by_cases hn : n < b
    · rw [digs_one hn]; simp
    · rw [digs_more hn hb, List.length_cons]
      have := digs_len b hb k (n / b) (by rw [Nat.div_lt_iff_lt_mul (by omega)]; rw [Nat.pow_succ] at h; exact h)
      omega
theorem digs_ne (b n : Nat) : digs b n ≠ [] := by rw [digs]; split <;> simp
def cellNat (w : World) (g : Nat) : Nat := match w.cell? ⟨g, 0, none⟩ with | some (.int _ n) => n.toNat | _ => 0
/-- the iterator's cells -/
def DgC (W : World) (g1 g2 n b : Nat) : Prop := W.heap[g1]? = some (.cells #[.int .u64 n] 83 (0, 0)) ∧ W.heap[g2]? = some (.cells #[.int .u64 b] 83 (0, 0))
/-- its own steps -/
def DgE (g1 : Nat) (A B : World) : Prop := Chg (fun k => k = g1) A B ∧ (∀ (m : Nat), A.heap[g1]? = some (.cells #[.int .u64 m] 83 (0, 0)) → ∃ m' : Nat, B.heap[g1]? = some (.cells #[.int .u64 m'] 83 (0, 0)))
theorem cellNat_of {w : World} {g m : Nat} (h : w.heap[g]? = some (.cells #[.int .u64 m] 83 (0, 0))) : cellNat w g = m := by
  unfold cellNat
  rw [cell_of_heap (j := 0) h rfl]
  rfl
theorem heap_set1 {w : World} {g m q : Nat} (h : w.heap[g]? = some (.cells #[.int .u64 m] 83 (0, 0))) : (w.setCell ⟨g, 0, none⟩ (.int .u64 q)).heap[g]? = some (.cells #[.int .u64 q] 83 (0, 0)) := by
  have S := (SH.start1 (F := fun b => b = g) (h := Cel g 83 [.int .u64 m]) (w := w) (I := No) ⟨h, rfl⟩ (fun b hb => by rw [show b = g from hb]; exact lt_of_heap h) (fun _ hb => hb.elim) (fun _ _ hb => hb)).put 0 0 (.int .u64 q) rfl
  exact S.cel 0 rfl
theorem dgc_set {W : World} {g1 g2 m b : Nat} (h : DgC W g1 g2 m b) (hg : g1 ≠ g2) (q : Nat) : DgC (W.setCell ⟨g1, 0, none⟩ (.int .u64 q)) g1 g2 q b :=
  ⟨heap_set1 h.1, by rw [Below.heap_setCell _ _ _ _ (fun e => hg e.symm)]; exact h.2⟩
theorem dge_set {W : World} {g1 g2 m b : Nat} (h : DgC W g1 g2 m b) (q : Nat) : DgE g1 W (W.setCell ⟨g1, 0, none⟩ (.int .u64 q)) :=
  ⟨Chg.of_set rfl, fun m' hm => ⟨q, heap_set1 hm⟩⟩
theorem digclo_c (b n g1 g2 : Nat) (hb : 2 ≤ b) (hb2 : b < 256) (hn : n < 18446744073709551616) (hg : g1 ≠ g2) :
    Gives Tryd.prog 51 #[.pointer (some ⟨g1, 0, none⟩), .pointer (some ⟨g2, 0, none⟩)] (fun d : Nat => #[.int .u8 d]) (DgE g1) (fun W W' => ∀ m q, DgC W g1 g2 m q → DgC W' g1 g2 m q) (fun W => DgC W g1 g2 n b) (digs b n) := by
  intro lo J Jx hJ hJx hY w hw hJ0
  have HY := As.mk hY
  have HJ := As.mk hJ
  have HJX := As.mk hJx
  have HW := As.mk hw
  have HJ0 := As.mk hJ0
  clear hY hJ hJx hJ0 hw
  refine callsIn_of_wp Tryd.func51 rfl trivial ?_ rfl; simp only [Tryd.ntmps51, List.size_toArray, List.length_cons, List.length_nil, Nat.reduceAdd, Nat.reduceSub, Array.replicate_succ, Array.replicate_zero, List.push_toArray, List.append_toArray, List.nil_append, List.cons_append]
  gi_wp2_with fail
  gi_loopw [4] (fun _ w' => ∃ (m : Nat) (pre : List Nat), m ≤ n ∧ As (pre ++ digs b m = digs b n) ∧ As (DgC w' g1 g2 m b) ∧ As (J pre w')) (fun _ w' => cellNat w' g1)
  case atStart => exact ⟨n, [], Nat.le_refl _, ⟨rfl⟩, HW, HJ0⟩
  case round =>
    clear HW HJ0
    obtain ⟨m, pre, hm, HP, HW, HJ0⟩ := hrel
    obtain ⟨hd1, hd2⟩ := HW.out
    have h1 := cell_of_heap (j := 0) hd1 rfl
    have h2 := cell_of_heap (j := 0) hd2 rfl
    have f1 : wr.frozen? ⟨g1, 0, none⟩ = false := frozen_of_row wr g1 0 _ _ hd1
    have hrem : m % b < 256 := by have := Nat.mod_lt m (show b > 0 by omega); omega
    have hb0 : ((b : Int) == 0) = false := by rw [beq_eq_false_iff_ne]; omega
    have HPR : As ((pre ++ [m % b]) <+: digs b n) := ⟨by
      rw [← HP.out, digs]
      split
      · exact List.prefix_rfl
      · exact ⟨digs b (m / b), by simp⟩⟩
    clear hd1 hd2
    gi_wp2_with fail
    obtain ⟨fn, tmps, assign, body, hy, hR⟩ := HY.out pre (m % b) wr HPR.out HJ0.out
    replace hy : (Instr.yield lo #[Value.int .u8 ((m : Int) % (b : Int))]).run Tryd.prog wr = _ := hy
    rw [hy]
    clear hy
    gi_wp2_with fail
    refine hR.mono ?_
    clear hR h1 h2 f1
    rintro e1 W3 (⟨rfl, hJ3, hk3⟩ | ⟨rfl, hJx3⟩)
    · have HI3 := As.mk (hk3 m b HW.out)
      have HJ3 := As.mk hJ3
      clear hk3 hJ3
      obtain ⟨hd1, hd2⟩ := HI3.out
      have h1 := cell_of_heap (j := 0) hd1 rfl
      have h2 := cell_of_heap (j := 0) hd2 rfl
      have f1 : W3.frozen? ⟨g1, 0, none⟩ = false := frozen_of_row W3 g1 0 _ _ hd1
      clear hd1 hd2
      by_cases hmb : m < b
      · have hge : decide ((m : Int) ≥ b) = false := by simp; omega
        have HE : As (digs b n = pre ++ [m % b]) := ⟨by rw [← HP.out, digs_one hmb]⟩
        gi_wp2_with fail
        go_end0
        exact ⟨⟨_, rfl⟩, .inl (by rw [HE.out]; exact HJ3.out)⟩
      · have hge : decide ((m : Int) ≥ b) = true := by simp; omega
        have HE : As ((pre ++ [m % b]) ++ digs b (m / b) = digs b n) := ⟨by rw [← HP.out, digs_more hmb hb]; simp⟩
        have hdm : m / b < m := Nat.div_lt_self (by omega) (by omega)
        obtain ⟨q, hq⟩ : ∃ q, m / b = q := ⟨_, rfl⟩
        have hqI : (m : Int) / (b : Int) = q := by rw [← hq, Int.natCast_ediv]
        rw [hq] at HE hdm
        have HQ : As (IntKind.u64.wrap ((m : Int) / (b : Int)) = q) := ⟨by rw [hqI, IntKind.wrap_u64]; omega⟩
        clear hq hqI
        gi_wp2_with fail
        rw [HQ.out]
        have HI4 := As.mk (dgc_set HI3.out hg q)
        have HJ4 := As.mk (HJ.out _ _ _ HJ3.out (dge_set HI3.out q))
        go_roundw
        case rel => exact ⟨q, pre ++ [m % b], by omega, HE, HI4, HJ4⟩
        case measure =>
          rw [cellNat_of HI4.out.1, cellNat_of HW.out.1]
          exact hdm
    · have HJ3 := As.mk hJx3
      clear hJx3
      gi_wp2_with fail
      go_end0
      exact ⟨⟨_, rfl⟩, .inr ⟨_, HPR.out, HJ3.out⟩⟩
end Go.Proofs.YteaekpnmiicbhaaDoor
