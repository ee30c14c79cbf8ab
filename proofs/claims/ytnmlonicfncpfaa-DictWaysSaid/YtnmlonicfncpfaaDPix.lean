/- Pixels: the program's. -/
import Derived.Test.YtnmlonicfncpfaaDKd
import Derived.Laws.Bits64b
namespace Go.Proofs.Ytnmlonicfncpfaa
open Go.RowKit X
set_option maxHeartbeats 1000000
set_option maxRecDepth 8000
set_option linter.unusedSimpArgs false
set_option linter.unusedVariables false
/-- a number that a pixel holds -/
def U64 (x : Int) : Prop := 0 ≤ x ∧ x < 18446744073709551616
theorem and_low {x : Int} (h : U64 x) : bits BinOp.and IntKind.u64 x 65535 = x % 65536 := by
  obtain ⟨h0, h1⟩ := h
  have h := bits_and_u64_nat x.toNat 65535 (by omega) (by omega)
  rw [show (65535 : Nat) = 2 ^ 16 - 1 from rfl, Nat.and_two_pow_sub_one_eq_mod, Int.toNat_of_nonneg h0] at h
  have h2 : ((x.toNat % 2 ^ 16 : Nat) : Int) = x % 65536 := by omega
  exact h.trans h2
theorem Sl.sub {α : Type} {k : Kd α} {w : World} {D : Nat → Prop} {b o : Nat} {xs : List α} (h : Sl k w D (some ⟨b, o, none⟩) xs) (n : Nat) : Sl k w D (some ⟨b, o + n * k.size, none⟩) (xs.drop n) := by
  intro i hi
  rw [List.length_drop] at hi
  obtain ⟨b', o', cs, e, hb, hd, hr, hl, hc⟩ := h (n + i) (by omega)
  cases e
  exact ⟨b, _, cs, rfl, hb, hd, by rw [List.getElem_drop]; exact hr, hl, fun j u hj => by have := hc j u hj; rwa [show o + n * k.size + i * k.size + j = o + (n + i) * k.size + j by rw [Nat.add_mul]; omega]⟩
theorem flat_int {w : World} {D : Fp} {ety : TypeId} {ik : IntKind} (xs : List Int) : Flat (Kd.int ety ik) w D xs (xs.map (Value.int ik)) := by
  refine ⟨by rw [List.length_map]; exact (Nat.mul_one _).symm, fun i hi => ?_⟩
  show ((xs.map (Value.int ik)).drop (i * 1)).take 1 = [Value.int ik xs[i]]
  rw [Nat.mul_one, List.drop_eq_getElem_cons (by rw [List.length_map]; exact hi)]
  simp
def unpackL (p : Int) : List Int := if p / 281474976710656 = 3 then [p / 4294967296 % 65536, p / 65536 % 65536, p % 65536] else if p / 281474976710656 = 1 ∧ p / 4294967296 % 65536 = 0 ∧ p / 65536 % 65536 = 0 then [p % 65536] else []
theorem unpack_c (p : Int) (hp : U64 p) (w : World) (I : Fp) (hI : ∀ b, I b → b < w.heap.size) {l : List Int} (hl : unpackL p = l) :
    Calls Try.prog 68 #[.int .u64 p] w fun e w' => ∃ A c, e = .returned (.slice A l.length c) ∧ l.length ≤ c ∧ Upd w No I w' (Im kI A l) := by
  have S := SH.start w I hI
  obtain ⟨h0, h1⟩ := hp
  have b1 := and_low (x := p / 4294967296) ⟨by omega, by omega⟩
  have b2 := and_low (x := p / 65536) ⟨by omega, by omega⟩
  have b3 := and_low (x := p) ⟨by omega, by omega⟩
  unfold unpackL at hl
  obtain ⟨a, ha⟩ : ∃ a, p / 4294967296 % 65536 = a := ⟨_, rfl⟩
  obtain ⟨b, hb⟩ : ∃ b, p / 65536 % 65536 = b := ⟨_, rfl⟩
  obtain ⟨c, hc⟩ : ∃ c, p % 65536 = c := ⟨_, rfl⟩
  have w1 : wrap64 a = a := IntWalk.wrap64_in _ ⟨by omega, by omega⟩
  have w2 : wrap64 b = b := IntWalk.wrap64_in _ ⟨by omega, by omega⟩
  have w3 : wrap64 c = c := IntWalk.wrap64_in _ ⟨by omega, by omega⟩
  rw [ha] at b1 hl
  rw [hb] at b2 hl
  rw [hc] at b3 hl
  clear ha hb hc
  obtain ⟨n, hn⟩ : ∃ n, p / 281474976710656 = n := ⟨_, rfl⟩
  rw [hn] at hl
  have HL := As.mk hl
  clear hl
  by_cases h3 : n = 3
  · have hn3 : (p / 281474976710656 == 3) = true := by rw [hn, h3]; rfl
    have HL2 : As ([a, b, c] = l) := ⟨by rw [← HL.out, if_pos h3]⟩
    obtain rfl := HL2.out
    clear hn h3 HL HL2 h0 h1
    have hc := S.cells; simp only [Cells, cellsC, Im, Row, El, Nat.zero_add, Nat.reduceAdd] at hc
    go_enter Try.func68, Try.ntmps68
    go_wp2_with (first | ((first | (with_reducible refine wpl_seal S ?_) | (with_reducible refine cw_seal S ?_) | (with_reducible refine bp_seal S ?_) | (with_reducible refine ca_seal S ?_)); clear S; (try clear hc); intro w1 S; (try simp only [List.set_cons_zero, List.set_cons_succ, List.nil_append] at S); have hc := S.cells; simp only [Cells, cellsC, Im, Row, El, Nat.zero_add, Nat.reduceAdd] at hc))
    go_ret
    obtain ⟨J, S1, -⟩ := S.lit 0 rfl (k := kI) (xs := [a, b, c]) (flat_int _)
    exact ⟨_, _, rfl, by simp, S1.ret 0 rfl⟩
  · have hn3 : (p / 281474976710656 == 3) = false := by rw [hn, beq_eq_false_iff_ne]; exact h3
    by_cases h4 : n = 1 ∧ a = 0 ∧ b = 0
    · have HL2 : As ([c] = l) := ⟨by rw [← HL.out, if_neg h3, if_pos h4]⟩
      obtain rfl := HL2.out
      have hn1 : (p / 281474976710656 == 1) = true := by rw [hn, h4.1]; rfl
      obtain ⟨-, ha, hb⟩ := h4
      subst ha hb
      clear hn h3 HL HL2 h0 h1
      have hc := S.cells; simp only [Cells, cellsC, Im, Row, El, Nat.zero_add, Nat.reduceAdd] at hc
      go_enter Try.func68, Try.ntmps68
      go_wp2_with (first | ((first | (with_reducible refine wpl_seal S ?_) | (with_reducible refine cw_seal S ?_) | (with_reducible refine bp_seal S ?_) | (with_reducible refine ca_seal S ?_)); clear S; (try clear hc); intro w1 S; (try simp only [List.set_cons_zero, List.set_cons_succ, List.nil_append] at S); have hc := S.cells; simp only [Cells, cellsC, Im, Row, El, Nat.zero_add, Nat.reduceAdd] at hc))
      go_ret
      obtain ⟨J, S1, -⟩ := S.lit 0 rfl (k := kI) (xs := [0, 0, c]) (flat_int _)
      have S2 := S1.know (h := Im kI (some ⟨w.heap.size, 2, none⟩) [c]) (by have := Sl.sub (S1.im 0 rfl) 2; rwa [show 0 + 2 * kI.size = 2 from rfl] at this)
      exact ⟨_, _, rfl, by simp, S2.ret 0 rfl⟩
    · have HL2 : As ([] = l) := ⟨by rw [← HL.out, if_neg h3, if_neg h4]⟩
      obtain rfl := HL2.out
      have fin : ∀ w' : World, SH No I w [Ob.cel w.heap.size 133 [.int .i64 a, .int .i64 b, .int .i64 c]] w' I → Upd w No I w' (Im kI none []) := fun w' S => (S.know (h := Im kI none []) Sl.nil).ret 0 rfl
      by_cases h5 : n = 1
      · have hn1 : (p / 281474976710656 == 1) = true := by rw [hn, h5]; rfl
        by_cases h6 : a = 0
        · have h7 : (b == 0) = false := by rw [beq_eq_false_iff_ne]; exact fun e => h4 ⟨h5, h6, e⟩
          subst h6
          clear hn h3 HL HL2 h0 h1 h4 h5
          have hc := S.cells; simp only [Cells, cellsC, Im, Row, El, Nat.zero_add, Nat.reduceAdd] at hc
          go_enter Try.func68, Try.ntmps68
          go_wp2_with (first | ((first | (with_reducible refine wpl_seal S ?_) | (with_reducible refine cw_seal S ?_) | (with_reducible refine bp_seal S ?_) | (with_reducible refine ca_seal S ?_)); clear S; (try clear hc); intro w1 S; (try simp only [List.set_cons_zero, List.set_cons_succ, List.nil_append] at S); have hc := S.cells; simp only [Cells, cellsC, Im, Row, El, Nat.zero_add, Nat.reduceAdd] at hc))
          go_ret
          exact ⟨_, _, rfl, by simp, fin _ S⟩
        · have h7 : (a == 0) = false := by rw [beq_eq_false_iff_ne]; exact h6
          clear hn h3 HL HL2 h0 h1 h4 h5 h6
          have hc := S.cells; simp only [Cells, cellsC, Im, Row, El, Nat.zero_add, Nat.reduceAdd] at hc
          go_enter Try.func68, Try.ntmps68
          go_wp2_with (first | ((first | (with_reducible refine wpl_seal S ?_) | (with_reducible refine cw_seal S ?_) | (with_reducible refine bp_seal S ?_) | (with_reducible refine ca_seal S ?_)); clear S; (try clear hc); intro w1 S; (try simp only [List.set_cons_zero, List.set_cons_succ, List.nil_append] at S); have hc := S.cells; simp only [Cells, cellsC, Im, Row, El, Nat.zero_add, Nat.reduceAdd] at hc))
          go_ret
          exact ⟨_, _, rfl, by simp, fin _ S⟩
      · have hn1 : (p / 281474976710656 == 1) = false := by rw [hn, beq_eq_false_iff_ne]; exact h5
        clear hn h3 HL HL2 h0 h1 h4 h5
        have hc := S.cells; simp only [Cells, cellsC, Im, Row, El, Nat.zero_add, Nat.reduceAdd] at hc
        go_enter Try.func68, Try.ntmps68
        go_wp2_with (first | ((first | (with_reducible refine wpl_seal S ?_) | (with_reducible refine cw_seal S ?_) | (with_reducible refine bp_seal S ?_) | (with_reducible refine ca_seal S ?_)); clear S; (try clear hc); intro w1 S; (try simp only [List.set_cons_zero, List.set_cons_succ, List.nil_append] at S); have hc := S.cells; simp only [Cells, cellsC, Im, Row, El, Nat.zero_add, Nat.reduceAdd] at hc))
        go_ret
        exact ⟨_, _, rfl, by simp, fin _ S⟩
/-- a format that may be -/
def formP (c m : Int) : Bool := (decide (c = 1) || decide (c = 3)) && decide (1 ≤ m) && decide (m ≤ 65535)
theorem formP_iff {c m : Int} : formP c m = true ↔ (c = 1 ∨ c = 3) ∧ 1 ≤ m ∧ m ≤ 65535 := by
  unfold formP
  simp [and_assoc]
theorem format_c (c m : Int) (w : World) (I : Fp) (hI : ∀ b, I b → b < w.heap.size) {r : Bool} (hr : formP c m = r) :
    Calls Try.prog 69 #[.agg #[.int .i64 c, .int .i64 m]] w fun e w' => e = .returned (.bool r) ∧ Ext w w' := by
  have S := SH.start w I hI
  have hc := S.cells; simp only [Cells, cellsC, Im, Row, El, Nat.zero_add, Nat.reduceAdd] at hc
  have fin : ∀ b : Bool, (b = true ↔ (c = 1 ∨ c = 3) ∧ 1 ≤ m ∧ m ≤ 65535) → b = r := fun b h => by rw [← hr, Bool.eq_iff_iff, h, formP_iff]
  clear hr
  have F := As.mk fin
  clear fin
  by_cases h1 : c = 1
  · have h1' : (c == 1) = true := by rw [h1]; rfl
    go_enter Try.func69, Try.ntmps69
    go_wp2_with (first | ((first | (with_reducible refine wpl_seal S ?_) | (with_reducible refine cw_seal S ?_) | (with_reducible refine bp_seal S ?_) | (with_reducible refine ca_seal S ?_)); clear S; (try clear hc); intro w1 S; (try simp only [List.set_cons_zero, List.set_cons_succ, List.nil_append] at S); have hc := S.cells; simp only [Cells, cellsC, Im, Row, El, Nat.zero_add, Nat.reduceAdd] at hc))
    all_goals (go_ret; exact ⟨congrArg (fun b => Ending.returned (.bool b)) (F.out _ (by simp; omega)), S.out⟩)
  · have h1' : (c == 1) = false := by rw [beq_eq_false_iff_ne]; exact h1
    by_cases h2 : c = 3
    · have h2' : (c == 3) = true := by rw [h2]; rfl
      go_enter Try.func69, Try.ntmps69
      go_wp2_with (first | ((first | (with_reducible refine wpl_seal S ?_) | (with_reducible refine cw_seal S ?_) | (with_reducible refine bp_seal S ?_) | (with_reducible refine ca_seal S ?_)); clear S; (try clear hc); intro w1 S; (try simp only [List.set_cons_zero, List.set_cons_succ, List.nil_append] at S); have hc := S.cells; simp only [Cells, cellsC, Im, Row, El, Nat.zero_add, Nat.reduceAdd] at hc))
      all_goals (go_ret; exact ⟨congrArg (fun b => Ending.returned (.bool b)) (F.out _ (by simp; omega)), S.out⟩)
    · have h2' : (c == 3) = false := by rw [beq_eq_false_iff_ne]; exact h2
      go_enter Try.func69, Try.ntmps69
      go_wp2_with (first | ((first | (with_reducible refine wpl_seal S ?_) | (with_reducible refine cw_seal S ?_) | (with_reducible refine bp_seal S ?_) | (with_reducible refine ca_seal S ?_)); clear S; (try clear hc); intro w1 S; (try simp only [List.set_cons_zero, List.set_cons_succ, List.nil_append] at S); have hc := S.cells; simp only [Cells, cellsC, Im, Row, El, Nat.zero_add, Nat.reduceAdd] at hc))
      all_goals (go_ret; exact ⟨congrArg (fun b => Ending.returned (.bool b)) (F.out _ (by simp; omega)), S.out⟩)
end Go.Proofs.Ytnmlonicfncpfaa
