/- Pixels: the program's. Rectangles: whether a matrix may be; a new one; a number of it. Whether a pixel is of a format. Whether an image may be. -/
import Derived.Test.YtnmlonicfncpfaaGreatDKd
import Derived.Laws.Bits64b
import Derived.Test.YtnmlonicfncpfaaGreatShelf
namespace Go.Proofs.YtnmlonicfncpfaaGreat
open Go.RowKit X
set_option maxHeartbeats 1000000
set_option maxRecDepth 8000
set_option linter.unusedSimpArgs false
set_option linter.unusedVariables false
/-- a number that a pixel holds -/
def U64 (x : Int) : Prop := 0 ≤ x ∧ x < 18446744073709551616
theorem and_low {x : Int} (h : U64 x) : bits BinOp.and IntKind.u64 x 65535 = x % 65536 := by
  obtain ⟨h0, h1⟩ := h
  have h := bits_and_u64_nat x.toNat 65535 (by omega) (by omega)
  rw [show (65535 : Nat) = 2 ^ 16 - 1 from rfl, Nat.and_two_pow_sub_one_eq_mod, Int.toNat_of_nonneg h0] at h
  have h2 : ((x.toNat % 2 ^ 16 : Nat) : Int) = x % 65536 := by omega
  exact h.trans h2
theorem Sl.sub {α : Type} {k : Kd α} {w : World} {D : Nat → Prop} {b o : Nat} {xs : List α} (h : Sl k w D (some ⟨b, o, none⟩) xs) (n : Nat) : Sl k w D (some ⟨b, o + n * k.size, none⟩) (xs.drop n) := by
  intro i hi
  rw [List.length_drop] at hi
  obtain ⟨b', o', cs, e, hb, hd, hr, hl, hc⟩ := h (n + i) (by omega)
  cases e
  exact ⟨b, _, cs, rfl, hb, hd, by rw [List.getElem_drop]; exact hr, hl, fun j u hj => by have := hc j u hj; rwa [show o + n * k.size + i * k.size + j = o + (n + i) * k.size + j by rw [Nat.add_mul]; omega]⟩
theorem flat_int {w : World} {D : Fp} {ety : TypeId} {ik : IntKind} (xs : List Int) : Flat (Kd.int ety ik) w D xs (xs.map (Value.int ik)) := by
  refine ⟨by rw [List.length_map]; exact (Nat.mul_one _).symm, fun i hi => ?_⟩
  show ((xs.map (Value.int ik)).drop (i * 1)).take 1 = [Value.int ik xs[i]]
  rw [Nat.mul_one, List.drop_eq_getElem_cons (by rw [List.length_map]; exact hi)]
  simp
def unpackL (p : Int) : List Int := if p / 281474976710656 = 3 then [p / 4294967296 % 65536, p / 65536 % 65536, p % 65536] else if p / 281474976710656 = 1 ∧ p / 4294967296 % 65536 = 0 ∧ p / 65536 % 65536 = 0 then [p % 65536] else []
theorem unpack_c (p : Int) (hp : U64 p) (w : World) (I : Fp) (hI : ∀ b, I b → b < w.heap.size) {l : List Int} (hl : unpackL p = l) :
    Calls Tryz.prog 87 #[.int .u64 p] w fun e w' => ∃ A c, e = .returned (.slice A l.length c) ∧ l.length ≤ c ∧ Upd w No I w' (Im kI A l) := by
  have S := SH.start w I hI
  obtain ⟨h0, h1⟩ := hp
  have b1 := and_low (x := p / 4294967296) ⟨by omega, by omega⟩
  have b2 := and_low (x := p / 65536) ⟨by omega, by omega⟩
  have b3 := and_low (x := p) ⟨by omega, by omega⟩
  unfold unpackL at hl
  obtain ⟨a, ha⟩ : ∃ a, p / 4294967296 % 65536 = a := ⟨_, rfl⟩
  obtain ⟨b, hb⟩ : ∃ b, p / 65536 % 65536 = b := ⟨_, rfl⟩
  obtain ⟨c, hc⟩ : ∃ c, p % 65536 = c := ⟨_, rfl⟩
  have w1 : wrap64 a = a := IntWalk.wrap64_in _ ⟨by omega, by omega⟩
  have w2 : wrap64 b = b := IntWalk.wrap64_in _ ⟨by omega, by omega⟩
  have w3 : wrap64 c = c := IntWalk.wrap64_in _ ⟨by omega, by omega⟩
  rw [ha] at b1 hl
  rw [hb] at b2 hl
  rw [hc] at b3 hl
  clear ha hb hc
  obtain ⟨n, hn⟩ : ∃ n, p / 281474976710656 = n := ⟨_, rfl⟩
  rw [hn] at hl
  have HL := As.mk hl
  clear hl
  by_cases h3 : n = 3
  · have hn3 : (p / 281474976710656 == 3) = true := by rw [hn, h3]; rfl
    have HL2 : As ([a, b, c] = l) := ⟨by rw [← HL.out, if_pos h3]⟩
    obtain rfl := HL2.out
    clear hn h3 HL HL2 h0 h1
    have hc := S.cells; simp only [Cells, cellsC, Im, Row, El, Nat.zero_add, Nat.reduceAdd] at hc
    go_enter Tryz.func87, Tryz.ntmps87
    go_wp2_with (first | ((first | (with_reducible refine wpl_seal S ?_) | (with_reducible refine cw_seal S ?_) | (with_reducible refine bp_seal S ?_) | (with_reducible refine ca_seal S ?_)); clear S; (try clear hc); intro w1 S; (try simp only [List.set_cons_zero, List.set_cons_succ, List.nil_append] at S); have hc := S.cells; simp only [Cells, cellsC, Im, Row, El, Nat.zero_add, Nat.reduceAdd] at hc))
    go_ret
    obtain ⟨J, S1, -⟩ := S.lit 0 rfl (k := kI) (xs := [a, b, c]) (flat_int _)
    exact ⟨_, _, rfl, by simp, S1.ret 0 rfl⟩
  · have hn3 : (p / 281474976710656 == 3) = false := by rw [hn, beq_eq_false_iff_ne]; exact h3
    by_cases h4 : n = 1 ∧ a = 0 ∧ b = 0
    · have HL2 : As ([c] = l) := ⟨by rw [← HL.out, if_neg h3, if_pos h4]⟩
      obtain rfl := HL2.out
      have hn1 : (p / 281474976710656 == 1) = true := by rw [hn, h4.1]; rfl
      obtain ⟨-, ha, hb⟩ := h4
      subst ha hb
      clear hn h3 HL HL2 h0 h1
      have hc := S.cells; simp only [Cells, cellsC, Im, Row, El, Nat.zero_add, Nat.reduceAdd] at hc
      go_enter Tryz.func87, Tryz.ntmps87
      go_wp2_with (first | ((first | (with_reducible refine wpl_seal S ?_) | (with_reducible refine cw_seal S ?_) | (with_reducible refine bp_seal S ?_) | (with_reducible refine ca_seal S ?_)); clear S; (try clear hc); intro w1 S; (try simp only [List.set_cons_zero, List.set_cons_succ, List.nil_append] at S); have hc := S.cells; simp only [Cells, cellsC, Im, Row, El, Nat.zero_add, Nat.reduceAdd] at hc))
      go_ret
      obtain ⟨J, S1, -⟩ := S.lit 0 rfl (k := kI) (xs := [0, 0, c]) (flat_int _)
      have S2 := S1.know (h := Im kI (some ⟨w.heap.size, 2, none⟩) [c]) (by have := Sl.sub (S1.im 0 rfl) 2; rwa [show 0 + 2 * kI.size = 2 from rfl] at this)
      exact ⟨_, _, rfl, by simp, S2.ret 0 rfl⟩
    · have HL2 : As ([] = l) := ⟨by rw [← HL.out, if_neg h3, if_neg h4]⟩
      obtain rfl := HL2.out
      have fin : ∀ w' : World, SH No I w [Ob.cel w.heap.size 158 [.int .i64 a, .int .i64 b, .int .i64 c]] w' I → Upd w No I w' (Im kI none []) := fun w' S => (S.know (h := Im kI none []) Sl.nil).ret 0 rfl
      by_cases h5 : n = 1
      · have hn1 : (p / 281474976710656 == 1) = true := by rw [hn, h5]; rfl
        by_cases h6 : a = 0
        · have h7 : (b == 0) = false := by rw [beq_eq_false_iff_ne]; exact fun e => h4 ⟨h5, h6, e⟩
          subst h6
          clear hn h3 HL HL2 h0 h1 h4 h5
          have hc := S.cells; simp only [Cells, cellsC, Im, Row, El, Nat.zero_add, Nat.reduceAdd] at hc
          go_enter Tryz.func87, Tryz.ntmps87
          go_wp2_with (first | ((first | (with_reducible refine wpl_seal S ?_) | (with_reducible refine cw_seal S ?_) | (with_reducible refine bp_seal S ?_) | (with_reducible refine ca_seal S ?_)); clear S; (try clear hc); intro w1 S; (try simp only [List.set_cons_zero, List.set_cons_succ, List.nil_append] at S); have hc := S.cells; simp only [Cells, cellsC, Im, Row, El, Nat.zero_add, Nat.reduceAdd] at hc))
          go_ret
          exact ⟨_, _, rfl, by simp, fin _ S⟩
        · have h7 : (a == 0) = false := by rw [beq_eq_false_iff_ne]; exact h6
          clear hn h3 HL HL2 h0 h1 h4 h5 h6
          have hc := S.cells; simp only [Cells, cellsC, Im, Row, El, Nat.zero_add, Nat.reduceAdd] at hc
          go_enter Tryz.func87, Tryz.ntmps87
          go_wp2_with (first | ((first | (with_reducible refine wpl_seal S ?_) | (with_reducible refine cw_seal S ?_) | (with_reducible refine bp_seal S ?_) | (with_reducible refine ca_seal S ?_)); clear S; (try clear hc); intro w1 S; (try simp only [List.set_cons_zero, List.set_cons_succ, List.nil_append] at S); have hc := S.cells; simp only [Cells, cellsC, Im, Row, El, Nat.zero_add, Nat.reduceAdd] at hc))
          go_ret
          exact ⟨_, _, rfl, by simp, fin _ S⟩
      · have hn1 : (p / 281474976710656 == 1) = false := by rw [hn, beq_eq_false_iff_ne]; exact h5
        clear hn h3 HL HL2 h0 h1 h4 h5
        have hc := S.cells; simp only [Cells, cellsC, Im, Row, El, Nat.zero_add, Nat.reduceAdd] at hc
        go_enter Tryz.func87, Tryz.ntmps87
        go_wp2_with (first | ((first | (with_reducible refine wpl_seal S ?_) | (with_reducible refine cw_seal S ?_) | (with_reducible refine bp_seal S ?_) | (with_reducible refine ca_seal S ?_)); clear S; (try clear hc); intro w1 S; (try simp only [List.set_cons_zero, List.set_cons_succ, List.nil_append] at S); have hc := S.cells; simp only [Cells, cellsC, Im, Row, El, Nat.zero_add, Nat.reduceAdd] at hc))
        go_ret
        exact ⟨_, _, rfl, by simp, fin _ S⟩
/-- a format that may be -/
def formP (c m : Int) : Bool := (decide (c = 1) || decide (c = 3)) && decide (1 ≤ m) && decide (m ≤ 65535)
theorem formP_iff {c m : Int} : formP c m = true ↔ (c = 1 ∨ c = 3) ∧ 1 ≤ m ∧ m ≤ 65535 := by
  unfold formP
  simp [and_assoc]
theorem format_c (c m : Int) (w : World) (I : Fp) (hI : ∀ b, I b → b < w.heap.size) {r : Bool} (hr : formP c m = r) :
    Calls Tryz.prog 88 #[.agg #[.int .i64 c, .int .i64 m]] w fun e w' => e = .returned (.bool r) ∧ Ext w w' := by
  have S := SH.start w I hI
  have hc := S.cells; simp only [Cells, cellsC, Im, Row, El, Nat.zero_add, Nat.reduceAdd] at hc
  have fin : ∀ b : Bool, (b = true ↔ (c = 1 ∨ c = 3) ∧ 1 ≤ m ∧ m ≤ 65535) → b = r := fun b h => by rw [← hr, Bool.eq_iff_iff, h, formP_iff]
  clear hr
  have F := As.mk fin
  clear fin
  by_cases h1 : c = 1
  · have h1' : (c == 1) = true := by rw [h1]; rfl
    go_enter Tryz.func88, Tryz.ntmps88
    go_wp2_with (first | ((first | (with_reducible refine wpl_seal S ?_) | (with_reducible refine cw_seal S ?_) | (with_reducible refine bp_seal S ?_) | (with_reducible refine ca_seal S ?_)); clear S; (try clear hc); intro w1 S; (try simp only [List.set_cons_zero, List.set_cons_succ, List.nil_append] at S); have hc := S.cells; simp only [Cells, cellsC, Im, Row, El, Nat.zero_add, Nat.reduceAdd] at hc))
    all_goals (go_ret; exact ⟨congrArg (fun b => Ending.returned (.bool b)) (F.out _ (by simp; omega)), S.out⟩)
  · have h1' : (c == 1) = false := by rw [beq_eq_false_iff_ne]; exact h1
    by_cases h2 : c = 3
    · have h2' : (c == 3) = true := by rw [h2]; rfl
      go_enter Tryz.func88, Tryz.ntmps88
      go_wp2_with (first | ((first | (with_reducible refine wpl_seal S ?_) | (with_reducible refine cw_seal S ?_) | (with_reducible refine bp_seal S ?_) | (with_reducible refine ca_seal S ?_)); clear S; (try clear hc); intro w1 S; (try simp only [List.set_cons_zero, List.set_cons_succ, List.nil_append] at S); have hc := S.cells; simp only [Cells, cellsC, Im, Row, El, Nat.zero_add, Nat.reduceAdd] at hc))
      all_goals (go_ret; exact ⟨congrArg (fun b => Ending.returned (.bool b)) (F.out _ (by simp; omega)), S.out⟩)
    · have h2' : (c == 3) = false := by rw [beq_eq_false_iff_ne]; exact h2
      go_enter Tryz.func88, Tryz.ntmps88
      go_wp2_with (first | ((first | (with_reducible refine wpl_seal S ?_) | (with_reducible refine cw_seal S ?_) | (with_reducible refine bp_seal S ?_) | (with_reducible refine ca_seal S ?_)); clear S; (try clear hc); intro w1 S; (try simp only [List.set_cons_zero, List.set_cons_succ, List.nil_append] at S); have hc := S.cells; simp only [Cells, cellsC, Im, Row, El, Nat.zero_add, Nat.reduceAdd] at hc))
      all_goals (go_ret; exact ⟨congrArg (fun b => Ending.returned (.bool b)) (F.out _ (by simp; omega)), S.out⟩)
end Go.Proofs.YtnmlonicfncpfaaGreat
namespace Go.Proofs.YtnmlonicfncpfaaGreat
open Go.RowKit X
set_option maxHeartbeats 1000000
set_option maxRecDepth 8000
set_option linter.unusedSimpArgs false
set_option linter.unusedVariables false
def sizedP (a b : Int) : Bool := decide (1 ≤ a) && decide (a ≤ 4096) && decide (1 ≤ b) && decide (b ≤ 65536) && decide (a * b ≤ 16777216)
theorem sizedP_iff {a b : Int} : sizedP a b = true ↔ 1 ≤ a ∧ a ≤ 4096 ∧ 1 ≤ b ∧ b ≤ 65536 ∧ a * b ≤ 16777216 := by
  unfold sizedP
  simp [and_assoc]
theorem mul_in {a b : Int} (h1 : 1 ≤ a) (h2 : a ≤ 4096) (h3 : 1 ≤ b) (h4 : b ≤ 65536) : 1 ≤ a * b ∧ a * b ≤ 268435456 := by
  have h5 := Int.mul_le_mul h2 h4 (by omega) (by omega)
  have h6 := Int.mul_le_mul h1 h3 (by omega) (by omega)
  omega
theorem sized_c (a b : Int) (w : World) {r : Bool} (hr : sizedP a b = r) : Calls Tryz.prog 85 #[.int .i64 a, .int .i64 b] w fun e w' => e = .returned (.bool r) ∧ w' = w := by
  have F : As (∀ x : Bool, (x = true ↔ 1 ≤ a ∧ a ≤ 4096 ∧ 1 ≤ b ∧ b ≤ 65536 ∧ a * b ≤ 16777216) → x = r) := ⟨fun x h => by rw [← hr, Bool.eq_iff_iff, h, sizedP_iff]⟩
  clear hr
  by_cases h1 : a ≥ 1
  · have h1' : decide (a ≥ 1) = true := decide_eq_true h1
    by_cases h2 : a ≤ 4096
    · have h2' : decide (a ≤ 4096) = true := decide_eq_true h2
      by_cases h3 : b ≥ 1
      · have h3' : decide (b ≥ 1) = true := decide_eq_true h3
        by_cases h4 : b ≤ 65536
        · have h4' : decide (b ≤ 65536) = true := decide_eq_true h4
          obtain ⟨hm1, hm2⟩ := mul_in h1 h2 h3 h4
          go_enter Tryz.func85, Tryz.ntmps85
          go_wp2
          go_ret
          exact ⟨congrArg (fun b => Ending.returned (.bool b)) (F.out _ (by simp; omega)), rfl⟩
        · have h4' : decide (b ≤ 65536) = false := decide_eq_false h4
          go_enter Tryz.func85, Tryz.ntmps85
          go_wp2
          go_ret
          exact ⟨congrArg (fun b => Ending.returned (.bool b)) (F.out _ (by simp; omega)), rfl⟩
      · have h3' : decide (b ≥ 1) = false := decide_eq_false h3
        go_enter Tryz.func85, Tryz.ntmps85
        go_wp2
        go_ret
        exact ⟨congrArg (fun b => Ending.returned (.bool b)) (F.out _ (by simp; omega)), rfl⟩
    · have h2' : decide (a ≤ 4096) = false := decide_eq_false h2
      go_enter Tryz.func85, Tryz.ntmps85
      go_wp2
      go_ret
      exact ⟨congrArg (fun b => Ending.returned (.bool b)) (F.out _ (by simp; omega)), rfl⟩
  · have h1' : decide (a ≥ 1) = false := decide_eq_false h1
    go_enter Tryz.func85, Tryz.ntmps85
    go_wp2
    go_ret
    exact ⟨congrArg (fun b => Ending.returned (.bool b)) (F.out _ (by simp; omega)), rfl⟩
abbrev mxV (x : Mx) (A : Option Addr) (c : Nat) : Value := .agg #[.int .i64 x.w, .int .i64 x.h, .slice A x.l.length c]
def mayX (x : Mx) : Bool := sizedP x.w x.h && decide ((x.l.length : Int) = x.w * x.h)
theorem mayX_iff {x : Mx} : mayX x = true ↔ (1 ≤ x.w ∧ x.w ≤ 4096 ∧ 1 ≤ x.h ∧ x.h ≤ 65536 ∧ x.w * x.h ≤ 16777216) ∧ (x.l.length : Int) = x.w * x.h := by
  unfold mayX
  rw [Bool.and_eq_true, sizedP_iff, decide_eq_true_eq]
theorem mayM_c (x : Mx) (A : Option Addr) (c : Nat) (w : World) (I : Fp) (hI : ∀ b, I b → b < w.heap.size) {r : Bool} (hr : mayX x = r) :
    Calls Tryz.prog 68 #[mxV x A c] w fun e w' => e = .returned (.bool r) ∧ Ext w w' := by
  have S := SH.start w I hI
  obtain ⟨a, b, l⟩ := x
  dsimp only [mxV]
  have F : As (∀ x : Bool, (x = true ↔ sizedP a b = true ∧ (l.length : Int) = a * b) → x = r) := ⟨fun x h => by rw [← hr, Bool.eq_iff_iff, h]; unfold mayX; rw [Bool.and_eq_true, decide_eq_true_eq]⟩
  clear hr
  obtain ⟨q, hq⟩ : ∃ q, sizedP a b = q := ⟨_, rfl⟩
  have HQ := As.mk hq
  have hc := S.cells; simp only [Cells, cellsC, Im, Row, El, Im, Nat.zero_add, Nat.reduceAdd] at hc
  rcases q with _ | _
  · clear hq
    go_enter Tryz.func68, Tryz.ntmps68
    go_wp2_with (first | ((first | (with_reducible refine wpl_seal S ?_) | (with_reducible refine cw_seal S ?_) | (with_reducible refine bp_seal S ?_) | (with_reducible refine ca_seal S ?_)); clear S; (try clear hc); intro w1 S; (try simp only [List.set_cons_zero, List.set_cons_succ, List.nil_append] at S); have hc := S.cells; simp only [Cells, cellsC, Im, Row, El, Im, Nat.zero_add, Nat.reduceAdd] at hc) | (go_at_call 85; refine (sized_c a b _ HQ.out).mono ?_; rintro e w1 ⟨rfl, rfl⟩))
    go_ret
    exact ⟨congrArg (fun b => Ending.returned (.bool b)) (F.out _ (by rw [HQ.out]; simp)), S.out⟩
  · obtain ⟨h1, h2, h3, h4, h5⟩ := sizedP_iff.1 hq
    obtain ⟨hm1, hm2⟩ := mul_in h1 h2 h3 h4
    clear hq
    go_enter Tryz.func68, Tryz.ntmps68
    go_wp2_with (first | ((first | (with_reducible refine wpl_seal S ?_) | (with_reducible refine cw_seal S ?_) | (with_reducible refine bp_seal S ?_) | (with_reducible refine ca_seal S ?_)); clear S; (try clear hc); intro w1 S; (try simp only [List.set_cons_zero, List.set_cons_succ, List.nil_append] at S); have hc := S.cells; simp only [Cells, cellsC, Im, Row, El, Im, Nat.zero_add, Nat.reduceAdd] at hc) | (go_at_call 85; refine (sized_c a b _ HQ.out).mono ?_; rintro e w1 ⟨rfl, rfl⟩))
    go_ret
    exact ⟨congrArg (fun b => Ending.returned (.bool b)) (F.out _ (by rw [HQ.out]; simp)), S.out⟩
theorem in_c (n m : Int) (w : World) : Calls Tryz.prog 105 #[.int .i64 n, .int .i64 m] w fun e w' => e = .returned (.bool (decide (0 ≤ n) && decide (n < m))) ∧ w' = w := by
  by_cases h1 : n ≥ 0
  · have h1' : decide (n ≥ 0) = true := decide_eq_true h1
    have h2 : (decide (0 ≤ n) && decide (n < m)) = decide (n < m) := by rw [decide_eq_true (show 0 ≤ n from h1), Bool.true_and]
    rw [h2]
    go_enter Tryz.func105, Tryz.ntmps105
    go_wp2
    go_ret
    exact ⟨rfl, rfl⟩
  · have h1' : decide (n ≥ 0) = false := decide_eq_false h1
    have h2 : (decide (0 ≤ n) && decide (n < m)) = false := by rw [decide_eq_false (show ¬ 0 ≤ n from h1), Bool.false_and]
    rw [h2]
    go_enter Tryz.func105, Tryz.ntmps105
    go_wp2
    go_ret
    exact ⟨rfl, rfl⟩
end Go.Proofs.YtnmlonicfncpfaaGreat
namespace Go.Proofs.YtnmlonicfncpfaaGreat
open Go.RowKit X
set_option maxHeartbeats 1000000
set_option maxRecDepth 8000
set_option linter.unusedSimpArgs false
set_option linter.unusedVariables false
/-- a pixel of a format -/
def fitsP (p c m : Int) : Bool := formP c m && decide (((unpackL p).length : Int) = c) && decide (Lib.maxOf (unpackL p) ≤ m)
theorem max_s {F0 I0 I : Fp} {w0 w : World} {O : List Ob} {A : Option Addr} {xs : List Int} (S : SH F0 I0 w0 O w I) (i : Nat) (e : O[i]? = some (Im kI A xs)) (hn : 0 < xs.length) (hm : xs.length ≤ 1000000) (c : Nat) :
    Calls Tryz.prog 89 #[.slice A xs.length c] w fun e w' => e = .returned (.int .i64 (Lib.maxOf xs)) ∧ w' = w := by
  obtain ⟨b, o, rfl, -⟩ := (S.im i e).num_at (List.getElem?_eq_getElem hn)
  refine (Tryz.slices_Max_int b o xs.length c xs w hn (Nat.le_refl _) (by omega) (fun j hj => ?_)).mono ?_
  · obtain ⟨b', o', e', h⟩ := (S.im i e).num_at (List.getElem?_eq_getElem hj)
    cases e'
    rw [h, List.getD, List.getElem?_eq_getElem hj]
    rfl
  · rw [List.take_length]
    exact fun e w' h => h
theorem fits_c (p c m : Int) (hp : U64 p) (w : World) (I : Fp) (hI : ∀ b, I b → b < w.heap.size) {r : Bool} (hr : fitsP p c m = r) :
    Calls Tryz.prog 71 #[.int .u64 p, .agg #[.int .i64 c, .int .i64 m]] w fun e w' => e = .returned (.bool r) ∧ Ext w w' := by
  have S := SH.start w I hI
  have HP := As.mk hp
  obtain ⟨l, hl⟩ : ∃ l, unpackL p = l := ⟨_, rfl⟩
  have HL := As.mk hl
  have hln : l.length ≤ 3 := by rw [← hl]; unfold unpackL; split <;> (try split) <;> simp
  obtain ⟨f, hf⟩ : ∃ f, formP c m = f := ⟨_, rfl⟩
  have HF := As.mk hf
  unfold fitsP at hr
  rw [hl, hf] at hr
  clear hl hf hp
  have hc := S.cells; simp only [Cells, cellsC, Im, Row, El, Im, Nat.zero_add, Nat.reduceAdd] at hc
  go_enter Tryz.func71, Tryz.ntmps71
  go_upto_region 2 with (first | ((first | (with_reducible refine wpl_seal S ?_) | (with_reducible refine cw_seal S ?_) | (with_reducible refine bp_seal S ?_) | (with_reducible refine ca_seal S ?_)); clear S; (try clear hc); intro w1 S; (try simp only [List.set_cons_zero, List.set_cons_succ, List.nil_append] at S); have hc := S.cells; simp only [Cells, cellsC, Im, Row, El, Im, Nat.zero_add, Nat.reduceAdd] at hc) | (go_at_call 87; refine (unpack_c p HP.out _ _ S.bd HL.out).mono ?_; rintro e w1 ⟨A, cl, rfl, hcl, hu⟩; obtain ⟨I1, S1, hI1⟩ := S.new hu; clear S hu hI1; (try clear hc); have S := S1; clear S1; have hc := S.cells; simp only [Cells, cellsC, Im, Row, El, Im, Nat.zero_add, Nat.reduceAdd] at hc))
  have hq := S.cellsE; simp only [CellsE, cellsE, Im, Row, El, Im, Nat.zero_add, Nat.reduceAdd] at hq
  refine wp_region_ext [⟨[0], [], 1, false⟩, ⟨[2, 3, 4, 5, 6, 7, 8, 9, 10, 12, 13], [], 11, true⟩] [14, 15, 16] (by kernel_rfl) (by kernel_rfl) ?_
  refine mix_cons rfl rfl rfl ?_
  simp only [opsAt, List.getD_cons_succ, List.getD_cons_zero]
  repeat (go_big_quiet_step ((intro hC; first | rfl | (go_simp; first | done | rfl))))
  refine wpQuiet_nil ?_
  repeat (go_big_quiet_step ((intro hC; first | rfl | (go_simp; first | done | rfl))))
  refine wpQuiet_nil ?_
  clear hc hq
  replace S := S.drew
  generalize w1.drew = w2 at S ⊢
  have hc := S.cells; simp only [Cells, cellsC, Im, Row, El, Im, Nat.zero_add, Nat.reduceAdd] at hc
  go_wp2_with (first | ((first | (with_reducible refine mx_seal S ?_) | (with_reducible refine wpl_seal S ?_) | (with_reducible refine ca_seal S ?_)); clear S; (try clear hc); intro w1 S; (try simp only [List.set_cons_zero, List.set_cons_succ, List.nil_append] at S); have hc := S.cells; simp only [Cells, cellsC, Im, Row, El, Im, Nat.zero_add, Nat.reduceAdd] at hc) | (go_at_call 88; refine (format_c c m _ _ S.bd HF.out).mono ?_; rintro e w1 ⟨rfl, hx⟩; replace S := S.ext hx; clear hx; (try clear hc); have hc := S.cells; simp only [Cells, cellsC, Im, Row, El, Im, Nat.zero_add, Nat.reduceAdd] at hc))
  (first | refine ⟨(fun h => by cases h), ?_⟩ | skip); (first | ((first | (with_reducible refine mx_seal S ?_)); clear S; (try clear hc); intro w1 S; (try simp only [List.set_cons_zero, List.set_cons_succ, List.nil_append] at S); have hc := S.cells; simp only [Cells, cellsC, Im, Row, El, Im, Nat.zero_add, Nat.reduceAdd] at hc) | skip); (try simp only [Act.put, List.setIfInBounds_toArray, List.set_cons_succ, List.set_cons_zero])
  have hq := CellsE_of S.cells; simp only [CellsE, cellsE, Im, Row, El, Im, Nat.zero_add, Nat.reduceAdd] at hq
  have HR := As.mk hr
  clear hr
  rcases f with _ | _
  · have HR2 : As (false = r) := ⟨by rw [← HR.out]; rfl⟩
    obtain rfl := HR2.out
    clear HR HR2
    refine mix_cons rfl rfl rfl ?_
    simp only [opsAt, List.getD_cons_succ, List.getD_cons_zero]
    repeat (go_big_quiet_step ((intro hC; first | rfl | (go_simp; first | done | rfl))))
    refine wpQuiet_nil ?_
    repeat (go_big_quiet_step ((intro hC; first | rfl | (go_simp; first | done | rfl))))
    refine wpQuiet_nil ?_
    clear hc hq
    have hc := S.cells; simp only [Cells, cellsC, Im, Row, El, Im, Nat.zero_add, Nat.reduceAdd] at hc
    go_wp2_with (first | ((first | (with_reducible refine mx_seal S ?_) | (with_reducible refine wpl_seal S ?_) | (with_reducible refine ca_seal S ?_)); clear S; (try clear hc); intro w1 S; (try simp only [List.set_cons_zero, List.set_cons_succ, List.nil_append] at S); have hc := S.cells; simp only [Cells, cellsC, Im, Row, El, Im, Nat.zero_add, Nat.reduceAdd] at hc))
    refine ⟨fun _ => Below.refl _ _, ?_⟩
    refine mix_last rfl ?_
    simp only [opsAt, List.getD_cons_succ, List.getD_cons_zero]
    repeat (go_big_quiet_step ((intro hC; first | rfl | (go_simp; first | done | rfl))))
    refine wpQuiet_nil ?_
    simp only [calmQ]
    go_wp2_with (first | ((first | (with_reducible refine wpl_seal S ?_) | (with_reducible refine cw_seal S ?_) | (with_reducible refine bp_seal S ?_) | (with_reducible refine ca_seal S ?_)); clear S; (try clear hc); intro w1 S; (try simp only [List.set_cons_zero, List.set_cons_succ, List.nil_append] at S); have hc := S.cells; simp only [Cells, cellsC, Im, Row, El, Im, Nat.zero_add, Nat.reduceAdd] at hc))
    go_ret
    exact ⟨rfl, S.out⟩
  · by_cases hlc : (l.length : Int) = c
    · have hlc' : ((l.length : Int) == c) = true := by rw [hlc]; exact beq_self_eq_true c
      have hc13 := (formP_iff.1 HF.out).1
      have hl0 : 0 < l.length := by omega
      have HR2 : As (decide (Lib.maxOf l ≤ m) = r) := ⟨by rw [← HR.out, decide_eq_true hlc]; rfl⟩
      obtain rfl := HR2.out
      clear HR HR2 hlc hc13
      refine mix_cons rfl rfl rfl ?_
      simp only [opsAt, List.getD_cons_succ, List.getD_cons_zero]
      repeat (go_big_quiet_step ((intro hC; first | rfl | (go_simp; first | done | rfl))))
      refine wpQuiet_nil ?_
      repeat (go_big_quiet_step ((intro hC; first | rfl | (go_simp; first | done | rfl))))
      refine wpQuiet_nil ?_
      clear hc hq
      have hc := S.cells; simp only [Cells, cellsC, Im, Row, El, Im, Nat.zero_add, Nat.reduceAdd] at hc
      go_wp2_with (first | ((first | (with_reducible refine mx_seal S ?_) | (with_reducible refine wpl_seal S ?_) | (with_reducible refine ca_seal S ?_)); clear S; (try clear hc); intro w1 S; (try simp only [List.set_cons_zero, List.set_cons_succ, List.nil_append] at S); have hc := S.cells; simp only [Cells, cellsC, Im, Row, El, Im, Nat.zero_add, Nat.reduceAdd] at hc) | (go_at_call 89; refine (max_s S 0 rfl hl0 (by omega) _).mono ?_; rintro e w1 ⟨rfl, rfl⟩))
      refine ⟨fun _ => Below.refl _ _, ?_⟩
      refine mix_last rfl ?_
      simp only [opsAt, List.getD_cons_succ, List.getD_cons_zero]
      repeat (go_big_quiet_step ((intro hC; first | rfl | (go_simp; first | done | rfl))))
      refine wpQuiet_nil ?_
      simp only [calmQ]
      go_wp2_with (first | ((first | (with_reducible refine wpl_seal S ?_) | (with_reducible refine cw_seal S ?_) | (with_reducible refine bp_seal S ?_) | (with_reducible refine ca_seal S ?_)); clear S; (try clear hc); intro w1 S; (try simp only [List.set_cons_zero, List.set_cons_succ, List.nil_append] at S); have hc := S.cells; simp only [Cells, cellsC, Im, Row, El, Im, Nat.zero_add, Nat.reduceAdd] at hc))
      go_ret
      exact ⟨rfl, S.out⟩
    · have hlc' : ((l.length : Int) == c) = false := by rw [beq_eq_false_iff_ne]; exact hlc
      have HR2 : As (false = r) := ⟨by rw [← HR.out, decide_eq_false hlc]; rfl⟩
      obtain rfl := HR2.out
      clear HR HR2 hlc
      refine mix_cons rfl rfl rfl ?_
      simp only [opsAt, List.getD_cons_succ, List.getD_cons_zero]
      repeat (go_big_quiet_step ((intro hC; first | rfl | (go_simp; first | done | rfl))))
      refine wpQuiet_nil ?_
      repeat (go_big_quiet_step ((intro hC; first | rfl | (go_simp; first | done | rfl))))
      refine wpQuiet_nil ?_
      clear hc hq
      have hc := S.cells; simp only [Cells, cellsC, Im, Row, El, Im, Nat.zero_add, Nat.reduceAdd] at hc
      go_wp2_with (first | ((first | (with_reducible refine mx_seal S ?_) | (with_reducible refine wpl_seal S ?_) | (with_reducible refine ca_seal S ?_)); clear S; (try clear hc); intro w1 S; (try simp only [List.set_cons_zero, List.set_cons_succ, List.nil_append] at S); have hc := S.cells; simp only [Cells, cellsC, Im, Row, El, Im, Nat.zero_add, Nat.reduceAdd] at hc))
      refine ⟨fun _ => Below.refl _ _, ?_⟩
      refine mix_last rfl ?_
      simp only [opsAt, List.getD_cons_succ, List.getD_cons_zero]
      repeat (go_big_quiet_step ((intro hC; first | rfl | (go_simp; first | done | rfl))))
      refine wpQuiet_nil ?_
      simp only [calmQ]
      go_wp2_with (first | ((first | (with_reducible refine wpl_seal S ?_) | (with_reducible refine cw_seal S ?_) | (with_reducible refine bp_seal S ?_) | (with_reducible refine ca_seal S ?_)); clear S; (try clear hc); intro w1 S; (try simp only [List.set_cons_zero, List.set_cons_succ, List.nil_append] at S); have hc := S.cells; simp only [Cells, cellsC, Im, Row, El, Im, Nat.zero_add, Nat.reduceAdd] at hc))
      go_ret
      exact ⟨rfl, S.out⟩
/-- whether no pixel of an image is of another format -/
def allFit (c m : Int) (l : List Int) : Bool := l.all fun p => fitsP p c m
theorem fitsClo_c (p c m : Int) (hp : U64 p) (g : Nat) (w : World) (I : Fp) (hI : ∀ b, I b → b < w.heap.size) (h0 : w.cell? ⟨g, 0, none⟩ = some (.int .i64 c)) (h1 : w.cell? ⟨g, 1, none⟩ = some (.int .i64 m)) {r : Bool} (hr : fitsP p c m = r) :
    Calls Tryz.prog 70 #[.int .u64 p, .pointer (some ⟨g, 0, none⟩)] w fun e w' => e = .returned (.bool (!r)) ∧ Ext w w' := by
  have S := SH.start w I hI
  have HR := As.mk hr
  have HP := As.mk hp
  clear hr hp
  have hc := S.cells; simp only [Cells, cellsC, Im, Row, El, Im, Nat.zero_add, Nat.reduceAdd] at hc
  go_enter Tryz.func70, Tryz.ntmps70
  go_wp2_with (first | ((first | (with_reducible refine wpl_seal S ?_) | (with_reducible refine cw_seal S ?_) | (with_reducible refine bp_seal S ?_) | (with_reducible refine ca_seal S ?_)); clear S; (try clear hc); intro w1 S; (try simp only [List.set_cons_zero, List.set_cons_succ, List.nil_append] at S); have hc := S.cells; simp only [Cells, cellsC, Im, Row, El, Im, Nat.zero_add, Nat.reduceAdd] at hc) | (go_at_call 71; refine (fits_c p c m HP.out _ _ S.bd HR.out).mono ?_; rintro e w1 ⟨rfl, hx⟩; replace S := S.ext hx; clear hx; (try clear hc); have hc := S.cells; simp only [Cells, cellsC, Im, Row, El, Im, Nat.zero_add, Nat.reduceAdd] at hc))
  go_ret
  exact ⟨rfl, S.out⟩
end Go.Proofs.YtnmlonicfncpfaaGreat
namespace Go.Proofs.YtnmlonicfncpfaaGreat
open Go.RowKit X
set_option maxHeartbeats 1000000
set_option maxRecDepth 8000
set_option linter.unusedSimpArgs false
set_option linter.unusedVariables false
theorem indexFit_c (l : List Int) (c m : Int) (A : Option Addr) (n : Nat) (g : Nat) (w : World) (D : Fp) (hl : Sl kP w D A l) (hn : l.length ≤ 1000000) (hu : ∀ p ∈ l, U64 p) (h0 : w.cell? ⟨g, 0, none⟩ = some (.int .i64 c)) (h1 : w.cell? ⟨g, 1, none⟩ = some (.int .i64 m)) :
    Calls Tryz.prog 86 #[.slice A l.length n, .func (.func 70) #[] #[.pointer (some ⟨g, 0, none⟩)]] w fun e w' => ∃ q : Int, e = .returned (.int .i64 q) ∧ decide (0 ≤ q) = !(allFit c m l) ∧ Ext w w' := by
  have HL := As.mk hl
  have HU := As.mk hu
  have HC := As.mk (And.intro h0 h1)
  clear hl hu h0 h1
  go_enter Tryz.func86, Tryz.ntmps86
  go_wp2_with fail
  go_loopw [8] (fun i w' => ∃ (k : Nat), k ≤ l.length ∧ i = .int .i64 k ∧ As (∀ (j : Nat) (h : j < l.length), j < k → fitsP l[j] c m = true) ∧ As (Ext w w')) (fun i _ => l.length - (intOf i).toNat)
  case atStart => exact ⟨0, by omega, rfl, ⟨fun j _ h => absurd h (Nat.not_lt_zero j)⟩, ⟨Ext.refl w⟩⟩
  case round =>
    obtain ⟨k, hk, rfl, HK, HX⟩ := hrel
    by_cases hlt : k < l.length
    · have hlt' : decide ((k : Int) < l.length) = true := by simp; omega
      obtain ⟨b, o, rfl, hcx⟩ := (HL.out.keep (fun b hb _ => HX.out.block b hb)).num_at (List.getElem?_eq_getElem hlt)
      obtain ⟨q, hq⟩ : ∃ q, fitsP l[k] c m = q := ⟨_, rfl⟩
      have HQ := As.mk hq
      have HP := As.mk (HU.out _ (List.getElem_mem hlt))
      have HT : As (q = true → ∀ (j : Nat) (h : j < l.length), j < k + 1 → fitsP l[j] c m = true) := ⟨fun hq1 j hj h => by
        rcases Nat.lt_or_eq_of_le (Nat.le_of_lt_succ h) with h1 | h1
        · exact HK.out j hj h1
        · subst h1; rw [hq, hq1]⟩
      have HF : As (q = false → allFit c m l = false) := ⟨fun hq1 => by
        unfold allFit
        rw [List.all_eq_false]
        exact ⟨_, List.getElem_mem hlt, by rw [hq, hq1]; decide⟩⟩
      clear hq
      generalize l[k] = y at hcx HQ HP
      cases q
      · go_wp2_with (go_at_call 70; refine (fitsClo_c y c m HP.out g _ No (fun _ h => h.elim) (HX.out.cell HC.out.1) (HX.out.cell HC.out.2) HQ.out).mono ?_; rintro e w1 ⟨rfl, hx⟩; have HX2 := As.mk (HX.out.tr hx); clear hx)
        go_ret
        exact ⟨_, rfl, by rw [HF.out (by first | rfl | trivial)]; simp, HX2.out⟩
      · go_wp2_with (go_at_call 70; refine (fitsClo_c y c m HP.out g _ No (fun _ h => h.elim) (HX.out.cell HC.out.1) (HX.out.cell HC.out.2) HQ.out).mono ?_; rintro e w1 ⟨rfl, hx⟩; have HX2 := As.mk (HX.out.tr hx); clear hx)
        go_roundw
        case rel => exact ⟨k + 1, by omega, by go_num, ⟨HT.out (by first | rfl | trivial)⟩, HX2⟩
        case measure => simp [intOf]; omega
    · have hlt' : decide ((k : Int) < l.length) = false := by simp; omega
      have HA : As (allFit c m l = true) := ⟨by
        unfold allFit
        rw [List.all_eq_true]
        intro x hx
        obtain ⟨j, hj, rfl⟩ := List.mem_iff_getElem.1 hx
        exact HK.out j hj (by omega)⟩
      go_wp2_with fail
      go_ret
      exact ⟨_, rfl, by rw [HA.out]; rfl, HX.out⟩
theorem contFit_c (l : List Int) (c m : Int) (A : Option Addr) (n : Nat) (g : Nat) (w : World) (D : Fp) (hl : Sl kP w D A l) (hn : l.length ≤ 1000000) (hu : ∀ p ∈ l, U64 p) (h0 : w.cell? ⟨g, 0, none⟩ = some (.int .i64 c)) (h1 : w.cell? ⟨g, 1, none⟩ = some (.int .i64 m)) {r : Bool} (hr : allFit c m l = r) :
    Calls Tryz.prog 69 #[.slice A l.length n, .func (.func 70) #[] #[.pointer (some ⟨g, 0, none⟩)]] w fun e w' => e = .returned (.bool (!r)) ∧ Ext w w' := by
  have HI := As.mk (indexFit_c l c m A n g w D hl hn hu h0 h1)
  have HR := As.mk hr
  clear hl hu h0 h1 hr
  go_enter Tryz.func69, Tryz.ntmps69
  go_wp2_with (go_at_call 86; refine HI.out.mono ?_; rw [HR.out]; rintro e w1 ⟨q, rfl, hq, hx⟩; have HQ := As.mk hq; have HX := As.mk hx; clear hq hx)
  go_ret
  exact ⟨by first | exact congrArg (fun b => Ending.returned (.bool b)) HQ.out | (rw [← HQ.out]; rfl), HX.out⟩
def mayG (p : Pic) : Bool := mayX p.x && allFit p.c p.m p.x.l
theorem fitsM_c (x : Mx) (c m : Int) (A : Option Addr) (n : Nat) (w : World) (I : Fp) (hI : ∀ b, I b → b < w.heap.size) (hl : Sl kP w I A x.l) (hn : x.l.length ≤ 1000000) (hu : ∀ p ∈ x.l, U64 p) {r : Bool} (hr : (mayX x && allFit c m x.l) = r) :
    Calls Tryz.prog 48 #[mxV x A n, .agg #[.int .i64 c, .int .i64 m]] w fun e w' => e = .returned (.bool r) ∧ Ext w w' := by
  have S := (SH.start w I hI).know (h := Im kP A x.l) hl
  have HU := As.mk hu
  obtain ⟨q1, hq1⟩ : ∃ q, mayX x = q := ⟨_, rfl⟩
  obtain ⟨q2, hq2⟩ : ∃ q, allFit c m x.l = q := ⟨_, rfl⟩
  rw [hq1, hq2] at hr
  have H1 := As.mk hq1
  have H2 := As.mk hq2
  clear hq1 hq2 hl hu
  obtain ⟨a, b, l⟩ := x
  dsimp only [mxV] at *
  have hc := S.cells; simp only [Cells, cellsC, Im, Row, El, Im, Nat.zero_add, Nat.reduceAdd] at hc
  rcases q1 with _ | _
  · subst hr
    go_enter Tryz.func48, Tryz.ntmps48
    go_wp2_with (first | ((first | (with_reducible refine wpl_seal S ?_) | (with_reducible refine cw_seal S ?_) | (with_reducible refine bp_seal S ?_) | (with_reducible refine ca_seal S ?_)); clear S; (try clear hc); intro w1 S; (try simp only [List.set_cons_zero, List.set_cons_succ, List.nil_append] at S); have hc := S.cells; simp only [Cells, cellsC, Im, Row, El, Im, Nat.zero_add, Nat.reduceAdd] at hc) | (go_at_call 68; refine (mayM_c ⟨a, b, l⟩ A n _ _ S.bd H1.out).mono ?_; rintro e w1 ⟨rfl, hx⟩; replace S := S.ext hx; clear hx; (try clear hc); have hc := S.cells; simp only [Cells, cellsC, Im, Row, El, Im, Nat.zero_add, Nat.reduceAdd] at hc))
    go_ret
    exact ⟨rfl, S.out⟩
  · subst hr
    go_enter Tryz.func48, Tryz.ntmps48
    go_wp2_with (first | ((first | (with_reducible refine wpl_seal S ?_) | (with_reducible refine cw_seal S ?_) | (with_reducible refine bp_seal S ?_) | (with_reducible refine ca_seal S ?_)); clear S; (try clear hc); intro w1 S; (try simp only [List.set_cons_zero, List.set_cons_succ, List.nil_append] at S); have hc := S.cells; simp only [Cells, cellsC, Im, Row, El, Im, Nat.zero_add, Nat.reduceAdd] at hc) | (go_at_call 68; refine (mayM_c ⟨a, b, l⟩ A n _ _ S.bd H1.out).mono ?_; rintro e w1 ⟨rfl, hx⟩; replace S := S.ext hx; clear hx; (try clear hc); have hc := S.cells; simp only [Cells, cellsC, Im, Row, El, Im, Nat.zero_add, Nat.reduceAdd] at hc) | (go_at_call 69; refine (contFit_c l c m A n _ _ _ (S.im 2 rfl) (by omega) HU.out (S.cell 0 0 rfl rfl) (S.cell 0 1 rfl rfl) H2.out).mono ?_; rintro e w1 ⟨rfl, hx⟩; replace S := S.ext hx; clear hx; (try clear hc); have hc := S.cells; simp only [Cells, cellsC, Im, Row, El, Im, Nat.zero_add, Nat.reduceAdd] at hc))
    go_ret
    exact ⟨by simp, S.out⟩
abbrev picV (p : Pic) (A : Option Addr) (c : Nat) : Value := .agg #[.int .i64 p.c, .int .i64 p.m, .int .i64 p.x.w, .int .i64 p.x.h, .slice A p.x.l.length c]
theorem mayI_c (p : Pic) (A : Option Addr) (n : Nat) (w : World) (I : Fp) (hI : ∀ b, I b → b < w.heap.size) (hl : Sl kP w I A p.x.l) (hn : p.x.l.length ≤ 1000000) (hu : ∀ q ∈ p.x.l, U64 q) {r : Bool} (hr : mayG p = r) :
    Calls Tryz.prog 19 #[picV p A n] w fun e w' => e = .returned (.bool r) ∧ Ext w w' := by
  have S := (SH.start w I hI).know (h := Im kP A p.x.l) hl
  have HU := As.mk hu
  have HR := As.mk hr
  clear hl hu hr
  obtain ⟨c, m, a, b, l⟩ := p
  dsimp only [picV] at *
  have hc := S.cells; simp only [Cells, cellsC, Im, Row, El, Im, Nat.zero_add, Nat.reduceAdd] at hc
  go_enter Tryz.func19, Tryz.ntmps19
  go_wp2_with (first | ((first | (with_reducible refine wpl_seal S ?_) | (with_reducible refine cw_seal S ?_) | (with_reducible refine bp_seal S ?_) | (with_reducible refine ca_seal S ?_)); clear S; (try clear hc); intro w1 S; (try simp only [List.set_cons_zero, List.set_cons_succ, List.nil_append] at S); have hc := S.cells; simp only [Cells, cellsC, Im, Row, El, Im, Nat.zero_add, Nat.reduceAdd] at hc) | (go_at_call 48; refine (fitsM_c ⟨a, b, l⟩ c m A n _ _ S.bd (S.im 1 rfl) hn HU.out HR.out).mono ?_; rintro e w1 ⟨rfl, hx⟩; replace S := S.ext hx; clear hx; (try clear hc); have hc := S.cells; simp only [Cells, cellsC, Im, Row, El, Im, Nat.zero_add, Nat.reduceAdd] at hc))
  go_ret
  exact ⟨rfl, S.out⟩
end Go.Proofs.YtnmlonicfncpfaaGreat
