/- Turns: where a number of a laid rectangle stood. -/
import Derived.Test.YtnmlonicfncpfaaDNew
import Derived.Laws.EntriesVeiled
namespace Go.Proofs.Ytnmlonicfncpfaa
open Go.RowKit X
set_option maxHeartbeats 1000000
set_option maxRecDepth 8000
set_option linter.unusedSimpArgs false
set_option linter.unusedVariables false
theorem mayT_c (n : Int) (w : World) : Calls Try.prog 37 #[.int .i64 n] w fun e w' => e = .returned (.bool (decide (0 ≤ n) && decide (n < 8))) ∧ w' = w := by
  by_cases h1 : n ≥ 0
  · have h1' : decide (n ≥ 0) = true := decide_eq_true h1
    have h2 : (decide (0 ≤ n) && decide (n < 8)) = decide (n < 8) := by rw [decide_eq_true (show 0 ≤ n from h1), Bool.true_and]
    rw [h2]
    go_enter Try.func37, Try.ntmps37
    go_wp2
    go_ret
    exact ⟨rfl, rfl⟩
  · have h1' : decide (n ≥ 0) = false := decide_eq_false h1
    have h2 : (decide (0 ≤ n) && decide (n < 8)) = false := by rw [decide_eq_false (show ¬ 0 ≤ n from h1), Bool.false_and]
    rw [h2]
    go_enter Try.func37, Try.ntmps37
    go_wp2
    go_ret
    exact ⟨rfl, rfl⟩
theorem mayT_ok (g : Nat) (hg : g < 8) (w : World) : Calls Try.prog 37 #[.int .i64 g] w fun e w' => e = .returned (.bool true) ∧ w' = w := by
  have := mayT_c g w
  rwa [decide_eq_true (show (0 : Int) ≤ g by omega), decide_eq_true (show (g : Int) < 8 by omega), Bool.true_and] at this
theorem mayT_no (n : Int) (hn : ¬ (0 ≤ n ∧ n < 8)) (w : World) : Calls Try.prog 37 #[.int .i64 n] w fun e w' => e = .returned (.bool false) ∧ w' = w := by
  have := mayT_c n w
  rwa [show (decide (0 ≤ n) && decide (n < 8)) = false by rw [Bool.and_eq_false_iff, decide_eq_false_iff_not, decide_eq_false_iff_not]; omega] at this
/-- small numbers -/
def Sml (x : Int) : Prop := -1000000000 ≤ x ∧ x ≤ 1000000000
theorem from1_c (x y : Int) (A B : Addr) (w : World) (hx : w.cell? A = some (.int .i64 x)) (hy : w.cell? B = some (.int .i64 y)) : Calls Try.prog 82 #[.pointer (some A), .pointer (some B)] w fun e w' => e = .returned (.tuple #[.int .i64 x, .int .i64 y]) ∧ Ext w w' := by
  have q1 := ClE.cell (w := w.drew) hx
  have q2 := ClE.cell (w := w.drew) hy
  go_enter Try.func82, Try.ntmps82
  go_wp2
  refine wp_region_ext [] [0, 1, 2, 3] (by kernel_rfl) (by kernel_rfl) ?_
  refine mix_last rfl ?_
  simp only [opsAt, List.getD_cons_succ, List.getD_cons_zero]
  repeat (go_big_quiet_step ((intro hC; first | rfl | (go_simp; first | done | rfl))))
  refine wpQuiet_nil ?_
  simp only [calmQ]
  go_wp2
  go_ret2
  exact ⟨rfl, (Ext.refl w).drew⟩
theorem from2_c (y h x : Int) (A B C : Addr) (w : World) (hy : w.cell? A = some (.int .i64 y)) (hh : w.cell? B = some (.int .i64 h)) (hx : w.cell? C = some (.int .i64 x)) (sy : Sml y) (sh : Sml h) (sx : Sml x) : Calls Try.prog 83 #[.pointer (some A), .pointer (some B), .pointer (some C)] w fun e w' => e = .returned (.tuple #[.int .i64 y, .int .i64 (h - 1 - x)]) ∧ Ext w w' := by
  have q1 := ClE.cell (w := w.drew) hy
  have q2 := ClE.cell (w := w.drew) hh
  have q3 := ClE.cell (w := w.drew) hx
  obtain ⟨a1, a2⟩ := sy
  obtain ⟨a3, a4⟩ := sh
  obtain ⟨a5, a6⟩ := sx
  go_enter Try.func83, Try.ntmps83
  go_wp2
  refine wp_region_ext [] [0, 1, 2, 3, 4, 5, 6] (by kernel_rfl) (by kernel_rfl) ?_
  refine mix_last rfl ?_
  simp only [opsAt, List.getD_cons_succ, List.getD_cons_zero]
  repeat (go_big_quiet_step ((intro hC; first | rfl | (go_simp; first | done | rfl))))
  refine wpQuiet_nil ?_
  simp only [calmQ]
  go_wp2
  go_ret2
  exact ⟨rfl, (Ext.refl w).drew⟩
theorem from3_c (z x h y : Int) (A B C D : Addr) (w : World) (hz : w.cell? A = some (.int .i64 z)) (hx : w.cell? B = some (.int .i64 x)) (hh : w.cell? C = some (.int .i64 h)) (hy : w.cell? D = some (.int .i64 y)) (sz : Sml z) (sx : Sml x) (sh : Sml h) (sy : Sml y) : Calls Try.prog 84 #[.pointer (some A), .pointer (some B), .pointer (some C), .pointer (some D)] w fun e w' => e = .returned (.tuple #[.int .i64 (z - 1 - x), .int .i64 (h - 1 - y)]) ∧ Ext w w' := by
  have q1 := ClE.cell (w := w.drew) hz
  have q2 := ClE.cell (w := w.drew) hx
  have q3 := ClE.cell (w := w.drew) hh
  have q4 := ClE.cell (w := w.drew) hy
  obtain ⟨a1, a2⟩ := sz
  obtain ⟨a3, a4⟩ := sx
  obtain ⟨a5, a6⟩ := sh
  obtain ⟨a7, a8⟩ := sy
  go_enter Try.func84, Try.ntmps84
  go_wp2
  refine wp_region_ext [] [0, 1, 2, 3, 4, 5, 6, 7, 8, 9] (by kernel_rfl) (by kernel_rfl) ?_
  refine mix_last rfl ?_
  simp only [opsAt, List.getD_cons_succ, List.getD_cons_zero]
  repeat (go_big_quiet_step ((intro hC; first | rfl | (go_simp; first | done | rfl))))
  refine wpQuiet_nil ?_
  simp only [calmQ]
  go_wp2
  go_ret2
  exact ⟨rfl, (Ext.refl w).drew⟩
theorem from4_c (z y x : Int) (A B C : Addr) (w : World) (hz : w.cell? A = some (.int .i64 z)) (hy : w.cell? B = some (.int .i64 y)) (hx : w.cell? C = some (.int .i64 x)) (sz : Sml z) (sy : Sml y) (sx : Sml x) : Calls Try.prog 85 #[.pointer (some A), .pointer (some B), .pointer (some C)] w fun e w' => e = .returned (.tuple #[.int .i64 (z - 1 - y), .int .i64 x]) ∧ Ext w w' := by
  have q1 := ClE.cell (w := w.drew) hz
  have q2 := ClE.cell (w := w.drew) hy
  have q3 := ClE.cell (w := w.drew) hx
  obtain ⟨a1, a2⟩ := sz
  obtain ⟨a3, a4⟩ := sy
  obtain ⟨a5, a6⟩ := sx
  go_enter Try.func85, Try.ntmps85
  go_wp2
  refine wp_region_ext [] [0, 1, 2, 3, 4, 5, 6] (by kernel_rfl) (by kernel_rfl) ?_
  refine mix_last rfl ?_
  simp only [opsAt, List.getD_cons_succ, List.getD_cons_zero]
  repeat (go_big_quiet_step ((intro hC; first | rfl | (go_simp; first | done | rfl))))
  refine wpQuiet_nil ?_
  simp only [calmQ]
  go_wp2
  go_ret2
  exact ⟨rfl, (Ext.refl w).drew⟩
def from0 (w h x y : Int) (q : Nat) : Int × Int := match q with | 0 => (x, y) | 1 => (y, h - 1 - x) | 2 => (w - 1 - x, h - 1 - y) | _ => (w - 1 - y, x)
/-- where a number stood, at turn g -/
def fromP (w h x y : Int) (g : Nat) : Int × Int := if g < 4 then from0 w h x y g else (w - 1 - (from0 w h x y (g - 4)).1, (from0 w h x y (g - 4)).2)
theorem from_c (a b x y : Int) (g : Nat) (hg : g < 8) (sa : Sml a) (sb : Sml b) (sx : Sml x) (sy : Sml y) (w : World) (I : Fp) (hI : ∀ b, I b → b < w.heap.size) {r : Int × Int} (hr : fromP a b x y g = r) :
    Calls Try.prog 61 #[.int .i64 a, .int .i64 b, .int .i64 g, .int .i64 x, .int .i64 y] w fun e w' => e = .returned (.tuple #[.int .i64 r.1, .int .i64 r.2]) ∧ Ext w w' := by
  have S := SH.start w I hI
  subst hr
  have sa' := sa
  have sb' := sb
  have sx' := sx
  have sy' := sy
  obtain rfl | rfl | rfl | rfl | rfl | rfl | rfl | rfl : g = 0 ∨ g = 1 ∨ g = 2 ∨ g = 3 ∨ g = 4 ∨ g = 5 ∨ g = 6 ∨ g = 7 := by omega
  · have hc := S.cells; simp only [Cells, cellsC, Im, Row, El, Nat.zero_add, Nat.reduceAdd] at hc
    obtain ⟨a1, a2⟩ := sa'
    obtain ⟨a3, a4⟩ := sb'
    obtain ⟨a5, a6⟩ := sx'
    obtain ⟨a7, a8⟩ := sy'
    go_enter Try.func61, Try.ntmps61
    go_wp2_with (first | ((first | (with_reducible refine wpl_seal S ?_) | (with_reducible refine cw_seal S ?_) | (with_reducible refine bp_seal S ?_) | (with_reducible refine ca_seal S ?_)); clear S; (try clear hc); intro w1 S; (try simp only [List.set_cons_zero, List.set_cons_succ, List.nil_append] at S); have hc := S.cells; simp only [Cells, cellsC, Im, Row, El, Nat.zero_add, Nat.reduceAdd] at hc) | (go_at_call 37; refine (mayT_ok 0 (by decide) _).mono ?_; rintro e w1 ⟨rfl, rfl⟩) | (go_at_call 82; refine (from1_c x y _ _ _ (S.cell 2 0 rfl rfl) (S.cell 1 0 rfl rfl)).mono ?_; rintro e w1 ⟨rfl, hx⟩; replace S := S.ext hx; clear hx; (try clear hc); have hc := S.cells; simp only [Cells, cellsC, Im, Row, El, Nat.zero_add, Nat.reduceAdd] at hc))
    go_ret2
    exact ⟨rfl, S.out⟩
  · have hc := S.cells; simp only [Cells, cellsC, Im, Row, El, Nat.zero_add, Nat.reduceAdd] at hc
    obtain ⟨a1, a2⟩ := sa'
    obtain ⟨a3, a4⟩ := sb'
    obtain ⟨a5, a6⟩ := sx'
    obtain ⟨a7, a8⟩ := sy'
    go_enter Try.func61, Try.ntmps61
    go_wp2_with (first | ((first | (with_reducible refine wpl_seal S ?_) | (with_reducible refine cw_seal S ?_) | (with_reducible refine bp_seal S ?_) | (with_reducible refine ca_seal S ?_)); clear S; (try clear hc); intro w1 S; (try simp only [List.set_cons_zero, List.set_cons_succ, List.nil_append] at S); have hc := S.cells; simp only [Cells, cellsC, Im, Row, El, Nat.zero_add, Nat.reduceAdd] at hc) | (go_at_call 37; refine (mayT_ok 1 (by decide) _).mono ?_; rintro e w1 ⟨rfl, rfl⟩) | (go_at_call 83; refine (from2_c y b x _ _ _ _ (S.cell 1 0 rfl rfl) (S.cell 3 0 rfl rfl) (S.cell 2 0 rfl rfl) sy sb sx).mono ?_; rintro e w1 ⟨rfl, hx⟩; replace S := S.ext hx; clear hx; (try clear hc); have hc := S.cells; simp only [Cells, cellsC, Im, Row, El, Nat.zero_add, Nat.reduceAdd] at hc))
    go_ret2
    exact ⟨rfl, S.out⟩
  · have hc := S.cells; simp only [Cells, cellsC, Im, Row, El, Nat.zero_add, Nat.reduceAdd] at hc
    obtain ⟨a1, a2⟩ := sa'
    obtain ⟨a3, a4⟩ := sb'
    obtain ⟨a5, a6⟩ := sx'
    obtain ⟨a7, a8⟩ := sy'
    go_enter Try.func61, Try.ntmps61
    go_wp2_with (first | ((first | (with_reducible refine wpl_seal S ?_) | (with_reducible refine cw_seal S ?_) | (with_reducible refine bp_seal S ?_) | (with_reducible refine ca_seal S ?_)); clear S; (try clear hc); intro w1 S; (try simp only [List.set_cons_zero, List.set_cons_succ, List.nil_append] at S); have hc := S.cells; simp only [Cells, cellsC, Im, Row, El, Nat.zero_add, Nat.reduceAdd] at hc) | (go_at_call 37; refine (mayT_ok 2 (by decide) _).mono ?_; rintro e w1 ⟨rfl, rfl⟩) | (go_at_call 84; refine (from3_c a x b y _ _ _ _ _ (S.cell 4 0 rfl rfl) (S.cell 2 0 rfl rfl) (S.cell 3 0 rfl rfl) (S.cell 1 0 rfl rfl) sa sx sb sy).mono ?_; rintro e w1 ⟨rfl, hx⟩; replace S := S.ext hx; clear hx; (try clear hc); have hc := S.cells; simp only [Cells, cellsC, Im, Row, El, Nat.zero_add, Nat.reduceAdd] at hc))
    go_ret2
    exact ⟨rfl, S.out⟩
  · have hc := S.cells; simp only [Cells, cellsC, Im, Row, El, Nat.zero_add, Nat.reduceAdd] at hc
    obtain ⟨a1, a2⟩ := sa'
    obtain ⟨a3, a4⟩ := sb'
    obtain ⟨a5, a6⟩ := sx'
    obtain ⟨a7, a8⟩ := sy'
    go_enter Try.func61, Try.ntmps61
    go_wp2_with (first | ((first | (with_reducible refine wpl_seal S ?_) | (with_reducible refine cw_seal S ?_) | (with_reducible refine bp_seal S ?_) | (with_reducible refine ca_seal S ?_)); clear S; (try clear hc); intro w1 S; (try simp only [List.set_cons_zero, List.set_cons_succ, List.nil_append] at S); have hc := S.cells; simp only [Cells, cellsC, Im, Row, El, Nat.zero_add, Nat.reduceAdd] at hc) | (go_at_call 37; refine (mayT_ok 3 (by decide) _).mono ?_; rintro e w1 ⟨rfl, rfl⟩) | (go_at_call 85; refine (from4_c a y x _ _ _ _ (S.cell 4 0 rfl rfl) (S.cell 1 0 rfl rfl) (S.cell 2 0 rfl rfl) sa sy sx).mono ?_; rintro e w1 ⟨rfl, hx⟩; replace S := S.ext hx; clear hx; (try clear hc); have hc := S.cells; simp only [Cells, cellsC, Im, Row, El, Nat.zero_add, Nat.reduceAdd] at hc))
    go_ret2
    exact ⟨rfl, S.out⟩
  · have hc := S.cells; simp only [Cells, cellsC, Im, Row, El, Nat.zero_add, Nat.reduceAdd] at hc
    obtain ⟨a1, a2⟩ := sa'
    obtain ⟨a3, a4⟩ := sb'
    obtain ⟨a5, a6⟩ := sx'
    obtain ⟨a7, a8⟩ := sy'
    go_enter Try.func61, Try.ntmps61
    go_wp2_with (first | ((first | (with_reducible refine wpl_seal S ?_) | (with_reducible refine cw_seal S ?_) | (with_reducible refine bp_seal S ?_) | (with_reducible refine ca_seal S ?_)); clear S; (try clear hc); intro w1 S; (try simp only [List.set_cons_zero, List.set_cons_succ, List.nil_append] at S); have hc := S.cells; simp only [Cells, cellsC, Im, Row, El, Nat.zero_add, Nat.reduceAdd] at hc) | (go_at_call 37; refine (mayT_ok 4 (by decide) _).mono ?_; rintro e w1 ⟨rfl, rfl⟩) | (go_at_call 82; refine (from1_c x y _ _ _ (S.cell 2 0 rfl rfl) (S.cell 1 0 rfl rfl)).mono ?_; rintro e w1 ⟨rfl, hx⟩; replace S := S.ext hx; clear hx; (try clear hc); have hc := S.cells; simp only [Cells, cellsC, Im, Row, El, Nat.zero_add, Nat.reduceAdd] at hc))
    go_ret2
    exact ⟨rfl, S.out⟩
  · have hc := S.cells; simp only [Cells, cellsC, Im, Row, El, Nat.zero_add, Nat.reduceAdd] at hc
    obtain ⟨a1, a2⟩ := sa'
    obtain ⟨a3, a4⟩ := sb'
    obtain ⟨a5, a6⟩ := sx'
    obtain ⟨a7, a8⟩ := sy'
    go_enter Try.func61, Try.ntmps61
    go_wp2_with (first | ((first | (with_reducible refine wpl_seal S ?_) | (with_reducible refine cw_seal S ?_) | (with_reducible refine bp_seal S ?_) | (with_reducible refine ca_seal S ?_)); clear S; (try clear hc); intro w1 S; (try simp only [List.set_cons_zero, List.set_cons_succ, List.nil_append] at S); have hc := S.cells; simp only [Cells, cellsC, Im, Row, El, Nat.zero_add, Nat.reduceAdd] at hc) | (go_at_call 37; refine (mayT_ok 5 (by decide) _).mono ?_; rintro e w1 ⟨rfl, rfl⟩) | (go_at_call 83; refine (from2_c y b x _ _ _ _ (S.cell 1 0 rfl rfl) (S.cell 3 0 rfl rfl) (S.cell 2 0 rfl rfl) sy sb sx).mono ?_; rintro e w1 ⟨rfl, hx⟩; replace S := S.ext hx; clear hx; (try clear hc); have hc := S.cells; simp only [Cells, cellsC, Im, Row, El, Nat.zero_add, Nat.reduceAdd] at hc))
    go_ret2
    exact ⟨rfl, S.out⟩
  · have hc := S.cells; simp only [Cells, cellsC, Im, Row, El, Nat.zero_add, Nat.reduceAdd] at hc
    obtain ⟨a1, a2⟩ := sa'
    obtain ⟨a3, a4⟩ := sb'
    obtain ⟨a5, a6⟩ := sx'
    obtain ⟨a7, a8⟩ := sy'
    go_enter Try.func61, Try.ntmps61
    go_wp2_with (first | ((first | (with_reducible refine wpl_seal S ?_) | (with_reducible refine cw_seal S ?_) | (with_reducible refine bp_seal S ?_) | (with_reducible refine ca_seal S ?_)); clear S; (try clear hc); intro w1 S; (try simp only [List.set_cons_zero, List.set_cons_succ, List.nil_append] at S); have hc := S.cells; simp only [Cells, cellsC, Im, Row, El, Nat.zero_add, Nat.reduceAdd] at hc) | (go_at_call 37; refine (mayT_ok 6 (by decide) _).mono ?_; rintro e w1 ⟨rfl, rfl⟩) | (go_at_call 84; refine (from3_c a x b y _ _ _ _ _ (S.cell 4 0 rfl rfl) (S.cell 2 0 rfl rfl) (S.cell 3 0 rfl rfl) (S.cell 1 0 rfl rfl) sa sx sb sy).mono ?_; rintro e w1 ⟨rfl, hx⟩; replace S := S.ext hx; clear hx; (try clear hc); have hc := S.cells; simp only [Cells, cellsC, Im, Row, El, Nat.zero_add, Nat.reduceAdd] at hc))
    go_ret2
    exact ⟨rfl, S.out⟩
  · have hc := S.cells; simp only [Cells, cellsC, Im, Row, El, Nat.zero_add, Nat.reduceAdd] at hc
    obtain ⟨a1, a2⟩ := sa'
    obtain ⟨a3, a4⟩ := sb'
    obtain ⟨a5, a6⟩ := sx'
    obtain ⟨a7, a8⟩ := sy'
    go_enter Try.func61, Try.ntmps61
    go_wp2_with (first | ((first | (with_reducible refine wpl_seal S ?_) | (with_reducible refine cw_seal S ?_) | (with_reducible refine bp_seal S ?_) | (with_reducible refine ca_seal S ?_)); clear S; (try clear hc); intro w1 S; (try simp only [List.set_cons_zero, List.set_cons_succ, List.nil_append] at S); have hc := S.cells; simp only [Cells, cellsC, Im, Row, El, Nat.zero_add, Nat.reduceAdd] at hc) | (go_at_call 37; refine (mayT_ok 7 (by decide) _).mono ?_; rintro e w1 ⟨rfl, rfl⟩) | (go_at_call 85; refine (from4_c a y x _ _ _ _ (S.cell 4 0 rfl rfl) (S.cell 1 0 rfl rfl) (S.cell 2 0 rfl rfl) sa sy sx).mono ?_; rintro e w1 ⟨rfl, hx⟩; replace S := S.ext hx; clear hx; (try clear hc); have hc := S.cells; simp only [Cells, cellsC, Im, Row, El, Nat.zero_add, Nat.reduceAdd] at hc))
    go_ret2
    exact ⟨rfl, S.out⟩
end Go.Proofs.Ytnmlonicfncpfaa
