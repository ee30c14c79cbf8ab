/- A new rectangle; where a number of a laid one stood. Turns: where a number of a laid rectangle stood. A matrix, laid: the program's. -/
import Derived.Test.YtnmlonicfncpfaaGreatDPix
import Derived.Laws.EntriesVeiled
namespace Go.Proofs.YtnmlonicfncpfaaGreat.X
open Go.RowKit
theorem results_cell_tmpR {P : Program} {fn : Func} {t p : Tmp} {ty : TypeId} (h : fn.results = #[.cell p ty, .tmp t]) (tmps : Array Value) (w : World) (g : Nat) (e : TypeId) (cs : Array Value) (fr : Nat × Nat) (d : TypeDesc)
  (hp : tmps.getD p undef = .pointer (some ⟨g, 0, none⟩)) (hg : w.heap[g]? = some (.cells cs e fr))
  (hu : P.underlying ty = some d) (hd : (match d with | .struct _ | .array _ _ => true | _ => false) = true) (hi : (P.info? ty).map (·.size) = some cs.size) :
    (results fn tmps).run P w = .ok (.tuple #[.agg cs, tmps.getD t undef]) w := by
  have hp' : tmps[p]?.getD undef = .pointer (some ⟨g, 0, none⟩) := by simpa using hp
  simp [results, h, hp', asAddr, run_loadVar_row w g e ty cs fr d hg hu hd hi]
end Go.Proofs.YtnmlonicfncpfaaGreat.X
namespace Go.Proofs.YtnmlonicfncpfaaGreat
open Go.RowKit X
set_option maxHeartbeats 1000000
set_option maxRecDepth 8000
set_option linter.unusedSimpArgs false
set_option linter.unusedVariables false
abbrev mx0 : Value := .agg #[.int .i64 0, .int .i64 0, .slice none 0 0]
theorem newNo_c (a b : Int) (w : World) (I : Fp) (hI : ∀ b, I b → b < w.heap.size) (hr : sizedP a b = false) :
    Calls Tryz.prog 75 #[.int .i64 a, .int .i64 b] w fun e w' => e = .returned (.tuple #[mx0, .int .i64 1]) ∧ Ext w w' := by
  have S := SH.start w I hI
  have HR := As.mk hr
  clear hr
  have hc := S.cells; simp only [Cells, cellsC, Im, Row, El, Nat.zero_add, Nat.reduceAdd] at hc
  go_enter Tryz.func75, Tryz.ntmps75
  go_wp2_with (first | ((first | (with_reducible refine wpl_seal S ?_) | (with_reducible refine cw_seal S ?_) | (with_reducible refine bp_seal S ?_) | (with_reducible refine ca_seal S ?_)); clear S; (try clear hc); intro w1 S; (try simp only [List.set_cons_zero, List.set_cons_succ, List.nil_append] at S); have hc := S.cells; simp only [Cells, cellsC, Im, Row, El, Nat.zero_add, Nat.reduceAdd] at hc) | (go_at_call 85; refine (sized_c a b _ HR.out).mono ?_; rintro e w1 ⟨rfl, rfl⟩))
  refine bodyPost_ret (results_cell_tmpR rfl _ _ w.heap.size 34 _ (0, 0) _ rfl (S.cel 0 rfl) Tryz.underlying34 rfl (by kernel_rfl)) rfl ?_
  exact ⟨rfl, S.out⟩
theorem newOk_c (a b : Int) (n : Nat) (w : World) (I : Fp) (hI : ∀ b, I b → b < w.heap.size) (hr : sizedP a b = true) (hn : a * b = n) (hm : n ≤ 1000000) :
    Calls Tryz.prog 75 #[.int .i64 a, .int .i64 b] w fun e w' => ∃ g, e = .returned (.tuple #[.agg #[.int .i64 a, .int .i64 b, .slice (some ⟨g, 0, none⟩) n n], .int .i64 0]) ∧ Upd w No I w' (Row kP (.slice (some ⟨g, 0, none⟩) n n) (List.replicate n 0)) := by
  have S := SH.start w I hI
  have HR := As.mk hr
  obtain ⟨h1, h2, h3, h4, h5⟩ := sizedP_iff.1 hr
  obtain ⟨hm1, hm2⟩ := mul_in h1 h2 h3 h4
  clear hr
  have hw : IntKind.i64.wrap (a * b) = n := by rw [IntKind.wrap_i64]; omega
  have hc := S.cells; simp only [Cells, cellsC, Im, Row, El, Nat.zero_add, Nat.reduceAdd] at hc
  go_enter Tryz.func75, Tryz.ntmps75
  go_wp2_with (first | ((first | (with_reducible refine wpl_seal S ?_) | (with_reducible refine cw_seal S ?_) | (with_reducible refine bp_seal S ?_) | (with_reducible refine ca_seal S ?_)); clear S; (try clear hc); intro w1 S; (try simp only [List.set_cons_zero, List.set_cons_succ, List.nil_append] at S); have hc := S.cells; simp only [Cells, cellsC, Im, Row, El, Nat.zero_add, Nat.reduceAdd] at hc) | (go_at_call 85; refine (sized_c a b _ HR.out).mono ?_; rintro e w1 ⟨rfl, rfl⟩) | (at_make; refine wpl_make (k := kP) S rfl _ _ rfl (z := .int .u64 0) (bytes := 8) (size := 1) Tryz.underlying32 (by kernel_rfl) rfl (by omega) .i64 .i64 n (by first | rfl | (rw [hn]; rfl) | (simp; omega)) (by first | rfl | (rw [hn]; rfl)) hm 0 (fun _ => rfl) (by omega) ?_; clear S hc; intro g w1 S; have hc := S.cells; simp only [Cells, cellsC, Im, Row, El, Nat.zero_add, Nat.reduceAdd] at hc))
  refine bodyPost_ret (results_cell_tmpR rfl _ _ w.heap.size 34 _ (0, 0) _ rfl (S.cel 1 rfl) Tryz.underlying34 rfl (by kernel_rfl)) rfl ?_
  exact ⟨_, rfl, S.ret 0 rfl⟩
end Go.Proofs.YtnmlonicfncpfaaGreat
namespace Go.Proofs.YtnmlonicfncpfaaGreat
open Go.RowKit X
set_option maxHeartbeats 1000000
set_option maxRecDepth 8000
set_option linter.unusedSimpArgs false
set_option linter.unusedVariables false
theorem mayT_c (n : Int) (w : World) : Calls Tryz.prog 50 #[.int .i64 n] w fun e w' => e = .returned (.bool (decide (0 ≤ n) && decide (n < 8))) ∧ w' = w := by
  by_cases h1 : n ≥ 0
  · have h1' : decide (n ≥ 0) = true := decide_eq_true h1
    have h2 : (decide (0 ≤ n) && decide (n < 8)) = decide (n < 8) := by rw [decide_eq_true (show 0 ≤ n from h1), Bool.true_and]
    rw [h2]
    go_enter Tryz.func50, Tryz.ntmps50
    go_wp2
    go_ret
    exact ⟨rfl, rfl⟩
  · have h1' : decide (n ≥ 0) = false := decide_eq_false h1
    have h2 : (decide (0 ≤ n) && decide (n < 8)) = false := by rw [decide_eq_false (show ¬ 0 ≤ n from h1), Bool.false_and]
    rw [h2]
    go_enter Tryz.func50, Tryz.ntmps50
    go_wp2
    go_ret
    exact ⟨rfl, rfl⟩
theorem mayT_ok (g : Nat) (hg : g < 8) (w : World) : Calls Tryz.prog 50 #[.int .i64 g] w fun e w' => e = .returned (.bool true) ∧ w' = w := by
  have := mayT_c g w
  rwa [decide_eq_true (show (0 : Int) ≤ g by omega), decide_eq_true (show (g : Int) < 8 by omega), Bool.true_and] at this
theorem mayT_no (n : Int) (hn : ¬ (0 ≤ n ∧ n < 8)) (w : World) : Calls Tryz.prog 50 #[.int .i64 n] w fun e w' => e = .returned (.bool false) ∧ w' = w := by
  have := mayT_c n w
  rwa [show (decide (0 ≤ n) && decide (n < 8)) = false by rw [Bool.and_eq_false_iff, decide_eq_false_iff_not, decide_eq_false_iff_not]; omega] at this
/-- small numbers -/
def Sml (x : Int) : Prop := -1000000000 ≤ x ∧ x ≤ 1000000000
theorem from1_c (x y : Int) (A B : Addr) (w : World) (hx : w.cell? A = some (.int .i64 x)) (hy : w.cell? B = some (.int .i64 y)) : Calls Tryz.prog 101 #[.pointer (some A), .pointer (some B)] w fun e w' => e = .returned (.tuple #[.int .i64 x, .int .i64 y]) ∧ Ext w w' := by
  have q1 := ClE.cell (w := w.drew) hx
  have q2 := ClE.cell (w := w.drew) hy
  go_enter Tryz.func101, Tryz.ntmps101
  go_wp2
  refine wp_region_ext [] [0, 1, 2, 3] (by kernel_rfl) (by kernel_rfl) ?_
  refine mix_last rfl ?_
  simp only [opsAt, List.getD_cons_succ, List.getD_cons_zero]
  repeat (go_big_quiet_step ((intro hC; first | rfl | (go_simp; first | done | rfl))))
  refine wpQuiet_nil ?_
  simp only [calmQ]
  go_wp2
  go_ret2
  exact ⟨rfl, (Ext.refl w).drew⟩
theorem from2_c (y h x : Int) (A B C : Addr) (w : World) (hy : w.cell? A = some (.int .i64 y)) (hh : w.cell? B = some (.int .i64 h)) (hx : w.cell? C = some (.int .i64 x)) (sy : Sml y) (sh : Sml h) (sx : Sml x) : Calls Tryz.prog 102 #[.pointer (some A), .pointer (some B), .pointer (some C)] w fun e w' => e = .returned (.tuple #[.int .i64 y, .int .i64 (h - 1 - x)]) ∧ Ext w w' := by
  have q1 := ClE.cell (w := w.drew) hy
  have q2 := ClE.cell (w := w.drew) hh
  have q3 := ClE.cell (w := w.drew) hx
  obtain ⟨a1, a2⟩ := sy
  obtain ⟨a3, a4⟩ := sh
  obtain ⟨a5, a6⟩ := sx
  go_enter Tryz.func102, Tryz.ntmps102
  go_wp2
  refine wp_region_ext [] [0, 1, 2, 3, 4, 5, 6] (by kernel_rfl) (by kernel_rfl) ?_
  refine mix_last rfl ?_
  simp only [opsAt, List.getD_cons_succ, List.getD_cons_zero]
  repeat (go_big_quiet_step ((intro hC; first | rfl | (go_simp; first | done | rfl))))
  refine wpQuiet_nil ?_
  simp only [calmQ]
  go_wp2
  go_ret2
  exact ⟨rfl, (Ext.refl w).drew⟩
theorem from3_c (z x h y : Int) (A B C D : Addr) (w : World) (hz : w.cell? A = some (.int .i64 z)) (hx : w.cell? B = some (.int .i64 x)) (hh : w.cell? C = some (.int .i64 h)) (hy : w.cell? D = some (.int .i64 y)) (sz : Sml z) (sx : Sml x) (sh : Sml h) (sy : Sml y) : Calls Tryz.prog 103 #[.pointer (some A), .pointer (some B), .pointer (some C), .pointer (some D)] w fun e w' => e = .returned (.tuple #[.int .i64 (z - 1 - x), .int .i64 (h - 1 - y)]) ∧ Ext w w' := by
  have q1 := ClE.cell (w := w.drew) hz
  have q2 := ClE.cell (w := w.drew) hx
  have q3 := ClE.cell (w := w.drew) hh
  have q4 := ClE.cell (w := w.drew) hy
  obtain ⟨a1, a2⟩ := sz
  obtain ⟨a3, a4⟩ := sx
  obtain ⟨a5, a6⟩ := sh
  obtain ⟨a7, a8⟩ := sy
  go_enter Tryz.func103, Tryz.ntmps103
  go_wp2
  refine wp_region_ext [] [0, 1, 2, 3, 4, 5, 6, 7, 8, 9] (by kernel_rfl) (by kernel_rfl) ?_
  refine mix_last rfl ?_
  simp only [opsAt, List.getD_cons_succ, List.getD_cons_zero]
  repeat (go_big_quiet_step ((intro hC; first | rfl | (go_simp; first | done | rfl))))
  refine wpQuiet_nil ?_
  simp only [calmQ]
  go_wp2
  go_ret2
  exact ⟨rfl, (Ext.refl w).drew⟩
theorem from4_c (z y x : Int) (A B C : Addr) (w : World) (hz : w.cell? A = some (.int .i64 z)) (hy : w.cell? B = some (.int .i64 y)) (hx : w.cell? C = some (.int .i64 x)) (sz : Sml z) (sy : Sml y) (sx : Sml x) : Calls Tryz.prog 104 #[.pointer (some A), .pointer (some B), .pointer (some C)] w fun e w' => e = .returned (.tuple #[.int .i64 (z - 1 - y), .int .i64 x]) ∧ Ext w w' := by
  have q1 := ClE.cell (w := w.drew) hz
  have q2 := ClE.cell (w := w.drew) hy
  have q3 := ClE.cell (w := w.drew) hx
  obtain ⟨a1, a2⟩ := sz
  obtain ⟨a3, a4⟩ := sy
  obtain ⟨a5, a6⟩ := sx
  go_enter Tryz.func104, Tryz.ntmps104
  go_wp2
  refine wp_region_ext [] [0, 1, 2, 3, 4, 5, 6] (by kernel_rfl) (by kernel_rfl) ?_
  refine mix_last rfl ?_
  simp only [opsAt, List.getD_cons_succ, List.getD_cons_zero]
  repeat (go_big_quiet_step ((intro hC; first | rfl | (go_simp; first | done | rfl))))
  refine wpQuiet_nil ?_
  simp only [calmQ]
  go_wp2
  go_ret2
  exact ⟨rfl, (Ext.refl w).drew⟩
def from0 (w h x y : Int) (q : Nat) : Int × Int := match q with | 0 => (x, y) | 1 => (y, h - 1 - x) | 2 => (w - 1 - x, h - 1 - y) | _ => (w - 1 - y, x)
/-- where a number stood, at turn g -/
def fromP (w h x y : Int) (g : Nat) : Int × Int := if g < 4 then from0 w h x y g else (w - 1 - (from0 w h x y (g - 4)).1, (from0 w h x y (g - 4)).2)
theorem from_c (a b x y : Int) (g : Nat) (hg : g < 8) (sa : Sml a) (sb : Sml b) (sx : Sml x) (sy : Sml y) (w : World) (I : Fp) (hI : ∀ b, I b → b < w.heap.size) {r : Int × Int} (hr : fromP a b x y g = r) :
    Calls Tryz.prog 77 #[.int .i64 a, .int .i64 b, .int .i64 g, .int .i64 x, .int .i64 y] w fun e w' => e = .returned (.tuple #[.int .i64 r.1, .int .i64 r.2]) ∧ Ext w w' := by
  have S := SH.start w I hI
  subst hr
  have sa' := sa
  have sb' := sb
  have sx' := sx
  have sy' := sy
  obtain rfl | rfl | rfl | rfl | rfl | rfl | rfl | rfl : g = 0 ∨ g = 1 ∨ g = 2 ∨ g = 3 ∨ g = 4 ∨ g = 5 ∨ g = 6 ∨ g = 7 := by omega
  · have hc := S.cells; simp only [Cells, cellsC, Im, Row, El, Im, Nat.zero_add, Nat.reduceAdd] at hc
    obtain ⟨a1, a2⟩ := sa'
    obtain ⟨a3, a4⟩ := sb'
    obtain ⟨a5, a6⟩ := sx'
    obtain ⟨a7, a8⟩ := sy'
    go_enter Tryz.func77, Tryz.ntmps77
    go_wp2_with (first | ((first | (with_reducible refine wpl_seal S ?_) | (with_reducible refine cw_seal S ?_) | (with_reducible refine bp_seal S ?_) | (with_reducible refine ca_seal S ?_)); clear S; (try clear hc); intro w1 S; (try simp only [List.set_cons_zero, List.set_cons_succ, List.nil_append] at S); have hc := S.cells; simp only [Cells, cellsC, Im, Row, El, Im, Nat.zero_add, Nat.reduceAdd] at hc) | (go_at_call 50; refine (mayT_ok 0 (by decide) _).mono ?_; rintro e w1 ⟨rfl, rfl⟩) | (go_at_call 101; refine (from1_c x y _ _ _ (S.cell 2 0 rfl rfl) (S.cell 1 0 rfl rfl)).mono ?_; rintro e w1 ⟨rfl, hx⟩; replace S := S.ext hx; clear hx; (try clear hc); have hc := S.cells; simp only [Cells, cellsC, Im, Row, El, Im, Nat.zero_add, Nat.reduceAdd] at hc))
    go_ret2
    exact ⟨rfl, S.out⟩
  · have hc := S.cells; simp only [Cells, cellsC, Im, Row, El, Im, Nat.zero_add, Nat.reduceAdd] at hc
    obtain ⟨a1, a2⟩ := sa'
    obtain ⟨a3, a4⟩ := sb'
    obtain ⟨a5, a6⟩ := sx'
    obtain ⟨a7, a8⟩ := sy'
    go_enter Tryz.func77, Tryz.ntmps77
    go_wp2_with (first | ((first | (with_reducible refine wpl_seal S ?_) | (with_reducible refine cw_seal S ?_) | (with_reducible refine bp_seal S ?_) | (with_reducible refine ca_seal S ?_)); clear S; (try clear hc); intro w1 S; (try simp only [List.set_cons_zero, List.set_cons_succ, List.nil_append] at S); have hc := S.cells; simp only [Cells, cellsC, Im, Row, El, Im, Nat.zero_add, Nat.reduceAdd] at hc) | (go_at_call 50; refine (mayT_ok 1 (by decide) _).mono ?_; rintro e w1 ⟨rfl, rfl⟩) | (go_at_call 102; refine (from2_c y b x _ _ _ _ (S.cell 1 0 rfl rfl) (S.cell 3 0 rfl rfl) (S.cell 2 0 rfl rfl) sy sb sx).mono ?_; rintro e w1 ⟨rfl, hx⟩; replace S := S.ext hx; clear hx; (try clear hc); have hc := S.cells; simp only [Cells, cellsC, Im, Row, El, Im, Nat.zero_add, Nat.reduceAdd] at hc))
    go_ret2
    exact ⟨rfl, S.out⟩
  · have hc := S.cells; simp only [Cells, cellsC, Im, Row, El, Im, Nat.zero_add, Nat.reduceAdd] at hc
    obtain ⟨a1, a2⟩ := sa'
    obtain ⟨a3, a4⟩ := sb'
    obtain ⟨a5, a6⟩ := sx'
    obtain ⟨a7, a8⟩ := sy'
    go_enter Tryz.func77, Tryz.ntmps77
    go_wp2_with (first | ((first | (with_reducible refine wpl_seal S ?_) | (with_reducible refine cw_seal S ?_) | (with_reducible refine bp_seal S ?_) | (with_reducible refine ca_seal S ?_)); clear S; (try clear hc); intro w1 S; (try simp only [List.set_cons_zero, List.set_cons_succ, List.nil_append] at S); have hc := S.cells; simp only [Cells, cellsC, Im, Row, El, Im, Nat.zero_add, Nat.reduceAdd] at hc) | (go_at_call 50; refine (mayT_ok 2 (by decide) _).mono ?_; rintro e w1 ⟨rfl, rfl⟩) | (go_at_call 103; refine (from3_c a x b y _ _ _ _ _ (S.cell 4 0 rfl rfl) (S.cell 2 0 rfl rfl) (S.cell 3 0 rfl rfl) (S.cell 1 0 rfl rfl) sa sx sb sy).mono ?_; rintro e w1 ⟨rfl, hx⟩; replace S := S.ext hx; clear hx; (try clear hc); have hc := S.cells; simp only [Cells, cellsC, Im, Row, El, Im, Nat.zero_add, Nat.reduceAdd] at hc))
    go_ret2
    exact ⟨rfl, S.out⟩
  · have hc := S.cells; simp only [Cells, cellsC, Im, Row, El, Im, Nat.zero_add, Nat.reduceAdd] at hc
    obtain ⟨a1, a2⟩ := sa'
    obtain ⟨a3, a4⟩ := sb'
    obtain ⟨a5, a6⟩ := sx'
    obtain ⟨a7, a8⟩ := sy'
    go_enter Tryz.func77, Tryz.ntmps77
    go_wp2_with (first | ((first | (with_reducible refine wpl_seal S ?_) | (with_reducible refine cw_seal S ?_) | (with_reducible refine bp_seal S ?_) | (with_reducible refine ca_seal S ?_)); clear S; (try clear hc); intro w1 S; (try simp only [List.set_cons_zero, List.set_cons_succ, List.nil_append] at S); have hc := S.cells; simp only [Cells, cellsC, Im, Row, El, Im, Nat.zero_add, Nat.reduceAdd] at hc) | (go_at_call 50; refine (mayT_ok 3 (by decide) _).mono ?_; rintro e w1 ⟨rfl, rfl⟩) | (go_at_call 104; refine (from4_c a y x _ _ _ _ (S.cell 4 0 rfl rfl) (S.cell 1 0 rfl rfl) (S.cell 2 0 rfl rfl) sa sy sx).mono ?_; rintro e w1 ⟨rfl, hx⟩; replace S := S.ext hx; clear hx; (try clear hc); have hc := S.cells; simp only [Cells, cellsC, Im, Row, El, Im, Nat.zero_add, Nat.reduceAdd] at hc))
    go_ret2
    exact ⟨rfl, S.out⟩
  · have hc := S.cells; simp only [Cells, cellsC, Im, Row, El, Im, Nat.zero_add, Nat.reduceAdd] at hc
    obtain ⟨a1, a2⟩ := sa'
    obtain ⟨a3, a4⟩ := sb'
    obtain ⟨a5, a6⟩ := sx'
    obtain ⟨a7, a8⟩ := sy'
    go_enter Tryz.func77, Tryz.ntmps77
    go_wp2_with (first | ((first | (with_reducible refine wpl_seal S ?_) | (with_reducible refine cw_seal S ?_) | (with_reducible refine bp_seal S ?_) | (with_reducible refine ca_seal S ?_)); clear S; (try clear hc); intro w1 S; (try simp only [List.set_cons_zero, List.set_cons_succ, List.nil_append] at S); have hc := S.cells; simp only [Cells, cellsC, Im, Row, El, Im, Nat.zero_add, Nat.reduceAdd] at hc) | (go_at_call 50; refine (mayT_ok 4 (by decide) _).mono ?_; rintro e w1 ⟨rfl, rfl⟩) | (go_at_call 101; refine (from1_c x y _ _ _ (S.cell 2 0 rfl rfl) (S.cell 1 0 rfl rfl)).mono ?_; rintro e w1 ⟨rfl, hx⟩; replace S := S.ext hx; clear hx; (try clear hc); have hc := S.cells; simp only [Cells, cellsC, Im, Row, El, Im, Nat.zero_add, Nat.reduceAdd] at hc))
    go_ret2
    exact ⟨rfl, S.out⟩
  · have hc := S.cells; simp only [Cells, cellsC, Im, Row, El, Im, Nat.zero_add, Nat.reduceAdd] at hc
    obtain ⟨a1, a2⟩ := sa'
    obtain ⟨a3, a4⟩ := sb'
    obtain ⟨a5, a6⟩ := sx'
    obtain ⟨a7, a8⟩ := sy'
    go_enter Tryz.func77, Tryz.ntmps77
    go_wp2_with (first | ((first | (with_reducible refine wpl_seal S ?_) | (with_reducible refine cw_seal S ?_) | (with_reducible refine bp_seal S ?_) | (with_reducible refine ca_seal S ?_)); clear S; (try clear hc); intro w1 S; (try simp only [List.set_cons_zero, List.set_cons_succ, List.nil_append] at S); have hc := S.cells; simp only [Cells, cellsC, Im, Row, El, Im, Nat.zero_add, Nat.reduceAdd] at hc) | (go_at_call 50; refine (mayT_ok 5 (by decide) _).mono ?_; rintro e w1 ⟨rfl, rfl⟩) | (go_at_call 102; refine (from2_c y b x _ _ _ _ (S.cell 1 0 rfl rfl) (S.cell 3 0 rfl rfl) (S.cell 2 0 rfl rfl) sy sb sx).mono ?_; rintro e w1 ⟨rfl, hx⟩; replace S := S.ext hx; clear hx; (try clear hc); have hc := S.cells; simp only [Cells, cellsC, Im, Row, El, Im, Nat.zero_add, Nat.reduceAdd] at hc))
    go_ret2
    exact ⟨rfl, S.out⟩
  · have hc := S.cells; simp only [Cells, cellsC, Im, Row, El, Im, Nat.zero_add, Nat.reduceAdd] at hc
    obtain ⟨a1, a2⟩ := sa'
    obtain ⟨a3, a4⟩ := sb'
    obtain ⟨a5, a6⟩ := sx'
    obtain ⟨a7, a8⟩ := sy'
    go_enter Tryz.func77, Tryz.ntmps77
    go_wp2_with (first | ((first | (with_reducible refine wpl_seal S ?_) | (with_reducible refine cw_seal S ?_) | (with_reducible refine bp_seal S ?_) | (with_reducible refine ca_seal S ?_)); clear S; (try clear hc); intro w1 S; (try simp only [List.set_cons_zero, List.set_cons_succ, List.nil_append] at S); have hc := S.cells; simp only [Cells, cellsC, Im, Row, El, Im, Nat.zero_add, Nat.reduceAdd] at hc) | (go_at_call 50; refine (mayT_ok 6 (by decide) _).mono ?_; rintro e w1 ⟨rfl, rfl⟩) | (go_at_call 103; refine (from3_c a x b y _ _ _ _ _ (S.cell 4 0 rfl rfl) (S.cell 2 0 rfl rfl) (S.cell 3 0 rfl rfl) (S.cell 1 0 rfl rfl) sa sx sb sy).mono ?_; rintro e w1 ⟨rfl, hx⟩; replace S := S.ext hx; clear hx; (try clear hc); have hc := S.cells; simp only [Cells, cellsC, Im, Row, El, Im, Nat.zero_add, Nat.reduceAdd] at hc))
    go_ret2
    exact ⟨rfl, S.out⟩
  · have hc := S.cells; simp only [Cells, cellsC, Im, Row, El, Im, Nat.zero_add, Nat.reduceAdd] at hc
    obtain ⟨a1, a2⟩ := sa'
    obtain ⟨a3, a4⟩ := sb'
    obtain ⟨a5, a6⟩ := sx'
    obtain ⟨a7, a8⟩ := sy'
    go_enter Tryz.func77, Tryz.ntmps77
    go_wp2_with (first | ((first | (with_reducible refine wpl_seal S ?_) | (with_reducible refine cw_seal S ?_) | (with_reducible refine bp_seal S ?_) | (with_reducible refine ca_seal S ?_)); clear S; (try clear hc); intro w1 S; (try simp only [List.set_cons_zero, List.set_cons_succ, List.nil_append] at S); have hc := S.cells; simp only [Cells, cellsC, Im, Row, El, Im, Nat.zero_add, Nat.reduceAdd] at hc) | (go_at_call 50; refine (mayT_ok 7 (by decide) _).mono ?_; rintro e w1 ⟨rfl, rfl⟩) | (go_at_call 104; refine (from4_c a y x _ _ _ _ (S.cell 4 0 rfl rfl) (S.cell 1 0 rfl rfl) (S.cell 2 0 rfl rfl) sa sy sx).mono ?_; rintro e w1 ⟨rfl, hx⟩; replace S := S.ext hx; clear hx; (try clear hc); have hc := S.cells; simp only [Cells, cellsC, Im, Row, El, Im, Nat.zero_add, Nat.reduceAdd] at hc))
    go_ret2
    exact ⟨rfl, S.out⟩
end Go.Proofs.YtnmlonicfncpfaaGreat
namespace Go.Proofs.YtnmlonicfncpfaaGreat.X
open Go.RowKit
class JLt (j n : Nat) : Prop where
  out : j < n
/-- a number of a row is written -/
class SetRN (ety : TypeId) (ik : IntKind) (L : List Ob) (b j : Nat) (z : Int) (L' : outParam (List Ob)) : Prop where
  out : ∃ i n c xs, L[i]? = some (Row (Kd.int ety ik) (.slice (some ⟨b, 0, none⟩) n c) xs) ∧ j < xs.length ∧ L' = L.set i (Row (Kd.int ety ik) (.slice (some ⟨b, 0, none⟩) n c) (xs.set j z))
instance {ety : TypeId} {ik : IntKind} (b j n c : Nat) (z : Int) (xs : List Int) (L : List Ob) [h : JLt j xs.length] : SetRN ety ik (Row (Kd.int ety ik) (.slice (some ⟨b, 0, none⟩) n c) xs :: L) b j z (Row (Kd.int ety ik) (.slice (some ⟨b, 0, none⟩) n c) (xs.set j z) :: L) := ⟨0, n, c, xs, rfl, h.out, rfl⟩
instance (priority := 500) {ety : TypeId} {ik : IntKind} (b j : Nat) (z : Int) (o : Ob) (L L' : List Ob) [h : SetRN ety ik L b j z L'] : SetRN ety ik (o :: L) b j z (o :: L') := by
  obtain ⟨i, n, c, xs, h1, h2, h3⟩ := h.out
  exact ⟨i + 1, n, c, xs, by simpa using h1, h2, by rw [h3]; rfl⟩
theorem SH.setN {ety : TypeId} {ik : IntKind} {F0 I0 I : Fp} {w0 w : World} {L L' : List Ob} {b j : Nat} {z : Int} (s : SH F0 I0 w0 L w I) (h : SetRN ety ik L b j z L') : SH F0 I0 w0 L' (w.setCell ⟨b, j, none⟩ (.int ik z)) I := by
  obtain ⟨i, n, c, xs, e, hj, rfl⟩ := h.out
  have := s.putK i e j 0 hj (by show 0 < 1; omega) (.int ik z) z (fun cs h => by have h : cs = [_] := h; subst h; rfl)
  have e1 : j * (Kd.int ety ik).size + 0 = j := by show j * 1 + 0 = j; omega
  rwa [e1] at this
/-- f up to k, g from there on -/
def upK {α : Type} (n : Nat) (f g : Nat → α) (k : Nat) : List α := (List.range n).map fun i => if i < k then f i else g i
section
variable {α : Type} {n k : Nat} {f g : Nat → α}
theorem upK_len : (upK n f g k).length = n := by simp [upK]
theorem upK_at {i : Nat} (h : i < (upK n f g k).length) : (upK n f g k)[i] = if i < k then f i else g i := by simp [upK]
theorem upK_set : (upK n f g k).set k (f k) = upK n f g (k + 1) := by
  apply List.ext_getElem
  · simp [upK]
  · intro i h1 h2
    rw [List.getElem_set, upK_at, upK_at]
    by_cases hik : k = i
    · subst hik; rw [if_pos rfl, if_pos (Nat.lt_succ_self _)]
    · rw [if_neg hik]
      by_cases h : i < k
      · rw [if_pos h, if_pos (by omega)]
      · rw [if_neg h, if_neg (by omega)]
theorem upK_all : upK n f g n = (List.range n).map f := by
  unfold upK
  apply List.map_congr_left
  intro i hi
  rw [if_pos (List.mem_range.1 hi)]
theorem upK_none {x : α} : List.replicate n x = upK n f (fun _ => x) 0 := by
  apply List.ext_getElem
  · simp [upK]
  · intro i h1 h2
    rw [upK_at, List.getElem_replicate, if_neg (Nat.not_lt_zero _)]
end
end Go.Proofs.YtnmlonicfncpfaaGreat.X
namespace Go.Proofs.YtnmlonicfncpfaaGreat
open Go.RowKit X
set_option maxHeartbeats 2000000
set_option maxRecDepth 8000
set_option linter.unusedSimpArgs false
set_option linter.unusedVariables false
def sizeP (a b : Int) (g : Nat) : Int × Int := if g % 2 = 0 then (a, b) else (b, a)
theorem size_c (a b : Int) (g : Nat) (hg : g < 8) (w : World) : Calls Tryz.prog 76 #[.int .i64 a, .int .i64 b, .int .i64 g] w fun e w' => e = .returned (.tuple #[.int .i64 (sizeP a b g).1, .int .i64 (sizeP a b g).2]) ∧ w' = w := by
  obtain rfl | rfl | rfl | rfl | rfl | rfl | rfl | rfl : g = 0 ∨ g = 1 ∨ g = 2 ∨ g = 3 ∨ g = 4 ∨ g = 5 ∨ g = 6 ∨ g = 7 := by omega
  · go_enter Tryz.func76, Tryz.ntmps76
    go_wp2_with (go_at_call 50; refine (mayT_ok 0 (by decide) _).mono ?_; rintro e w1 ⟨rfl, rfl⟩)
    go_ret2
    exact ⟨rfl, rfl⟩
  · go_enter Tryz.func76, Tryz.ntmps76
    go_wp2_with (go_at_call 50; refine (mayT_ok 1 (by decide) _).mono ?_; rintro e w1 ⟨rfl, rfl⟩)
    go_ret2
    exact ⟨rfl, rfl⟩
  · go_enter Tryz.func76, Tryz.ntmps76
    go_wp2_with (go_at_call 50; refine (mayT_ok 2 (by decide) _).mono ?_; rintro e w1 ⟨rfl, rfl⟩)
    go_ret2
    exact ⟨rfl, rfl⟩
  · go_enter Tryz.func76, Tryz.ntmps76
    go_wp2_with (go_at_call 50; refine (mayT_ok 3 (by decide) _).mono ?_; rintro e w1 ⟨rfl, rfl⟩)
    go_ret2
    exact ⟨rfl, rfl⟩
  · go_enter Tryz.func76, Tryz.ntmps76
    go_wp2_with (go_at_call 50; refine (mayT_ok 4 (by decide) _).mono ?_; rintro e w1 ⟨rfl, rfl⟩)
    go_ret2
    exact ⟨rfl, rfl⟩
  · go_enter Tryz.func76, Tryz.ntmps76
    go_wp2_with (go_at_call 50; refine (mayT_ok 5 (by decide) _).mono ?_; rintro e w1 ⟨rfl, rfl⟩)
    go_ret2
    exact ⟨rfl, rfl⟩
  · go_enter Tryz.func76, Tryz.ntmps76
    go_wp2_with (go_at_call 50; refine (mayT_ok 6 (by decide) _).mono ?_; rintro e w1 ⟨rfl, rfl⟩)
    go_ret2
    exact ⟨rfl, rfl⟩
  · go_enter Tryz.func76, Tryz.ntmps76
    go_wp2_with (go_at_call 50; refine (mayT_ok 7 (by decide) _).mono ?_; rintro e w1 ⟨rfl, rfl⟩)
    go_ret2
    exact ⟨rfl, rfl⟩
theorem at_c (x : Mx) (A : Option Addr) (n : Nat) (a b : Int) (k : Nat) (y : Int) (ha : 0 ≤ a ∧ a < x.w) (hb : 0 ≤ b ∧ b < x.h) (hk : b * x.w + a = k) (hs : k < 1000000) (hw : x.w ≤ 4096) (hy : x.l[k]? = some y) (w : World) (I : Fp) (hI : ∀ b, I b → b < w.heap.size) (hl : Sl kP w I A x.l) :
    Calls Tryz.prog 78 #[mxV x A n, .int .i64 a, .int .i64 b] w fun e w' => e = .returned (.tuple #[.int .u64 y, .bool true]) ∧ Ext w w' := by
  have S := (SH.start w I hI).know (h := Im kP A x.l) hl
  obtain ⟨c, d, l⟩ := x
  dsimp only [mxV] at *
  obtain ⟨bb, oo, rfl, hcx⟩ := hl.num_at hy
  have hkl := (List.getElem?_eq_some_iff.1 hy).1
  have d1 : (decide (0 ≤ a) && decide (a < c)) = true := by simp; omega
  have d2 : (decide (0 ≤ b) && decide (b < d)) = true := by simp; omega
  have hbc : 0 ≤ b * c := Int.mul_nonneg hb.1 (by omega)
  have hbc2 : b * c ≤ 1000000 := by omega
  have hix : b * c + a = k := hk
  clear hl hk hcx
  have D1 := As.mk d1
  have HY := As.mk hy
  have D2 := As.mk d2
  clear d1 d2 hy
  have hc := S.cells; simp only [Cells, cellsC, Im, Row, El, Im, Nat.zero_add, Nat.reduceAdd] at hc
  go_enter Tryz.func78, Tryz.ntmps78
  have hm1 : True := trivial
  go_wp2_with (first | ((first | (with_reducible refine wpl_seal S ?_) | (with_reducible refine cw_seal S ?_) | (with_reducible refine bp_seal S ?_) | (with_reducible refine ca_seal S ?_)); clear S; (try clear hc); intro w1 S; (try simp only [List.set_cons_zero, List.set_cons_succ, List.nil_append] at S); have hc := S.cells; simp only [Cells, cellsC, Im, Row, El, Im, Nat.zero_add, Nat.reduceAdd] at hc) | (go_at_call 105; clear hm1; refine (in_c a c _).mono ?_; rw [D1.out]; rintro e w1 ⟨rfl, rfl⟩) | (go_at_call 105; refine (in_c b d _).mono ?_; rw [D2.out]; rintro e w1 ⟨rfl, rfl⟩; obtain ⟨b', o', e', hcx2⟩ := (S.im 1 rfl).num_at HY.out; cases e'))
  go_ret2
  exact ⟨rfl, S.out⟩
instance (w : World) (L : List Ob) (b j : Nat) (z : Int) (W : World) (L' L2 : List Ob) [h : Built w L W L'] [g : SetRN 52 .u64 L' b j z L2] : Built1 w L (W.setCell ⟨b, j, none⟩ (.int .u64 z)) L2 := ⟨fun s => (h.out s).setN g⟩
theorem from_in {a b x y : Int} {g : Nat} (hg : g < 8) (hx : 0 ≤ x ∧ x < (sizeP a b g).1) (hy : 0 ≤ y ∧ y < (sizeP a b g).2) : (0 ≤ (fromP a b x y g).1 ∧ (fromP a b x y g).1 < a) ∧ 0 ≤ (fromP a b x y g).2 ∧ (fromP a b x y g).2 < b := by
  obtain rfl | rfl | rfl | rfl | rfl | rfl | rfl | rfl : g = 0 ∨ g = 1 ∨ g = 2 ∨ g = 3 ∨ g = 4 ∨ g = 5 ∨ g = 6 ∨ g = 7 := by omega
  all_goals (simp only [sizeP, Nat.reduceMod, if_true, if_false, Nat.one_ne_zero] at hx hy; simp only [fromP, from0, Nat.reduceLT, if_true, if_false, Nat.reduceSub]; omega)
/-- a laid matrix' number i -/
def layAt (x : Mx) (g i : Nat) : Int := x.l.getD ((fromP x.w x.h ((i : Int) % (sizeP x.w x.h g).1) ((i : Int) / (sizeP x.w x.h g).1) g).2 * x.w + (fromP x.w x.h ((i : Int) % (sizeP x.w x.h g).1) ((i : Int) / (sizeP x.w x.h g).1) g).1).toNat 0
def layP (x : Mx) (g : Nat) : Mx := ⟨(sizeP x.w x.h g).1, (sizeP x.w x.h g).2, (List.range x.l.length).map (layAt x g)⟩
def layOk (x : Mx) (g : Nat) : Bool := sizedP (sizeP x.w x.h g).1 (sizeP x.w x.h g).2
theorem idx_in {a b x y : Int} {n : Nat} (hn : (n : Int) = a * b) (hx : 0 ≤ x ∧ x < a) (hy : 0 ≤ y ∧ y < b) : 0 ≤ y * a + x ∧ y * a + x < n := by
  have h1 : 0 ≤ y * a := Int.mul_nonneg hy.1 (by omega)
  have h2 : (y + 1) * a ≤ b * a := Int.mul_le_mul_of_nonneg_right (by omega) (by omega)
  rw [Int.add_mul, Int.one_mul, Int.mul_comm b a] at h2
  omega
theorem split_in {a b : Int} {n i : Nat} (hn : (n : Int) = a * b) (ha : 1 ≤ a) (hi : i < n) : (0 ≤ (i : Int) % a ∧ (i : Int) % a < a) ∧ 0 ≤ (i : Int) / a ∧ (i : Int) / a < b := by
  refine ⟨⟨Int.emod_nonneg _ (by omega), Int.emod_lt_of_pos _ (by omega)⟩, Int.ediv_nonneg (by omega) (by omega), ?_⟩
  apply Int.ediv_lt_of_lt_mul (by omega)
  rw [Int.mul_comm]
  omega
end Go.Proofs.YtnmlonicfncpfaaGreat
