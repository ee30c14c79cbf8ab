/- A new rectangle; where a number of a laid one stood. -/
import Derived.Test.YtnmlonicfncpfaaDRec
namespace Go.Proofs.Ytnmlonicfncpfaa.X
open Go.RowKit
theorem results_cell_tmpR {P : Program} {fn : Func} {t p : Tmp} {ty : TypeId} (h : fn.results = #[.cell p ty, .tmp t]) (tmps : Array Value) (w : World) (g : Nat) (e : TypeId) (cs : Array Value) (fr : Nat × Nat) (d : TypeDesc)
  (hp : tmps.getD p undef = .pointer (some ⟨g, 0, none⟩)) (hg : w.heap[g]? = some (.cells cs e fr))
  (hu : P.underlying ty = some d) (hd : (match d with | .struct _ | .array _ _ => true | _ => false) = true) (hi : (P.info? ty).map (·.size) = some cs.size) :
    (results fn tmps).run P w = .ok (.tuple #[.agg cs, tmps.getD t undef]) w := by
  have hp' : tmps[p]?.getD undef = .pointer (some ⟨g, 0, none⟩) := by simpa using hp
  simp [results, h, hp', asAddr, run_loadVar_row w g e ty cs fr d hg hu hd hi]
end Go.Proofs.Ytnmlonicfncpfaa.X
namespace Go.Proofs.Ytnmlonicfncpfaa
open Go.RowKit X
set_option maxHeartbeats 1000000
set_option maxRecDepth 8000
set_option linter.unusedSimpArgs false
set_option linter.unusedVariables false
abbrev mx0 : Value := .agg #[.int .i64 0, .int .i64 0, .slice none 0 0]
theorem newNo_c (a b : Int) (w : World) (I : Fp) (hI : ∀ b, I b → b < w.heap.size) (hr : sizedP a b = false) :
    Calls Try.prog 59 #[.int .i64 a, .int .i64 b] w fun e w' => e = .returned (.tuple #[mx0, .int .i64 1]) ∧ Ext w w' := by
  have S := SH.start w I hI
  have HR := As.mk hr
  clear hr
  have hc := S.cells; simp only [Cells, cellsC, Im, Row, El, Nat.zero_add, Nat.reduceAdd] at hc
  go_enter Try.func59, Try.ntmps59
  go_wp2_with (first | ((first | (with_reducible refine wpl_seal S ?_) | (with_reducible refine cw_seal S ?_) | (with_reducible refine bp_seal S ?_) | (with_reducible refine ca_seal S ?_)); clear S; (try clear hc); intro w1 S; (try simp only [List.set_cons_zero, List.set_cons_succ, List.nil_append] at S); have hc := S.cells; simp only [Cells, cellsC, Im, Row, El, Nat.zero_add, Nat.reduceAdd] at hc) | (go_at_call 66; refine (sized_c a b _ HR.out).mono ?_; rintro e w1 ⟨rfl, rfl⟩))
  refine bodyPost_ret (results_cell_tmpR rfl _ _ w.heap.size 38 _ (0, 0) _ rfl (S.cel 0 rfl) Try.underlying38 rfl (by kernel_rfl)) rfl ?_
  exact ⟨rfl, S.out⟩
theorem newOk_c (a b : Int) (n : Nat) (w : World) (I : Fp) (hI : ∀ b, I b → b < w.heap.size) (hr : sizedP a b = true) (hn : a * b = n) (hm : n ≤ 1000000) :
    Calls Try.prog 59 #[.int .i64 a, .int .i64 b] w fun e w' => ∃ g, e = .returned (.tuple #[.agg #[.int .i64 a, .int .i64 b, .slice (some ⟨g, 0, none⟩) n n], .int .i64 0]) ∧ Upd w No I w' (Row kP (.slice (some ⟨g, 0, none⟩) n n) (List.replicate n 0)) := by
  have S := SH.start w I hI
  have HR := As.mk hr
  obtain ⟨h1, h2, h3, h4, h5⟩ := sizedP_iff.1 hr
  obtain ⟨hm1, hm2⟩ := mul_in h1 h2 h3 h4
  clear hr
  have hw : IntKind.i64.wrap (a * b) = n := by rw [IntKind.wrap_i64]; omega
  have hc := S.cells; simp only [Cells, cellsC, Im, Row, El, Nat.zero_add, Nat.reduceAdd] at hc
  go_enter Try.func59, Try.ntmps59
  go_wp2_with (first | ((first | (with_reducible refine wpl_seal S ?_) | (with_reducible refine cw_seal S ?_) | (with_reducible refine bp_seal S ?_) | (with_reducible refine ca_seal S ?_)); clear S; (try clear hc); intro w1 S; (try simp only [List.set_cons_zero, List.set_cons_succ, List.nil_append] at S); have hc := S.cells; simp only [Cells, cellsC, Im, Row, El, Nat.zero_add, Nat.reduceAdd] at hc) | (go_at_call 66; refine (sized_c a b _ HR.out).mono ?_; rintro e w1 ⟨rfl, rfl⟩) | (at_make; refine wpl_make (k := kP) S rfl _ _ rfl (z := .int .u64 0) (bytes := 8) (size := 1) Try.underlying27 (by kernel_rfl) rfl (by omega) .i64 .i64 n (by first | rfl | (rw [hn]; rfl) | (simp; omega)) (by first | rfl | (rw [hn]; rfl)) hm 0 (fun _ => rfl) (by omega) ?_; clear S hc; intro g w1 S; have hc := S.cells; simp only [Cells, cellsC, Im, Row, El, Nat.zero_add, Nat.reduceAdd] at hc))
  refine bodyPost_ret (results_cell_tmpR rfl _ _ w.heap.size 38 _ (0, 0) _ rfl (S.cel 1 rfl) Try.underlying38 rfl (by kernel_rfl)) rfl ?_
  exact ⟨_, rfl, S.ret 0 rfl⟩
end Go.Proofs.Ytnmlonicfncpfaa
