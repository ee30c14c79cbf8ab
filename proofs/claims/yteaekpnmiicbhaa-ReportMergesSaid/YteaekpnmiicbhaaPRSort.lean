/- report.Sort; the document's order and its row. -/
import Derived.Test.YteaekpnmiicbhaaPCpt
import Derived.Test.YteaekpnmiicbhaaPSeq
namespace Go.Proofs.Yteaekpnmiicbhaa
open Go.RowKit X
set_option maxHeartbeats 2000000
set_option maxRecDepth 8000
set_option linter.unusedSimpArgs false
set_option linter.unusedVariables false
section
variable {F0 I0 I : Fp} {w0 w : World} {O : List Ob}
theorem collect_c (xs : List R5) (g : Nat) (w : World) (I : Fp) (hI : ∀ b, I b → b < w.heap.size) (hg : Sl kCC w I (some ⟨g, 0, none⟩) [xs]) (hn : xs.length ≤ 1000000) :
    Calls Try.prog 57 #[.func (.func 59) #[] #[.pointer (some ⟨g, 0, none⟩)]] w fun e w' => ∃ v, e = .returned v ∧ Upd w No I w' (Row kC v xs) := by
  have HG := As.mk hg
  clear hg
  go_enter Try.func57, Try.ntmps57
  go_wp2_with (go_at_call 77; refine (appendSeq_c xs g w I hI HG.out hn).mono ?_; rintro e w1 ⟨v, rfl, hu⟩; have HU := As.mk hu; clear hu)
  go_ret
  exact ⟨_, rfl, HU.out⟩
theorem sortedFunc_c (xs : List R5) (g : Nat) (w : World) (I : Fp) (hI : ∀ b, I b → b < w.heap.size) (hg : Sl kCC w I (some ⟨g, 0, none⟩) [xs]) (hn : xs.length ≤ 1000000) :
    Calls Try.prog 43 #[.func (.func 59) #[] #[.pointer (some ⟨g, 0, none⟩)], .func (.func 20) #[] #[]] w fun e w' => ∃ v, e = .returned v ∧ Upd w No I w' (Row kC v (sortR xs)) := by
  have S := SH.start w I hI
  have HG := As.mk hg
  clear hg
  have hc := S.cells; simp only [Cells, cellsC, Im, Row, El, Nat.zero_add, Nat.reduceAdd] at hc
  go_enter Try.func43, Try.ntmps43
  go_wp2_with (first | ((first | (with_reducible refine wpl_seal S ?_) | (with_reducible refine cw_seal S ?_) | (with_reducible refine bp_seal S ?_) | (with_reducible refine ca_seal S ?_)); clear S; (try clear hc); intro w1 S; (try simp only [List.set_cons_zero, List.set_cons_succ, List.nil_append] at S); have hc := S.cells; simp only [Cells, cellsC, Im, Row, El, Nat.zero_add, Nat.reduceAdd] at hc) | (go_at_call 57; refine (collect_c xs g _ _ S.bd HG.out hn).mono ?_; rintro e w1 ⟨v, rfl, hu⟩; obtain ⟨I1, S1, hI1⟩ := S.new hu; clear S hu hI1; (try clear hc); have S := S1; clear S1; have hc := S.cells; simp only [Cells, cellsC, Im, Row, El, Nat.zero_add, Nat.reduceAdd] at hc) | (go_at_call 58; refine (sortR_s S 0 rfl hn).mono ?_; clear S hc; rintro e w1 ⟨rfl, S⟩; simp only [List.set_cons_zero, List.set_cons_succ, List.nil_append] at S; have hc := S.cells; simp only [Cells, cellsC, Im, Row, El, Nat.zero_add, Nat.reduceAdd] at hc))
  go_ret
  exact ⟨_, rfl, S.ret 0 rfl⟩
/-- records in their row, each one once -/
def rSort (xs : List R5) : List R5 := cpt (sortR xs)
theorem rsort_c (xs : List R5) (A : Option Addr) (c : Nat) (w : World) (I : Fp) (hI : ∀ b, I b → b < w.heap.size) (hl : Sl kC w I A xs) (hc0 : xs.length ≤ c) (hn : xs.length ≤ 1000000) :
    Calls Try.prog 22 #[.slice A xs.length c] w fun e w' => ∃ v, e = .returned v ∧ Upd w No I w' (Row kC v (rSort xs)) := by
  have S := (SH.start w I hI).know (h := Im kC A xs) hl
  clear hl
  have hsl : (sortR xs).length ≤ 1000000 := by rw [sortR_len]; exact hn
  have hc := S.cells; simp only [Cells, cellsC, Im, Row, El, Nat.zero_add, Nat.reduceAdd] at hc
  go_enter Try.func22, Try.ntmps22
  go_wp2_with (first | ((first | (with_reducible refine wpl_seal S ?_) | (with_reducible refine cw_seal S ?_) | (with_reducible refine bp_seal S ?_) | (with_reducible refine ca_seal S ?_)); clear S; (try clear hc); intro w1 S; (try simp only [List.set_cons_zero, List.set_cons_succ, List.nil_append] at S); have hc := S.cells; simp only [Cells, cellsC, Im, Row, El, Nat.zero_add, Nat.reduceAdd] at hc) | (go_at_call 44; refine (values_c A xs.length c _ _ S.bd).mono ?_; rintro e w1 ⟨g, rfl, hu⟩; obtain ⟨I1, S1, hI1⟩ := S.new hu; clear S hu hI1; (try clear hc); have S := S1; clear S1; have hc := S.cells; simp only [Cells, cellsC, Im, Row, El, Nat.zero_add, Nat.reduceAdd] at hc; obtain ⟨J, S9, -⟩ := S.lit 0 rfl (k := kCC) (xs := [xs]) (Flat.single ⟨A, c, rfl, hc0, S.im 1 rfl⟩); clear S hc; have S := S9; clear S9; simp only [List.set_cons_zero, List.set_cons_succ, List.nil_append] at S) | (go_at_call 43; refine (sortedFunc_c xs g _ _ S.bd (S.im 0 rfl) hn).mono ?_; rintro e w1 ⟨v, rfl, hu⟩; obtain ⟨I1, S1, hI1⟩ := S.new hu; clear S hu hI1; (try clear hc); have S := S1; clear S1; have hc := S.cells; simp only [Cells, cellsC, Im, Row, El, Nat.zero_add, Nat.reduceAdd] at hc) | (go_at_call 42; refine (compactR_s S 0 rfl hsl).mono ?_; clear S hc; rintro e w1 ⟨v', rfl, S⟩; simp only [List.set_cons_zero, List.set_cons_succ, List.nil_append] at S; have hc := S.cells; simp only [Cells, cellsC, Im, Row, El, Nat.zero_add, Nat.reduceAdd] at hc))
  go_ret
  exact ⟨_, rfl, S.ret 0 rfl⟩
end
end Go.Proofs.Yteaekpnmiicbhaa
