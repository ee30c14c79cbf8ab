/- ReportBytes: the law's walk. -/
import Derived.Test.YteaekpnmiicbhaaPByteP
namespace Go.Proofs.Yteaekpnmiicbhaa
open Go.RowKit X
set_option maxHeartbeats 4000000
set_option maxRecDepth 8000
set_option linter.unusedSimpArgs false
set_option linter.unusedVariables false
theorem good_odd (l : List R5) : oddR ((few6 l).map goodR) = false := by
  unfold oddR
  rw [List.any_eq_false]
  intro x hx
  rw [good_may l x hx]
  decide
theorem eql_str (a b : List UInt8) (w : World) : (binOp .eql 9 (strV a) (strV b)).run Try.prog w = .ok (.bool (decide (a = b))) w := by
  go_simp
  rw [Bool.eq_iff_iff]
  simp
theorem outB_le (l : List R5) (h : l.length ≤ 6) : (outB l).length ≤ 270 := by
  unfold outB
  split
  · simp
  · rename_i ho
    have hm : ∀ x ∈ l, mayR x = true := fun x hx => by
      have hof : oddR l = false := by simpa using ho
      unfold oddR at hof
      rw [List.any_eq_false] at hof
      simpa using hof x hx
    exact Nat.le_trans (bytesR_le hm) (by omega)
theorem lbytes_c (l : List R5) (A : Option Addr) (c : Nat) (w : World) (I : Fp) (hI : ∀ b, I b → b < w.heap.size) (hl : Sl kR w I A l) (hc0 : l.length ≤ c) (hok : ∀ x ∈ l, x.ok) :
    Calls Try.prog 4 #[.slice A l.length c] w fun e w' => e = .returned (.bool true) ∧ Ext w w' := by
  have S := ((SH.start w I hI).know (h := Im kR A (few6 l)) (hl.tk 6)).know (h := Im kR A l) hl
  have HOK := As.mk hok
  clear hl hok
  obtain ⟨good, hgood⟩ : ∃ good, (few6 l).map goodR = good := ⟨_, rfl⟩
  obtain ⟨raw, hraw⟩ : ∃ raw, few6 l = raw := ⟨_, rfl⟩
  have HG := As.mk hgood
  have HRAW := As.mk hraw
  have hodd : oddR good = false := by rw [← hgood]; exact good_odd l
  have HM : As (∀ x ∈ good, mayR x = true) := ⟨by rw [← hgood]; exact good_may l⟩
  have hrl : raw.length ≤ 6 := by rw [← hraw]; exact few6_len l
  have hgl : good.length ≤ 6 := by rw [← hgood, List.length_map]; exact few6_len l
  have HE := As.mk (errR_no hodd)
  have HO : As (outB good = bytesR good) := ⟨outB_no hodd⟩
  have HR := As.mk (readB_bytes HM.out)
  obtain ⟨ob, hob⟩ : ∃ ob, outB raw = ob := ⟨_, rfl⟩
  obtain ⟨er, her⟩ : ∃ er, errR raw = er := ⟨_, rfl⟩
  obtain ⟨og, hog⟩ : ∃ og, bytesR good = og := ⟨_, rfl⟩
  have hobl : ob.length ≤ 270 := by rw [← hob]; exact outB_le raw hrl
  have hogl : og.length ≤ 270 := by rw [← hog]; exact Nat.le_trans (bytesR_le HM.out) (by omega)
  have HOB := As.mk hob
  have HER := As.mk her
  have HOG : As (outB good = og) := ⟨by rw [HO.out, hog]⟩
  rw [hog] at HR
  rw [hraw] at S
  have heq := eql_str
  clear hgood hraw hob her hog hodd
  have hc := S.cells; simp only [Cells, cellsC, Im, Row, El, Nat.zero_add, Nat.reduceAdd] at hc
  go_enter Try.func4, Try.ntmps4
  have hm1 : True := trivial
  have hm2 : True := trivial
  have hm3 : True := trivial
  go_wp2_with (first | ((first | (with_reducible refine wpl_seal S ?_) | (with_reducible refine cw_seal S ?_) | (with_reducible refine bp_seal S ?_) | (with_reducible refine ca_seal S ?_)); clear S; (try clear hc); intro w1 S; (try simp only [List.set_cons_zero, List.set_cons_succ, List.nil_append] at S); have hc := S.cells; simp only [Cells, cellsC, Im, Row, El, Nat.zero_add, Nat.reduceAdd] at hc) | (go_at_call 8; refine (few_c l A c _ _ S.bd (S.im 0 rfl) hc0 HOK.out).mono ?_; rw [HG.out, HRAW.out]; rintro e w1 ⟨v, c', rfl, -, hu⟩; obtain ⟨I1, S1, hI1⟩ := S.new hu; clear S hu hI1; (try clear hc); have S := S1; clear S1; have hc := S.cells; simp only [Cells, cellsC, Im, Row, El, Nat.zero_add, Nat.reduceAdd] at hc; obtain ⟨Ag, cg, I1, e1, hcg, S1, hI1⟩ := S.frow 0 rfl; subst e1; clear S hI1; have S := S1; clear S1; simp only [List.set_cons_zero, List.set_cons_succ, List.nil_append] at S; have hc := S.cells; simp only [Cells, cellsC, Im, Row, El, Nat.zero_add, Nat.reduceAdd] at hc) | (go_at_call 17; clear hm1; refine (of_c raw A _ _ _ S.bd (S.im 2 rfl) (by omega)).mono ?_; rintro e w1 ⟨v, rfl, hu⟩; obtain ⟨I1, S1, hI1⟩ := S.new hu; clear S hu hI1; (try clear hc); have S := S1; clear S1; have hc := S.cells; simp only [Cells, cellsC, Im, Row, El, Nat.zero_add, Nat.reduceAdd] at hc; obtain ⟨Ao, co, I1, e1, hco, S1, hI1⟩ := S.frow 0 rfl; subst e1; clear S hI1; have S := S1; clear S1; simp only [List.set_cons_zero, List.set_cons_succ, List.nil_append] at S; have hc := S.cells; simp only [Cells, cellsC, Im, Row, El, Nat.zero_add, Nat.reduceAdd] at hc) | (go_at_call 16; clear hm2; refine (pbytes_c raw Ao co _ _ S.bd (S.im 0 rfl) (by omega)).mono ?_; rw [HOB.out, HER.out]; rintro e w1 ⟨v, rfl, hu⟩; obtain ⟨I1, S1, hI1⟩ := S.new hu; clear S hu hI1; (try clear hc); have S := S1; clear S1; have hc := S.cells; simp only [Cells, cellsC, Im, Row, El, Nat.zero_add, Nat.reduceAdd] at hc; obtain ⟨Ab, cb, e1, hcb, -⟩ := (S.own 0 rfl).form; subst e1; have hab := (S.own 0 rfl).addr; obtain ⟨Aq, cq, I1, e2, -, S1, -⟩ := S.frow 0 rfl; rw [Value.slice.injEq] at e2; obtain ⟨rfl, -, rfl⟩ := e2; clear S; have S := S1; clear S1; simp only [List.set_cons_zero, List.set_cons_succ, List.nil_append] at S; have hc := S.cells; simp only [Cells, cellsC, Im, Row, El, Nat.zero_add, Nat.reduceAdd] at hc) | (go_at_call 9; clear hm3; refine (rbytes_e raw A _ _ _ S.bd (S.im 4 rfl) (by omega)).mono ?_; rw [HOB.out, HER.out]; rintro e w1 ⟨v, rfl, hu⟩; obtain ⟨I1, S1, hI1⟩ := S.new hu; clear S hu hI1; (try clear hc); have S := S1; clear S1; have hc := S.cells; simp only [Cells, cellsC, Im, Row, El, Nat.zero_add, Nat.reduceAdd] at hc; obtain ⟨Ab2, cb2, e1, hcb2, -⟩ := (S.own 0 rfl).form; subst e1; have hab2 := (S.own 0 rfl).addr; obtain ⟨Aq, cq, I1, e2, -, S1, -⟩ := S.frow 0 rfl; rw [Value.slice.injEq] at e2; obtain ⟨rfl, -, rfl⟩ := e2; clear S; have S := S1; clear S1; simp only [List.set_cons_zero, List.set_cons_succ, List.nil_append] at S; have hc := S.cells; simp only [Cells, cellsC, Im, Row, El, Nat.zero_add, Nat.reduceAdd] at hc) | (go_at_call 17; refine (of_c good Ag _ _ _ S.bd (S.im 3 rfl) (by omega)).mono ?_; rintro e w1 ⟨v, rfl, hu⟩; obtain ⟨I1, S1, hI1⟩ := S.new hu; clear S hu hI1; (try clear hc); have S := S1; clear S1; have hc := S.cells; simp only [Cells, cellsC, Im, Row, El, Nat.zero_add, Nat.reduceAdd] at hc; obtain ⟨Ao2, co2, I1, e1, hco2, S1, hI1⟩ := S.frow 0 rfl; subst e1; clear S hI1; have S := S1; clear S1; simp only [List.set_cons_zero, List.set_cons_succ, List.nil_append] at S; have hc := S.cells; simp only [Cells, cellsC, Im, Row, El, Nat.zero_add, Nat.reduceAdd] at hc) | (go_at_call 16; refine (pbytes_c good Ao2 co2 _ _ S.bd (S.im 0 rfl) (by omega)).mono ?_; rw [HOG.out, HE.out]; rintro e w1 ⟨v, rfl, hu⟩; obtain ⟨I1, S1, hI1⟩ := S.new hu; clear S hu hI1; (try clear hc); have S := S1; clear S1; have hc := S.cells; simp only [Cells, cellsC, Im, Row, El, Nat.zero_add, Nat.reduceAdd] at hc; obtain ⟨Ac, cc, e1, hcc, -⟩ := (S.own 0 rfl).form; subst e1; have hac := (S.own 0 rfl).addr; obtain ⟨Aq, cq, I1, e2, -, S1, -⟩ := S.frow 0 rfl; rw [Value.slice.injEq] at e2; obtain ⟨rfl, -, rfl⟩ := e2; clear S; have S := S1; clear S1; simp only [List.set_cons_zero, List.set_cons_succ, List.nil_append] at S; have hc := S.cells; simp only [Cells, cellsC, Im, Row, El, Nat.zero_add, Nat.reduceAdd] at hc) | (go_at_call 9; refine (rbytes_e good Ag cg _ _ S.bd (S.im 5 rfl) (by omega)).mono ?_; rw [HOG.out, HE.out]; rintro e w1 ⟨v, rfl, hu⟩; obtain ⟨I1, S1, hI1⟩ := S.new hu; clear S hu hI1; (try clear hc); have S := S1; clear S1; have hc := S.cells; simp only [Cells, cellsC, Im, Row, El, Nat.zero_add, Nat.reduceAdd] at hc; obtain ⟨Ac2, cc2, e1, hcc2, -⟩ := (S.own 0 rfl).form; subst e1; have hac2 := (S.own 0 rfl).addr; obtain ⟨Aq, cq, I1, e2, -, S1, -⟩ := S.frow 0 rfl; rw [Value.slice.injEq] at e2; obtain ⟨rfl, -, rfl⟩ := e2; clear S; have S := S1; clear S1; simp only [List.set_cons_zero, List.set_cons_succ, List.nil_append] at S; have hc := S.cells; simp only [Cells, cellsC, Im, Row, El, Nat.zero_add, Nat.reduceAdd] at hc) | (go_at_call 11; refine (read_c og Ac cc _ _ S.bd (S.im 1 rfl) hcc (by omega)).mono ?_; rw [HR.out]; rintro e w1 ⟨v, rfl, hu⟩; obtain ⟨I1, S1, hI1⟩ := S.new hu; clear S hu hI1; (try clear hc); have S := S1; clear S1; have hc := S.cells; simp only [Cells, cellsC, Im, Row, El, Nat.zero_add, Nat.reduceAdd] at hc; obtain ⟨Ar, cr, I1, e1, hcr, S1, hI1⟩ := S.frow 0 rfl; subst e1; clear S hI1; have S := S1; clear S1; simp only [List.set_cons_zero, List.set_cons_succ, List.nil_append] at S; have hv1 := conv_sl Try.underlying22 Try.underlying5 Try.underlying9 (S.im 5 rfl) cb (fun _ => hab); have hv2 := conv_sl Try.underlying22 Try.underlying5 Try.underlying9 (S.im 4 rfl) cb2 (fun _ => hab2); have hv3 := conv_sl Try.underlying22 Try.underlying5 Try.underlying9 (S.im 2 rfl) cc (fun _ => hac); have hv4 := conv_sl Try.underlying22 Try.underlying5 Try.underlying9 (S.im 1 rfl) cc2 (fun _ => hac2); have hc := S.cells; simp only [Cells, cellsC, Im, Row, El, Nat.zero_add, Nat.reduceAdd] at hc) | (go_at_call 14; refine (as_c good Ar cr _ _ S.bd (S.im 0 rfl) (by omega)).mono ?_; rintro e w1 ⟨v, rfl, hu⟩; obtain ⟨I1, S1, hI1⟩ := S.new hu; clear S hu hI1; (try clear hc); have S := S1; clear S1; have hc := S.cells; simp only [Cells, cellsC, Im, Row, El, Nat.zero_add, Nat.reduceAdd] at hc; obtain ⟨Aa, ca, I1, e1, hca, S1, hI1⟩ := S.frow 0 rfl; subst e1; clear S hI1; have S := S1; clear S1; simp only [List.set_cons_zero, List.set_cons_succ, List.nil_append] at S; have hc := S.cells; simp only [Cells, cellsC, Im, Row, El, Nat.zero_add, Nat.reduceAdd] at hc) | (go_at_call 13; refine (sameR_c good good Aa Ag ca cg _ _ _ (S.im 0 rfl) (S.im 8 rfl) (by omega)).mono ?_; rw [decide_eq_true rfl]; rintro e w1 ⟨rfl, hx⟩; have hx := hx.ext; replace S := S.ext hx; clear hx; (try clear hc); have hc := S.cells; simp only [Cells, cellsC, Im, Row, El, Nat.zero_add, Nat.reduceAdd] at hc) | (go_at_call 15; refine (plives_c _ _ S.bd).mono ?_; rintro e w1 ⟨rfl, hx⟩; replace S := S.ext hx; clear hx; (try clear hc); have hc := S.cells; simp only [Cells, cellsC, Im, Row, El, Nat.zero_add, Nat.reduceAdd] at hc))
  go_ret
  exact ⟨rfl, S.out⟩
end Go.Proofs.Yteaekpnmiicbhaa
