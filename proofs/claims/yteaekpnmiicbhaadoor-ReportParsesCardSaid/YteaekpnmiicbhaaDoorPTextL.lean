/- ReportTexts: the law's walk. -/
import Derived.Test.YteaekpnmiicbhaaDoorPGTx
import Derived.Test.YteaekpnmiicbhaaDoorPPPa
import Derived.Test.YteaekpnmiicbhaaDoorPRnd
import Derived.Test.YteaekpnmiicbhaaDoorPLiv
import Derived.Test.YteaekpnmiicbhaaDoorPOf
namespace Go.Proofs.YteaekpnmiicbhaaDoor
open Go.RowKit X
set_option maxHeartbeats 4000000
set_option maxRecDepth 8000
set_option linter.unusedSimpArgs false
set_option linter.unusedVariables false
def errT (l : List R5) : Int := if oddR l then 1 else 0
def outT (l : List R5) : List UInt8 := if oddR l then [] else textR l
theorem all_odd (l : List R5) : l.all mayR = !oddR l := by
  unfold oddR
  rw [List.not_any_eq_all_not]
  simp
theorem gtext_e (l : List R5) (A : Option Addr) (c : Nat) (w : World) (I : Fp) (hI : ∀ b, I b → b < w.heap.size) (hl : Sl kR w I A l) (hn : l.length ≤ 1000) :
    Calls Tryd.prog 9 #[.slice A l.length c] w fun e w' => e = .returned (.tuple #[strV (outT l), .int .i64 (errT l)]) ∧ Ext w w' := by
  refine (gtext_c l A c w I hI hl hn rfl).mono ?_
  rintro e w' ⟨rfl, h⟩
  refine ⟨?_, h⟩
  rw [all_odd]
  unfold outT errT
  cases oddR l <;> rfl
theorem text_e (l : List R5) (A : Option Addr) (c : Nat) (w : World) (I : Fp) (hI : ∀ b, I b → b < w.heap.size) (hl : Sl kC w I A l) (hn : l.length ≤ 1000) :
    Calls Tryd.prog 7 #[.slice A l.length c] w fun e w' => e = .returned (.tuple #[strV (outT l), .int .i64 (errT l)]) ∧ Ext w w' := text_c l A c w I hI hl hn
theorem good_odd (l : List R5) : oddR ((few6 l).map goodR) = false := by
  unfold oddR
  rw [List.any_eq_false]
  intro x hx
  rw [good_may l x hx]
  decide
theorem eql_str (a b : List UInt8) (w : World) : (binOp .eql 9 (strV a) (strV b)).run Tryd.prog w = .ok (.bool (decide (a = b))) w := by
  go_simp
  rw [Bool.eq_iff_iff]
  simp
theorem outT_le (l : List R5) (h : l.length ≤ 6) : (outT l).length ≤ 606 := by
  unfold outT
  split
  · simp
  · rename_i ho
    have hm : ∀ x ∈ l, mayR x = true := fun x hx => by
      have hof : oddR l = false := by simpa using ho
      unfold oddR at hof
      rw [List.any_eq_false] at hof
      simpa using hof x hx
    have := flat_le (f := line1) (b := 101) l fun x hx => line1_le (mayR_ok (hm x hx))
    unfold textR
    omega
theorem X.SH.cfI {F0 I0 I : Fp} {w0 w : World} {O : List Ob} {b j : Nat} {v : Value} (s : SH F0 I0 w0 O w I) (i : Nat) (e : O[i]? = some (CF b j v)) : I b := by
  obtain ⟨F, h, _⟩ := s.get i e
  exact h.2
theorem ltexts_c (l : List R5) (A : Option Addr) (c : Nat) (w : World) (I : Fp) (hI : ∀ b, I b → b < w.heap.size) (hl : Sl kR w I A l) (hc0 : l.length ≤ c) (hok : ∀ x ∈ l, x.ok) {mx : Int} (hm : w.cell? ⟨0, 0, none⟩ = some (.int .i64 mx)) (hI0 : I 0) :
    Calls Tryd.prog 3 #[.slice A l.length c] w fun e w' => e = .returned (.bool true) ∧ Ext w w' := by
  have S := (((SH.start w I hI).know (h := CF 0 0 (.int .i64 mx)) ⟨hm, hI0⟩).know (h := Im kR A (few6 l)) (hl.tk 6)).know (h := Im kR A l) hl
  have HOK := As.mk hok
  clear hl hok hm
  obtain ⟨good, hgood⟩ : ∃ good, (few6 l).map goodR = good := ⟨_, rfl⟩
  obtain ⟨raw, hraw⟩ : ∃ raw, few6 l = raw := ⟨_, rfl⟩
  have HG := As.mk hgood
  have HRAW := As.mk hraw
  have hodd : oddR good = false := by rw [← hgood]; exact good_odd l
  have HM : As (∀ x ∈ good, mayR x = true) := ⟨by rw [← hgood]; exact good_may l⟩
  have hrl : raw.length ≤ 6 := by rw [← hraw]; exact few6_len l
  have hgl : good.length ≤ 6 := by rw [← hgood, List.length_map]; exact few6_len l
  have HE : As (errT good = 0) := ⟨by unfold errT; rw [hodd]; rfl⟩
  have HO : outT good = textR good := by unfold outT; rw [hodd]; rfl
  have HR := As.mk (text_back HM.out)
  obtain ⟨ob, hob⟩ : ∃ ob, outT raw = ob := ⟨_, rfl⟩
  obtain ⟨er, her⟩ : ∃ er, errT raw = er := ⟨_, rfl⟩
  obtain ⟨og, hog⟩ : ∃ og, textR good = og := ⟨_, rfl⟩
  have hogl : og.length ≤ 606 := by rw [← hog, ← HO]; exact outT_le good hgl
  have HOB := As.mk hob
  have HER := As.mk her
  have HOG : As (outT good = og) := ⟨by rw [HO, hog]⟩
  rw [hog] at HR
  rw [hraw] at S
  have heq := eql_str
  clear hgood hraw hob her hog hodd HO
  have hc := S.cells; simp only [Cells, cellsC, Im, Row, El, CF, Nat.zero_add, Nat.reduceAdd] at hc
  go_enter Tryd.func3, Tryd.ntmps3
  have hm1 : True := trivial
  have hm2 : True := trivial
  have hm3 : True := trivial
  go_wp2_with (first | ((first | (with_reducible refine wpl_seal S ?_) | (with_reducible refine cw_seal S ?_) | (with_reducible refine bp_seal S ?_) | (with_reducible refine ca_seal S ?_)); clear S; (try clear hc); intro w1 S; (try simp only [List.set_cons_zero, List.set_cons_succ, List.nil_append] at S); have hc := S.cells; simp only [Cells, cellsC, Im, Row, El, CF, Nat.zero_add, Nat.reduceAdd] at hc) | (go_at_call 6; refine (few_c l A c _ _ S.bd (S.im 0 rfl) hc0 HOK.out).mono ?_; rw [HG.out, HRAW.out]; rintro e w1 ⟨v, c', rfl, -, hu⟩; obtain ⟨I1, S1, hI1⟩ := S.new hu; clear S hu hI1; (try clear hc); have S := S1; clear S1; have hc := S.cells; simp only [Cells, cellsC, Im, Row, El, CF, Nat.zero_add, Nat.reduceAdd] at hc; obtain ⟨Ag, cg, I1, e1, hcg, S1, hI1⟩ := S.frow 0 rfl; subst e1; clear S hI1; have S := S1; clear S1; simp only [List.set_cons_zero, List.set_cons_succ, List.nil_append] at S; have hc := S.cells; simp only [Cells, cellsC, Im, Row, El, CF, Nat.zero_add, Nat.reduceAdd] at hc) | (go_at_call 8; clear hm1; refine (of_c raw A _ _ _ S.bd (S.im 2 rfl) (by omega)).mono ?_; rintro e w1 ⟨v, rfl, hu⟩; obtain ⟨I1, S1, hI1⟩ := S.new hu; clear S hu hI1; (try clear hc); have S := S1; clear S1; have hc := S.cells; simp only [Cells, cellsC, Im, Row, El, CF, Nat.zero_add, Nat.reduceAdd] at hc; obtain ⟨Ao, co, I1, e1, hco, S1, hI1⟩ := S.frow 0 rfl; subst e1; clear S hI1; have S := S1; clear S1; simp only [List.set_cons_zero, List.set_cons_succ, List.nil_append] at S; have hc := S.cells; simp only [Cells, cellsC, Im, Row, El, CF, Nat.zero_add, Nat.reduceAdd] at hc) | (go_at_call 7; clear hm2; refine (text_e raw Ao co _ _ S.bd (S.im 0 rfl) (by omega)).mono ?_; rw [HOB.out, HER.out]; rintro e w1 ⟨rfl, hx⟩; replace S := S.ext hx; clear hx; (try clear hc); have hc := S.cells; simp only [Cells, cellsC, Im, Row, El, CF, Nat.zero_add, Nat.reduceAdd] at hc) | (go_at_call 9; clear hm3; refine (gtext_e raw A _ _ _ S.bd (S.im 3 rfl) (by omega)).mono ?_; rw [HOB.out, HER.out]; rintro e w1 ⟨rfl, hx⟩; replace S := S.ext hx; clear hx; (try clear hc); have hc := S.cells; simp only [Cells, cellsC, Im, Row, El, CF, Nat.zero_add, Nat.reduceAdd] at hc) | (go_at_call 8; refine (of_c good Ag _ _ _ S.bd (S.im 1 rfl) (by omega)).mono ?_; rintro e w1 ⟨v, rfl, hu⟩; obtain ⟨I1, S1, hI1⟩ := S.new hu; clear S hu hI1; (try clear hc); have S := S1; clear S1; have hc := S.cells; simp only [Cells, cellsC, Im, Row, El, CF, Nat.zero_add, Nat.reduceAdd] at hc; obtain ⟨Ao2, co2, I1, e1, hco2, S1, hI1⟩ := S.frow 0 rfl; subst e1; clear S hI1; have S := S1; clear S1; simp only [List.set_cons_zero, List.set_cons_succ, List.nil_append] at S; have hc := S.cells; simp only [Cells, cellsC, Im, Row, El, CF, Nat.zero_add, Nat.reduceAdd] at hc) | (go_at_call 7; refine (text_e good Ao2 co2 _ _ S.bd (S.im 0 rfl) (by omega)).mono ?_; rw [HOG.out, HE.out]; rintro e w1 ⟨rfl, hx⟩; replace S := S.ext hx; clear hx; (try clear hc); have hc := S.cells; simp only [Cells, cellsC, Im, Row, El, CF, Nat.zero_add, Nat.reduceAdd] at hc) | (go_at_call 9; refine (gtext_e good Ag cg _ _ S.bd (S.im 2 rfl) (by omega)).mono ?_; rw [HOG.out, HE.out]; rintro e w1 ⟨rfl, hx⟩; replace S := S.ext hx; clear hx; (try clear hc); have hc := S.cells; simp only [Cells, cellsC, Im, Row, El, CF, Nat.zero_add, Nat.reduceAdd] at hc) | (go_at_call 10; refine (pparse_c og (by omega) _ _ S.bd (S.cf 5 rfl) (S.cfI 5 rfl) HR.out).mono ?_; rintro e w1 ⟨v, rfl, hu⟩; obtain ⟨I1, S1, hI1⟩ := S.new hu; clear S hu hI1; (try clear hc); have S := S1; clear S1; have hc := S.cells; simp only [Cells, cellsC, Im, Row, El, CF, Nat.zero_add, Nat.reduceAdd] at hc; obtain ⟨Ar, cr, I1, e1, hcr, S1, hI1⟩ := S.frow 0 rfl; subst e1; clear S hI1; have S := S1; clear S1; simp only [List.set_cons_zero, List.set_cons_succ, List.nil_append] at S; have hc := S.cells; simp only [Cells, cellsC, Im, Row, El, CF, Nat.zero_add, Nat.reduceAdd] at hc))
  have S1 : SH No I w [_, _, _] _ _ := S.sel [0, 3, 5] (by decide) rfl (by simp)
  clear S hc
  go_loopw [16] (fun i w' => ∃ (k : Nat), k ≤ raw.length ∧ i = .int .i64 k ∧ ∃ I', As (SH No I w [Im kC Ar good, Im kR Ag good, Im kR A raw] w' I')) (fun i _ => raw.length - (intOf i).toNat)
  case atStart => exact ⟨0, by omega, rfl, _, ⟨S1⟩⟩
  case round =>
    clear S1
    obtain ⟨k, hk, rfl, I', ⟨S⟩⟩ := hrel
    by_cases hlt : k < raw.length
    · have hlt' : decide ((k : Int) < raw.length) = true := decide_eq_true (by omega)
      obtain ⟨b, o, rfl, -, -, -, -, -⟩ := (S.im 2 rfl).r5_at hlt
      obtain ⟨x, hx⟩ : ∃ x, raw[k] = x := ⟨_, rfl⟩
      have HX : As (raw[k]? = some x) := ⟨by rw [List.getElem?_eq_getElem hlt, hx]⟩
      clear hx
      obtain ⟨mq, hmq⟩ : ∃ mq, mayR x = mq := ⟨_, rfl⟩
      have HMQ := As.mk hmq
      clear hmq
      obtain ⟨e0, e1, e2, e3, e4⟩ := (S.im 2 rfl).r5_get HX.out
      have p0 := ClE.cell (w := wr.drew) e0
      have p1 := ClE.cell (w := wr.drew) e1
      have p2 := ClE.cell (w := wr.drew) e2
      have p3 := ClE.cell (w := wr.drew) e3
      have p4 := ClE.cell (w := wr.drew) e4
      have hc := S.cells; simp only [Cells, cellsC, Im, Row, El, CF, Nat.zero_add, Nat.reduceAdd] at hc
      go_wp2_with (first | ((first | (with_reducible refine wpl_seal S ?_) | (with_reducible refine cw_seal S ?_) | (with_reducible refine bp_seal S ?_) | (with_reducible refine ca_seal S ?_)); clear S; (try clear hc); intro w1 S; (try simp only [List.set_cons_zero, List.set_cons_succ, List.nil_append] at S); have hc := S.cells; simp only [Cells, cellsC, Im, Row, El, CF, Nat.zero_add, Nat.reduceAdd] at hc))
      refine wp_region_ext [⟨[0, 6, 7, 8, 9], [2], 1, true⟩, ⟨[3, 4], [], 5, true⟩, ⟨[], [], 10, false⟩] [11] (by kernel_rfl) (by kernel_rfl) ?_
      refine mix_cons rfl rfl rfl ?_
      simp only [opsAt, List.getD_cons_succ, List.getD_cons_zero]
      repeat (go_big_quiet_step ((intro hC; first | rfl | (go_simp; first | done | rfl))))
      refine wpQuiet_nil ?_
      repeat (go_big_quiet_step ((intro hC; first | rfl | (go_simp; first | done | rfl))))
      refine wpQuiet_nil ?_
      clear p0 e0 p1 e1 p2 e2 p3 e3 p4 e4
      replace S := S.drew
      generalize wr.drew = w2 at S ⊢
      have hc := S.cells; simp only [Cells, cellsC, Im, Row, El, CF, Nat.zero_add, Nat.reduceAdd] at hc
      go_wp2_with (first | ((first | (with_reducible refine mx_seal S ?_) | (with_reducible refine wpl_seal S ?_) | (with_reducible refine ca_seal S ?_)); clear S; (try clear hc); intro w1 S; (try simp only [List.set_cons_zero, List.set_cons_succ, List.nil_append] at S); have hc := S.cells; simp only [Cells, cellsC, Im, Row, El, CF, Nat.zero_add, Nat.reduceAdd] at hc) | (go_at_call 8; refine (of_c raw _ _ _ _ S.bd (S.im 2 rfl) (by omega)).mono ?_; rintro e w1 ⟨v, rfl, hu⟩; have hxf := hu.ext; obtain ⟨I1, S1, hI1⟩ := S.new hu; clear S hu hI1; (try clear hc); have S := S1; clear S1; have hc := S.cells; simp only [Cells, cellsC, Im, Row, El, CF, Nat.zero_add, Nat.reduceAdd] at hc; obtain ⟨Aq, cq, I1, e1, hcq, S1, hI1⟩ := S.frow 0 rfl; subst e1; clear S hI1; have S := S1; clear S1; simp only [List.set_cons_zero, List.set_cons_succ, List.nil_append] at S; obtain ⟨b3, o3, rfl, -, -, -, -, -⟩ := (S.im 0 rfl).r5_at hlt; obtain ⟨g0, g1, g2, g3, g4⟩ := (S.im 0 rfl).r5_get HX.out; have q0 := ClE.cell g0; have q1 := ClE.cell g1; have q2 := ClE.cell g2; have q3 := ClE.cell g3; have q4 := ClE.cell g4; have hc := S.cells; simp only [Cells, cellsC, Im, Row, El, CF, Nat.zero_add, Nat.reduceAdd] at hc))
      refine ⟨fun _ => hxf, ?_⟩
      refine mix_cons rfl rfl rfl ?_
      simp only [opsAt, List.getD_cons_succ, List.getD_cons_zero]
      repeat (go_big_quiet_step ((intro hC; first | rfl | (go_simp; first | done | rfl))))
      refine wpQuiet_nil ?_
      repeat (go_big_quiet_step ((intro hC; first | rfl | (go_simp; first | done | rfl))))
      refine wpQuiet_nil ?_
      clear q0 g0 q1 g1 q2 g2 q3 g3 q4 g4
      go_wp2_with (first | ((first | (with_reducible refine mx_seal S ?_) | (with_reducible refine wpl_seal S ?_) | (with_reducible refine ca_seal S ?_)); clear S; (try clear hc); intro w1 S; (try simp only [List.set_cons_zero, List.set_cons_succ, List.nil_append] at S); have hc := S.cells; simp only [Cells, cellsC, Im, Row, El, CF, Nat.zero_add, Nat.reduceAdd] at hc) | (go_at_call 11; refine (pmay_c x _ _ S.bd).mono ?_; rw [HMQ.out]; rintro e w3 ⟨rfl, hx⟩; have hxe := hx; replace S := S.ext hx; clear hx; (try clear hc); have hc := S.cells; simp only [Cells, cellsC, Im, Row, El, CF, Nat.zero_add, Nat.reduceAdd] at hc))
      refine ⟨fun _ => hxe, ?_⟩
      refine mix_cons rfl rfl rfl ?_
      simp only [opsAt, List.getD_cons_succ, List.getD_cons_zero]
      repeat (go_big_quiet_step ((intro hC; first | rfl | (go_simp; first | done | rfl))))
      refine wpQuiet_nil ?_
      repeat (go_big_quiet_step ((intro hC; first | rfl | (go_simp; first | done | rfl))))
      refine wpQuiet_nil ?_
      go_wp2_with (first | ((first | (with_reducible refine mx_seal S ?_) | (with_reducible refine wpl_seal S ?_) | (with_reducible refine ca_seal S ?_)); clear S; (try clear hc); intro w1 S; (try simp only [List.set_cons_zero, List.set_cons_succ, List.nil_append] at S); have hc := S.cells; simp only [Cells, cellsC, Im, Row, El, CF, Nat.zero_add, Nat.reduceAdd] at hc) | (go_at_call 12; refine (may_c x _ _ S.bd).mono ?_; rw [HMQ.out]; rintro e w3 ⟨rfl, hx⟩; replace S := S.ext hx; clear hx; (try clear hc); have hc := S.cells; simp only [Cells, cellsC, Im, Row, El, CF, Nat.zero_add, Nat.reduceAdd] at hc))
      (first | refine ⟨(fun h => by cases h), ?_⟩ | skip); (first | ((first | (with_reducible refine mx_seal S ?_)); clear S; (try clear hc); intro w1 S; (try simp only [List.set_cons_zero, List.set_cons_succ, List.nil_append] at S); have hc := S.cells; simp only [Cells, cellsC, Im, Row, El, CF, Nat.zero_add, Nat.reduceAdd] at hc) | skip); (try simp only [Act.put, List.setIfInBounds_toArray, List.set_cons_succ, List.set_cons_zero])
      refine mix_last rfl ?_
      simp only [opsAt, List.getD_cons_succ, List.getD_cons_zero]
      repeat (go_big_quiet_step ((intro hC; first | rfl | (go_simp; first | done | rfl))))
      refine wpQuiet_nil ?_
      simp only [calmQ]
      go_wp2_with (first | ((first | (with_reducible refine wpl_seal S ?_) | (with_reducible refine cw_seal S ?_) | (with_reducible refine bp_seal S ?_) | (with_reducible refine ca_seal S ?_)); clear S; (try clear hc); intro w1 S; (try simp only [List.set_cons_zero, List.set_cons_succ, List.nil_append] at S); have hc := S.cells; simp only [Cells, cellsC, Im, Row, El, CF, Nat.zero_add, Nat.reduceAdd] at hc))
      go_roundw
      case rel => exact ⟨k + 1, by omega, by go_num, _, ⟨(S.sel [1, 2, 3] (by decide) rfl (by simp) : SH _ _ _ [_, _, _] _ _)⟩⟩
      case measure => simp [intOf] <;> omega
    · have hlt' : decide ((k : Int) < raw.length) = false := decide_eq_false (by omega)
      have hc := S.cells; simp only [Cells, cellsC, Im, Row, El, CF, Nat.zero_add, Nat.reduceAdd] at hc
      go_wp2_with (first | ((first | (with_reducible refine wpl_seal S ?_) | (with_reducible refine cw_seal S ?_) | (with_reducible refine bp_seal S ?_) | (with_reducible refine ca_seal S ?_)); clear S; (try clear hc); intro w1 S; (try simp only [List.set_cons_zero, List.set_cons_succ, List.nil_append] at S); have hc := S.cells; simp only [Cells, cellsC, Im, Row, El, CF, Nat.zero_add, Nat.reduceAdd] at hc) | (go_at_call 14; refine (as_c good Ar cr _ _ S.bd (S.im 0 rfl) (by omega)).mono ?_; rintro e w1 ⟨v, rfl, hu⟩; obtain ⟨I1, S1, hI1⟩ := S.new hu; clear S hu hI1; (try clear hc); have S := S1; clear S1; have hc := S.cells; simp only [Cells, cellsC, Im, Row, El, CF, Nat.zero_add, Nat.reduceAdd] at hc; obtain ⟨Aa, ca, I1, e1, hca, S1, hI1⟩ := S.frow 0 rfl; subst e1; clear S hI1; have S := S1; clear S1; simp only [List.set_cons_zero, List.set_cons_succ, List.nil_append] at S; have hc := S.cells; simp only [Cells, cellsC, Im, Row, El, CF, Nat.zero_add, Nat.reduceAdd] at hc) | (go_at_call 13; refine (sameR_c good good Aa Ag ca cg _ _ _ (S.im 0 rfl) (S.im 2 rfl) (by omega)).mono ?_; rw [decide_eq_true rfl]; rintro e w1 ⟨rfl, hx⟩; have hx := hx.ext; replace S := S.ext hx; clear hx; (try clear hc); have hc := S.cells; simp only [Cells, cellsC, Im, Row, El, CF, Nat.zero_add, Nat.reduceAdd] at hc) | (go_at_call 15; refine (plives_c _ _ S.bd).mono ?_; rintro e w1 ⟨rfl, hx⟩; replace S := S.ext hx; clear hx; (try clear hc); have hc := S.cells; simp only [Cells, cellsC, Im, Row, El, CF, Nat.zero_add, Nat.reduceAdd] at hc))
      go_ret
      exact ⟨rfl, S.out⟩
end Go.Proofs.YteaekpnmiicbhaaDoor
