/- ReportJoins: the law's walk. -/
import Derived.Test.YteaekpnmiicbhaaDoorPTextL
import Derived.Test.YteaekpnmiicbhaaDoorPBytes
namespace Go.Proofs.YteaekpnmiicbhaaDoor
open Go.RowKit X
set_option maxHeartbeats 4000000
set_option maxRecDepth 8000
set_option linter.unusedSimpArgs false
set_option linter.unusedVariables false
theorem bytesR_le6 {l : List R5} (h : ∀ x ∈ l, mayR x = true) : (bytesR l).length ≤ l.length * 45 := flat_le l fun x hx => bytes1_le (mayR_ok (h x hx))
theorem odd_no {l : List R5} (h : ∀ x ∈ l, mayR x = true) : oddR l = false := by
  unfold oddR
  rw [List.any_eq_false]
  intro x hx
  rw [h x hx]
  decide
theorem outT_no {l : List R5} (h : ∀ x ∈ l, mayR x = true) : outT l = textR l := by unfold outT; rw [odd_no h]; rfl
theorem errT_no {l : List R5} (h : ∀ x ∈ l, mayR x = true) : errT l = 0 := by unfold errT; rw [odd_no h]; rfl
theorem ljoins_c (l l2 : List R5) (A A2 : Option Addr) (c c2 : Nat) (w : World) (I : Fp) (hI : ∀ b, I b → b < w.heap.size) (hl : Sl kR w I A l) (hc0 : l.length ≤ c) (hok : ∀ x ∈ l, x.ok) (hl2 : Sl kR w I A2 l2) (hc2 : l2.length ≤ c2) (hok2 : ∀ x ∈ l2, x.ok) {mx : Int} (hm : w.cell? ⟨0, 0, none⟩ = some (.int .i64 mx)) (hI0 : I 0) :
    Calls Tryd.prog 5 #[.slice A l.length c, .slice A2 l2.length c2] w fun e w' => e = .returned (.bool true) ∧ Ext w w' := by
  have S := (((SH.start w I hI).know (h := CF 0 0 (.int .i64 mx)) ⟨hm, hI0⟩).know (h := Im kR A2 l2) hl2).know (h := Im kR A l) hl
  have HOK := As.mk hok
  have HOK2 := As.mk hok2
  clear hl hok hl2 hok2 hm
  obtain ⟨ra, hra⟩ : ∃ ra, (few6 l).map goodR = ra := ⟨_, rfl⟩
  obtain ⟨rb, hrb⟩ : ∃ rb, (few6 l2).map goodR = rb := ⟨_, rfl⟩
  have hrl : ra.length ≤ 6 := by rw [← hra, List.length_map]; exact few6_len l
  have hrl2 : rb.length ≤ 6 := by rw [← hrb, List.length_map]; exact few6_len l2
  have ma : ∀ x ∈ ra, mayR x = true := by rw [← hra]; exact good_may l
  have mb : ∀ x ∈ rb, mayR x = true := by rw [← hrb]; exact good_may l2
  have HRA := As.mk hra
  have HRB := As.mk hrb
  clear hra hrb
  obtain ⟨all, hall⟩ : ∃ all, ra ++ rb = all := ⟨_, rfl⟩
  have hal : all.length ≤ 12 := by rw [← hall, List.length_append]; omega
  have mall : ∀ x ∈ all, mayR x = true := by
    rw [← hall]
    intro x hx
    rcases List.mem_append.1 hx with h | h
    · exact ma x h
    · exact mb x h
  obtain ⟨ta, hta⟩ : ∃ t, textR ra = t := ⟨_, rfl⟩
  obtain ⟨tb, htb⟩ : ∃ t, textR rb = t := ⟨_, rfl⟩
  have htal : ta.length ≤ 606 := by rw [← hta, ← outT_no ma]; exact outT_le ra hrl
  have htbl : tb.length ≤ 606 := by rw [← htb, ← outT_no mb]; exact outT_le rb hrl2
  have htall : textR all = ta ++ tb := by rw [← hall, ← hta, ← htb]; unfold textR; rw [List.flatMap_append]
  obtain ⟨ba, hba⟩ : ∃ t, bytesR ra = t := ⟨_, rfl⟩
  obtain ⟨bb, hbb⟩ : ∃ t, bytesR rb = t := ⟨_, rfl⟩
  have hbal : ba.length ≤ 270 := by rw [← hba]; exact Nat.le_trans (bytesR_le6 ma) (by omega)
  have hbbl : bb.length ≤ 270 := by rw [← hbb]; exact Nat.le_trans (bytesR_le6 mb) (by omega)
  have hball : bytesR all = ba ++ bb := by rw [← hall, ← hba, ← hbb]; unfold bytesR; rw [List.flatMap_append]
  have TA : As (outT ra = ta) := ⟨by rw [outT_no ma, hta]⟩
  have TB : As (outT rb = tb) := ⟨by rw [outT_no mb, htb]⟩
  have TL : As (outT all = ta ++ tb) := ⟨by rw [outT_no mall, htall]⟩
  have EA := As.mk (errT_no ma)
  have EB := As.mk (errT_no mb)
  have EL := As.mk (errT_no mall)
  have BA : As (outB ra = ba) := ⟨by rw [outB_no (odd_no ma), hba]⟩
  have BB : As (outB rb = bb) := ⟨by rw [outB_no (odd_no mb), hbb]⟩
  obtain ⟨bl, hbl⟩ : ∃ bl, ba ++ bb = bl := ⟨_, rfl⟩
  have hbll : bl.length ≤ 540 := by rw [← hbl, List.length_append]; omega
  have BL : As (outB all = bl) := ⟨by rw [outB_no (odd_no mall), hball, hbl]⟩
  have FA := As.mk (errR_no (odd_no ma))
  have FB := As.mk (errR_no (odd_no mb))
  have FL := As.mk (errR_no (odd_no mall))
  have HP : As (textP (ta ++ tb) = (all, 0, 0)) := ⟨by rw [← htall]; exact text_back mall⟩
  have HALL := As.mk hall
  have hst := str_app ta tb
  have hst2 : (⟨ba.toArray⟩ ++ ⟨bb.toArray⟩ : ByteArray) = ⟨bl.toArray⟩ := by rw [← hbl]; exact str_app ba bb
  have heq := eql_str
  clear ma mb mall hall hta htb htall hba hbb hball hbl
  have hc := S.cells; simp only [Cells, cellsC, Im, Row, El, CF, Nat.zero_add, Nat.reduceAdd] at hc
  go_enter Tryd.func5, Tryd.ntmps5
  have mk0 : True := trivial
  have mk1 : True := trivial
  have mk2 : True := trivial
  have mk3 : True := trivial
  have mk4 : True := trivial
  have mk5 : True := trivial
  have mk6 : True := trivial
  have mk7 : True := trivial
  have mk8 : True := trivial
  have mk9 : True := trivial
  have mk10 : True := trivial
  have mk11 : True := trivial
  have mk12 : True := trivial
  have mk13 : True := trivial
  have mk14 : True := trivial
  have mk15 : True := trivial
  have mk16 : True := trivial
  have mk17 : True := trivial
  have mk18 : True := trivial
  have mk19 : True := trivial
  go_wp2_with (first | ((first | (with_reducible refine wpl_seal S ?_) | (with_reducible refine cw_seal S ?_) | (with_reducible refine bp_seal S ?_) | (with_reducible refine ca_seal S ?_)); clear S; (try clear hc); intro w1 S; (try simp only [List.set_cons_zero, List.set_cons_succ, List.nil_append] at S); have hc := S.cells; simp only [Cells, cellsC, Im, Row, El, CF, Nat.zero_add, Nat.reduceAdd] at hc) | (go_at_call 6; clear mk0; refine (few_c l A c _ _ S.bd (S.im 0 rfl) hc0 HOK.out).mono ?_; rw [HRA.out]; rintro e w1 ⟨v, c', rfl, -, hu⟩; obtain ⟨I1, S1, hI1⟩ := S.new hu; clear S hu hI1; (try clear hc); have S := S1; clear S1; have hc := S.cells; simp only [Cells, cellsC, Im, Row, El, CF, Nat.zero_add, Nat.reduceAdd] at hc; obtain ⟨Aa, ca, I1, e1, hca, S1, hI1⟩ := S.frow 0 rfl; subst e1; clear S hI1; have S := S1; clear S1; simp only [List.set_cons_zero, List.set_cons_succ, List.nil_append] at S; have hc := S.cells; simp only [Cells, cellsC, Im, Row, El, CF, Nat.zero_add, Nat.reduceAdd] at hc) | (go_at_call 6; clear mk1; refine (few_c l2 A2 c2 _ _ S.bd (S.im 2 rfl) hc2 HOK2.out).mono ?_; rw [HRB.out]; rintro e w1 ⟨v, c', rfl, -, hu⟩; obtain ⟨I1, S1, hI1⟩ := S.new hu; clear S hu hI1; (try clear hc); have S := S1; clear S1; have hc := S.cells; simp only [Cells, cellsC, Im, Row, El, CF, Nat.zero_add, Nat.reduceAdd] at hc; obtain ⟨Ab, cb, I1, e1, hcb, S1, hI1⟩ := S.frow 0 rfl; subst e1; clear S hI1; have S := S1; clear S1; simp only [List.set_cons_zero, List.set_cons_succ, List.nil_append] at S; replace S : SH No I w [_, _, _] _ _ := S.sel [0, 1, 4] (by decide) rfl (by simp); replace S := S.nilrow (k := kR); have hc := S.cells; simp only [Cells, cellsC, Im, Row, El, CF, Nat.zero_add, Nat.reduceAdd] at hc) | (clear mk2; (at_builtin; refine wpl_app S 0 rfl rfl _ _ rfl ty_r5s rfl Aa ca _ rfl _ (fun _ _ h => h) ((S.im 2 rfl)) (by (try simp only [maxLen, List.length_nil, List.length_append, List.length_cons]); omega) (by (try simp only [maxLen, List.length_nil, List.length_append, List.length_cons]); omega) ?_; clear S; (try clear hc); intro va w1 S; simp only [List.set_cons_zero, List.set_cons_succ, List.nil_append] at S; have hc := S.cells; simp only [Cells, cellsC, Im, Row, El, CF, Nat.zero_add, Nat.reduceAdd] at hc)) | (clear mk3; (at_builtin; refine wpl_app S 0 rfl rfl _ _ rfl ty_r5s rfl Ab cb _ rfl _ (fun _ _ h => h) ((S.im 1 rfl)) (by (try simp only [maxLen, List.length_nil, List.length_append, List.length_cons]); omega) (by (try simp only [maxLen, List.length_nil, List.length_append, List.length_cons]); omega) ?_; clear S; (try clear hc); intro va w1 S; simp only [List.set_cons_zero, List.set_cons_succ, List.nil_append] at S; have hc := S.cells; simp only [Cells, cellsC, Im, Row, El, CF, Nat.zero_add, Nat.reduceAdd] at hc); rw [HALL.out] at S; obtain ⟨Al, cl, I1, e1, hcl, S1, hI1⟩ := S.frow 0 rfl; subst e1; clear S hI1; have S := S1; clear S1; simp only [List.set_cons_zero, List.set_cons_succ, List.nil_append] at S; have hc := S.cells; simp only [Cells, cellsC, Im, Row, El, CF, Nat.zero_add, Nat.reduceAdd] at hc) | (go_at_call 8; clear mk4; refine (of_c ra Aa ca _ _ S.bd (S.im 2 rfl) (by omega)).mono ?_; rintro e w1 ⟨v1, rfl, hu⟩; obtain ⟨I1, S1, hI1⟩ := S.new hu; clear S hu hI1; (try clear hc); have S := S1; clear S1; have hc := S.cells; simp only [Cells, cellsC, Im, Row, El, CF, Nat.zero_add, Nat.reduceAdd] at hc; obtain ⟨Ao1, co1, I1, e1, hco1, S1, hI1⟩ := S.frow 0 rfl; subst e1; clear S hI1; have S := S1; clear S1; simp only [List.set_cons_zero, List.set_cons_succ, List.nil_append] at S; have hc := S.cells; simp only [Cells, cellsC, Im, Row, El, CF, Nat.zero_add, Nat.reduceAdd] at hc) | (go_at_call 7; clear mk5; refine (text_e ra Ao1 co1 _ _ S.bd (S.im 0 rfl) (by omega)).mono ?_; rw [TA.out, EA.out]; rintro e w1 ⟨rfl, hx⟩; replace S := S.ext hx; clear hx; (try clear hc); have hc := S.cells; simp only [Cells, cellsC, Im, Row, El, CF, Nat.zero_add, Nat.reduceAdd] at hc; replace S : SH No I w [_, _, _, _] _ _ := S.sel [1, 2, 3, 4] (by decide) rfl (by simp); have hc := S.cells; simp only [Cells, cellsC, Im, Row, El, CF, Nat.zero_add, Nat.reduceAdd] at hc) | (go_at_call 8; clear mk6; refine (of_c rb Ab cb _ _ S.bd (S.im 1 rfl) (by omega)).mono ?_; rintro e w1 ⟨v1, rfl, hu⟩; obtain ⟨I1, S1, hI1⟩ := S.new hu; clear S hu hI1; (try clear hc); have S := S1; clear S1; have hc := S.cells; simp only [Cells, cellsC, Im, Row, El, CF, Nat.zero_add, Nat.reduceAdd] at hc; obtain ⟨Ao2, co2, I1, e1, hco2, S1, hI1⟩ := S.frow 0 rfl; subst e1; clear S hI1; have S := S1; clear S1; simp only [List.set_cons_zero, List.set_cons_succ, List.nil_append] at S; have hc := S.cells; simp only [Cells, cellsC, Im, Row, El, CF, Nat.zero_add, Nat.reduceAdd] at hc) | (go_at_call 7; clear mk7; refine (text_e rb Ao2 co2 _ _ S.bd (S.im 0 rfl) (by omega)).mono ?_; rw [TB.out, EB.out]; rintro e w1 ⟨rfl, hx⟩; replace S := S.ext hx; clear hx; (try clear hc); have hc := S.cells; simp only [Cells, cellsC, Im, Row, El, CF, Nat.zero_add, Nat.reduceAdd] at hc; replace S : SH No I w [_, _, _, _] _ _ := S.sel [1, 2, 3, 4] (by decide) rfl (by simp); have hc := S.cells; simp only [Cells, cellsC, Im, Row, El, CF, Nat.zero_add, Nat.reduceAdd] at hc) | (go_at_call 8; clear mk8; refine (of_c all Al cl _ _ S.bd (S.im 0 rfl) (by omega)).mono ?_; rintro e w1 ⟨v1, rfl, hu⟩; obtain ⟨I1, S1, hI1⟩ := S.new hu; clear S hu hI1; (try clear hc); have S := S1; clear S1; have hc := S.cells; simp only [Cells, cellsC, Im, Row, El, CF, Nat.zero_add, Nat.reduceAdd] at hc; obtain ⟨Ao3, co3, I1, e1, hco3, S1, hI1⟩ := S.frow 0 rfl; subst e1; clear S hI1; have S := S1; clear S1; simp only [List.set_cons_zero, List.set_cons_succ, List.nil_append] at S; have hc := S.cells; simp only [Cells, cellsC, Im, Row, El, CF, Nat.zero_add, Nat.reduceAdd] at hc) | (go_at_call 7; clear mk9; refine (text_e all Ao3 co3 _ _ S.bd (S.im 0 rfl) (by omega)).mono ?_; rw [TL.out, EL.out]; rintro e w1 ⟨rfl, hx⟩; replace S := S.ext hx; clear hx; (try clear hc); have hc := S.cells; simp only [Cells, cellsC, Im, Row, El, CF, Nat.zero_add, Nat.reduceAdd] at hc; replace S : SH No I w [_, _, _, _] _ _ := S.sel [1, 2, 3, 4] (by decide) rfl (by simp); have hc := S.cells; simp only [Cells, cellsC, Im, Row, El, CF, Nat.zero_add, Nat.reduceAdd] at hc) | (go_at_call 8; clear mk10; refine (of_c ra Aa ca _ _ S.bd (S.im 2 rfl) (by omega)).mono ?_; rintro e w1 ⟨v1, rfl, hu⟩; obtain ⟨I1, S1, hI1⟩ := S.new hu; clear S hu hI1; (try clear hc); have S := S1; clear S1; have hc := S.cells; simp only [Cells, cellsC, Im, Row, El, CF, Nat.zero_add, Nat.reduceAdd] at hc; obtain ⟨Ao4, co4, I1, e1, hco4, S1, hI1⟩ := S.frow 0 rfl; subst e1; clear S hI1; have S := S1; clear S1; simp only [List.set_cons_zero, List.set_cons_succ, List.nil_append] at S; have hc := S.cells; simp only [Cells, cellsC, Im, Row, El, CF, Nat.zero_add, Nat.reduceAdd] at hc) | (go_at_call 19; clear mk11; refine (pbytes_c ra Ao4 co4 _ _ S.bd (S.im 0 rfl) (by omega)).mono ?_; rw [BA.out, FA.out]; rintro e w1 ⟨v, rfl, hu⟩; obtain ⟨I1, S1, hI1⟩ := S.new hu; clear S hu hI1; (try clear hc); have S := S1; clear S1; have hc := S.cells; simp only [Cells, cellsC, Im, Row, El, CF, Nat.zero_add, Nat.reduceAdd] at hc; obtain ⟨Ba, cba, e1, hcba, -⟩ := (S.own 0 rfl).form; subst e1; have hba := (S.own 0 rfl).addr; obtain ⟨Aq, cq, I1, e2, -, S1, -⟩ := S.frow 0 rfl; rw [Value.slice.injEq] at e2; obtain ⟨rfl, -, rfl⟩ := e2; clear S; have S := S1; clear S1; simp only [List.set_cons_zero, List.set_cons_succ, List.nil_append] at S; replace S : SH No I w [_, _, _, _, _] _ _ := S.sel [0, 2, 3, 4, 5] (by decide) rfl (by simp); have hc := S.cells; simp only [Cells, cellsC, Im, Row, El, CF, Nat.zero_add, Nat.reduceAdd] at hc) | (go_at_call 8; clear mk12; refine (of_c rb Ab cb _ _ S.bd (S.im 2 rfl) (by omega)).mono ?_; rintro e w1 ⟨v1, rfl, hu⟩; obtain ⟨I1, S1, hI1⟩ := S.new hu; clear S hu hI1; (try clear hc); have S := S1; clear S1; have hc := S.cells; simp only [Cells, cellsC, Im, Row, El, CF, Nat.zero_add, Nat.reduceAdd] at hc; obtain ⟨Ao5, co5, I1, e1, hco5, S1, hI1⟩ := S.frow 0 rfl; subst e1; clear S hI1; have S := S1; clear S1; simp only [List.set_cons_zero, List.set_cons_succ, List.nil_append] at S; have hc := S.cells; simp only [Cells, cellsC, Im, Row, El, CF, Nat.zero_add, Nat.reduceAdd] at hc) | (go_at_call 19; clear mk13; refine (pbytes_c rb Ao5 co5 _ _ S.bd (S.im 0 rfl) (by omega)).mono ?_; rw [BB.out, FB.out]; rintro e w1 ⟨v, rfl, hu⟩; obtain ⟨I1, S1, hI1⟩ := S.new hu; clear S hu hI1; (try clear hc); have S := S1; clear S1; have hc := S.cells; simp only [Cells, cellsC, Im, Row, El, CF, Nat.zero_add, Nat.reduceAdd] at hc; obtain ⟨Bb, cbb, e1, hcbb, -⟩ := (S.own 0 rfl).form; subst e1; have hbb := (S.own 0 rfl).addr; obtain ⟨Aq, cq, I1, e2, -, S1, -⟩ := S.frow 0 rfl; rw [Value.slice.injEq] at e2; obtain ⟨rfl, -, rfl⟩ := e2; clear S; have S := S1; clear S1; simp only [List.set_cons_zero, List.set_cons_succ, List.nil_append] at S; replace S : SH No I w [_, _, _, _, _, _] _ _ := S.sel [0, 2, 3, 4, 5, 6] (by decide) rfl (by simp); have hc := S.cells; simp only [Cells, cellsC, Im, Row, El, CF, Nat.zero_add, Nat.reduceAdd] at hc) | (go_at_call 8; clear mk14; refine (of_c all Al cl _ _ S.bd (S.im 2 rfl) (by omega)).mono ?_; rintro e w1 ⟨v1, rfl, hu⟩; obtain ⟨I1, S1, hI1⟩ := S.new hu; clear S hu hI1; (try clear hc); have S := S1; clear S1; have hc := S.cells; simp only [Cells, cellsC, Im, Row, El, CF, Nat.zero_add, Nat.reduceAdd] at hc; obtain ⟨Ao6, co6, I1, e1, hco6, S1, hI1⟩ := S.frow 0 rfl; subst e1; clear S hI1; have S := S1; clear S1; simp only [List.set_cons_zero, List.set_cons_succ, List.nil_append] at S; have hc := S.cells; simp only [Cells, cellsC, Im, Row, El, CF, Nat.zero_add, Nat.reduceAdd] at hc) | (go_at_call 19; clear mk15; refine (pbytes_c all Ao6 co6 _ _ S.bd (S.im 0 rfl) (by omega)).mono ?_; rw [BL.out, FL.out]; rintro e w1 ⟨v, rfl, hu⟩; obtain ⟨I1, S1, hI1⟩ := S.new hu; clear S hu hI1; (try clear hc); have S := S1; clear S1; have hc := S.cells; simp only [Cells, cellsC, Im, Row, El, CF, Nat.zero_add, Nat.reduceAdd] at hc; obtain ⟨Bl, cbl, e1, hcbl, -⟩ := (S.own 0 rfl).form; subst e1; have hbl := (S.own 0 rfl).addr; obtain ⟨Aq, cq, I1, e2, -, S1, -⟩ := S.frow 0 rfl; rw [Value.slice.injEq] at e2; obtain ⟨rfl, -, rfl⟩ := e2; clear S; have S := S1; clear S1; simp only [List.set_cons_zero, List.set_cons_succ, List.nil_append] at S; replace S : SH No I w [_, _, _, _, _, _, _] _ _ := S.sel [0, 2, 3, 4, 5, 6, 7] (by decide) rfl (by simp); have hc := S.cells; simp only [Cells, cellsC, Im, Row, El, CF, Nat.zero_add, Nat.reduceAdd] at hc) | (go_at_call 10; clear mk16; refine (pparse_c (ta ++ tb) (by rw [List.length_append]; omega) _ _ S.bd (S.cf 6 rfl) (S.cfI 6 rfl) HP.out).mono ?_; rintro e w1 ⟨v, rfl, hu⟩; obtain ⟨I1, S1, hI1⟩ := S.new hu; clear S hu hI1; (try clear hc); have S := S1; clear S1; have hc := S.cells; simp only [Cells, cellsC, Im, Row, El, CF, Nat.zero_add, Nat.reduceAdd] at hc; obtain ⟨Ar, cr, I1, e1, hcr, S1, hI1⟩ := S.frow 0 rfl; subst e1; clear S hI1; have S := S1; clear S1; simp only [List.set_cons_zero, List.set_cons_succ, List.nil_append] at S; have hv1 := conv_sl Tryd.underlying49 Tryd.underlying5 Tryd.underlying9 (S.im 1 rfl) cbl (fun _ => hbl); have hv2 := conv_sl Tryd.underlying49 Tryd.underlying5 Tryd.underlying9 (S.im 2 rfl) cbb (fun _ => hbb); have hv3 := conv_sl Tryd.underlying49 Tryd.underlying5 Tryd.underlying9 (S.im 3 rfl) cba (fun _ => hba); have hc := S.cells; simp only [Cells, cellsC, Im, Row, El, CF, Nat.zero_add, Nat.reduceAdd] at hc) | (go_at_call 14; clear mk17; refine (as_c all Ar cr _ _ S.bd (S.im 0 rfl) (by omega)).mono ?_; rintro e w1 ⟨v, rfl, hu⟩; obtain ⟨I1, S1, hI1⟩ := S.new hu; clear S hu hI1; (try clear hc); have S := S1; clear S1; have hc := S.cells; simp only [Cells, cellsC, Im, Row, El, CF, Nat.zero_add, Nat.reduceAdd] at hc; obtain ⟨Aq, cq, I1, e1, hcq, S1, hI1⟩ := S.frow 0 rfl; subst e1; clear S hI1; have S := S1; clear S1; simp only [List.set_cons_zero, List.set_cons_succ, List.nil_append] at S; have hc := S.cells; simp only [Cells, cellsC, Im, Row, El, CF, Nat.zero_add, Nat.reduceAdd] at hc) | (go_at_call 13; clear mk18; refine (sameR_c all all Aq Al cq cl _ _ _ (S.im 0 rfl) (S.im 5 rfl) (by omega)).mono ?_; rw [decide_eq_true rfl]; rintro e w1 ⟨rfl, hx⟩; have hx := hx.ext; replace S := S.ext hx; clear hx; (try clear hc); have hc := S.cells; simp only [Cells, cellsC, Im, Row, El, CF, Nat.zero_add, Nat.reduceAdd] at hc) | (go_at_call 15; clear mk19; refine (plives_c _ _ S.bd).mono ?_; rintro e w1 ⟨rfl, hx⟩; replace S := S.ext hx; clear hx; (try clear hc); have hc := S.cells; simp only [Cells, cellsC, Im, Row, El, CF, Nat.zero_add, Nat.reduceAdd] at hc))
  go_ret
  exact ⟨rfl, S.out⟩
end Go.Proofs.YteaekpnmiicbhaaDoor
