/- ReportReads: the law's walk. -/
import Derived.Test.YteaekpnmiicbhaaPLiv
namespace Go.Proofs.Yteaekpnmiicbhaa
open Go.RowKit X
set_option maxHeartbeats 4000000
set_option maxRecDepth 8000
set_option linter.unusedSimpArgs false
set_option linter.unusedVariables false
abbrev kBB : Kd (List UInt8) := Kd.sl 22 kB
instance (w : World) (L : List Ob) (b j : Nat) (z : UInt8) (W : World) (L' L2 : List Ob) [h : Built w L W L'] [g : SetR8 5 L' b j z L2] : Built1 w L (W.setCell ⟨b, j, none⟩ (.int .u8 z.toNat)) L2 := ⟨fun s => (h.out s).set8 g⟩
theorem readGo_len : ∀ (f : Nat) (out : List R5) (bs : List UInt8), (readGo f out bs).1.length ≤ out.length + f
  | 0, out, bs => Nat.le_refl _
  | f + 1, out, bs => by
    unfold readGo
    split
    · simp
    · split
      · simp
      · split
        · simp
        · have := readGo_len f (out ++ [mk5 (nums 5 bs).1]) (nums 5 bs).2.2
          rw [List.length_append] at this
          simp only [List.length_cons, List.length_nil] at this
          omega
theorem readB_len (bs : List UInt8) : (readB bs).1.length ≤ bs.length := by
  have := readGo_len bs.length [] bs
  unfold readB
  simp only [List.length_nil, Nat.zero_add] at this
  exact this
theorem reads_c (bs : List UInt8) (l : List R5) (at' : Int) (z : UInt8) (cut : Int) (A A2 : Option Addr) (c c2 : Nat) (w : World) (I : Fp) (hI : ∀ b, I b → b < w.heap.size) (hb : Sl kB w I A bs) (hcb : bs.length ≤ c) (hl : Sl kR w I A2 l) (hc2 : l.length ≤ c2) (hok : ∀ x ∈ l, x.ok) (hat : I64 at') (hcut : I64 cut) :
    Calls Try.prog 3 #[.slice A bs.length c, .slice A2 l.length c2, .int .i64 at', .int .u8 z.toNat, .int .i64 cut] w fun e w' => e = .returned (.bool true) ∧ Ext w w' := by
  have S := ((SH.start w I hI).know (h := Im kR A2 l) hl).know (h := Im kB A bs) hb
  have HOK := As.mk hok
  have HAT := As.mk hat
  have HCUT := As.mk hcut
  clear hb hl hok hat hcut
  obtain ⟨good, hgood⟩ : ∃ good, (few6 l).map goodR = good := ⟨_, rfl⟩
  have HG := As.mk hgood
  have HM : As (∀ x ∈ good, mayR x = true) := ⟨by rw [← hgood]; exact good_may l⟩
  have hgl : good.length ≤ 6 := by rw [← hgood, List.length_map]; exact few6_len l
  have hol : (bytesR good).length ≤ 270 := Nat.le_trans (bytesR_le HM.out) (by omega)
  clear hgood
  obtain ⟨own, hown⟩ : ∃ own, bytesR good = own := ⟨_, rfl⟩
  have HOWN := As.mk hown
  rw [hown] at hol
  clear hown
  obtain ⟨m, hmin, hmb, hm40⟩ : ∃ m : Nat, min (bs.length : Int) 40 = m ∧ m ≤ bs.length ∧ m ≤ 40 := ⟨min bs.length 40, by omega, by omega, by omega⟩
  obtain ⟨q, hq⟩ : ∃ q : Nat, aroundI cut (own.length + 1 : Nat) = q := ⟨(aroundI cut (own.length + 1 : Nat)).toNat, by have := (aroundI_range (n := cut) (m := ((own.length + 1 : Nat) : Int)) (by omega)).1; omega⟩
  have hql : q ≤ own.length := by have := (aroundI_range (n := cut) (m := ((own.length + 1 : Nat) : Int)) (by omega)).2; omega
  have HQ : As (aroundI cut ((own.length : Int) + 1) = q) := ⟨hq⟩
  have hmc : m ≤ c := by omega
  clear hq
  by_cases h0 : own.length = 0
  · have h0' : decide (0 < own.length) = false := decide_eq_false (by omega)
    clear h0
    have hc := S.cells; simp only [Cells, cellsC, Im, Row, El, Nat.zero_add, Nat.reduceAdd] at hc
    go_enter Try.func3, Try.ntmps3
    go_wp2_with (first | ((first | (with_reducible refine wpl_seal S ?_) | (with_reducible refine cw_seal S ?_) | (with_reducible refine bp_seal S ?_) | (with_reducible refine ca_seal S ?_)); clear S; (try clear hc); intro w1 S; (try simp only [List.set_cons_zero, List.set_cons_succ, List.nil_append] at S); have hc := S.cells; simp only [Cells, cellsC, Im, Row, El, Nat.zero_add, Nat.reduceAdd] at hc) | (go_at_call 8; refine (few_c l A2 c2 _ _ S.bd (S.im 1 rfl) hc2 HOK.out).mono ?_; rw [HG.out]; rintro e w1 ⟨v, c', rfl, -, hu⟩; obtain ⟨I1, S1, hI1⟩ := S.new hu; clear S hu hI1; (try clear hc); have S := S1; clear S1; have hc := S.cells; simp only [Cells, cellsC, Im, Row, El, Nat.zero_add, Nat.reduceAdd] at hc; obtain ⟨Ag, cg, I1, e1, hcg, S1, hI1⟩ := S.frow 0 rfl; subst e1; clear S hI1; have S := S1; clear S1; simp only [List.set_cons_zero, List.set_cons_succ, List.nil_append] at S; have hc := S.cells; simp only [Cells, cellsC, Im, Row, El, Nat.zero_add, Nat.reduceAdd] at hc) | (go_at_call 9; refine (rbytes_c good Ag cg _ _ S.bd (S.im 0 rfl) (by omega) HM.out).mono ?_; rw [HOWN.out]; rintro e w1 ⟨v, rfl, hu⟩; obtain ⟨I1, S1, hI1⟩ := S.new hu; clear S hu hI1; (try clear hc); have S := S1; clear S1; have hc := S.cells; simp only [Cells, cellsC, Im, Row, El, Nat.zero_add, Nat.reduceAdd] at hc; obtain ⟨Ao, co, I1, e1, hco, S1, hI1⟩ := S.frow 0 rfl; subst e1; clear S hI1; have S := S1; clear S1; simp only [List.set_cons_zero, List.set_cons_succ, List.nil_append] at S; replace S := S.nilrow (k := kB); have hc := S.cells; simp only [Cells, cellsC, Im, Row, El, Nat.zero_add, Nat.reduceAdd] at hc) | ((at_builtin; refine wpl_app S 0 rfl rfl _ _ rfl ty_u8s rfl Ao co _ rfl _ (fun _ _ h => h) ((S.im 1 rfl)) (by (try simp only [maxLen, List.length_nil, List.length_append, List.length_cons]); omega) (by (try simp only [maxLen, List.length_nil, List.length_append, List.length_cons]); omega) ?_; clear S; (try clear hc); intro va w1 S; simp only [List.set_cons_zero, List.set_cons_succ, List.nil_append] at S; have hc := S.cells; simp only [Cells, cellsC, Im, Row, El, Nat.zero_add, Nat.reduceAdd] at hc); (try rw [List.nil_append] at S); obtain ⟨Av, cv, rfl, hcv, -⟩ := (S.own 0 rfl).form))
    obtain ⟨At, ct, I2, e3, hct, S2, -⟩ := S.frow 0 rfl
    rw [Value.slice.injEq] at e3
    obtain ⟨rfl, -, rfl⟩ := e3
    clear S
    have S := S2
    clear S2
    simp only [List.set_cons_zero] at S
    obtain ⟨A0, hcut0, hs0⟩ := (S.im 3 rfl).cutR ty_u8s hmb hcb
    obtain ⟨A1, hcut1, hs1⟩ := (S.im 1 rfl).cutR ty_u8s hql hco
    have htl0 : (bs.take m).length = m := by rw [List.length_take]; omega
    have htl1 : (own.take q).length = q := by rw [List.length_take]; omega
    replace S := (S.know (h := Im kB A0 (bs.take m)) hs0).know (h := Im kB A1 (own.take q)) hs1
    obtain ⟨b0, hb0⟩ : ∃ b0, bs.take m = b0 := ⟨_, rfl⟩
    obtain ⟨b2, hb2⟩ : ∃ b2, own.take q = b2 := ⟨_, rfl⟩
    rw [hb0] at S htl0
    rw [hb2] at S htl1
    have HB0 := As.mk htl0
    have HB2 := As.mk htl1
    have hqc : q ≤ co := Nat.le_trans hql hco
    clear hs0 hs1 hb0 hb2 htl0 htl1
    have hc := S.cells; simp only [Cells, cellsC, Im, Row, El, Nat.zero_add, Nat.reduceAdd] at hc
    refine wp_region_ext [⟨[1, 2, 3, 7, 8, 9, 10], [0, 4, 5, 6], 11, true⟩, ⟨[12], [], 13, false⟩] [14] (by kernel_rfl) (by kernel_rfl) ?_
    refine mix_cons rfl rfl rfl ?_
    simp only [opsAt, List.getD_cons_succ, List.getD_cons_zero]
    repeat (go_big_quiet_step ((intro hC; first | rfl | (go_simp; first | done | rfl))))
    refine wpQuiet_nil ?_
    repeat (go_big_quiet_step ((intro hC; first | rfl | (go_simp; first | done | rfl))))
    refine wpQuiet_nil ?_
    clear hc
    replace S := S.drew
    generalize w1.drew = w2 at S ⊢
    have hc := S.cells; simp only [Cells, cellsC, Im, Row, El, Nat.zero_add, Nat.reduceAdd] at hc
    go_wp2_with (first | ((first | (with_reducible refine mx_seal S ?_) | (with_reducible refine wpl_seal S ?_) | (with_reducible refine ca_seal S ?_)); clear S; (try clear hc); intro w1 S; (try simp only [List.set_cons_zero, List.set_cons_succ, List.nil_append] at S); have hc := S.cells; simp only [Cells, cellsC, Im, Row, El, Nat.zero_add, Nat.reduceAdd] at hc) | (go_at_call 10; refine (around_c cut _ _ HCUT.out (by omega) (by omega)).mono ?_; rw [HQ.out]; rintro e w1 ⟨rfl, rfl⟩))
    refine ⟨fun _ => Below.refl _ _, ?_⟩
    refine mix_cons rfl rfl rfl ?_
    simp only [opsAt, List.getD_cons_succ, List.getD_cons_zero]
    repeat (go_big_quiet_step ((intro hC; first | rfl | (go_simp; first | done | rfl))))
    refine wpQuiet_nil ?_
    repeat (go_big_quiet_step ((intro hC; first | rfl | (go_simp; first | done | rfl))))
    refine wpQuiet_nil ?_
    go_wp2_with (first | ((first | (with_reducible refine mx_seal S ?_) | (with_reducible refine wpl_seal S ?_) | (with_reducible refine ca_seal S ?_)); clear S; (try clear hc); intro w1 S; (try simp only [List.set_cons_zero, List.set_cons_succ, List.nil_append] at S); have hc := S.cells; simp only [Cells, cellsC, Im, Row, El, Nat.zero_add, Nat.reduceAdd] at hc))
    (first | refine ⟨(fun h => by cases h), ?_⟩ | skip); (first | ((first | (with_reducible refine mx_seal S ?_)); clear S; (try clear hc); intro w1 S; (try simp only [List.set_cons_zero, List.set_cons_succ, List.nil_append] at S); have hc := S.cells; simp only [Cells, cellsC, Im, Row, El, Nat.zero_add, Nat.reduceAdd] at hc) | skip); (try simp only [Act.put, List.setIfInBounds_toArray, List.set_cons_succ, List.set_cons_zero])
    refine mix_last rfl ?_
    simp only [opsAt, List.getD_cons_succ, List.getD_cons_zero]
    repeat (go_big_quiet_step ((intro hC; first | rfl | (go_simp; first | done | rfl))))
    refine wpQuiet_nil ?_
    simp only [calmQ]
    go_wp2_with (first | ((first | (with_reducible refine wpl_seal S ?_) | (with_reducible refine cw_seal S ?_) | (with_reducible refine bp_seal S ?_) | (with_reducible refine ca_seal S ?_)); clear S; (try clear hc); intro w1 S; (try simp only [List.set_cons_zero, List.set_cons_succ, List.nil_append] at S); have hc := S.cells; simp only [Cells, cellsC, Im, Row, El, Nat.zero_add, Nat.reduceAdd] at hc))
    obtain ⟨I3, S3, -⟩ := S.lit 0 rfl (k := kBB) (xs := [b0, own, b2]) (Flat.cons (cs := [_]) ⟨A0, c, by rw [HB0.out], by rw [HB0.out]; exact hmc, S.im 2 rfl⟩ (Flat.cons (cs := [_]) ⟨_, cv, rfl, hcv, S.im 3 rfl⟩ (Flat.single ⟨A1, co, by rw [HB2.out], by rw [HB2.out]; exact hqc, S.im 1 rfl⟩)))
    obtain ⟨all, hall⟩ : ∃ all, [b0, own, b2] = all := ⟨_, rfl⟩
    have hal : all.length = 3 := by rw [← hall]; rfl
    have HAL : As (∀ x ∈ all, x.length ≤ 300) := ⟨by
      rw [← hall]
      intro x hx
      have h1 := HB0.out
      have h2 := HB2.out
      have h3 : own.length = own.length := rfl
      simp only [List.mem_cons, List.not_mem_nil, or_false] at hx
      rcases hx with rfl | rfl | rfl <;> omega⟩
    rw [hall] at S3
    clear S hc hall
    obtain ⟨ga, hga⟩ : ∃ ga, w2.heap.size = ga := ⟨_, rfl⟩
    rw [hga] at S3 ⊢
    have S1 := S3.sel [0] (L' := [_]) (by decide) rfl (by simp)
    clear S3 hga
    go_loopw [17] (fun i w' => ∃ (t : Nat), t ≤ 3 ∧ i = .int .i64 t ∧ ∃ I', As (SH No I w [Im kBB (some ⟨ga, 0, none⟩) all] w' I')) (fun i _ => 3 - (intOf i).toNat)
    case atStart => exact ⟨0, by omega, rfl, _, ⟨S1⟩⟩
    case round =>
      clear S1
      obtain ⟨t, ht, rfl, I', ⟨S⟩⟩ := hrel
      by_cases ht3 : t < 3
      · have ht3' : decide ((t : Int) < 3) = true := by simp; omega
        have hta : t < all.length := by omega
        obtain ⟨b', o', Ax, cx, e, hcx, hlx, hsx⟩ := (S.im 0 rfl).sl_at hta
        cases e
        have hx3 := HAL.out _ (List.getElem_mem hta)
        replace S := S.know (h := Im kB Ax all[t]) hsx
        clear hsx
        generalize all[t] = xs at S hcx hlx hx3
        obtain ⟨rs, n, e, hR⟩ : ∃ rs n e, readB xs = (rs, n, e) := ⟨_, _, _, rfl⟩
        have HR := As.mk hR
        have hrl : rs.length ≤ 1000 := by have := readB_len xs; rw [hR] at this; simp only at this; omega
        clear hR
        rw [Nat.zero_add] at hcx
        have hc := S.cells; simp only [Cells, cellsC, Im, Row, El, Nat.zero_add, Nat.reduceAdd] at hc
        go_wp2_with (first | ((first | (with_reducible refine wpl_seal S ?_) | (with_reducible refine cw_seal S ?_) | (with_reducible refine bp_seal S ?_) | (with_reducible refine ca_seal S ?_)); clear S; (try clear hc); intro w1 S; (try simp only [List.set_cons_zero, List.set_cons_succ, List.nil_append] at S); have hc := S.cells; simp only [Cells, cellsC, Im, Row, El, Nat.zero_add, Nat.reduceAdd] at hc) | (go_at_call 11; refine (read_c xs Ax cx _ _ S.bd (S.im 0 rfl) hlx (by omega)).mono ?_; rw [HR.out]; rintro r w1 ⟨v, rfl, hu⟩; have hx := hu.ext; obtain ⟨I1, S1, hI1⟩ := S.new hu; clear S hu hI1; (try clear hc); have S := S1; clear S1; have hc := S.cells; simp only [Cells, cellsC, Im, Row, El, Nat.zero_add, Nat.reduceAdd] at hc; obtain ⟨Ar, cr, I1, e1, hcr, S1, hI1⟩ := S.frow 0 rfl; subst e1; clear S hI1; have S := S1; clear S1; simp only [List.set_cons_zero, List.set_cons_succ, List.nil_append] at S; have hcx := hx.cell hcx; clear hx; have hc := S.cells; simp only [Cells, cellsC, Im, Row, El, Nat.zero_add, Nat.reduceAdd] at hc) | (go_at_call 12; refine (rread_c xs Ax cx _ _ S.bd (S.im 1 rfl) hlx (by omega)).mono ?_; rw [HR.out]; rintro r w1 ⟨v, rfl, hu⟩; obtain ⟨I1, S1, hI1⟩ := S.new hu; clear S hu hI1; (try clear hc); have S := S1; clear S1; have hc := S.cells; simp only [Cells, cellsC, Im, Row, El, Nat.zero_add, Nat.reduceAdd] at hc; obtain ⟨As', cs', I1, e1, hcs', S1, hI1⟩ := S.frow 0 rfl; subst e1; clear S hI1; have S := S1; clear S1; simp only [List.set_cons_zero, List.set_cons_succ, List.nil_append] at S; have hc := S.cells; simp only [Cells, cellsC, Im, Row, El, Nat.zero_add, Nat.reduceAdd] at hc) | (go_at_call 14; refine (as_c rs Ar cr _ _ S.bd (S.im 1 rfl) hrl).mono ?_; rintro r w1 ⟨v, rfl, hu⟩; obtain ⟨I1, S1, hI1⟩ := S.new hu; clear S hu hI1; (try clear hc); have S := S1; clear S1; have hc := S.cells; simp only [Cells, cellsC, Im, Row, El, Nat.zero_add, Nat.reduceAdd] at hc; obtain ⟨Aa, ca, I1, e1, hca, S1, hI1⟩ := S.frow 0 rfl; subst e1; clear S hI1; have S := S1; clear S1; simp only [List.set_cons_zero, List.set_cons_succ, List.nil_append] at S; have hc := S.cells; simp only [Cells, cellsC, Im, Row, El, Nat.zero_add, Nat.reduceAdd] at hc) | (go_at_call 13; refine (sameR_c rs rs Aa As' ca cs' _ _ _ (S.im 0 rfl) (S.im 1 rfl) (by omega)).mono ?_; rw [decide_eq_true rfl]; rintro r w1 ⟨rfl, hx⟩; have hx := hx.ext; replace S := S.ext hx; clear hx; (try clear hc); have hc := S.cells; simp only [Cells, cellsC, Im, Row, El, Nat.zero_add, Nat.reduceAdd] at hc))
        go_roundw
        case rel => exact ⟨t + 1, by omega, by go_num, _, ⟨(S.sel [4] (by decide) rfl (by simp) : SH _ _ _ [_] _ _)⟩⟩
        case measure => simp [intOf]; omega
      · have ht3' : decide ((t : Int) < 3) = false := by simp; omega
        go_wp2_with (first | ((first | (with_reducible refine wpl_seal S ?_) | (with_reducible refine cw_seal S ?_) | (with_reducible refine bp_seal S ?_) | (with_reducible refine ca_seal S ?_)); clear S; (try clear hc); intro w1 S; (try simp only [List.set_cons_zero, List.set_cons_succ, List.nil_append] at S); have hc := S.cells; simp only [Cells, cellsC, Im, Row, El, Nat.zero_add, Nat.reduceAdd] at hc) | (go_at_call 15; refine (plives_c _ _ S.bd).mono ?_; rintro e w1 ⟨rfl, hx⟩; replace S := S.ext hx; clear hx; (try clear hc); have hc := S.cells; simp only [Cells, cellsC, Im, Row, El, Nat.zero_add, Nat.reduceAdd] at hc))
        go_ret
        exact ⟨rfl, S.out⟩
  · have h0' : decide (0 < own.length) = true := by simp; omega
    obtain ⟨j, hj⟩ : ∃ j : Nat, aroundI at' own.length = j := ⟨(aroundI at' own.length).toNat, by have := (aroundI_range (n := at') (m := (own.length : Int)) (by omega)).1; omega⟩
    have hjl : j < own.length := by have := (aroundI_range (n := at') (m := (own.length : Int)) (by omega)).2; omega
    have HJ := As.mk hj
    clear hj
    have hc := S.cells; simp only [Cells, cellsC, Im, Row, El, Nat.zero_add, Nat.reduceAdd] at hc
    go_enter Try.func3, Try.ntmps3
    go_wp2_with (first | ((first | (with_reducible refine wpl_seal S ?_) | (with_reducible refine cw_seal S ?_) | (with_reducible refine bp_seal S ?_) | (with_reducible refine ca_seal S ?_)); clear S; (try clear hc); intro w1 S; (try simp only [List.set_cons_zero, List.set_cons_succ, List.nil_append] at S); have hc := S.cells; simp only [Cells, cellsC, Im, Row, El, Nat.zero_add, Nat.reduceAdd] at hc) | (go_at_call 8; refine (few_c l A2 c2 _ _ S.bd (S.im 1 rfl) hc2 HOK.out).mono ?_; rw [HG.out]; rintro e w1 ⟨v, c', rfl, -, hu⟩; obtain ⟨I1, S1, hI1⟩ := S.new hu; clear S hu hI1; (try clear hc); have S := S1; clear S1; have hc := S.cells; simp only [Cells, cellsC, Im, Row, El, Nat.zero_add, Nat.reduceAdd] at hc; obtain ⟨Ag, cg, I1, e1, hcg, S1, hI1⟩ := S.frow 0 rfl; subst e1; clear S hI1; have S := S1; clear S1; simp only [List.set_cons_zero, List.set_cons_succ, List.nil_append] at S; have hc := S.cells; simp only [Cells, cellsC, Im, Row, El, Nat.zero_add, Nat.reduceAdd] at hc) | (go_at_call 9; refine (rbytes_c good Ag cg _ _ S.bd (S.im 0 rfl) (by omega) HM.out).mono ?_; rw [HOWN.out]; rintro e w1 ⟨v, rfl, hu⟩; obtain ⟨I1, S1, hI1⟩ := S.new hu; clear S hu hI1; (try clear hc); have S := S1; clear S1; have hc := S.cells; simp only [Cells, cellsC, Im, Row, El, Nat.zero_add, Nat.reduceAdd] at hc; obtain ⟨Ao, co, I1, e1, hco, S1, hI1⟩ := S.frow 0 rfl; subst e1; clear S hI1; have S := S1; clear S1; simp only [List.set_cons_zero, List.set_cons_succ, List.nil_append] at S; replace S := S.nilrow (k := kB); have hc := S.cells; simp only [Cells, cellsC, Im, Row, El, Nat.zero_add, Nat.reduceAdd] at hc) | ((at_builtin; refine wpl_app S 0 rfl rfl _ _ rfl ty_u8s rfl Ao co _ rfl _ (fun _ _ h => h) ((S.im 1 rfl)) (by (try simp only [maxLen, List.length_nil, List.length_append, List.length_cons]); omega) (by (try simp only [maxLen, List.length_nil, List.length_append, List.length_cons]); omega) ?_; clear S; (try clear hc); intro va w1 S; simp only [List.set_cons_zero, List.set_cons_succ, List.nil_append] at S; have hc := S.cells; simp only [Cells, cellsC, Im, Row, El, Nat.zero_add, Nat.reduceAdd] at hc); (try rw [List.nil_append] at S); obtain ⟨Av, cv, rfl, hcv, hg⟩ := (S.own 0 rfl).form; obtain ⟨g, rfl, -⟩ := hg (by rintro rfl; exact h0 rfl); have hck := (S.own 0 rfl).u8_cell hjl; have hfz := (S.own 0 rfl).not_frozen j) | (go_at_call 10; refine (around_c at' own.length _ HAT.out (by omega) (by omega)).mono ?_; rw [HJ.out]; rintro e w1 ⟨rfl, rfl⟩))
    obtain ⟨At, ct, I2, e3, hct, S2, -⟩ := S.frow 0 rfl
    rw [Value.slice.injEq] at e3
    obtain ⟨rfl, -, rfl⟩ := e3
    clear S
    have S := S2
    clear S2
    simp only [List.set_cons_zero] at S
    obtain ⟨A0, hcut0, hs0⟩ := (S.im 3 rfl).cutR ty_u8s hmb hcb
    obtain ⟨A1, hcut1, hs1⟩ := (S.im 1 rfl).cutR ty_u8s hql hco
    have htl0 : (bs.take m).length = m := by rw [List.length_take]; omega
    have htl1 : (own.take q).length = q := by rw [List.length_take]; omega
    replace S := (S.know (h := Im kB A0 (bs.take m)) hs0).know (h := Im kB A1 (own.take q)) hs1
    obtain ⟨b0, hb0⟩ : ∃ b0, bs.take m = b0 := ⟨_, rfl⟩
    obtain ⟨b2, hb2⟩ : ∃ b2, own.take q = b2 := ⟨_, rfl⟩
    rw [hb0] at S htl0
    rw [hb2] at S htl1
    have HB0 := As.mk htl0
    have HB2 := As.mk htl1
    have hqc : q ≤ co := Nat.le_trans hql hco
    clear hs0 hs1 hb0 hb2 htl0 htl1
    have hc := S.cells; simp only [Cells, cellsC, Im, Row, El, Nat.zero_add, Nat.reduceAdd] at hc
    refine wp_region_ext [⟨[1, 2, 3, 7, 8, 9, 10], [0, 4, 5, 6], 11, true⟩, ⟨[12], [], 13, false⟩] [14] (by kernel_rfl) (by kernel_rfl) ?_
    refine mix_cons rfl rfl rfl ?_
    simp only [opsAt, List.getD_cons_succ, List.getD_cons_zero]
    repeat (go_big_quiet_step ((intro hC; first | rfl | (go_simp; first | done | rfl))))
    refine wpQuiet_nil ?_
    repeat (go_big_quiet_step ((intro hC; first | rfl | (go_simp; first | done | rfl))))
    refine wpQuiet_nil ?_
    clear hc
    replace S := S.drew
    generalize w1.drew = w2 at S ⊢
    have hc := S.cells; simp only [Cells, cellsC, Im, Row, El, Nat.zero_add, Nat.reduceAdd] at hc
    go_wp2_with (first | ((first | (with_reducible refine mx_seal S ?_) | (with_reducible refine wpl_seal S ?_) | (with_reducible refine ca_seal S ?_)); clear S; (try clear hc); intro w1 S; (try simp only [List.set_cons_zero, List.set_cons_succ, List.nil_append] at S); have hc := S.cells; simp only [Cells, cellsC, Im, Row, El, Nat.zero_add, Nat.reduceAdd] at hc) | (go_at_call 10; refine (around_c cut _ _ HCUT.out (by omega) (by omega)).mono ?_; rw [HQ.out]; rintro e w1 ⟨rfl, rfl⟩))
    refine ⟨fun _ => Below.refl _ _, ?_⟩
    refine mix_cons rfl rfl rfl ?_
    simp only [opsAt, List.getD_cons_succ, List.getD_cons_zero]
    repeat (go_big_quiet_step ((intro hC; first | rfl | (go_simp; first | done | rfl))))
    refine wpQuiet_nil ?_
    repeat (go_big_quiet_step ((intro hC; first | rfl | (go_simp; first | done | rfl))))
    refine wpQuiet_nil ?_
    go_wp2_with (first | ((first | (with_reducible refine mx_seal S ?_) | (with_reducible refine wpl_seal S ?_) | (with_reducible refine ca_seal S ?_)); clear S; (try clear hc); intro w1 S; (try simp only [List.set_cons_zero, List.set_cons_succ, List.nil_append] at S); have hc := S.cells; simp only [Cells, cellsC, Im, Row, El, Nat.zero_add, Nat.reduceAdd] at hc))
    (first | refine ⟨(fun h => by cases h), ?_⟩ | skip); (first | ((first | (with_reducible refine mx_seal S ?_)); clear S; (try clear hc); intro w1 S; (try simp only [List.set_cons_zero, List.set_cons_succ, List.nil_append] at S); have hc := S.cells; simp only [Cells, cellsC, Im, Row, El, Nat.zero_add, Nat.reduceAdd] at hc) | skip); (try simp only [Act.put, List.setIfInBounds_toArray, List.set_cons_succ, List.set_cons_zero])
    refine mix_last rfl ?_
    simp only [opsAt, List.getD_cons_succ, List.getD_cons_zero]
    repeat (go_big_quiet_step ((intro hC; first | rfl | (go_simp; first | done | rfl))))
    refine wpQuiet_nil ?_
    simp only [calmQ]
    go_wp2_with (first | ((first | (with_reducible refine wpl_seal S ?_) | (with_reducible refine cw_seal S ?_) | (with_reducible refine bp_seal S ?_) | (with_reducible refine ca_seal S ?_)); clear S; (try clear hc); intro w1 S; (try simp only [List.set_cons_zero, List.set_cons_succ, List.nil_append] at S); have hc := S.cells; simp only [Cells, cellsC, Im, Row, El, Nat.zero_add, Nat.reduceAdd] at hc))
    obtain ⟨I3, S3, -⟩ := S.lit 0 rfl (k := kBB) (xs := [b0, own.set j z, b2]) (Flat.cons (cs := [_]) ⟨A0, c, by rw [HB0.out], by rw [HB0.out]; exact hmc, S.im 2 rfl⟩ (Flat.cons (cs := [_]) ⟨_, cv, by rw [List.length_set], by rw [List.length_set]; exact hcv, S.im 3 rfl⟩ (Flat.single ⟨A1, co, by rw [HB2.out], by rw [HB2.out]; exact hqc, S.im 1 rfl⟩)))
    obtain ⟨all, hall⟩ : ∃ all, [b0, own.set j z, b2] = all := ⟨_, rfl⟩
    have hal : all.length = 3 := by rw [← hall]; rfl
    have HAL : As (∀ x ∈ all, x.length ≤ 300) := ⟨by
      rw [← hall]
      intro x hx
      have h1 := HB0.out
      have h2 := HB2.out
      have h3 : (own.set j z).length = own.length := List.length_set
      simp only [List.mem_cons, List.not_mem_nil, or_false] at hx
      rcases hx with rfl | rfl | rfl <;> omega⟩
    rw [hall] at S3
    clear S hc hall
    obtain ⟨ga, hga⟩ : ∃ ga, w2.heap.size = ga := ⟨_, rfl⟩
    rw [hga] at S3 ⊢
    have S1 := S3.sel [0] (L' := [_]) (by decide) rfl (by simp)
    clear S3 hga
    go_loopw [17] (fun i w' => ∃ (t : Nat), t ≤ 3 ∧ i = .int .i64 t ∧ ∃ I', As (SH No I w [Im kBB (some ⟨ga, 0, none⟩) all] w' I')) (fun i _ => 3 - (intOf i).toNat)
    case atStart => exact ⟨0, by omega, rfl, _, ⟨S1⟩⟩
    case round =>
      clear S1
      obtain ⟨t, ht, rfl, I', ⟨S⟩⟩ := hrel
      by_cases ht3 : t < 3
      · have ht3' : decide ((t : Int) < 3) = true := by simp; omega
        have hta : t < all.length := by omega
        obtain ⟨b', o', Ax, cx, e, hcx, hlx, hsx⟩ := (S.im 0 rfl).sl_at hta
        cases e
        have hx3 := HAL.out _ (List.getElem_mem hta)
        replace S := S.know (h := Im kB Ax all[t]) hsx
        clear hsx
        generalize all[t] = xs at S hcx hlx hx3
        obtain ⟨rs, n, e, hR⟩ : ∃ rs n e, readB xs = (rs, n, e) := ⟨_, _, _, rfl⟩
        have HR := As.mk hR
        have hrl : rs.length ≤ 1000 := by have := readB_len xs; rw [hR] at this; simp only at this; omega
        clear hR
        rw [Nat.zero_add] at hcx
        have hc := S.cells; simp only [Cells, cellsC, Im, Row, El, Nat.zero_add, Nat.reduceAdd] at hc
        go_wp2_with (first | ((first | (with_reducible refine wpl_seal S ?_) | (with_reducible refine cw_seal S ?_) | (with_reducible refine bp_seal S ?_) | (with_reducible refine ca_seal S ?_)); clear S; (try clear hc); intro w1 S; (try simp only [List.set_cons_zero, List.set_cons_succ, List.nil_append] at S); have hc := S.cells; simp only [Cells, cellsC, Im, Row, El, Nat.zero_add, Nat.reduceAdd] at hc) | (go_at_call 11; refine (read_c xs Ax cx _ _ S.bd (S.im 0 rfl) hlx (by omega)).mono ?_; rw [HR.out]; rintro r w1 ⟨v, rfl, hu⟩; have hx := hu.ext; obtain ⟨I1, S1, hI1⟩ := S.new hu; clear S hu hI1; (try clear hc); have S := S1; clear S1; have hc := S.cells; simp only [Cells, cellsC, Im, Row, El, Nat.zero_add, Nat.reduceAdd] at hc; obtain ⟨Ar, cr, I1, e1, hcr, S1, hI1⟩ := S.frow 0 rfl; subst e1; clear S hI1; have S := S1; clear S1; simp only [List.set_cons_zero, List.set_cons_succ, List.nil_append] at S; have hcx := hx.cell hcx; clear hx; have hc := S.cells; simp only [Cells, cellsC, Im, Row, El, Nat.zero_add, Nat.reduceAdd] at hc) | (go_at_call 12; refine (rread_c xs Ax cx _ _ S.bd (S.im 1 rfl) hlx (by omega)).mono ?_; rw [HR.out]; rintro r w1 ⟨v, rfl, hu⟩; obtain ⟨I1, S1, hI1⟩ := S.new hu; clear S hu hI1; (try clear hc); have S := S1; clear S1; have hc := S.cells; simp only [Cells, cellsC, Im, Row, El, Nat.zero_add, Nat.reduceAdd] at hc; obtain ⟨As', cs', I1, e1, hcs', S1, hI1⟩ := S.frow 0 rfl; subst e1; clear S hI1; have S := S1; clear S1; simp only [List.set_cons_zero, List.set_cons_succ, List.nil_append] at S; have hc := S.cells; simp only [Cells, cellsC, Im, Row, El, Nat.zero_add, Nat.reduceAdd] at hc) | (go_at_call 14; refine (as_c rs Ar cr _ _ S.bd (S.im 1 rfl) hrl).mono ?_; rintro r w1 ⟨v, rfl, hu⟩; obtain ⟨I1, S1, hI1⟩ := S.new hu; clear S hu hI1; (try clear hc); have S := S1; clear S1; have hc := S.cells; simp only [Cells, cellsC, Im, Row, El, Nat.zero_add, Nat.reduceAdd] at hc; obtain ⟨Aa, ca, I1, e1, hca, S1, hI1⟩ := S.frow 0 rfl; subst e1; clear S hI1; have S := S1; clear S1; simp only [List.set_cons_zero, List.set_cons_succ, List.nil_append] at S; have hc := S.cells; simp only [Cells, cellsC, Im, Row, El, Nat.zero_add, Nat.reduceAdd] at hc) | (go_at_call 13; refine (sameR_c rs rs Aa As' ca cs' _ _ _ (S.im 0 rfl) (S.im 1 rfl) (by omega)).mono ?_; rw [decide_eq_true rfl]; rintro r w1 ⟨rfl, hx⟩; have hx := hx.ext; replace S := S.ext hx; clear hx; (try clear hc); have hc := S.cells; simp only [Cells, cellsC, Im, Row, El, Nat.zero_add, Nat.reduceAdd] at hc))
        go_roundw
        case rel => exact ⟨t + 1, by omega, by go_num, _, ⟨(S.sel [4] (by decide) rfl (by simp) : SH _ _ _ [_] _ _)⟩⟩
        case measure => simp [intOf]; omega
      · have ht3' : decide ((t : Int) < 3) = false := by simp; omega
        go_wp2_with (first | ((first | (with_reducible refine wpl_seal S ?_) | (with_reducible refine cw_seal S ?_) | (with_reducible refine bp_seal S ?_) | (with_reducible refine ca_seal S ?_)); clear S; (try clear hc); intro w1 S; (try simp only [List.set_cons_zero, List.set_cons_succ, List.nil_append] at S); have hc := S.cells; simp only [Cells, cellsC, Im, Row, El, Nat.zero_add, Nat.reduceAdd] at hc) | (go_at_call 15; refine (plives_c _ _ S.bd).mono ?_; rintro e w1 ⟨rfl, hx⟩; replace S := S.ext hx; clear hx; (try clear hc); have hc := S.cells; simp only [Cells, cellsC, Im, Row, El, Nat.zero_add, Nat.reduceAdd] at hc))
        go_ret
        exact ⟨rfl, S.out⟩
end Go.Proofs.Yteaekpnmiicbhaa
