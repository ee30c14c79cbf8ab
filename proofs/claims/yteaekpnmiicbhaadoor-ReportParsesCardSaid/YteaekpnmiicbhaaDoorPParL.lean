/- ReportParses: the law's walk. -/
import Derived.Test.YteaekpnmiicbhaaDoorPTextL
import Derived.Test.YteaekpnmiicbhaaDoorPGPa
import Derived.Test.YteaekpnmiicbhaaDoorPFew
import Derived.Deep.DeepCutAuto
namespace Go.Proofs.YteaekpnmiicbhaaDoor
open Go.RowKit X
set_option maxHeartbeats 4000000
set_option maxRecDepth 8000
set_option linter.unusedSimpArgs false
set_option linter.unusedVariables false
section
variable {F0 I0 : Fp} {w0 w : World} {L : List Ob} {I : Fp} {α : Type} {k : Kd α} {xs : List α} {g : Nat}
/-- one block of cells as a row that may grow -/
theorem X.SH.celRow (s : SH F0 I0 w0 L w I) (i : Nat) {cells : List Value} (e : L[i]? = some (Cel g k.ety cells)) (hf : Flat k w I xs cells) (hm : xs.length ≤ 1000000) : SH F0 I0 w0 (L.set i (Row k (.slice (some ⟨g, 0, none⟩) xs.length xs.length) xs)) w I :=
  s.updI i e (h' := Row k (.slice (some ⟨g, 0, none⟩) xs.length xs.length) xs) fun F ⟨hh, hF⟩ hb =>
    ⟨F, ⟨⟨cells, ⟨⟨hf.1, .inr ⟨g, xs.length, cells.toArray, rfl, Nat.zero_le _, hh, Nat.le_refl _, by unfold maxLen; omega, by rw [List.size_toArray]; exact hf.1, by rw [List.take_of_length_le (by rw [hf.1]; exact Nat.le_refl _)]⟩⟩, fun b hb' => by cases hb'; exact (hb _ hF).2⟩, hf⟩, fun b hb' => by cases hb'; exact hF⟩, fun b hb' => ⟨(hb b hb').1, .inl hb'⟩, Chg.refl _ _⟩
end
theorem cut_hi (zs : List UInt8) (k : Nat) (h : k ≤ zs.length) (W : World) : (Instr.sliceAt 9 (strV zs) none (some (.int .i64 (k : Int))) none).run Tryd.prog W = .ok (strV (zs.take k)) W := by
  have hz : (⟨zs.toArray⟩ : ByteArray).size = zs.length := by show zs.toArray.size = _; simp
  have hex : (⟨zs.toArray⟩ : ByteArray).extract 0 k = ⟨(zs.take k).toArray⟩ := by
    rw [Lib.extract_eq]
    rfl
  rw [run_sliceAt_string (h := Tryd.underlying9), run_slice_string_h (ht := Tryd.underlying9) (h0 := by omega) (h2 := by rw [hz]; omega), show ((k : Int)).toNat = k by omega, hex]
theorem cut_lo (zs : List UInt8) (k : Nat) (h : k ≤ zs.length) (W : World) : (Instr.sliceAt 9 (strV zs) (some (.int .i64 (k : Int))) none none).run Tryd.prog W = .ok (strV (zs.drop k)) W := by
  have hz : (⟨zs.toArray⟩ : ByteArray).size = zs.length := by show zs.toArray.size = _; simp
  have hex : (⟨zs.toArray⟩ : ByteArray).extract k (⟨zs.toArray⟩ : ByteArray).size = ⟨(zs.drop k).toArray⟩ := by
    rw [Lib.extract_eq, hz]
    congr 1
    show ((zs.drop k).take (zs.length - k)).toArray = _
    rw [List.take_of_length_le (by rw [List.length_drop]; exact Nat.le_refl _)]
  rw [run_sliceAt_string (h := Tryd.underlying9), run_slice_string_l (ht := Tryd.underlying9) (h0 := by omega) (h1 := by rw [hz]; omega), show ((k : Int)).toNat = k by omega, hex]
theorem goP_len : ∀ (ws : List (List UInt8)) (i : Nat) (out : List R5), (goP ws i out).1.length ≤ out.length + ws.length
  | [], i, out => Nat.le_refl _
  | p :: r, i, out => by
    unfold goP
    split
    · split <;> simp
    · split
      · simp
      · have := goP_len r (i + 1) (out ++ [(lineR p).1])
        rw [List.length_append] at this
        simp only [List.length_cons, List.length_nil] at this ⊢
        omega
theorem textP_len (zs : List UInt8) : (textP zs).1.length ≤ zs.length + 1 := by
  have h1 := goP_len (spl 10 zs) 0 []
  have h2 := spl_len 10 zs
  unfold textP
  simp only [List.length_nil] at h1
  omega
theorem lparses_c (str : ByteArray) (l : List R5) (at' : Int) (z : UInt8) (cut : Int) (A : Option Addr) (c : Nat) (w : World) (I : Fp) (hI : ∀ b, I b → b < w.heap.size) (hs : str.size ≤ maxLen) (hl : Sl kR w I A l) (hc0 : l.length ≤ c) (hok : ∀ x ∈ l, x.ok) (hat : I64 at') (hcut : I64 cut) {mx : Int} (hm : w.cell? ⟨0, 0, none⟩ = some (.int .i64 mx)) (hI0 : I 0) :
    Calls Tryd.prog 4 #[.string str, .slice A l.length c, .int .i64 at', .int .u8 z.toNat, .int .i64 cut] w fun e w' => e = .returned (.bool true) ∧ Ext w w' := by
  obtain ⟨zs, rfl⟩ : ∃ zs : List UInt8, str = ⟨zs.toArray⟩ := ⟨str.data.toList, by cases str; simp⟩
  have hzs : zs.length ≤ 9223372036854775807 := by
    have h : zs.toArray.size ≤ maxLen := hs
    rw [List.size_toArray] at h
    unfold maxLen at h
    omega
  have S := ((SH.start w I hI).know (h := CF 0 0 (.int .i64 mx)) ⟨hm, hI0⟩).know (h := Im kR A l) hl
  have HOK := As.mk hok
  have HAT := As.mk hat
  have HCUT := As.mk hcut
  have HZS := As.mk hzs
  clear hl hok hm hat hcut hs hzs
  obtain ⟨good, hgood⟩ : ∃ good, (few6 l).map goodR = good := ⟨_, rfl⟩
  have HG := As.mk hgood
  have hgl : good.length ≤ 6 := by rw [← hgood, List.length_map]; exact few6_len l
  have hodd : oddR good = false := by rw [← hgood]; exact good_odd l
  have HE : As (errT good = 0) := ⟨by unfold errT; rw [hodd]; rfl⟩
  obtain ⟨t, ht⟩ : ∃ t, outT good = t := ⟨_, rfl⟩
  have htl : t.length ≤ 606 := by rw [← ht]; exact outT_le good hgl
  have HT := As.mk ht
  clear hgood hodd ht
  obtain ⟨q, hq⟩ : ∃ q : Nat, aroundI cut (t.length + 1 : Nat) = q := ⟨(aroundI cut (t.length + 1 : Nat)).toNat, by have := (aroundI_range (n := cut) (m := ((t.length + 1 : Nat) : Int)) (by omega)).1; omega⟩
  have hql : q ≤ t.length := by have := (aroundI_range (n := cut) (m := ((t.length + 1 : Nat) : Int)) (by omega)).2; omega
  have HQ : As (aroundI cut ((t.length : Int) + 1) = q) := ⟨hq⟩
  have hcu := cut_hi t q hql
  obtain ⟨tq, htq⟩ : ∃ tq, t.take q = tq := ⟨_, rfl⟩
  have htql : tq.length ≤ 606 := by rw [← htq, List.length_take]; omega
  rw [htq] at hcu
  obtain ⟨zf, hzf⟩ : ∃ zf, zs.take 80 = zf := ⟨_, rfl⟩
  have hzfl : zf.length ≤ 80 := by rw [← hzf, List.length_take]; omega
  have HZF := As.mk hzf
  clear hq htq hzf
  have hsl := strLen_strV t
  have hc := S.cells; simp only [Cells, cellsC, Im, Row, El, CF, Nat.zero_add, Nat.reduceAdd] at hc
  go_enter Tryd.func4, Tryd.ntmps4
  go_upto_if 47 with (first | ((first | (with_reducible refine wpl_seal S ?_) | (with_reducible refine cw_seal S ?_) | (with_reducible refine bp_seal S ?_) | (with_reducible refine ca_seal S ?_)); clear S; (try clear hc); intro w1 S; (try simp only [List.set_cons_zero, List.set_cons_succ, List.nil_append] at S); have hc := S.cells; simp only [Cells, cellsC, Im, Row, El, CF, Nat.zero_add, Nat.reduceAdd] at hc) | (go_at_call 6; refine (few_c l A c _ _ S.bd (S.im 0 rfl) hc0 HOK.out).mono ?_; rw [HG.out]; rintro e w1 ⟨v, c', rfl, -, hu⟩; obtain ⟨I1, S1, hI1⟩ := S.new hu; clear S hu hI1; (try clear hc); have S := S1; clear S1; have hc := S.cells; simp only [Cells, cellsC, Im, Row, El, CF, Nat.zero_add, Nat.reduceAdd] at hc; obtain ⟨Ag, cg, I1, e1, hcg, S1, hI1⟩ := S.frow 0 rfl; subst e1; clear S hI1; have S := S1; clear S1; simp only [List.set_cons_zero, List.set_cons_succ, List.nil_append] at S; have hc := S.cells; simp only [Cells, cellsC, Im, Row, El, CF, Nat.zero_add, Nat.reduceAdd] at hc) | (go_at_call 9; refine (gtext_e good Ag cg _ _ S.bd (S.im 0 rfl) (by omega)).mono ?_; rw [HT.out, HE.out]; rintro e w1 ⟨rfl, hx⟩; replace S := S.ext hx; clear hx; (try clear hc); have hc := S.cells; simp only [Cells, cellsC, Im, Row, El, CF, Nat.zero_add, Nat.reduceAdd] at hc) | (go_at_call 16; refine (gfew_c zs HZS.out _).mono ?_; rw [HZF.out]; rintro e w1 ⟨rfl, rfl⟩) | (go_at_call 17; refine (around_c cut _ _ HCUT.out (by omega) (by omega)).mono ?_; rw [HQ.out]; rintro e w1 ⟨rfl, rfl⟩))
  obtain ⟨ga, ega⟩ := S.name 0 rfl; rw [← ega] at S ⊢; clear ega
  replace S := ((S.sel [0, 3] (by decide) rfl (by simp) : SH _ _ _ [_, _] _ _) : SH _ _ _ [_, _] _ _)
  replace S := S.celRow 0 (k := kT) (xs := [zf, t, tq]) rfl (flat_str _) (by simp)
  obtain ⟨xs, hxs⟩ : ∃ xs, [zf, t, tq] = xs := ⟨_, rfl⟩
  have hxl : xs.length = 3 := by rw [← hxs]; rfl
  have HXS : As (∀ x ∈ xs, x.length ≤ 700) := ⟨by
    rw [← hxs]
    intro x hx
    simp only [List.mem_cons, List.not_mem_nil, or_false] at hx
    rcases hx with rfl | rfl | rfl <;> omega⟩
  rw [hxs] at S
  clear hxs hc
  simp only [List.set_cons_zero] at S
  obtain ⟨Ax, cx, ex, hcx, -⟩ := (S.own 0 rfl).form
  cases ex
  rw [hxl] at S
  go_cut [15] (fun v w' => ∃ (ys : List (List UInt8)) (Av : Option Addr) (cv : Nat) (J : Fp), v = .slice Av ys.length cv ∧ ys.length ≤ 4 ∧ As (∀ x ∈ ys, x.length ≤ 700) ∧ As (SH No I w [Im kT Av ys, CF 0 0 (.int .i64 mx)] w' J))
  case first =>
    by_cases h0 : t.length = 0
    · have h0' : decide (0 < t.length) = false := decide_eq_false (by omega)
      go_wp2_with (first | ((first | (with_reducible refine wpl_seal S ?_) | (with_reducible refine cw_seal S ?_) | (with_reducible refine bp_seal S ?_) | (with_reducible refine ca_seal S ?_)); clear S; (try clear hc); intro w1 S; (try simp only [List.set_cons_zero, List.set_cons_succ, List.nil_append] at S); have hc := S.cells; simp only [Cells, cellsC, Im, Row, El, CF, Nat.zero_add, Nat.reduceAdd] at hc))
      obtain ⟨Aq, cq, I2, e3, hcq, S2, -⟩ := S.frow 0 rfl
      rw [hxl, Value.slice.injEq] at e3
      obtain ⟨rfl, -, rfl⟩ := e3
      clear S
      have S := S2
      clear S2
      simp only [List.set_cons_zero] at S
      go_meet
      case rel => exact ⟨xs, _, _, _, by rw [hxl], by omega, HXS, ⟨S⟩⟩
    · have h0' : decide (0 < t.length) = true := decide_eq_true (by omega)
      obtain ⟨j, hj⟩ : ∃ j : Nat, aroundI at' t.length = j := ⟨(aroundI at' t.length).toNat, by have := (aroundI_range (n := at') (m := (t.length : Int)) (by omega)).1; omega⟩
      have hjl : j < t.length := by have := (aroundI_range (n := at') (m := (t.length : Int)) (by omega)).2; omega
      have HJ := As.mk hj
      clear hj
      go_upto_region 6 with (first | ((first | (with_reducible refine wpl_seal S ?_) | (with_reducible refine cw_seal S ?_) | (with_reducible refine bp_seal S ?_) | (with_reducible refine ca_seal S ?_)); clear S; (try clear hc); intro w1 S; (try simp only [List.set_cons_zero, List.set_cons_succ, List.nil_append] at S); have hc := S.cells; simp only [Cells, cellsC, Im, Row, El, CF, Nat.zero_add, Nat.reduceAdd] at hc) | (go_at_call 17; refine (around_c at' _ _ HAT.out (by omega) (by omega)).mono ?_; rw [HJ.out]; rintro e w1 ⟨rfl, rfl⟩))
      have hhi := cut_hi t j (by omega)
      have hlo := cut_lo t (j + 1) (by omega)
      rw [Int.natCast_add, Int.natCast_one] at hlo
      obtain ⟨u, hu⟩ : ∃ u, t.take j = u := ⟨_, rfl⟩
      obtain ⟨v, hv⟩ : ∃ v, t.drop (j + 1) = v := ⟨_, rfl⟩
      have hul : u.length = j := by rw [← hu, List.length_take]; omega
      have hvl : v.length ≤ 606 := by rw [← hv, List.length_drop]; omega
      rw [hu] at hhi
      rw [hv] at hlo
      have hst1 := str_app u [z]
      have hst2 := str_app (u ++ [z]) v
      obtain ⟨uz, huz⟩ : ∃ uz, u ++ [z] = uz := ⟨_, rfl⟩
      have huzl : uz.length ≤ 607 := by rw [← huz, List.length_append]; simp; omega
      obtain ⟨m, hm⟩ : ∃ m, uz ++ v = m := ⟨_, rfl⟩
      rw [huz] at hst1 hst2
      rw [hm] at hst2
      have hml : As (m.length ≤ 700) := ⟨by rw [← hm, List.length_append]; have : uz.length + v.length = t.length := by { rw [← huz, ← hu, ← hv]; simp; omega }; omega⟩
      have hul2 : u.length ≤ 606 := by omega
      clear hu hv huz hm hul
      refine wp_region_ext [⟨[4], [0, 1, 2, 3, 8, 9, 10, 11], 5, false⟩, ⟨[6, 7, 12], [], 13, false⟩, ⟨[], [], 14, false⟩] [15] (by kernel_rfl) (by kernel_rfl) ?_
      refine mix_cons rfl rfl rfl ?_
      simp only [opsAt, List.getD_cons_succ, List.getD_cons_zero]
      repeat (go_big_quiet_step ((intro hC; first | rfl | (go_simp; first | done | rfl))))
      refine wpQuiet_nil ?_
      repeat (go_big_quiet_step ((intro hC; first | rfl | (go_simp; first | done | rfl))))
      refine wpQuiet_nil ?_
      clear hc
      replace S := S.drew
      generalize w1.drew = w2 at S ⊢
      have hc := S.cells; simp only [Cells, cellsC, Im, Row, El, CF, Nat.zero_add, Nat.reduceAdd] at hc
      go_wp2_with (first | ((first | (with_reducible refine mx_seal S ?_) | (with_reducible refine wpl_seal S ?_) | (with_reducible refine ca_seal S ?_)); clear S; (try clear hc); intro w1 S; (try simp only [List.set_cons_zero, List.set_cons_succ, List.nil_append] at S); have hc := S.cells; simp only [Cells, cellsC, Im, Row, El, CF, Nat.zero_add, Nat.reduceAdd] at hc))
      (first | refine ⟨(fun h => by cases h), ?_⟩ | skip); (first | ((first | (with_reducible refine mx_seal S ?_)); clear S; (try clear hc); intro w1 S; (try simp only [List.set_cons_zero, List.set_cons_succ, List.nil_append] at S); have hc := S.cells; simp only [Cells, cellsC, Im, Row, El, CF, Nat.zero_add, Nat.reduceAdd] at hc) | skip); (try simp only [Act.put, List.setIfInBounds_toArray, List.set_cons_succ, List.set_cons_zero])
      obtain ⟨gz, egz⟩ := S.name 0 rfl; rw [← egz] at S ⊢; clear egz
      have hcv : ∀ x, ClE w1 x → (convert 49 9 (.slice (some ⟨gz, 0, none⟩) 1 1)).run Tryd.prog x = .ok (strV [z]) x := fun x hx => conv_one rfl (ClE.cell (S.cell 0 0 rfl rfl) x hx) 1
      refine mix_cons rfl rfl rfl ?_
      simp only [opsAt, List.getD_cons_succ, List.getD_cons_zero]
      repeat (go_big_quiet_step ((intro hC; first | rfl | (go_simp; first | done | rfl))))
      refine wpQuiet_nil ?_
      repeat (go_big_quiet_step ((intro hC; first | rfl | (go_simp; first | done | rfl))))
      refine wpQuiet_nil ?_
      go_wp2_with (first | ((first | (with_reducible refine mx_seal S ?_) | (with_reducible refine wpl_seal S ?_) | (with_reducible refine ca_seal S ?_)); clear S; (try clear hc); intro w1 S; (try simp only [List.set_cons_zero, List.set_cons_succ, List.nil_append] at S); have hc := S.cells; simp only [Cells, cellsC, Im, Row, El, CF, Nat.zero_add, Nat.reduceAdd] at hc))
      (first | refine ⟨(fun h => by cases h), ?_⟩ | skip); (first | ((first | (with_reducible refine mx_seal S ?_)); clear S; (try clear hc); intro w1 S; (try simp only [List.set_cons_zero, List.set_cons_succ, List.nil_append] at S); have hc := S.cells; simp only [Cells, cellsC, Im, Row, El, CF, Nat.zero_add, Nat.reduceAdd] at hc) | skip); (try simp only [Act.put, List.setIfInBounds_toArray, List.set_cons_succ, List.set_cons_zero])
      obtain ⟨gm, egm⟩ := S.name 0 rfl; rw [← egm] at S ⊢; clear egm
      have hc := S.cells; simp only [Cells, cellsC, Im, Row, El, CF, Nat.zero_add, Nat.reduceAdd] at hc
      refine mix_cons rfl rfl rfl ?_
      simp only [opsAt, List.getD_cons_succ, List.getD_cons_zero]
      repeat (go_big_quiet_step ((intro hC; first | rfl | (go_simp; first | done | rfl))))
      refine wpQuiet_nil ?_
      repeat (go_big_quiet_step ((intro hC; first | rfl | (go_simp; first | done | rfl))))
      refine wpQuiet_nil ?_
      go_wp2_with (first | ((first | (with_reducible refine mx_seal S ?_) | (with_reducible refine wpl_seal S ?_) | (with_reducible refine ca_seal S ?_)); clear S; (try clear hc); intro w1 S; (try simp only [List.set_cons_zero, List.set_cons_succ, List.nil_append] at S); have hc := S.cells; simp only [Cells, cellsC, Im, Row, El, CF, Nat.zero_add, Nat.reduceAdd] at hc) | (at_builtin; refine wpl_push S 2 rfl rfl _ _ rfl ty_strs rfl m _ _ rfl [_] _ (S.cel 0 rfl) rfl (by (try simp only [maxLen, List.length_nil, List.length_append, List.length_cons]); omega) (by (try simp only [maxLen, List.length_nil, List.length_append, List.length_cons]); omega) ?_; clear S; (try clear hc); intro va w1 S; simp only [List.set_cons_zero, List.set_cons_succ, List.nil_append] at S; have hc := S.cells; simp only [Cells, cellsC, Im, Row, El, CF, Nat.zero_add, Nat.reduceAdd] at hc))
      (first | refine ⟨(fun h => by cases h), ?_⟩ | skip); (first | ((first | (with_reducible refine mx_seal S ?_)); clear S; (try clear hc); intro w1 S; (try simp only [List.set_cons_zero, List.set_cons_succ, List.nil_append] at S); have hc := S.cells; simp only [Cells, cellsC, Im, Row, El, CF, Nat.zero_add, Nat.reduceAdd] at hc) | skip); (try simp only [Act.put, List.setIfInBounds_toArray, List.set_cons_succ, List.set_cons_zero])
      refine mix_last rfl ?_
      simp only [opsAt, List.getD_cons_succ, List.getD_cons_zero]
      repeat (go_big_quiet_step ((intro hC; first | rfl | (go_simp; first | done | rfl))))
      refine wpQuiet_nil ?_
      simp only [calmQ]
      go_wp2_with (first | ((first | (with_reducible refine wpl_seal S ?_) | (with_reducible refine cw_seal S ?_) | (with_reducible refine bp_seal S ?_) | (with_reducible refine ca_seal S ?_)); clear S; (try clear hc); intro w1 S; (try simp only [List.set_cons_zero, List.set_cons_succ, List.nil_append] at S); have hc := S.cells; simp only [Cells, cellsC, Im, Row, El, CF, Nat.zero_add, Nat.reduceAdd] at hc))
      obtain ⟨Aq, cq, I1, e1, hcq, S1, hI1⟩ := S.frow 2 rfl; subst e1; clear S hI1; have S := S1; clear S1; simp only [List.set_cons_zero, List.set_cons_succ, List.nil_append] at S
      have HL : As ((xs ++ [m]).length = 4) := ⟨by rw [List.length_append, hxl]; rfl⟩
      go_meet
      case rel => exact ⟨xs ++ [m], _, _, _, by first | rfl | (rw [HL.out]), Nat.le_of_eq HL.out, ⟨fun x hx => by
        rcases List.mem_append.1 hx with hx | hx
        · exact HXS.out x hx
        · rw [List.mem_singleton] at hx; subst hx; exact hml.out⟩, ⟨(S.sel [2, 3] (by decide) rfl (by simp) : SH _ _ _ [_, _] _ _)⟩⟩
  case rest =>
    clear S
    obtain ⟨ys, Av, cv, J, rfl, hyl, HYS, ⟨S⟩⟩ := hcut
    go_wp2_with (first | ((first | (with_reducible refine wpl_seal S ?_) | (with_reducible refine cw_seal S ?_) | (with_reducible refine bp_seal S ?_) | (with_reducible refine ca_seal S ?_)); clear S; (try clear hc); intro w1 S; (try simp only [List.set_cons_zero, List.set_cons_succ, List.nil_append] at S); have hc := S.cells; simp only [Cells, cellsC, Im, Row, El, CF, Nat.zero_add, Nat.reduceAdd] at hc))
    go_loopw [17] (fun iv w' => ∃ (k : Nat) (J : Fp), iv = .int .i64 k ∧ k ≤ ys.length ∧ As (SH No I w [Im kT Av ys, CF 0 0 (.int .i64 mx)] w' J)) (fun i _ => ys.length - (intOf i).toNat)
    case atStart => exact ⟨0, _, rfl, by omega, ⟨S⟩⟩
    case round =>
      clear S
      obtain ⟨k, J', rfl, hk, ⟨S⟩⟩ := hrel
      by_cases hlt : k < ys.length
      · have hlt' : decide ((k : Int) < ys.length) = true := decide_eq_true (by omega)
        obtain ⟨b, o, rfl, hcx⟩ := (S.im 0 rfl).str_at hlt
        have hpl := HYS.out _ (List.getElem_mem hlt)
        generalize ys[k] = p at hcx hpl
        obtain ⟨rs, n, er, hR⟩ : ∃ rs n er, textP p = (rs, n, er) := ⟨_, _, _, rfl⟩
        have HR := As.mk hR
        have hrl : rs.length ≤ 701 := by have := textP_len p; rw [hR] at this; simp only at this; omega
        clear hR
        have hcx0 := hcx
        have hc := S.cells; simp only [Cells, cellsC, Im, Row, El, CF, Nat.zero_add, Nat.reduceAdd] at hc
        go_wp2_with (first | ((first | (with_reducible refine wpl_seal S ?_) | (with_reducible refine cw_seal S ?_) | (with_reducible refine bp_seal S ?_) | (with_reducible refine ca_seal S ?_)); clear S; (try clear hc); intro w1 S; (try simp only [List.set_cons_zero, List.set_cons_succ, List.nil_append] at S); have hc := S.cells; simp only [Cells, cellsC, Im, Row, El, CF, Nat.zero_add, Nat.reduceAdd] at hc) | (go_at_call 10; refine (pparse_c p (by omega) _ _ S.bd (S.cf 1 rfl) (S.cfI 1 rfl) HR.out).mono ?_; rintro r w1 ⟨v, rfl, hu⟩; have hx := hu.ext; obtain ⟨I1, S1, hI1⟩ := S.new hu; clear S hu hI1; (try clear hc); have S := S1; clear S1; have hc := S.cells; simp only [Cells, cellsC, Im, Row, El, CF, Nat.zero_add, Nat.reduceAdd] at hc; obtain ⟨Ar, cr, I1, e1, hcr, S1, hI1⟩ := S.frow 0 rfl; subst e1; clear S hI1; have S := S1; clear S1; simp only [List.set_cons_zero, List.set_cons_succ, List.nil_append] at S; replace hcx := hx.cell hcx; clear hx; have hc := S.cells; simp only [Cells, cellsC, Im, Row, El, CF, Nat.zero_add, Nat.reduceAdd] at hc) | (go_at_call 18; refine (gpars_c p (by omega) _ _ S.bd HR.out).mono ?_; rintro r w1 ⟨v, rfl, hu⟩; obtain ⟨I1, S1, hI1⟩ := S.new hu; clear S hu hI1; (try clear hc); have S := S1; clear S1; have hc := S.cells; simp only [Cells, cellsC, Im, Row, El, CF, Nat.zero_add, Nat.reduceAdd] at hc; obtain ⟨As', cs', I1, e1, hcs', S1, hI1⟩ := S.frow 0 rfl; subst e1; clear S hI1; have S := S1; clear S1; simp only [List.set_cons_zero, List.set_cons_succ, List.nil_append] at S; have hc := S.cells; simp only [Cells, cellsC, Im, Row, El, CF, Nat.zero_add, Nat.reduceAdd] at hc) | (go_at_call 14; refine (as_c rs Ar cr _ _ S.bd (S.im 1 rfl) (by omega)).mono ?_; rintro r w1 ⟨v, rfl, hu⟩; obtain ⟨I1, S1, hI1⟩ := S.new hu; clear S hu hI1; (try clear hc); have S := S1; clear S1; have hc := S.cells; simp only [Cells, cellsC, Im, Row, El, CF, Nat.zero_add, Nat.reduceAdd] at hc; obtain ⟨Aa, ca, I1, e1, hca, S1, hI1⟩ := S.frow 0 rfl; subst e1; clear S hI1; have S := S1; clear S1; simp only [List.set_cons_zero, List.set_cons_succ, List.nil_append] at S; have hc := S.cells; simp only [Cells, cellsC, Im, Row, El, CF, Nat.zero_add, Nat.reduceAdd] at hc) | (go_at_call 13; refine (sameR_c rs rs Aa As' ca cs' _ _ _ (S.im 0 rfl) (S.im 1 rfl) (by omega)).mono ?_; rw [decide_eq_true rfl]; rintro r w1 ⟨rfl, hx⟩; have hx := hx.ext; replace S := S.ext hx; clear hx; (try clear hc); have hc := S.cells; simp only [Cells, cellsC, Im, Row, El, CF, Nat.zero_add, Nat.reduceAdd] at hc))
        go_roundw
        case rel => exact ⟨k + 1, _, by go_num, by omega, ⟨(S.sel [3, 4] (by decide) rfl (by simp) : SH _ _ _ [_, _] _ _)⟩⟩
        case measure => simp [intOf]; omega
      · have hlt' : decide ((k : Int) < ys.length) = false := decide_eq_false (by omega)
        go_wp2_with (first | ((first | (with_reducible refine wpl_seal S ?_) | (with_reducible refine cw_seal S ?_) | (with_reducible refine bp_seal S ?_) | (with_reducible refine ca_seal S ?_)); clear S; (try clear hc); intro w1 S; (try simp only [List.set_cons_zero, List.set_cons_succ, List.nil_append] at S); have hc := S.cells; simp only [Cells, cellsC, Im, Row, El, CF, Nat.zero_add, Nat.reduceAdd] at hc) | (go_at_call 15; refine (plives_c _ _ S.bd).mono ?_; rintro e w1 ⟨rfl, hx⟩; replace S := S.ext hx; clear hx; (try clear hc); have hc := S.cells; simp only [Cells, cellsC, Im, Row, El, CF, Nat.zero_add, Nat.reduceAdd] at hc))
        go_ret
        exact ⟨rfl, S.out⟩
end Go.Proofs.YteaekpnmiicbhaaDoor
