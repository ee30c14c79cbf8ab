/- ReportSorts: the law's walk. -/
import Derived.Test.YteaekpnmiicbhaaPLaw
import Derived.Test.YteaekpnmiicbhaaPLiv
namespace Go.Proofs.Yteaekpnmiicbhaa
open Go.RowKit X
set_option maxHeartbeats 4000000
set_option maxRecDepth 8000
set_option linter.unusedSimpArgs false
set_option linter.unusedVariables false
theorem half_cut {w : World} {D : Fp} {A : Option Addr} {raw : List R5} {c : Nat} (h : Sl kR w D A raw) (hc : raw.length ≤ c) : ∃ A', (∀ W, (Instr.sliceAt 23 (.slice A raw.length c) none (some (.int .i64 ((raw.length : Int) / 2))) none).run Try.prog W = .ok (.slice A' (raw.take (raw.length / 2)).length c) W) ∧ Sl kR w D A' (raw.take (raw.length / 2)) := by
  obtain ⟨A', h1, h2⟩ := h.cutR ty_r5s (l := raw.length / 2) (c := c) (by omega) hc
  refine ⟨A', fun W => ?_, h2⟩
  have e : (raw.length : Int) / 2 = ((raw.length / 2 : Nat) : Int) := by omega
  rw [e, h1 W, List.length_take, Nat.min_eq_left (by omega)]
theorem lsorts_c (l : List R5) (A : Option Addr) (c : Nat) (w : World) (I : Fp) (hI : ∀ b, I b → b < w.heap.size) (hl : Sl kR w I A l) (hc0 : l.length ≤ c) (hok : ∀ x ∈ l, x.ok) :
    Calls Try.prog 6 #[.slice A l.length c] w fun e w' => e = .returned (.bool true) ∧ Ext w w' := by
  have S := ((SH.start w I hI).know (h := Im kR A (few6 l)) (hl.tk 6)).know (h := Im kR A l) hl
  have HOK := As.mk hok
  have hrl := few6_len l
  clear hl hok
  obtain ⟨raw, hraw⟩ : ∃ raw, few6 l = raw := ⟨_, rfl⟩
  rw [hraw] at S hrl
  have HRAW := As.mk hraw
  clear hraw
  obtain ⟨half, hhalf⟩ : ∃ half, raw.take (raw.length / 2) = half := ⟨_, rfl⟩
  obtain ⟨xs, hxs⟩ : ∃ xs, raw ++ half = xs := ⟨_, rfl⟩
  have HH := As.mk hhalf
  have HXS := As.mk hxs
  have hhl : half.length ≤ 6 := by rw [← hhalf, List.length_take]; omega
  have hxl : xs.length ≤ 12 := by rw [← hxs, List.length_append]; omega
  clear hhalf hxs
  have hc := S.cells; simp only [Cells, cellsC, Im, Row, El, Nat.zero_add, Nat.reduceAdd] at hc
  go_enter Try.func6, Try.ntmps6
  go_wp2_with (first | ((first | (with_reducible refine wpl_seal S ?_) | (with_reducible refine cw_seal S ?_) | (with_reducible refine bp_seal S ?_) | (with_reducible refine ca_seal S ?_)); clear S; (try clear hc); intro w1 S; (try simp only [List.set_cons_zero, List.set_cons_succ, List.nil_append] at S); have hc := S.cells; simp only [Cells, cellsC, Im, Row, El, Nat.zero_add, Nat.reduceAdd] at hc) | (go_at_call 8; refine (few_c l A c _ _ S.bd (S.im 0 rfl) hc0 HOK.out).mono ?_; rw [HRAW.out]; rintro e w1 ⟨v, c', rfl, hc', hu⟩; obtain ⟨I1, S1, hI1⟩ := S.new hu; clear S hu hI1; (try clear hc); have S := S1; clear S1; have hc := S.cells; simp only [Cells, cellsC, Im, Row, El, Nat.zero_add, Nat.reduceAdd] at hc; replace S := S.nilrow (k := kR); obtain ⟨A8, hcR, hs8⟩ := half_cut (show Sl kR w1 _ A raw from S.im 3 rfl) hc'; replace S := S.know (h := Im kR A8 (raw.take (raw.length / 2))) hs8; clear hs8; rw [HH.out] at S hcR; have hc := S.cells; simp only [Cells, cellsC, Im, Row, El, Nat.zero_add, Nat.reduceAdd] at hc) | ((at_builtin; refine wpl_app S 1 rfl rfl _ _ rfl ty_r5s rfl A c' _ rfl _ (fun _ _ h => h) ((S.im 4 rfl)) (by (try simp only [maxLen, List.length_nil, List.length_append, List.length_cons]); omega) (by (try simp only [maxLen, List.length_nil, List.length_append, List.length_cons]); omega) ?_; clear S; (try clear hc); intro va w1 S; simp only [List.set_cons_zero, List.set_cons_succ, List.nil_append] at S; have hc := S.cells; simp only [Cells, cellsC, Im, Row, El, Nat.zero_add, Nat.reduceAdd] at hc)) | ((at_builtin; refine wpl_app S 1 rfl rfl _ _ rfl ty_r5s rfl A8 c' _ rfl _ (fun _ _ h => h) ((S.im 0 rfl)) (by (try simp only [maxLen, List.length_nil, List.length_append, List.length_cons]); omega) (by (try simp only [maxLen, List.length_nil, List.length_append, List.length_cons]); omega) ?_; clear S; (try clear hc); intro va w1 S; simp only [List.set_cons_zero, List.set_cons_succ, List.nil_append] at S; have hc := S.cells; simp only [Cells, cellsC, Im, Row, El, Nat.zero_add, Nat.reduceAdd] at hc); rw [HXS.out] at S; obtain ⟨Ax, cx, I1, e1, hcx, S1, hI1⟩ := S.frow 1 rfl; subst e1; clear S hI1; have S := S1; clear S1; simp only [List.set_cons_zero, List.set_cons_succ, List.nil_append] at S; have hc := S.cells; simp only [Cells, cellsC, Im, Row, El, Nat.zero_add, Nat.reduceAdd] at hc) | (go_at_call 17; refine (of_c xs Ax cx _ _ S.bd (S.im 1 rfl) (by omega)).mono ?_; rintro e w2 ⟨v2, rfl, hu⟩; obtain ⟨I1, S1, hI1⟩ := S.new hu; clear S hu hI1; (try clear hc); have S := S1; clear S1; have hc := S.cells; simp only [Cells, cellsC, Im, Row, El, Nat.zero_add, Nat.reduceAdd] at hc; obtain ⟨Ap, cp, I1, e1, hcp, S1, hI1⟩ := S.frow 0 rfl; subst e1; clear S hI1; have S := S1; clear S1; simp only [List.set_cons_zero, List.set_cons_succ, List.nil_append] at S; have hc := S.cells; simp only [Cells, cellsC, Im, Row, El, Nat.zero_add, Nat.reduceAdd] at hc))
  have S1 : SH No I w [_, _] _ _ := S.sel [0, 2] (by decide) rfl (by simp)
  clear S hc
  go_loopw [7] (fun i w' => ∃ (k : Nat), k ≤ xs.length ∧ i = .int .i64 k ∧ ∃ I', As (SH No I w [Im kC Ap xs, Im kR Ax xs] w' I')) (fun i _ => xs.length - (intOf i).toNat)
  case atStart => exact ⟨0, by omega, rfl, _, ⟨S1⟩⟩
  case round =>
    clear S1
    obtain ⟨k, hk, rfl, I', ⟨S⟩⟩ := hrel
    by_cases hlt : k < xs.length
    · have hlt' : decide ((k : Int) < xs.length) = true := decide_eq_true (by omega)
      obtain ⟨b, o, rfl, -, -, -, -, -⟩ := (S.im 0 rfl).r5_at hlt
      obtain ⟨b2, o2, rfl, -, -, -, -, -⟩ := (S.im 1 rfl).r5_at hlt
      obtain ⟨x, hx⟩ : ∃ x, xs[k] = x := ⟨_, rfl⟩
      have HX : As (xs[k]? = some x) := ⟨by rw [List.getElem?_eq_getElem hlt, hx]⟩
      clear hx
      have hc := S.cells; simp only [Cells, cellsC, Im, Row, El, Nat.zero_add, Nat.reduceAdd] at hc
      go_wp2_with (first | ((first | (with_reducible refine wpl_seal S ?_) | (with_reducible refine cw_seal S ?_) | (with_reducible refine bp_seal S ?_) | (with_reducible refine ca_seal S ?_)); clear S; (try clear hc); intro w1 S; (try simp only [List.set_cons_zero, List.set_cons_succ, List.nil_append] at S); have hc := S.cells; simp only [Cells, cellsC, Im, Row, El, Nat.zero_add, Nat.reduceAdd] at hc))
      have S1 := S
      clear S hc
      go_loopw [8] (fun i w' => ∃ (m : Nat), m ≤ xs.length ∧ i = .int .i64 m ∧ ∃ I', As (SH No I w [Im kC (some ⟨b, o, none⟩) xs, Im kR (some ⟨b2, o2, none⟩) xs] w' I')) (fun i _ => xs.length - (intOf i).toNat)
      case atStart => exact ⟨0, by omega, rfl, _, ⟨S1⟩⟩
      case round =>
        clear S1
        obtain ⟨m, hm, rfl, I', ⟨S⟩⟩ := hrel
        by_cases hml : m < xs.length
        · have hml' : decide ((m : Int) < xs.length) = true := decide_eq_true (by omega)
          obtain ⟨y, hy⟩ : ∃ y, xs[m] = y := ⟨_, rfl⟩
          have HY : As (xs[m]? = some y) := ⟨by rw [List.getElem?_eq_getElem hml, hy]⟩
          clear hy
          obtain ⟨cq, hcq⟩ : ∃ cq, cmpR x y = cq := ⟨_, rfl⟩
          have HCQ := As.mk hcq
          clear hcq
          obtain ⟨e0, e1, e2, e3, e4⟩ := (S.im 0 rfl).r5_get HX.out
          obtain ⟨g0, g1, g2, g3, g4⟩ := (S.im 0 rfl).r5_get HY.out
          obtain ⟨f0, f1, f2, f3, f4⟩ := (S.im 1 rfl).r5_get HX.out
          obtain ⟨h0, h1, h2, h3, h4⟩ := (S.im 1 rfl).r5_get HY.out
          have p0 := ClE.cell (w := wr.drew) e0
          have p1 := ClE.cell (w := wr.drew) e1
          have p2 := ClE.cell (w := wr.drew) e2
          have p3 := ClE.cell (w := wr.drew) e3
          have p4 := ClE.cell (w := wr.drew) e4
          have q0 := ClE.cell (w := wr.drew) g0
          have q1 := ClE.cell (w := wr.drew) g1
          have q2 := ClE.cell (w := wr.drew) g2
          have q3 := ClE.cell (w := wr.drew) g3
          have q4 := ClE.cell (w := wr.drew) g4
          have r0 := ClE.cell (w := wr.drew) f0
          have r1 := ClE.cell (w := wr.drew) f1
          have r2 := ClE.cell (w := wr.drew) f2
          have r3 := ClE.cell (w := wr.drew) f3
          have r4 := ClE.cell (w := wr.drew) f4
          have s0 := ClE.cell (w := wr.drew) h0
          have s1 := ClE.cell (w := wr.drew) h1
          have s2 := ClE.cell (w := wr.drew) h2
          have s3 := ClE.cell (w := wr.drew) h3
          have s4 := ClE.cell (w := wr.drew) h4
          have hc := S.cells; simp only [Cells, cellsC, Im, Row, El, Nat.zero_add, Nat.reduceAdd] at hc
          go_wp2_with (first | ((first | (with_reducible refine wpl_seal S ?_) | (with_reducible refine cw_seal S ?_) | (with_reducible refine bp_seal S ?_) | (with_reducible refine ca_seal S ?_)); clear S; (try clear hc); intro w1 S; (try simp only [List.set_cons_zero, List.set_cons_succ, List.nil_append] at S); have hc := S.cells; simp only [Cells, cellsC, Im, Row, El, Nat.zero_add, Nat.reduceAdd] at hc))
          refine wp_region_ext [⟨[0, 1, 2, 3, 4, 5, 6, 7, 9, 10, 11, 12, 13, 14, 15, 16], [], 8, true⟩, ⟨[], [], 17, false⟩] [18] (by kernel_rfl) (by kernel_rfl) ?_
          refine mix_cons rfl rfl rfl ?_
          simp only [opsAt, List.getD_cons_succ, List.getD_cons_zero]
          repeat (go_big_quiet_step ((intro hC; first | rfl | (go_simp; first | done | rfl))))
          refine wpQuiet_nil ?_
          repeat (go_big_quiet_step ((intro hC; first | rfl | (go_simp; first | done | rfl))))
          refine wpQuiet_nil ?_
          clear p0 e0 p1 e1 p2 e2 p3 e3 p4 e4 q0 g0 q1 g1 q2 g2 q3 g3 q4 g4 r0 f0 r1 f1 r2 f2 r3 f3 r4 f4 s0 h0 s1 h1 s2 h2 s3 h3 s4 h4
          replace S := S.drew
          generalize wr.drew = w2 at S ⊢
          have hc := S.cells; simp only [Cells, cellsC, Im, Row, El, Nat.zero_add, Nat.reduceAdd] at hc
          go_wp2_with (first | ((first | (with_reducible refine mx_seal S ?_) | (with_reducible refine wpl_seal S ?_) | (with_reducible refine ca_seal S ?_)); clear S; (try clear hc); intro w1 S; (try simp only [List.set_cons_zero, List.set_cons_succ, List.nil_append] at S); have hc := S.cells; simp only [Cells, cellsC, Im, Row, El, Nat.zero_add, Nat.reduceAdd] at hc) | (go_at_call 20; refine (compare_c x y _).mono ?_; rw [HCQ.out]; rintro e w1 ⟨rfl, hx⟩; have hx := hx.ext; have hxf := hx; replace S := S.ext hx; clear hx; (try clear hc); have hc := S.cells; simp only [Cells, cellsC, Im, Row, El, Nat.zero_add, Nat.reduceAdd] at hc))
          refine ⟨fun _ => hxf, ?_⟩
          refine mix_cons rfl rfl rfl ?_
          simp only [opsAt, List.getD_cons_succ, List.getD_cons_zero]
          repeat (go_big_quiet_step ((intro hC; first | rfl | (go_simp; first | done | rfl))))
          refine wpQuiet_nil ?_
          repeat (go_big_quiet_step ((intro hC; first | rfl | (go_simp; first | done | rfl))))
          refine wpQuiet_nil ?_
          go_wp2_with (first | ((first | (with_reducible refine mx_seal S ?_) | (with_reducible refine wpl_seal S ?_) | (with_reducible refine ca_seal S ?_)); clear S; (try clear hc); intro w1 S; (try simp only [List.set_cons_zero, List.set_cons_succ, List.nil_append] at S); have hc := S.cells; simp only [Cells, cellsC, Im, Row, El, Nat.zero_add, Nat.reduceAdd] at hc) | (go_at_call 21; refine (refcmp_c x y _ _ S.bd).mono ?_; rw [HCQ.out]; rintro e w3 ⟨rfl, hx⟩; replace S := S.ext hx; clear hx; (try clear hc); have hc := S.cells; simp only [Cells, cellsC, Im, Row, El, Nat.zero_add, Nat.reduceAdd] at hc))
          (first | refine ⟨(fun h => by cases h), ?_⟩ | skip); (first | ((first | (with_reducible refine mx_seal S ?_)); clear S; (try clear hc); intro w1 S; (try simp only [List.set_cons_zero, List.set_cons_succ, List.nil_append] at S); have hc := S.cells; simp only [Cells, cellsC, Im, Row, El, Nat.zero_add, Nat.reduceAdd] at hc) | skip); (try simp only [Act.put, List.setIfInBounds_toArray, List.set_cons_succ, List.set_cons_zero])
          refine mix_last rfl ?_
          simp only [opsAt, List.getD_cons_succ, List.getD_cons_zero]
          repeat (go_big_quiet_step ((intro hC; first | rfl | (go_simp; first | done | rfl))))
          refine wpQuiet_nil ?_
          simp only [calmQ]
          go_wp2_with (first | ((first | (with_reducible refine wpl_seal S ?_) | (with_reducible refine cw_seal S ?_) | (with_reducible refine bp_seal S ?_) | (with_reducible refine ca_seal S ?_)); clear S; (try clear hc); intro w1 S; (try simp only [List.set_cons_zero, List.set_cons_succ, List.nil_append] at S); have hc := S.cells; simp only [Cells, cellsC, Im, Row, El, Nat.zero_add, Nat.reduceAdd] at hc))
          go_roundw
          case rel => exact ⟨m + 1, by omega, by go_num, _, ⟨(S.sel [0, 1] (by decide) rfl (by simp) : SH _ _ _ [_, _] _ _)⟩⟩
          case measure => simp [intOf] <;> omega
        · have hml' : decide ((m : Int) < xs.length) = false := decide_eq_false (by omega)
          have hc := S.cells; simp only [Cells, cellsC, Im, Row, El, Nat.zero_add, Nat.reduceAdd] at hc
          go_wp2_with (first | ((first | (with_reducible refine wpl_seal S ?_) | (with_reducible refine cw_seal S ?_) | (with_reducible refine bp_seal S ?_) | (with_reducible refine ca_seal S ?_)); clear S; (try clear hc); intro w1 S; (try simp only [List.set_cons_zero, List.set_cons_succ, List.nil_append] at S); have hc := S.cells; simp only [Cells, cellsC, Im, Row, El, Nat.zero_add, Nat.reduceAdd] at hc))
          go_roundw
          case rel => exact ⟨k + 1, by omega, by go_num, _, ⟨(S.sel [0, 1] (by decide) rfl (by simp) : SH _ _ _ [_, _] _ _)⟩⟩
          case measure => simp [intOf] <;> omega
    · have hlt' : decide ((k : Int) < xs.length) = false := decide_eq_false (by omega)
      obtain ⟨ys, hys⟩ : ∃ ys, rSort xs = ys := ⟨_, rfl⟩
      have HYS := As.mk hys
      have HRF : As (refS xs = ys) := ⟨by rw [refS_eq, hys]⟩
      have hyl : ys.length ≤ 12 := by rw [← hys]; exact Nat.le_trans (rSort_len xs) hxl
      clear hys
      have hc := S.cells; simp only [Cells, cellsC, Im, Row, El, Nat.zero_add, Nat.reduceAdd] at hc
      go_wp2_with (first | ((first | (with_reducible refine wpl_seal S ?_) | (with_reducible refine cw_seal S ?_) | (with_reducible refine bp_seal S ?_) | (with_reducible refine ca_seal S ?_)); clear S; (try clear hc); intro w1 S; (try simp only [List.set_cons_zero, List.set_cons_succ, List.nil_append] at S); have hc := S.cells; simp only [Cells, cellsC, Im, Row, El, Nat.zero_add, Nat.reduceAdd] at hc) | (go_at_call 22; refine (rsort_c xs Ap cp _ _ S.bd (S.im 0 rfl) hcp (by omega)).mono ?_; rw [HYS.out]; rintro e w1 ⟨v3, rfl, hu⟩; obtain ⟨I1, S1, hI1⟩ := S.new hu; clear S hu hI1; (try clear hc); have S := S1; clear S1; have hc := S.cells; simp only [Cells, cellsC, Im, Row, El, Nat.zero_add, Nat.reduceAdd] at hc; obtain ⟨As1, cs1, I1, e1, hcs1, S1, hI1⟩ := S.frow 0 rfl; subst e1; clear S hI1; have S := S1; clear S1; simp only [List.set_cons_zero, List.set_cons_succ, List.nil_append] at S; have hc := S.cells; simp only [Cells, cellsC, Im, Row, El, Nat.zero_add, Nat.reduceAdd] at hc) | (go_at_call 14; refine (as_c ys As1 cs1 _ _ S.bd (S.im 0 rfl) (by omega)).mono ?_; rintro e w1 ⟨v4, rfl, hu⟩; obtain ⟨I1, S1, hI1⟩ := S.new hu; clear S hu hI1; (try clear hc); have S := S1; clear S1; have hc := S.cells; simp only [Cells, cellsC, Im, Row, El, Nat.zero_add, Nat.reduceAdd] at hc; obtain ⟨As2, cs2, I1, e1, hcs2, S1, hI1⟩ := S.frow 0 rfl; subst e1; clear S hI1; have S := S1; clear S1; simp only [List.set_cons_zero, List.set_cons_succ, List.nil_append] at S; have hc := S.cells; simp only [Cells, cellsC, Im, Row, El, Nat.zero_add, Nat.reduceAdd] at hc) | (go_at_call 23; refine (refsort_c xs Ax cx _ _ S.bd (S.im 3 rfl) (by omega)).mono ?_; rw [HRF.out]; rintro e w1 ⟨A3, c3, rfl, hc3, hu⟩; obtain ⟨I1, S1, hI1⟩ := S.new hu; clear S hu hI1; (try clear hc); have S := S1; clear S1; have hc := S.cells; simp only [Cells, cellsC, Im, Row, El, Nat.zero_add, Nat.reduceAdd] at hc; have hc := S.cells; simp only [Cells, cellsC, Im, Row, El, Nat.zero_add, Nat.reduceAdd] at hc) | (go_at_call 13; refine (sameR_c ys ys As2 A3 cs2 c3 _ _ _ (S.im 1 rfl) (S.im 0 rfl) (by omega)).mono ?_; rw [decide_eq_true rfl]; rintro e w1 ⟨rfl, hx⟩; have hx := hx.ext; replace S := S.ext hx; clear hx; (try clear hc); have hc := S.cells; simp only [Cells, cellsC, Im, Row, El, Nat.zero_add, Nat.reduceAdd] at hc) | (go_at_call 15; refine (plives_c _ _ S.bd).mono ?_; rintro e w1 ⟨rfl, hx⟩; replace S := S.ext hx; clear hx; (try clear hc); have hc := S.cells; simp only [Cells, cellsC, Im, Row, El, Nat.zero_add, Nat.reduceAdd] at hc))
      go_ret
      exact ⟨rfl, S.out⟩
end Go.Proofs.Yteaekpnmiicbhaa
