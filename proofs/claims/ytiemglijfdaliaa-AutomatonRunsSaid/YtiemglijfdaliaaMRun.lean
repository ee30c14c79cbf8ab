/- AutomatonRuns: the law's walk. -/
import Derived.Test.YtiemglijfdaliaaLiv13
namespace Go.Proofs.Ytiemglijfdaliaa
open Go.RowKit X
set_option maxHeartbeats 4000000
set_option maxRecDepth 8000
set_option linter.unusedSimpArgs false
set_option linter.unusedVariables false
section
variable {L W : List (List Int)}
theorem runR_get (h : GoodR L W) : ∀ (ys pre : List Int) (k : Nat) (hk : k < ys.length), (runR L (dpst L pre pre.length) ys)[k]'(by rw [runR_len]; exact hk) = dpst L (pre ++ ys.take (k + 1)) (pre.length + k + 1)
  | p :: r, pre, 0, _ => by simp only [runR, List.getElem_cons_zero]; rw [← dpst_snoc h]; simp
  | p :: r, pre, k + 1, hk => by
    simp only [runR, List.getElem_cons_succ]
    have h1 := runR_get h r (pre ++ [p]) k (by simpa using hk)
    have h2 : dpst L (pre ++ [p]) (pre ++ [p]).length = nextR L (dpst L pre pre.length) p := by rw [← dpst_snoc h]; simp
    simp only [h2] at h1
    rw [h1]
    simp only [List.append_assoc, List.cons_append, List.nil_append, List.take_succ_cons, List.length_append, List.length_cons, List.length_nil]
    congr 1
    omega
theorem runR_at (h : GoodR L W) (ys : List Int) (k : Nat) (hk : k < ys.length) : (runR L 0 ys)[k]'(by rw [runR_len]; exact hk) = dpst L (ys.take (k + 1)) (k + 1) := by
  have := runR_get h ys [] k hk
  simpa [dpst] using this
theorem endsR_at (h : GoodR L W) (ys : List Int) (k : Nat) (hk : k < ys.length) : endsR L W (dpst L (ys.take (k + 1)) (k + 1)) = endsL W (ys.take (k + 1)) := by
  have hl : (ys.take (k + 1)).length = k + 1 := by rw [List.length_take]; omega
  obtain ⟨j, e, hj⟩ := dpst_spec h (w := ys.take (k + 1)) (k + 1) (by omega)
  rw [e]
  unfold endsR
  rw [if_pos (by have := hj.lt; omega), Int.toNat_natCast]
  exact endsL_dp h (by rw [hl]; exact hj)
def hasI (l : List Int) (j : Int) : Bool := l.any fun x => x == j
theorem hasI_take {l : List Int} {j : Int} {m : Nat} (hm : m < l.length) : hasI (l.take (m + 1)) j = (hasI (l.take m) j || l[m] == j) := by
  unfold hasI
  rw [List.take_succ_eq_append_getElem hm, List.any_append]
  simp
theorem hasI_ends {x : List Int} {j : Nat} (hj : j < W.length) : hasI (endsL W x) j = decide (pa W j <:+ x) := by
  rw [Bool.eq_iff_iff]
  unfold hasI
  simp only [List.any_eq_true, beq_iff_eq, decide_eq_true_eq]
  constructor
  · rintro ⟨y, hy, rfl⟩
    obtain ⟨k, e, h1, h2⟩ := endsL_mem.1 hy
    obtain rfl : k = j := by omega
    exact h2
  · intro h
    exact ⟨j, endsL_mem.2 ⟨j, rfl, hj, h⟩, rfl⟩
end
theorem wf64 {n : Int} (h : (Lit.int .i64 n).wf = true) : -9223372036854775808 ≤ n ∧ n ≤ 9223372036854775807 := by
  have h1 : -9223372036854775808 ≤ n ∧ n ≤ 9223372036854775807 := by
    simp only [Lit.wf, Bool.and_eq_true, decide_eq_true_eq] at h
    exact h
  exact h1
/-- a number, made one below n -/
def aroundI (x n : Int) : Int := (if x < 0 then -(x + 1) else x) % n
theorem aroundI_rng (x : Int) {n : Int} (hn : 0 < n) : 0 ≤ aroundI x n ∧ aroundI x n < n := ⟨Int.emod_nonneg _ (by omega), Int.emod_lt_of_pos _ hn⟩
theorem around_c (x n : Int) (w : World) (hx : -9223372036854775808 ≤ x ∧ x ≤ 9223372036854775807) (hn : 0 < n) (hn2 : n ≤ 1000000) :
    Calls Try.prog 18 #[.int .i64 x, .int .i64 n] w fun e w' => e = .returned (.int .i64 (aroundI x n)) ∧ w = w' := by
  have hn0 : ¬ n = 0 := by omega
  by_cases h : x < 0
  · have HE : As (-(x + 1).tmod n = aroundI x n) := ⟨by unfold aroundI; rw [if_pos h, ← Int.neg_tmod, Int.tmod_eq_emod_of_nonneg (by omega)]⟩
    go_enter Try.func18, Try.ntmps18
    go_wp2
    go_ret
    exact ⟨ret_int HE.out, rfl⟩
  · have HE : As (x % n = aroundI x n) := ⟨by unfold aroundI; rw [if_neg h]⟩
    go_enter Try.func18, Try.ntmps18
    go_wp2
    go_ret
    exact ⟨ret_int HE.out, rfl⟩
theorem mruns_c (raw : Bool) (ls : List (List Int)) (xs : List Int) (n : Int) (hn64 : -9223372036854775808 ≤ n ∧ n ≤ 9223372036854775807) (A Ax : Option Addr) (c cx : Nat) (w : World) (I : Fp) (hI : ∀ b, I b → b < w.heap.size) (hx : Sl kW w I A ls) (hxx : Sl kP w I Ax xs) (hcx : xs.length ≤ cx) :
    Calls Try.prog 4 #[.slice A ls.length c, .bool raw, .slice Ax xs.length cx, .int .i64 n] w fun e w' => e = .returned (.bool true) ∧ Ext w w' := by
  have S := (SH.start w I hI).know (h := Im kP Ax xs) hxx
  have HXL := As.mk hx
  clear hx hxx
  have hc := S.cells; simp only [Cells, cellsC, Im, Row, El, RTH, TreeH, TR, AU, Nat.zero_add, Nat.reduceAdd] at hc
  go_enter Try.func4, Try.ntmps4
  go_wp2_with (first | ((first | (with_reducible refine wpl_seal S ?_) | (with_reducible refine cw_seal S ?_) | (with_reducible refine bp_seal S ?_) | (with_reducible refine ca_seal S ?_)); clear S; (try clear hc); intro w1 S; (try simp only [List.set_cons_zero, List.set_cons_succ, List.nil_append] at S); have hc := S.cells; simp only [Cells, cellsC, Im, Row, El, RTH, TreeH, TR, AU, Nat.zero_add, Nat.reduceAdd] at hc) | (go_at_call 9; refine (begin13_c raw ls A c _ I S.bd (HXL.out.below S.out)).mono ?_; rintro e w1 ⟨a, v, L, W, J, rfl, S2, hbg, hL, hW, hL5⟩; obtain ⟨J2, S3, -, -⟩ := S.comp S2; have HBG := As.mk hbg; have HL5 := As.mk hL5; clear S hc S2 hbg hL5; have S := S3; clear S3; simp only [List.cons_append, List.nil_append, List.set_cons_zero] at S; obtain ⟨a1, d1, a2, d2, rfl, hd1, hd2, hs1, hs2⟩ := S.rt 1 rfl; replace S := (S.know (h := Im kW a2 W) hs2).know (h := Im kW a1 L) hs1; clear hs1 hs2; have hc := S.cells; simp only [Cells, cellsC, Im, Row, El, RTH, TreeH, TR, AU, Nat.zero_add, Nat.reduceAdd] at hc))
  have HG := As.mk (S.auG 3 rfl).1
  have HNW := As.mk (S.auG 3 rfl).2
  have HLs : As (ShortW L) := ⟨fun x hx => by have := HL5.out x hx; omega⟩
  have HNE : As (∀ i, 0 < i → i < L.length → pa L i ≠ []) := ⟨fun i hi hl => HG.out.ne hi hl⟩
  have HWs : As (ShortW W) := ⟨fun x hx => by have := ownN_five raw ls _ (begT_ne2 HBG.out _ hx).2; omega⟩
  obtain ⟨gT, egT⟩ := S.name 0 rfl; rw [← egT] at S ⊢; clear egT
  have hpos := HG.out.pos
  have HL9 : As (∀ x ∈ L, x.length ≤ 100000) := ⟨fun x hx => by have := HL5.out x hx; omega⟩
  obtain ⟨ys0, hys0⟩ : ∃ ys, xs.take 12 = ys := ⟨_, rfl⟩
  obtain ⟨ys1, hys1⟩ : ∃ ys, rowT xs 12 = ys := ⟨_, rfl⟩
  have hy0 : ys0.length ≤ 12 := by rw [← hys0, List.length_take]; omega
  have hy1 : ys1.length ≤ 12 := by rw [← hys1, rowT_len]; omega
  have HY0 : As ((min (xs.length : Int) 12).toNat = ys0.length) := ⟨by rw [← hys0, List.length_take]; omega⟩
  have HYS0 := As.mk hys0
  have HYS1 := As.mk hys1
  clear hys0 hys1
  replace S := (S.sel [0, 1, 2, 3, 5] (by decide) rfl (by simp) : SH _ _ _ [_, _, _, _, _] _ _)
  by_cases h12 : xs.length ≤ 12
  all_goals
    first | (have h5' : (xs.length : Int) ≤ 12 := by omega) | (have h5' : 12 < (xs.length : Int) := by omega)
    have hc := S.cells; simp only [Cells, cellsC, Im, Row, El, RTH, TreeH, TR, AU, Nat.zero_add, Nat.reduceAdd] at hc
    have hq := S.cellsE; simp only [CellsE, cellsE, Im, Row, El, RTH, TreeH, TR, AU, Nat.zero_add, Nat.reduceAdd] at hq
    refine wp_region_ext [⟨[1, 2, 3, 5], [0, 4], 6, true⟩, ⟨[], [], 7, false⟩] [8] (by kernel_rfl) (by kernel_rfl) ?_
    refine mix_cons rfl rfl rfl ?_
    simp only [opsAt, List.getD_cons_succ, List.getD_cons_zero]
    repeat (go_big_quiet_step ((intro hC; first | rfl | (go_simp; first | done | rfl))))
    refine wpQuiet_nil ?_
    repeat (go_big_quiet_step ((intro hC; first | rfl | (go_simp; first | done | rfl))))
    refine wpQuiet_nil ?_
    clear hq hc
    replace S := S.drew
    generalize w1.drew = w2 at S ⊢
    have hc := S.cells; simp only [Cells, cellsC, Im, Row, El, RTH, TreeH, TR, AU, Nat.zero_add, Nat.reduceAdd] at hc
    go_wp2_with (first | ((first | (with_reducible refine mx_seal S ?_) | (with_reducible refine wpl_seal S ?_) | (with_reducible refine ca_seal S ?_)); clear S; (try clear hc); intro w1 S; (try simp only [List.set_cons_zero, List.set_cons_succ, List.nil_append] at S); have hc := S.cells; simp only [Cells, cellsC, Im, Row, El, RTH, TreeH, TR, AU, Nat.zero_add, Nat.reduceAdd] at hc) | (go_at_call 13; refine (row_c xs 12 Ax cx _ _ S.bd (S.im 4 rfl) (by omega)).mono ?_; rw [HYS1.out]; rintro e w1 ⟨v, rfl, hu⟩; have hxe := hu.ext; obtain ⟨I1, S1, hI1⟩ := S.new hu; clear S hu hI1; (try clear hc); have S := S1; clear S1; have hc := S.cells; simp only [Cells, cellsC, Im, Row, El, RTH, TreeH, TR, AU, Nat.zero_add, Nat.reduceAdd] at hc; obtain ⟨A8, c8, I1, e1, hc8, S1, hI1⟩ := S.frow 0 rfl; subst e1; clear S hI1; have S := S1; clear S1; simp only [List.set_cons_zero, List.set_cons_succ, List.nil_append] at S; have hc := S.cells; simp only [Cells, cellsC, Im, Row, El, RTH, TreeH, TR, AU, Nat.zero_add, Nat.reduceAdd] at hc))
    refine ⟨fun _ => hxe, ?_⟩
    clear hxe
    refine mix_cons rfl rfl rfl ?_
    simp only [opsAt, List.getD_cons_succ, List.getD_cons_zero]
    repeat (go_big_quiet_step ((intro hC; first | rfl | (go_simp; first | done | rfl))))
    refine wpQuiet_nil ?_
    repeat (go_big_quiet_step ((intro hC; first | rfl | (go_simp; first | done | rfl))))
    refine wpQuiet_nil ?_
    go_wp2_with (first | ((first | (with_reducible refine mx_seal S ?_) | (with_reducible refine wpl_seal S ?_) | (with_reducible refine ca_seal S ?_)); clear S; (try clear hc); intro w1 S; (try simp only [List.set_cons_zero, List.set_cons_succ, List.nil_append] at S); have hc := S.cells; simp only [Cells, cellsC, Im, Row, El, RTH, TreeH, TR, AU, Nat.zero_add, Nat.reduceAdd] at hc))
    (first | refine ⟨(fun h => by cases h), ?_⟩ | skip); (first | ((first | (with_reducible refine mx_seal S ?_)); clear S; (try clear hc); intro w1 S; (try simp only [List.set_cons_zero, List.set_cons_succ, List.nil_append] at S); have hc := S.cells; simp only [Cells, cellsC, Im, Row, El, RTH, TreeH, TR, AU, Nat.zero_add, Nat.reduceAdd] at hc) | skip); (try simp only [Act.put, List.setIfInBounds_toArray, List.set_cons_succ, List.set_cons_zero])
    refine mix_last rfl ?_
    simp only [opsAt, List.getD_cons_succ, List.getD_cons_zero]
    repeat (go_big_quiet_step ((intro hC; first | rfl | (go_simp; first | done | rfl))))
    refine wpQuiet_nil ?_
    simp only [calmQ]
    rw [HY0.out] at S
    obtain ⟨gB, egB⟩ := S.name 0 rfl; rw [← egB] at S ⊢; clear egB
    rw [HY0.out]
    have h0 := (S.im 6 rfl).take 12
    rw [HYS0.out] at h0
    have hyc : ys0.length ≤ cx := by rw [← HYS0.out, List.length_take]; omega
    obtain ⟨J5, S1, -⟩ := S.lit 0 rfl (k := kW) (xs := [ys0, ys1]) (Flat.cons (cs := [_]) ⟨_, _, rfl, hyc, h0⟩ (Flat.single (cs := [_]) ⟨_, _, rfl, hc8, S.im 1 rfl⟩))
    clear S h0
    have S := S1
    clear S1
    simp only [List.set_cons_zero, List.set_cons_succ, List.nil_append] at S
    replace S := (S.sel [2, 3, 4, 5, 0, 1, 6] (by decide) rfl (by simp) : SH _ _ _ [_, _, _, _, _, _, _] _ _)
    have HYL : As (∀ y ∈ [ys0, ys1], y.length ≤ 12) := ⟨fun y hy => by rcases List.mem_cons.1 hy with rfl | hy; exact hy0; rw [List.mem_singleton.1 hy]; exact hy1⟩
    have hc := S.cells; simp only [Cells, cellsC, Im, Row, El, RTH, TreeH, TR, AU, Nat.zero_add, Nat.reduceAdd] at hc
    go_wp2_with (first | ((first | (with_reducible refine wpl_seal S ?_) | (with_reducible refine cw_seal S ?_) | (with_reducible refine bp_seal S ?_) | (with_reducible refine ca_seal S ?_)); clear S; (try clear hc); intro w1 S; (try simp only [List.set_cons_zero, List.set_cons_succ, List.nil_append] at S); have hc := S.cells; simp only [Cells, cellsC, Im, Row, El, RTH, TreeH, TR, AU, Nat.zero_add, Nat.reduceAdd] at hc))
    have S1 := S
    clear S hc
    go_loopw [12] (fun i w' => ∃ (t : Nat), i = .int .i64 t ∧ t ≤ 2 ∧ ∃ I', As (SH No I w [Cel gT 27 [.slice a1 L.length d1, .slice a2 W.length d2], Im kW a1 L, Im kW a2 W, AU a L W, Im kW (some ⟨gB, 0, none⟩) [ys0, ys1], Im kP A8 ys1, Im kP Ax xs] w' I')) (fun i _ => 2 - (intOf i).toNat)
    case atStart => exact ⟨0, rfl, by omega, _, ⟨S1⟩⟩
    case round =>
      clear S1
      obtain ⟨t, rfl, ht2, I', ⟨S⟩⟩ := hrel
      have hc := S.cells; simp only [Cells, cellsC, Im, Row, El, RTH, TreeH, TR, AU, Nat.zero_add, Nat.reduceAdd] at hc
      by_cases htl : t < 2
      · have htl' : decide ((t : Int) < 2) = true := by simp; omega
        have htn : t < [ys0, ys1].length := by simpa using htl
        obtain ⟨ys, hys⟩ : ∃ ys, [ys0, ys1][t] = ys := ⟨_, rfl⟩
        have hyl : ys.length ≤ 12 := by rw [← hys]; exact HYL.out _ (List.getElem_mem htn)
        have HAT : As (∀ w' J', Sl kW w' J' (some ⟨gB, 0, none⟩) [ys0, ys1] → ∃ A3 c3, w'.cell? ⟨gB, t, none⟩ = some (.slice A3 ys.length c3) ∧ ys.length ≤ c3 ∧ Sl kP w' J' A3 ys) := ⟨fun w' J' h => by
          obtain ⟨bA, oA, A3, c3, e, h1, h2, h3⟩ := h.sl_at htn
          cases e
          rw [hys] at h1 h2 h3
          rw [Nat.zero_add] at h1
          exact ⟨A3, c3, h1, h2, h3⟩⟩
        have ht9 : (t : Int) < 2 := by omega
        have HRA : As (runA L 0 ys = runR L 0 ys) := ⟨by unfold runA; rw [if_pos (by omega)]⟩
        clear hys
        obtain ⟨A3, c3, hca, hc3, hs3⟩ := HAT.out _ _ (S.im 4 rfl)
        go_wp2_with (first | ((first | (with_reducible refine wpl_seal S ?_) | (with_reducible refine cw_seal S ?_) | (with_reducible refine bp_seal S ?_) | (with_reducible refine ca_seal S ?_)); clear S; (try clear hc); intro w1 S; (try simp only [List.set_cons_zero, List.set_cons_succ, List.nil_append] at S); have hc := S.cells; simp only [Cells, cellsC, Im, Row, El, RTH, TreeH, TR, AU, Nat.zero_add, Nat.reduceAdd] at hc) | (go_at_call 14; refine (run_r (c := c3) S 3 rfl (by omega) 0 ys hs3 (by omega)).mono ?_; rw [HRA.out]; rintro e w1 ⟨v, rfl, hu⟩; replace hca := hu.ext.cell hca; obtain ⟨I1, S1, hI1⟩ := S.new hu; clear S hu hI1; (try clear hc); have S := S1; clear S1; have hc := S.cells; simp only [Cells, cellsC, Im, Row, El, RTH, TreeH, TR, AU, Nat.zero_add, Nat.reduceAdd] at hc; obtain ⟨A5, c5, I1, e1, hc5, S1, hI1⟩ := S.frow 0 rfl; subst e1; clear S hI1; have S := S1; clear S1; simp only [List.set_cons_zero, List.set_cons_succ, List.nil_append] at S; rw [runR_len] at hc5 ⊢; have hc := S.cells; simp only [Cells, cellsC, Im, Row, El, RTH, TreeH, TR, AU, Nat.zero_add, Nat.reduceAdd] at hc))
        clear hca hc3 hs3
        have S1 := S
        clear S hc
        go_loopw [14] (fun i w' => ∃ (k : Nat), i = .int .i64 k ∧ k ≤ ys.length ∧ ∃ I', As (SH No I w (Im kI A5 (runR L 0 ys) :: [Cel gT 27 [.slice a1 L.length d1, .slice a2 W.length d2], Im kW a1 L, Im kW a2 W, AU a L W, Im kW (some ⟨gB, 0, none⟩) [ys0, ys1], Im kP A8 ys1, Im kP Ax xs]) w' I')) (fun i _ => ys.length - (intOf i).toNat)
        case atStart => exact ⟨0, rfl, by omega, _, ⟨S1⟩⟩
        case round =>
          clear S1
          obtain ⟨k, rfl, hky, I', ⟨S⟩⟩ := hrel
          have hc := S.cells; simp only [Cells, cellsC, Im, Row, El, RTH, TreeH, TR, AU, Nat.zero_add, Nat.reduceAdd] at hc
          by_cases hkl : k < ys.length
          · have hkl' : decide ((k : Int) < (ys.length : Int)) = true := by simpa using hkl
            obtain ⟨A3, c3, hca, hc3, hs3⟩ := HAT.out _ _ (S.im 5 rfl)
            obtain ⟨bs, os, rfl, hcs⟩ := (S.im 0 rfl).int_at (i := k) (by rw [runR_len]; exact hkl)
            rw [runR_at HG.out ys k hkl] at hcs
            obtain ⟨sk, hsk⟩ : ∃ sk, dpst L (ys.take (k + 1)) (k + 1) = sk := ⟨_, rfl⟩
            rw [hsk] at hcs
            obtain ⟨ES, hES⟩ : ∃ ES, endsL W (ys.take (k + 1)) = ES := ⟨_, rfl⟩
            have HES : As (endsR L W sk = ES) := ⟨by rw [← hsk, ← hES]; exact endsR_at HG.out ys k hkl⟩
            have hel : ES.length ≤ 1000000 := by rw [← HES.out]; have := endsR_len (L := L) (W := W) (z := sk); omega
            have HHA : As (∀ j, j < W.length → hasI ES j = decide (pa W j <:+ ys.take (k + 1))) := ⟨fun j hj => by rw [← hES]; exact hasI_ends hj⟩
            have hk4 : k + 1 ≤ c3 := by omega
            have e7 : (ys.take (k + 1)).length = k + 1 := by rw [List.length_take]; omega
            have HDP : As (∀ w' J', Sl kW w' J' a1 L → Sl kP w' J' A3 ys → Calls Try.prog 15 #[rtV a1 L.length d1 a2 W.length d2, .slice A3 (k + 1) c3, .int .i64 ((k : Int) + 1)] w' fun e w'' => e = .returned (.int .i64 sk) ∧ Ext w' w'') := ⟨fun w' J' h1 h3 => by
              have := deepest_c L W (ys.take (k + 1)) (k + 1) a1 a2 A3 d1 d2 c3 w' _ _ h1 (h3.take (k + 1)) (by omega) (by omega) (by omega) HLs.out (by omega)
              rw [e7, hsk] at this
              exact this⟩
            have HSK := As.mk hsk
            clear hsk hES e7
            go_wp2_with (first | ((first | (with_reducible refine wpl_seal S ?_) | (with_reducible refine cw_seal S ?_) | (with_reducible refine bp_seal S ?_) | (with_reducible refine ca_seal S ?_)); clear S; (try clear hc); intro w1 S; (try simp only [List.set_cons_zero, List.set_cons_succ, List.nil_append] at S); have hc := S.cells; simp only [Cells, cellsC, Im, Row, El, RTH, TreeH, TR, AU, Nat.zero_add, Nat.reduceAdd] at hc))
            have hqa := ClE.cell (w := wr.drew) hca
            have hqs := ClE.cell (w := wr.drew) hcs
            have hq := S.cellsE; simp only [CellsE, cellsE, Im, Row, El, RTH, TreeH, TR, AU, Nat.zero_add, Nat.reduceAdd] at hq
            refine wp_region_ext [⟨[0, 1, 2, 3, 4, 5, 6, 7, 8, 9, 10, 11, 12, 13], [], 14, true⟩] [15] (by kernel_rfl) (by kernel_rfl) ?_
            refine mix_cons rfl rfl rfl ?_
            simp only [opsAt, List.getD_cons_succ, List.getD_cons_zero]
            repeat (go_big_quiet_step ((intro hC; first | rfl | (go_simp; first | done | rfl))))
            refine wpQuiet_nil ?_
            repeat (go_big_quiet_step ((intro hC; first | rfl | (go_simp; first | done | rfl))))
            refine wpQuiet_nil ?_
            clear hq hqa hqs hc hca hcs
            replace S := S.drew
            replace hs3 : Sl kP wr.drew _ A3 ys := hs3
            generalize wr.drew = w1 at S hs3 ⊢
            have hc := S.cells; simp only [Cells, cellsC, Im, Row, El, RTH, TreeH, TR, AU, Nat.zero_add, Nat.reduceAdd] at hc
            go_wp2_with (first | ((first | (with_reducible refine mx_seal S ?_) | (with_reducible refine wpl_seal S ?_) | (with_reducible refine ca_seal S ?_)); clear S; (try clear hc); intro w1 S; (try simp only [List.set_cons_zero, List.set_cons_succ, List.nil_append] at S); have hc := S.cells; simp only [Cells, cellsC, Im, Row, El, RTH, TreeH, TR, AU, Nat.zero_add, Nat.reduceAdd] at hc) | (go_at_call 15; refine (HDP.out _ _ (S.im 2 rfl) hs3).mono ?_; clear hs3; rintro e w1 ⟨rfl, hx⟩; have hxe := hx; replace S := S.ext hx; clear hx; (try clear hc); have hc := S.cells; simp only [Cells, cellsC, Im, Row, El, RTH, TreeH, TR, AU, Nat.zero_add, Nat.reduceAdd] at hc))
            refine ⟨fun _ => hxe, ?_⟩
            clear hxe
            refine mix_last rfl ?_
            simp only [opsAt, List.getD_cons_succ, List.getD_cons_zero]
            repeat (go_big_quiet_step ((intro hC; first | rfl | (go_simp; first | done | rfl))))
            refine wpQuiet_nil ?_
            simp only [calmQ]
            have hc := S.cells; simp only [Cells, cellsC, Im, Row, El, RTH, TreeH, TR, AU, Nat.zero_add, Nat.reduceAdd] at hc
            go_wp2_with (first | ((first | (with_reducible refine wpl_seal S ?_) | (with_reducible refine cw_seal S ?_) | (with_reducible refine bp_seal S ?_) | (with_reducible refine ca_seal S ?_)); clear S; (try clear hc); intro w1 S; (try simp only [List.set_cons_zero, List.set_cons_succ, List.nil_append] at S); have hc := S.cells; simp only [Cells, cellsC, Im, Row, El, RTH, TreeH, TR, AU, Nat.zero_add, Nat.reduceAdd] at hc))
            have S1 := S
            clear S hc
            go_loopw [15] (fun i w' => ∃ (j : Nat), i = .int .i64 j ∧ j ≤ W.length ∧ ∃ I', As (SH No I w (Im kI (some ⟨bs, os, none⟩) (runR L 0 ys) :: [Cel gT 27 [.slice a1 L.length d1, .slice a2 W.length d2], Im kW a1 L, Im kW a2 W, AU a L W, Im kW (some ⟨gB, 0, none⟩) [ys0, ys1], Im kP A8 ys1, Im kP Ax xs]) w' I')) (fun i _ => W.length - (intOf i).toNat)
            case atStart => exact ⟨0, rfl, by omega, _, ⟨S1⟩⟩
            case round =>
              clear S1
              obtain ⟨j, rfl, hjy, I', ⟨S⟩⟩ := hrel
              have hc := S.cells; simp only [Cells, cellsC, Im, Row, El, RTH, TreeH, TR, AU, Nat.zero_add, Nat.reduceAdd] at hc
              by_cases hjl : j < W.length
              · have hjl' : decide ((j : Int) < (W.length : Int)) = true := by simpa using hjl
                obtain ⟨bs', os', e9, hcs⟩ := (S.im 0 rfl).int_at (i := k) (by rw [runR_len]; exact hkl)
                cases e9
                rw [runR_at HG.out ys k hkl, HSK.out] at hcs
                go_wp2_with (first | ((first | (with_reducible refine wpl_seal S ?_) | (with_reducible refine cw_seal S ?_) | (with_reducible refine bp_seal S ?_) | (with_reducible refine ca_seal S ?_)); clear S; (try clear hc); intro w1 S; (try simp only [List.set_cons_zero, List.set_cons_succ, List.nil_append] at S); have hc := S.cells; simp only [Cells, cellsC, Im, Row, El, RTH, TreeH, TR, AU, Nat.zero_add, Nat.reduceAdd] at hc) | (go_at_call 16; refine (ends_r S 4 rfl (by omega) sk).mono ?_; rw [HES.out]; rintro e w1 ⟨v, rfl, hu⟩; clear hcs; obtain ⟨I1, S1, hI1⟩ := S.new hu; clear S hu hI1; (try clear hc); have S := S1; clear S1; have hc := S.cells; simp only [Cells, cellsC, Im, Row, El, RTH, TreeH, TR, AU, Nat.zero_add, Nat.reduceAdd] at hc; obtain ⟨A6, c6, I1, e1, hc6, S1, hI1⟩ := S.frow 0 rfl; subst e1; clear S hI1; have S := S1; clear S1; simp only [List.set_cons_zero, List.set_cons_succ, List.nil_append] at S; have hc := S.cells; simp only [Cells, cellsC, Im, Row, El, RTH, TreeH, TR, AU, Nat.zero_add, Nat.reduceAdd] at hc))
                have S1 := S
                clear S hc
                go_loopw [16, 18] (fun o i w' => ∃ (m : Nat) (bv : Bool), i = .int .i64 m ∧ m ≤ ES.length ∧ o = .bool bv ∧ As (bv = hasI (ES.take m) j) ∧ ∃ I', As (SH No I w (Im kI A6 ES :: Im kI (some ⟨bs, os, none⟩) (runR L 0 ys) :: [Cel gT 27 [.slice a1 L.length d1, .slice a2 W.length d2], Im kW a1 L, Im kW a2 W, AU a L W, Im kW (some ⟨gB, 0, none⟩) [ys0, ys1], Im kP A8 ys1, Im kP Ax xs]) w' I')) (fun _ i _ => ES.length - (intOf i).toNat)
                case atStart => exact ⟨0, false, rfl, by omega, rfl, ⟨rfl⟩, _, ⟨S1⟩⟩
                case round =>
                  clear S1
                  obtain ⟨m, bv, rfl, hmy, rfl, HBV, I', ⟨S⟩⟩ := hrel
                  have hc := S.cells; simp only [Cells, cellsC, Im, Row, El, RTH, TreeH, TR, AU, Nat.zero_add, Nat.reduceAdd] at hc
                  by_cases hml : m < ES.length
                  · have hml' : decide ((m : Int) < (ES.length : Int)) = true := by simpa using hml
                    obtain ⟨be, oe, rfl, hce⟩ := (S.im 0 rfl).int_at hml
                    have HNX := As.mk (hasI_take (j := (j : Int)) hml)
                    generalize ES[m] = em at hce HNX
                    cases bv
                    · go_wp2_with (first | ((first | (with_reducible refine wpl_seal S ?_) | (with_reducible refine cw_seal S ?_) | (with_reducible refine bp_seal S ?_) | (with_reducible refine ca_seal S ?_)); clear S; (try clear hc); intro w1 S; (try simp only [List.set_cons_zero, List.set_cons_succ, List.nil_append] at S); have hc := S.cells; simp only [Cells, cellsC, Im, Row, El, RTH, TreeH, TR, AU, Nat.zero_add, Nat.reduceAdd] at hc))
                      go_roundw
                      case rel => exact ⟨m + 1, _, by go_num, by omega, rfl, ⟨by rw [HNX.out, ← HBV.out]; simp⟩, _, ⟨by first | exact S | trivial⟩⟩
                      case measure => simp [intOf] <;> omega
                    · go_wp2_with (first | ((first | (with_reducible refine wpl_seal S ?_) | (with_reducible refine cw_seal S ?_) | (with_reducible refine bp_seal S ?_) | (with_reducible refine ca_seal S ?_)); clear S; (try clear hc); intro w1 S; (try simp only [List.set_cons_zero, List.set_cons_succ, List.nil_append] at S); have hc := S.cells; simp only [Cells, cellsC, Im, Row, El, RTH, TreeH, TR, AU, Nat.zero_add, Nat.reduceAdd] at hc))
                      go_roundw
                      case rel => exact ⟨m + 1, true, by go_num, by omega, rfl, ⟨by rw [HNX.out, ← HBV.out]; simp⟩, _, ⟨by first | exact S | trivial⟩⟩
                      case measure => simp [intOf] <;> omega
                  · have hml' : decide ((m : Int) < (ES.length : Int)) = false := by simpa using hml
                    obtain rfl : m = ES.length := by omega
                    obtain ⟨A3, c3, hca, hc3, hs3⟩ := HAT.out _ _ (S.im 6 rfl)
                    obtain ⟨bw, ow, Aw, cw, rfl, hcw, hcw1, hsw⟩ := (S.im 4 rfl).sl_at hjl
                    have hk4 : k + 1 ≤ c3 := by omega
                    have hpw : pa W j = W[j] := pa_eq hjl
                    have HBE : As (bv = decide (W[j] <:+ ys.take (k + 1))) := ⟨by rw [HBV.out, List.take_length, HHA.out j hjl, hpw]⟩
                    have h5 := HWs.out _ (List.getElem_mem hjl)
                    have e7 : (ys.take (k + 1)).length = k + 1 := by rw [List.length_take]; omega
                    generalize W[j] = wj at hcw hcw1 hsw HBE h5
                    have HLS : As (∀ w' J', Sl kP w' J' A3 ys → Sl kP w' J' Aw wj → Calls Try.prog 17 #[.slice A3 (k + 1) c3, .slice Aw wj.length cw] w' fun e w'' => e = .returned (.bool bv) ∧ Ext w' w'') := ⟨fun w' J' h1 h2 => by
                      have := xlast_c (ys.take (k + 1)) wj A3 Aw c3 cw w' _ _ (h1.take (k + 1)) h2 (by omega) hcw1 (by omega) h5
                      rw [e7, ← HBE.out] at this
                      exact this⟩
                    clear e7 hpw
                    go_wp2_with (first | ((first | (with_reducible refine wpl_seal S ?_) | (with_reducible refine cw_seal S ?_) | (with_reducible refine bp_seal S ?_) | (with_reducible refine ca_seal S ?_)); clear S; (try clear hc); intro w1 S; (try simp only [List.set_cons_zero, List.set_cons_succ, List.nil_append] at S); have hc := S.cells; simp only [Cells, cellsC, Im, Row, El, RTH, TreeH, TR, AU, Nat.zero_add, Nat.reduceAdd] at hc))
                    have hqa := ClE.cell (w := wr.drew) hca
                    have hqw := ClE.cell (w := wr.drew) hcw
                    have hq := S.cellsE; simp only [CellsE, cellsE, Im, Row, El, RTH, TreeH, TR, AU, Nat.zero_add, Nat.reduceAdd] at hq
                    refine wp_region_ext [⟨[1, 2, 3, 4, 5, 6, 7, 8, 9, 10, 11, 12], [0], 13, false⟩] [14] (by kernel_rfl) (by kernel_rfl) ?_
                    refine mix_cons rfl rfl rfl ?_
                    simp only [opsAt, List.getD_cons_succ, List.getD_cons_zero]
                    repeat (go_big_quiet_step ((intro hC; first | rfl | (go_simp; first | done | rfl))))
                    refine wpQuiet_nil ?_
                    repeat (go_big_quiet_step ((intro hC; first | rfl | (go_simp; first | done | rfl))))
                    refine wpQuiet_nil ?_
                    clear hq hqa hqw hc hca hcw
                    replace S := S.drew
                    replace hs3 : Sl kP wr.drew _ A3 ys := hs3
                    replace hsw : Sl kP wr.drew _ Aw wj := hsw
                    generalize wr.drew = w1 at S hs3 hsw ⊢
                    have hc := S.cells; simp only [Cells, cellsC, Im, Row, El, RTH, TreeH, TR, AU, Nat.zero_add, Nat.reduceAdd] at hc
                    go_wp2_with (first | ((first | (with_reducible refine mx_seal S ?_) | (with_reducible refine wpl_seal S ?_) | (with_reducible refine ca_seal S ?_)); clear S; (try clear hc); intro w1 S; (try simp only [List.set_cons_zero, List.set_cons_succ, List.nil_append] at S); have hc := S.cells; simp only [Cells, cellsC, Im, Row, El, RTH, TreeH, TR, AU, Nat.zero_add, Nat.reduceAdd] at hc) | (go_at_call 17; refine (HLS.out _ _ hs3 hsw).mono ?_; clear hs3 hsw; rintro e w1 ⟨rfl, hx⟩; replace S := S.ext hx; clear hx; (try clear hc); have hc := S.cells; simp only [Cells, cellsC, Im, Row, El, RTH, TreeH, TR, AU, Nat.zero_add, Nat.reduceAdd] at hc))
                    (first | refine ⟨(fun h => by cases h), ?_⟩ | skip); (first | ((first | (with_reducible refine mx_seal S ?_)); clear S; (try clear hc); intro w1 S; (try simp only [List.set_cons_zero, List.set_cons_succ, List.nil_append] at S); have hc := S.cells; simp only [Cells, cellsC, Im, Row, El, RTH, TreeH, TR, AU, Nat.zero_add, Nat.reduceAdd] at hc) | skip); (try simp only [Act.put, List.setIfInBounds_toArray, List.set_cons_succ, List.set_cons_zero])
                    refine mix_last rfl ?_
                    simp only [opsAt, List.getD_cons_succ, List.getD_cons_zero]
                    repeat (go_big_quiet_step ((intro hC; first | rfl | (go_simp; first | done | rfl))))
                    refine wpQuiet_nil ?_
                    simp only [calmQ]
                    have hc := S.cells; simp only [Cells, cellsC, Im, Row, El, RTH, TreeH, TR, AU, Nat.zero_add, Nat.reduceAdd] at hc
                    go_wp2_with (first | ((first | (with_reducible refine wpl_seal S ?_) | (with_reducible refine cw_seal S ?_) | (with_reducible refine bp_seal S ?_) | (with_reducible refine ca_seal S ?_)); clear S; (try clear hc); intro w1 S; (try simp only [List.set_cons_zero, List.set_cons_succ, List.nil_append] at S); have hc := S.cells; simp only [Cells, cellsC, Im, Row, El, RTH, TreeH, TR, AU, Nat.zero_add, Nat.reduceAdd] at hc))
                    go_roundw
                    case rel => exact ⟨j + 1, by go_num, by omega, _, ⟨S.tl⟩⟩
                    case measure => simp [intOf] <;> omega
              · have hjl' : decide ((j : Int) < (W.length : Int)) = false := by simpa using hjl
                go_wp2_with (first | ((first | (with_reducible refine wpl_seal S ?_) | (with_reducible refine cw_seal S ?_) | (with_reducible refine bp_seal S ?_) | (with_reducible refine ca_seal S ?_)); clear S; (try clear hc); intro w1 S; (try simp only [List.set_cons_zero, List.set_cons_succ, List.nil_append] at S); have hc := S.cells; simp only [Cells, cellsC, Im, Row, El, RTH, TreeH, TR, AU, Nat.zero_add, Nat.reduceAdd] at hc))
                go_roundw
                case rel => exact ⟨k + 1, by go_num, by omega, _, ⟨by first | exact S | trivial⟩⟩
                case measure => simp [intOf] <;> omega
          · have hkl' : decide ((k : Int) < (ys.length : Int)) = false := by simpa using hkl
            go_wp2_with (first | ((first | (with_reducible refine wpl_seal S ?_) | (with_reducible refine cw_seal S ?_) | (with_reducible refine bp_seal S ?_) | (with_reducible refine ca_seal S ?_)); clear S; (try clear hc); intro w1 S; (try simp only [List.set_cons_zero, List.set_cons_succ, List.nil_append] at S); have hc := S.cells; simp only [Cells, cellsC, Im, Row, El, RTH, TreeH, TR, AU, Nat.zero_add, Nat.reduceAdd] at hc))
            go_roundw
            case rel => exact ⟨t + 1, by go_num, by omega, _, ⟨S.tl⟩⟩
            case measure => simp [intOf] <;> omega
      · have htl' : decide ((t : Int) < 2) = false := by simp; omega
        have hkr := aroundI_rng n (n := (L.length : Int)) (by omega)
        obtain ⟨kf, hkf⟩ : ∃ kf, aroundI n L.length = kf := ⟨_, rfl⟩
        rw [hkf] at hkr
        have HKF := As.mk hkf
        have HR0 : As (runA L kf ys1 = runR L kf ys1) := ⟨by unfold runA; rw [if_pos hkr]⟩
        have HRM : As (runA L (-1) ys1 = []) := ⟨by unfold runA; rw [if_neg (by omega)]⟩
        have HRL : As (runA L L.length ys1 = []) := ⟨by unfold runA; rw [if_neg (by omega)]⟩
        clear hkf
        go_wp2_with (first | ((first | (with_reducible refine wpl_seal S ?_) | (with_reducible refine cw_seal S ?_) | (with_reducible refine bp_seal S ?_) | (with_reducible refine ca_seal S ?_)); clear S; (try clear hc); intro w1 S; (try simp only [List.set_cons_zero, List.set_cons_succ, List.nil_append] at S); have hc := S.cells; simp only [Cells, cellsC, Im, Row, El, RTH, TreeH, TR, AU, Nat.zero_add, Nat.reduceAdd] at hc) | (go_at_call 18; refine (around_c n L.length _ hn64 (by omega) (by omega)).mono ?_; rw [HKF.out]; rintro e w1 ⟨rfl, rfl⟩) | (go_at_call 13; refine (row_c xs 12 Ax cx _ _ S.bd (S.im 6 rfl) (by omega)).mono ?_; rw [HYS1.out]; rintro e w1 ⟨v, rfl, hu⟩; obtain ⟨I1, S1, hI1⟩ := S.new hu; clear S hu hI1; (try clear hc); have S := S1; clear S1; have hc := S.cells; simp only [Cells, cellsC, Im, Row, El, RTH, TreeH, TR, AU, Nat.zero_add, Nat.reduceAdd] at hc; obtain ⟨A9, c9, I1, e1, hc9, S1, hI1⟩ := S.frow 0 rfl; subst e1; clear S hI1; have S := S1; clear S1; simp only [List.set_cons_zero, List.set_cons_succ, List.nil_append] at S; have hc := S.cells; simp only [Cells, cellsC, Im, Row, El, RTH, TreeH, TR, AU, Nat.zero_add, Nat.reduceAdd] at hc) | (go_at_call 14; with_reducible refine (run_r (c := c9) S 4 rfl (by omega) kf ys1 (S.im 0 rfl) (by omega)).mono ?_; rw [HR0.out]; rintro e w1 ⟨v, rfl, hu⟩; obtain ⟨I1, S1, hI1⟩ := S.new hu; clear S hu hI1; (try clear hc); have S := S1; clear S1; have hc := S.cells; simp only [Cells, cellsC, Im, Row, El, RTH, TreeH, TR, AU, Nat.zero_add, Nat.reduceAdd] at hc; obtain ⟨A10, c10, I1, e1, hc10, S1, hI1⟩ := S.frow 0 rfl; subst e1; clear S hI1; have S := S1; clear S1; simp only [List.set_cons_zero, List.set_cons_succ, List.nil_append] at S; rw [runR_len] at hc10 ⊢; have hc := S.cells; simp only [Cells, cellsC, Im, Row, El, RTH, TreeH, TR, AU, Nat.zero_add, Nat.reduceAdd] at hc))
        have S1 := S
        clear S hc
        go_loopw [22, 23] (fun v i w' => ∃ (q : Nat) (z : Int), i = .int .i64 q ∧ v = .int .i64 z ∧ q ≤ ys1.length ∧ (0 ≤ z ∧ z < L.length) ∧ As (runR L z (ys1.drop q) = (runR L kf ys1).drop q) ∧ ∃ I', As (SH No I w (Im kI A10 (runR L kf ys1) :: Im kP A9 ys1 :: [Cel gT 27 [.slice a1 L.length d1, .slice a2 W.length d2], Im kW a1 L, Im kW a2 W, AU a L W, Im kW (some ⟨gB, 0, none⟩) [ys0, ys1], Im kP A8 ys1, Im kP Ax xs]) w' I')) (fun _ i _ => ys1.length - (intOf i).toNat)
        case atStart => exact ⟨0, kf, rfl, rfl, by omega, hkr, ⟨rfl⟩, _, ⟨S1⟩⟩
        case round =>
          clear S1
          obtain ⟨q, z, rfl, rfl, hqy, hz, HEQ, I', ⟨S⟩⟩ := hrel
          have hc := S.cells; simp only [Cells, cellsC, Im, Row, El, RTH, TreeH, TR, AU, Nat.zero_add, Nat.reduceAdd] at hc
          by_cases hql : q < ys1.length
          · have hql' : decide ((q : Int) < (ys1.length : Int)) = true := by simpa using hql
            have hqr : q < (runR L kf ys1).length := by rw [runR_len]; exact hql
            obtain ⟨bs, os, rfl, hcs⟩ := (S.im 0 rfl).int_at hqr
            obtain ⟨bp, op, rfl, hcp⟩ := (S.im 1 rfl).int_at hql
            have heq := HEQ.out
            rw [List.drop_eq_getElem_cons hql, List.drop_eq_getElem_cons hqr] at heq
            simp only [runR] at heq
            obtain ⟨e1, e2⟩ := List.cons.inj heq
            have HZR : As (0 ≤ nextR L z ys1[q] ∧ nextR L z ys1[q] < L.length) := ⟨by
              obtain ⟨zn, rfl⟩ : ∃ zn : Nat, z = zn := ⟨z.toNat, by omega⟩
              obtain ⟨j, e, hj⟩ := nextR_lt HG.out (n := zn) (by omega) ys1[q]
              rw [e]; have := hj.lt; omega⟩
            rw [← e1] at hcs
            have HE2 := As.mk e2
            obtain ⟨y, hy⟩ : ∃ y, ys1[q] = y := ⟨_, rfl⟩
            rw [hy] at hcs hcp HE2 HZR
            clear heq e1 e2 hy
            go_wp2_with (first | ((first | (with_reducible refine wpl_seal S ?_) | (with_reducible refine cw_seal S ?_) | (with_reducible refine bp_seal S ?_) | (with_reducible refine ca_seal S ?_)); clear S; (try clear hc); intro w1 S; (try simp only [List.set_cons_zero, List.set_cons_succ, List.nil_append] at S); have hc := S.cells; simp only [Cells, cellsC, Im, Row, El, RTH, TreeH, TR, AU, Nat.zero_add, Nat.reduceAdd] at hc))
            have hqp := ClE.cell (w := wr.drew) hcp
            have hq := S.cellsE; simp only [CellsE, cellsE, Im, Row, El, RTH, TreeH, TR, AU, Nat.zero_add, Nat.reduceAdd] at hq
            refine wp_region_ext [⟨[0, 1, 2, 3, 4, 5], [], 6, false⟩] [7] (by kernel_rfl) (by kernel_rfl) ?_
            refine mix_cons rfl rfl rfl ?_
            simp only [opsAt, List.getD_cons_succ, List.getD_cons_zero]
            repeat (go_big_quiet_step ((intro hC; first | rfl | (go_simp; first | done | rfl))))
            refine wpQuiet_nil ?_
            repeat (go_big_quiet_step ((intro hC; first | rfl | (go_simp; first | done | rfl))))
            refine wpQuiet_nil ?_
            clear hq hqp hc hcp
            replace S := S.drew
            replace hcs : wr.drew.cell? ⟨bs, os + q, none⟩ = some (.int .i64 (nextR L z y)) := hcs
            generalize wr.drew = w1 at S hcs ⊢
            have hc := S.cells; simp only [Cells, cellsC, Im, Row, El, RTH, TreeH, TR, AU, Nat.zero_add, Nat.reduceAdd] at hc
            go_wp2_with (first | ((first | (with_reducible refine mx_seal S ?_) | (with_reducible refine wpl_seal S ?_) | (with_reducible refine ca_seal S ?_)); clear S; (try clear hc); intro w1 S; (try simp only [List.set_cons_zero, List.set_cons_succ, List.nil_append] at S); have hc := S.cells; simp only [Cells, cellsC, Im, Row, El, RTH, TreeH, TR, AU, Nat.zero_add, Nat.reduceAdd] at hc) | (go_at_call 11; refine (xnext_c L W z y _ _ _ S.bd ⟨a1, d1, a2, d2, rfl, hd1, hd2, S.im 3 rfl, S.im 4 rfl⟩ (by omega) HL9.out).mono ?_; rintro e w1 ⟨rfl, hx⟩; replace hcs := hx.cell hcs; replace S := S.ext hx; clear hx; (try clear hc); have hc := S.cells; simp only [Cells, cellsC, Im, Row, El, RTH, TreeH, TR, AU, Nat.zero_add, Nat.reduceAdd] at hc))
            (first | refine ⟨(fun h => by cases h), ?_⟩ | skip); (first | ((first | (with_reducible refine mx_seal S ?_)); clear S; (try clear hc); intro w1 S; (try simp only [List.set_cons_zero, List.set_cons_succ, List.nil_append] at S); have hc := S.cells; simp only [Cells, cellsC, Im, Row, El, RTH, TreeH, TR, AU, Nat.zero_add, Nat.reduceAdd] at hc) | skip); (try simp only [Act.put, List.setIfInBounds_toArray, List.set_cons_succ, List.set_cons_zero])
            refine mix_last rfl ?_
            simp only [opsAt, List.getD_cons_succ, List.getD_cons_zero]
            repeat (go_big_quiet_step ((intro hC; first | rfl | (go_simp; first | done | rfl))))
            refine wpQuiet_nil ?_
            simp only [calmQ]
            have hc := S.cells; simp only [Cells, cellsC, Im, Row, El, RTH, TreeH, TR, AU, Nat.zero_add, Nat.reduceAdd] at hc
            go_wp2_with (first | ((first | (with_reducible refine wpl_seal S ?_) | (with_reducible refine cw_seal S ?_) | (with_reducible refine bp_seal S ?_) | (with_reducible refine ca_seal S ?_)); clear S; (try clear hc); intro w1 S; (try simp only [List.set_cons_zero, List.set_cons_succ, List.nil_append] at S); have hc := S.cells; simp only [Cells, cellsC, Im, Row, El, RTH, TreeH, TR, AU, Nat.zero_add, Nat.reduceAdd] at hc))
            go_roundw
            case rel => exact ⟨q + 1, _, by go_num, rfl, by omega, HZR.out, HE2, _, ⟨by first | exact S | trivial⟩⟩
            case measure => simp [intOf] <;> omega
          · have hql' : decide ((q : Int) < (ys1.length : Int)) = false := by simpa using hql
            go_wp2_with (first | ((first | (with_reducible refine wpl_seal S ?_) | (with_reducible refine cw_seal S ?_) | (with_reducible refine bp_seal S ?_) | (with_reducible refine ca_seal S ?_)); clear S; (try clear hc); intro w1 S; (try simp only [List.set_cons_zero, List.set_cons_succ, List.nil_append] at S); have hc := S.cells; simp only [Cells, cellsC, Im, Row, El, RTH, TreeH, TR, AU, Nat.zero_add, Nat.reduceAdd] at hc) | (go_at_call 14; with_reducible refine (run_r (c := c9) S 5 rfl (by omega) (-1) ys1 (S.im 1 rfl) (by omega)).mono ?_; rw [HRM.out]; rintro e w1 ⟨v, rfl, hu⟩; obtain ⟨I1, S1, hI1⟩ := S.new hu; clear S hu hI1; (try clear hc); have S := S1; clear S1; have hc := S.cells; simp only [Cells, cellsC, Im, Row, El, RTH, TreeH, TR, AU, Nat.zero_add, Nat.reduceAdd] at hc; obtain ⟨A11, c11, I1, e1, hc11, S1, hI1⟩ := S.frow 0 rfl; subst e1; clear S hI1; have S := S1; clear S1; simp only [List.set_cons_zero, List.set_cons_succ, List.nil_append] at S; have hc := S.cells; simp only [Cells, cellsC, Im, Row, El, RTH, TreeH, TR, AU, Nat.zero_add, Nat.reduceAdd] at hc) | (go_at_call 14; with_reducible refine (run_r (c := c9) S 6 rfl (by omega) (L.length : Int) ys1 (S.im 2 rfl) (by omega)).mono ?_; rw [HRL.out]; rintro e w1 ⟨v, rfl, hu⟩; obtain ⟨I1, S1, hI1⟩ := S.new hu; clear S hu hI1; (try clear hc); have S := S1; clear S1; have hc := S.cells; simp only [Cells, cellsC, Im, Row, El, RTH, TreeH, TR, AU, Nat.zero_add, Nat.reduceAdd] at hc; obtain ⟨A12, c12, I1, e1, hc12, S1, hI1⟩ := S.frow 0 rfl; subst e1; clear S hI1; have S := S1; clear S1; simp only [List.set_cons_zero, List.set_cons_succ, List.nil_append] at S; have hc := S.cells; simp only [Cells, cellsC, Im, Row, El, RTH, TreeH, TR, AU, Nat.zero_add, Nat.reduceAdd] at hc) | (go_at_call 12; refine (lives13_c _ _ S.bd).mono ?_; rintro e w1 ⟨rfl, hx⟩; replace S := S.ext hx; clear hx; (try clear hc); have hc := S.cells; simp only [Cells, cellsC, Im, Row, El, RTH, TreeH, TR, AU, Nat.zero_add, Nat.reduceAdd] at hc))
            go_ret
            exact ⟨rfl, S.out⟩
end Go.Proofs.Ytiemglijfdaliaa
