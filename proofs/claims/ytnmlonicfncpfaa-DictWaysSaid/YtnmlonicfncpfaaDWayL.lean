/- DictWays: the law's walk. -/
import Derived.Test.YtnmlonicfncpfaaDWayQ
import Derived.Test.YtnmlonicfncpfaaDLiv
namespace Go.Proofs.Ytnmlonicfncpfaa
open Go.RowKit X
set_option maxHeartbeats 8000000
set_option maxRecDepth 8000
set_option linter.unusedSimpArgs false
set_option linter.unusedVariables false
theorem lof_c (p : Pic) (A : Option Addr) (n : Nat) (w : World) (I : Fp) (hI : ∀ b, I b → b < w.heap.size) : Calls Try.prog 9 #[picV p A n] w fun e w' => e = .returned (picV p A n) ∧ Ext w w' := by
  have S := SH.start w I hI
  obtain ⟨c, m, a, b, l⟩ := p
  dsimp only [picV]
  have hc := S.cells; simp only [Cells, cellsC, Im, Row, El, DicO, Nat.zero_add, Nat.reduceAdd] at hc
  go_enter Try.func9, Try.ntmps9
  go_wp2_with (first | ((first | (with_reducible refine wpl_seal S ?_) | (with_reducible refine cw_seal S ?_) | (with_reducible refine bp_seal S ?_) | (with_reducible refine ca_seal S ?_)); clear S; (try clear hc); intro w1 S; (try simp only [List.set_cons_zero, List.set_cons_succ, List.nil_append] at S); have hc := S.cells; simp only [Cells, cellsC, Im, Row, El, DicO, Nat.zero_add, Nat.reduceAdd] at hc))
  refine bodyPost_ret (results_cell_row rfl _ _ _ 40 _ (0, 0) _ rfl (S.cel 0 rfl) Try.underlying40 rfl (by kernel_rfl)) rfl ?_
  exact ⟨rfl, S.out⟩
theorem sumN_mono {f : Nat → Nat} {k n : Nat} (h : k ≤ n) : sumN k f ≤ sumN n f := by
  induction n with
  | zero => obtain rfl : k = 0 := by omega
            exact Nat.le_refl _
  | succ n ih =>
    rw [sumN_succ]
    rcases Nat.lt_or_eq_of_le h with h | h
    · have := ih (by omega); omega
    · subst h; rw [sumN_succ]; exact Nat.le_refl _
theorem lways_c (x : Rg) (hx : x.ok) (r : Int) (hr : I64 r) (A : Option Addr) (na : Nat) (w : World) (I : Fp) (hI : ∀ b, I b → b < w.heap.size) (hl : Sl kI w I A x.l) :
    Calls Try.prog 3 #[rgV x A na, .int .i64 r] w fun e w' => e = .returned (.bool true) ∧ Ext w w' := by
  have S := (SH.start w I hI).know (h := Im kI A x.l) hl
  obtain ⟨p, hp⟩ : ∃ p, goodI x 3 = p := ⟨_, rfl⟩
  have hs : Small p := by rw [← hp]; exact good_small x (by decide) (by decide)
  obtain ⟨a, ha⟩ : ∃ a : Nat, aroundI r 8 = a := ⟨(aroundI r 8).toNat, by have := aroundI_range (n := r) (m := 8) (by decide); omega⟩
  have ha8 : a < 8 := by have := aroundI_range (n := r) (m := 8) (by decide); omega
  obtain ⟨D1, D2, n, e1, e2, v1, v2, n0, n8, ndiv, nv, nown, ⟨d1, d2, d3⟩, d4, d5⟩ := ways_law hs ha8
  obtain ⟨q, hq⟩ : ∃ q : Pic, (⟨p.c, p.m, layP p.x a⟩ : Pic) = q := ⟨_, rfl⟩
  have hsq := small_lay hs ha8
  rw [hq] at e2 hsq
  obtain ⟨V, hV⟩ : ∃ V, varsP [⟨p, exT⟩] = V := ⟨_, rfl⟩
  rw [hV] at nv
  have HG := As.mk (fun w I hI hl => ygoodI_c x hx 3 (by decide) (by decide) A na w I hI hl hp)
  have HAR := As.mk (fun w => around_c r 8 w hr (by decide) (by decide))
  rw [ha] at HAR
  have HT : As (TvOk ⟨p, exT⟩) := ⟨(SmT.mk hs (by decide : 0 < exT.length) (by decide : exT.length ≤ 8) exT_in exT_rising : SmT ⟨p, exT⟩).ok⟩
  have HLD : As (∀ (B T : Option Addr) (nb : Nat) w I (hI : ∀ b, I b → b < w.heap.size) (hl : Sl kP w I B p.x.l) (hc : p.x.l.length ≤ nb), Calls Try.prog 11 #[.agg #[.int .i64 p.c, .int .i64 p.m, .int .i64 p.x.w, .int .i64 p.x.h, .slice B p.x.l.length nb, .slice T 8 8], .int .i64 a] w fun e w' => ∃ B c, e = .returned (picV q B c) ∧ q.x.l.length ≤ c ∧ Upd w No I w' (Im kP B q.x.l)) := ⟨fun B T nb w I hI hl hc => by
    rw [← hq]
    exact ylaid_c ⟨p, exT⟩ a ha8 B T nb 8 w I hI hl hs.mx (by have := hs.len; show p.x.l.length ≤ 999999; omega) hc rfl (hs.lay a)⟩
  have HU := As.mk (And.intro hs.u hsq.u)
  have HLN := As.mk (And.intro hs.len hsq.len)
  have HE1 := As.mk e1
  have HE2 := As.mk e2
  have HV := As.mk hV
  have HNV := As.mk nv
  have HV1 := As.mk v1
  have HV2 := As.mk v2
  have HB1 := As.mk (And.intro d1 (And.intro d2 d3))
  have HB2 := As.mk (And.intro d4 d5)
  obtain ⟨s, hse⟩ : ∃ s : Nat → Nat, (fun k => sumN k fun v => (ownersP D2.L v).length) = s := ⟨_, rfl⟩
  have HS0 := As.mk (show s 0 = 0 by rw [← hse]; rfl)
  have HSN := As.mk (show s n = 16 by rw [← hse]; exact nown)
  have HSL := As.mk (show ∀ k, k ≤ n → s k ≤ 16 by intro k hk; rw [← hse, ← nown]; exact sumN_mono hk)
  have HSS := As.mk (show ∀ k : Nat, s (k + 1) = s k + (ownersP D2.L (k : Int)).length by intro k; rw [← hse]; exact sumN_succ k _)
  obtain ⟨L1, V1, a1⟩ := D1
  obtain ⟨L2, V2, a2⟩ := D2
  dsimp only at *
  clear hse
  clear hx hr hl hp hs ha hq hsq hV e1 e2 v1 v2 d1 d2 d3 d4 d5 nv nown
  obtain ⟨b, mv, xw, xh, l⟩ := x
  dsimp only [rgV] at *
  obtain ⟨pc, pm, px⟩ := p
  obtain ⟨qc, qm, qx⟩ := q
  obtain ⟨pw, ph, pl⟩ := px
  obtain ⟨qw, qh, ql⟩ := qx
  dsimp only [picV] at *
  have hc := S.cells; simp only [Cells, cellsC, Im, Row, El, DicO, Nat.zero_add, Nat.reduceAdd] at hc
  go_enter Try.func3, Try.ntmps3
  go_upto_region 9 with (first | ((first | (with_reducible refine wpl_seal S ?_) | (with_reducible refine cw_seal S ?_) | (with_reducible refine bp_seal S ?_) | (with_reducible refine ca_seal S ?_)); clear S; (try clear hc); intro w1 S; (try simp only [List.set_cons_zero, List.set_cons_succ, List.nil_append] at S); have hc := S.cells; simp only [Cells, cellsC, Im, Row, El, DicO, Nat.zero_add, Nat.reduceAdd] at hc) | (go_at_call 6; refine (HG.out _ _ S.bd (S.im 1 rfl)).mono ?_; rintro e w1 ⟨B, nb, rfl, hnb, hu⟩; obtain ⟨I1, S1, hI1⟩ := S.new hu; clear S hu hI1; (try clear hc); have S := S1; clear S1; have hc := S.cells; simp only [Cells, cellsC, Im, Row, El, DicO, Nat.zero_add, Nat.reduceAdd] at hc; have hc := S.cells; simp only [Cells, cellsC, Im, Row, El, DicO, Nat.zero_add, Nat.reduceAdd] at hc) | (go_at_call 7; refine (newD_c _ _ S.bd).mono ?_; rintro e w1 ⟨gd, rfl, hu⟩; obtain ⟨I1, S1, hI1⟩ := S.new hu; clear S hu hI1; (try clear hc); have S := S1; clear S1; have hc := S.cells; simp only [Cells, cellsC, Im, Row, El, DicO, Nat.zero_add, Nat.reduceAdd] at hc; have hc := S.cells; simp only [Cells, cellsC, Im, Row, El, DicO, Nat.zero_add, Nat.reduceAdd] at hc) | (go_at_call 9; refine (lof_c ⟨pc, pm, ⟨pw, ph, pl⟩⟩ B nb _ _ S.bd).mono ?_; rintro e w1 ⟨rfl, hx⟩; replace S := S.ext hx; clear hx; (try clear hc); have hc := S.cells; simp only [Cells, cellsC, Im, Row, El, DicO, Nat.zero_add, Nat.reduceAdd] at hc) | (go_at_call 8; clear hc; obtain ⟨gt, egt⟩ := S.name 1 rfl; rw [← egt] at S ⊢; clear egt; obtain ⟨J1, S1, -⟩ := S.lit 1 rfl (k := kI) (xs := exT) (flat_int exT); clear S; refine (add_s _ ⟨[], [], 0⟩ _ ⟨pc, pm, ⟨pw, ph, pl⟩⟩ exT B _ nb 8 S1 0 rfl (S1.im 3 rfl) (Nat.le_trans HLN.out.1 (by decide)) HU.out.1 (S1.im 1 rfl) (by decide) (by decide) (by decide) (by decide) (by decide) HE1.out).mono ?_; rintro e w1 ⟨rfl, J3, S3⟩; clear S1; have S := S3; clear S3; simp only [List.set_cons_zero, List.set_cons_succ, List.nil_append] at S; have hc := S.cells; simp only [Cells, cellsC, Im, Row, El, DicO, Nat.zero_add, Nat.reduceAdd] at hc) | (go_at_call 10; refine (variants_c _ _ _ _ S 0 rfl).mono ?_; rw [HV1.out]; rintro e w1 ⟨rfl, rfl⟩))
  have hq := S.cellsE; simp only [CellsE, cellsE, Im, Row, El, DicO, Nat.zero_add, Nat.reduceAdd] at hq
  refine wp_region_fork3 [0, 1] 2 4 [] 3 4 [⟨[], [], 4, true⟩, ⟨[], [], 5, false⟩] [] [⟨[], [], 3, true⟩, ⟨[], [], 5, false⟩] [] [⟨[], [], 2, true⟩, ⟨[], [], 3, true⟩, ⟨[], [], 5, false⟩] [] #[true, true, true, true, true, false] (by kernel_rfl) (by kernel_rfl) rfl rfl rfl rfl rfl rfl ?_
  (try simp only [opsAt, List.getD_cons_succ, List.getD_cons_zero])
  repeat (go_big_quiet_step ((intro hC; first | rfl | (go_simp; first | done | rfl))))
  refine wpQuiet_nil ?_
  clear hc hq
  replace S := S.drew
  generalize w1.drew = w2 at S ⊢
  refine ⟨?_, ?_⟩
  · have hc := S.cells; simp only [Cells, cellsC, Im, Row, El, DicO, Nat.zero_add, Nat.reduceAdd] at hc
    go_wp2_with (first | ((first | (with_reducible refine mx_seal S ?_) | (with_reducible refine wpl_seal S ?_) | (with_reducible refine ca_seal S ?_)); clear S; (try clear hc); intro w1 S; (try simp only [List.set_cons_zero, List.set_cons_succ, List.nil_append] at S); have hc := S.cells; simp only [Cells, cellsC, Im, Row, El, DicO, Nat.zero_add, Nat.reduceAdd] at hc) | (go_at_call 12; refine (HAR.out _).mono ?_; rintro e w1 ⟨rfl, rfl⟩))
    refine ⟨Ext.refl _, ?_⟩
    (try simp only [opsAt, List.getD_cons_succ, List.getD_cons_zero])
    repeat (go_big_quiet_step ((intro hC; first | rfl | (go_simp; first | done | rfl))))
    refine wpQuiet_nil ?_
    refine ⟨?_, ?_⟩
    · have hc := S.cells; simp only [Cells, cellsC, Im, Row, El, DicO, Nat.zero_add, Nat.reduceAdd] at hc
      go_wp2_with (first | ((first | (with_reducible refine mx_seal S ?_) | (with_reducible refine wpl_seal S ?_) | (with_reducible refine ca_seal S ?_)); clear S; (try clear hc); intro w1 S; (try simp only [List.set_cons_zero, List.set_cons_succ, List.nil_append] at S); have hc := S.cells; simp only [Cells, cellsC, Im, Row, El, DicO, Nat.zero_add, Nat.reduceAdd] at hc) | (go_at_call 11; refine (HLD.out B _ nb _ _ S.bd (S.im 4 rfl) hnb).mono ?_; rintro e w1 ⟨Bq, nq, rfl, hnq, hu⟩; have hxf := hu.ext; obtain ⟨I1, S1, hI1⟩ := S.new hu; clear S hu hI1; (try clear hc); have S := S1; clear S1; have hc := S.cells; simp only [Cells, cellsC, Im, Row, El, DicO, Nat.zero_add, Nat.reduceAdd] at hc; have hc := S.cells; simp only [Cells, cellsC, Im, Row, El, DicO, Nat.zero_add, Nat.reduceAdd] at hc))
      refine ⟨hxf, ?_⟩
      refine mix_cons rfl rfl rfl ?_
      simp only [opsAt, List.getD_cons_succ, List.getD_cons_zero]
      repeat (go_big_quiet_step ((intro hC; first | rfl | (go_simp; first | done | rfl))))
      refine wpQuiet_nil ?_
      repeat (go_big_quiet_step ((intro hC; first | rfl | (go_simp; first | done | rfl))))
      refine wpQuiet_nil ?_
      go_wp2_with (first | ((first | (with_reducible refine mx_seal S ?_) | (with_reducible refine wpl_seal S ?_) | (with_reducible refine ca_seal S ?_)); clear S; (try clear hc); intro w1 S; (try simp only [List.set_cons_zero, List.set_cons_succ, List.nil_append] at S); have hc := S.cells; simp only [Cells, cellsC, Im, Row, El, DicO, Nat.zero_add, Nat.reduceAdd] at hc))
      refine ⟨fun _ => Ext.alloc _ _, ?_⟩
      (first | refine ⟨(fun h => by cases h), ?_⟩ | skip); (first | ((first | (with_reducible refine mx_seal S ?_)); clear S; (try clear hc); intro w1 S; (try simp only [List.set_cons_zero, List.set_cons_succ, List.nil_append] at S); have hc := S.cells; simp only [Cells, cellsC, Im, Row, El, DicO, Nat.zero_add, Nat.reduceAdd] at hc) | skip); (try simp only [Act.put, List.setIfInBounds_toArray, List.set_cons_succ, List.set_cons_zero])
      refine mix_cons rfl rfl rfl ?_
      simp only [opsAt, List.getD_cons_succ, List.getD_cons_zero]
      repeat (go_big_quiet_step ((intro hC; first | rfl | (go_simp; first | done | rfl))))
      refine wpQuiet_nil ?_
      repeat (go_big_quiet_step ((intro hC; first | rfl | (go_simp; first | done | rfl))))
      refine wpQuiet_nil ?_
      go_wp2_with (first | ((first | (with_reducible refine mx_seal S ?_) | (with_reducible refine wpl_seal S ?_) | (with_reducible refine ca_seal S ?_)); clear S; (try clear hc); intro w1 S; (try simp only [List.set_cons_zero, List.set_cons_succ, List.nil_append] at S); have hc := S.cells; simp only [Cells, cellsC, Im, Row, El, DicO, Nat.zero_add, Nat.reduceAdd] at hc))
      (first | refine ⟨(fun h => by cases h), ?_⟩ | skip); (first | ((first | (with_reducible refine mx_seal S ?_)); clear S; (try clear hc); intro w1 S; (try simp only [List.set_cons_zero, List.set_cons_succ, List.nil_append] at S); have hc := S.cells; simp only [Cells, cellsC, Im, Row, El, DicO, Nat.zero_add, Nat.reduceAdd] at hc) | skip); (try simp only [Act.put, List.setIfInBounds_toArray, List.set_cons_succ, List.set_cons_zero])
      refine mix_last rfl ?_
      simp only [opsAt, List.getD_cons_succ, List.getD_cons_zero]
      repeat (go_big_quiet_step ((intro hC; first | rfl | (go_simp; first | done | rfl))))
      refine wpQuiet_nil ?_
      simp only [calmQ]
      go_wp2_with (first | ((first | (with_reducible refine wpl_seal S ?_) | (with_reducible refine cw_seal S ?_) | (with_reducible refine bp_seal S ?_) | (with_reducible refine ca_seal S ?_)); clear S; (try clear hc); intro w1 S; (try simp only [List.set_cons_zero, List.set_cons_succ, List.nil_append] at S); have hc := S.cells; simp only [Cells, cellsC, Im, Row, El, DicO, Nat.zero_add, Nat.reduceAdd] at hc) | (go_at_call 9; refine (lof_c ⟨qc, qm, ⟨qw, qh, ql⟩⟩ Bq nq _ _ S.bd).mono ?_; rintro e w1 ⟨rfl, hx⟩; replace S := S.ext hx; clear hx; (try clear hc); have hc := S.cells; simp only [Cells, cellsC, Im, Row, El, DicO, Nat.zero_add, Nat.reduceAdd] at hc) | (go_at_call 8; refine (add_s _ ⟨L1, V1, a1⟩ _ ⟨qc, qm, ⟨qw, qh, ql⟩⟩ exT Bq _ nq 8 S 3 rfl (S.im 1 rfl) (Nat.le_trans HLN.out.2 (by decide)) HU.out.2 (S.im 4 rfl) (by decide) (by decide) (by rw [HB1.out.1]; decide) (by rw [HV1.out]; omega) ⟨HB1.out.2.1, Int.le_trans HB1.out.2.2 (by decide)⟩ HE2.out).mono ?_; rintro e w1 ⟨rfl, J3, S3⟩; clear S; have S := S3; clear S3; simp only [List.set_cons_zero, List.set_cons_succ, List.nil_append] at S; have hc := S.cells; simp only [Cells, cellsC, Im, Row, El, DicO, Nat.zero_add, Nat.reduceAdd] at hc))
      obtain ⟨g9, eg9⟩ := S.name 2 rfl; rw [← eg9] at S ⊢; clear eg9
      have S1 := ((S.sel [2, 3, 4, 6] (by decide) rfl (by simp) : SH _ _ _ [_, _, _, _] _ _) : SH _ _ _ [_, _, _, _] _ _)
      clear S hc hnq
      go_loopw [13, 14] (fun ov vv w' => ∃ (k : Nat) (J : Fp), vv = .int .i64 k ∧ k ≤ n ∧ ov = .int .i64 (s k) ∧ As (SH No I w [Cel g9 44 [.int .i64 pc, .int .i64 pm, .int .i64 pw, .int .i64 ph, .slice B pl.length nb, .slice (some ⟨gt, 0, none⟩) 8 8], DicO gd L2 V2 a2, Im kI (some ⟨gt, 0, none⟩) exT, Im kP B pl] w' J)) (fun _ vv _ => n - (intOf vv).toNat)
      case atStart => exact ⟨0, _, rfl, by omega, by rw [HS0.out]; rfl, ⟨S1⟩⟩
      case round =>
        clear S1
        obtain ⟨k, J, rfl, hk, rfl, ⟨S⟩⟩ := hrel
        by_cases hlt : k < n
        · have hlt' : decide ((k : Int) < n) = true := decide_eq_true (by omega)
          obtain ⟨ow, how⟩ : ∃ ow, ownersP L2 (k : Int) = ow := ⟨_, rfl⟩
          have HO := As.mk how
          have HSK := As.mk (HSS.out k)
          rw [how] at HSK
          obtain ⟨sk, hsk⟩ : ∃ sk, s k = sk := ⟨_, rfl⟩
          rw [hsk] at HSK ⊢
          have HB3 := HSL.out (k + 1) (by omega)
          rw [HSK.out] at HB3
          clear how hsk
          have hc := S.cells; simp only [Cells, cellsC, Im, Row, El, DicO, Nat.zero_add, Nat.reduceAdd] at hc
          go_wp2_with (first | ((first | (with_reducible refine wpl_seal S ?_) | (with_reducible refine cw_seal S ?_) | (with_reducible refine bp_seal S ?_) | (with_reducible refine ca_seal S ?_)); clear S; (try clear hc); intro w1 S; (try simp only [List.set_cons_zero, List.set_cons_succ, List.nil_append] at S); have hc := S.cells; simp only [Cells, cellsC, Im, Row, El, DicO, Nat.zero_add, Nat.reduceAdd] at hc) | (go_at_call 13; refine (owners_s _ _ _ _ (k : Int) S 1 rfl (by rw [HB2.out.1]; decide) HB2.out.2 HO.out).mono ?_; rintro e w1 ⟨r, rfl, hu⟩; obtain ⟨I1, S1, hI1⟩ := S.new hu; clear S hu hI1; (try clear hc); have S := S1; clear S1; have hc := S.cells; simp only [Cells, cellsC, Im, Row, El, DicO, Nat.zero_add, Nat.reduceAdd] at hc; obtain ⟨Ar, cr, er, -, -⟩ := S.row 0 rfl; subst er))
          go_roundw
          case rel => exact ⟨k + 1, _, by go_num, by omega, by rw [HSK.out]; go_num, ⟨(S.sel [1, 2, 3, 4] (by decide) rfl (by simp) : SH _ _ _ [_, _, _, _] _ _)⟩⟩
          case measure => simp [intOf]; omega
        · have hlt' : decide ((k : Int) < n) = false := decide_eq_false (by omega)
          obtain rfl : k = n := by omega
          rw [HSN.out]
          have hmx : max (k : Int) 1 = k := Int.max_eq_left (by omega)
          have hdv : (8 : Int) % (k : Int) = 0 := by have : ((8 % k : Nat) : Int) = 0 := by rw [ndiv]; rfl
                                                     exact this
          have hk0 : ((k : Int) == 0) = false := by rw [beq_eq_false_iff_ne]; omega
          have hc := S.cells; simp only [Cells, cellsC, Im, Row, El, DicO, Nat.zero_add, Nat.reduceAdd] at hc
          go_wp2_with (first | ((first | (with_reducible refine wpl_seal S ?_) | (with_reducible refine cw_seal S ?_) | (with_reducible refine bp_seal S ?_) | (with_reducible refine ca_seal S ?_)); clear S; (try clear hc); intro w1 S; (try simp only [List.set_cons_zero, List.set_cons_succ, List.nil_append] at S); have hc := S.cells; simp only [Cells, cellsC, Im, Row, El, DicO, Nat.zero_add, Nat.reduceAdd] at hc) | (go_at_call 10; refine (variants_c _ _ _ _ S 1 rfl).mono ?_; rw [HV2.out]; rintro e w1 ⟨rfl, rfl⟩) | (go_at_call 14; obtain ⟨J1, S1, -⟩ := S.lit 0 rfl (k := kyT) (xs := [(⟨⟨pc, pm, ⟨pw, ph, pl⟩⟩, exT⟩ : Tv)]) (Flat.single ⟨B, nb, _, 8, rfl, ⟨hnb, S.im 4 rfl⟩, (by decide : exT.length ≤ 8), S.im 3 rfl⟩); clear S hc; have S := S1; clear S1; simp only [List.set_cons_zero, List.set_cons_succ, List.nil_append] at S; refine (yvars_c [(⟨⟨pc, pm, ⟨pw, ph, pl⟩⟩, exT⟩ : Tv)] _ _ _ _ S.bd (S.im 0 rfl) (by simp) (by intro t ht; rw [List.mem_singleton] at ht; subst ht; exact HT.out) HV.out).mono ?_; rw [HNV.out]; rintro e w1 ⟨Bv, cv, rfl, -, hu⟩; obtain ⟨I1, S1, hI1⟩ := S.new hu; clear S hu hI1; (try clear hc); have S := S1; clear S1; have hc := S.cells; simp only [Cells, cellsC, Im, Row, El, DicO, Nat.zero_add, Nat.reduceAdd] at hc; have hc := S.cells; simp only [Cells, cellsC, Im, Row, El, DicO, Nat.zero_add, Nat.reduceAdd] at hc) | (go_at_call 15; refine (dlives_c _ _ S.bd).mono ?_; rintro e w1 ⟨rfl, hx⟩; replace S := S.ext hx; clear hx; (try clear hc); have hc := S.cells; simp only [Cells, cellsC, Im, Row, El, DicO, Nat.zero_add, Nat.reduceAdd] at hc))
          go_ret
          exact ⟨rfl, S.out⟩
    · have hc := S.cells; simp only [Cells, cellsC, Im, Row, El, DicO, Nat.zero_add, Nat.reduceAdd] at hc
      go_wp2_with (first | ((first | (with_reducible refine mx_seal S ?_) | (with_reducible refine wpl_seal S ?_) | (with_reducible refine ca_seal S ?_)); clear S; (try clear hc); intro w1 S; (try simp only [List.set_cons_zero, List.set_cons_succ, List.nil_append] at S); have hc := S.cells; simp only [Cells, cellsC, Im, Row, El, DicO, Nat.zero_add, Nat.reduceAdd] at hc))
      refine ⟨Ext.alloc _ _, ?_⟩
      (first | refine ⟨(fun h => by cases h), ?_⟩ | skip); (first | ((first | (with_reducible refine mx_seal S ?_)); clear S; (try clear hc); intro w1 S; (try simp only [List.set_cons_zero, List.set_cons_succ, List.nil_append] at S); have hc := S.cells; simp only [Cells, cellsC, Im, Row, El, DicO, Nat.zero_add, Nat.reduceAdd] at hc) | skip); (try simp only [Act.put, List.setIfInBounds_toArray, List.set_cons_succ, List.set_cons_zero])
      refine mix_cons rfl rfl rfl ?_
      simp only [opsAt, List.getD_cons_succ, List.getD_cons_zero]
      repeat (go_big_quiet_step ((intro hC; first | rfl | (go_simp; first | done | rfl))))
      refine wpQuiet_nil ?_
      repeat (go_big_quiet_step ((intro hC; first | rfl | (go_simp; first | done | rfl))))
      refine wpQuiet_nil ?_
      go_wp2_with (first | ((first | (with_reducible refine mx_seal S ?_) | (with_reducible refine wpl_seal S ?_) | (with_reducible refine ca_seal S ?_)); clear S; (try clear hc); intro w1 S; (try simp only [List.set_cons_zero, List.set_cons_succ, List.nil_append] at S); have hc := S.cells; simp only [Cells, cellsC, Im, Row, El, DicO, Nat.zero_add, Nat.reduceAdd] at hc) | (go_at_call 11; refine (HLD.out B _ nb _ _ S.bd (S.im 5 rfl) hnb).mono ?_; rintro e w1 ⟨Bq, nq, rfl, hnq, hu⟩; have hxf := hu.ext; obtain ⟨I1, S1, hI1⟩ := S.new hu; clear S hu hI1; (try clear hc); have S := S1; clear S1; have hc := S.cells; simp only [Cells, cellsC, Im, Row, El, DicO, Nat.zero_add, Nat.reduceAdd] at hc; have hc := S.cells; simp only [Cells, cellsC, Im, Row, El, DicO, Nat.zero_add, Nat.reduceAdd] at hc))
      refine ⟨fun _ => hxf, ?_⟩
      (first | refine ⟨(fun h => by cases h), ?_⟩ | skip); (first | ((first | (with_reducible refine mx_seal S ?_)); clear S; (try clear hc); intro w1 S; (try simp only [List.set_cons_zero, List.set_cons_succ, List.nil_append] at S); have hc := S.cells; simp only [Cells, cellsC, Im, Row, El, DicO, Nat.zero_add, Nat.reduceAdd] at hc) | skip); (try simp only [Act.put, List.setIfInBounds_toArray, List.set_cons_succ, List.set_cons_zero])
      refine mix_cons rfl rfl rfl ?_
      simp only [opsAt, List.getD_cons_succ, List.getD_cons_zero]
      repeat (go_big_quiet_step ((intro hC; first | rfl | (go_simp; first | done | rfl))))
      refine wpQuiet_nil ?_
      repeat (go_big_quiet_step ((intro hC; first | rfl | (go_simp; first | done | rfl))))
      refine wpQuiet_nil ?_
      go_wp2_with (first | ((first | (with_reducible refine mx_seal S ?_) | (with_reducible refine wpl_seal S ?_) | (with_reducible refine ca_seal S ?_)); clear S; (try clear hc); intro w1 S; (try simp only [List.set_cons_zero, List.set_cons_succ, List.nil_append] at S); have hc := S.cells; simp only [Cells, cellsC, Im, Row, El, DicO, Nat.zero_add, Nat.reduceAdd] at hc))
      (first | refine ⟨(fun h => by cases h), ?_⟩ | skip); (first | ((first | (with_reducible refine mx_seal S ?_)); clear S; (try clear hc); intro w1 S; (try simp only [List.set_cons_zero, List.set_cons_succ, List.nil_append] at S); have hc := S.cells; simp only [Cells, cellsC, Im, Row, El, DicO, Nat.zero_add, Nat.reduceAdd] at hc) | skip); (try simp only [Act.put, List.setIfInBounds_toArray, List.set_cons_succ, List.set_cons_zero])
      refine mix_last rfl ?_
      simp only [opsAt, List.getD_cons_succ, List.getD_cons_zero]
      repeat (go_big_quiet_step ((intro hC; first | rfl | (go_simp; first | done | rfl))))
      refine wpQuiet_nil ?_
      simp only [calmQ]
      replace S := ((S.sel [1, 0, 2, 3, 4, 5, 6, 7, 8] (by decide) rfl (by simp) : SH _ _ _ [_, _, _, _, _, _, _, _, _] _ _) : SH _ _ _ [_, _, _, _, _, _, _, _, _] _ _)
      have hc := S.cells; simp only [Cells, cellsC, Im, Row, El, DicO, Nat.zero_add, Nat.reduceAdd] at hc
      go_wp2_with (first | ((first | (with_reducible refine wpl_seal S ?_) | (with_reducible refine cw_seal S ?_) | (with_reducible refine bp_seal S ?_) | (with_reducible refine ca_seal S ?_)); clear S; (try clear hc); intro w1 S; (try simp only [List.set_cons_zero, List.set_cons_succ, List.nil_append] at S); have hc := S.cells; simp only [Cells, cellsC, Im, Row, El, DicO, Nat.zero_add, Nat.reduceAdd] at hc) | (go_at_call 9; refine (lof_c ⟨qc, qm, ⟨qw, qh, ql⟩⟩ Bq nq _ _ S.bd).mono ?_; rintro e w1 ⟨rfl, hx⟩; replace S := S.ext hx; clear hx; (try clear hc); have hc := S.cells; simp only [Cells, cellsC, Im, Row, El, DicO, Nat.zero_add, Nat.reduceAdd] at hc) | (go_at_call 8; refine (add_s _ ⟨L1, V1, a1⟩ _ ⟨qc, qm, ⟨qw, qh, ql⟩⟩ exT Bq _ nq 8 S 3 rfl (S.im 1 rfl) (Nat.le_trans HLN.out.2 (by decide)) HU.out.2 (S.im 4 rfl) (by decide) (by decide) (by rw [HB1.out.1]; decide) (by rw [HV1.out]; omega) ⟨HB1.out.2.1, Int.le_trans HB1.out.2.2 (by decide)⟩ HE2.out).mono ?_; rintro e w1 ⟨rfl, J3, S3⟩; clear S; have S := S3; clear S3; simp only [List.set_cons_zero, List.set_cons_succ, List.nil_append] at S; have hc := S.cells; simp only [Cells, cellsC, Im, Row, El, DicO, Nat.zero_add, Nat.reduceAdd] at hc))
      obtain ⟨g9, eg9⟩ := S.name 2 rfl; rw [← eg9] at S ⊢; clear eg9
      have S1 := ((S.sel [2, 3, 4, 6] (by decide) rfl (by simp) : SH _ _ _ [_, _, _, _] _ _) : SH _ _ _ [_, _, _, _] _ _)
      clear S hc hnq
      go_loopw [13, 14] (fun ov vv w' => ∃ (k : Nat) (J : Fp), vv = .int .i64 k ∧ k ≤ n ∧ ov = .int .i64 (s k) ∧ As (SH No I w [Cel g9 44 [.int .i64 pc, .int .i64 pm, .int .i64 pw, .int .i64 ph, .slice B pl.length nb, .slice (some ⟨gt, 0, none⟩) 8 8], DicO gd L2 V2 a2, Im kI (some ⟨gt, 0, none⟩) exT, Im kP B pl] w' J)) (fun _ vv _ => n - (intOf vv).toNat)
      case atStart => exact ⟨0, _, rfl, by omega, by rw [HS0.out]; rfl, ⟨S1⟩⟩
      case round =>
        clear S1
        obtain ⟨k, J, rfl, hk, rfl, ⟨S⟩⟩ := hrel
        by_cases hlt : k < n
        · have hlt' : decide ((k : Int) < n) = true := decide_eq_true (by omega)
          obtain ⟨ow, how⟩ : ∃ ow, ownersP L2 (k : Int) = ow := ⟨_, rfl⟩
          have HO := As.mk how
          have HSK := As.mk (HSS.out k)
          rw [how] at HSK
          obtain ⟨sk, hsk⟩ : ∃ sk, s k = sk := ⟨_, rfl⟩
          rw [hsk] at HSK ⊢
          have HB3 := HSL.out (k + 1) (by omega)
          rw [HSK.out] at HB3
          clear how hsk
          have hc := S.cells; simp only [Cells, cellsC, Im, Row, El, DicO, Nat.zero_add, Nat.reduceAdd] at hc
          go_wp2_with (first | ((first | (with_reducible refine wpl_seal S ?_) | (with_reducible refine cw_seal S ?_) | (with_reducible refine bp_seal S ?_) | (with_reducible refine ca_seal S ?_)); clear S; (try clear hc); intro w1 S; (try simp only [List.set_cons_zero, List.set_cons_succ, List.nil_append] at S); have hc := S.cells; simp only [Cells, cellsC, Im, Row, El, DicO, Nat.zero_add, Nat.reduceAdd] at hc) | (go_at_call 13; refine (owners_s _ _ _ _ (k : Int) S 1 rfl (by rw [HB2.out.1]; decide) HB2.out.2 HO.out).mono ?_; rintro e w1 ⟨r, rfl, hu⟩; obtain ⟨I1, S1, hI1⟩ := S.new hu; clear S hu hI1; (try clear hc); have S := S1; clear S1; have hc := S.cells; simp only [Cells, cellsC, Im, Row, El, DicO, Nat.zero_add, Nat.reduceAdd] at hc; obtain ⟨Ar, cr, er, -, -⟩ := S.row 0 rfl; subst er))
          go_roundw
          case rel => exact ⟨k + 1, _, by go_num, by omega, by rw [HSK.out]; go_num, ⟨(S.sel [1, 2, 3, 4] (by decide) rfl (by simp) : SH _ _ _ [_, _, _, _] _ _)⟩⟩
          case measure => simp [intOf]; omega
        · have hlt' : decide ((k : Int) < n) = false := decide_eq_false (by omega)
          obtain rfl : k = n := by omega
          rw [HSN.out]
          have hmx : max (k : Int) 1 = k := Int.max_eq_left (by omega)
          have hdv : (8 : Int) % (k : Int) = 0 := by have : ((8 % k : Nat) : Int) = 0 := by rw [ndiv]; rfl
                                                     exact this
          have hk0 : ((k : Int) == 0) = false := by rw [beq_eq_false_iff_ne]; omega
          have hc := S.cells; simp only [Cells, cellsC, Im, Row, El, DicO, Nat.zero_add, Nat.reduceAdd] at hc
          go_wp2_with (first | ((first | (with_reducible refine wpl_seal S ?_) | (with_reducible refine cw_seal S ?_) | (with_reducible refine bp_seal S ?_) | (with_reducible refine ca_seal S ?_)); clear S; (try clear hc); intro w1 S; (try simp only [List.set_cons_zero, List.set_cons_succ, List.nil_append] at S); have hc := S.cells; simp only [Cells, cellsC, Im, Row, El, DicO, Nat.zero_add, Nat.reduceAdd] at hc) | (go_at_call 10; refine (variants_c _ _ _ _ S 1 rfl).mono ?_; rw [HV2.out]; rintro e w1 ⟨rfl, rfl⟩) | (go_at_call 14; obtain ⟨J1, S1, -⟩ := S.lit 0 rfl (k := kyT) (xs := [(⟨⟨pc, pm, ⟨pw, ph, pl⟩⟩, exT⟩ : Tv)]) (Flat.single ⟨B, nb, _, 8, rfl, ⟨hnb, S.im 4 rfl⟩, (by decide : exT.length ≤ 8), S.im 3 rfl⟩); clear S hc; have S := S1; clear S1; simp only [List.set_cons_zero, List.set_cons_succ, List.nil_append] at S; refine (yvars_c [(⟨⟨pc, pm, ⟨pw, ph, pl⟩⟩, exT⟩ : Tv)] _ _ _ _ S.bd (S.im 0 rfl) (by simp) (by intro t ht; rw [List.mem_singleton] at ht; subst ht; exact HT.out) HV.out).mono ?_; rw [HNV.out]; rintro e w1 ⟨Bv, cv, rfl, -, hu⟩; obtain ⟨I1, S1, hI1⟩ := S.new hu; clear S hu hI1; (try clear hc); have S := S1; clear S1; have hc := S.cells; simp only [Cells, cellsC, Im, Row, El, DicO, Nat.zero_add, Nat.reduceAdd] at hc; have hc := S.cells; simp only [Cells, cellsC, Im, Row, El, DicO, Nat.zero_add, Nat.reduceAdd] at hc) | (go_at_call 15; refine (dlives_c _ _ S.bd).mono ?_; rintro e w1 ⟨rfl, hx⟩; replace S := S.ext hx; clear hx; (try clear hc); have hc := S.cells; simp only [Cells, cellsC, Im, Row, El, DicO, Nat.zero_add, Nat.reduceAdd] at hc))
          go_ret
          exact ⟨rfl, S.out⟩
  · have hc := S.cells; simp only [Cells, cellsC, Im, Row, El, DicO, Nat.zero_add, Nat.reduceAdd] at hc
    go_wp2_with (first | ((first | (with_reducible refine mx_seal S ?_) | (with_reducible refine wpl_seal S ?_) | (with_reducible refine ca_seal S ?_)); clear S; (try clear hc); intro w1 S; (try simp only [List.set_cons_zero, List.set_cons_succ, List.nil_append] at S); have hc := S.cells; simp only [Cells, cellsC, Im, Row, El, DicO, Nat.zero_add, Nat.reduceAdd] at hc))
    refine ⟨Ext.alloc _ _, ?_⟩
    (first | refine ⟨(fun h => by cases h), ?_⟩ | skip); (first | ((first | (with_reducible refine mx_seal S ?_)); clear S; (try clear hc); intro w1 S; (try simp only [List.set_cons_zero, List.set_cons_succ, List.nil_append] at S); have hc := S.cells; simp only [Cells, cellsC, Im, Row, El, DicO, Nat.zero_add, Nat.reduceAdd] at hc) | skip); (try simp only [Act.put, List.setIfInBounds_toArray, List.set_cons_succ, List.set_cons_zero])
    refine mix_cons rfl rfl rfl ?_
    simp only [opsAt, List.getD_cons_succ, List.getD_cons_zero]
    repeat (go_big_quiet_step ((intro hC; first | rfl | (go_simp; first | done | rfl))))
    refine wpQuiet_nil ?_
    repeat (go_big_quiet_step ((intro hC; first | rfl | (go_simp; first | done | rfl))))
    refine wpQuiet_nil ?_
    go_wp2_with (first | ((first | (with_reducible refine mx_seal S ?_) | (with_reducible refine wpl_seal S ?_) | (with_reducible refine ca_seal S ?_)); clear S; (try clear hc); intro w1 S; (try simp only [List.set_cons_zero, List.set_cons_succ, List.nil_append] at S); have hc := S.cells; simp only [Cells, cellsC, Im, Row, El, DicO, Nat.zero_add, Nat.reduceAdd] at hc) | (go_at_call 12; refine (HAR.out _).mono ?_; rintro e w1 ⟨rfl, rfl⟩))
    refine ⟨fun _ => Ext.refl _, ?_⟩
    (first | refine ⟨(fun h => by cases h), ?_⟩ | skip); (first | ((first | (with_reducible refine mx_seal S ?_)); clear S; (try clear hc); intro w1 S; (try simp only [List.set_cons_zero, List.set_cons_succ, List.nil_append] at S); have hc := S.cells; simp only [Cells, cellsC, Im, Row, El, DicO, Nat.zero_add, Nat.reduceAdd] at hc) | skip); (try simp only [Act.put, List.setIfInBounds_toArray, List.set_cons_succ, List.set_cons_zero])
    refine mix_cons rfl rfl rfl ?_
    simp only [opsAt, List.getD_cons_succ, List.getD_cons_zero]
    repeat (go_big_quiet_step ((intro hC; first | rfl | (go_simp; first | done | rfl))))
    refine wpQuiet_nil ?_
    repeat (go_big_quiet_step ((intro hC; first | rfl | (go_simp; first | done | rfl))))
    refine wpQuiet_nil ?_
    go_wp2_with (first | ((first | (with_reducible refine mx_seal S ?_) | (with_reducible refine wpl_seal S ?_) | (with_reducible refine ca_seal S ?_)); clear S; (try clear hc); intro w1 S; (try simp only [List.set_cons_zero, List.set_cons_succ, List.nil_append] at S); have hc := S.cells; simp only [Cells, cellsC, Im, Row, El, DicO, Nat.zero_add, Nat.reduceAdd] at hc) | (go_at_call 11; refine (HLD.out B _ nb _ _ S.bd (S.im 5 rfl) hnb).mono ?_; rintro e w1 ⟨Bq, nq, rfl, hnq, hu⟩; have hxf := hu.ext; obtain ⟨I1, S1, hI1⟩ := S.new hu; clear S hu hI1; (try clear hc); have S := S1; clear S1; have hc := S.cells; simp only [Cells, cellsC, Im, Row, El, DicO, Nat.zero_add, Nat.reduceAdd] at hc; have hc := S.cells; simp only [Cells, cellsC, Im, Row, El, DicO, Nat.zero_add, Nat.reduceAdd] at hc))
    refine ⟨fun _ => hxf, ?_⟩
    (first | refine ⟨(fun h => by cases h), ?_⟩ | skip); (first | ((first | (with_reducible refine mx_seal S ?_)); clear S; (try clear hc); intro w1 S; (try simp only [List.set_cons_zero, List.set_cons_succ, List.nil_append] at S); have hc := S.cells; simp only [Cells, cellsC, Im, Row, El, DicO, Nat.zero_add, Nat.reduceAdd] at hc) | skip); (try simp only [Act.put, List.setIfInBounds_toArray, List.set_cons_succ, List.set_cons_zero])
    refine mix_cons rfl rfl rfl ?_
    simp only [opsAt, List.getD_cons_succ, List.getD_cons_zero]
    repeat (go_big_quiet_step ((intro hC; first | rfl | (go_simp; first | done | rfl))))
    refine wpQuiet_nil ?_
    repeat (go_big_quiet_step ((intro hC; first | rfl | (go_simp; first | done | rfl))))
    refine wpQuiet_nil ?_
    go_wp2_with (first | ((first | (with_reducible refine mx_seal S ?_) | (with_reducible refine wpl_seal S ?_) | (with_reducible refine ca_seal S ?_)); clear S; (try clear hc); intro w1 S; (try simp only [List.set_cons_zero, List.set_cons_succ, List.nil_append] at S); have hc := S.cells; simp only [Cells, cellsC, Im, Row, El, DicO, Nat.zero_add, Nat.reduceAdd] at hc))
    (first | refine ⟨(fun h => by cases h), ?_⟩ | skip); (first | ((first | (with_reducible refine mx_seal S ?_)); clear S; (try clear hc); intro w1 S; (try simp only [List.set_cons_zero, List.set_cons_succ, List.nil_append] at S); have hc := S.cells; simp only [Cells, cellsC, Im, Row, El, DicO, Nat.zero_add, Nat.reduceAdd] at hc) | skip); (try simp only [Act.put, List.setIfInBounds_toArray, List.set_cons_succ, List.set_cons_zero])
    refine mix_last rfl ?_
    simp only [opsAt, List.getD_cons_succ, List.getD_cons_zero]
    repeat (go_big_quiet_step ((intro hC; first | rfl | (go_simp; first | done | rfl))))
    refine wpQuiet_nil ?_
    simp only [calmQ]
    replace S := ((S.sel [1, 0, 2, 3, 4, 5, 6, 7, 8] (by decide) rfl (by simp) : SH _ _ _ [_, _, _, _, _, _, _, _, _] _ _) : SH _ _ _ [_, _, _, _, _, _, _, _, _] _ _)
    have hc := S.cells; simp only [Cells, cellsC, Im, Row, El, DicO, Nat.zero_add, Nat.reduceAdd] at hc
    go_wp2_with (first | ((first | (with_reducible refine wpl_seal S ?_) | (with_reducible refine cw_seal S ?_) | (with_reducible refine bp_seal S ?_) | (with_reducible refine ca_seal S ?_)); clear S; (try clear hc); intro w1 S; (try simp only [List.set_cons_zero, List.set_cons_succ, List.nil_append] at S); have hc := S.cells; simp only [Cells, cellsC, Im, Row, El, DicO, Nat.zero_add, Nat.reduceAdd] at hc) | (go_at_call 9; refine (lof_c ⟨qc, qm, ⟨qw, qh, ql⟩⟩ Bq nq _ _ S.bd).mono ?_; rintro e w1 ⟨rfl, hx⟩; replace S := S.ext hx; clear hx; (try clear hc); have hc := S.cells; simp only [Cells, cellsC, Im, Row, El, DicO, Nat.zero_add, Nat.reduceAdd] at hc) | (go_at_call 8; refine (add_s _ ⟨L1, V1, a1⟩ _ ⟨qc, qm, ⟨qw, qh, ql⟩⟩ exT Bq _ nq 8 S 3 rfl (S.im 1 rfl) (Nat.le_trans HLN.out.2 (by decide)) HU.out.2 (S.im 4 rfl) (by decide) (by decide) (by rw [HB1.out.1]; decide) (by rw [HV1.out]; omega) ⟨HB1.out.2.1, Int.le_trans HB1.out.2.2 (by decide)⟩ HE2.out).mono ?_; rintro e w1 ⟨rfl, J3, S3⟩; clear S; have S := S3; clear S3; simp only [List.set_cons_zero, List.set_cons_succ, List.nil_append] at S; have hc := S.cells; simp only [Cells, cellsC, Im, Row, El, DicO, Nat.zero_add, Nat.reduceAdd] at hc))
    obtain ⟨g9, eg9⟩ := S.name 2 rfl; rw [← eg9] at S ⊢; clear eg9
    have S1 := ((S.sel [2, 3, 4, 6] (by decide) rfl (by simp) : SH _ _ _ [_, _, _, _] _ _) : SH _ _ _ [_, _, _, _] _ _)
    clear S hc hnq
    go_loopw [13, 14] (fun ov vv w' => ∃ (k : Nat) (J : Fp), vv = .int .i64 k ∧ k ≤ n ∧ ov = .int .i64 (s k) ∧ As (SH No I w [Cel g9 44 [.int .i64 pc, .int .i64 pm, .int .i64 pw, .int .i64 ph, .slice B pl.length nb, .slice (some ⟨gt, 0, none⟩) 8 8], DicO gd L2 V2 a2, Im kI (some ⟨gt, 0, none⟩) exT, Im kP B pl] w' J)) (fun _ vv _ => n - (intOf vv).toNat)
    case atStart => exact ⟨0, _, rfl, by omega, by rw [HS0.out]; rfl, ⟨S1⟩⟩
    case round =>
      clear S1
      obtain ⟨k, J, rfl, hk, rfl, ⟨S⟩⟩ := hrel
      by_cases hlt : k < n
      · have hlt' : decide ((k : Int) < n) = true := decide_eq_true (by omega)
        obtain ⟨ow, how⟩ : ∃ ow, ownersP L2 (k : Int) = ow := ⟨_, rfl⟩
        have HO := As.mk how
        have HSK := As.mk (HSS.out k)
        rw [how] at HSK
        obtain ⟨sk, hsk⟩ : ∃ sk, s k = sk := ⟨_, rfl⟩
        rw [hsk] at HSK ⊢
        have HB3 := HSL.out (k + 1) (by omega)
        rw [HSK.out] at HB3
        clear how hsk
        have hc := S.cells; simp only [Cells, cellsC, Im, Row, El, DicO, Nat.zero_add, Nat.reduceAdd] at hc
        go_wp2_with (first | ((first | (with_reducible refine wpl_seal S ?_) | (with_reducible refine cw_seal S ?_) | (with_reducible refine bp_seal S ?_) | (with_reducible refine ca_seal S ?_)); clear S; (try clear hc); intro w1 S; (try simp only [List.set_cons_zero, List.set_cons_succ, List.nil_append] at S); have hc := S.cells; simp only [Cells, cellsC, Im, Row, El, DicO, Nat.zero_add, Nat.reduceAdd] at hc) | (go_at_call 13; refine (owners_s _ _ _ _ (k : Int) S 1 rfl (by rw [HB2.out.1]; decide) HB2.out.2 HO.out).mono ?_; rintro e w1 ⟨r, rfl, hu⟩; obtain ⟨I1, S1, hI1⟩ := S.new hu; clear S hu hI1; (try clear hc); have S := S1; clear S1; have hc := S.cells; simp only [Cells, cellsC, Im, Row, El, DicO, Nat.zero_add, Nat.reduceAdd] at hc; obtain ⟨Ar, cr, er, -, -⟩ := S.row 0 rfl; subst er))
        go_roundw
        case rel => exact ⟨k + 1, _, by go_num, by omega, by rw [HSK.out]; go_num, ⟨(S.sel [1, 2, 3, 4] (by decide) rfl (by simp) : SH _ _ _ [_, _, _, _] _ _)⟩⟩
        case measure => simp [intOf]; omega
      · have hlt' : decide ((k : Int) < n) = false := decide_eq_false (by omega)
        obtain rfl : k = n := by omega
        rw [HSN.out]
        have hmx : max (k : Int) 1 = k := Int.max_eq_left (by omega)
        have hdv : (8 : Int) % (k : Int) = 0 := by have : ((8 % k : Nat) : Int) = 0 := by rw [ndiv]; rfl
                                                   exact this
        have hk0 : ((k : Int) == 0) = false := by rw [beq_eq_false_iff_ne]; omega
        have hc := S.cells; simp only [Cells, cellsC, Im, Row, El, DicO, Nat.zero_add, Nat.reduceAdd] at hc
        go_wp2_with (first | ((first | (with_reducible refine wpl_seal S ?_) | (with_reducible refine cw_seal S ?_) | (with_reducible refine bp_seal S ?_) | (with_reducible refine ca_seal S ?_)); clear S; (try clear hc); intro w1 S; (try simp only [List.set_cons_zero, List.set_cons_succ, List.nil_append] at S); have hc := S.cells; simp only [Cells, cellsC, Im, Row, El, DicO, Nat.zero_add, Nat.reduceAdd] at hc) | (go_at_call 10; refine (variants_c _ _ _ _ S 1 rfl).mono ?_; rw [HV2.out]; rintro e w1 ⟨rfl, rfl⟩) | (go_at_call 14; obtain ⟨J1, S1, -⟩ := S.lit 0 rfl (k := kyT) (xs := [(⟨⟨pc, pm, ⟨pw, ph, pl⟩⟩, exT⟩ : Tv)]) (Flat.single ⟨B, nb, _, 8, rfl, ⟨hnb, S.im 4 rfl⟩, (by decide : exT.length ≤ 8), S.im 3 rfl⟩); clear S hc; have S := S1; clear S1; simp only [List.set_cons_zero, List.set_cons_succ, List.nil_append] at S; refine (yvars_c [(⟨⟨pc, pm, ⟨pw, ph, pl⟩⟩, exT⟩ : Tv)] _ _ _ _ S.bd (S.im 0 rfl) (by simp) (by intro t ht; rw [List.mem_singleton] at ht; subst ht; exact HT.out) HV.out).mono ?_; rw [HNV.out]; rintro e w1 ⟨Bv, cv, rfl, -, hu⟩; obtain ⟨I1, S1, hI1⟩ := S.new hu; clear S hu hI1; (try clear hc); have S := S1; clear S1; have hc := S.cells; simp only [Cells, cellsC, Im, Row, El, DicO, Nat.zero_add, Nat.reduceAdd] at hc; have hc := S.cells; simp only [Cells, cellsC, Im, Row, El, DicO, Nat.zero_add, Nat.reduceAdd] at hc) | (go_at_call 15; refine (dlives_c _ _ S.bd).mono ?_; rintro e w1 ⟨rfl, hx⟩; replace S := S.ext hx; clear hx; (try clear hc); have hc := S.cells; simp only [Cells, cellsC, Im, Row, El, DicO, Nat.zero_add, Nat.reduceAdd] at hc))
        go_ret
        exact ⟨rfl, S.out⟩
end Go.Proofs.Ytnmlonicfncpfaa
