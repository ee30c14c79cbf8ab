/- DictFull: the law's walk. -/
import Derived.Test.YtnmlonicfncpfaaDFul
namespace Go.Proofs.Ytnmlonicfncpfaa
open Go.RowKit X
set_option maxHeartbeats 8000000
set_option maxRecDepth 8000
set_option linter.unusedSimpArgs false
set_option linter.unusedVariables false
theorem lfull_c (n r : Int) (hn : I64 n) (hr : I64 r) (w : World) (I : Fp) (hI : ∀ b, I b → b < w.heap.size) :
    Calls Try.prog 4 #[.int .i64 n, .int .i64 r] w fun e w' => e = .returned (.bool true) ∧ Ext w w' := by
  have S := SH.start w I hI
  have HN := As.mk hn
  have HR := As.mk hr
  clear hn hr
  obtain ⟨a0, ha0⟩ : ∃ a : Nat, aroundI n 7 = a := ⟨(aroundI n 7).toNat, by have := (aroundI_range (n := n) (m := 7) (by omega)); omega⟩
  have har : a0 < 7 := by have := (aroundI_range (n := n) (m := 7) (by omega)); omega
  have HA := As.mk ha0
  clear ha0
  obtain ⟨q, hq⟩ : ∃ q, aroundI r 5 = q := ⟨_, rfl⟩
  have hqr := (aroundI_range (n := r) (m := 5) (by omega))
  rw [hq] at hqr
  obtain ⟨h, hh⟩ : ∃ h : Nat, (254 : Int) + q = h := ⟨(254 + q).toNat, by omega⟩
  have hh1 : 254 ≤ h := by omega
  have hh2 : h ≤ 258 := by omega
  have HQ := As.mk hq
  obtain ⟨hq0, hq1⟩ := hqr
  clear hq
  have hu : ∀ q ∈ dot.x.l, U64 q := by rw [dot_flat]; exact flatG_u
  have HU := As.mk hu
  clear hu
  have HM1 : True := trivial
  have hc := S.cells; simp only [Cells, cellsC, Im, Row, El, DicO, Nat.zero_add, Nat.reduceAdd] at hc
  go_enter Try.func4, Try.ntmps4
  go_wp2_with (first | ((first | (with_reducible refine wpl_seal S ?_) | (with_reducible refine cw_seal S ?_) | (with_reducible refine bp_seal S ?_) | (with_reducible refine ca_seal S ?_)); clear S; (try clear hc); intro w1 S; (try simp only [List.set_cons_zero, List.set_cons_succ, List.nil_append] at S); have hc := S.cells; simp only [Cells, cellsC, Im, Row, El, DicO, Nat.zero_add, Nat.reduceAdd] at hc) | (go_at_call 7; clear HM1; refine (newD_c _ _ S.bd).mono ?_; rintro e w1 ⟨gd, rfl, hu⟩; obtain ⟨I1, S1, hI1⟩ := S.new hu; clear S hu hI1; (try clear hc); have S := S1; clear S1; have hc := S.cells; simp only [Cells, cellsC, Im, Row, El, DicO, Nat.zero_add, Nat.reduceAdd] at hc; have hc := S.cells; simp only [Cells, cellsC, Im, Row, El, DicO, Nat.zero_add, Nat.reduceAdd] at hc) | (go_at_call 7; refine (newD_c _ _ S.bd).mono ?_; rintro e w1 ⟨ge, rfl, hu⟩; obtain ⟨I1, S1, hI1⟩ := S.new hu; clear S hu hI1; (try clear hc); have S := S1; clear S1; have hc := S.cells; simp only [Cells, cellsC, Im, Row, El, DicO, Nat.zero_add, Nat.reduceAdd] at hc; have hc := S.cells; simp only [Cells, cellsC, Im, Row, El, DicO, Nat.zero_add, Nat.reduceAdd] at hc))
  obtain ⟨gf, egf⟩ := S.name 2 rfl; rw [← egf] at S ⊢; clear egf
  clear hc
  have S1 : SH No I w [DicO gd (fullD 0).L (fullD 0).V (fullD 0).ar, DicO ge [] [] 0, Cel gf 26 [.int .i64 1, .int .i64 9]] _ _ := (S.sel [1, 0, 2] (by decide) rfl (by simp) : SH _ _ _ [_, _, _] _ _)
  clear S
  go_loopw [9] (fun iv w' => ∃ (k : Nat) (J : Fp), iv = .int .i64 k ∧ k ≤ 60 + a0 ∧ As (SH No I w [DicO gd (fullD (min k 64)).L (fullD (min k 64)).V (fullD (min k 64)).ar, DicO ge [] [] 0, Cel gf 26 [.int .i64 1, .int .i64 9]] w' J)) (fun iv _ => 60 + a0 - (intOf iv).toNat)
  case atStart => exact ⟨0, _, rfl, by omega, ⟨S1⟩⟩
  case round =>
    clear S1
    obtain ⟨k, J, rfl, hk, ⟨S⟩⟩ := hrel
    by_cases hlt : k < 60 + a0
    · have hlt' : decide ((k : Int) < 60 + a0) = true := decide_eq_true (by omega)
      have hc := S.cells; simp only [Cells, cellsC, Im, Row, El, DicO, Nat.zero_add, Nat.reduceAdd] at hc
      by_cases h64 : k < 64
      · have h64' : decide ((k : Int) < 64) = true := decide_eq_true (by omega)
        rw [Nat.min_eq_left (by omega)] at S
        have HF := As.mk (full_ok h64)
        obtain ⟨D, hD⟩ : ∃ D, fullD k = D := ⟨_, rfl⟩
        obtain ⟨D', hD'⟩ : ∃ D, fullD (k + 1) = D := ⟨_, rfl⟩
        have HD' := As.mk hD'
        have hDL : D.L.length ≤ 1000 := by rw [← hD]; show (List.replicate k dotT).length ≤ 1000; rw [List.length_replicate]; omega
        have hDV : D.V.length ≤ 100000 := by rw [← hD]; unfold fullD; dsimp only; split <;> simp
        have hDa : 0 ≤ D.ar ∧ D.ar ≤ 1000000000 := by rw [← hD]; unfold fullD; dsimp only; split <;> simp
        have HDB := As.mk (And.intro hDL (And.intro hDV hDa))
        rw [hD, hD'] at HF
        rw [hD] at S
        clear hD hD' hDL hDV hDa
        go_wp2_with (first | ((first | (with_reducible refine wpl_seal S ?_) | (with_reducible refine cw_seal S ?_) | (with_reducible refine bp_seal S ?_) | (with_reducible refine ca_seal S ?_)); clear S; (try clear hc); intro w1 S; (try simp only [List.set_cons_zero, List.set_cons_succ, List.nil_append] at S); have hc := S.cells; simp only [Cells, cellsC, Im, Row, El, DicO, Nat.zero_add, Nat.reduceAdd] at hc) | (go_at_call 12; refine (around_c n 7 _ HN.out (by decide) (by decide)).mono ?_; rw [HA.out]; rintro e w1 ⟨rfl, rfl⟩) | (go_at_call 8; obtain ⟨J1, S1, -⟩ := S.lit 0 rfl (k := kI) (xs := [0]) (flat_int [0]); clear S hc; obtain ⟨J2, S2, -⟩ := S1.lit 1 rfl (k := kP) (xs := dot.x.l) (flat_int dot.x.l); clear S1; refine (add_n _ D _ dot [0] _ _ 1 1 1 1 S2 2 rfl (S2.im 1 rfl) rfl rfl (by decide) HU.out (S2.im 0 rfl) (by decide) (by decide) HDB.out.1 HDB.out.2.1 HDB.out.2.2 HF.out).mono ?_; rintro e w1 ⟨rfl, J3, S3⟩; clear S2; have S := S3; clear S3; simp only [List.set_cons_zero, List.set_cons_succ, List.nil_append] at S; have hc := S.cells; simp only [Cells, cellsC, Im, Row, El, DicO, Nat.zero_add, Nat.reduceAdd] at hc))
        go_roundw
        case rel => exact ⟨k + 1, _, by go_num, by omega, ⟨by rw [Nat.min_eq_left (by omega), HD'.out]; exact (S.sel [2, 3, 4] (by decide) rfl (by simp) : SH _ _ _ [_, _, _] _ _)⟩⟩
        case measure => simp [intOf]; omega
      · have h64' : decide ((k : Int) < 64) = false := decide_eq_false (by omega)
        rw [Nat.min_eq_right (by omega)] at S
        have HF := As.mk full_no
        obtain ⟨D, hD⟩ : ∃ D, fullD 64 = D := ⟨_, rfl⟩
        have HD' := As.mk hD
        have hDL : D.L.length ≤ 1000 := by rw [← hD]; show (List.replicate 64 dotT).length ≤ 1000; rw [List.length_replicate]; omega
        have hDV : D.V.length ≤ 100000 := by rw [← hD]; unfold fullD; dsimp only; split <;> simp
        have hDa : 0 ≤ D.ar ∧ D.ar ≤ 1000000000 := by rw [← hD]; unfold fullD; dsimp only; split <;> simp
        have HDB := As.mk (And.intro hDL (And.intro hDV hDa))
        rw [hD] at HF S
        clear hD hDL hDV hDa
        go_wp2_with (first | ((first | (with_reducible refine wpl_seal S ?_) | (with_reducible refine cw_seal S ?_) | (with_reducible refine bp_seal S ?_) | (with_reducible refine ca_seal S ?_)); clear S; (try clear hc); intro w1 S; (try simp only [List.set_cons_zero, List.set_cons_succ, List.nil_append] at S); have hc := S.cells; simp only [Cells, cellsC, Im, Row, El, DicO, Nat.zero_add, Nat.reduceAdd] at hc) | (go_at_call 12; refine (around_c n 7 _ HN.out (by decide) (by decide)).mono ?_; rw [HA.out]; rintro e w1 ⟨rfl, rfl⟩) | (go_at_call 8; obtain ⟨J1, S1, -⟩ := S.lit 0 rfl (k := kI) (xs := [0]) (flat_int [0]); clear S hc; obtain ⟨J2, S2, -⟩ := S1.lit 1 rfl (k := kP) (xs := dot.x.l) (flat_int dot.x.l); clear S1; refine (add_n _ D _ dot [0] _ _ 1 1 1 1 S2 2 rfl (S2.im 1 rfl) rfl rfl (by decide) HU.out (S2.im 0 rfl) (by decide) (by decide) HDB.out.1 HDB.out.2.1 HDB.out.2.2 HF.out).mono ?_; rintro e w1 ⟨rfl, J3, S3⟩; clear S2; have S := S3; clear S3; simp only [List.set_cons_zero, List.set_cons_succ, List.nil_append] at S; have hc := S.cells; simp only [Cells, cellsC, Im, Row, El, DicO, Nat.zero_add, Nat.reduceAdd] at hc))
        go_roundw
        case rel => exact ⟨k + 1, _, by go_num, by omega, ⟨by rw [Nat.min_eq_right (by omega), HD'.out]; exact (S.sel [2, 3, 4] (by decide) rfl (by simp) : SH _ _ _ [_, _, _] _ _)⟩⟩
        case measure => simp [intOf]; omega
    · have hlt' : decide ((k : Int) < 60 + a0) = false := decide_eq_false (by omega)
      obtain ⟨M, hM⟩ : ∃ M, min k 64 = M := ⟨_, rfl⟩
      have hM1 : 60 ≤ M ∧ M ≤ 64 := by omega
      rw [hM] at S
      have HOW := As.mk (full_own M)
      have HTM := As.mk (full_tms M)
      have hML : (fullD M).L.length = M := List.length_replicate ..
      have hMV : (fullD M).V.length = 1 := by unfold fullD; dsimp only; rw [if_neg (by omega)]; rfl
      obtain ⟨FL, hFL⟩ : ∃ L, (fullD M).L = L := ⟨_, rfl⟩
      obtain ⟨FV, hFV⟩ : ∃ L, (fullD M).V = L := ⟨_, rfl⟩
      obtain ⟨Fa, hFa⟩ : ∃ L, (fullD M).ar = L := ⟨_, rfl⟩
      rw [hFL, hFV, hFa] at S
      rw [hFL] at HOW HTM hML
      rw [hFV] at hMV
      obtain ⟨ow, how⟩ : ∃ ow : List (Int × Int), (List.range M).map (fun i : Nat => ((i : Int), (0 : Int))) = ow := ⟨_, rfl⟩
      have howl : ow.length = M := by rw [← how]; simp
      rw [how] at HOW
      have HML := As.mk hML
      have HMV := As.mk hMV
      have HWL := As.mk howl
      clear how howl hML hMV hFL hFV hFa hM hlt hk
      obtain ⟨N, hN⟩ : ∃ N : Nat, 256 * h = N := ⟨_, rfl⟩
      have hN1 : N ≤ 66048 := by omega
      have hN2 : (256 : Int) * (h : Int) = N := by omega
      have HNN := As.mk hN
      clear hN
      have hc := S.cells; simp only [Cells, cellsC, Im, Row, El, DicO, Nat.zero_add, Nat.reduceAdd] at hc
      have HM2 : True := trivial
      go_wp2_with (first | ((first | (with_reducible refine wpl_seal S ?_) | (with_reducible refine cw_seal S ?_) | (with_reducible refine bp_seal S ?_) | (with_reducible refine ca_seal S ?_)); clear S; (try clear hc); intro w1 S; (try simp only [List.set_cons_zero, List.set_cons_succ, List.nil_append] at S); have hc := S.cells; simp only [Cells, cellsC, Im, Row, El, DicO, Nat.zero_add, Nat.reduceAdd] at hc) | (go_at_call 12; clear HM2; refine (around_c n 7 _ HN.out (by decide) (by decide)).mono ?_; rw [HA.out]; rintro e w1 ⟨rfl, rfl⟩) | (go_at_call 12; refine (around_c r 5 _ HR.out (by decide) (by decide)).mono ?_; rw [HQ.out]; rintro e w1 ⟨rfl, rfl⟩) | (at_make; refine wpl_make (k := kP) S rfl _ _ rfl (z := .int .u64 0) (bytes := 8) (size := 1) Try.underlying27 (by kernel_rfl) rfl (by omega) .i64 .i64 N (by first | rfl | (rw [← hN2]; rfl)) (by first | rfl | (rw [← hN2]; rfl)) (by omega) 0 (fun _ => rfl) (by omega) ?_; clear S hc; intro gl w1 S; have hc := S.cells; simp only [Cells, cellsC, Im, Row, El, DicO, Nat.zero_add, Nat.reduceAdd] at hc))
      clear hlt'
      rw [upK_none (f := fun _ => px0)] at S
      obtain ⟨f, hf⟩ : ∃ f : Nat → Int, (fun _ => px0) = f := ⟨_, rfl⟩
      have HF : As (∀ k, f k = 281474976710656) := ⟨fun k => by rw [← hf]; rfl⟩
      rw [hf] at S
      clear hc
      go_loopw [14] (fun iv w' => ∃ (k : Nat) (J : Fp), iv = .int .i64 k ∧ k ≤ N ∧ As (SH No I w [Row kP (.slice (some ⟨gl, 0, none⟩) N N) (upK N f (fun _ => 0) k), DicO gd FL FV Fa, DicO ge [] [] 0, Cel gf 26 [.int .i64 1, .int .i64 9]] w' J)) (fun iv _ => N - (intOf iv).toNat)
      case atStart => exact ⟨0, _, rfl, by omega, ⟨S⟩⟩
      case round =>
        clear S
        obtain ⟨k, J, rfl, hk, ⟨S⟩⟩ := hrel
        by_cases hlt : k < N
        · have hlt' : decide ((k : Int) < N) = true := decide_eq_true (by omega)
          have HJ : JLt k (upK N f (fun _ => 0) k).length := ⟨by rw [upK_len]; exact hlt⟩
          have hnf := S.nfzR 0 rfl k
          obtain ⟨Av, cv, e1, -, hs1⟩ := S.row 0 rfl
          rw [Value.slice.injEq] at e1
          obtain ⟨rfl, -, rfl⟩ := e1
          obtain ⟨b', o', e', hck⟩ := hs1.num_at (i := k) (List.getElem?_eq_getElem HJ.out)
          cases e'
          rw [Nat.zero_add] at hck
          have hc := S.cells; simp only [Cells, cellsC, Im, Row, El, DicO, Nat.zero_add, Nat.reduceAdd] at hc
          go_wp2_with (first | ((first | (with_reducible refine wpl_seal S ?_) | (with_reducible refine cw_seal S ?_) | (with_reducible refine bp_seal S ?_) | (with_reducible refine ca_seal S ?_)); clear S; (try clear hc); intro w1 S; (try simp only [List.set_cons_zero, List.set_cons_succ, List.nil_append] at S); have hc := S.cells; simp only [Cells, cellsC, Im, Row, El, DicO, Nat.zero_add, Nat.reduceAdd] at hc))
          rw [← HF.out k, upK_set] at S
          go_roundw
          case rel => exact ⟨k + 1, _, by go_num, by omega, ⟨S⟩⟩
          case measure => simp [intOf]; omega
        · have hlt' : decide ((k : Int) < N) = false := decide_eq_false (by omega)
          obtain rfl : N = k := by omega
          rw [upK_all, ← hf, flat_all] at S
          obtain ⟨Ar, cr, I2, e3, hcr, S2, -⟩ := S.frow 0 rfl
          rw [Value.slice.injEq] at e3
          obtain ⟨rfl, -, rfl⟩ := e3
          clear S hcr
          have S := S2
          clear S2
          simp only [List.set_cons_zero, List.set_cons_succ, List.nil_append] at S
          have T4 := big_add h hh1 hh2
          have HUB := As.mk (flatG_u (a := 256) (b := h) (n := 256 * h))
          obtain ⟨l, hl⟩ : ∃ l, List.replicate N px0 = l := ⟨_, rfl⟩
          have HLL : As (l.length = N) := ⟨by rw [← hl, List.length_replicate]⟩
          have hB : flatG 256 h (256 * h) = ⟨1, 9, ⟨256, h, l⟩⟩ := by unfold flatG; rw [HNN.out, hl]; rfl
          rw [hB] at T4 HUB
          rw [hl] at S
          have HDB : As (FL.length ≤ 1000) := ⟨by rw [HML.out]; omega⟩
          have m1 : True := trivial
          clear hl hB hlt hf HF
          have hc := S.cells; simp only [Cells, cellsC, Im, Row, El, DicO, Nat.zero_add, Nat.reduceAdd] at hc
          obtain ⟨hh256, t, v, hT, hv⟩ | ⟨hh256, hT⟩ := T4
          · have T1 := As.mk hT
            have h256' : decide ((h : Int) ≤ 256) = true := decide_eq_true (by omega)
            obtain ⟨he, hT2⟩ | ⟨he, D2, k2, hT2⟩ := big_dot t v hv h hh1 hh256
            · have T2 := As.mk hT2
              have hne : ((h : Int) != 256) = false := by rw [he]; rfl
              clear hT hT2 hv he hh256
              go_wp2_with (first | ((first | (with_reducible refine wpl_seal S ?_) | (with_reducible refine cw_seal S ?_) | (with_reducible refine bp_seal S ?_) | (with_reducible refine ca_seal S ?_)); clear S; (try clear hc); intro w1 S; (try simp only [List.set_cons_zero, List.set_cons_succ, List.nil_append] at S); have hc := S.cells; simp only [Cells, cellsC, Im, Row, El, DicO, Nat.zero_add, Nat.reduceAdd] at hc) | (go_at_call 8; clear m1; obtain ⟨J1, S1, -⟩ := S.lit 0 rfl (k := kI) (xs := [0, 2]) (flat_int [0, 2]); clear S hc; refine (add_n _ ⟨[], [], 0⟩ _ ⟨1, 9, ⟨256, h, l⟩⟩ [0, 2] _ _ N 2 N 2 S1 3 rfl (S1.im 1 rfl) HLL.out rfl (by omega) HUB.out (S1.im 0 rfl) (by decide) (by decide) (by decide) (by decide) (by decide) T1.out).mono ?_; rintro e w1 ⟨rfl, J3, S3⟩; clear S1; have S := S3; clear S3; simp only [List.set_cons_zero, List.set_cons_succ, List.nil_append] at S; have hc := S.cells; simp only [Cells, cellsC, Im, Row, El, DicO, Nat.zero_add, Nat.reduceAdd] at hc) | (go_at_call 8; obtain ⟨J1, S1, -⟩ := S.lit 0 rfl (k := kI) (xs := [0]) (flat_int [0]); clear S hc; obtain ⟨J2, S2, -⟩ := S1.lit 1 rfl (k := kP) (xs := dot.x.l) (flat_int dot.x.l); clear S1; refine (add_n _ ⟨[t], [⟨1, 9, v⟩], 256 * h⟩ _ dot [0] _ _ 1 1 1 1 S2 5 rfl (S2.im 1 rfl) rfl rfl (by decide) HU.out (S2.im 0 rfl) (by decide) (by decide) (by simp) (by simp) (by dsimp only; omega) T2.out).mono ?_; rintro e w1 ⟨rfl, J3, S3⟩; clear S2; have S := S3; clear S3; simp only [List.set_cons_zero, List.set_cons_succ, List.nil_append] at S; have hc := S.cells; simp only [Cells, cellsC, Im, Row, El, DicO, Nat.zero_add, Nat.reduceAdd] at hc) | (go_at_call 10; refine (variants_c _ _ _ _ S 4 rfl).mono ?_; rintro e w1 ⟨rfl, rfl⟩; rw [HMV.out]) | (go_at_call 13; refine (owners_s _ _ _ _ 0 S 4 rfl HDB.out HTM.out HOW.out).mono ?_; rintro e w1 ⟨ro, rfl, hu⟩; obtain ⟨I1, S1, hI1⟩ := S.new hu; clear S hu hI1; (try clear hc); have S := S1; clear S1; have hc := S.cells; simp only [Cells, cellsC, Im, Row, El, DicO, Nat.zero_add, Nat.reduceAdd] at hc; obtain ⟨Ao, co, eo, -, -⟩ := S.row 0 rfl; subst eo; rw [HWL.out]) | (go_at_call 16; refine (templates_c _ _ _ _ S 5 rfl).mono ?_; rintro e w1 ⟨rfl, rfl⟩; rw [HML.out]) | (go_at_call 15; refine (dlives_c _ _ S.bd).mono ?_; rintro e w1 ⟨rfl, hx⟩; replace S := S.ext hx; clear hx; (try clear hc); have hc := S.cells; simp only [Cells, cellsC, Im, Row, El, DicO, Nat.zero_add, Nat.reduceAdd] at hc))
              all_goals (go_ret; exact ⟨by first | rfl | simp, S.out⟩)
            · have T2 := As.mk hT2
              have hne : ((h : Int) != 256) = true := by rw [bne_iff_ne]; omega
              clear hT hT2 hv he hh256
              go_wp2_with (first | ((first | (with_reducible refine wpl_seal S ?_) | (with_reducible refine cw_seal S ?_) | (with_reducible refine bp_seal S ?_) | (with_reducible refine ca_seal S ?_)); clear S; (try clear hc); intro w1 S; (try simp only [List.set_cons_zero, List.set_cons_succ, List.nil_append] at S); have hc := S.cells; simp only [Cells, cellsC, Im, Row, El, DicO, Nat.zero_add, Nat.reduceAdd] at hc) | (go_at_call 8; clear m1; obtain ⟨J1, S1, -⟩ := S.lit 0 rfl (k := kI) (xs := [0, 2]) (flat_int [0, 2]); clear S hc; refine (add_n _ ⟨[], [], 0⟩ _ ⟨1, 9, ⟨256, h, l⟩⟩ [0, 2] _ _ N 2 N 2 S1 3 rfl (S1.im 1 rfl) HLL.out rfl (by omega) HUB.out (S1.im 0 rfl) (by decide) (by decide) (by decide) (by decide) (by decide) T1.out).mono ?_; rintro e w1 ⟨rfl, J3, S3⟩; clear S1; have S := S3; clear S3; simp only [List.set_cons_zero, List.set_cons_succ, List.nil_append] at S; have hc := S.cells; simp only [Cells, cellsC, Im, Row, El, DicO, Nat.zero_add, Nat.reduceAdd] at hc) | (go_at_call 8; obtain ⟨J1, S1, -⟩ := S.lit 0 rfl (k := kI) (xs := [0]) (flat_int [0]); clear S hc; obtain ⟨J2, S2, -⟩ := S1.lit 1 rfl (k := kP) (xs := dot.x.l) (flat_int dot.x.l); clear S1; refine (add_n _ ⟨[t], [⟨1, 9, v⟩], 256 * h⟩ _ dot [0] _ _ 1 1 1 1 S2 5 rfl (S2.im 1 rfl) rfl rfl (by decide) HU.out (S2.im 0 rfl) (by decide) (by decide) (by simp) (by simp) (by dsimp only; omega) T2.out).mono ?_; rintro e w1 ⟨rfl, J3, S3⟩; clear S2; have S := S3; clear S3; simp only [List.set_cons_zero, List.set_cons_succ, List.nil_append] at S; have hc := S.cells; simp only [Cells, cellsC, Im, Row, El, DicO, Nat.zero_add, Nat.reduceAdd] at hc) | (go_at_call 10; refine (variants_c _ _ _ _ S 4 rfl).mono ?_; rintro e w1 ⟨rfl, rfl⟩; rw [HMV.out]) | (go_at_call 13; refine (owners_s _ _ _ _ 0 S 4 rfl HDB.out HTM.out HOW.out).mono ?_; rintro e w1 ⟨ro, rfl, hu⟩; obtain ⟨I1, S1, hI1⟩ := S.new hu; clear S hu hI1; (try clear hc); have S := S1; clear S1; have hc := S.cells; simp only [Cells, cellsC, Im, Row, El, DicO, Nat.zero_add, Nat.reduceAdd] at hc; obtain ⟨Ao, co, eo, -, -⟩ := S.row 0 rfl; subst eo; rw [HWL.out]) | (go_at_call 16; refine (templates_c _ _ _ _ S 5 rfl).mono ?_; rintro e w1 ⟨rfl, rfl⟩; rw [HML.out]) | (go_at_call 15; refine (dlives_c _ _ S.bd).mono ?_; rintro e w1 ⟨rfl, hx⟩; replace S := S.ext hx; clear hx; (try clear hc); have hc := S.cells; simp only [Cells, cellsC, Im, Row, El, DicO, Nat.zero_add, Nat.reduceAdd] at hc))
              all_goals (go_ret; exact ⟨by first | rfl | simp, S.out⟩)
          · have T1 := As.mk hT
            have h256' : decide ((h : Int) ≤ 256) = false := decide_eq_false (by omega)
            have T2 := As.mk (full_ok (k := 0) (by decide))
            have hne : ((h : Int) != 256) = true := by rw [bne_iff_ne]; omega
            clear hT hh256
            go_wp2_with (first | ((first | (with_reducible refine wpl_seal S ?_) | (with_reducible refine cw_seal S ?_) | (with_reducible refine bp_seal S ?_) | (with_reducible refine ca_seal S ?_)); clear S; (try clear hc); intro w1 S; (try simp only [List.set_cons_zero, List.set_cons_succ, List.nil_append] at S); have hc := S.cells; simp only [Cells, cellsC, Im, Row, El, DicO, Nat.zero_add, Nat.reduceAdd] at hc) | (go_at_call 8; clear m1; obtain ⟨J1, S1, -⟩ := S.lit 0 rfl (k := kI) (xs := [0, 2]) (flat_int [0, 2]); clear S hc; refine (add_n _ ⟨[], [], 0⟩ _ ⟨1, 9, ⟨256, h, l⟩⟩ [0, 2] _ _ N 2 N 2 S1 3 rfl (S1.im 1 rfl) HLL.out rfl (by omega) HUB.out (S1.im 0 rfl) (by decide) (by decide) (by decide) (by decide) (by decide) T1.out).mono ?_; rintro e w1 ⟨rfl, J3, S3⟩; clear S1; have S := S3; clear S3; simp only [List.set_cons_zero, List.set_cons_succ, List.nil_append] at S; have hc := S.cells; simp only [Cells, cellsC, Im, Row, El, DicO, Nat.zero_add, Nat.reduceAdd] at hc) | (go_at_call 8; obtain ⟨J1, S1, -⟩ := S.lit 0 rfl (k := kI) (xs := [0]) (flat_int [0]); clear S hc; obtain ⟨J2, S2, -⟩ := S1.lit 1 rfl (k := kP) (xs := dot.x.l) (flat_int dot.x.l); clear S1; refine (add_n _ (fullD 0) _ dot [0] _ _ 1 1 1 1 S2 5 rfl (S2.im 1 rfl) rfl rfl (by decide) HU.out (S2.im 0 rfl) (by decide) (by decide) (by decide) (by decide) (by decide) T2.out).mono ?_; rintro e w1 ⟨rfl, J3, S3⟩; clear S2; have S := S3; clear S3; simp only [List.set_cons_zero, List.set_cons_succ, List.nil_append] at S; have hc := S.cells; simp only [Cells, cellsC, Im, Row, El, DicO, Nat.zero_add, Nat.reduceAdd] at hc) | (go_at_call 10; refine (variants_c _ _ _ _ S 4 rfl).mono ?_; rintro e w1 ⟨rfl, rfl⟩; rw [HMV.out]) | (go_at_call 13; refine (owners_s _ _ _ _ 0 S 4 rfl HDB.out HTM.out HOW.out).mono ?_; rintro e w1 ⟨ro, rfl, hu⟩; obtain ⟨I1, S1, hI1⟩ := S.new hu; clear S hu hI1; (try clear hc); have S := S1; clear S1; have hc := S.cells; simp only [Cells, cellsC, Im, Row, El, DicO, Nat.zero_add, Nat.reduceAdd] at hc; obtain ⟨Ao, co, eo, -, -⟩ := S.row 0 rfl; subst eo; rw [HWL.out]) | (go_at_call 16; refine (templates_c _ _ _ _ S 5 rfl).mono ?_; rintro e w1 ⟨rfl, rfl⟩; rw [HML.out]) | (go_at_call 15; refine (dlives_c _ _ S.bd).mono ?_; rintro e w1 ⟨rfl, hx⟩; replace S := S.ext hx; clear hx; (try clear hc); have hc := S.cells; simp only [Cells, cellsC, Im, Row, El, DicO, Nat.zero_add, Nat.reduceAdd] at hc))
            all_goals (go_ret; exact ⟨by first | rfl | simp, S.out⟩)
end Go.Proofs.Ytnmlonicfncpfaa
