/- An image made such as may be: the document's. -/
import Derived.Test.YtnmlonicfncpfaaGreatDGdA
namespace Go.Proofs.YtnmlonicfncpfaaGreat.X
open Go.RowKit
/-- a row that was made, which nobody changes any more -/
theorem Upd.frow {α : Type} {k : Kd α} {w w' : World} {I : Fp} {v : Value} {xs : List α} (u : Upd w No I w' (Row k v xs)) (hI : ∀ b, I b → b < w.heap.size) : ∃ A c, v = .slice A xs.length c ∧ xs.length ≤ c ∧ Upd w No I w' (Im k A xs) := by
  obtain ⟨I1, S1, -⟩ := (SH.start w I hI).new u
  obtain ⟨A, c, I2, e, hc, S2, -⟩ := S1.frow 0 rfl
  exact ⟨A, c, e, hc, S2.ret 0 rfl⟩
end Go.Proofs.YtnmlonicfncpfaaGreat.X
namespace Go.Proofs.YtnmlonicfncpfaaGreat
open Go.RowKit X
set_option maxHeartbeats 4000000
set_option maxRecDepth 8000
set_option linter.unusedSimpArgs false
set_option linter.unusedVariables false
def goodN (x : Rg) (i : Nat) : Int := if x.l.length = 0 then 0 else x.l.getD (i % x.l.length) 0
def goodK (x : Rg) (i : Nat) : Int := aroundI (goodN x i) 3
def goodF (x : Rg) (i : Nat) : Int := goodPx [goodK x i, goodK x i / 2, 0] (formC x) (formM x)
def goodS (n mo : Int) : Int := 1 + aroundI n mo
def goodX (x : Rg) (mo : Int) : Mx := ⟨goodS x.w mo, goodS x.h mo, (List.range (goodS x.w mo * goodS x.h mo).toNat).map (goodF x)⟩
def goodI (x : Rg) (mo : Int) : Pic := ⟨formC x, formM x, goodX x mo⟩
theorem goodS_in {n mo : Int} (h : 1 ≤ mo) : 1 ≤ goodS n mo ∧ goodS n mo ≤ mo := by
  have := aroundI_range (n := n) (m := mo) (by omega)
  unfold goodS
  omega
theorem goodX_len (x : Rg) {mo : Int} (h1 : 1 ≤ mo) (h2 : mo ≤ 16) : ((goodX x mo).l.length : Int) = goodS x.w mo * goodS x.h mo ∧ (goodX x mo).l.length ≤ 256 ∧ 1 ≤ (goodX x mo).l.length := by
  obtain ⟨a1, a2⟩ := goodS_in (n := x.w) h1
  obtain ⟨b1, b2⟩ := goodS_in (n := x.h) h1
  have h3 : goodS x.w mo * goodS x.h mo ≤ 16 * 16 := Int.mul_le_mul (by omega) (by omega) (by omega) (by decide)
  have h4 : 1 * 1 ≤ goodS x.w mo * goodS x.h mo := Int.mul_le_mul a1 b1 (by decide) (by omega)
  have h5 : (goodX x mo).l.length = (goodS x.w mo * goodS x.h mo).toNat := by simp [goodX]
  omega
theorem goodF_fits (x : Rg) (i : Nat) : fitsP (goodF x i) (formC x) (formM x) = true ∧ U64 (goodF x i) := goodPx_fits (form_ok x)
theorem ygoodI_r (x : Rg) (hx : x.ok) (mo : Int) (hm1 : 1 ≤ mo) (hm2 : mo ≤ 16) (A : Option Addr) (n : Nat) (w : World) (I : Fp) (hI : ∀ b, I b → b < w.heap.size) (hl : Sl kI w I A x.l) {p : Pic} (hp : goodI x mo = p) :
    Calls Tryz.prog 13 #[rgV x A n, .int .i64 mo] w fun e w' => ∃ B c, e = .returned (picV p B c) ∧ Upd w No I w' (Row kP (.slice B p.x.l.length c) p.x.l) := by
  have S := (SH.start w I hI).know (h := Im kI A x.l) hl
  have HFM := As.mk (fun w I hI => yform_c x hx A n w I hI rfl rfl)
  have HFO := As.mk (form_ok x)
  have HP := As.mk hp
  have HGL := goodX_len x hm1 hm2
  have HGF := As.mk (show ∀ i, goodF x i = goodPx [goodK x i, goodK x i / 2, 0] (formC x) (formM x) from fun _ => rfl)
  have HGK := As.mk (show ∀ i, goodK x i = aroundI (goodN x i) 3 from fun _ => rfl)
  have HGN := As.mk (show ∀ i, goodN x i = if x.l.length = 0 then 0 else x.l.getD (i % x.l.length) 0 from fun _ => rfl)
  unfold goodI at HP
  have HPX := As.mk (show goodX x mo = ⟨goodS x.w mo, goodS x.h mo, (List.range (goodX x mo).l.length).map (goodF x)⟩ by
    have : (goodX x mo).l.length = (goodS x.w mo * goodS x.h mo).toNat := by simp [goodX]
    rw [this]; rfl)
  obtain ⟨fc, hfc⟩ : ∃ fc, formC x = fc := ⟨_, rfl⟩
  obtain ⟨fm, hfm⟩ : ∃ fm, formM x = fm := ⟨_, rfl⟩
  obtain ⟨gx, hgx⟩ : ∃ gx, goodX x mo = gx := ⟨_, rfl⟩
  obtain ⟨f, hf⟩ : ∃ f, goodF x = f := ⟨_, rfl⟩
  obtain ⟨gk, hgk⟩ : ∃ gk, goodK x = gk := ⟨_, rfl⟩
  obtain ⟨gn, hgn⟩ : ∃ gn, goodN x = gn := ⟨_, rfl⟩
  obtain ⟨W, hW⟩ : ∃ W, goodS x.w mo = W := ⟨_, rfl⟩
  obtain ⟨H, hH⟩ : ∃ H, goodS x.h mo = H := ⟨_, rfl⟩
  have HW1 : As (1 + aroundI x.w mo = W) := ⟨hW⟩
  have HH1 : As (1 + aroundI x.h mo = H) := ⟨hH⟩
  obtain ⟨hW1, hW2⟩ := goodS_in (n := x.w) hm1
  obtain ⟨hH1, hH2⟩ := goodS_in (n := x.h) hm1
  rw [hfc, hfm] at HFM HFO HP HGF
  rw [hgx] at HPX HP HGL
  rw [hf] at HPX HGF
  rw [hgk] at HGF HGK
  rw [hgn] at HGK HGN
  rw [hW] at HPX HGL hW1 hW2
  rw [hH] at HPX HGL hH1 hH2
  obtain ⟨hN, hN2, hN3⟩ := HGL
  have HGR := As.mk (show ∀ i, 0 ≤ gk i ∧ gk i < 3 from fun i => by rw [HGK.out]; exact aroundI_range (by decide))
  obtain ⟨N, hNe⟩ : ∃ N, gx.l.length = N := ⟨_, rfl⟩
  rw [hNe] at hN hN2 hN3 HPX
  have HNE := As.mk hNe
  have HA1 := As.mk (fun w => around_c x.w mo w hx.w (by omega) (by omega))
  have HA2 := As.mk (fun w => around_c x.h mo w hx.h (by omega) (by omega))
  have HIL := As.mk hx.l
  clear hx hp hl hfc hfm hgx hf hgk hgn hW hH hNe
  obtain ⟨b, mv, xw, xh, l⟩ := x
  dsimp only [rgV] at *
  obtain ⟨aw, haw⟩ : ∃ aw, aroundI xw mo = aw := ⟨_, rfl⟩
  obtain ⟨ah, hah⟩ : ∃ ah, aroundI xh mo = ah := ⟨_, rfl⟩
  rw [haw] at HA1 HW1
  rw [hah] at HA2 HH1
  obtain rfl := HW1.out
  obtain rfl := HH1.out
  have hw1 : IntKind.i64.wrap (1 + aw) = 1 + aw := by rw [IntKind.wrap_i64]; omega
  have hw2 : IntKind.i64.wrap (1 + ah) = 1 + ah := by rw [IntKind.wrap_i64]; omega
  have hw3 : IntKind.i64.wrap ((1 + aw) * (1 + ah)) = N := by rw [← hN, IntKind.wrap_i64]; omega
  clear haw hah
  have HNN := As.mk hN
  clear hN
  have hc := S.cells; simp only [Cells, cellsC, Im, Row, El, Nat.zero_add, Nat.reduceAdd] at hc
  go_enter Tryz.func13, Tryz.ntmps13
  go_upto_region 2 with (first | ((first | (with_reducible refine wpl_seal S ?_) | (with_reducible refine cw_seal S ?_) | (with_reducible refine bp_seal S ?_) | (with_reducible refine ca_seal S ?_)); clear S; (try clear hc); intro w1 S; (try simp only [List.set_cons_zero, List.set_cons_succ, List.nil_append] at S); have hc := S.cells; simp only [Cells, cellsC, Im, Row, El, Nat.zero_add, Nat.reduceAdd] at hc) | (go_at_call 45; refine (HFM.out _ _ S.bd).mono ?_; rintro e w1 ⟨rfl, hx⟩; replace S := S.ext hx; clear hx; (try clear hc); have hc := S.cells; simp only [Cells, cellsC, Im, Row, El, Nat.zero_add, Nat.reduceAdd] at hc))
  have hq := S.cellsE; simp only [CellsE, cellsE, Im, Row, El, Nat.zero_add, Nat.reduceAdd] at hq
  refine wp_region_fork3 [0, 1, 2, 5, 6, 7] 3 11 [4] 8 11 [⟨[9, 10], [], 11, true⟩, ⟨[], [], 12, false⟩] [] [⟨[], [], 8, true⟩, ⟨[9, 10], [], 12, false⟩] [] [⟨[], [], 3, true⟩, ⟨[4], [], 8, true⟩, ⟨[9, 10], [], 12, false⟩] [] #[true, true, true, true, true, true, true, true, true, true, true, true, false] (by kernel_rfl) (by kernel_rfl) rfl rfl rfl rfl rfl rfl ?_
  (try simp only [opsAt, List.getD_cons_succ, List.getD_cons_zero])
  repeat (go_big_quiet_step ((intro hC; first | rfl | (go_simp; first | done | rfl))))
  refine wpQuiet_nil ?_
  clear hc hq
  replace S := S.drew
  generalize w1.drew = w2 at S ⊢
  refine ⟨?_, ?_⟩
  · have hc := S.cells; simp only [Cells, cellsC, Im, Row, El, Nat.zero_add, Nat.reduceAdd] at hc
    go_wp2_with (first | ((first | (with_reducible refine mx_seal S ?_) | (with_reducible refine wpl_seal S ?_) | (with_reducible refine ca_seal S ?_)); clear S; (try clear hc); intro w1 S; (try simp only [List.set_cons_zero, List.set_cons_succ, List.nil_append] at S); have hc := S.cells; simp only [Cells, cellsC, Im, Row, El, Nat.zero_add, Nat.reduceAdd] at hc) | (go_at_call 14; refine (HA1.out _).mono ?_; rintro e w1 ⟨rfl, rfl⟩))
    refine ⟨Ext.refl _, ?_⟩
    (try simp only [opsAt, List.getD_cons_succ, List.getD_cons_zero])
    repeat (go_big_quiet_step ((intro hC; first | rfl | (go_simp; first | done | rfl))))
    refine wpQuiet_nil ?_
    refine ⟨?_, ?_⟩
    · have hc := S.cells; simp only [Cells, cellsC, Im, Row, El, Nat.zero_add, Nat.reduceAdd] at hc
      go_wp2_with (first | ((first | (with_reducible refine mx_seal S ?_) | (with_reducible refine wpl_seal S ?_) | (with_reducible refine ca_seal S ?_)); clear S; (try clear hc); intro w1 S; (try simp only [List.set_cons_zero, List.set_cons_succ, List.nil_append] at S); have hc := S.cells; simp only [Cells, cellsC, Im, Row, El, Nat.zero_add, Nat.reduceAdd] at hc) | (go_at_call 14; refine (HA2.out _).mono ?_; rintro e w1 ⟨rfl, rfl⟩))
      refine ⟨Ext.refl _, ?_⟩
      refine mix_cons rfl rfl rfl ?_
      simp only [opsAt, List.getD_cons_succ, List.getD_cons_zero]
      repeat (go_big_quiet_step ((intro hC; first | rfl | (go_simp; first | done | rfl))))
      refine wpQuiet_nil ?_
      repeat (go_big_quiet_step ((intro hC; first | rfl | (go_simp; first | done | rfl))))
      refine wpQuiet_nil ?_
      go_wp2_with (first | ((first | (with_reducible refine mx_seal S ?_) | (with_reducible refine wpl_seal S ?_) | (with_reducible refine ca_seal S ?_)); clear S; (try clear hc); intro w1 S; (try simp only [List.set_cons_zero, List.set_cons_succ, List.nil_append] at S); have hc := S.cells; simp only [Cells, cellsC, Im, Row, El, Nat.zero_add, Nat.reduceAdd] at hc))
      refine ⟨fun _ => Ext.alloc _ _, ?_⟩
      (first | refine ⟨(fun h => by cases h), ?_⟩ | skip); (first | ((first | (with_reducible refine mx_seal S ?_)); clear S; (try clear hc); intro w1 S; (try simp only [List.set_cons_zero, List.set_cons_succ, List.nil_append] at S); have hc := S.cells; simp only [Cells, cellsC, Im, Row, El, Nat.zero_add, Nat.reduceAdd] at hc) | skip); (try simp only [Act.put, List.setIfInBounds_toArray, List.set_cons_succ, List.set_cons_zero])
      refine mix_cons rfl rfl rfl ?_
      simp only [opsAt, List.getD_cons_succ, List.getD_cons_zero]
      repeat (go_big_quiet_step ((intro hC; first | rfl | (go_simp; first | done | rfl))))
      refine wpQuiet_nil ?_
      repeat (go_big_quiet_step ((intro hC; first | rfl | (go_simp; first | done | rfl))))
      refine wpQuiet_nil ?_
      go_wp2_with (first | ((first | (with_reducible refine mx_seal S ?_) | (with_reducible refine wpl_seal S ?_) | (with_reducible refine ca_seal S ?_)); clear S; (try clear hc); intro w1 S; (try simp only [List.set_cons_zero, List.set_cons_succ, List.nil_append] at S); have hc := S.cells; simp only [Cells, cellsC, Im, Row, El, Nat.zero_add, Nat.reduceAdd] at hc))
      (first | refine ⟨(fun h => by cases h), ?_⟩ | skip); (first | ((first | (with_reducible refine mx_seal S ?_)); clear S; (try clear hc); intro w1 S; (try simp only [List.set_cons_zero, List.set_cons_succ, List.nil_append] at S); have hc := S.cells; simp only [Cells, cellsC, Im, Row, El, Nat.zero_add, Nat.reduceAdd] at hc) | skip); (try simp only [Act.put, List.setIfInBounds_toArray, List.set_cons_succ, List.set_cons_zero])
      refine mix_last rfl ?_
      simp only [opsAt, List.getD_cons_succ, List.getD_cons_zero]
      repeat (go_big_quiet_step ((intro hC; first | rfl | (go_simp; first | done | rfl))))
      refine wpQuiet_nil ?_
      simp only [calmQ]
      go_wp2_with (first | ((first | (with_reducible refine wpl_seal S ?_) | (with_reducible refine cw_seal S ?_) | (with_reducible refine bp_seal S ?_) | (with_reducible refine ca_seal S ?_)); clear S; (try clear hc); intro w1 S; (try simp only [List.set_cons_zero, List.set_cons_succ, List.nil_append] at S); have hc := S.cells; simp only [Cells, cellsC, Im, Row, El, Nat.zero_add, Nat.reduceAdd] at hc))
      obtain ⟨g6, eg6⟩ := S.name 0 rfl; rw [← eg6] at S ⊢; clear eg6
      obtain ⟨g5, eg5⟩ := S.name 1 rfl; rw [← eg5] at S ⊢; clear eg5
      obtain ⟨g4, eg4⟩ := S.name 2 rfl; rw [← eg4] at S ⊢; clear eg4
      obtain ⟨g2, eg2⟩ := S.name 3 rfl; rw [← eg2] at S ⊢; clear eg2
      replace S := (S.nilrow (k := kP))
      clear hc
      go_loopw [7] (fun iv w' => ∃ (i : Nat) (v : Value) (J : Fp), iv = .int .i64 i ∧ i ≤ N ∧ As (SH No I w [Row kP v ((List.range i).map f), Cel g6 38 [.int .i64 (1 + aw), .int .i64 (1 + ah), v], Cel g5 31 [.int .i64 fc, .int .i64 fm], Cel g4 40 [.int .i64 0, .int .i64 0, .int .i64 0, .int .i64 0, .slice none 0 0], Cel g2 50 [.bool b, .int .i64 mv, .int .i64 xw, .int .i64 xh, .slice A l.length n], Im kI A l] w' J)) (fun iv _ => N - (intOf iv).toNat)
      case atStart => exact ⟨0, _, _, rfl, by omega, ⟨S⟩⟩
      case round =>
        clear S
        obtain ⟨i, v, J, rfl, hi, ⟨S⟩⟩ := hrel
        obtain ⟨Av, cv, ev, hcv, -⟩ := S.row 0 rfl
        subst ev
        rw [List.length_map, List.length_range] at S
        by_cases hlt : i < N
        · have hlt' : decide ((i : Int) < N) = true := decide_eq_true (by omega)
          by_cases hl0 : 0 < l.length
          · have hl0' : decide ((l.length : Int) > 0) = true := decide_eq_true (by omega)
            have hl1' : ((l.length : Int) == 0) = false := by rw [beq_eq_false_iff_ne]; omega
            obtain ⟨j, hj⟩ : ∃ j, i % l.length = j := ⟨_, rfl⟩
            have hjl : j < l.length := by rw [← hj]; exact Nat.mod_lt _ hl0
            have hjm : Int.tmod (i : Int) (l.length : Int) = (j : Int) := by rw [Int.tmod_eq_emod_of_nonneg (by omega), ← hj]; rfl
            obtain ⟨lb, lo, rfl, hcl⟩ := (S.im 5 rfl).num_at (List.getElem?_eq_getElem hjl)
            have HY := As.mk (HIL.out _ (List.getElem_mem hjl))
            have HAK := As.mk (show aroundI l[j] 3 = gk i by rw [HGK.out, HGN.out, if_neg (by omega), hj, List.getD_eq_getElem?_getD, List.getElem?_eq_getElem hjl]; rfl)
            generalize l[j] = y at hcl HY HAK
            replace HAK := As.mk (show ∀ w, Calls Tryz.prog 14 #[.int .i64 y, .int .i64 3] w fun e w' => e = .returned (.int .i64 (gk i)) ∧ w = w' by rw [← HAK.out]; exact fun w => around_c y 3 w HY.out (by decide) (by decide))
            have p1 := ClE.cell (w := wr.drew) hcl
            clear hj
            have HFI := As.mk ((HGF.out i).symm)
            have HKR := As.mk (HGR.out i)
            obtain ⟨k, hk⟩ : ∃ k, gk i = k := ⟨_, rfl⟩
            rw [hk] at HFI HKR HAK
            obtain ⟨fi, hfi⟩ : ∃ fi, f i = fi := ⟨_, rfl⟩
            rw [hfi] at HFI
            have HFE := As.mk (show (List.range i).map f ++ [fi] = (List.range (i + 1)).map f by rw [List.range_succ, List.map_append, ← hfi]; rfl)
            have HLE := As.mk (show ((List.range i).map f).length ≤ 256 by rw [List.length_map, List.length_range]; omega)
            have HI3 : As (∀ y ∈ [k, k / 2, 0], I64 y) := ⟨by
              obtain ⟨q1, q2⟩ := HKR.out
              skip
              intro y hy
              simp only [List.mem_cons, List.not_mem_nil, or_false] at hy
              unfold I64
              rcases hy with rfl | rfl | rfl <;> omega⟩
            obtain ⟨kq1, kq2⟩ := HKR.out
            clear hk hfi HKR
            have hc := S.cells; simp only [Cells, cellsC, Im, Row, El, Nat.zero_add, Nat.reduceAdd] at hc
            have hq := S.cellsE; simp only [CellsE, cellsE, Im, Row, El, Nat.zero_add, Nat.reduceAdd] at hq
            go_wp2_with (first | ((first | (with_reducible refine wpl_seal S ?_) | (with_reducible refine cw_seal S ?_) | (with_reducible refine bp_seal S ?_) | (with_reducible refine ca_seal S ?_)); clear S; (try clear hc); intro w1 S; (try simp only [List.set_cons_zero, List.set_cons_succ, List.nil_append] at S); have hc := S.cells; simp only [Cells, cellsC, Im, Row, El, Nat.zero_add, Nat.reduceAdd] at hc))
            refine wp_region_ext [] [0, 1, 2, 3, 4, 5, 6, 7, 8, 9] (by kernel_rfl) (by kernel_rfl) ?_
            refine mix_last rfl ?_
            simp only [opsAt, List.getD_cons_succ, List.getD_cons_zero]
            repeat (go_big_quiet_step ((intro hC; first | rfl | (go_simp; first | done | rfl))))
            refine wpQuiet_nil ?_
            simp only [calmQ]
            clear hq hc p1
            replace S := S.drew
            generalize wr.drew = w4 at S ⊢
            have hc := S.cells; simp only [Cells, cellsC, Im, Row, El, Nat.zero_add, Nat.reduceAdd] at hc
            go_wp2_with (first | ((first | (with_reducible refine wpl_seal S ?_) | (with_reducible refine cw_seal S ?_) | (with_reducible refine bp_seal S ?_) | (with_reducible refine ca_seal S ?_)); clear S; (try clear hc); intro w1 S; (try simp only [List.set_cons_zero, List.set_cons_succ, List.nil_append] at S); have hc := S.cells; simp only [Cells, cellsC, Im, Row, El, Nat.zero_add, Nat.reduceAdd] at hc) | (go_at_call 14; refine (HAK.out _).mono ?_; rintro e w1 ⟨rfl, rfl⟩))
            have hq := S.cellsE; simp only [CellsE, cellsE, Im, Row, El, Nat.zero_add, Nat.reduceAdd] at hq
            refine wp_region_ext [⟨[0, 1, 2, 3, 4, 6], [], 5, true⟩, ⟨[], [], 7, true⟩, ⟨[], [], 8, true⟩, ⟨[], [], 9, false⟩, ⟨[10], [], 11, false⟩] [] (by kernel_rfl) (by kernel_rfl) ?_
            refine mix_cons rfl rfl rfl ?_
            simp only [opsAt, List.getD_cons_succ, List.getD_cons_zero]
            repeat (go_big_quiet_step ((intro hC; first | rfl | (go_simp; first | done | rfl))))
            refine wpQuiet_nil ?_
            repeat (go_big_quiet_step ((intro hC; first | rfl | (go_simp; first | done | rfl))))
            refine wpQuiet_nil ?_
            clear hc hq
            replace S := S.drew
            generalize w4.drew = w5 at S ⊢
            have hc := S.cells; simp only [Cells, cellsC, Im, Row, El, Nat.zero_add, Nat.reduceAdd] at hc
            go_wp2_with (first | ((first | (with_reducible refine mx_seal S ?_) | (with_reducible refine wpl_seal S ?_) | (with_reducible refine ca_seal S ?_)); clear S; (try clear hc); intro w1 S; (try simp only [List.set_cons_zero, List.set_cons_succ, List.nil_append] at S); have hc := S.cells; simp only [Cells, cellsC, Im, Row, El, Nat.zero_add, Nat.reduceAdd] at hc))
            refine ⟨fun _ => Ext.alloc _ _, ?_⟩
            (first | refine ⟨(fun h => by cases h), ?_⟩ | skip); (first | ((first | (with_reducible refine mx_seal S ?_)); clear S; (try clear hc); intro w1 S; (try simp only [List.set_cons_zero, List.set_cons_succ, List.nil_append] at S); have hc := S.cells; simp only [Cells, cellsC, Im, Row, El, Nat.zero_add, Nat.reduceAdd] at hc) | skip); (try simp only [Act.put, List.setIfInBounds_toArray, List.set_cons_succ, List.set_cons_zero])
            have hq := CellsE_of S.cells; simp only [CellsE, cellsE, Im, Row, El, Nat.zero_add, Nat.reduceAdd] at hq
            refine mix_cons rfl rfl rfl ?_
            simp only [opsAt, List.getD_cons_succ, List.getD_cons_zero]
            repeat (go_big_quiet_step ((intro hC; first | rfl | (go_simp; first | done | rfl))))
            refine wpQuiet_nil ?_
            repeat (go_big_quiet_step ((intro hC; first | rfl | (go_simp; first | done | rfl))))
            refine wpQuiet_nil ?_
            clear hq
            go_wp2_with (first | ((first | (with_reducible refine mx_seal S ?_) | (with_reducible refine wpl_seal S ?_) | (with_reducible refine ca_seal S ?_)); clear S; (try clear hc); intro w1 S; (try simp only [List.set_cons_zero, List.set_cons_succ, List.nil_append] at S); have hc := S.cells; simp only [Cells, cellsC, Im, Row, El, Nat.zero_add, Nat.reduceAdd] at hc) | (go_at_call 46; obtain ⟨J4, S4, -⟩ := S.lit 0 rfl (k := kI) (xs := [k, k / 2, 0]) (Flat.int.2 rfl); refine (ygoodp_c [k, k / 2, 0] fc fm HFO.out rfl HI3.out _ _ _ _ S4.bd (S4.im 0 rfl)).mono ?_; clear S4; rw [HFI.out]; rintro e w1 ⟨rfl, hx⟩; have hxe := hx; replace S := S.ext hx; clear hx; (try clear hc); have hc := S.cells; simp only [Cells, cellsC, Im, Row, El, Nat.zero_add, Nat.reduceAdd] at hc))
            refine ⟨fun _ => hxe, ?_⟩
            clear hxe
            (first | refine ⟨(fun h => by cases h), ?_⟩ | skip); (first | ((first | (with_reducible refine mx_seal S ?_)); clear S; (try clear hc); intro w1 S; (try simp only [List.set_cons_zero, List.set_cons_succ, List.nil_append] at S); have hc := S.cells; simp only [Cells, cellsC, Im, Row, El, Nat.zero_add, Nat.reduceAdd] at hc) | skip); (try simp only [Act.put, List.setIfInBounds_toArray, List.set_cons_succ, List.set_cons_zero])
            refine mix_cons rfl rfl rfl ?_
            simp only [opsAt, List.getD_cons_succ, List.getD_cons_zero]
            repeat (go_big_quiet_step ((intro hC; first | rfl | (go_simp; first | done | rfl))))
            refine wpQuiet_nil ?_
            repeat (go_big_quiet_step ((intro hC; first | rfl | (go_simp; first | done | rfl))))
            refine wpQuiet_nil ?_
            go_wp2_with (first | ((first | (with_reducible refine mx_seal S ?_) | (with_reducible refine wpl_seal S ?_) | (with_reducible refine ca_seal S ?_)); clear S; (try clear hc); intro w1 S; (try simp only [List.set_cons_zero, List.set_cons_succ, List.nil_append] at S); have hc := S.cells; simp only [Cells, cellsC, Im, Row, El, Nat.zero_add, Nat.reduceAdd] at hc))
            refine ⟨fun _ => Ext.alloc _ _, ?_⟩
            (first | refine ⟨(fun h => by cases h), ?_⟩ | skip); (first | ((first | (with_reducible refine mx_seal S ?_)); clear S; (try clear hc); intro w1 S; (try simp only [List.set_cons_zero, List.set_cons_succ, List.nil_append] at S); have hc := S.cells; simp only [Cells, cellsC, Im, Row, El, Nat.zero_add, Nat.reduceAdd] at hc) | skip); (try simp only [Act.put, List.setIfInBounds_toArray, List.set_cons_succ, List.set_cons_zero])
            refine mix_cons rfl rfl rfl ?_
            simp only [opsAt, List.getD_cons_succ, List.getD_cons_zero]
            repeat (go_big_quiet_step ((intro hC; first | rfl | (go_simp; first | done | rfl))))
            refine wpQuiet_nil ?_
            repeat (go_big_quiet_step ((intro hC; first | rfl | (go_simp; first | done | rfl))))
            refine wpQuiet_nil ?_
            have hle := HLE.out
            go_wp2_with (first | ((first | (with_reducible refine mx_seal S ?_) | (with_reducible refine wpl_seal S ?_) | (with_reducible refine ca_seal S ?_)); clear S; (try clear hc); intro w1 S; (try simp only [List.set_cons_zero, List.set_cons_succ, List.nil_append] at S); have hc := S.cells; simp only [Cells, cellsC, Im, Row, El, Nat.zero_add, Nat.reduceAdd] at hc) | (at_builtin; refine wpl_push S 2 rfl rfl _ _ rfl ty_pixs rfl fi _ _ rfl [_] _ (S.cel 0 rfl) rfl (by (try simp only [maxLen, List.length_nil, List.length_append, List.length_cons]); omega) (by (try simp only [maxLen, List.length_nil, List.length_append, List.length_cons]); omega) ?_; clear S; (try clear hc); intro va w1 S; simp only [List.set_cons_zero, List.set_cons_succ, List.nil_append] at S; obtain ⟨Av, cv, eva, -, -⟩ := S.row 2 rfl; subst eva; have hc := S.cells; simp only [Cells, cellsC, Im, Row, El, Nat.zero_add, Nat.reduceAdd] at hc))
            clear hle
            rw [show ((List.range i).map f ++ [fi]).length = i + 1 by simp, HFE.out] at S
            (first | refine ⟨(fun h => by cases h), ?_⟩ | skip); (first | ((first | (with_reducible refine mx_seal S ?_)); clear S; (try clear hc); intro w1 S; (try simp only [List.set_cons_zero, List.set_cons_succ, List.nil_append] at S); have hc := S.cells; simp only [Cells, cellsC, Im, Row, El, Nat.zero_add, Nat.reduceAdd] at hc) | skip); (try simp only [Act.put, List.setIfInBounds_toArray, List.set_cons_succ, List.set_cons_zero])
            have hc := S.cells; simp only [Cells, cellsC, Im, Row, El, Nat.zero_add, Nat.reduceAdd] at hc
            refine mix_cons rfl rfl rfl ?_
            simp only [opsAt, List.getD_cons_succ, List.getD_cons_zero]
            repeat (go_big_quiet_step ((intro hC; first | rfl | (go_simp; first | done | rfl))))
            refine wpQuiet_nil ?_
            repeat (go_big_quiet_step ((intro hC; first | rfl | (go_simp; first | done | rfl))))
            refine wpQuiet_nil ?_
            go_wp2_with (first | ((first | (with_reducible refine mx_seal S ?_) | (with_reducible refine wpl_seal S ?_) | (with_reducible refine ca_seal S ?_)); clear S; (try clear hc); intro w1 S; (try simp only [List.set_cons_zero, List.set_cons_succ, List.nil_append] at S); have hc := S.cells; simp only [Cells, cellsC, Im, Row, El, Nat.zero_add, Nat.reduceAdd] at hc))
            (first | refine ⟨(fun h => by cases h), ?_⟩ | skip); (first | ((first | (with_reducible refine mx_seal S ?_)); clear S; (try clear hc); intro w1 S; (try simp only [List.set_cons_zero, List.set_cons_succ, List.nil_append] at S); have hc := S.cells; simp only [Cells, cellsC, Im, Row, El, Nat.zero_add, Nat.reduceAdd] at hc) | skip); (try simp only [Act.put, List.setIfInBounds_toArray, List.set_cons_succ, List.set_cons_zero])
            refine mix_last rfl ?_
            simp only [opsAt, List.getD_cons_succ, List.getD_cons_zero]
            repeat (go_big_quiet_step ((intro hC; first | rfl | (go_simp; first | done | rfl))))
            refine wpQuiet_nil ?_
            simp only [calmQ]
            go_wp2_with (first | ((first | (with_reducible refine wpl_seal S ?_) | (with_reducible refine cw_seal S ?_) | (with_reducible refine bp_seal S ?_) | (with_reducible refine ca_seal S ?_)); clear S; (try clear hc); intro w1 S; (try simp only [List.set_cons_zero, List.set_cons_succ, List.nil_append] at S); have hc := S.cells; simp only [Cells, cellsC, Im, Row, El, Nat.zero_add, Nat.reduceAdd] at hc))
            go_roundw
            case rel => exact ⟨i + 1, _, _, by go_num, by omega, ⟨(S.sel [2, 3, 4, 5, 6, 7] (by decide) rfl (by simp) : SH _ _ _ [_, _, _, _, _, _] _ _)⟩⟩
            case measure => simp [intOf]; omega

          · have hl0' : decide ((l.length : Int) > 0) = false := decide_eq_false (by omega)
            have HAK := As.mk (show ∀ w, Calls Tryz.prog 14 #[.int .i64 0, .int .i64 3] w fun e w' => e = .returned (.int .i64 (gk i)) ∧ w = w' by
              have : gk i = aroundI 0 3 := by rw [HGK.out, HGN.out, if_pos (by omega)]
              rw [this]; exact fun w => around_c 0 3 w (by unfold I64; omega) (by decide) (by decide))
            have HFI := As.mk ((HGF.out i).symm)
            have HKR := As.mk (HGR.out i)
            obtain ⟨k, hk⟩ : ∃ k, gk i = k := ⟨_, rfl⟩
            rw [hk] at HFI HKR HAK
            obtain ⟨fi, hfi⟩ : ∃ fi, f i = fi := ⟨_, rfl⟩
            rw [hfi] at HFI
            have HFE := As.mk (show (List.range i).map f ++ [fi] = (List.range (i + 1)).map f by rw [List.range_succ, List.map_append, ← hfi]; rfl)
            have HLE := As.mk (show ((List.range i).map f).length ≤ 256 by rw [List.length_map, List.length_range]; omega)
            have HI3 : As (∀ y ∈ [k, k / 2, 0], I64 y) := ⟨by
              obtain ⟨q1, q2⟩ := HKR.out
              skip
              intro y hy
              simp only [List.mem_cons, List.not_mem_nil, or_false] at hy
              unfold I64
              rcases hy with rfl | rfl | rfl <;> omega⟩
            obtain ⟨kq1, kq2⟩ := HKR.out
            clear hk hfi HKR
            have hc := S.cells; simp only [Cells, cellsC, Im, Row, El, Nat.zero_add, Nat.reduceAdd] at hc
            go_wp2_with (first | ((first | (with_reducible refine wpl_seal S ?_) | (with_reducible refine cw_seal S ?_) | (with_reducible refine bp_seal S ?_) | (with_reducible refine ca_seal S ?_)); clear S; (try clear hc); intro w1 S; (try simp only [List.set_cons_zero, List.set_cons_succ, List.nil_append] at S); have hc := S.cells; simp only [Cells, cellsC, Im, Row, El, Nat.zero_add, Nat.reduceAdd] at hc) | (go_at_call 14; refine (HAK.out _).mono ?_; rintro e w1 ⟨rfl, rfl⟩))
            have hq := S.cellsE; simp only [CellsE, cellsE, Im, Row, El, Nat.zero_add, Nat.reduceAdd] at hq
            refine wp_region_ext [⟨[0, 1, 2, 3, 4, 6], [], 5, true⟩, ⟨[], [], 7, true⟩, ⟨[], [], 8, true⟩, ⟨[], [], 9, false⟩, ⟨[10], [], 11, false⟩] [] (by kernel_rfl) (by kernel_rfl) ?_
            refine mix_cons rfl rfl rfl ?_
            simp only [opsAt, List.getD_cons_succ, List.getD_cons_zero]
            repeat (go_big_quiet_step ((intro hC; first | rfl | (go_simp; first | done | rfl))))
            refine wpQuiet_nil ?_
            repeat (go_big_quiet_step ((intro hC; first | rfl | (go_simp; first | done | rfl))))
            refine wpQuiet_nil ?_
            clear hc hq
            replace S := S.drew
            generalize wr.drew = w5 at S ⊢
            have hc := S.cells; simp only [Cells, cellsC, Im, Row, El, Nat.zero_add, Nat.reduceAdd] at hc
            go_wp2_with (first | ((first | (with_reducible refine mx_seal S ?_) | (with_reducible refine wpl_seal S ?_) | (with_reducible refine ca_seal S ?_)); clear S; (try clear hc); intro w1 S; (try simp only [List.set_cons_zero, List.set_cons_succ, List.nil_append] at S); have hc := S.cells; simp only [Cells, cellsC, Im, Row, El, Nat.zero_add, Nat.reduceAdd] at hc))
            refine ⟨fun _ => Ext.alloc _ _, ?_⟩
            (first | refine ⟨(fun h => by cases h), ?_⟩ | skip); (first | ((first | (with_reducible refine mx_seal S ?_)); clear S; (try clear hc); intro w1 S; (try simp only [List.set_cons_zero, List.set_cons_succ, List.nil_append] at S); have hc := S.cells; simp only [Cells, cellsC, Im, Row, El, Nat.zero_add, Nat.reduceAdd] at hc) | skip); (try simp only [Act.put, List.setIfInBounds_toArray, List.set_cons_succ, List.set_cons_zero])
            have hq := CellsE_of S.cells; simp only [CellsE, cellsE, Im, Row, El, Nat.zero_add, Nat.reduceAdd] at hq
            refine mix_cons rfl rfl rfl ?_
            simp only [opsAt, List.getD_cons_succ, List.getD_cons_zero]
            repeat (go_big_quiet_step ((intro hC; first | rfl | (go_simp; first | done | rfl))))
            refine wpQuiet_nil ?_
            repeat (go_big_quiet_step ((intro hC; first | rfl | (go_simp; first | done | rfl))))
            refine wpQuiet_nil ?_
            clear hq
            go_wp2_with (first | ((first | (with_reducible refine mx_seal S ?_) | (with_reducible refine wpl_seal S ?_) | (with_reducible refine ca_seal S ?_)); clear S; (try clear hc); intro w1 S; (try simp only [List.set_cons_zero, List.set_cons_succ, List.nil_append] at S); have hc := S.cells; simp only [Cells, cellsC, Im, Row, El, Nat.zero_add, Nat.reduceAdd] at hc) | (go_at_call 46; obtain ⟨J4, S4, -⟩ := S.lit 0 rfl (k := kI) (xs := [k, k / 2, 0]) (Flat.int.2 rfl); refine (ygoodp_c [k, k / 2, 0] fc fm HFO.out rfl HI3.out _ _ _ _ S4.bd (S4.im 0 rfl)).mono ?_; clear S4; rw [HFI.out]; rintro e w1 ⟨rfl, hx⟩; have hxe := hx; replace S := S.ext hx; clear hx; (try clear hc); have hc := S.cells; simp only [Cells, cellsC, Im, Row, El, Nat.zero_add, Nat.reduceAdd] at hc))
            refine ⟨fun _ => hxe, ?_⟩
            clear hxe
            (first | refine ⟨(fun h => by cases h), ?_⟩ | skip); (first | ((first | (with_reducible refine mx_seal S ?_)); clear S; (try clear hc); intro w1 S; (try simp only [List.set_cons_zero, List.set_cons_succ, List.nil_append] at S); have hc := S.cells; simp only [Cells, cellsC, Im, Row, El, Nat.zero_add, Nat.reduceAdd] at hc) | skip); (try simp only [Act.put, List.setIfInBounds_toArray, List.set_cons_succ, List.set_cons_zero])
            refine mix_cons rfl rfl rfl ?_
            simp only [opsAt, List.getD_cons_succ, List.getD_cons_zero]
            repeat (go_big_quiet_step ((intro hC; first | rfl | (go_simp; first | done | rfl))))
            refine wpQuiet_nil ?_
            repeat (go_big_quiet_step ((intro hC; first | rfl | (go_simp; first | done | rfl))))
            refine wpQuiet_nil ?_
            go_wp2_with (first | ((first | (with_reducible refine mx_seal S ?_) | (with_reducible refine wpl_seal S ?_) | (with_reducible refine ca_seal S ?_)); clear S; (try clear hc); intro w1 S; (try simp only [List.set_cons_zero, List.set_cons_succ, List.nil_append] at S); have hc := S.cells; simp only [Cells, cellsC, Im, Row, El, Nat.zero_add, Nat.reduceAdd] at hc))
            refine ⟨fun _ => Ext.alloc _ _, ?_⟩
            (first | refine ⟨(fun h => by cases h), ?_⟩ | skip); (first | ((first | (with_reducible refine mx_seal S ?_)); clear S; (try clear hc); intro w1 S; (try simp only [List.set_cons_zero, List.set_cons_succ, List.nil_append] at S); have hc := S.cells; simp only [Cells, cellsC, Im, Row, El, Nat.zero_add, Nat.reduceAdd] at hc) | skip); (try simp only [Act.put, List.setIfInBounds_toArray, List.set_cons_succ, List.set_cons_zero])
            refine mix_cons rfl rfl rfl ?_
            simp only [opsAt, List.getD_cons_succ, List.getD_cons_zero]
            repeat (go_big_quiet_step ((intro hC; first | rfl | (go_simp; first | done | rfl))))
            refine wpQuiet_nil ?_
            repeat (go_big_quiet_step ((intro hC; first | rfl | (go_simp; first | done | rfl))))
            refine wpQuiet_nil ?_
            have hle := HLE.out
            go_wp2_with (first | ((first | (with_reducible refine mx_seal S ?_) | (with_reducible refine wpl_seal S ?_) | (with_reducible refine ca_seal S ?_)); clear S; (try clear hc); intro w1 S; (try simp only [List.set_cons_zero, List.set_cons_succ, List.nil_append] at S); have hc := S.cells; simp only [Cells, cellsC, Im, Row, El, Nat.zero_add, Nat.reduceAdd] at hc) | (at_builtin; refine wpl_push S 2 rfl rfl _ _ rfl ty_pixs rfl fi _ _ rfl [_] _ (S.cel 0 rfl) rfl (by (try simp only [maxLen, List.length_nil, List.length_append, List.length_cons]); omega) (by (try simp only [maxLen, List.length_nil, List.length_append, List.length_cons]); omega) ?_; clear S; (try clear hc); intro va w1 S; simp only [List.set_cons_zero, List.set_cons_succ, List.nil_append] at S; obtain ⟨Av, cv, eva, -, -⟩ := S.row 2 rfl; subst eva; have hc := S.cells; simp only [Cells, cellsC, Im, Row, El, Nat.zero_add, Nat.reduceAdd] at hc))
            clear hle
            rw [show ((List.range i).map f ++ [fi]).length = i + 1 by simp, HFE.out] at S
            (first | refine ⟨(fun h => by cases h), ?_⟩ | skip); (first | ((first | (with_reducible refine mx_seal S ?_)); clear S; (try clear hc); intro w1 S; (try simp only [List.set_cons_zero, List.set_cons_succ, List.nil_append] at S); have hc := S.cells; simp only [Cells, cellsC, Im, Row, El, Nat.zero_add, Nat.reduceAdd] at hc) | skip); (try simp only [Act.put, List.setIfInBounds_toArray, List.set_cons_succ, List.set_cons_zero])
            have hc := S.cells; simp only [Cells, cellsC, Im, Row, El, Nat.zero_add, Nat.reduceAdd] at hc
            refine mix_cons rfl rfl rfl ?_
            simp only [opsAt, List.getD_cons_succ, List.getD_cons_zero]
            repeat (go_big_quiet_step ((intro hC; first | rfl | (go_simp; first | done | rfl))))
            refine wpQuiet_nil ?_
            repeat (go_big_quiet_step ((intro hC; first | rfl | (go_simp; first | done | rfl))))
            refine wpQuiet_nil ?_
            go_wp2_with (first | ((first | (with_reducible refine mx_seal S ?_) | (with_reducible refine wpl_seal S ?_) | (with_reducible refine ca_seal S ?_)); clear S; (try clear hc); intro w1 S; (try simp only [List.set_cons_zero, List.set_cons_succ, List.nil_append] at S); have hc := S.cells; simp only [Cells, cellsC, Im, Row, El, Nat.zero_add, Nat.reduceAdd] at hc))
            (first | refine ⟨(fun h => by cases h), ?_⟩ | skip); (first | ((first | (with_reducible refine mx_seal S ?_)); clear S; (try clear hc); intro w1 S; (try simp only [List.set_cons_zero, List.set_cons_succ, List.nil_append] at S); have hc := S.cells; simp only [Cells, cellsC, Im, Row, El, Nat.zero_add, Nat.reduceAdd] at hc) | skip); (try simp only [Act.put, List.setIfInBounds_toArray, List.set_cons_succ, List.set_cons_zero])
            refine mix_last rfl ?_
            simp only [opsAt, List.getD_cons_succ, List.getD_cons_zero]
            repeat (go_big_quiet_step ((intro hC; first | rfl | (go_simp; first | done | rfl))))
            refine wpQuiet_nil ?_
            simp only [calmQ]
            go_wp2_with (first | ((first | (with_reducible refine wpl_seal S ?_) | (with_reducible refine cw_seal S ?_) | (with_reducible refine bp_seal S ?_) | (with_reducible refine ca_seal S ?_)); clear S; (try clear hc); intro w1 S; (try simp only [List.set_cons_zero, List.set_cons_succ, List.nil_append] at S); have hc := S.cells; simp only [Cells, cellsC, Im, Row, El, Nat.zero_add, Nat.reduceAdd] at hc))
            go_roundw
            case rel => exact ⟨i + 1, _, _, by go_num, by omega, ⟨(S.sel [2, 3, 4, 5, 6, 7] (by decide) rfl (by simp) : SH _ _ _ [_, _, _, _, _, _] _ _)⟩⟩
            case measure => simp [intOf]; omega

        · have hlt' : decide ((i : Int) < N) = false := decide_eq_false (by omega)
          obtain rfl : i = N := by omega
          have hc := S.cells; simp only [Cells, cellsC, Im, Row, El, Nat.zero_add, Nat.reduceAdd] at hc
          go_wp2_with (first | ((first | (with_reducible refine wpl_seal S ?_) | (with_reducible refine cw_seal S ?_) | (with_reducible refine bp_seal S ?_) | (with_reducible refine ca_seal S ?_)); clear S; (try clear hc); intro w1 S; (try simp only [List.set_cons_zero, List.set_cons_succ, List.nil_append] at S); have hc := S.cells; simp only [Cells, cellsC, Im, Row, El, Nat.zero_add, Nat.reduceAdd] at hc))
          refine bodyPost_ret (results_cell_row rfl _ _ g4 40 _ (0, 0) _ rfl (S.cel 3 rfl) Tryz.underlying40 rfl (by kernel_rfl)) rfl ?_
          obtain ⟨Ar, cr, e3, hcr, -⟩ := S.row 0 rfl
          rw [Value.slice.injEq] at e3
          obtain ⟨rfl, e4, rfl⟩ := e3
          have HPP : As (p = ⟨fc, fm, ⟨1 + aw, 1 + ah, (List.range i).map f⟩⟩) := ⟨by rw [← HP.out, HPX.out]⟩
          obtain rfl := HPP.out
          exact ⟨_, _, by dsimp only [picV]; rw [← e4], by rw [← e4]; exact S.ret 0 rfl⟩
    · have hc := S.cells; simp only [Cells, cellsC, Im, Row, El, Nat.zero_add, Nat.reduceAdd] at hc
      go_wp2_with (first | ((first | (with_reducible refine mx_seal S ?_) | (with_reducible refine wpl_seal S ?_) | (with_reducible refine ca_seal S ?_)); clear S; (try clear hc); intro w1 S; (try simp only [List.set_cons_zero, List.set_cons_succ, List.nil_append] at S); have hc := S.cells; simp only [Cells, cellsC, Im, Row, El, Nat.zero_add, Nat.reduceAdd] at hc))
      refine ⟨Ext.alloc _ _, ?_⟩
      (first | refine ⟨(fun h => by cases h), ?_⟩ | skip); (first | ((first | (with_reducible refine mx_seal S ?_)); clear S; (try clear hc); intro w1 S; (try simp only [List.set_cons_zero, List.set_cons_succ, List.nil_append] at S); have hc := S.cells; simp only [Cells, cellsC, Im, Row, El, Nat.zero_add, Nat.reduceAdd] at hc) | skip); (try simp only [Act.put, List.setIfInBounds_toArray, List.set_cons_succ, List.set_cons_zero])
      refine mix_cons rfl rfl rfl ?_
      simp only [opsAt, List.getD_cons_succ, List.getD_cons_zero]
      repeat (go_big_quiet_step ((intro hC; first | rfl | (go_simp; first | done | rfl))))
      refine wpQuiet_nil ?_
      repeat (go_big_quiet_step ((intro hC; first | rfl | (go_simp; first | done | rfl))))
      refine wpQuiet_nil ?_
      go_wp2_with (first | ((first | (with_reducible refine mx_seal S ?_) | (with_reducible refine wpl_seal S ?_) | (with_reducible refine ca_seal S ?_)); clear S; (try clear hc); intro w1 S; (try simp only [List.set_cons_zero, List.set_cons_succ, List.nil_append] at S); have hc := S.cells; simp only [Cells, cellsC, Im, Row, El, Nat.zero_add, Nat.reduceAdd] at hc) | (go_at_call 14; refine (HA2.out _).mono ?_; rintro e w1 ⟨rfl, rfl⟩))
      refine ⟨fun _ => Ext.refl _, ?_⟩
      (first | refine ⟨(fun h => by cases h), ?_⟩ | skip); (first | ((first | (with_reducible refine mx_seal S ?_)); clear S; (try clear hc); intro w1 S; (try simp only [List.set_cons_zero, List.set_cons_succ, List.nil_append] at S); have hc := S.cells; simp only [Cells, cellsC, Im, Row, El, Nat.zero_add, Nat.reduceAdd] at hc) | skip); (try simp only [Act.put, List.setIfInBounds_toArray, List.set_cons_succ, List.set_cons_zero])
      refine mix_cons rfl rfl rfl ?_
      simp only [opsAt, List.getD_cons_succ, List.getD_cons_zero]
      repeat (go_big_quiet_step ((intro hC; first | rfl | (go_simp; first | done | rfl))))
      refine wpQuiet_nil ?_
      repeat (go_big_quiet_step ((intro hC; first | rfl | (go_simp; first | done | rfl))))
      refine wpQuiet_nil ?_
      go_wp2_with (first | ((first | (with_reducible refine mx_seal S ?_) | (with_reducible refine wpl_seal S ?_) | (with_reducible refine ca_seal S ?_)); clear S; (try clear hc); intro w1 S; (try simp only [List.set_cons_zero, List.set_cons_succ, List.nil_append] at S); have hc := S.cells; simp only [Cells, cellsC, Im, Row, El, Nat.zero_add, Nat.reduceAdd] at hc))
      (first | refine ⟨(fun h => by cases h), ?_⟩ | skip); (first | ((first | (with_reducible refine mx_seal S ?_)); clear S; (try clear hc); intro w1 S; (try simp only [List.set_cons_zero, List.set_cons_succ, List.nil_append] at S); have hc := S.cells; simp only [Cells, cellsC, Im, Row, El, Nat.zero_add, Nat.reduceAdd] at hc) | skip); (try simp only [Act.put, List.setIfInBounds_toArray, List.set_cons_succ, List.set_cons_zero])
      refine mix_last rfl ?_
      simp only [opsAt, List.getD_cons_succ, List.getD_cons_zero]
      repeat (go_big_quiet_step ((intro hC; first | rfl | (go_simp; first | done | rfl))))
      refine wpQuiet_nil ?_
      simp only [calmQ]
      go_wp2_with (first | ((first | (with_reducible refine wpl_seal S ?_) | (with_reducible refine cw_seal S ?_) | (with_reducible refine bp_seal S ?_) | (with_reducible refine ca_seal S ?_)); clear S; (try clear hc); intro w1 S; (try simp only [List.set_cons_zero, List.set_cons_succ, List.nil_append] at S); have hc := S.cells; simp only [Cells, cellsC, Im, Row, El, Nat.zero_add, Nat.reduceAdd] at hc))
      obtain ⟨g6, eg6⟩ := S.name 0 rfl; rw [← eg6] at S ⊢; clear eg6
      obtain ⟨g5, eg5⟩ := S.name 1 rfl; rw [← eg5] at S ⊢; clear eg5
      obtain ⟨g4, eg4⟩ := S.name 2 rfl; rw [← eg4] at S ⊢; clear eg4
      obtain ⟨g2, eg2⟩ := S.name 3 rfl; rw [← eg2] at S ⊢; clear eg2
      replace S := (S.nilrow (k := kP))
      clear hc
      go_loopw [7] (fun iv w' => ∃ (i : Nat) (v : Value) (J : Fp), iv = .int .i64 i ∧ i ≤ N ∧ As (SH No I w [Row kP v ((List.range i).map f), Cel g6 38 [.int .i64 (1 + aw), .int .i64 (1 + ah), v], Cel g5 31 [.int .i64 fc, .int .i64 fm], Cel g4 40 [.int .i64 0, .int .i64 0, .int .i64 0, .int .i64 0, .slice none 0 0], Cel g2 50 [.bool b, .int .i64 mv, .int .i64 xw, .int .i64 xh, .slice A l.length n], Im kI A l] w' J)) (fun iv _ => N - (intOf iv).toNat)
      case atStart => exact ⟨0, _, _, rfl, by omega, ⟨S⟩⟩
      case round =>
        clear S
        obtain ⟨i, v, J, rfl, hi, ⟨S⟩⟩ := hrel
        obtain ⟨Av, cv, ev, hcv, -⟩ := S.row 0 rfl
        subst ev
        rw [List.length_map, List.length_range] at S
        by_cases hlt : i < N
        · have hlt' : decide ((i : Int) < N) = true := decide_eq_true (by omega)
          by_cases hl0 : 0 < l.length
          · have hl0' : decide ((l.length : Int) > 0) = true := decide_eq_true (by omega)
            have hl1' : ((l.length : Int) == 0) = false := by rw [beq_eq_false_iff_ne]; omega
            obtain ⟨j, hj⟩ : ∃ j, i % l.length = j := ⟨_, rfl⟩
            have hjl : j < l.length := by rw [← hj]; exact Nat.mod_lt _ hl0
            have hjm : Int.tmod (i : Int) (l.length : Int) = (j : Int) := by rw [Int.tmod_eq_emod_of_nonneg (by omega), ← hj]; rfl
            obtain ⟨lb, lo, rfl, hcl⟩ := (S.im 5 rfl).num_at (List.getElem?_eq_getElem hjl)
            have HY := As.mk (HIL.out _ (List.getElem_mem hjl))
            have HAK := As.mk (show aroundI l[j] 3 = gk i by rw [HGK.out, HGN.out, if_neg (by omega), hj, List.getD_eq_getElem?_getD, List.getElem?_eq_getElem hjl]; rfl)
            generalize l[j] = y at hcl HY HAK
            replace HAK := As.mk (show ∀ w, Calls Tryz.prog 14 #[.int .i64 y, .int .i64 3] w fun e w' => e = .returned (.int .i64 (gk i)) ∧ w = w' by rw [← HAK.out]; exact fun w => around_c y 3 w HY.out (by decide) (by decide))
            have p1 := ClE.cell (w := wr.drew) hcl
            clear hj
            have HFI := As.mk ((HGF.out i).symm)
            have HKR := As.mk (HGR.out i)
            obtain ⟨k, hk⟩ : ∃ k, gk i = k := ⟨_, rfl⟩
            rw [hk] at HFI HKR HAK
            obtain ⟨fi, hfi⟩ : ∃ fi, f i = fi := ⟨_, rfl⟩
            rw [hfi] at HFI
            have HFE := As.mk (show (List.range i).map f ++ [fi] = (List.range (i + 1)).map f by rw [List.range_succ, List.map_append, ← hfi]; rfl)
            have HLE := As.mk (show ((List.range i).map f).length ≤ 256 by rw [List.length_map, List.length_range]; omega)
            have HI3 : As (∀ y ∈ [k, k / 2, 0], I64 y) := ⟨by
              obtain ⟨q1, q2⟩ := HKR.out
              skip
              intro y hy
              simp only [List.mem_cons, List.not_mem_nil, or_false] at hy
              unfold I64
              rcases hy with rfl | rfl | rfl <;> omega⟩
            obtain ⟨kq1, kq2⟩ := HKR.out
            clear hk hfi HKR
            have hc := S.cells; simp only [Cells, cellsC, Im, Row, El, Nat.zero_add, Nat.reduceAdd] at hc
            have hq := S.cellsE; simp only [CellsE, cellsE, Im, Row, El, Nat.zero_add, Nat.reduceAdd] at hq
            go_wp2_with (first | ((first | (with_reducible refine wpl_seal S ?_) | (with_reducible refine cw_seal S ?_) | (with_reducible refine bp_seal S ?_) | (with_reducible refine ca_seal S ?_)); clear S; (try clear hc); intro w1 S; (try simp only [List.set_cons_zero, List.set_cons_succ, List.nil_append] at S); have hc := S.cells; simp only [Cells, cellsC, Im, Row, El, Nat.zero_add, Nat.reduceAdd] at hc))
            refine wp_region_ext [] [0, 1, 2, 3, 4, 5, 6, 7, 8, 9] (by kernel_rfl) (by kernel_rfl) ?_
            refine mix_last rfl ?_
            simp only [opsAt, List.getD_cons_succ, List.getD_cons_zero]
            repeat (go_big_quiet_step ((intro hC; first | rfl | (go_simp; first | done | rfl))))
            refine wpQuiet_nil ?_
            simp only [calmQ]
            clear hq hc p1
            replace S := S.drew
            generalize wr.drew = w4 at S ⊢
            have hc := S.cells; simp only [Cells, cellsC, Im, Row, El, Nat.zero_add, Nat.reduceAdd] at hc
            go_wp2_with (first | ((first | (with_reducible refine wpl_seal S ?_) | (with_reducible refine cw_seal S ?_) | (with_reducible refine bp_seal S ?_) | (with_reducible refine ca_seal S ?_)); clear S; (try clear hc); intro w1 S; (try simp only [List.set_cons_zero, List.set_cons_succ, List.nil_append] at S); have hc := S.cells; simp only [Cells, cellsC, Im, Row, El, Nat.zero_add, Nat.reduceAdd] at hc) | (go_at_call 14; refine (HAK.out _).mono ?_; rintro e w1 ⟨rfl, rfl⟩))
            have hq := S.cellsE; simp only [CellsE, cellsE, Im, Row, El, Nat.zero_add, Nat.reduceAdd] at hq
            refine wp_region_ext [⟨[0, 1, 2, 3, 4, 6], [], 5, true⟩, ⟨[], [], 7, true⟩, ⟨[], [], 8, true⟩, ⟨[], [], 9, false⟩, ⟨[10], [], 11, false⟩] [] (by kernel_rfl) (by kernel_rfl) ?_
            refine mix_cons rfl rfl rfl ?_
            simp only [opsAt, List.getD_cons_succ, List.getD_cons_zero]
            repeat (go_big_quiet_step ((intro hC; first | rfl | (go_simp; first | done | rfl))))
            refine wpQuiet_nil ?_
            repeat (go_big_quiet_step ((intro hC; first | rfl | (go_simp; first | done | rfl))))
            refine wpQuiet_nil ?_
            clear hc hq
            replace S := S.drew
            generalize w4.drew = w5 at S ⊢
            have hc := S.cells; simp only [Cells, cellsC, Im, Row, El, Nat.zero_add, Nat.reduceAdd] at hc
            go_wp2_with (first | ((first | (with_reducible refine mx_seal S ?_) | (with_reducible refine wpl_seal S ?_) | (with_reducible refine ca_seal S ?_)); clear S; (try clear hc); intro w1 S; (try simp only [List.set_cons_zero, List.set_cons_succ, List.nil_append] at S); have hc := S.cells; simp only [Cells, cellsC, Im, Row, El, Nat.zero_add, Nat.reduceAdd] at hc))
            refine ⟨fun _ => Ext.alloc _ _, ?_⟩
            (first | refine ⟨(fun h => by cases h), ?_⟩ | skip); (first | ((first | (with_reducible refine mx_seal S ?_)); clear S; (try clear hc); intro w1 S; (try simp only [List.set_cons_zero, List.set_cons_succ, List.nil_append] at S); have hc := S.cells; simp only [Cells, cellsC, Im, Row, El, Nat.zero_add, Nat.reduceAdd] at hc) | skip); (try simp only [Act.put, List.setIfInBounds_toArray, List.set_cons_succ, List.set_cons_zero])
            have hq := CellsE_of S.cells; simp only [CellsE, cellsE, Im, Row, El, Nat.zero_add, Nat.reduceAdd] at hq
            refine mix_cons rfl rfl rfl ?_
            simp only [opsAt, List.getD_cons_succ, List.getD_cons_zero]
            repeat (go_big_quiet_step ((intro hC; first | rfl | (go_simp; first | done | rfl))))
            refine wpQuiet_nil ?_
            repeat (go_big_quiet_step ((intro hC; first | rfl | (go_simp; first | done | rfl))))
            refine wpQuiet_nil ?_
            clear hq
            go_wp2_with (first | ((first | (with_reducible refine mx_seal S ?_) | (with_reducible refine wpl_seal S ?_) | (with_reducible refine ca_seal S ?_)); clear S; (try clear hc); intro w1 S; (try simp only [List.set_cons_zero, List.set_cons_succ, List.nil_append] at S); have hc := S.cells; simp only [Cells, cellsC, Im, Row, El, Nat.zero_add, Nat.reduceAdd] at hc) | (go_at_call 46; obtain ⟨J4, S4, -⟩ := S.lit 0 rfl (k := kI) (xs := [k, k / 2, 0]) (Flat.int.2 rfl); refine (ygoodp_c [k, k / 2, 0] fc fm HFO.out rfl HI3.out _ _ _ _ S4.bd (S4.im 0 rfl)).mono ?_; clear S4; rw [HFI.out]; rintro e w1 ⟨rfl, hx⟩; have hxe := hx; replace S := S.ext hx; clear hx; (try clear hc); have hc := S.cells; simp only [Cells, cellsC, Im, Row, El, Nat.zero_add, Nat.reduceAdd] at hc))
            refine ⟨fun _ => hxe, ?_⟩
            clear hxe
            (first | refine ⟨(fun h => by cases h), ?_⟩ | skip); (first | ((first | (with_reducible refine mx_seal S ?_)); clear S; (try clear hc); intro w1 S; (try simp only [List.set_cons_zero, List.set_cons_succ, List.nil_append] at S); have hc := S.cells; simp only [Cells, cellsC, Im, Row, El, Nat.zero_add, Nat.reduceAdd] at hc) | skip); (try simp only [Act.put, List.setIfInBounds_toArray, List.set_cons_succ, List.set_cons_zero])
            refine mix_cons rfl rfl rfl ?_
            simp only [opsAt, List.getD_cons_succ, List.getD_cons_zero]
            repeat (go_big_quiet_step ((intro hC; first | rfl | (go_simp; first | done | rfl))))
            refine wpQuiet_nil ?_
            repeat (go_big_quiet_step ((intro hC; first | rfl | (go_simp; first | done | rfl))))
            refine wpQuiet_nil ?_
            go_wp2_with (first | ((first | (with_reducible refine mx_seal S ?_) | (with_reducible refine wpl_seal S ?_) | (with_reducible refine ca_seal S ?_)); clear S; (try clear hc); intro w1 S; (try simp only [List.set_cons_zero, List.set_cons_succ, List.nil_append] at S); have hc := S.cells; simp only [Cells, cellsC, Im, Row, El, Nat.zero_add, Nat.reduceAdd] at hc))
            refine ⟨fun _ => Ext.alloc _ _, ?_⟩
            (first | refine ⟨(fun h => by cases h), ?_⟩ | skip); (first | ((first | (with_reducible refine mx_seal S ?_)); clear S; (try clear hc); intro w1 S; (try simp only [List.set_cons_zero, List.set_cons_succ, List.nil_append] at S); have hc := S.cells; simp only [Cells, cellsC, Im, Row, El, Nat.zero_add, Nat.reduceAdd] at hc) | skip); (try simp only [Act.put, List.setIfInBounds_toArray, List.set_cons_succ, List.set_cons_zero])
            refine mix_cons rfl rfl rfl ?_
            simp only [opsAt, List.getD_cons_succ, List.getD_cons_zero]
            repeat (go_big_quiet_step ((intro hC; first | rfl | (go_simp; first | done | rfl))))
            refine wpQuiet_nil ?_
            repeat (go_big_quiet_step ((intro hC; first | rfl | (go_simp; first | done | rfl))))
            refine wpQuiet_nil ?_
            have hle := HLE.out
            go_wp2_with (first | ((first | (with_reducible refine mx_seal S ?_) | (with_reducible refine wpl_seal S ?_) | (with_reducible refine ca_seal S ?_)); clear S; (try clear hc); intro w1 S; (try simp only [List.set_cons_zero, List.set_cons_succ, List.nil_append] at S); have hc := S.cells; simp only [Cells, cellsC, Im, Row, El, Nat.zero_add, Nat.reduceAdd] at hc) | (at_builtin; refine wpl_push S 2 rfl rfl _ _ rfl ty_pixs rfl fi _ _ rfl [_] _ (S.cel 0 rfl) rfl (by (try simp only [maxLen, List.length_nil, List.length_append, List.length_cons]); omega) (by (try simp only [maxLen, List.length_nil, List.length_append, List.length_cons]); omega) ?_; clear S; (try clear hc); intro va w1 S; simp only [List.set_cons_zero, List.set_cons_succ, List.nil_append] at S; obtain ⟨Av, cv, eva, -, -⟩ := S.row 2 rfl; subst eva; have hc := S.cells; simp only [Cells, cellsC, Im, Row, El, Nat.zero_add, Nat.reduceAdd] at hc))
            clear hle
            rw [show ((List.range i).map f ++ [fi]).length = i + 1 by simp, HFE.out] at S
            (first | refine ⟨(fun h => by cases h), ?_⟩ | skip); (first | ((first | (with_reducible refine mx_seal S ?_)); clear S; (try clear hc); intro w1 S; (try simp only [List.set_cons_zero, List.set_cons_succ, List.nil_append] at S); have hc := S.cells; simp only [Cells, cellsC, Im, Row, El, Nat.zero_add, Nat.reduceAdd] at hc) | skip); (try simp only [Act.put, List.setIfInBounds_toArray, List.set_cons_succ, List.set_cons_zero])
            have hc := S.cells; simp only [Cells, cellsC, Im, Row, El, Nat.zero_add, Nat.reduceAdd] at hc
            refine mix_cons rfl rfl rfl ?_
            simp only [opsAt, List.getD_cons_succ, List.getD_cons_zero]
            repeat (go_big_quiet_step ((intro hC; first | rfl | (go_simp; first | done | rfl))))
            refine wpQuiet_nil ?_
            repeat (go_big_quiet_step ((intro hC; first | rfl | (go_simp; first | done | rfl))))
            refine wpQuiet_nil ?_
            go_wp2_with (first | ((first | (with_reducible refine mx_seal S ?_) | (with_reducible refine wpl_seal S ?_) | (with_reducible refine ca_seal S ?_)); clear S; (try clear hc); intro w1 S; (try simp only [List.set_cons_zero, List.set_cons_succ, List.nil_append] at S); have hc := S.cells; simp only [Cells, cellsC, Im, Row, El, Nat.zero_add, Nat.reduceAdd] at hc))
            (first | refine ⟨(fun h => by cases h), ?_⟩ | skip); (first | ((first | (with_reducible refine mx_seal S ?_)); clear S; (try clear hc); intro w1 S; (try simp only [List.set_cons_zero, List.set_cons_succ, List.nil_append] at S); have hc := S.cells; simp only [Cells, cellsC, Im, Row, El, Nat.zero_add, Nat.reduceAdd] at hc) | skip); (try simp only [Act.put, List.setIfInBounds_toArray, List.set_cons_succ, List.set_cons_zero])
            refine mix_last rfl ?_
            simp only [opsAt, List.getD_cons_succ, List.getD_cons_zero]
            repeat (go_big_quiet_step ((intro hC; first | rfl | (go_simp; first | done | rfl))))
            refine wpQuiet_nil ?_
            simp only [calmQ]
            go_wp2_with (first | ((first | (with_reducible refine wpl_seal S ?_) | (with_reducible refine cw_seal S ?_) | (with_reducible refine bp_seal S ?_) | (with_reducible refine ca_seal S ?_)); clear S; (try clear hc); intro w1 S; (try simp only [List.set_cons_zero, List.set_cons_succ, List.nil_append] at S); have hc := S.cells; simp only [Cells, cellsC, Im, Row, El, Nat.zero_add, Nat.reduceAdd] at hc))
            go_roundw
            case rel => exact ⟨i + 1, _, _, by go_num, by omega, ⟨(S.sel [2, 3, 4, 5, 6, 7] (by decide) rfl (by simp) : SH _ _ _ [_, _, _, _, _, _] _ _)⟩⟩
            case measure => simp [intOf]; omega

          · have hl0' : decide ((l.length : Int) > 0) = false := decide_eq_false (by omega)
            have HAK := As.mk (show ∀ w, Calls Tryz.prog 14 #[.int .i64 0, .int .i64 3] w fun e w' => e = .returned (.int .i64 (gk i)) ∧ w = w' by
              have : gk i = aroundI 0 3 := by rw [HGK.out, HGN.out, if_pos (by omega)]
              rw [this]; exact fun w => around_c 0 3 w (by unfold I64; omega) (by decide) (by decide))
            have HFI := As.mk ((HGF.out i).symm)
            have HKR := As.mk (HGR.out i)
            obtain ⟨k, hk⟩ : ∃ k, gk i = k := ⟨_, rfl⟩
            rw [hk] at HFI HKR HAK
            obtain ⟨fi, hfi⟩ : ∃ fi, f i = fi := ⟨_, rfl⟩
            rw [hfi] at HFI
            have HFE := As.mk (show (List.range i).map f ++ [fi] = (List.range (i + 1)).map f by rw [List.range_succ, List.map_append, ← hfi]; rfl)
            have HLE := As.mk (show ((List.range i).map f).length ≤ 256 by rw [List.length_map, List.length_range]; omega)
            have HI3 : As (∀ y ∈ [k, k / 2, 0], I64 y) := ⟨by
              obtain ⟨q1, q2⟩ := HKR.out
              skip
              intro y hy
              simp only [List.mem_cons, List.not_mem_nil, or_false] at hy
              unfold I64
              rcases hy with rfl | rfl | rfl <;> omega⟩
            obtain ⟨kq1, kq2⟩ := HKR.out
            clear hk hfi HKR
            have hc := S.cells; simp only [Cells, cellsC, Im, Row, El, Nat.zero_add, Nat.reduceAdd] at hc
            go_wp2_with (first | ((first | (with_reducible refine wpl_seal S ?_) | (with_reducible refine cw_seal S ?_) | (with_reducible refine bp_seal S ?_) | (with_reducible refine ca_seal S ?_)); clear S; (try clear hc); intro w1 S; (try simp only [List.set_cons_zero, List.set_cons_succ, List.nil_append] at S); have hc := S.cells; simp only [Cells, cellsC, Im, Row, El, Nat.zero_add, Nat.reduceAdd] at hc) | (go_at_call 14; refine (HAK.out _).mono ?_; rintro e w1 ⟨rfl, rfl⟩))
            have hq := S.cellsE; simp only [CellsE, cellsE, Im, Row, El, Nat.zero_add, Nat.reduceAdd] at hq
            refine wp_region_ext [⟨[0, 1, 2, 3, 4, 6], [], 5, true⟩, ⟨[], [], 7, true⟩, ⟨[], [], 8, true⟩, ⟨[], [], 9, false⟩, ⟨[10], [], 11, false⟩] [] (by kernel_rfl) (by kernel_rfl) ?_
            refine mix_cons rfl rfl rfl ?_
            simp only [opsAt, List.getD_cons_succ, List.getD_cons_zero]
            repeat (go_big_quiet_step ((intro hC; first | rfl | (go_simp; first | done | rfl))))
            refine wpQuiet_nil ?_
            repeat (go_big_quiet_step ((intro hC; first | rfl | (go_simp; first | done | rfl))))
            refine wpQuiet_nil ?_
            clear hc hq
            replace S := S.drew
            generalize wr.drew = w5 at S ⊢
            have hc := S.cells; simp only [Cells, cellsC, Im, Row, El, Nat.zero_add, Nat.reduceAdd] at hc
            go_wp2_with (first | ((first | (with_reducible refine mx_seal S ?_) | (with_reducible refine wpl_seal S ?_) | (with_reducible refine ca_seal S ?_)); clear S; (try clear hc); intro w1 S; (try simp only [List.set_cons_zero, List.set_cons_succ, List.nil_append] at S); have hc := S.cells; simp only [Cells, cellsC, Im, Row, El, Nat.zero_add, Nat.reduceAdd] at hc))
            refine ⟨fun _ => Ext.alloc _ _, ?_⟩
            (first | refine ⟨(fun h => by cases h), ?_⟩ | skip); (first | ((first | (with_reducible refine mx_seal S ?_)); clear S; (try clear hc); intro w1 S; (try simp only [List.set_cons_zero, List.set_cons_succ, List.nil_append] at S); have hc := S.cells; simp only [Cells, cellsC, Im, Row, El, Nat.zero_add, Nat.reduceAdd] at hc) | skip); (try simp only [Act.put, List.setIfInBounds_toArray, List.set_cons_succ, List.set_cons_zero])
            have hq := CellsE_of S.cells; simp only [CellsE, cellsE, Im, Row, El, Nat.zero_add, Nat.reduceAdd] at hq
            refine mix_cons rfl rfl rfl ?_
            simp only [opsAt, List.getD_cons_succ, List.getD_cons_zero]
            repeat (go_big_quiet_step ((intro hC; first | rfl | (go_simp; first | done | rfl))))
            refine wpQuiet_nil ?_
            repeat (go_big_quiet_step ((intro hC; first | rfl | (go_simp; first | done | rfl))))
            refine wpQuiet_nil ?_
            clear hq
            go_wp2_with (first | ((first | (with_reducible refine mx_seal S ?_) | (with_reducible refine wpl_seal S ?_) | (with_reducible refine ca_seal S ?_)); clear S; (try clear hc); intro w1 S; (try simp only [List.set_cons_zero, List.set_cons_succ, List.nil_append] at S); have hc := S.cells; simp only [Cells, cellsC, Im, Row, El, Nat.zero_add, Nat.reduceAdd] at hc) | (go_at_call 46; obtain ⟨J4, S4, -⟩ := S.lit 0 rfl (k := kI) (xs := [k, k / 2, 0]) (Flat.int.2 rfl); refine (ygoodp_c [k, k / 2, 0] fc fm HFO.out rfl HI3.out _ _ _ _ S4.bd (S4.im 0 rfl)).mono ?_; clear S4; rw [HFI.out]; rintro e w1 ⟨rfl, hx⟩; have hxe := hx; replace S := S.ext hx; clear hx; (try clear hc); have hc := S.cells; simp only [Cells, cellsC, Im, Row, El, Nat.zero_add, Nat.reduceAdd] at hc))
            refine ⟨fun _ => hxe, ?_⟩
            clear hxe
            (first | refine ⟨(fun h => by cases h), ?_⟩ | skip); (first | ((first | (with_reducible refine mx_seal S ?_)); clear S; (try clear hc); intro w1 S; (try simp only [List.set_cons_zero, List.set_cons_succ, List.nil_append] at S); have hc := S.cells; simp only [Cells, cellsC, Im, Row, El, Nat.zero_add, Nat.reduceAdd] at hc) | skip); (try simp only [Act.put, List.setIfInBounds_toArray, List.set_cons_succ, List.set_cons_zero])
            refine mix_cons rfl rfl rfl ?_
            simp only [opsAt, List.getD_cons_succ, List.getD_cons_zero]
            repeat (go_big_quiet_step ((intro hC; first | rfl | (go_simp; first | done | rfl))))
            refine wpQuiet_nil ?_
            repeat (go_big_quiet_step ((intro hC; first | rfl | (go_simp; first | done | rfl))))
            refine wpQuiet_nil ?_
            go_wp2_with (first | ((first | (with_reducible refine mx_seal S ?_) | (with_reducible refine wpl_seal S ?_) | (with_reducible refine ca_seal S ?_)); clear S; (try clear hc); intro w1 S; (try simp only [List.set_cons_zero, List.set_cons_succ, List.nil_append] at S); have hc := S.cells; simp only [Cells, cellsC, Im, Row, El, Nat.zero_add, Nat.reduceAdd] at hc))
            refine ⟨fun _ => Ext.alloc _ _, ?_⟩
            (first | refine ⟨(fun h => by cases h), ?_⟩ | skip); (first | ((first | (with_reducible refine mx_seal S ?_)); clear S; (try clear hc); intro w1 S; (try simp only [List.set_cons_zero, List.set_cons_succ, List.nil_append] at S); have hc := S.cells; simp only [Cells, cellsC, Im, Row, El, Nat.zero_add, Nat.reduceAdd] at hc) | skip); (try simp only [Act.put, List.setIfInBounds_toArray, List.set_cons_succ, List.set_cons_zero])
            refine mix_cons rfl rfl rfl ?_
            simp only [opsAt, List.getD_cons_succ, List.getD_cons_zero]
            repeat (go_big_quiet_step ((intro hC; first | rfl | (go_simp; first | done | rfl))))
            refine wpQuiet_nil ?_
            repeat (go_big_quiet_step ((intro hC; first | rfl | (go_simp; first | done | rfl))))
            refine wpQuiet_nil ?_
            have hle := HLE.out
            go_wp2_with (first | ((first | (with_reducible refine mx_seal S ?_) | (with_reducible refine wpl_seal S ?_) | (with_reducible refine ca_seal S ?_)); clear S; (try clear hc); intro w1 S; (try simp only [List.set_cons_zero, List.set_cons_succ, List.nil_append] at S); have hc := S.cells; simp only [Cells, cellsC, Im, Row, El, Nat.zero_add, Nat.reduceAdd] at hc) | (at_builtin; refine wpl_push S 2 rfl rfl _ _ rfl ty_pixs rfl fi _ _ rfl [_] _ (S.cel 0 rfl) rfl (by (try simp only [maxLen, List.length_nil, List.length_append, List.length_cons]); omega) (by (try simp only [maxLen, List.length_nil, List.length_append, List.length_cons]); omega) ?_; clear S; (try clear hc); intro va w1 S; simp only [List.set_cons_zero, List.set_cons_succ, List.nil_append] at S; obtain ⟨Av, cv, eva, -, -⟩ := S.row 2 rfl; subst eva; have hc := S.cells; simp only [Cells, cellsC, Im, Row, El, Nat.zero_add, Nat.reduceAdd] at hc))
            clear hle
            rw [show ((List.range i).map f ++ [fi]).length = i + 1 by simp, HFE.out] at S
            (first | refine ⟨(fun h => by cases h), ?_⟩ | skip); (first | ((first | (with_reducible refine mx_seal S ?_)); clear S; (try clear hc); intro w1 S; (try simp only [List.set_cons_zero, List.set_cons_succ, List.nil_append] at S); have hc := S.cells; simp only [Cells, cellsC, Im, Row, El, Nat.zero_add, Nat.reduceAdd] at hc) | skip); (try simp only [Act.put, List.setIfInBounds_toArray, List.set_cons_succ, List.set_cons_zero])
            have hc := S.cells; simp only [Cells, cellsC, Im, Row, El, Nat.zero_add, Nat.reduceAdd] at hc
            refine mix_cons rfl rfl rfl ?_
            simp only [opsAt, List.getD_cons_succ, List.getD_cons_zero]
            repeat (go_big_quiet_step ((intro hC; first | rfl | (go_simp; first | done | rfl))))
            refine wpQuiet_nil ?_
            repeat (go_big_quiet_step ((intro hC; first | rfl | (go_simp; first | done | rfl))))
            refine wpQuiet_nil ?_
            go_wp2_with (first | ((first | (with_reducible refine mx_seal S ?_) | (with_reducible refine wpl_seal S ?_) | (with_reducible refine ca_seal S ?_)); clear S; (try clear hc); intro w1 S; (try simp only [List.set_cons_zero, List.set_cons_succ, List.nil_append] at S); have hc := S.cells; simp only [Cells, cellsC, Im, Row, El, Nat.zero_add, Nat.reduceAdd] at hc))
            (first | refine ⟨(fun h => by cases h), ?_⟩ | skip); (first | ((first | (with_reducible refine mx_seal S ?_)); clear S; (try clear hc); intro w1 S; (try simp only [List.set_cons_zero, List.set_cons_succ, List.nil_append] at S); have hc := S.cells; simp only [Cells, cellsC, Im, Row, El, Nat.zero_add, Nat.reduceAdd] at hc) | skip); (try simp only [Act.put, List.setIfInBounds_toArray, List.set_cons_succ, List.set_cons_zero])
            refine mix_last rfl ?_
            simp only [opsAt, List.getD_cons_succ, List.getD_cons_zero]
            repeat (go_big_quiet_step ((intro hC; first | rfl | (go_simp; first | done | rfl))))
            refine wpQuiet_nil ?_
            simp only [calmQ]
            go_wp2_with (first | ((first | (with_reducible refine wpl_seal S ?_) | (with_reducible refine cw_seal S ?_) | (with_reducible refine bp_seal S ?_) | (with_reducible refine ca_seal S ?_)); clear S; (try clear hc); intro w1 S; (try simp only [List.set_cons_zero, List.set_cons_succ, List.nil_append] at S); have hc := S.cells; simp only [Cells, cellsC, Im, Row, El, Nat.zero_add, Nat.reduceAdd] at hc))
            go_roundw
            case rel => exact ⟨i + 1, _, _, by go_num, by omega, ⟨(S.sel [2, 3, 4, 5, 6, 7] (by decide) rfl (by simp) : SH _ _ _ [_, _, _, _, _, _] _ _)⟩⟩
            case measure => simp [intOf]; omega

        · have hlt' : decide ((i : Int) < N) = false := decide_eq_false (by omega)
          obtain rfl : i = N := by omega
          have hc := S.cells; simp only [Cells, cellsC, Im, Row, El, Nat.zero_add, Nat.reduceAdd] at hc
          go_wp2_with (first | ((first | (with_reducible refine wpl_seal S ?_) | (with_reducible refine cw_seal S ?_) | (with_reducible refine bp_seal S ?_) | (with_reducible refine ca_seal S ?_)); clear S; (try clear hc); intro w1 S; (try simp only [List.set_cons_zero, List.set_cons_succ, List.nil_append] at S); have hc := S.cells; simp only [Cells, cellsC, Im, Row, El, Nat.zero_add, Nat.reduceAdd] at hc))
          refine bodyPost_ret (results_cell_row rfl _ _ g4 40 _ (0, 0) _ rfl (S.cel 3 rfl) Tryz.underlying40 rfl (by kernel_rfl)) rfl ?_
          obtain ⟨Ar, cr, e3, hcr, -⟩ := S.row 0 rfl
          rw [Value.slice.injEq] at e3
          obtain ⟨rfl, e4, rfl⟩ := e3
          have HPP : As (p = ⟨fc, fm, ⟨1 + aw, 1 + ah, (List.range i).map f⟩⟩) := ⟨by rw [← HP.out, HPX.out]⟩
          obtain rfl := HPP.out
          exact ⟨_, _, by dsimp only [picV]; rw [← e4], by rw [← e4]; exact S.ret 0 rfl⟩
  · have hc := S.cells; simp only [Cells, cellsC, Im, Row, El, Nat.zero_add, Nat.reduceAdd] at hc
    go_wp2_with (first | ((first | (with_reducible refine mx_seal S ?_) | (with_reducible refine wpl_seal S ?_) | (with_reducible refine ca_seal S ?_)); clear S; (try clear hc); intro w1 S; (try simp only [List.set_cons_zero, List.set_cons_succ, List.nil_append] at S); have hc := S.cells; simp only [Cells, cellsC, Im, Row, El, Nat.zero_add, Nat.reduceAdd] at hc))
    refine ⟨Ext.alloc _ _, ?_⟩
    (first | refine ⟨(fun h => by cases h), ?_⟩ | skip); (first | ((first | (with_reducible refine mx_seal S ?_)); clear S; (try clear hc); intro w1 S; (try simp only [List.set_cons_zero, List.set_cons_succ, List.nil_append] at S); have hc := S.cells; simp only [Cells, cellsC, Im, Row, El, Nat.zero_add, Nat.reduceAdd] at hc) | skip); (try simp only [Act.put, List.setIfInBounds_toArray, List.set_cons_succ, List.set_cons_zero])
    refine mix_cons rfl rfl rfl ?_
    simp only [opsAt, List.getD_cons_succ, List.getD_cons_zero]
    repeat (go_big_quiet_step ((intro hC; first | rfl | (go_simp; first | done | rfl))))
    refine wpQuiet_nil ?_
    repeat (go_big_quiet_step ((intro hC; first | rfl | (go_simp; first | done | rfl))))
    refine wpQuiet_nil ?_
    go_wp2_with (first | ((first | (with_reducible refine mx_seal S ?_) | (with_reducible refine wpl_seal S ?_) | (with_reducible refine ca_seal S ?_)); clear S; (try clear hc); intro w1 S; (try simp only [List.set_cons_zero, List.set_cons_succ, List.nil_append] at S); have hc := S.cells; simp only [Cells, cellsC, Im, Row, El, Nat.zero_add, Nat.reduceAdd] at hc) | (go_at_call 14; refine (HA1.out _).mono ?_; rintro e w1 ⟨rfl, rfl⟩))
    refine ⟨fun _ => Ext.refl _, ?_⟩
    (first | refine ⟨(fun h => by cases h), ?_⟩ | skip); (first | ((first | (with_reducible refine mx_seal S ?_)); clear S; (try clear hc); intro w1 S; (try simp only [List.set_cons_zero, List.set_cons_succ, List.nil_append] at S); have hc := S.cells; simp only [Cells, cellsC, Im, Row, El, Nat.zero_add, Nat.reduceAdd] at hc) | skip); (try simp only [Act.put, List.setIfInBounds_toArray, List.set_cons_succ, List.set_cons_zero])
    refine mix_cons rfl rfl rfl ?_
    simp only [opsAt, List.getD_cons_succ, List.getD_cons_zero]
    repeat (go_big_quiet_step ((intro hC; first | rfl | (go_simp; first | done | rfl))))
    refine wpQuiet_nil ?_
    repeat (go_big_quiet_step ((intro hC; first | rfl | (go_simp; first | done | rfl))))
    refine wpQuiet_nil ?_
    go_wp2_with (first | ((first | (with_reducible refine mx_seal S ?_) | (with_reducible refine wpl_seal S ?_) | (with_reducible refine ca_seal S ?_)); clear S; (try clear hc); intro w1 S; (try simp only [List.set_cons_zero, List.set_cons_succ, List.nil_append] at S); have hc := S.cells; simp only [Cells, cellsC, Im, Row, El, Nat.zero_add, Nat.reduceAdd] at hc) | (go_at_call 14; refine (HA2.out _).mono ?_; rintro e w1 ⟨rfl, rfl⟩))
    refine ⟨fun _ => Ext.refl _, ?_⟩
    (first | refine ⟨(fun h => by cases h), ?_⟩ | skip); (first | ((first | (with_reducible refine mx_seal S ?_)); clear S; (try clear hc); intro w1 S; (try simp only [List.set_cons_zero, List.set_cons_succ, List.nil_append] at S); have hc := S.cells; simp only [Cells, cellsC, Im, Row, El, Nat.zero_add, Nat.reduceAdd] at hc) | skip); (try simp only [Act.put, List.setIfInBounds_toArray, List.set_cons_succ, List.set_cons_zero])
    refine mix_cons rfl rfl rfl ?_
    simp only [opsAt, List.getD_cons_succ, List.getD_cons_zero]
    repeat (go_big_quiet_step ((intro hC; first | rfl | (go_simp; first | done | rfl))))
    refine wpQuiet_nil ?_
    repeat (go_big_quiet_step ((intro hC; first | rfl | (go_simp; first | done | rfl))))
    refine wpQuiet_nil ?_
    go_wp2_with (first | ((first | (with_reducible refine mx_seal S ?_) | (with_reducible refine wpl_seal S ?_) | (with_reducible refine ca_seal S ?_)); clear S; (try clear hc); intro w1 S; (try simp only [List.set_cons_zero, List.set_cons_succ, List.nil_append] at S); have hc := S.cells; simp only [Cells, cellsC, Im, Row, El, Nat.zero_add, Nat.reduceAdd] at hc))
    (first | refine ⟨(fun h => by cases h), ?_⟩ | skip); (first | ((first | (with_reducible refine mx_seal S ?_)); clear S; (try clear hc); intro w1 S; (try simp only [List.set_cons_zero, List.set_cons_succ, List.nil_append] at S); have hc := S.cells; simp only [Cells, cellsC, Im, Row, El, Nat.zero_add, Nat.reduceAdd] at hc) | skip); (try simp only [Act.put, List.setIfInBounds_toArray, List.set_cons_succ, List.set_cons_zero])
    refine mix_last rfl ?_
    simp only [opsAt, List.getD_cons_succ, List.getD_cons_zero]
    repeat (go_big_quiet_step ((intro hC; first | rfl | (go_simp; first | done | rfl))))
    refine wpQuiet_nil ?_
    simp only [calmQ]
    go_wp2_with (first | ((first | (with_reducible refine wpl_seal S ?_) | (with_reducible refine cw_seal S ?_) | (with_reducible refine bp_seal S ?_) | (with_reducible refine ca_seal S ?_)); clear S; (try clear hc); intro w1 S; (try simp only [List.set_cons_zero, List.set_cons_succ, List.nil_append] at S); have hc := S.cells; simp only [Cells, cellsC, Im, Row, El, Nat.zero_add, Nat.reduceAdd] at hc))
    obtain ⟨g6, eg6⟩ := S.name 0 rfl; rw [← eg6] at S ⊢; clear eg6
    obtain ⟨g5, eg5⟩ := S.name 1 rfl; rw [← eg5] at S ⊢; clear eg5
    obtain ⟨g4, eg4⟩ := S.name 2 rfl; rw [← eg4] at S ⊢; clear eg4
    obtain ⟨g2, eg2⟩ := S.name 3 rfl; rw [← eg2] at S ⊢; clear eg2
    replace S := (S.nilrow (k := kP))
    clear hc
    go_loopw [7] (fun iv w' => ∃ (i : Nat) (v : Value) (J : Fp), iv = .int .i64 i ∧ i ≤ N ∧ As (SH No I w [Row kP v ((List.range i).map f), Cel g6 38 [.int .i64 (1 + aw), .int .i64 (1 + ah), v], Cel g5 31 [.int .i64 fc, .int .i64 fm], Cel g4 40 [.int .i64 0, .int .i64 0, .int .i64 0, .int .i64 0, .slice none 0 0], Cel g2 50 [.bool b, .int .i64 mv, .int .i64 xw, .int .i64 xh, .slice A l.length n], Im kI A l] w' J)) (fun iv _ => N - (intOf iv).toNat)
    case atStart => exact ⟨0, _, _, rfl, by omega, ⟨S⟩⟩
    case round =>
      clear S
      obtain ⟨i, v, J, rfl, hi, ⟨S⟩⟩ := hrel
      obtain ⟨Av, cv, ev, hcv, -⟩ := S.row 0 rfl
      subst ev
      rw [List.length_map, List.length_range] at S
      by_cases hlt : i < N
      · have hlt' : decide ((i : Int) < N) = true := decide_eq_true (by omega)
        by_cases hl0 : 0 < l.length
        · have hl0' : decide ((l.length : Int) > 0) = true := decide_eq_true (by omega)
          have hl1' : ((l.length : Int) == 0) = false := by rw [beq_eq_false_iff_ne]; omega
          obtain ⟨j, hj⟩ : ∃ j, i % l.length = j := ⟨_, rfl⟩
          have hjl : j < l.length := by rw [← hj]; exact Nat.mod_lt _ hl0
          have hjm : Int.tmod (i : Int) (l.length : Int) = (j : Int) := by rw [Int.tmod_eq_emod_of_nonneg (by omega), ← hj]; rfl
          obtain ⟨lb, lo, rfl, hcl⟩ := (S.im 5 rfl).num_at (List.getElem?_eq_getElem hjl)
          have HY := As.mk (HIL.out _ (List.getElem_mem hjl))
          have HAK := As.mk (show aroundI l[j] 3 = gk i by rw [HGK.out, HGN.out, if_neg (by omega), hj, List.getD_eq_getElem?_getD, List.getElem?_eq_getElem hjl]; rfl)
          generalize l[j] = y at hcl HY HAK
          replace HAK := As.mk (show ∀ w, Calls Tryz.prog 14 #[.int .i64 y, .int .i64 3] w fun e w' => e = .returned (.int .i64 (gk i)) ∧ w = w' by rw [← HAK.out]; exact fun w => around_c y 3 w HY.out (by decide) (by decide))
          have p1 := ClE.cell (w := wr.drew) hcl
          clear hj
          have HFI := As.mk ((HGF.out i).symm)
          have HKR := As.mk (HGR.out i)
          obtain ⟨k, hk⟩ : ∃ k, gk i = k := ⟨_, rfl⟩
          rw [hk] at HFI HKR HAK
          obtain ⟨fi, hfi⟩ : ∃ fi, f i = fi := ⟨_, rfl⟩
          rw [hfi] at HFI
          have HFE := As.mk (show (List.range i).map f ++ [fi] = (List.range (i + 1)).map f by rw [List.range_succ, List.map_append, ← hfi]; rfl)
          have HLE := As.mk (show ((List.range i).map f).length ≤ 256 by rw [List.length_map, List.length_range]; omega)
          have HI3 : As (∀ y ∈ [k, k / 2, 0], I64 y) := ⟨by
            obtain ⟨q1, q2⟩ := HKR.out
            skip
            intro y hy
            simp only [List.mem_cons, List.not_mem_nil, or_false] at hy
            unfold I64
            rcases hy with rfl | rfl | rfl <;> omega⟩
          obtain ⟨kq1, kq2⟩ := HKR.out
          clear hk hfi HKR
          have hc := S.cells; simp only [Cells, cellsC, Im, Row, El, Nat.zero_add, Nat.reduceAdd] at hc
          have hq := S.cellsE; simp only [CellsE, cellsE, Im, Row, El, Nat.zero_add, Nat.reduceAdd] at hq
          go_wp2_with (first | ((first | (with_reducible refine wpl_seal S ?_) | (with_reducible refine cw_seal S ?_) | (with_reducible refine bp_seal S ?_) | (with_reducible refine ca_seal S ?_)); clear S; (try clear hc); intro w1 S; (try simp only [List.set_cons_zero, List.set_cons_succ, List.nil_append] at S); have hc := S.cells; simp only [Cells, cellsC, Im, Row, El, Nat.zero_add, Nat.reduceAdd] at hc))
          refine wp_region_ext [] [0, 1, 2, 3, 4, 5, 6, 7, 8, 9] (by kernel_rfl) (by kernel_rfl) ?_
          refine mix_last rfl ?_
          simp only [opsAt, List.getD_cons_succ, List.getD_cons_zero]
          repeat (go_big_quiet_step ((intro hC; first | rfl | (go_simp; first | done | rfl))))
          refine wpQuiet_nil ?_
          simp only [calmQ]
          clear hq hc p1
          replace S := S.drew
          generalize wr.drew = w4 at S ⊢
          have hc := S.cells; simp only [Cells, cellsC, Im, Row, El, Nat.zero_add, Nat.reduceAdd] at hc
          go_wp2_with (first | ((first | (with_reducible refine wpl_seal S ?_) | (with_reducible refine cw_seal S ?_) | (with_reducible refine bp_seal S ?_) | (with_reducible refine ca_seal S ?_)); clear S; (try clear hc); intro w1 S; (try simp only [List.set_cons_zero, List.set_cons_succ, List.nil_append] at S); have hc := S.cells; simp only [Cells, cellsC, Im, Row, El, Nat.zero_add, Nat.reduceAdd] at hc) | (go_at_call 14; refine (HAK.out _).mono ?_; rintro e w1 ⟨rfl, rfl⟩))
          have hq := S.cellsE; simp only [CellsE, cellsE, Im, Row, El, Nat.zero_add, Nat.reduceAdd] at hq
          refine wp_region_ext [⟨[0, 1, 2, 3, 4, 6], [], 5, true⟩, ⟨[], [], 7, true⟩, ⟨[], [], 8, true⟩, ⟨[], [], 9, false⟩, ⟨[10], [], 11, false⟩] [] (by kernel_rfl) (by kernel_rfl) ?_
          refine mix_cons rfl rfl rfl ?_
          simp only [opsAt, List.getD_cons_succ, List.getD_cons_zero]
          repeat (go_big_quiet_step ((intro hC; first | rfl | (go_simp; first | done | rfl))))
          refine wpQuiet_nil ?_
          repeat (go_big_quiet_step ((intro hC; first | rfl | (go_simp; first | done | rfl))))
          refine wpQuiet_nil ?_
          clear hc hq
          replace S := S.drew
          generalize w4.drew = w5 at S ⊢
          have hc := S.cells; simp only [Cells, cellsC, Im, Row, El, Nat.zero_add, Nat.reduceAdd] at hc
          go_wp2_with (first | ((first | (with_reducible refine mx_seal S ?_) | (with_reducible refine wpl_seal S ?_) | (with_reducible refine ca_seal S ?_)); clear S; (try clear hc); intro w1 S; (try simp only [List.set_cons_zero, List.set_cons_succ, List.nil_append] at S); have hc := S.cells; simp only [Cells, cellsC, Im, Row, El, Nat.zero_add, Nat.reduceAdd] at hc))
          refine ⟨fun _ => Ext.alloc _ _, ?_⟩
          (first | refine ⟨(fun h => by cases h), ?_⟩ | skip); (first | ((first | (with_reducible refine mx_seal S ?_)); clear S; (try clear hc); intro w1 S; (try simp only [List.set_cons_zero, List.set_cons_succ, List.nil_append] at S); have hc := S.cells; simp only [Cells, cellsC, Im, Row, El, Nat.zero_add, Nat.reduceAdd] at hc) | skip); (try simp only [Act.put, List.setIfInBounds_toArray, List.set_cons_succ, List.set_cons_zero])
          have hq := CellsE_of S.cells; simp only [CellsE, cellsE, Im, Row, El, Nat.zero_add, Nat.reduceAdd] at hq
          refine mix_cons rfl rfl rfl ?_
          simp only [opsAt, List.getD_cons_succ, List.getD_cons_zero]
          repeat (go_big_quiet_step ((intro hC; first | rfl | (go_simp; first | done | rfl))))
          refine wpQuiet_nil ?_
          repeat (go_big_quiet_step ((intro hC; first | rfl | (go_simp; first | done | rfl))))
          refine wpQuiet_nil ?_
          clear hq
          go_wp2_with (first | ((first | (with_reducible refine mx_seal S ?_) | (with_reducible refine wpl_seal S ?_) | (with_reducible refine ca_seal S ?_)); clear S; (try clear hc); intro w1 S; (try simp only [List.set_cons_zero, List.set_cons_succ, List.nil_append] at S); have hc := S.cells; simp only [Cells, cellsC, Im, Row, El, Nat.zero_add, Nat.reduceAdd] at hc) | (go_at_call 46; obtain ⟨J4, S4, -⟩ := S.lit 0 rfl (k := kI) (xs := [k, k / 2, 0]) (Flat.int.2 rfl); refine (ygoodp_c [k, k / 2, 0] fc fm HFO.out rfl HI3.out _ _ _ _ S4.bd (S4.im 0 rfl)).mono ?_; clear S4; rw [HFI.out]; rintro e w1 ⟨rfl, hx⟩; have hxe := hx; replace S := S.ext hx; clear hx; (try clear hc); have hc := S.cells; simp only [Cells, cellsC, Im, Row, El, Nat.zero_add, Nat.reduceAdd] at hc))
          refine ⟨fun _ => hxe, ?_⟩
          clear hxe
          (first | refine ⟨(fun h => by cases h), ?_⟩ | skip); (first | ((first | (with_reducible refine mx_seal S ?_)); clear S; (try clear hc); intro w1 S; (try simp only [List.set_cons_zero, List.set_cons_succ, List.nil_append] at S); have hc := S.cells; simp only [Cells, cellsC, Im, Row, El, Nat.zero_add, Nat.reduceAdd] at hc) | skip); (try simp only [Act.put, List.setIfInBounds_toArray, List.set_cons_succ, List.set_cons_zero])
          refine mix_cons rfl rfl rfl ?_
          simp only [opsAt, List.getD_cons_succ, List.getD_cons_zero]
          repeat (go_big_quiet_step ((intro hC; first | rfl | (go_simp; first | done | rfl))))
          refine wpQuiet_nil ?_
          repeat (go_big_quiet_step ((intro hC; first | rfl | (go_simp; first | done | rfl))))
          refine wpQuiet_nil ?_
          go_wp2_with (first | ((first | (with_reducible refine mx_seal S ?_) | (with_reducible refine wpl_seal S ?_) | (with_reducible refine ca_seal S ?_)); clear S; (try clear hc); intro w1 S; (try simp only [List.set_cons_zero, List.set_cons_succ, List.nil_append] at S); have hc := S.cells; simp only [Cells, cellsC, Im, Row, El, Nat.zero_add, Nat.reduceAdd] at hc))
          refine ⟨fun _ => Ext.alloc _ _, ?_⟩
          (first | refine ⟨(fun h => by cases h), ?_⟩ | skip); (first | ((first | (with_reducible refine mx_seal S ?_)); clear S; (try clear hc); intro w1 S; (try simp only [List.set_cons_zero, List.set_cons_succ, List.nil_append] at S); have hc := S.cells; simp only [Cells, cellsC, Im, Row, El, Nat.zero_add, Nat.reduceAdd] at hc) | skip); (try simp only [Act.put, List.setIfInBounds_toArray, List.set_cons_succ, List.set_cons_zero])
          refine mix_cons rfl rfl rfl ?_
          simp only [opsAt, List.getD_cons_succ, List.getD_cons_zero]
          repeat (go_big_quiet_step ((intro hC; first | rfl | (go_simp; first | done | rfl))))
          refine wpQuiet_nil ?_
          repeat (go_big_quiet_step ((intro hC; first | rfl | (go_simp; first | done | rfl))))
          refine wpQuiet_nil ?_
          have hle := HLE.out
          go_wp2_with (first | ((first | (with_reducible refine mx_seal S ?_) | (with_reducible refine wpl_seal S ?_) | (with_reducible refine ca_seal S ?_)); clear S; (try clear hc); intro w1 S; (try simp only [List.set_cons_zero, List.set_cons_succ, List.nil_append] at S); have hc := S.cells; simp only [Cells, cellsC, Im, Row, El, Nat.zero_add, Nat.reduceAdd] at hc) | (at_builtin; refine wpl_push S 2 rfl rfl _ _ rfl ty_pixs rfl fi _ _ rfl [_] _ (S.cel 0 rfl) rfl (by (try simp only [maxLen, List.length_nil, List.length_append, List.length_cons]); omega) (by (try simp only [maxLen, List.length_nil, List.length_append, List.length_cons]); omega) ?_; clear S; (try clear hc); intro va w1 S; simp only [List.set_cons_zero, List.set_cons_succ, List.nil_append] at S; obtain ⟨Av, cv, eva, -, -⟩ := S.row 2 rfl; subst eva; have hc := S.cells; simp only [Cells, cellsC, Im, Row, El, Nat.zero_add, Nat.reduceAdd] at hc))
          clear hle
          rw [show ((List.range i).map f ++ [fi]).length = i + 1 by simp, HFE.out] at S
          (first | refine ⟨(fun h => by cases h), ?_⟩ | skip); (first | ((first | (with_reducible refine mx_seal S ?_)); clear S; (try clear hc); intro w1 S; (try simp only [List.set_cons_zero, List.set_cons_succ, List.nil_append] at S); have hc := S.cells; simp only [Cells, cellsC, Im, Row, El, Nat.zero_add, Nat.reduceAdd] at hc) | skip); (try simp only [Act.put, List.setIfInBounds_toArray, List.set_cons_succ, List.set_cons_zero])
          have hc := S.cells; simp only [Cells, cellsC, Im, Row, El, Nat.zero_add, Nat.reduceAdd] at hc
          refine mix_cons rfl rfl rfl ?_
          simp only [opsAt, List.getD_cons_succ, List.getD_cons_zero]
          repeat (go_big_quiet_step ((intro hC; first | rfl | (go_simp; first | done | rfl))))
          refine wpQuiet_nil ?_
          repeat (go_big_quiet_step ((intro hC; first | rfl | (go_simp; first | done | rfl))))
          refine wpQuiet_nil ?_
          go_wp2_with (first | ((first | (with_reducible refine mx_seal S ?_) | (with_reducible refine wpl_seal S ?_) | (with_reducible refine ca_seal S ?_)); clear S; (try clear hc); intro w1 S; (try simp only [List.set_cons_zero, List.set_cons_succ, List.nil_append] at S); have hc := S.cells; simp only [Cells, cellsC, Im, Row, El, Nat.zero_add, Nat.reduceAdd] at hc))
          (first | refine ⟨(fun h => by cases h), ?_⟩ | skip); (first | ((first | (with_reducible refine mx_seal S ?_)); clear S; (try clear hc); intro w1 S; (try simp only [List.set_cons_zero, List.set_cons_succ, List.nil_append] at S); have hc := S.cells; simp only [Cells, cellsC, Im, Row, El, Nat.zero_add, Nat.reduceAdd] at hc) | skip); (try simp only [Act.put, List.setIfInBounds_toArray, List.set_cons_succ, List.set_cons_zero])
          refine mix_last rfl ?_
          simp only [opsAt, List.getD_cons_succ, List.getD_cons_zero]
          repeat (go_big_quiet_step ((intro hC; first | rfl | (go_simp; first | done | rfl))))
          refine wpQuiet_nil ?_
          simp only [calmQ]
          go_wp2_with (first | ((first | (with_reducible refine wpl_seal S ?_) | (with_reducible refine cw_seal S ?_) | (with_reducible refine bp_seal S ?_) | (with_reducible refine ca_seal S ?_)); clear S; (try clear hc); intro w1 S; (try simp only [List.set_cons_zero, List.set_cons_succ, List.nil_append] at S); have hc := S.cells; simp only [Cells, cellsC, Im, Row, El, Nat.zero_add, Nat.reduceAdd] at hc))
          go_roundw
          case rel => exact ⟨i + 1, _, _, by go_num, by omega, ⟨(S.sel [2, 3, 4, 5, 6, 7] (by decide) rfl (by simp) : SH _ _ _ [_, _, _, _, _, _] _ _)⟩⟩
          case measure => simp [intOf]; omega

        · have hl0' : decide ((l.length : Int) > 0) = false := decide_eq_false (by omega)
          have HAK := As.mk (show ∀ w, Calls Tryz.prog 14 #[.int .i64 0, .int .i64 3] w fun e w' => e = .returned (.int .i64 (gk i)) ∧ w = w' by
            have : gk i = aroundI 0 3 := by rw [HGK.out, HGN.out, if_pos (by omega)]
            rw [this]; exact fun w => around_c 0 3 w (by unfold I64; omega) (by decide) (by decide))
          have HFI := As.mk ((HGF.out i).symm)
          have HKR := As.mk (HGR.out i)
          obtain ⟨k, hk⟩ : ∃ k, gk i = k := ⟨_, rfl⟩
          rw [hk] at HFI HKR HAK
          obtain ⟨fi, hfi⟩ : ∃ fi, f i = fi := ⟨_, rfl⟩
          rw [hfi] at HFI
          have HFE := As.mk (show (List.range i).map f ++ [fi] = (List.range (i + 1)).map f by rw [List.range_succ, List.map_append, ← hfi]; rfl)
          have HLE := As.mk (show ((List.range i).map f).length ≤ 256 by rw [List.length_map, List.length_range]; omega)
          have HI3 : As (∀ y ∈ [k, k / 2, 0], I64 y) := ⟨by
            obtain ⟨q1, q2⟩ := HKR.out
            skip
            intro y hy
            simp only [List.mem_cons, List.not_mem_nil, or_false] at hy
            unfold I64
            rcases hy with rfl | rfl | rfl <;> omega⟩
          obtain ⟨kq1, kq2⟩ := HKR.out
          clear hk hfi HKR
          have hc := S.cells; simp only [Cells, cellsC, Im, Row, El, Nat.zero_add, Nat.reduceAdd] at hc
          go_wp2_with (first | ((first | (with_reducible refine wpl_seal S ?_) | (with_reducible refine cw_seal S ?_) | (with_reducible refine bp_seal S ?_) | (with_reducible refine ca_seal S ?_)); clear S; (try clear hc); intro w1 S; (try simp only [List.set_cons_zero, List.set_cons_succ, List.nil_append] at S); have hc := S.cells; simp only [Cells, cellsC, Im, Row, El, Nat.zero_add, Nat.reduceAdd] at hc) | (go_at_call 14; refine (HAK.out _).mono ?_; rintro e w1 ⟨rfl, rfl⟩))
          have hq := S.cellsE; simp only [CellsE, cellsE, Im, Row, El, Nat.zero_add, Nat.reduceAdd] at hq
          refine wp_region_ext [⟨[0, 1, 2, 3, 4, 6], [], 5, true⟩, ⟨[], [], 7, true⟩, ⟨[], [], 8, true⟩, ⟨[], [], 9, false⟩, ⟨[10], [], 11, false⟩] [] (by kernel_rfl) (by kernel_rfl) ?_
          refine mix_cons rfl rfl rfl ?_
          simp only [opsAt, List.getD_cons_succ, List.getD_cons_zero]
          repeat (go_big_quiet_step ((intro hC; first | rfl | (go_simp; first | done | rfl))))
          refine wpQuiet_nil ?_
          repeat (go_big_quiet_step ((intro hC; first | rfl | (go_simp; first | done | rfl))))
          refine wpQuiet_nil ?_
          clear hc hq
          replace S := S.drew
          generalize wr.drew = w5 at S ⊢
          have hc := S.cells; simp only [Cells, cellsC, Im, Row, El, Nat.zero_add, Nat.reduceAdd] at hc
          go_wp2_with (first | ((first | (with_reducible refine mx_seal S ?_) | (with_reducible refine wpl_seal S ?_) | (with_reducible refine ca_seal S ?_)); clear S; (try clear hc); intro w1 S; (try simp only [List.set_cons_zero, List.set_cons_succ, List.nil_append] at S); have hc := S.cells; simp only [Cells, cellsC, Im, Row, El, Nat.zero_add, Nat.reduceAdd] at hc))
          refine ⟨fun _ => Ext.alloc _ _, ?_⟩
          (first | refine ⟨(fun h => by cases h), ?_⟩ | skip); (first | ((first | (with_reducible refine mx_seal S ?_)); clear S; (try clear hc); intro w1 S; (try simp only [List.set_cons_zero, List.set_cons_succ, List.nil_append] at S); have hc := S.cells; simp only [Cells, cellsC, Im, Row, El, Nat.zero_add, Nat.reduceAdd] at hc) | skip); (try simp only [Act.put, List.setIfInBounds_toArray, List.set_cons_succ, List.set_cons_zero])
          have hq := CellsE_of S.cells; simp only [CellsE, cellsE, Im, Row, El, Nat.zero_add, Nat.reduceAdd] at hq
          refine mix_cons rfl rfl rfl ?_
          simp only [opsAt, List.getD_cons_succ, List.getD_cons_zero]
          repeat (go_big_quiet_step ((intro hC; first | rfl | (go_simp; first | done | rfl))))
          refine wpQuiet_nil ?_
          repeat (go_big_quiet_step ((intro hC; first | rfl | (go_simp; first | done | rfl))))
          refine wpQuiet_nil ?_
          clear hq
          go_wp2_with (first | ((first | (with_reducible refine mx_seal S ?_) | (with_reducible refine wpl_seal S ?_) | (with_reducible refine ca_seal S ?_)); clear S; (try clear hc); intro w1 S; (try simp only [List.set_cons_zero, List.set_cons_succ, List.nil_append] at S); have hc := S.cells; simp only [Cells, cellsC, Im, Row, El, Nat.zero_add, Nat.reduceAdd] at hc) | (go_at_call 46; obtain ⟨J4, S4, -⟩ := S.lit 0 rfl (k := kI) (xs := [k, k / 2, 0]) (Flat.int.2 rfl); refine (ygoodp_c [k, k / 2, 0] fc fm HFO.out rfl HI3.out _ _ _ _ S4.bd (S4.im 0 rfl)).mono ?_; clear S4; rw [HFI.out]; rintro e w1 ⟨rfl, hx⟩; have hxe := hx; replace S := S.ext hx; clear hx; (try clear hc); have hc := S.cells; simp only [Cells, cellsC, Im, Row, El, Nat.zero_add, Nat.reduceAdd] at hc))
          refine ⟨fun _ => hxe, ?_⟩
          clear hxe
          (first | refine ⟨(fun h => by cases h), ?_⟩ | skip); (first | ((first | (with_reducible refine mx_seal S ?_)); clear S; (try clear hc); intro w1 S; (try simp only [List.set_cons_zero, List.set_cons_succ, List.nil_append] at S); have hc := S.cells; simp only [Cells, cellsC, Im, Row, El, Nat.zero_add, Nat.reduceAdd] at hc) | skip); (try simp only [Act.put, List.setIfInBounds_toArray, List.set_cons_succ, List.set_cons_zero])
          refine mix_cons rfl rfl rfl ?_
          simp only [opsAt, List.getD_cons_succ, List.getD_cons_zero]
          repeat (go_big_quiet_step ((intro hC; first | rfl | (go_simp; first | done | rfl))))
          refine wpQuiet_nil ?_
          repeat (go_big_quiet_step ((intro hC; first | rfl | (go_simp; first | done | rfl))))
          refine wpQuiet_nil ?_
          go_wp2_with (first | ((first | (with_reducible refine mx_seal S ?_) | (with_reducible refine wpl_seal S ?_) | (with_reducible refine ca_seal S ?_)); clear S; (try clear hc); intro w1 S; (try simp only [List.set_cons_zero, List.set_cons_succ, List.nil_append] at S); have hc := S.cells; simp only [Cells, cellsC, Im, Row, El, Nat.zero_add, Nat.reduceAdd] at hc))
          refine ⟨fun _ => Ext.alloc _ _, ?_⟩
          (first | refine ⟨(fun h => by cases h), ?_⟩ | skip); (first | ((first | (with_reducible refine mx_seal S ?_)); clear S; (try clear hc); intro w1 S; (try simp only [List.set_cons_zero, List.set_cons_succ, List.nil_append] at S); have hc := S.cells; simp only [Cells, cellsC, Im, Row, El, Nat.zero_add, Nat.reduceAdd] at hc) | skip); (try simp only [Act.put, List.setIfInBounds_toArray, List.set_cons_succ, List.set_cons_zero])
          refine mix_cons rfl rfl rfl ?_
          simp only [opsAt, List.getD_cons_succ, List.getD_cons_zero]
          repeat (go_big_quiet_step ((intro hC; first | rfl | (go_simp; first | done | rfl))))
          refine wpQuiet_nil ?_
          repeat (go_big_quiet_step ((intro hC; first | rfl | (go_simp; first | done | rfl))))
          refine wpQuiet_nil ?_
          have hle := HLE.out
          go_wp2_with (first | ((first | (with_reducible refine mx_seal S ?_) | (with_reducible refine wpl_seal S ?_) | (with_reducible refine ca_seal S ?_)); clear S; (try clear hc); intro w1 S; (try simp only [List.set_cons_zero, List.set_cons_succ, List.nil_append] at S); have hc := S.cells; simp only [Cells, cellsC, Im, Row, El, Nat.zero_add, Nat.reduceAdd] at hc) | (at_builtin; refine wpl_push S 2 rfl rfl _ _ rfl ty_pixs rfl fi _ _ rfl [_] _ (S.cel 0 rfl) rfl (by (try simp only [maxLen, List.length_nil, List.length_append, List.length_cons]); omega) (by (try simp only [maxLen, List.length_nil, List.length_append, List.length_cons]); omega) ?_; clear S; (try clear hc); intro va w1 S; simp only [List.set_cons_zero, List.set_cons_succ, List.nil_append] at S; obtain ⟨Av, cv, eva, -, -⟩ := S.row 2 rfl; subst eva; have hc := S.cells; simp only [Cells, cellsC, Im, Row, El, Nat.zero_add, Nat.reduceAdd] at hc))
          clear hle
          rw [show ((List.range i).map f ++ [fi]).length = i + 1 by simp, HFE.out] at S
          (first | refine ⟨(fun h => by cases h), ?_⟩ | skip); (first | ((first | (with_reducible refine mx_seal S ?_)); clear S; (try clear hc); intro w1 S; (try simp only [List.set_cons_zero, List.set_cons_succ, List.nil_append] at S); have hc := S.cells; simp only [Cells, cellsC, Im, Row, El, Nat.zero_add, Nat.reduceAdd] at hc) | skip); (try simp only [Act.put, List.setIfInBounds_toArray, List.set_cons_succ, List.set_cons_zero])
          have hc := S.cells; simp only [Cells, cellsC, Im, Row, El, Nat.zero_add, Nat.reduceAdd] at hc
          refine mix_cons rfl rfl rfl ?_
          simp only [opsAt, List.getD_cons_succ, List.getD_cons_zero]
          repeat (go_big_quiet_step ((intro hC; first | rfl | (go_simp; first | done | rfl))))
          refine wpQuiet_nil ?_
          repeat (go_big_quiet_step ((intro hC; first | rfl | (go_simp; first | done | rfl))))
          refine wpQuiet_nil ?_
          go_wp2_with (first | ((first | (with_reducible refine mx_seal S ?_) | (with_reducible refine wpl_seal S ?_) | (with_reducible refine ca_seal S ?_)); clear S; (try clear hc); intro w1 S; (try simp only [List.set_cons_zero, List.set_cons_succ, List.nil_append] at S); have hc := S.cells; simp only [Cells, cellsC, Im, Row, El, Nat.zero_add, Nat.reduceAdd] at hc))
          (first | refine ⟨(fun h => by cases h), ?_⟩ | skip); (first | ((first | (with_reducible refine mx_seal S ?_)); clear S; (try clear hc); intro w1 S; (try simp only [List.set_cons_zero, List.set_cons_succ, List.nil_append] at S); have hc := S.cells; simp only [Cells, cellsC, Im, Row, El, Nat.zero_add, Nat.reduceAdd] at hc) | skip); (try simp only [Act.put, List.setIfInBounds_toArray, List.set_cons_succ, List.set_cons_zero])
          refine mix_last rfl ?_
          simp only [opsAt, List.getD_cons_succ, List.getD_cons_zero]
          repeat (go_big_quiet_step ((intro hC; first | rfl | (go_simp; first | done | rfl))))
          refine wpQuiet_nil ?_
          simp only [calmQ]
          go_wp2_with (first | ((first | (with_reducible refine wpl_seal S ?_) | (with_reducible refine cw_seal S ?_) | (with_reducible refine bp_seal S ?_) | (with_reducible refine ca_seal S ?_)); clear S; (try clear hc); intro w1 S; (try simp only [List.set_cons_zero, List.set_cons_succ, List.nil_append] at S); have hc := S.cells; simp only [Cells, cellsC, Im, Row, El, Nat.zero_add, Nat.reduceAdd] at hc))
          go_roundw
          case rel => exact ⟨i + 1, _, _, by go_num, by omega, ⟨(S.sel [2, 3, 4, 5, 6, 7] (by decide) rfl (by simp) : SH _ _ _ [_, _, _, _, _, _] _ _)⟩⟩
          case measure => simp [intOf]; omega

      · have hlt' : decide ((i : Int) < N) = false := decide_eq_false (by omega)
        obtain rfl : i = N := by omega
        have hc := S.cells; simp only [Cells, cellsC, Im, Row, El, Nat.zero_add, Nat.reduceAdd] at hc
        go_wp2_with (first | ((first | (with_reducible refine wpl_seal S ?_) | (with_reducible refine cw_seal S ?_) | (with_reducible refine bp_seal S ?_) | (with_reducible refine ca_seal S ?_)); clear S; (try clear hc); intro w1 S; (try simp only [List.set_cons_zero, List.set_cons_succ, List.nil_append] at S); have hc := S.cells; simp only [Cells, cellsC, Im, Row, El, Nat.zero_add, Nat.reduceAdd] at hc))
        refine bodyPost_ret (results_cell_row rfl _ _ g4 40 _ (0, 0) _ rfl (S.cel 3 rfl) Tryz.underlying40 rfl (by kernel_rfl)) rfl ?_
        obtain ⟨Ar, cr, e3, hcr, -⟩ := S.row 0 rfl
        rw [Value.slice.injEq] at e3
        obtain ⟨rfl, e4, rfl⟩ := e3
        have HPP : As (p = ⟨fc, fm, ⟨1 + aw, 1 + ah, (List.range i).map f⟩⟩) := ⟨by rw [← HP.out, HPX.out]⟩
        obtain rfl := HPP.out
        exact ⟨_, _, by dsimp only [picV]; rw [← e4], by rw [← e4]; exact S.ret 0 rfl⟩
theorem ygoodI_c (x : Rg) (hx : x.ok) (mo : Int) (hm1 : 1 ≤ mo) (hm2 : mo ≤ 16) (A : Option Addr) (n : Nat) (w : World) (I : Fp) (hI : ∀ b, I b → b < w.heap.size) (hl : Sl kI w I A x.l) {p : Pic} (hp : goodI x mo = p) :
    Calls Tryz.prog 13 #[rgV x A n, .int .i64 mo] w fun e w' => ∃ B c, e = .returned (picV p B c) ∧ p.x.l.length ≤ c ∧ Upd w No I w' (Im kP B p.x.l) := by
  refine (ygoodI_r x hx mo hm1 hm2 A n w I hI hl hp).mono ?_
  rintro e w' ⟨B, c, rfl, hu⟩
  obtain ⟨B', c', e', hc, hu'⟩ := hu.frow hI
  cases e'
  exact ⟨B, c, rfl, hc, hu'⟩
end Go.Proofs.YtnmlonicfncpfaaGreat
