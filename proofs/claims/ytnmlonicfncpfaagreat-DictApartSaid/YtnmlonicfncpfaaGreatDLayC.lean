/- A matrix, laid: the program's walk. -/
import Derived.Test.YtnmlonicfncpfaaGreatDTrn
namespace Go.Proofs.YtnmlonicfncpfaaGreat
open Go.RowKit X
set_option maxHeartbeats 4000000
set_option maxRecDepth 8000
set_option linter.unusedSimpArgs false
set_option linter.unusedVariables false
theorem layNo_c (x : Mx) (g : Nat) (hg : g < 8) (A : Option Addr) (n : Nat) (w : World) (I : Fp) (hI : ∀ b, I b → b < w.heap.size) (ho : layOk x g = false) :
    Calls Tryz.prog 55 #[mxV x A n, .int .i64 g] w fun e w' => e = .returned (.tuple #[mx0, .int .i64 4]) ∧ Ext w w' := by
  have S := SH.start w I hI
  have HO := As.mk ho
  clear ho
  obtain ⟨a, b, l⟩ := x
  dsimp only [mxV, layOk] at *
  obtain ⟨s1, hs1⟩ : ∃ s, (sizeP a b g).1 = s := ⟨_, rfl⟩
  obtain ⟨s2, hs2⟩ : ∃ s, (sizeP a b g).2 = s := ⟨_, rfl⟩
  have HS := As.mk (And.intro hs1 hs2)
  rw [hs1, hs2] at HO
  clear hs1 hs2
  have hc := S.cells; simp only [Cells, cellsC, Im, Row, El, Nat.zero_add, Nat.reduceAdd] at hc
  go_enter Tryz.func55, Tryz.ntmps55
  go_wp2_with (first | ((first | (with_reducible refine wpl_seal S ?_) | (with_reducible refine cw_seal S ?_) | (with_reducible refine bp_seal S ?_) | (with_reducible refine ca_seal S ?_)); clear S; (try clear hc); intro w1 S; (try simp only [List.set_cons_zero, List.set_cons_succ, List.nil_append] at S); have hc := S.cells; simp only [Cells, cellsC, Im, Row, El, Nat.zero_add, Nat.reduceAdd] at hc) | (go_at_call 50; refine (mayT_ok g hg _).mono ?_; rintro e w1 ⟨rfl, rfl⟩) | (go_at_call 76; refine (size_c a b g hg _).mono ?_; rw [HS.out.1, HS.out.2]; rintro e w1 ⟨rfl, rfl⟩) | (go_at_call 75; refine (newNo_c s1 s2 _ _ S.bd HO.out).mono ?_; rintro e w1 ⟨rfl, hx⟩; replace S := S.ext hx; clear hx; (try clear hc); have hc := S.cells; simp only [Cells, cellsC, Im, Row, El, Nat.zero_add, Nat.reduceAdd] at hc))
  refine bodyPost_ret (results_cell_tmpR rfl _ _ _ 34 _ (0, 0) _ rfl (S.cel 1 rfl) Tryz.underlying34 rfl (by kernel_rfl)) rfl ?_
  exact ⟨rfl, S.out⟩
theorem layOk_c (x : Mx) (g : Nat) (hg : g < 8) (A : Option Addr) (n : Nat) (w : World) (I : Fp) (hI : ∀ b, I b → b < w.heap.size) (hl : Sl kP w I A x.l) (hm : mayX x = true) (hn : x.l.length ≤ 1000000) (ho : layOk x g = true) {z : Mx} (hz : layP x g = z) :
    Calls Tryz.prog 55 #[mxV x A n, .int .i64 g] w fun e w' => ∃ B c, e = .returned (.tuple #[mxV z B c, .int .i64 0]) ∧ z.l.length ≤ c ∧ Upd w No I w' (Im kP B z.l) := by
  have S := (SH.start w I hI).know (h := Im kP A x.l) hl
  have HO := As.mk ho
  obtain ⟨⟨m1, m2, m3, m4, m5⟩, m6⟩ := mayX_iff.1 hm
  obtain ⟨o1, o2, o3, o4, o5⟩ := sizedP_iff.1 ho
  clear ho hl hm
  obtain ⟨a, b, l⟩ := x
  have HZ : As (z = ⟨(sizeP a b g).1, (sizeP a b g).2, (List.range l.length).map (layAt ⟨a, b, l⟩ g)⟩) := ⟨hz.symm⟩
  clear hz
  dsimp only [mxV, layOk] at *
  obtain ⟨f, hf⟩ : ∃ f, layAt ⟨a, b, l⟩ g = f := ⟨_, rfl⟩
  have HFi := fun i : Nat => congrFun hf i
  unfold layAt at HFi
  dsimp only at HFi
  rw [hf] at HZ
  have hin := fun (X Y : Int) (h1 : 0 ≤ X ∧ X < (sizeP a b g).1) (h2 : 0 ≤ Y ∧ Y < (sizeP a b g).2) => from_in hg h1 h2
  have hsz : (sizeP a b g).1 * (sizeP a b g).2 = l.length := by
    rw [m6]
    unfold sizeP
    split
    · rfl
    · exact Int.mul_comm _ _
  obtain ⟨s1, hs1⟩ : ∃ s, (sizeP a b g).1 = s := ⟨_, rfl⟩
  obtain ⟨s2, hs2⟩ : ∃ s, (sizeP a b g).2 = s := ⟨_, rfl⟩
  have HS := As.mk (And.intro hs1 hs2)
  rw [hs1, hs2] at HO HZ hsz
  simp only [hs1, hs2] at HFi hin o1 o2 o3 o4 o5
  have HIN := As.mk hin
  have HFI := As.mk HFi
  clear hs1 hs2 hf HFi hin
  have HSZ := As.mk hsz
  have HM6 := As.mk m6
  clear hsz m6
  have hc := S.cells; simp only [Cells, cellsC, Im, Row, El, Nat.zero_add, Nat.reduceAdd] at hc
  go_enter Tryz.func55, Tryz.ntmps55
  go_wp2_with (first | ((first | (with_reducible refine wpl_seal S ?_) | (with_reducible refine cw_seal S ?_) | (with_reducible refine bp_seal S ?_) | (with_reducible refine ca_seal S ?_)); clear S; (try clear hc); intro w1 S; (try simp only [List.set_cons_zero, List.set_cons_succ, List.nil_append] at S); have hc := S.cells; simp only [Cells, cellsC, Im, Row, El, Nat.zero_add, Nat.reduceAdd] at hc) | (go_at_call 50; refine (mayT_ok g hg _).mono ?_; rintro e w1 ⟨rfl, rfl⟩) | (go_at_call 76; refine (size_c a b g hg _).mono ?_; rw [HS.out.1, HS.out.2]; rintro e w1 ⟨rfl, rfl⟩) | (go_at_call 75; refine (newOk_c s1 s2 l.length _ _ S.bd HO.out HSZ.out hn).mono ?_; rintro e w1 ⟨gL, rfl, hu⟩; obtain ⟨I1, S1, hI1⟩ := S.new hu; clear S hu hI1; (try clear hc); have S := S1; clear S1; have hc := S.cells; simp only [Cells, cellsC, Im, Row, El, Nat.zero_add, Nat.reduceAdd] at hc))
  obtain ⟨g6, eg6⟩ := S.name 0 rfl; rw [← eg6] at S ⊢; clear eg6
  obtain ⟨g4, eg4⟩ := S.name 2 rfl; rw [← eg4] at S ⊢; clear eg4
  obtain ⟨g2, eg2⟩ := S.name 3 rfl; rw [← eg2] at S ⊢; clear eg2
  replace S := ((S.sel [0, 1, 2, 3, 4] (by decide) rfl (by simp) : SH _ _ _ [_, _, _, _, _] _ _) : SH _ _ _ [_, _, _, _, _] _ _)
  rw [upK_none (f := f)] at S
  have HN := As.mk hn
  clear hc
  go_loopw [33] (fun i w' => ∃ (k : Nat) (J : Fp), i = .int .i64 k ∧ k ≤ l.length ∧ As (SH No I w [Cel g6 34 [.int .i64 s1, .int .i64 s2, .slice (some ⟨gL, 0, none⟩) l.length l.length], Row kP (.slice (some ⟨gL, 0, none⟩) l.length l.length) (upK l.length f (fun _ => 0) k), Cel g4 34 [.int .i64 0, .int .i64 0, .slice none 0 0], Cel g2 34 [.int .i64 a, .int .i64 b, .slice A l.length n], Im kP A l] w' J)) (fun i _ => l.length - (intOf i).toNat)
  case atStart => exact ⟨0, _, rfl, by omega, ⟨S⟩⟩
  case round =>
    clear S
    obtain ⟨k, J, rfl, hk, ⟨S⟩⟩ := hrel
    by_cases hlt : k < l.length
    · have hlt' : decide ((k : Int) < l.length) = true := decide_eq_true (by omega)
      obtain ⟨⟨x1, x2⟩, y1, y2⟩ := split_in (a := s1) (b := s2) HSZ.out.symm o1 hlt
      obtain ⟨⟨p1, p2⟩, p3, p4⟩ := HIN.out _ _ ⟨x1, x2⟩ ⟨y1, y2⟩
      have HK := As.mk (HFI.out k)
      obtain ⟨X, hX⟩ : ∃ X, (k : Int) % s1 = X := ⟨_, rfl⟩
      obtain ⟨Y, hY⟩ : ∃ Y, (k : Int) / s1 = Y := ⟨_, rfl⟩
      rw [hX] at x1 x2 p1 p2 p3 p4 HK
      rw [hY] at y1 y2 p1 p2 p3 p4 HK
      obtain ⟨⟨qa, qb⟩, hq⟩ : ∃ q, fromP a b X Y g = q := ⟨_, rfl⟩
      have HQ := As.mk hq
      rw [hq] at p1 p2 p3 p4 HK
      dsimp only at p1 p2 p3 p4 HK
      obtain ⟨i1, i2⟩ := idx_in HM6.out ⟨p1, p2⟩ ⟨p3, p4⟩
      obtain ⟨m, hm⟩ : ∃ m : Nat, qb * a + qa = m := ⟨(qb * a + qa).toNat, by omega⟩
      rw [hm] at i1 i2 HK
      obtain ⟨y, hy⟩ : ∃ y, l[m]? = some y := ⟨_, List.getElem?_eq_getElem (by omega)⟩
      have HF : As (y = f k) := ⟨by rw [← HK.out, Int.toNat_natCast, List.getD_eq_getElem?_getD, hy]; rfl⟩
      have HM := As.mk hm
      have HY := As.mk hy
      have HJ : JLt k (upK l.length f (fun _ => 0) k).length := ⟨by rw [upK_len]; exact hlt⟩
      have sX : Sml X := ⟨by omega, by omega⟩
      have sY : Sml Y := ⟨by omega, by omega⟩
      have sA : Sml a := ⟨by omega, by omega⟩
      have sB : Sml b := ⟨by omega, by omega⟩
      have HXY := As.mk (And.intro hX hY)
      have hd0 : (s1 == 0) = false := by rw [beq_eq_false_iff_ne]; omega
      have hX1 : Int.tmod (k : Int) s1 = X := by rw [Int.tmod_eq_emod_of_nonneg (by omega)]; exact hX
      have hY1 : Int.tdiv (k : Int) s1 = Y := by rw [Int.tdiv_eq_ediv_of_nonneg (by omega)]; exact hY
      clear hq hm hy
      have hq := S.cellsE; simp only [CellsE, cellsE, Im, Row, El, Nat.zero_add, Nat.reduceAdd] at hq
      have hc := S.cells; simp only [Cells, cellsC, Im, Row, El, Nat.zero_add, Nat.reduceAdd] at hc
      go_wp2_with (first | ((first | (with_reducible refine wpl_seal S ?_) | (with_reducible refine cw_seal S ?_) | (with_reducible refine bp_seal S ?_) | (with_reducible refine ca_seal S ?_)); clear S; (try clear hc); intro w1 S; (try simp only [List.set_cons_zero, List.set_cons_succ, List.nil_append] at S); have hc := S.cells; simp only [Cells, cellsC, Im, Row, El, Nat.zero_add, Nat.reduceAdd] at hc))
      refine wp_region_ext [⟨[0, 1, 2, 3, 4, 5, 6, 7, 8, 9, 10, 11, 12], [], 13, false⟩] [14, 15, 16, 17, 18] (by kernel_rfl) (by kernel_rfl) ?_
      refine mix_cons rfl rfl rfl ?_
      simp only [opsAt, List.getD_cons_succ, List.getD_cons_zero]
      repeat (go_big_quiet_step ((intro hC; first | rfl | (go_simp; first | done | rfl))))
      refine wpQuiet_nil ?_
      repeat (go_big_quiet_step ((intro hC; first | rfl | (go_simp; first | done | rfl))))
      refine wpQuiet_nil ?_
      clear hc hq
      replace S := S.drew
      generalize wr.drew = w2 at S ⊢
      have hc := S.cells; simp only [Cells, cellsC, Im, Row, El, Nat.zero_add, Nat.reduceAdd] at hc
      go_wp2_with (first | ((first | (with_reducible refine mx_seal S ?_) | (with_reducible refine wpl_seal S ?_) | (with_reducible refine ca_seal S ?_)); clear S; (try clear hc); intro w1 S; (try simp only [List.set_cons_zero, List.set_cons_succ, List.nil_append] at S); have hc := S.cells; simp only [Cells, cellsC, Im, Row, El, Nat.zero_add, Nat.reduceAdd] at hc) | (go_at_call 77; refine (from_c a b X Y g hg sA sB sX sY _ _ S.bd HQ.out).mono ?_; dsimp only; rintro e w1 ⟨rfl, hx⟩; replace S := S.ext hx; clear hx; (try clear hc); have hc := S.cells; simp only [Cells, cellsC, Im, Row, El, Nat.zero_add, Nat.reduceAdd] at hc))
      (first | refine ⟨(fun h => by cases h), ?_⟩ | skip); (first | ((first | (with_reducible refine mx_seal S ?_)); clear S; (try clear hc); intro w1 S; (try simp only [List.set_cons_zero, List.set_cons_succ, List.nil_append] at S); have hc := S.cells; simp only [Cells, cellsC, Im, Row, El, Nat.zero_add, Nat.reduceAdd] at hc) | skip); (try simp only [Act.put, List.setIfInBounds_toArray, List.set_cons_succ, List.set_cons_zero])
      refine mix_last rfl ?_
      simp only [opsAt, List.getD_cons_succ, List.getD_cons_zero]
      repeat (go_big_quiet_step ((intro hC; first | rfl | (go_simp; first | done | rfl))))
      refine wpQuiet_nil ?_
      simp only [calmQ]
      go_wp2_with (first | ((first | (with_reducible refine wpl_seal S ?_) | (with_reducible refine cw_seal S ?_) | (with_reducible refine bp_seal S ?_) | (with_reducible refine ca_seal S ?_)); clear S; (try clear hc); intro w1 S; (try simp only [List.set_cons_zero, List.set_cons_succ, List.nil_append] at S); have hc := S.cells; simp only [Cells, cellsC, Im, Row, El, Nat.zero_add, Nat.reduceAdd] at hc))
      have hq := S.cellsE; simp only [CellsE, cellsE, Im, Row, El, Nat.zero_add, Nat.reduceAdd] at hq
      have hc := S.cells; simp only [Cells, cellsC, Im, Row, El, Nat.zero_add, Nat.reduceAdd] at hc
      refine wp_region_ext [⟨[0, 1, 3, 4, 5], [2], 6, true⟩, ⟨[7, 8, 10], [9], 11, false⟩] [] (by kernel_rfl) (by kernel_rfl) ?_
      refine mix_cons rfl rfl rfl ?_
      simp only [opsAt, List.getD_cons_succ, List.getD_cons_zero]
      repeat (go_big_quiet_step ((intro hC; first | rfl | (go_simp; first | done | rfl))))
      refine wpQuiet_nil ?_
      repeat (go_big_quiet_step ((intro hC; first | rfl | (go_simp; first | done | rfl))))
      refine wpQuiet_nil ?_
      clear hc hq
      replace S := S.drew
      generalize w1.drew = w3 at S ⊢
      have hc := S.cells; simp only [Cells, cellsC, Im, Row, El, Nat.zero_add, Nat.reduceAdd] at hc
      go_wp2_with (first | ((first | (with_reducible refine mx_seal S ?_) | (with_reducible refine wpl_seal S ?_) | (with_reducible refine ca_seal S ?_)); clear S; (try clear hc); intro w1 S; (try simp only [List.set_cons_zero, List.set_cons_succ, List.nil_append] at S); have hc := S.cells; simp only [Cells, cellsC, Im, Row, El, Nat.zero_add, Nat.reduceAdd] at hc) | (go_at_call 78; refine (at_c ⟨a, b, l⟩ A n qa qb m y ⟨p1, p2⟩ ⟨p3, p4⟩ HM.out (by omega) m2 HY.out _ _ S.bd (S.im 4 rfl)).mono ?_; rintro e w1 ⟨rfl, hx⟩; have hxe := hx; replace S := S.ext hx; clear hx; (try clear hc); have hc := S.cells; simp only [Cells, cellsC, Im, Row, El, Nat.zero_add, Nat.reduceAdd] at hc))
      refine ⟨fun _ => hxe, ?_⟩
      clear hxe
      refine mix_cons rfl rfl rfl ?_
      simp only [opsAt, List.getD_cons_succ, List.getD_cons_zero]
      repeat (go_big_quiet_step ((intro hC; first | rfl | (go_simp; first | done | rfl))))
      refine wpQuiet_nil ?_
      repeat (go_big_quiet_step ((intro hC; first | rfl | (go_simp; first | done | rfl))))
      refine wpQuiet_nil ?_
      have hnf := S.nfzR 1 rfl k
      obtain ⟨Av, cv, e1, -, hs1⟩ := S.row 1 rfl
      rw [Value.slice.injEq] at e1
      obtain ⟨rfl, -, rfl⟩ := e1
      obtain ⟨b', o', e', hck⟩ := hs1.num_at (i := k) (List.getElem?_eq_getElem HJ.out)
      cases e'
      rw [Nat.zero_add] at hck
      go_wp2_with (first | ((first | (with_reducible refine mx_seal S ?_) | (with_reducible refine wpl_seal S ?_) | (with_reducible refine ca_seal S ?_)); clear S; (try clear hc); intro w1 S; (try simp only [List.set_cons_zero, List.set_cons_succ, List.nil_append] at S); have hc := S.cells; simp only [Cells, cellsC, Im, Row, El, Nat.zero_add, Nat.reduceAdd] at hc))
      (first | refine ⟨(fun h => by cases h), ?_⟩ | skip); (first | ((first | (with_reducible refine mx_seal S ?_)); clear S; (try clear hc); intro w1 S; (try simp only [List.set_cons_zero, List.set_cons_succ, List.nil_append] at S); have hc := S.cells; simp only [Cells, cellsC, Im, Row, El, Nat.zero_add, Nat.reduceAdd] at hc) | skip); (try simp only [Act.put, List.setIfInBounds_toArray, List.set_cons_succ, List.set_cons_zero])
      refine mix_last rfl ?_
      simp only [opsAt, List.getD_cons_succ, List.getD_cons_zero]
      repeat (go_big_quiet_step ((intro hC; first | rfl | (go_simp; first | done | rfl))))
      refine wpQuiet_nil ?_
      simp only [calmQ]
      go_wp2_with (first | ((first | (with_reducible refine wpl_seal S ?_) | (with_reducible refine cw_seal S ?_) | (with_reducible refine bp_seal S ?_) | (with_reducible refine ca_seal S ?_)); clear S; (try clear hc); intro w1 S; (try simp only [List.set_cons_zero, List.set_cons_succ, List.nil_append] at S); have hc := S.cells; simp only [Cells, cellsC, Im, Row, El, Nat.zero_add, Nat.reduceAdd] at hc))
      rw [HF.out, upK_set] at S
      go_roundw
      case rel => exact ⟨k + 1, _, by go_num, by omega, ⟨S⟩⟩
      case measure => simp [intOf]; omega
    · have hlt' : decide ((k : Int) < l.length) = false := decide_eq_false (by omega)
      obtain rfl : k = l.length := by omega
      rw [upK_all] at S
      have HZL : As (z.l = (List.range l.length).map f ∧ z.w = s1 ∧ z.h = s2) := ⟨by rw [HZ.out]; exact ⟨rfl, rfl, rfl⟩⟩
      have hc := S.cells; simp only [Cells, cellsC, Im, Row, El, Nat.zero_add, Nat.reduceAdd] at hc
      go_wp2_with (first | ((first | (with_reducible refine wpl_seal S ?_) | (with_reducible refine cw_seal S ?_) | (with_reducible refine bp_seal S ?_) | (with_reducible refine ca_seal S ?_)); clear S; (try clear hc); intro w1 S; (try simp only [List.set_cons_zero, List.set_cons_succ, List.nil_append] at S); have hc := S.cells; simp only [Cells, cellsC, Im, Row, El, Nat.zero_add, Nat.reduceAdd] at hc))
      refine bodyPost_ret (results_cell_tmpR rfl _ _ g4 34 _ (0, 0) _ rfl (S.cel 2 rfl) Tryz.underlying34 rfl (by kernel_rfl)) rfl ?_
      obtain ⟨Ar, cr, I2, e3, hcr, S2, -⟩ := S.frow 1 rfl
      rw [Value.slice.injEq] at e3
      obtain ⟨rfl, e4, rfl⟩ := e3
      obtain ⟨h1, h2, h3⟩ := HZL.out
      obtain ⟨zw, zh, zl⟩ := z
      dsimp only at h1 h2 h3
      subst h1 h2 h3
      exact ⟨some ⟨gL, 0, none⟩, l.length, by dsimp only [mxV]; rw [← e4]; rfl, hcr, S2.ret 1 rfl⟩
end Go.Proofs.YtnmlonicfncpfaaGreat
