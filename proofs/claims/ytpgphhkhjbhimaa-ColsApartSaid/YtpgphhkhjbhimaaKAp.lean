/- ColsApart: the law's walk. -/
import Derived.Test.YtpgphhkhjbhimaaKOwn
import Derived.Test.YtpgphhkhjbhimaaKPl
namespace Go.Proofs.Ytpgphhkhjbhimaa
open Go.RowKit X
set_option maxHeartbeats 4000000
set_option maxRecDepth 8000
set_option linter.unusedSimpArgs false
set_option linter.unusedVariables false
theorem ends_len (W : List (List Int)) (s : List Int) : (endsL W s).length ≤ W.length := endK_le (W := W) (x := s) (m := W.length)
/-- what is told of one place alone -/
def colX (told : List (List Int)) (x : Nat) : List (List Int) := told.map fun r => [r.getD x 0]
theorem sinceL_col (told : List (List Int)) (x : Nat) : sinceL (colX told x) 0 = sinceL told x := by
  unfold sinceL colX
  rw [List.foldl_map]
  rfl
theorem colX_snoc (told : List (List Int)) (r : List Int) {x : Nat} (h : x < r.length) : colX (told ++ [r]) x = colX told x ++ [[r[x]]] := by
  unfold colX
  rw [List.map_append]
  simp only [List.map_cons, List.map_nil]
  rw [getD_at h]
theorem kapart_c (cs rws : List (List Int)) (p : Int) (hp : I64 p) (A B : Option Addr) (c d : Nat) (w : World) (I : Fp) (hI : ∀ b, I b → b < w.heap.size) (hx : Sl kII w I A cs) (hy : Sl kII w I B rws) :
    Calls Try.prog 6 #[.slice A cs.length c, .slice B rws.length d, .int .i64 p] w fun e w' => e = .returned (.bool true) ∧ Ext w w' := by
  have S := ((SH.start w I hI).know (h := Im kII B rws) hy).know (h := Im kII A cs) hx
  clear hx hy
  have HF := As.mk (smallZ_few cs)
  obtain ⟨own, hown⟩ : ∃ own, smallZ (cs.take 6) = own := ⟨_, rfl⟩
  have HOW := As.mk hown
  rw [hown] at HF
  clear hown
  have hol := HF.out.len
  obtain ⟨n, hn, hn7⟩ : ∃ n : Nat, aroundI p 4 = n ∧ n < 4 := ⟨(aroundI p 4).toNat, by have := aroundI_range (n := p) (m := 4) (by omega); omega, by have := aroundI_range (n := p) (m := 4) (by omega); omega⟩
  have HN := As.mk hn
  clear hn
  have hm1 : True := trivial
  have hm2 : True := trivial
  have hc := S.cells; simp only [Cells, cellsC, Im, Row, El, RTH, TreeH, TR, AU, AL, OrNil, Many, MaO, FlatO, Nat.zero_add, Nat.reduceAdd] at hc
  go_enter Try.func6, Try.ntmps6
  go_wp2_with (first | ((first | (with_reducible refine wpl_seal S ?_) | (with_reducible refine cw_seal S ?_) | (with_reducible refine bp_seal S ?_) | (with_reducible refine ca_seal S ?_)); clear S; (try clear hc); intro w1 S; (try simp only [List.set_cons_zero, List.set_cons_succ, List.nil_append] at S); have hc := S.cells; simp only [Cells, cellsC, Im, Row, El, RTH, TreeH, TR, AU, AL, OrNil, Many, MaO, FlatO, Nat.zero_add, Nat.reduceAdd] at hc) | (go_at_call 9; refine (zsmall_c cs A c _ _ S.bd (S.im 0 rfl)).mono ?_; rw [HOW.out]; rintro e w1 ⟨v, rfl, hu⟩; obtain ⟨I1, S1, hI1⟩ := S.new hu; clear S hu hI1; (try clear hc); have S := S1; clear S1; have hc := S.cells; simp only [Cells, cellsC, Im, Row, El, RTH, TreeH, TR, AU, AL, OrNil, Many, MaO, FlatO, Nat.zero_add, Nat.reduceAdd] at hc; obtain ⟨A5, c5, I1, e1, hc5, S1, hI1⟩ := S.frow 0 rfl; subst e1; clear S hI1; have S := S1; clear S1; simp only [List.set_cons_zero, List.set_cons_succ, List.nil_append] at S; have hc := S.cells; simp only [Cells, cellsC, Im, Row, El, RTH, TreeH, TR, AU, AL, OrNil, Many, MaO, FlatO, Nat.zero_add, Nat.reduceAdd] at hc) | (go_at_call 19; refine (around_c p 4 _ hp (by omega) (by omega)).mono ?_; rw [HN.out]; rintro e w1 ⟨rfl, rfl⟩) | (go_at_call 10; clear hm1; refine (cnew_t S own 4 (by omega) A5 c5 (S.im 0 rfl) HF.out).mono ?_; rintro e w1 ⟨gm, J1, rfl, S2⟩; clear S hc; have S := S2; clear S2; have hc := S.cells; simp only [Cells, cellsC, Im, Row, El, RTH, TreeH, TR, AU, AL, OrNil, Many, MaO, FlatO, Nat.zero_add, Nat.reduceAdd] at hc) | (go_at_call 10; clear hm2; refine (cnew_t S own 1 (by omega) A5 c5 (S.im 1 rfl) HF.out).mono ?_; rintro e w1 ⟨go, J1, rfl, S2⟩; clear S hc; have S := S2; clear S2; have hc := S.cells; simp only [Cells, cellsC, Im, Row, El, RTH, TreeH, TR, AU, AL, OrNil, Many, MaO, FlatO, Nat.zero_add, Nat.reduceAdd] at hc))
  clear hc
  replace S := ((S.sel [0, 1, 2, 4] (by decide) rfl (by simp) : SH _ _ _ [_, _, _, _] _ _) : SH _ _ _ [_, _, _, _] _ _)
  go_loopw [13] (fun v w' => ∃ (k : Nat) (told : List (List Int)) (J : Fp), v = .int .i64 k ∧ k ≤ rws.length ∧ k ≤ 10 ∧ told.length = k ∧ As (Told told 4) ∧ As (SH No I w [MaT go own (colX told n) 1, MaT gm own told 4, Im kII A5 own, Im kII B rws] w' J)) (fun v _ => rws.length - (intOf v).toNat)
  case atStart => exact ⟨0, [], _, rfl, by omega, by omega, rfl, ⟨Told.nil⟩, ⟨S⟩⟩
  case round =>
    clear S
    obtain ⟨k, told, J, rfl, hk, hk6, htl, HT, ⟨S⟩⟩ := hrel
    have HTL := As.mk htl
    have htl6 : told.length ≤ 10 := by omega
    clear htl
    have hc := S.cells; simp only [Cells, cellsC, Im, Row, El, RTH, TreeH, TR, AU, AL, OrNil, Many, MaO, FlatO, Nat.zero_add, Nat.reduceAdd] at hc
    by_cases hkl : k < rws.length
    · have hkl' : decide ((k : Int) < rws.length) = true := by simpa using hkl
      by_cases hkm : k < 10
      · have hkm' : decide ((k : Int) < 10) = true := by simp; omega
        obtain ⟨b, o, A3, c3, rfl, hcx, hc3, hs3⟩ := (S.im 3 rfl).sl_at hkl
        replace S := S.know (h := Im kI A3 rws[k]) hs3
        clear hs3
        generalize rws[k] = x at S hcx hc3
        have HT2 := As.mk (HT.out.rowZ x)
        have hxr : n < (rowZ x 4).length := by rw [rowZ_len]; exact hn7
        have HCX := As.mk (colX_snoc told (rowZ x 4) hxr)
        have hyr := rowZ_mem (List.getElem_mem hxr)
        have HLY : As (∀ y ∈ [(rowZ x 4)[n]], -1 ≤ y ∧ y ≤ 9223372036854775807) := ⟨fun y hy => by rw [List.mem_singleton] at hy; subst hy; omega⟩
        obtain ⟨E, hE⟩ : ∃ E, endsL own (sinceL (told ++ [rowZ x 4]) n) = E := ⟨_, rfl⟩
        have hEl : E.length ≤ 1000000 := by rw [← hE]; have := ends_len own (sinceL (told ++ [rowZ x 4]) n); omega
        have HO1 : As (outT own (colX (told ++ [rowZ x 4]) n) 1 = [E]) := ⟨by rw [outT_one, sinceL_col, hE]⟩
        have HO4 : As ((outT own (told ++ [rowZ x 4]) 4)[n]? = some E) := ⟨by
          have h : n < (outT own (told ++ [rowZ x 4]) 4).length := by rw [outT_len]; exact hn7
          rw [List.getElem?_eq_getElem h, outT_at, hE]⟩
        rw [HCX.out] at HO1
        have hcl : (colX told n).length ≤ 10 := by unfold colX; rw [List.length_map]; exact htl6
        clear hE
        have hm1 : True := trivial
        have hm2 : True := trivial
        have hc := S.cells; simp only [Cells, cellsC, Im, Row, El, RTH, TreeH, TR, AU, AL, OrNil, Many, MaO, FlatO, Nat.zero_add, Nat.reduceAdd] at hc
        go_wp2_with (first | ((first | (with_reducible refine wpl_seal S ?_) | (with_reducible refine cw_seal S ?_) | (with_reducible refine bp_seal S ?_) | (with_reducible refine ca_seal S ?_)); clear S; (try clear hc); intro w1 S; (try simp only [List.set_cons_zero, List.set_cons_succ, List.nil_append] at S); have hc := S.cells; simp only [Cells, cellsC, Im, Row, El, RTH, TreeH, TR, AU, AL, OrNil, Many, MaO, FlatO, Nat.zero_add, Nat.reduceAdd] at hc) | (go_at_call 12; refine (zrow_c x 4 (by omega) A3 c3 _ _ S.bd (S.im 0 rfl)).mono ?_; rintro e w1 ⟨g, rfl, hu⟩; obtain ⟨I1, S1, hI1⟩ := S.new hu; clear S hu hI1; (try clear hc); have S := S1; clear S1; have hc := S.cells; simp only [Cells, cellsC, Im, Row, El, RTH, TreeH, TR, AU, AL, OrNil, Many, MaO, FlatO, Nat.zero_add, Nat.reduceAdd] at hc; have hx1 := sl_one (S.im 0 rfl) hxr; rw [Nat.zero_add] at hx1; replace S := S.know (h := Im kI (some ⟨g, n, none⟩) [(rowZ x 4)[n]]) hx1; clear hx1; have hc := S.cells; simp only [Cells, cellsC, Im, Row, El, RTH, TreeH, TR, AU, AL, OrNil, Many, MaO, FlatO, Nat.zero_add, Nat.reduceAdd] at hc) | (go_at_call 11; clear hm1; refine (crow_t S 4 rfl _ 4 (S.im 1 rfl) (rowZ_len x 4) (fun y hy => by have := rowZ_mem hy; omega) (by omega) HF.out (by omega)).mono ?_; rintro e w1 ⟨ga, J5, rfl, S2⟩; clear S hc; have S := S2; clear S2; simp only [List.set_cons_zero, List.set_cons_succ, List.nil_append] at S; have hc := S.cells; simp only [Cells, cellsC, Im, Row, El, RTH, TreeH, TR, AU, AL, OrNil, Many, MaO, FlatO, Nat.zero_add, Nat.reduceAdd] at hc) | (go_at_call 11; clear hm2; refine (crow_t S 4 rfl _ _ (S.im 1 rfl) rfl HLY.out (by omega) HF.out (by omega)).mono ?_; rw [HO1.out]; rintro e w1 ⟨gb, J5, rfl, S2⟩; clear S hc; have S := S2; clear S2; simp only [List.set_cons_zero, List.set_cons_succ, List.nil_append] at S; have hc := S.cells; simp only [Cells, cellsC, Im, Row, El, RTH, TreeH, TR, AU, AL, OrNil, Many, MaO, FlatO, Nat.zero_add, Nat.reduceAdd] at hc))
        clear hc hcx hc3
        replace S := ((S.sel [0, 1, 5, 6, 7, 8] (by decide) rfl (by simp) : SH _ _ _ [_, _, _, _, _, _] _ _) : SH _ _ _ [_, _, _, _, _, _] _ _)
        rw [← HCX.out] at S
        obtain ⟨b7, o7, Ab, cb, e7, hcb, hlb, hsb⟩ := im_at (S.im 0 rfl) 0 E rfl
        cases e7
        obtain ⟨b7, o7, Aa, ca, e7, hca, hla, hsa⟩ := im_at (S.im 1 rfl) n E HO4.out
        cases e7
        rw [Nat.zero_add] at hca hcb
        replace S := (S.know (h := Im kI Aa E) hsa).know (h := Im kI Ab E) hsb
        clear hsa hsb
        have hq0 := ClE.cell (w := w1.drew) hca
        have hq1 := ClE.cell (w := w1.drew) hcb
        refine wp_region_ext [⟨[0, 1, 2, 3, 4, 5, 6], [], 7, false⟩, ⟨[8, 9, 10], [], 11, false⟩, ⟨[12, 13, 14, 15], [17], 16, false⟩, ⟨[], [], 18, false⟩] [19, 20] (by kernel_rfl) (by kernel_rfl) ?_
        refine mix_cons rfl rfl rfl ?_
        simp only [opsAt, List.getD_cons_succ, List.getD_cons_zero]
        repeat (go_big_quiet_step ((intro hC; first | rfl | (go_simp; first | done | rfl))))
        refine wpQuiet_nil ?_
        repeat (go_big_quiet_step ((intro hC; first | rfl | (go_simp; first | done | rfl))))
        refine wpQuiet_nil ?_
        clear hq0 hq1 hca hcb
        replace S := S.drew
        generalize w1.drew = w1 at S ⊢
        have hc := S.cells; simp only [Cells, cellsC, Im, Row, El, RTH, TreeH, TR, AU, AL, OrNil, Many, MaO, FlatO, Nat.zero_add, Nat.reduceAdd] at hc
        go_wp2_with (first | ((first | (with_reducible refine mx_seal S ?_) | (with_reducible refine wpl_seal S ?_) | (with_reducible refine ca_seal S ?_)); clear S; (try clear hc); intro w1 S; (try simp only [List.set_cons_zero, List.set_cons_succ, List.nil_append] at S); have hc := S.cells; simp only [Cells, cellsC, Im, Row, El, RTH, TreeH, TR, AU, AL, OrNil, Many, MaO, FlatO, Nat.zero_add, Nat.reduceAdd] at hc) | (go_at_call 15; refine (sameI_e E Aa Ab ca cb _ _ _ (S.im 1 rfl) (S.im 0 rfl) hEl).mono ?_; rintro e w1 ⟨rfl, hx⟩; have hx := hx.ext; replace S := S.ext hx; clear hx; (try clear hc); have hc := S.cells; simp only [Cells, cellsC, Im, Row, El, RTH, TreeH, TR, AU, AL, OrNil, Many, MaO, FlatO, Nat.zero_add, Nat.reduceAdd] at hc))
        (first | refine ⟨(fun h => by cases h), ?_⟩ | skip); (first | ((first | (with_reducible refine mx_seal S ?_)); clear S; (try clear hc); intro w1 S; (try simp only [List.set_cons_zero, List.set_cons_succ, List.nil_append] at S); have hc := S.cells; simp only [Cells, cellsC, Im, Row, El, RTH, TreeH, TR, AU, AL, OrNil, Many, MaO, FlatO, Nat.zero_add, Nat.reduceAdd] at hc) | skip); (try simp only [Act.put, List.setIfInBounds_toArray, List.set_cons_succ, List.set_cons_zero])
        refine mix_cons rfl rfl rfl ?_
        simp only [opsAt, List.getD_cons_succ, List.getD_cons_zero]
        repeat (go_big_quiet_step ((intro hC; first | rfl | (go_simp; first | done | rfl))))
        refine wpQuiet_nil ?_
        repeat (go_big_quiet_step ((intro hC; first | rfl | (go_simp; first | done | rfl))))
        refine wpQuiet_nil ?_
        go_wp2_with (first | ((first | (with_reducible refine mx_seal S ?_) | (with_reducible refine wpl_seal S ?_) | (with_reducible refine ca_seal S ?_)); clear S; (try clear hc); intro w1 S; (try simp only [List.set_cons_zero, List.set_cons_succ, List.nil_append] at S); have hc := S.cells; simp only [Cells, cellsC, Im, Row, El, RTH, TreeH, TR, AU, AL, OrNil, Many, MaO, FlatO, Nat.zero_add, Nat.reduceAdd] at hc) | (go_at_call 20; refine (croom_t S 5 rfl).mono ?_; rintro e w1 ⟨rfl, rfl⟩))
        (first | refine ⟨(fun h => by cases h), ?_⟩ | skip); (first | ((first | (with_reducible refine mx_seal S ?_)); clear S; (try clear hc); intro w1 S; (try simp only [List.set_cons_zero, List.set_cons_succ, List.nil_append] at S); have hc := S.cells; simp only [Cells, cellsC, Im, Row, El, RTH, TreeH, TR, AU, AL, OrNil, Many, MaO, FlatO, Nat.zero_add, Nat.reduceAdd] at hc) | skip); (try simp only [Act.put, List.setIfInBounds_toArray, List.set_cons_succ, List.set_cons_zero])
        refine mix_cons rfl rfl rfl ?_
        simp only [opsAt, List.getD_cons_succ, List.getD_cons_zero]
        repeat (go_big_quiet_step ((intro hC; first | rfl | (go_simp; first | done | rfl))))
        refine wpQuiet_nil ?_
        repeat (go_big_quiet_step ((intro hC; first | rfl | (go_simp; first | done | rfl))))
        refine wpQuiet_nil ?_
        go_wp2_with (first | ((first | (with_reducible refine mx_seal S ?_) | (with_reducible refine wpl_seal S ?_) | (with_reducible refine ca_seal S ?_)); clear S; (try clear hc); intro w1 S; (try simp only [List.set_cons_zero, List.set_cons_succ, List.nil_append] at S); have hc := S.cells; simp only [Cells, cellsC, Im, Row, El, RTH, TreeH, TR, AU, AL, OrNil, Many, MaO, FlatO, Nat.zero_add, Nat.reduceAdd] at hc) | (go_at_call 21; refine (csize_r S 5 rfl).mono ?_; rintro e w1 ⟨rfl, rfl⟩))
        (first | refine ⟨(fun h => by cases h), ?_⟩ | skip); (first | ((first | (with_reducible refine mx_seal S ?_)); clear S; (try clear hc); intro w1 S; (try simp only [List.set_cons_zero, List.set_cons_succ, List.nil_append] at S); have hc := S.cells; simp only [Cells, cellsC, Im, Row, El, RTH, TreeH, TR, AU, AL, OrNil, Many, MaO, FlatO, Nat.zero_add, Nat.reduceAdd] at hc) | skip); (try simp only [Act.put, List.setIfInBounds_toArray, List.set_cons_succ, List.set_cons_zero])
        refine mix_cons rfl rfl rfl ?_
        simp only [opsAt, List.getD_cons_succ, List.getD_cons_zero]
        repeat (go_big_quiet_step ((intro hC; first | rfl | (go_simp; first | done | rfl))))
        refine wpQuiet_nil ?_
        repeat (go_big_quiet_step ((intro hC; first | rfl | (go_simp; first | done | rfl))))
        refine wpQuiet_nil ?_
        go_wp2_with (first | ((first | (with_reducible refine mx_seal S ?_) | (with_reducible refine wpl_seal S ?_) | (with_reducible refine ca_seal S ?_)); clear S; (try clear hc); intro w1 S; (try simp only [List.set_cons_zero, List.set_cons_succ, List.nil_append] at S); have hc := S.cells; simp only [Cells, cellsC, Im, Row, El, RTH, TreeH, TR, AU, AL, OrNil, Many, MaO, FlatO, Nat.zero_add, Nat.reduceAdd] at hc) | (go_at_call 21; refine (csize_r S 4 rfl).mono ?_; rintro e w1 ⟨rfl, rfl⟩))
        (first | refine ⟨(fun h => by cases h), ?_⟩ | skip); (first | ((first | (with_reducible refine mx_seal S ?_)); clear S; (try clear hc); intro w1 S; (try simp only [List.set_cons_zero, List.set_cons_succ, List.nil_append] at S); have hc := S.cells; simp only [Cells, cellsC, Im, Row, El, RTH, TreeH, TR, AU, AL, OrNil, Many, MaO, FlatO, Nat.zero_add, Nat.reduceAdd] at hc) | skip); (try simp only [Act.put, List.setIfInBounds_toArray, List.set_cons_succ, List.set_cons_zero])
        refine mix_last rfl ?_
        simp only [opsAt, List.getD_cons_succ, List.getD_cons_zero]
        repeat (go_big_quiet_step ((intro hC; first | rfl | (go_simp; first | done | rfl))))
        refine wpQuiet_nil ?_
        simp only [calmQ]
        have hc := S.cells; simp only [Cells, cellsC, Im, Row, El, RTH, TreeH, TR, AU, AL, OrNil, Many, MaO, FlatO, Nat.zero_add, Nat.reduceAdd] at hc
        go_wp2_with (first | ((first | (with_reducible refine wpl_seal S ?_) | (with_reducible refine cw_seal S ?_) | (with_reducible refine bp_seal S ?_) | (with_reducible refine ca_seal S ?_)); clear S; (try clear hc); intro w1 S; (try simp only [List.set_cons_zero, List.set_cons_succ, List.nil_append] at S); have hc := S.cells; simp only [Cells, cellsC, Im, Row, El, RTH, TreeH, TR, AU, AL, OrNil, Many, MaO, FlatO, Nat.zero_add, Nat.reduceAdd] at hc))
        go_roundw
        case rel => exact ⟨k + 1, told ++ [rowZ x 4], _, by go_num, by omega, by omega, by rw [List.length_append, HTL.out]; rfl, HT2, ⟨(S.sel [4, 5, 6, 7] (by decide) rfl (by simp) : SH _ _ _ [_, _, _, _] _ _)⟩⟩
        case measure => simp [intOf]; omega
      · have hkm' : decide ((k : Int) < 10) = false := by simp; omega
        go_wp2_with (first | ((first | (with_reducible refine wpl_seal S ?_) | (with_reducible refine cw_seal S ?_) | (with_reducible refine bp_seal S ?_) | (with_reducible refine ca_seal S ?_)); clear S; (try clear hc); intro w1 S; (try simp only [List.set_cons_zero, List.set_cons_succ, List.nil_append] at S); have hc := S.cells; simp only [Cells, cellsC, Im, Row, El, RTH, TreeH, TR, AU, AL, OrNil, Many, MaO, FlatO, Nat.zero_add, Nat.reduceAdd] at hc) | (go_at_call 13; refine (lives17_c _ _ S.bd).mono ?_; rintro e w1 ⟨rfl, hx⟩; replace S := S.ext hx; clear hx; (try clear hc); have hc := S.cells; simp only [Cells, cellsC, Im, Row, El, RTH, TreeH, TR, AU, AL, OrNil, Many, MaO, FlatO, Nat.zero_add, Nat.reduceAdd] at hc))
        go_ret
        exact ⟨rfl, S.out⟩
    · have hkl' : decide ((k : Int) < rws.length) = false := by simpa using hkl
      go_wp2_with (first | ((first | (with_reducible refine wpl_seal S ?_) | (with_reducible refine cw_seal S ?_) | (with_reducible refine bp_seal S ?_) | (with_reducible refine ca_seal S ?_)); clear S; (try clear hc); intro w1 S; (try simp only [List.set_cons_zero, List.set_cons_succ, List.nil_append] at S); have hc := S.cells; simp only [Cells, cellsC, Im, Row, El, RTH, TreeH, TR, AU, AL, OrNil, Many, MaO, FlatO, Nat.zero_add, Nat.reduceAdd] at hc) | (go_at_call 13; refine (lives17_c _ _ S.bd).mono ?_; rintro e w1 ⟨rfl, hx⟩; replace S := S.ext hx; clear hx; (try clear hc); have hc := S.cells; simp only [Cells, cellsC, Im, Row, El, RTH, TreeH, TR, AU, AL, OrNil, Many, MaO, FlatO, Nat.zero_add, Nat.reduceAdd] at hc))
      go_ret
      exact ⟨rfl, S.out⟩
end Go.Proofs.Ytpgphhkhjbhimaa
