/- ColsBreaks: the law's walk. -/
import Derived.Test.YtpgphhkhjbhimaaCNew
import Derived.Deep.DeepCutAuto
import Derived.Deep.CutBlock
namespace Go.Proofs.Ytpgphhkhjbhimaa
open Go.RowKit X
set_option maxHeartbeats 4000000
set_option maxRecDepth 8000
set_option linter.unusedSimpArgs false
set_option linter.unusedVariables false
theorem sinceL_neg {told : List (List Int)} {x : Nat} : ∀ (beh : List (List Int)), sinceL (told ++ [[-1, -1]] ++ beh) x = sinceL beh x → True := fun _ _ => trivial
/-- behind a row of -1 alone all is as at first -/
theorem sinceL_break (told beh : List (List Int)) {r : List Int} {x : Nat} (hx : x < r.length) (hr : r[x] < 0) : sinceL (told ++ [r] ++ beh) x = sinceL beh x := by
  unfold sinceL
  rw [List.foldl_append, List.foldl_append]
  simp only [List.foldl_cons, List.foldl_nil]
  rw [getD_at hx, if_pos hr]
theorem break_x (told beh : List (List Int)) {x : Nat} (hx : x < 2) : sinceL (told ++ [[-1, -1]] ++ beh) x = sinceL beh x := by
  have h : ([-1, -1] : List Int).length = 2 := rfl
  refine sinceL_break told beh (r := [-1, -1]) (by omega) ?_
  rcases x with _ | _ | x
  · show (-1 : Int) < 0; omega
  · show (-1 : Int) < 0; omega
  · omega
theorem stT_break (L told beh : List (List Int)) : stT L (told ++ [[-1, -1]] ++ beh) 2 = stT L beh 2 := by
  unfold stT
  refine List.map_congr_left fun x hx => ?_
  rw [break_x told beh (List.mem_range.1 hx)]
theorem outT_break (W told beh : List (List Int)) : outT W (told ++ [[-1, -1]] ++ beh) 2 = outT W beh 2 := by
  unfold outT
  refine List.map_congr_left fun x hx => ?_
  rw [break_x told beh (List.mem_range.1 hx)]
theorem outT_two (W told : List (List Int)) : outT W told 2 = [endsL W (sinceL told 0), endsL W (sinceL told 1)] := rfl
theorem endsL_len (W : List (List Int)) (s : List Int) : (endsL W s).length ≤ W.length := endK_le (W := W) (x := s) (m := W.length)
theorem kbreaks_c (cs ah be : List (List Int)) (A B D : Option Addr) (c d f : Nat) (w : World) (I : Fp) (hI : ∀ b, I b → b < w.heap.size) (hx : Sl kII w I A cs) (hy : Sl kII w I B ah) (hz : Sl kII w I D be) :
    Calls Try.prog 5 #[.slice A cs.length c, .slice B ah.length d, .slice D be.length f] w fun e w' => e = .returned (.bool true) ∧ Ext w w' := by
  have S := (((SH.start w I hI).know (h := Im kII D be) hz).know (h := Im kII B ah) hy).know (h := Im kII A cs) hx
  clear hx hy hz
  have HF := As.mk (smallZ_few cs)
  obtain ⟨own, hown⟩ : ∃ own, smallZ (cs.take 6) = own := ⟨_, rfl⟩
  have HOW := As.mk hown
  rw [hown] at HF
  clear hown
  have hol := HF.out.len
  have hm1 : True := trivial
  have hm2 : True := trivial
  have hm3 : True := trivial
  have hc := S.cells; simp only [Cells, cellsC, Im, Row, El, RTH, TreeH, TR, AU, AL, OrNil, Many, MaO, FlatO, Nat.zero_add, Nat.reduceAdd] at hc
  go_enter Try.func5, Try.ntmps5
  go_upto_block 0 with (first | ((first | (with_reducible refine wpl_seal S ?_) | (with_reducible refine cw_seal S ?_) | (with_reducible refine bp_seal S ?_) | (with_reducible refine ca_seal S ?_)); clear S; (try clear hc); intro w1 S; (try simp only [List.set_cons_zero, List.set_cons_succ, List.nil_append] at S); have hc := S.cells; simp only [Cells, cellsC, Im, Row, El, RTH, TreeH, TR, AU, AL, OrNil, Many, MaO, FlatO, Nat.zero_add, Nat.reduceAdd] at hc) | (go_at_call 9; refine (zsmall_c cs A c _ _ S.bd (S.im 0 rfl)).mono ?_; rw [HOW.out]; rintro e w1 ⟨v, rfl, hu⟩; obtain ⟨I1, S1, hI1⟩ := S.new hu; clear S hu hI1; (try clear hc); have S := S1; clear S1; have hc := S.cells; simp only [Cells, cellsC, Im, Row, El, RTH, TreeH, TR, AU, AL, OrNil, Many, MaO, FlatO, Nat.zero_add, Nat.reduceAdd] at hc; obtain ⟨A5, c5, I1, e1, hc5, S1, hI1⟩ := S.frow 0 rfl; subst e1; clear S hI1; have S := S1; clear S1; simp only [List.set_cons_zero, List.set_cons_succ, List.nil_append] at S; have hc := S.cells; simp only [Cells, cellsC, Im, Row, El, RTH, TreeH, TR, AU, AL, OrNil, Many, MaO, FlatO, Nat.zero_add, Nat.reduceAdd] at hc) | (go_at_call 10; clear hm1; refine (cnew_t S own 2 (by omega) A5 c5 (S.im 0 rfl) HF.out).mono ?_; rintro e w1 ⟨gm, J1, rfl, S2⟩; clear S hc; have S := S2; clear S2; have hc := S.cells; simp only [Cells, cellsC, Im, Row, El, RTH, TreeH, TR, AU, AL, OrNil, Many, MaO, FlatO, Nat.zero_add, Nat.reduceAdd] at hc) | (go_at_call 10; clear hm2; refine (cnew_t S own 2 (by omega) A5 c5 (S.im 1 rfl) HF.out).mono ?_; rintro e w1 ⟨go, J1, rfl, S2⟩; clear S hc; have S := S2; clear S2; have hc := S.cells; simp only [Cells, cellsC, Im, Row, El, RTH, TreeH, TR, AU, AL, OrNil, Many, MaO, FlatO, Nat.zero_add, Nat.reduceAdd] at hc))
  clear hc
  replace S := ((S.sel [0, 1, 2, 4, 5] (by decide) rfl (by simp) : SH _ _ _ [_, _, _, _, _] _ _) : SH _ _ _ [_, _, _, _, _] _ _)
  go_cut [12] (fun v w' => ∃ (told : List (List Int)) (J : Fp), As (Told told 2) ∧ told.length ≤ 6 ∧ As (SH No I w [MaT go own [] 2, MaT gm own told 2, Im kII A5 own, Im kII B ah, Im kII D be] w' J))
  case first =>
    go_wp2_with (first | ((first | (with_reducible refine wpl_seal S ?_) | (with_reducible refine cw_seal S ?_) | (with_reducible refine bp_seal S ?_) | (with_reducible refine ca_seal S ?_)); clear S; (try clear hc); intro w1 S; (try simp only [List.set_cons_zero, List.set_cons_succ, List.nil_append] at S); have hc := S.cells; simp only [Cells, cellsC, Im, Row, El, RTH, TreeH, TR, AU, AL, OrNil, Many, MaO, FlatO, Nat.zero_add, Nat.reduceAdd] at hc))
    go_loopw [12] (fun v w' => ∃ (k : Nat) (told : List (List Int)) (J : Fp), v = .int .i64 k ∧ k ≤ ah.length ∧ k ≤ 6 ∧ told.length = k ∧ As (Told told 2) ∧ As (SH No I w [MaT go own [] 2, MaT gm own told 2, Im kII A5 own, Im kII B ah, Im kII D be] w' J)) (fun v _ => ah.length - (intOf v).toNat)
    case atStart => exact ⟨0, [], _, rfl, by omega, by omega, rfl, ⟨Told.nil⟩, ⟨S⟩⟩
    case round =>
      clear S
      obtain ⟨k, told, J, rfl, hk, hk6, htl, HT, ⟨S⟩⟩ := hrel
      have HTL := As.mk htl
      have htl6 : told.length ≤ 6 := by omega
      clear htl
      have hc := S.cells; simp only [Cells, cellsC, Im, Row, El, RTH, TreeH, TR, AU, AL, OrNil, Many, MaO, FlatO, Nat.zero_add, Nat.reduceAdd] at hc
      by_cases hkl : k < ah.length
      · have hkl' : decide ((k : Int) < ah.length) = true := by simpa using hkl
        by_cases hkm : k < 6
        · have hkm' : decide ((k : Int) < 6) = true := by simp; omega
          obtain ⟨b, o, A3, c3, rfl, hcx, hc3, hs3⟩ := (S.im 3 rfl).sl_at hkl
          replace S := S.know (h := Im kI A3 ah[k]) hs3
          clear hs3
          generalize ah[k] = x at S hcx hc3
          have hc := S.cells; simp only [Cells, cellsC, Im, Row, El, RTH, TreeH, TR, AU, AL, OrNil, Many, MaO, FlatO, Nat.zero_add, Nat.reduceAdd] at hc
          go_wp2_with (first | ((first | (with_reducible refine wpl_seal S ?_) | (with_reducible refine cw_seal S ?_) | (with_reducible refine bp_seal S ?_) | (with_reducible refine ca_seal S ?_)); clear S; (try clear hc); intro w1 S; (try simp only [List.set_cons_zero, List.set_cons_succ, List.nil_append] at S); have hc := S.cells; simp only [Cells, cellsC, Im, Row, El, RTH, TreeH, TR, AU, AL, OrNil, Many, MaO, FlatO, Nat.zero_add, Nat.reduceAdd] at hc) | (go_at_call 12; refine (zrow_c x 2 (by omega) A3 c3 _ _ S.bd (S.im 0 rfl)).mono ?_; rintro e w1 ⟨g, rfl, hu⟩; obtain ⟨I1, S1, hI1⟩ := S.new hu; clear S hu hI1; (try clear hc); have S := S1; clear S1; have hc := S.cells; simp only [Cells, cellsC, Im, Row, El, RTH, TreeH, TR, AU, AL, OrNil, Many, MaO, FlatO, Nat.zero_add, Nat.reduceAdd] at hc; have hc := S.cells; simp only [Cells, cellsC, Im, Row, El, RTH, TreeH, TR, AU, AL, OrNil, Many, MaO, FlatO, Nat.zero_add, Nat.reduceAdd] at hc) | (go_at_call 11; refine (crow_t S 3 rfl _ 2 (S.im 0 rfl) (rowZ_len x 2) (fun y hy => by have := rowZ_mem hy; omega) (by omega) HF.out (by omega)).mono ?_; rintro e w1 ⟨g2, J5, rfl, S2⟩; clear S hc; have S := S2; clear S2; simp only [List.set_cons_zero, List.set_cons_succ, List.nil_append] at S; have hc := S.cells; simp only [Cells, cellsC, Im, Row, El, RTH, TreeH, TR, AU, AL, OrNil, Many, MaO, FlatO, Nat.zero_add, Nat.reduceAdd] at hc))
          go_roundw
          case rel => exact ⟨k + 1, told ++ [rowZ x 2], _, by go_num, by omega, by omega, by rw [List.length_append, HTL.out]; rfl, ⟨HT.out.rowZ x⟩, ⟨(S.sel [3, 4, 5, 6, 7] (by decide) rfl (by simp) : SH _ _ _ [_, _, _, _, _] _ _)⟩⟩
          case measure => simp [intOf]; omega
        · have hkm' : decide ((k : Int) < 6) = false := by simp; omega
          go_wp2_with (first | ((first | (with_reducible refine wpl_seal S ?_) | (with_reducible refine cw_seal S ?_) | (with_reducible refine bp_seal S ?_) | (with_reducible refine ca_seal S ?_)); clear S; (try clear hc); intro w1 S; (try simp only [List.set_cons_zero, List.set_cons_succ, List.nil_append] at S); have hc := S.cells; simp only [Cells, cellsC, Im, Row, El, RTH, TreeH, TR, AU, AL, OrNil, Many, MaO, FlatO, Nat.zero_add, Nat.reduceAdd] at hc))
          go_meet
          case rel => exact ⟨told, _, HT, by omega, ⟨by first | exact S | trivial⟩⟩
      · have hkl' : decide ((k : Int) < ah.length) = false := by simpa using hkl
        go_wp2_with (first | ((first | (with_reducible refine wpl_seal S ?_) | (with_reducible refine cw_seal S ?_) | (with_reducible refine bp_seal S ?_) | (with_reducible refine ca_seal S ?_)); clear S; (try clear hc); intro w1 S; (try simp only [List.set_cons_zero, List.set_cons_succ, List.nil_append] at S); have hc := S.cells; simp only [Cells, cellsC, Im, Row, El, RTH, TreeH, TR, AU, AL, OrNil, Many, MaO, FlatO, Nat.zero_add, Nat.reduceAdd] at hc))
        go_meet
        case rel => exact ⟨told, _, HT, by omega, ⟨by first | exact S | trivial⟩⟩
  case rest =>
    clear S
    obtain ⟨told, J, HT, htl, ⟨S⟩⟩ := hcut
    have HT2 : As (Told (told ++ [[-1, -1]]) 2) := ⟨HT.out.snoc rfl (by simp)⟩
    have HOB : As (outT own (told ++ [[-1, -1]]) 2 = [[], []]) := ⟨by
      have := outT_break own told []
      rw [List.append_nil] at this
      rw [this, outT_two]
      show [endsL own [], endsL own []] = _
      rw [endsL_nil HF.out.neW]⟩
    have HSB : As (stT (treeL own) (told ++ [[-1, -1]]) 2 = [0, 0]) := ⟨by
      have := stT_break (treeL own) told []
      rw [List.append_nil] at this
      rw [this, stT_nil]; rfl⟩
    have hc := S.cells; simp only [Cells, cellsC, Im, Row, El, RTH, TreeH, TR, AU, AL, OrNil, Many, MaO, FlatO, Nat.zero_add, Nat.reduceAdd] at hc
    go_upto_if 83 with (first | ((first | (with_reducible refine wpl_seal S ?_) | (with_reducible refine cw_seal S ?_) | (with_reducible refine bp_seal S ?_) | (with_reducible refine ca_seal S ?_)); clear S; (try clear hc); intro w1 S; (try simp only [List.set_cons_zero, List.set_cons_succ, List.nil_append] at S); have hc := S.cells; simp only [Cells, cellsC, Im, Row, El, RTH, TreeH, TR, AU, AL, OrNil, Many, MaO, FlatO, Nat.zero_add, Nat.reduceAdd] at hc) | (go_at_call 11; obtain ⟨J1, S1, -⟩ := S.lit 0 rfl (k := kI) (xs := [-1, -1]) (Flat.int.2 rfl); clear S hc; have S := S1; clear S1; simp only [List.set_cons_zero, List.set_cons_succ, List.nil_append] at S; refine (crow_t S 2 rfl _ 2 (S.im 0 rfl) rfl (by simp) (by omega) HF.out (by omega)).mono ?_; rw [HOB.out]; rintro e w1 ⟨g3, J, rfl, S2⟩; clear S; have S := S2; clear S2; simp only [List.set_cons_zero, List.set_cons_succ, List.nil_append] at S; have hc := S.cells; simp only [Cells, cellsC, Im, Row, El, RTH, TreeH, TR, AU, AL, OrNil, Many, MaO, FlatO, Nat.zero_add, Nat.reduceAdd] at hc) | (go_at_call 18; refine (cstates_r S 3 rfl (by rw [stT_len]; omega)).mono ?_; rw [HSB.out]; rintro e w1 ⟨v, rfl, hu⟩; obtain ⟨I1, S1, hI1⟩ := S.new hu; clear S hu hI1; (try clear hc); have S := S1; clear S1; have hc := S.cells; simp only [Cells, cellsC, Im, Row, El, RTH, TreeH, TR, AU, AL, OrNil, Many, MaO, FlatO, Nat.zero_add, Nat.reduceAdd] at hc; obtain ⟨A8, c8, I1, e1, hc8, S1, hI1⟩ := S.frow 0 rfl; subst e1; clear S hI1; have S := S1; clear S1; simp only [List.set_cons_zero, List.set_cons_succ, List.nil_append] at S; have hc := S.cells; simp only [Cells, cellsC, Im, Row, El, RTH, TreeH, TR, AU, AL, OrNil, Many, MaO, FlatO, Nat.zero_add, Nat.reduceAdd] at hc) | (go_at_call 15; obtain ⟨J7, S1, -⟩ := S.lit 0 rfl (k := kI) (xs := [0, 0]) (Flat.int.2 rfl); clear S hc; have S := S1; clear S1; simp only [List.set_cons_zero, List.set_cons_succ, List.nil_append] at S; refine (sameI_c [0, 0] [0, 0] A8 _ c8 2 _ _ _ (S.im 1 rfl) (S.im 0 rfl) (by simp)).mono ?_; rintro e w1 ⟨rfl, hx⟩; have hx := hx.ext; replace S := S.ext hx; clear hx; (try clear hc); have hc := S.cells; simp only [Cells, cellsC, Im, Row, El, RTH, TreeH, TR, AU, AL, OrNil, Many, MaO, FlatO, Nat.zero_add, Nat.reduceAdd] at hc))
    clear hc
    replace S := ((S.sel [2, 4, 5, 6, 7, 8] (by decide) rfl (by simp) : SH _ _ _ [_, _, _, _, _, _] _ _) : SH _ _ _ [_, _, _, _, _, _] _ _)
    obtain ⟨b7, o7, A7, c7, e7, hc0, -, -⟩ := im_at (S.im 0 rfl) 0 [] rfl
    cases e7
    obtain ⟨b7, o7, A7', c7', e7, hc1, -, -⟩ := im_at (S.im 0 rfl) 1 [] rfl
    cases e7
    rw [Nat.zero_add] at hc0 hc1
    have hc := S.cells; simp only [Cells, cellsC, Im, Row, El, RTH, TreeH, TR, AU, AL, OrNil, Many, MaO, FlatO, Nat.zero_add, Nat.reduceAdd] at hc
    go_wp2_with (first | ((first | (with_reducible refine wpl_seal S ?_) | (with_reducible refine cw_seal S ?_) | (with_reducible refine bp_seal S ?_) | (with_reducible refine ca_seal S ?_)); clear S; (try clear hc); intro w1 S; (try simp only [List.set_cons_zero, List.set_cons_succ, List.nil_append] at S); have hc := S.cells; simp only [Cells, cellsC, Im, Row, El, RTH, TreeH, TR, AU, AL, OrNil, Many, MaO, FlatO, Nat.zero_add, Nat.reduceAdd] at hc))
    have hq0 := ClE.cell (w := w1.drew) hc0
    have hq1 := ClE.cell (w := w1.drew) hc1
    refine wp_region_ext [] [0, 1, 2, 3, 4, 5, 6, 7, 8, 9] (by kernel_rfl) (by kernel_rfl) ?_
    refine mix_last rfl ?_
    simp only [opsAt, List.getD_cons_succ, List.getD_cons_zero]
    repeat (go_big_quiet_step ((intro hC; first | rfl | (go_simp; first | done | rfl))))
    refine wpQuiet_nil ?_
    simp only [calmQ]
    clear hq0 hq1 hc0 hc1 hc
    replace S := S.drew
    replace S := ((S.sel [1, 2, 3, 5] (by decide) rfl (by simp) : SH _ _ _ [_, _, _, _] _ _) : SH _ _ _ [_, _, _, _] _ _)
    generalize w1.drew = w1 at S ⊢
    have hc := S.cells; simp only [Cells, cellsC, Im, Row, El, RTH, TreeH, TR, AU, AL, OrNil, Many, MaO, FlatO, Nat.zero_add, Nat.reduceAdd] at hc
    go_wp2_with (first | ((first | (with_reducible refine wpl_seal S ?_) | (with_reducible refine cw_seal S ?_) | (with_reducible refine bp_seal S ?_) | (with_reducible refine ca_seal S ?_)); clear S; (try clear hc); intro w1 S; (try simp only [List.set_cons_zero, List.set_cons_succ, List.nil_append] at S); have hc := S.cells; simp only [Cells, cellsC, Im, Row, El, RTH, TreeH, TR, AU, AL, OrNil, Many, MaO, FlatO, Nat.zero_add, Nat.reduceAdd] at hc))
    clear hc
    go_loopw [15] (fun v w' => ∃ (k : Nat) (beh : List (List Int)) (J : Fp), v = .int .i64 k ∧ k ≤ be.length ∧ k ≤ 6 ∧ beh.length = k ∧ As (Told beh 2) ∧ As (SH No I w [MaT go own beh 2, MaT gm own (told ++ [[-1, -1]] ++ beh) 2, Im kII A5 own, Im kII D be] w' J)) (fun v _ => be.length - (intOf v).toNat)
    case atStart => exact ⟨0, [], _, rfl, by omega, by omega, rfl, ⟨Told.nil⟩, ⟨by rw [List.append_nil]; exact S⟩⟩
    case round =>
      clear S
      obtain ⟨k, beh, J, rfl, hk, hk6, hbl, HB, ⟨S⟩⟩ := hrel
      have HBL := As.mk hbl
      have hbl6 : beh.length ≤ 6 := by omega
      clear hbl
      have hc := S.cells; simp only [Cells, cellsC, Im, Row, El, RTH, TreeH, TR, AU, AL, OrNil, Many, MaO, FlatO, Nat.zero_add, Nat.reduceAdd] at hc
      by_cases hkl : k < be.length
      · have hkl' : decide ((k : Int) < be.length) = true := by simpa using hkl
        by_cases hkm : k < 6
        · have hkm' : decide ((k : Int) < 6) = true := by simp; omega
          obtain ⟨b, o, A3, c3, rfl, hcx, hc3, hs3⟩ := (S.im 3 rfl).sl_at hkl
          replace S := S.know (h := Im kI A3 be[k]) hs3
          clear hs3
          generalize be[k] = x at S hcx hc3
          have HO := As.mk (outT_two own (beh ++ [rowZ x 2]))
          have HAS : As (told ++ [[-1, -1]] ++ beh ++ [rowZ x 2] = told ++ [[-1, -1]] ++ (beh ++ [rowZ x 2])) := ⟨List.append_assoc _ _ _⟩
          have HBO := As.mk (outT_break own told (beh ++ [rowZ x 2]))
          have HBS := As.mk (stT_break (treeL own) told (beh ++ [rowZ x 2]))
          have hl0 := endsL_len own (sinceL (beh ++ [rowZ x 2]) 0)
          have hl1 := endsL_len own (sinceL (beh ++ [rowZ x 2]) 1)
          generalize endsL own (sinceL (beh ++ [rowZ x 2]) 0) = E0 at HO hl0
          generalize endsL own (sinceL (beh ++ [rowZ x 2]) 1) = E1 at HO hl1
          rw [HO.out] at HBO
          have hml : (told ++ [[-1, -1]] ++ beh).length ≤ 20 := by simp; omega
          have hm1 : True := trivial
          have hm2 : True := trivial
          have hc := S.cells; simp only [Cells, cellsC, Im, Row, El, RTH, TreeH, TR, AU, AL, OrNil, Many, MaO, FlatO, Nat.zero_add, Nat.reduceAdd] at hc
          go_wp2_with (first | ((first | (with_reducible refine wpl_seal S ?_) | (with_reducible refine cw_seal S ?_) | (with_reducible refine bp_seal S ?_) | (with_reducible refine ca_seal S ?_)); clear S; (try clear hc); intro w1 S; (try simp only [List.set_cons_zero, List.set_cons_succ, List.nil_append] at S); have hc := S.cells; simp only [Cells, cellsC, Im, Row, El, RTH, TreeH, TR, AU, AL, OrNil, Many, MaO, FlatO, Nat.zero_add, Nat.reduceAdd] at hc) | (go_at_call 12; refine (zrow_c x 2 (by omega) A3 c3 _ _ S.bd (S.im 0 rfl)).mono ?_; rintro e w1 ⟨g, rfl, hu⟩; obtain ⟨I1, S1, hI1⟩ := S.new hu; clear S hu hI1; (try clear hc); have S := S1; clear S1; have hc := S.cells; simp only [Cells, cellsC, Im, Row, El, RTH, TreeH, TR, AU, AL, OrNil, Many, MaO, FlatO, Nat.zero_add, Nat.reduceAdd] at hc; have hc := S.cells; simp only [Cells, cellsC, Im, Row, El, RTH, TreeH, TR, AU, AL, OrNil, Many, MaO, FlatO, Nat.zero_add, Nat.reduceAdd] at hc) | (go_at_call 11; clear hm1; refine (crow_t S 3 rfl _ 2 (S.im 0 rfl) (rowZ_len x 2) (fun y hy => by have := rowZ_mem hy; omega) (by omega) HF.out (by omega)).mono ?_; rw [HAS.out, HBO.out]; rintro e w1 ⟨ga, J5, rfl, S2⟩; clear S hc; have S := S2; clear S2; simp only [List.set_cons_zero, List.set_cons_succ, List.nil_append] at S; have hc := S.cells; simp only [Cells, cellsC, Im, Row, El, RTH, TreeH, TR, AU, AL, OrNil, Many, MaO, FlatO, Nat.zero_add, Nat.reduceAdd] at hc) | (go_at_call 11; clear hm2; refine (crow_t S 3 rfl _ 2 (S.im 1 rfl) (rowZ_len x 2) (fun y hy => by have := rowZ_mem hy; omega) (by omega) HF.out (by omega)).mono ?_; rw [HO.out]; rintro e w1 ⟨gb, J5, rfl, S2⟩; clear S hc; have S := S2; clear S2; simp only [List.set_cons_zero, List.set_cons_succ, List.nil_append] at S; have hc := S.cells; simp only [Cells, cellsC, Im, Row, El, RTH, TreeH, TR, AU, AL, OrNil, Many, MaO, FlatO, Nat.zero_add, Nat.reduceAdd] at hc))
          clear hc hcx hc3
          replace S := ((S.sel [0, 1, 4, 5, 6, 7] (by decide) rfl (by simp) : SH _ _ _ [_, _, _, _, _, _] _ _) : SH _ _ _ [_, _, _, _, _, _] _ _)
          obtain ⟨b7, o7, Ab, cb, e7, hcb, hlb, hsb⟩ := im_at (S.im 0 rfl) 0 E0 rfl
          cases e7
          obtain ⟨b7, o7, Aa, ca, e7, hca, hla, hsa⟩ := im_at (S.im 1 rfl) 0 E0 rfl
          cases e7
          rw [Nat.zero_add] at hca hcb
          replace S := (S.know (h := Im kI Aa E0) hsa).know (h := Im kI Ab E0) hsb
          clear hsa hsb
          have hq0 := ClE.cell (w := w1.drew) hca
          have hq1 := ClE.cell (w := w1.drew) hcb
          refine wp_region_ext [⟨[0, 1, 2, 3, 4, 5], [], 6, false⟩, ⟨[7, 8, 9, 10, 11, 12, 13, 14], [], 15, false⟩, ⟨[16, 17, 18, 19], [21], 20, false⟩, ⟨[], [], 22, false⟩, ⟨[], [], 23, false⟩] [24, 25] (by kernel_rfl) (by kernel_rfl) ?_
          refine mix_cons rfl rfl rfl ?_
          simp only [opsAt, List.getD_cons_succ, List.getD_cons_zero]
          repeat (go_big_quiet_step ((intro hC; first | rfl | (go_simp; first | done | rfl))))
          refine wpQuiet_nil ?_
          repeat (go_big_quiet_step ((intro hC; first | rfl | (go_simp; first | done | rfl))))
          refine wpQuiet_nil ?_
          clear hq0 hq1 hca hcb
          replace S := S.drew
          generalize w1.drew = w1 at S ⊢
          have hc := S.cells; simp only [Cells, cellsC, Im, Row, El, RTH, TreeH, TR, AU, AL, OrNil, Many, MaO, FlatO, Nat.zero_add, Nat.reduceAdd] at hc
          have hm1 : True := trivial
          have hm2 : True := trivial
          go_wp2_with (first | ((first | (with_reducible refine mx_seal S ?_) | (with_reducible refine wpl_seal S ?_) | (with_reducible refine ca_seal S ?_)); clear S; (try clear hc); intro w1 S; (try simp only [List.set_cons_zero, List.set_cons_succ, List.nil_append] at S); have hc := S.cells; simp only [Cells, cellsC, Im, Row, El, RTH, TreeH, TR, AU, AL, OrNil, Many, MaO, FlatO, Nat.zero_add, Nat.reduceAdd] at hc) | (go_at_call 15; refine (sameI_e E0 Aa Ab ca cb _ _ _ (S.im 1 rfl) (S.im 0 rfl) (by omega)).mono ?_; rintro e w1 ⟨rfl, hx⟩; have hx := hx.ext; replace S := S.ext hx; clear hx; (try clear hc); have hc := S.cells; simp only [Cells, cellsC, Im, Row, El, RTH, TreeH, TR, AU, AL, OrNil, Many, MaO, FlatO, Nat.zero_add, Nat.reduceAdd] at hc))
          (first | refine ⟨(fun h => by cases h), ?_⟩ | skip); (first | ((first | (with_reducible refine mx_seal S ?_)); clear S; (try clear hc); intro w1 S; (try simp only [List.set_cons_zero, List.set_cons_succ, List.nil_append] at S); have hc := S.cells; simp only [Cells, cellsC, Im, Row, El, RTH, TreeH, TR, AU, AL, OrNil, Many, MaO, FlatO, Nat.zero_add, Nat.reduceAdd] at hc) | skip); (try simp only [Act.put, List.setIfInBounds_toArray, List.set_cons_succ, List.set_cons_zero])
          obtain ⟨b7, o7, Ad, cd, e7, hcd, hld, hsd⟩ := im_at (S.im 2 rfl) 1 E1 rfl
          cases e7
          obtain ⟨b7, o7, Ac, cc, e7, hcc, hlc, hsc⟩ := im_at (S.im 3 rfl) 1 E1 rfl
          cases e7
          rw [Nat.zero_add] at hcc hcd
          replace S := (S.know (h := Im kI Ac E1) hsc).know (h := Im kI Ad E1) hsd
          clear hsc hsd
          have hq0 := ClE.cell (w := w1) hcc
          have hq1 := ClE.cell (w := w1) hcd
          refine mix_cons rfl rfl rfl ?_
          simp only [opsAt, List.getD_cons_succ, List.getD_cons_zero]
          repeat (go_big_quiet_step ((intro hC; first | rfl | (go_simp; first | done | rfl))))
          refine wpQuiet_nil ?_
          repeat (go_big_quiet_step ((intro hC; first | rfl | (go_simp; first | done | rfl))))
          refine wpQuiet_nil ?_
          clear hq0 hq1 hcc hcd
          go_wp2_with (first | ((first | (with_reducible refine mx_seal S ?_) | (with_reducible refine wpl_seal S ?_) | (with_reducible refine ca_seal S ?_)); clear S; (try clear hc); intro w1 S; (try simp only [List.set_cons_zero, List.set_cons_succ, List.nil_append] at S); have hc := S.cells; simp only [Cells, cellsC, Im, Row, El, RTH, TreeH, TR, AU, AL, OrNil, Many, MaO, FlatO, Nat.zero_add, Nat.reduceAdd] at hc) | (go_at_call 15; refine (sameI_e E1 Ac Ad cc cd _ _ _ (S.im 1 rfl) (S.im 0 rfl) (by omega)).mono ?_; rintro e w1 ⟨rfl, hx⟩; have hx := hx.ext; replace S := S.ext hx; clear hx; (try clear hc); have hc := S.cells; simp only [Cells, cellsC, Im, Row, El, RTH, TreeH, TR, AU, AL, OrNil, Many, MaO, FlatO, Nat.zero_add, Nat.reduceAdd] at hc))
          (first | refine ⟨(fun h => by cases h), ?_⟩ | skip); (first | ((first | (with_reducible refine mx_seal S ?_)); clear S; (try clear hc); intro w1 S; (try simp only [List.set_cons_zero, List.set_cons_succ, List.nil_append] at S); have hc := S.cells; simp only [Cells, cellsC, Im, Row, El, RTH, TreeH, TR, AU, AL, OrNil, Many, MaO, FlatO, Nat.zero_add, Nat.reduceAdd] at hc) | skip); (try simp only [Act.put, List.setIfInBounds_toArray, List.set_cons_succ, List.set_cons_zero])
          refine mix_cons rfl rfl rfl ?_
          simp only [opsAt, List.getD_cons_succ, List.getD_cons_zero]
          repeat (go_big_quiet_step ((intro hC; first | rfl | (go_simp; first | done | rfl))))
          refine wpQuiet_nil ?_
          repeat (go_big_quiet_step ((intro hC; first | rfl | (go_simp; first | done | rfl))))
          refine wpQuiet_nil ?_
          obtain ⟨ST, hST⟩ : ∃ ST, stT (treeL own) (beh ++ [rowZ x 2]) 2 = ST := ⟨_, rfl⟩
          have HST := As.mk hST
          have hSl : ST.length ≤ 10 := by rw [← hST, stT_len]; omega
          rw [hST] at HBS
          clear hST
          go_wp2_with (first | ((first | (with_reducible refine mx_seal S ?_) | (with_reducible refine wpl_seal S ?_) | (with_reducible refine ca_seal S ?_)); clear S; (try clear hc); intro w1 S; (try simp only [List.set_cons_zero, List.set_cons_succ, List.nil_append] at S); have hc := S.cells; simp only [Cells, cellsC, Im, Row, El, RTH, TreeH, TR, AU, AL, OrNil, Many, MaO, FlatO, Nat.zero_add, Nat.reduceAdd] at hc) | (go_at_call 18; refine (cstates_r S 7 rfl (by rw [stT_len]; omega)).mono ?_; rw [HBS.out]; rintro e w1 ⟨v, rfl, hu⟩; obtain ⟨I1, S1, hI1⟩ := S.new hu; clear S hu hI1; (try clear hc); have S := S1; clear S1; have hc := S.cells; simp only [Cells, cellsC, Im, Row, El, RTH, TreeH, TR, AU, AL, OrNil, Many, MaO, FlatO, Nat.zero_add, Nat.reduceAdd] at hc; obtain ⟨A8, c8, I1, e1, hc8, S1, hI1⟩ := S.frow 0 rfl; subst e1; clear S hI1; have S := S1; clear S1; simp only [List.set_cons_zero, List.set_cons_succ, List.nil_append] at S; have hc := S.cells; simp only [Cells, cellsC, Im, Row, El, RTH, TreeH, TR, AU, AL, OrNil, Many, MaO, FlatO, Nat.zero_add, Nat.reduceAdd] at hc))
          (first | refine ⟨(fun h => by cases h), ?_⟩ | skip); (first | ((first | (with_reducible refine mx_seal S ?_)); clear S; (try clear hc); intro w1 S; (try simp only [List.set_cons_zero, List.set_cons_succ, List.nil_append] at S); have hc := S.cells; simp only [Cells, cellsC, Im, Row, El, RTH, TreeH, TR, AU, AL, OrNil, Many, MaO, FlatO, Nat.zero_add, Nat.reduceAdd] at hc) | skip); (try simp only [Act.put, List.setIfInBounds_toArray, List.set_cons_succ, List.set_cons_zero])
          refine mix_cons rfl rfl rfl ?_
          simp only [opsAt, List.getD_cons_succ, List.getD_cons_zero]
          repeat (go_big_quiet_step ((intro hC; first | rfl | (go_simp; first | done | rfl))))
          refine wpQuiet_nil ?_
          repeat (go_big_quiet_step ((intro hC; first | rfl | (go_simp; first | done | rfl))))
          refine wpQuiet_nil ?_
          go_wp2_with (first | ((first | (with_reducible refine mx_seal S ?_) | (with_reducible refine wpl_seal S ?_) | (with_reducible refine ca_seal S ?_)); clear S; (try clear hc); intro w1 S; (try simp only [List.set_cons_zero, List.set_cons_succ, List.nil_append] at S); have hc := S.cells; simp only [Cells, cellsC, Im, Row, El, RTH, TreeH, TR, AU, AL, OrNil, Many, MaO, FlatO, Nat.zero_add, Nat.reduceAdd] at hc) | (go_at_call 18; refine (cstates_r S 7 rfl (by rw [stT_len]; omega)).mono ?_; rw [HST.out]; rintro e w1 ⟨v, rfl, hu⟩; obtain ⟨I1, S1, hI1⟩ := S.new hu; clear S hu hI1; (try clear hc); have S := S1; clear S1; have hc := S.cells; simp only [Cells, cellsC, Im, Row, El, RTH, TreeH, TR, AU, AL, OrNil, Many, MaO, FlatO, Nat.zero_add, Nat.reduceAdd] at hc; obtain ⟨A9, c9, I1, e1, hc9, S1, hI1⟩ := S.frow 0 rfl; subst e1; clear S hI1; have S := S1; clear S1; simp only [List.set_cons_zero, List.set_cons_succ, List.nil_append] at S; have hc := S.cells; simp only [Cells, cellsC, Im, Row, El, RTH, TreeH, TR, AU, AL, OrNil, Many, MaO, FlatO, Nat.zero_add, Nat.reduceAdd] at hc))
          (first | refine ⟨(fun h => by cases h), ?_⟩ | skip); (first | ((first | (with_reducible refine mx_seal S ?_)); clear S; (try clear hc); intro w1 S; (try simp only [List.set_cons_zero, List.set_cons_succ, List.nil_append] at S); have hc := S.cells; simp only [Cells, cellsC, Im, Row, El, RTH, TreeH, TR, AU, AL, OrNil, Many, MaO, FlatO, Nat.zero_add, Nat.reduceAdd] at hc) | skip); (try simp only [Act.put, List.setIfInBounds_toArray, List.set_cons_succ, List.set_cons_zero])
          refine mix_cons rfl rfl rfl ?_
          simp only [opsAt, List.getD_cons_succ, List.getD_cons_zero]
          repeat (go_big_quiet_step ((intro hC; first | rfl | (go_simp; first | done | rfl))))
          refine wpQuiet_nil ?_
          repeat (go_big_quiet_step ((intro hC; first | rfl | (go_simp; first | done | rfl))))
          refine wpQuiet_nil ?_
          go_wp2_with (first | ((first | (with_reducible refine mx_seal S ?_) | (with_reducible refine wpl_seal S ?_) | (with_reducible refine ca_seal S ?_)); clear S; (try clear hc); intro w1 S; (try simp only [List.set_cons_zero, List.set_cons_succ, List.nil_append] at S); have hc := S.cells; simp only [Cells, cellsC, Im, Row, El, RTH, TreeH, TR, AU, AL, OrNil, Many, MaO, FlatO, Nat.zero_add, Nat.reduceAdd] at hc) | (go_at_call 15; refine (sameI_e ST A8 A9 c8 c9 _ _ _ (S.im 1 rfl) (S.im 0 rfl) (by omega)).mono ?_; rintro e w1 ⟨rfl, hx⟩; have hx := hx.ext; replace S := S.ext hx; clear hx; (try clear hc); have hc := S.cells; simp only [Cells, cellsC, Im, Row, El, RTH, TreeH, TR, AU, AL, OrNil, Many, MaO, FlatO, Nat.zero_add, Nat.reduceAdd] at hc))
          (first | refine ⟨(fun h => by cases h), ?_⟩ | skip); (first | ((first | (with_reducible refine mx_seal S ?_)); clear S; (try clear hc); intro w1 S; (try simp only [List.set_cons_zero, List.set_cons_succ, List.nil_append] at S); have hc := S.cells; simp only [Cells, cellsC, Im, Row, El, RTH, TreeH, TR, AU, AL, OrNil, Many, MaO, FlatO, Nat.zero_add, Nat.reduceAdd] at hc) | skip); (try simp only [Act.put, List.setIfInBounds_toArray, List.set_cons_succ, List.set_cons_zero])
          refine mix_last rfl ?_
          simp only [opsAt, List.getD_cons_succ, List.getD_cons_zero]
          repeat (go_big_quiet_step ((intro hC; first | rfl | (go_simp; first | done | rfl))))
          refine wpQuiet_nil ?_
          simp only [calmQ]
          have hc := S.cells; simp only [Cells, cellsC, Im, Row, El, RTH, TreeH, TR, AU, AL, OrNil, Many, MaO, FlatO, Nat.zero_add, Nat.reduceAdd] at hc
          go_wp2_with (first | ((first | (with_reducible refine wpl_seal S ?_) | (with_reducible refine cw_seal S ?_) | (with_reducible refine bp_seal S ?_) | (with_reducible refine ca_seal S ?_)); clear S; (try clear hc); intro w1 S; (try simp only [List.set_cons_zero, List.set_cons_succ, List.nil_append] at S); have hc := S.cells; simp only [Cells, cellsC, Im, Row, El, RTH, TreeH, TR, AU, AL, OrNil, Many, MaO, FlatO, Nat.zero_add, Nat.reduceAdd] at hc))
          go_roundw
          case rel => exact ⟨k + 1, beh ++ [rowZ x 2], _, by go_num, by omega, by omega, by rw [List.length_append, HBL.out]; rfl, ⟨HB.out.rowZ x⟩, ⟨(S.sel [8, 9, 10, 11] (by decide) rfl (by simp) : SH _ _ _ [_, _, _, _] _ _)⟩⟩
          case measure => simp [intOf]; omega
        · have hkm' : decide ((k : Int) < 6) = false := by simp; omega
          go_wp2_with (first | ((first | (with_reducible refine wpl_seal S ?_) | (with_reducible refine cw_seal S ?_) | (with_reducible refine bp_seal S ?_) | (with_reducible refine ca_seal S ?_)); clear S; (try clear hc); intro w1 S; (try simp only [List.set_cons_zero, List.set_cons_succ, List.nil_append] at S); have hc := S.cells; simp only [Cells, cellsC, Im, Row, El, RTH, TreeH, TR, AU, AL, OrNil, Many, MaO, FlatO, Nat.zero_add, Nat.reduceAdd] at hc) | (go_at_call 13; refine (lives17_c _ _ S.bd).mono ?_; rintro e w1 ⟨rfl, hx⟩; replace S := S.ext hx; clear hx; (try clear hc); have hc := S.cells; simp only [Cells, cellsC, Im, Row, El, RTH, TreeH, TR, AU, AL, OrNil, Many, MaO, FlatO, Nat.zero_add, Nat.reduceAdd] at hc))
          go_ret
          exact ⟨rfl, S.out⟩
      · have hkl' : decide ((k : Int) < be.length) = false := by simpa using hkl
        go_wp2_with (first | ((first | (with_reducible refine wpl_seal S ?_) | (with_reducible refine cw_seal S ?_) | (with_reducible refine bp_seal S ?_) | (with_reducible refine ca_seal S ?_)); clear S; (try clear hc); intro w1 S; (try simp only [List.set_cons_zero, List.set_cons_succ, List.nil_append] at S); have hc := S.cells; simp only [Cells, cellsC, Im, Row, El, RTH, TreeH, TR, AU, AL, OrNil, Many, MaO, FlatO, Nat.zero_add, Nat.reduceAdd] at hc) | (go_at_call 13; refine (lives17_c _ _ S.bd).mono ?_; rintro e w1 ⟨rfl, hx⟩; replace S := S.ext hx; clear hx; (try clear hc); have hc := S.cells; simp only [Cells, cellsC, Im, Row, El, RTH, TreeH, TR, AU, AL, OrNil, Many, MaO, FlatO, Nat.zero_add, Nat.reduceAdd] at hc))
        go_ret
        exact ⟨rfl, S.out⟩
end Go.Proofs.Ytpgphhkhjbhimaa
