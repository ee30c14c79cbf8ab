/- ColsResets: the law's walk. -/
import Derived.Test.YtpgphhkhjbhimaaCRes
import Derived.Test.YtpgphhkhjbhimaaKPl
import Derived.Deep.DeepCutAuto
import Derived.Deep.CutBlock
namespace Go.Proofs.Ytpgphhkhjbhimaa
open Go.RowKit X
set_option maxHeartbeats 4000000
set_option maxRecDepth 8000
set_option linter.unusedSimpArgs false
set_option linter.unusedVariables false
theorem creset_t {F0 I0 I : Fp} {w0 w : World} {O : List Ob} {own told : List (List Int)} {gm n : Nat} (S : SH F0 I0 w0 O w I) (i : Nat) (e : O[i]? = some (MaT gm own told n)) (p : Nat) (hp : p ≤ 4096) (hn : n ≤ 4096) :
    Calls Try.prog 25 #[.pointer (some ⟨gm, 0, none⟩), .int .i64 p] w fun e w' => ∃ J, e = .returned (.int .i64 0) ∧ SH F0 I0 w0 (O.set i (MaT gm own [] p)) w' J := by
  have h := creset_r S i e p hp (by rw [stT_len]; exact hn)
  rw [← stT_nil (L := treeL own)] at h
  exact h
theorem kresets_c (cs ah be : List (List Int)) (pa pb pn : Int) (ha : I64 pa) (hb : I64 pb) (A B D : Option Addr) (c d f : Nat) (w : World) (I : Fp) (hI : ∀ b, I b → b < w.heap.size) (hx : Sl kII w I A cs) (hy : Sl kII w I B ah) (hz : Sl kII w I D be) :
    Calls Try.prog 8 #[.slice A cs.length c, .int .i64 pa, .int .i64 pb, .slice B ah.length d, .slice D be.length f, .int .i64 pn] w fun e w' => e = .returned (.bool true) ∧ Ext w w' := by
  have S := (((SH.start w I hI).know (h := Im kII D be) hz).know (h := Im kII B ah) hy).know (h := Im kII A cs) hx
  clear hx hy hz
  have HF := As.mk (smallZ_few cs)
  obtain ⟨own, hown⟩ : ∃ own, smallZ (cs.take 6) = own := ⟨_, rfl⟩
  have HOW := As.mk hown
  rw [hown] at HF
  clear hown
  have hol := HF.out.len
  obtain ⟨p, hp, hp7⟩ : ∃ n : Nat, aroundI pa 7 = n ∧ n < 7 := ⟨(aroundI pa 7).toNat, by have := aroundI_range (n := pa) (m := 7) (by omega); omega, by have := aroundI_range (n := pa) (m := 7) (by omega); omega⟩
  have HP := As.mk hp
  obtain ⟨n, hn, hn7⟩ : ∃ n : Nat, aroundI pb 7 = n ∧ n < 7 := ⟨(aroundI pb 7).toNat, by have := aroundI_range (n := pb) (m := 7) (by omega); omega, by have := aroundI_range (n := pb) (m := 7) (by omega); omega⟩
  have HN := As.mk hn
  clear hp hn
  have hm1 : True := trivial
  have hm2 : True := trivial
  have hc := S.cells; simp only [Cells, cellsC, Im, Row, El, RTH, TreeH, TR, AU, AL, OrNil, Many, MaO, FlatO, Nat.zero_add, Nat.reduceAdd] at hc
  go_enter Try.func8, Try.ntmps8
  go_upto_block 0 with (first | ((first | (with_reducible refine wpl_seal S ?_) | (with_reducible refine cw_seal S ?_) | (with_reducible refine bp_seal S ?_) | (with_reducible refine ca_seal S ?_)); clear S; (try clear hc); intro w1 S; (try simp only [List.set_cons_zero, List.set_cons_succ, List.nil_append] at S); have hc := S.cells; simp only [Cells, cellsC, Im, Row, El, RTH, TreeH, TR, AU, AL, OrNil, Many, MaO, FlatO, Nat.zero_add, Nat.reduceAdd] at hc) | (go_at_call 9; refine (zsmall_c cs A c _ _ S.bd (S.im 0 rfl)).mono ?_; rw [HOW.out]; rintro e w1 ⟨v, rfl, hu⟩; obtain ⟨I1, S1, hI1⟩ := S.new hu; clear S hu hI1; (try clear hc); have S := S1; clear S1; have hc := S.cells; simp only [Cells, cellsC, Im, Row, El, RTH, TreeH, TR, AU, AL, OrNil, Many, MaO, FlatO, Nat.zero_add, Nat.reduceAdd] at hc; obtain ⟨A5, c5, I1, e1, hc5, S1, hI1⟩ := S.frow 0 rfl; subst e1; clear S hI1; have S := S1; clear S1; simp only [List.set_cons_zero, List.set_cons_succ, List.nil_append] at S; have hc := S.cells; simp only [Cells, cellsC, Im, Row, El, RTH, TreeH, TR, AU, AL, OrNil, Many, MaO, FlatO, Nat.zero_add, Nat.reduceAdd] at hc) | (go_at_call 19; clear hm1; refine (around_c pa 7 _ ha (by omega) (by omega)).mono ?_; rw [HP.out]; rintro e w1 ⟨rfl, rfl⟩) | (go_at_call 19; clear hm2; refine (around_c pb 7 _ hb (by omega) (by omega)).mono ?_; rw [HN.out]; rintro e w1 ⟨rfl, rfl⟩) | (go_at_call 10; refine (cnew_t S own p (by omega) A5 c5 (S.im 0 rfl) HF.out).mono ?_; rintro e w1 ⟨gm, J1, rfl, S2⟩; clear S hc; have S := S2; clear S2; have hc := S.cells; simp only [Cells, cellsC, Im, Row, El, RTH, TreeH, TR, AU, AL, OrNil, Many, MaO, FlatO, Nat.zero_add, Nat.reduceAdd] at hc))
  clear hc
  replace S := ((S.sel [0, 1, 3, 4] (by decide) rfl (by simp) : SH _ _ _ [_, _, _, _] _ _) : SH _ _ _ [_, _, _, _] _ _)
  go_cut [18] (fun v w' => ∃ (told : List (List Int)) (J : Fp), As (Told told p) ∧ told.length ≤ 6 ∧ As (SH No I w [MaT gm own told p, Im kII A5 own, Im kII B ah, Im kII D be] w' J))
  case first =>
    go_wp2_with (first | ((first | (with_reducible refine wpl_seal S ?_) | (with_reducible refine cw_seal S ?_) | (with_reducible refine bp_seal S ?_) | (with_reducible refine ca_seal S ?_)); clear S; (try clear hc); intro w1 S; (try simp only [List.set_cons_zero, List.set_cons_succ, List.nil_append] at S); have hc := S.cells; simp only [Cells, cellsC, Im, Row, El, RTH, TreeH, TR, AU, AL, OrNil, Many, MaO, FlatO, Nat.zero_add, Nat.reduceAdd] at hc))
    go_loopw [18] (fun v w' => ∃ (k : Nat) (told : List (List Int)) (J : Fp), v = .int .i64 k ∧ k ≤ ah.length ∧ k ≤ 6 ∧ told.length = k ∧ As (Told told p) ∧ As (SH No I w [MaT gm own told p, Im kII A5 own, Im kII B ah, Im kII D be] w' J)) (fun v _ => ah.length - (intOf v).toNat)
    case atStart => exact ⟨0, [], _, rfl, by omega, by omega, rfl, ⟨Told.nil⟩, ⟨S⟩⟩
    case round =>
      clear S
      obtain ⟨k, told, J, rfl, hk, hk6, htl, HT, ⟨S⟩⟩ := hrel
      have HTL := As.mk htl
      have htl6 : told.length ≤ 6 := by omega
      clear htl
      have hc := S.cells; simp only [Cells, cellsC, Im, Row, El, RTH, TreeH, TR, AU, AL, OrNil, Many, MaO, FlatO, Nat.zero_add, Nat.reduceAdd] at hc
      by_cases hkl : k < ah.length
      · have hkl' : decide ((k : Int) < ah.length) = true := by simpa using hkl
        by_cases hkm : k < 6
        · have hkm' : decide ((k : Int) < 6) = true := by simp; omega
          obtain ⟨b, o, A3, c3, rfl, hcx, hc3, hs3⟩ := (S.im 2 rfl).sl_at hkl
          replace S := S.know (h := Im kI A3 ah[k]) hs3
          clear hs3
          generalize ah[k] = x at S hcx hc3
          have hc := S.cells; simp only [Cells, cellsC, Im, Row, El, RTH, TreeH, TR, AU, AL, OrNil, Many, MaO, FlatO, Nat.zero_add, Nat.reduceAdd] at hc
          go_wp2_with (first | ((first | (with_reducible refine wpl_seal S ?_) | (with_reducible refine cw_seal S ?_) | (with_reducible refine bp_seal S ?_) | (with_reducible refine ca_seal S ?_)); clear S; (try clear hc); intro w1 S; (try simp only [List.set_cons_zero, List.set_cons_succ, List.nil_append] at S); have hc := S.cells; simp only [Cells, cellsC, Im, Row, El, RTH, TreeH, TR, AU, AL, OrNil, Many, MaO, FlatO, Nat.zero_add, Nat.reduceAdd] at hc) | (go_at_call 12; refine (zrow_c x p (by omega) A3 c3 _ _ S.bd (S.im 0 rfl)).mono ?_; rintro e w1 ⟨g, rfl, hu⟩; obtain ⟨I1, S1, hI1⟩ := S.new hu; clear S hu hI1; (try clear hc); have S := S1; clear S1; have hc := S.cells; simp only [Cells, cellsC, Im, Row, El, RTH, TreeH, TR, AU, AL, OrNil, Many, MaO, FlatO, Nat.zero_add, Nat.reduceAdd] at hc; have hc := S.cells; simp only [Cells, cellsC, Im, Row, El, RTH, TreeH, TR, AU, AL, OrNil, Many, MaO, FlatO, Nat.zero_add, Nat.reduceAdd] at hc) | (go_at_call 11; refine (crow_t S 2 rfl _ p (S.im 0 rfl) (rowZ_len x p) (fun y hy => by have := rowZ_mem hy; omega) (by omega) HF.out (by omega)).mono ?_; rintro e w1 ⟨g2, J5, rfl, S2⟩; clear S hc; have S := S2; clear S2; simp only [List.set_cons_zero, List.set_cons_succ, List.nil_append] at S; have hc := S.cells; simp only [Cells, cellsC, Im, Row, El, RTH, TreeH, TR, AU, AL, OrNil, Many, MaO, FlatO, Nat.zero_add, Nat.reduceAdd] at hc))
          go_roundw
          case rel => exact ⟨k + 1, told ++ [rowZ x p], _, by go_num, by omega, by omega, by rw [List.length_append, HTL.out]; rfl, ⟨HT.out.rowZ x⟩, ⟨(S.sel [3, 4, 5, 6] (by decide) rfl (by simp) : SH _ _ _ [_, _, _, _] _ _)⟩⟩
          case measure => simp [intOf]; omega
        · have hkm' : decide ((k : Int) < 6) = false := by simp; omega
          go_wp2_with (first | ((first | (with_reducible refine wpl_seal S ?_) | (with_reducible refine cw_seal S ?_) | (with_reducible refine bp_seal S ?_) | (with_reducible refine ca_seal S ?_)); clear S; (try clear hc); intro w1 S; (try simp only [List.set_cons_zero, List.set_cons_succ, List.nil_append] at S); have hc := S.cells; simp only [Cells, cellsC, Im, Row, El, RTH, TreeH, TR, AU, AL, OrNil, Many, MaO, FlatO, Nat.zero_add, Nat.reduceAdd] at hc))
          go_meet
          case rel => exact ⟨told, _, HT, by omega, ⟨by first | exact S | trivial⟩⟩
      · have hkl' : decide ((k : Int) < ah.length) = false := by simpa using hkl
        go_wp2_with (first | ((first | (with_reducible refine wpl_seal S ?_) | (with_reducible refine cw_seal S ?_) | (with_reducible refine bp_seal S ?_) | (with_reducible refine ca_seal S ?_)); clear S; (try clear hc); intro w1 S; (try simp only [List.set_cons_zero, List.set_cons_succ, List.nil_append] at S); have hc := S.cells; simp only [Cells, cellsC, Im, Row, El, RTH, TreeH, TR, AU, AL, OrNil, Many, MaO, FlatO, Nat.zero_add, Nat.reduceAdd] at hc))
        go_meet
        case rel => exact ⟨told, _, HT, by omega, ⟨by first | exact S | trivial⟩⟩
  case rest =>
    clear S
    obtain ⟨told0, J, HT0, htl0, ⟨S⟩⟩ := hcut
    obtain ⟨ST, hST⟩ : ∃ ST, stT (treeL own) told0 p = ST := ⟨_, rfl⟩
    have HST := As.mk hST
    have hSl : ST.length ≤ 10 := by rw [← hST, stT_len]; omega
    clear hST
    have hm1 : True := trivial
    have hm2 : True := trivial
    have hm3 : True := trivial
    have hm4 : True := trivial
    have hc := S.cells; simp only [Cells, cellsC, Im, Row, El, RTH, TreeH, TR, AU, AL, OrNil, Many, MaO, FlatO, Nat.zero_add, Nat.reduceAdd] at hc
    go_upto_region 14 with (first | ((first | (with_reducible refine wpl_seal S ?_) | (with_reducible refine cw_seal S ?_) | (with_reducible refine bp_seal S ?_) | (with_reducible refine ca_seal S ?_)); clear S; (try clear hc); intro w1 S; (try simp only [List.set_cons_zero, List.set_cons_succ, List.nil_append] at S); have hc := S.cells; simp only [Cells, cellsC, Im, Row, El, RTH, TreeH, TR, AU, AL, OrNil, Many, MaO, FlatO, Nat.zero_add, Nat.reduceAdd] at hc) | (go_at_call 18; clear hm1; refine (cstates_r S 0 rfl (by rw [stT_len]; omega)).mono ?_; rw [HST.out]; rintro e w1 ⟨v, rfl, hu⟩; obtain ⟨I1, S1, hI1⟩ := S.new hu; clear S hu hI1; (try clear hc); have S := S1; clear S1; have hc := S.cells; simp only [Cells, cellsC, Im, Row, El, RTH, TreeH, TR, AU, AL, OrNil, Many, MaO, FlatO, Nat.zero_add, Nat.reduceAdd] at hc; obtain ⟨A8, c8, I1, e1, hc8, S1, hI1⟩ := S.frow 0 rfl; subst e1; clear S hI1; have S := S1; clear S1; simp only [List.set_cons_zero, List.set_cons_succ, List.nil_append] at S; have hc := S.cells; simp only [Cells, cellsC, Im, Row, El, RTH, TreeH, TR, AU, AL, OrNil, Many, MaO, FlatO, Nat.zero_add, Nat.reduceAdd] at hc) | (go_at_call 25; clear hm2; refine (creset_no S 1 rfl (-1) rfl).mono ?_; rintro e w1 ⟨rfl, rfl⟩) | (go_at_call 25; clear hm3; refine (creset_no S 1 rfl 4097 rfl).mono ?_; rintro e w1 ⟨rfl, rfl⟩) | (go_at_call 18; clear hm4; refine (cstates_r S 1 rfl (by rw [stT_len]; omega)).mono ?_; rw [HST.out]; rintro e w1 ⟨v, rfl, hu⟩; obtain ⟨I1, S1, hI1⟩ := S.new hu; clear S hu hI1; (try clear hc); have S := S1; clear S1; have hc := S.cells; simp only [Cells, cellsC, Im, Row, El, RTH, TreeH, TR, AU, AL, OrNil, Many, MaO, FlatO, Nat.zero_add, Nat.reduceAdd] at hc; obtain ⟨A9, c9, I1, e1, hc9, S1, hI1⟩ := S.frow 0 rfl; subst e1; clear S hI1; have S := S1; clear S1; simp only [List.set_cons_zero, List.set_cons_succ, List.nil_append] at S; have hc := S.cells; simp only [Cells, cellsC, Im, Row, El, RTH, TreeH, TR, AU, AL, OrNil, Many, MaO, FlatO, Nat.zero_add, Nat.reduceAdd] at hc) | (go_at_call 15; refine (sameI_e ST A9 A8 c9 c8 _ _ _ (S.im 0 rfl) (S.im 1 rfl) (by omega)).mono ?_; rintro e w1 ⟨rfl, hx⟩; have hx := hx.ext; replace S := S.ext hx; clear hx; (try clear hc); have hc := S.cells; simp only [Cells, cellsC, Im, Row, El, RTH, TreeH, TR, AU, AL, OrNil, Many, MaO, FlatO, Nat.zero_add, Nat.reduceAdd] at hc))
    clear hc
    replace S := ((S.sel [2, 3, 5] (by decide) rfl (by simp) : SH _ _ _ [_, _, _] _ _) : SH _ _ _ [_, _, _] _ _)
    go_cut [90] (fun v w' => v = .bool false ∧ ∃ J, As (SH No I w [MaT gm own told0 p, Im kII A5 own, Im kII D be] w' J))
    case first =>
      by_cases h1 : pn < 0
      · have h1' : decide (pn < 0) = true := by simpa using h1
        have hc := S.cells; simp only [Cells, cellsC, Im, Row, El, RTH, TreeH, TR, AU, AL, OrNil, Many, MaO, FlatO, Nat.zero_add, Nat.reduceAdd] at hc
        go_wp2_with (first | ((first | (with_reducible refine wpl_seal S ?_) | (with_reducible refine cw_seal S ?_) | (with_reducible refine bp_seal S ?_) | (with_reducible refine ca_seal S ?_)); clear S; (try clear hc); intro w1 S; (try simp only [List.set_cons_zero, List.set_cons_succ, List.nil_append] at S); have hc := S.cells; simp only [Cells, cellsC, Im, Row, El, RTH, TreeH, TR, AU, AL, OrNil, Many, MaO, FlatO, Nat.zero_add, Nat.reduceAdd] at hc) | (go_at_call 25; refine (creset_no S 0 rfl pn (by simp; omega)).mono ?_; rintro e w1 ⟨rfl, rfl⟩))
        go_meet
        case rel => exact ⟨rfl, _, ⟨by first | exact S | trivial⟩⟩
      · have h1' : decide (pn < 0) = false := by simpa using h1
        by_cases h2 : 4096 < pn
        · have h2' : decide (4096 < pn) = true := by simpa using h2
          have hc := S.cells; simp only [Cells, cellsC, Im, Row, El, RTH, TreeH, TR, AU, AL, OrNil, Many, MaO, FlatO, Nat.zero_add, Nat.reduceAdd] at hc
          go_wp2_with (first | ((first | (with_reducible refine wpl_seal S ?_) | (with_reducible refine cw_seal S ?_) | (with_reducible refine bp_seal S ?_) | (with_reducible refine ca_seal S ?_)); clear S; (try clear hc); intro w1 S; (try simp only [List.set_cons_zero, List.set_cons_succ, List.nil_append] at S); have hc := S.cells; simp only [Cells, cellsC, Im, Row, El, RTH, TreeH, TR, AU, AL, OrNil, Many, MaO, FlatO, Nat.zero_add, Nat.reduceAdd] at hc) | (go_at_call 25; refine (creset_no S 0 rfl pn (by simp; omega)).mono ?_; rintro e w1 ⟨rfl, rfl⟩))
          go_meet
          case rel => exact ⟨rfl, _, ⟨by first | exact S | trivial⟩⟩
        · have h2' : decide (4096 < pn) = false := by simpa using h2
          have hc := S.cells; simp only [Cells, cellsC, Im, Row, El, RTH, TreeH, TR, AU, AL, OrNil, Many, MaO, FlatO, Nat.zero_add, Nat.reduceAdd] at hc
          go_wp2_with (first | ((first | (with_reducible refine wpl_seal S ?_) | (with_reducible refine cw_seal S ?_) | (with_reducible refine bp_seal S ?_) | (with_reducible refine ca_seal S ?_)); clear S; (try clear hc); intro w1 S; (try simp only [List.set_cons_zero, List.set_cons_succ, List.nil_append] at S); have hc := S.cells; simp only [Cells, cellsC, Im, Row, El, RTH, TreeH, TR, AU, AL, OrNil, Many, MaO, FlatO, Nat.zero_add, Nat.reduceAdd] at hc))
          go_meet
          case rel => exact ⟨rfl, _, ⟨by first | exact S | trivial⟩⟩
    case rest =>
      clear S
      obtain ⟨rfl, J, ⟨S⟩⟩ := hcut
      have hc := S.cells; simp only [Cells, cellsC, Im, Row, El, RTH, TreeH, TR, AU, AL, OrNil, Many, MaO, FlatO, Nat.zero_add, Nat.reduceAdd] at hc
      go_upto_region 16 with (first | ((first | (with_reducible refine wpl_seal S ?_) | (with_reducible refine cw_seal S ?_) | (with_reducible refine bp_seal S ?_) | (with_reducible refine ca_seal S ?_)); clear S; (try clear hc); intro w1 S; (try simp only [List.set_cons_zero, List.set_cons_succ, List.nil_append] at S); have hc := S.cells; simp only [Cells, cellsC, Im, Row, El, RTH, TreeH, TR, AU, AL, OrNil, Many, MaO, FlatO, Nat.zero_add, Nat.reduceAdd] at hc))
      clear hc
      go_cut [113] (fun v w' => v = .bool false ∧ ∃ J, As (SH No I w [MaT gm own [] n, Im kII A5 own, Im kII D be] w' J))
      case first =>
        have HSM : As (∀ w' E A1 A2 c1 c2, Sl kI w' E A1 (List.replicate n 0) → Sl kI w' E A2 (List.replicate n 0) → Calls Try.prog 15 #[.slice A1 n c1, .slice A2 n c2] w' fun e w'' => e = .returned (.bool true) ∧ Qt w' w'') := ⟨fun w' E A1 A2 c1 c2 h1 h2 => by
          have := sameI_e (List.replicate n (0 : Int)) A1 A2 c1 c2 w' E E h1 h2 (by rw [List.length_replicate]; omega)
          rwa [List.length_replicate] at this⟩
        refine wp_region_forkAt [([0, 1], 2), ([3, 4, 5], 6), ([7, 8, 9, 10, 12], 11)] [13, 14, 15, 16, 18] 17 19 [⟨[], [], 19, false⟩, ⟨[], [], 20, false⟩] [21, 22] [⟨[], [], 17, false⟩, ⟨[], [], 20, false⟩] [21, 22] (by kernel_rfl) (by kernel_rfl) ?_
        replace S := S.drew
        have hc := S.cells; simp only [Cells, cellsC, Im, Row, El, RTH, TreeH, TR, AU, AL, OrNil, Many, MaO, FlatO, Nat.zero_add, Nat.reduceAdd] at hc
        refine steps_cons rfl rfl ?_
        simp only [opsAt, List.getD_cons_succ, List.getD_cons_zero]
        repeat (go_big_quiet_step ((intro hC; first | rfl | (go_simp; first | done | rfl))))
        refine wpQuiet_nil ?_
        go_wp2_with (first | ((first | (with_reducible refine mx_seal S ?_) | (with_reducible refine wpl_seal S ?_) | (with_reducible refine ca_seal S ?_)); clear S; (try clear hc); intro w1 S; (try simp only [List.set_cons_zero, List.set_cons_succ, List.nil_append] at S); have hc := S.cells; simp only [Cells, cellsC, Im, Row, El, RTH, TreeH, TR, AU, AL, OrNil, Many, MaO, FlatO, Nat.zero_add, Nat.reduceAdd] at hc) | (go_at_call 25; refine (creset_t S 0 rfl n (by omega) (by omega)).mono ?_; rintro e w1 ⟨J1, rfl, S2⟩; clear S hc; have S := S2; clear S2; simp only [List.set_cons_zero, List.set_cons_succ, List.nil_append] at S; have hc := S.cells; simp only [Cells, cellsC, Im, Row, El, RTH, TreeH, TR, AU, AL, OrNil, Many, MaO, FlatO, Nat.zero_add, Nat.reduceAdd] at hc))
        refine steps_cons rfl rfl ?_
        simp only [opsAt, List.getD_cons_succ, List.getD_cons_zero]
        repeat (go_big_quiet_step ((intro hC; first | rfl | (go_simp; first | done | rfl))))
        refine wpQuiet_nil ?_
        go_wp2_with (first | ((first | (with_reducible refine mx_seal S ?_) | (with_reducible refine wpl_seal S ?_) | (with_reducible refine ca_seal S ?_)); clear S; (try clear hc); intro w1 S; (try simp only [List.set_cons_zero, List.set_cons_succ, List.nil_append] at S); have hc := S.cells; simp only [Cells, cellsC, Im, Row, El, RTH, TreeH, TR, AU, AL, OrNil, Many, MaO, FlatO, Nat.zero_add, Nat.reduceAdd] at hc) | (go_at_call 17; refine (crows_r S 0 rfl).mono ?_; rintro e w1 ⟨rfl, rfl⟩))
        refine steps_cons rfl rfl ?_
        simp only [opsAt, List.getD_cons_succ, List.getD_cons_zero]
        repeat (go_big_quiet_step ((intro hC; first | rfl | (go_simp; first | done | rfl))))
        refine wpQuiet_nil ?_
        go_wp2_with (first | ((first | (with_reducible refine mx_seal S ?_) | (with_reducible refine wpl_seal S ?_) | (with_reducible refine ca_seal S ?_)); clear S; (try clear hc); intro w1 S; (try simp only [List.set_cons_zero, List.set_cons_succ, List.nil_append] at S); have hc := S.cells; simp only [Cells, cellsC, Im, Row, El, RTH, TreeH, TR, AU, AL, OrNil, Many, MaO, FlatO, Nat.zero_add, Nat.reduceAdd] at hc) | (go_at_call 22; refine (cplaces_t S 0 rfl).mono ?_; rintro e w1 ⟨rfl, rfl⟩))
        unfold wpSteps
        (try simp only [opsAt, List.getD_cons_succ, List.getD_cons_zero])
        repeat (go_big_quiet_step ((intro hC; first | rfl | (go_simp; first | done | rfl))))
        refine wpQuiet_nil ?_
        refine ⟨?_, ?_⟩
        · go_wp2_with (first | ((first | (with_reducible refine mx_seal S ?_) | (with_reducible refine wpl_seal S ?_) | (with_reducible refine ca_seal S ?_)); clear S; (try clear hc); intro w1 S; (try simp only [List.set_cons_zero, List.set_cons_succ, List.nil_append] at S); have hc := S.cells; simp only [Cells, cellsC, Im, Row, El, RTH, TreeH, TR, AU, AL, OrNil, Many, MaO, FlatO, Nat.zero_add, Nat.reduceAdd] at hc) | (go_at_call 18; refine (cstates_r S 0 rfl (by rw [stT_len]; omega)).mono ?_; rw [stT_nil]; rintro e w1 ⟨v, rfl, hu⟩; obtain ⟨I1, S1, hI1⟩ := S.new hu; clear S hu hI1; (try clear hc); have S := S1; clear S1; have hc := S.cells; simp only [Cells, cellsC, Im, Row, El, RTH, TreeH, TR, AU, AL, OrNil, Many, MaO, FlatO, Nat.zero_add, Nat.reduceAdd] at hc; obtain ⟨A6, c6, I1, e1, hc6, S1, hI1⟩ := S.frow 0 rfl; subst e1; clear S hI1; have S := S1; clear S1; simp only [List.set_cons_zero, List.set_cons_succ, List.nil_append] at S; rw [List.length_replicate]; have hc := S.cells; simp only [Cells, cellsC, Im, Row, El, RTH, TreeH, TR, AU, AL, OrNil, Many, MaO, FlatO, Nat.zero_add, Nat.reduceAdd] at hc))
          (first | refine ⟨(fun h => by cases h), ?_⟩ | skip); (first | ((first | (with_reducible refine mx_seal S ?_)); clear S; (try clear hc); intro w1 S; (try simp only [List.set_cons_zero, List.set_cons_succ, List.nil_append] at S); have hc := S.cells; simp only [Cells, cellsC, Im, Row, El, RTH, TreeH, TR, AU, AL, OrNil, Many, MaO, FlatO, Nat.zero_add, Nat.reduceAdd] at hc) | skip); (try simp only [Act.put, List.setIfInBounds_toArray, List.set_cons_succ, List.set_cons_zero])
          refine mix_cons rfl rfl rfl ?_
          simp only [opsAt, List.getD_cons_succ, List.getD_cons_zero]
          repeat (go_big_quiet_step ((intro hC; first | rfl | (go_simp; first | done | rfl))))
          refine wpQuiet_nil ?_
          repeat (go_big_quiet_step ((intro hC; first | rfl | (go_simp; first | done | rfl))))
          refine wpQuiet_nil ?_
          go_wp2_with (first | ((first | (with_reducible refine mx_seal S ?_) | (with_reducible refine wpl_seal S ?_) | (with_reducible refine ca_seal S ?_)); clear S; (try clear hc); intro w1 S; (try simp only [List.set_cons_zero, List.set_cons_succ, List.nil_append] at S); have hc := S.cells; simp only [Cells, cellsC, Im, Row, El, RTH, TreeH, TR, AU, AL, OrNil, Many, MaO, FlatO, Nat.zero_add, Nat.reduceAdd] at hc) | (at_make; refine wpl_guard (by first | rfl | kernel_rfl) ?_; refine wpl_make (k := kI) S rfl _ _ rfl (z := .int .i64 0) (bytes := 8) (size := 1) Try.underlying30 (by kernel_rfl) rfl (by omega) .i64 .i64 n rfl rfl (by omega) 0 (fun _ => rfl) (by omega) ?_; clear S; (try clear hc); intro g2 w1 S; obtain ⟨A7, c7, I1, e1, hc7, S1, -⟩ := S.frow 0 rfl; rw [Value.slice.injEq] at e1; obtain ⟨rfl, -, rfl⟩ := e1; clear S; have S := S1; clear S1; simp only [List.set_cons_zero, List.set_cons_succ, List.nil_append] at S; have hc := S.cells; simp only [Cells, cellsC, Im, Row, El, RTH, TreeH, TR, AU, AL, OrNil, Many, MaO, FlatO, Nat.zero_add, Nat.reduceAdd] at hc))
          (first | refine ⟨(fun h => by cases h), ?_⟩ | skip); (first | ((first | (with_reducible refine mx_seal S ?_)); clear S; (try clear hc); intro w1 S; (try simp only [List.set_cons_zero, List.set_cons_succ, List.nil_append] at S); have hc := S.cells; simp only [Cells, cellsC, Im, Row, El, RTH, TreeH, TR, AU, AL, OrNil, Many, MaO, FlatO, Nat.zero_add, Nat.reduceAdd] at hc) | skip); (try simp only [Act.put, List.setIfInBounds_toArray, List.set_cons_succ, List.set_cons_zero])
          refine mix_cons rfl rfl rfl ?_
          simp only [opsAt, List.getD_cons_succ, List.getD_cons_zero]
          repeat (go_big_quiet_step ((intro hC; first | rfl | (go_simp; first | done | rfl))))
          refine wpQuiet_nil ?_
          repeat (go_big_quiet_step ((intro hC; first | rfl | (go_simp; first | done | rfl))))
          refine wpQuiet_nil ?_
          go_wp2_with (first | ((first | (with_reducible refine mx_seal S ?_) | (with_reducible refine wpl_seal S ?_) | (with_reducible refine ca_seal S ?_)); clear S; (try clear hc); intro w1 S; (try simp only [List.set_cons_zero, List.set_cons_succ, List.nil_append] at S); have hc := S.cells; simp only [Cells, cellsC, Im, Row, El, RTH, TreeH, TR, AU, AL, OrNil, Many, MaO, FlatO, Nat.zero_add, Nat.reduceAdd] at hc) | (go_at_call 15; refine (HSM.out _ _ _ _ _ _ (S.im 1 rfl) (S.im 0 rfl)).mono ?_; rintro e w1 ⟨rfl, hx⟩; have hx := hx.ext; replace S := S.ext hx; clear hx; (try clear hc); have hc := S.cells; simp only [Cells, cellsC, Im, Row, El, RTH, TreeH, TR, AU, AL, OrNil, Many, MaO, FlatO, Nat.zero_add, Nat.reduceAdd] at hc))
          (first | refine ⟨(fun h => by cases h), ?_⟩ | skip); (first | ((first | (with_reducible refine mx_seal S ?_)); clear S; (try clear hc); intro w1 S; (try simp only [List.set_cons_zero, List.set_cons_succ, List.nil_append] at S); have hc := S.cells; simp only [Cells, cellsC, Im, Row, El, RTH, TreeH, TR, AU, AL, OrNil, Many, MaO, FlatO, Nat.zero_add, Nat.reduceAdd] at hc) | skip); (try simp only [Act.put, List.setIfInBounds_toArray, List.set_cons_succ, List.set_cons_zero])
          refine mix_last rfl ?_
          simp only [opsAt, List.getD_cons_succ, List.getD_cons_zero]
          repeat (go_big_quiet_step ((intro hC; first | rfl | (go_simp; first | done | rfl))))
          refine wpQuiet_nil ?_
          simp only [calmQ]
          have hc := S.cells; simp only [Cells, cellsC, Im, Row, El, RTH, TreeH, TR, AU, AL, OrNil, Many, MaO, FlatO, Nat.zero_add, Nat.reduceAdd] at hc
          go_wp2_with (first | ((first | (with_reducible refine wpl_seal S ?_) | (with_reducible refine cw_seal S ?_) | (with_reducible refine bp_seal S ?_) | (with_reducible refine ca_seal S ?_)); clear S; (try clear hc); intro w1 S; (try simp only [List.set_cons_zero, List.set_cons_succ, List.nil_append] at S); have hc := S.cells; simp only [Cells, cellsC, Im, Row, El, RTH, TreeH, TR, AU, AL, OrNil, Many, MaO, FlatO, Nat.zero_add, Nat.reduceAdd] at hc))
          go_meet
          case rel => exact ⟨rfl, _, ⟨(S.sel [2, 3, 4] (by decide) rfl (by simp) : SH _ _ _ [_, _, _] _ _)⟩⟩
        · go_wp2_with (first | ((first | (with_reducible refine mx_seal S ?_) | (with_reducible refine wpl_seal S ?_) | (with_reducible refine ca_seal S ?_)); clear S; (try clear hc); intro w1 S; (try simp only [List.set_cons_zero, List.set_cons_succ, List.nil_append] at S); have hc := S.cells; simp only [Cells, cellsC, Im, Row, El, RTH, TreeH, TR, AU, AL, OrNil, Many, MaO, FlatO, Nat.zero_add, Nat.reduceAdd] at hc) | (at_make; refine wpl_guard (by first | rfl | kernel_rfl) ?_; refine wpl_make (k := kI) S rfl _ _ rfl (z := .int .i64 0) (bytes := 8) (size := 1) Try.underlying30 (by kernel_rfl) rfl (by omega) .i64 .i64 n rfl rfl (by omega) 0 (fun _ => rfl) (by omega) ?_; clear S; (try clear hc); intro g2 w1 S; obtain ⟨A7, c7, I1, e1, hc7, S1, -⟩ := S.frow 0 rfl; rw [Value.slice.injEq] at e1; obtain ⟨rfl, -, rfl⟩ := e1; clear S; have S := S1; clear S1; simp only [List.set_cons_zero, List.set_cons_succ, List.nil_append] at S; have hc := S.cells; simp only [Cells, cellsC, Im, Row, El, RTH, TreeH, TR, AU, AL, OrNil, Many, MaO, FlatO, Nat.zero_add, Nat.reduceAdd] at hc))
          (first | refine ⟨(fun h => by cases h), ?_⟩ | skip); (first | ((first | (with_reducible refine mx_seal S ?_)); clear S; (try clear hc); intro w1 S; (try simp only [List.set_cons_zero, List.set_cons_succ, List.nil_append] at S); have hc := S.cells; simp only [Cells, cellsC, Im, Row, El, RTH, TreeH, TR, AU, AL, OrNil, Many, MaO, FlatO, Nat.zero_add, Nat.reduceAdd] at hc) | skip); (try simp only [Act.put, List.setIfInBounds_toArray, List.set_cons_succ, List.set_cons_zero])
          refine mix_cons rfl rfl rfl ?_
          simp only [opsAt, List.getD_cons_succ, List.getD_cons_zero]
          repeat (go_big_quiet_step ((intro hC; first | rfl | (go_simp; first | done | rfl))))
          refine wpQuiet_nil ?_
          repeat (go_big_quiet_step ((intro hC; first | rfl | (go_simp; first | done | rfl))))
          refine wpQuiet_nil ?_
          go_wp2_with (first | ((first | (with_reducible refine mx_seal S ?_) | (with_reducible refine wpl_seal S ?_) | (with_reducible refine ca_seal S ?_)); clear S; (try clear hc); intro w1 S; (try simp only [List.set_cons_zero, List.set_cons_succ, List.nil_append] at S); have hc := S.cells; simp only [Cells, cellsC, Im, Row, El, RTH, TreeH, TR, AU, AL, OrNil, Many, MaO, FlatO, Nat.zero_add, Nat.reduceAdd] at hc) | (go_at_call 18; refine (cstates_r S 1 rfl (by rw [stT_len]; omega)).mono ?_; rw [stT_nil]; rintro e w1 ⟨v, rfl, hu⟩; obtain ⟨I1, S1, hI1⟩ := S.new hu; clear S hu hI1; (try clear hc); have S := S1; clear S1; have hc := S.cells; simp only [Cells, cellsC, Im, Row, El, RTH, TreeH, TR, AU, AL, OrNil, Many, MaO, FlatO, Nat.zero_add, Nat.reduceAdd] at hc; obtain ⟨A6, c6, I1, e1, hc6, S1, hI1⟩ := S.frow 0 rfl; subst e1; clear S hI1; have S := S1; clear S1; simp only [List.set_cons_zero, List.set_cons_succ, List.nil_append] at S; rw [List.length_replicate]; have hc := S.cells; simp only [Cells, cellsC, Im, Row, El, RTH, TreeH, TR, AU, AL, OrNil, Many, MaO, FlatO, Nat.zero_add, Nat.reduceAdd] at hc))
          (first | refine ⟨(fun h => by cases h), ?_⟩ | skip); (first | ((first | (with_reducible refine mx_seal S ?_)); clear S; (try clear hc); intro w1 S; (try simp only [List.set_cons_zero, List.set_cons_succ, List.nil_append] at S); have hc := S.cells; simp only [Cells, cellsC, Im, Row, El, RTH, TreeH, TR, AU, AL, OrNil, Many, MaO, FlatO, Nat.zero_add, Nat.reduceAdd] at hc) | skip); (try simp only [Act.put, List.setIfInBounds_toArray, List.set_cons_succ, List.set_cons_zero])
          refine mix_cons rfl rfl rfl ?_
          simp only [opsAt, List.getD_cons_succ, List.getD_cons_zero]
          repeat (go_big_quiet_step ((intro hC; first | rfl | (go_simp; first | done | rfl))))
          refine wpQuiet_nil ?_
          repeat (go_big_quiet_step ((intro hC; first | rfl | (go_simp; first | done | rfl))))
          refine wpQuiet_nil ?_
          go_wp2_with (first | ((first | (with_reducible refine mx_seal S ?_) | (with_reducible refine wpl_seal S ?_) | (with_reducible refine ca_seal S ?_)); clear S; (try clear hc); intro w1 S; (try simp only [List.set_cons_zero, List.set_cons_succ, List.nil_append] at S); have hc := S.cells; simp only [Cells, cellsC, Im, Row, El, RTH, TreeH, TR, AU, AL, OrNil, Many, MaO, FlatO, Nat.zero_add, Nat.reduceAdd] at hc) | (go_at_call 15; refine (HSM.out _ _ _ _ _ _ (S.im 0 rfl) (S.im 1 rfl)).mono ?_; rintro e w1 ⟨rfl, hx⟩; have hx := hx.ext; replace S := S.ext hx; clear hx; (try clear hc); have hc := S.cells; simp only [Cells, cellsC, Im, Row, El, RTH, TreeH, TR, AU, AL, OrNil, Many, MaO, FlatO, Nat.zero_add, Nat.reduceAdd] at hc))
          (first | refine ⟨(fun h => by cases h), ?_⟩ | skip); (first | ((first | (with_reducible refine mx_seal S ?_)); clear S; (try clear hc); intro w1 S; (try simp only [List.set_cons_zero, List.set_cons_succ, List.nil_append] at S); have hc := S.cells; simp only [Cells, cellsC, Im, Row, El, RTH, TreeH, TR, AU, AL, OrNil, Many, MaO, FlatO, Nat.zero_add, Nat.reduceAdd] at hc) | skip); (try simp only [Act.put, List.setIfInBounds_toArray, List.set_cons_succ, List.set_cons_zero])
          refine mix_last rfl ?_
          simp only [opsAt, List.getD_cons_succ, List.getD_cons_zero]
          repeat (go_big_quiet_step ((intro hC; first | rfl | (go_simp; first | done | rfl))))
          refine wpQuiet_nil ?_
          simp only [calmQ]
          have hc := S.cells; simp only [Cells, cellsC, Im, Row, El, RTH, TreeH, TR, AU, AL, OrNil, Many, MaO, FlatO, Nat.zero_add, Nat.reduceAdd] at hc
          go_wp2_with (first | ((first | (with_reducible refine wpl_seal S ?_) | (with_reducible refine cw_seal S ?_) | (with_reducible refine bp_seal S ?_) | (with_reducible refine ca_seal S ?_)); clear S; (try clear hc); intro w1 S; (try simp only [List.set_cons_zero, List.set_cons_succ, List.nil_append] at S); have hc := S.cells; simp only [Cells, cellsC, Im, Row, El, RTH, TreeH, TR, AU, AL, OrNil, Many, MaO, FlatO, Nat.zero_add, Nat.reduceAdd] at hc))
          go_meet
          case rel => exact ⟨rfl, _, ⟨(S.sel [2, 3, 4] (by decide) rfl (by simp) : SH _ _ _ [_, _, _] _ _)⟩⟩
      case rest =>
        clear S
        obtain ⟨rfl, J, ⟨S⟩⟩ := hcut
        replace S := S.nilrow (k := kII)
        have hc := S.cells; simp only [Cells, cellsC, Im, Row, El, RTH, TreeH, TR, AU, AL, OrNil, Many, MaO, FlatO, Nat.zero_add, Nat.reduceAdd] at hc
        go_wp2_with (first | ((first | (with_reducible refine wpl_seal S ?_) | (with_reducible refine cw_seal S ?_) | (with_reducible refine bp_seal S ?_) | (with_reducible refine ca_seal S ?_)); clear S; (try clear hc); intro w1 S; (try simp only [List.set_cons_zero, List.set_cons_succ, List.nil_append] at S); have hc := S.cells; simp only [Cells, cellsC, Im, Row, El, RTH, TreeH, TR, AU, AL, OrNil, Many, MaO, FlatO, Nat.zero_add, Nat.reduceAdd] at hc))
        clear hc
        go_loopw [20, 21] (fun tv v w' => ∃ (i : Nat) (told : List (List Int)) (Av : Option Addr) (cv : Nat) (J : Fp), v = .int .i64 i ∧ tv = .slice Av told.length cv ∧ i ≤ be.length ∧ i ≤ 6 ∧ told.length = i ∧ As (Told told n) ∧ As (SH No I w [Row kII (.slice Av told.length cv) told, MaT gm own told n, Im kII A5 own, Im kII D be] w' J)) (fun _ v _ => be.length - (intOf v).toNat)
        case atStart => exact ⟨0, [], none, 0, _, rfl, rfl, by omega, by omega, rfl, ⟨Told.nil⟩, ⟨S⟩⟩
        case round =>
          clear S
          obtain ⟨i, told, Av, cv, J, rfl, rfl, hi, hi12, htl, HT, ⟨S⟩⟩ := hrel
          have HTL := As.mk htl
          have htl12 : told.length ≤ 6 := by omega
          clear htl
          have hc := S.cells; simp only [Cells, cellsC, Im, Row, El, RTH, TreeH, TR, AU, AL, OrNil, Many, MaO, FlatO, Nat.zero_add, Nat.reduceAdd] at hc
          by_cases hil : i < be.length
          · have hil' : decide ((i : Int) < be.length) = true := by simpa using hil
            by_cases him : i < 6
            · have him' : decide ((i : Int) < 6) = true := by simp; omega
              obtain ⟨b, o, A3, c3, rfl, hcx, hc3, hs3⟩ := (S.im 3 rfl).sl_at hil
              replace S := S.know (h := Im kI A3 be[i]) hs3
              clear hs3
              generalize be[i] = x at S hcx hc3
              have hc := S.cells; simp only [Cells, cellsC, Im, Row, El, RTH, TreeH, TR, AU, AL, OrNil, Many, MaO, FlatO, Nat.zero_add, Nat.reduceAdd] at hc
              have HT2 := As.mk (HT.out.rowZ x)
              have htl2 : (told ++ [rowZ x n]).length = told.length + 1 := by simp
              obtain ⟨told2, hto⟩ : ∃ told2, told ++ [rowZ x n] = told2 := ⟨_, rfl⟩
              have HTO := As.mk hto
              rw [hto] at HT2 htl2
              have HTL2 := As.mk htl2
              have htl13 : told2.length ≤ 13 := by omega
              clear hto htl2
              go_wp2_with (first | ((first | (with_reducible refine wpl_seal S ?_) | (with_reducible refine cw_seal S ?_) | (with_reducible refine bp_seal S ?_) | (with_reducible refine ca_seal S ?_)); clear S; (try clear hc); intro w1 S; (try simp only [List.set_cons_zero, List.set_cons_succ, List.nil_append] at S); have hc := S.cells; simp only [Cells, cellsC, Im, Row, El, RTH, TreeH, TR, AU, AL, OrNil, Many, MaO, FlatO, Nat.zero_add, Nat.reduceAdd] at hc) | (go_at_call 12; refine (zrow_c x n (by omega) A3 c3 _ _ S.bd (S.im 0 rfl)).mono ?_; rintro e w1 ⟨g, rfl, hu⟩; obtain ⟨I1, S1, hI1⟩ := S.new hu; clear S hu hI1; (try clear hc); have S := S1; clear S1; have hc := S.cells; simp only [Cells, cellsC, Im, Row, El, RTH, TreeH, TR, AU, AL, OrNil, Many, MaO, FlatO, Nat.zero_add, Nat.reduceAdd] at hc; have hc := S.cells; simp only [Cells, cellsC, Im, Row, El, RTH, TreeH, TR, AU, AL, OrNil, Many, MaO, FlatO, Nat.zero_add, Nat.reduceAdd] at hc) | (go_at_call 11; refine (crow_t S 4 rfl _ n (S.im 1 rfl) (rowZ_len x n) (fun y hy => by have := rowZ_mem hy; omega) (by omega) HF.out (by omega)).mono ?_; rw [HTO.out]; rintro e w1 ⟨g2, J5, rfl, S2⟩; clear S hc; have S := S2; clear S2; simp only [List.set_cons_zero, List.set_cons_succ, List.nil_append] at S; have hc := S.cells; simp only [Cells, cellsC, Im, Row, El, RTH, TreeH, TR, AU, AL, OrNil, Many, MaO, FlatO, Nat.zero_add, Nat.reduceAdd] at hc) | (at_builtin; refine wpl_push S 3 rfl rfl _ _ rfl ty_intss rfl (rowZ x n) _ _ rfl [_] _ (S.cel 0 rfl) ⟨_, n, by rw [rowZ_len], by rw [rowZ_len]; exact Nat.le_refl _, S.im 1 rfl⟩ (by (try simp only [maxLen, List.length_nil, List.length_append, List.length_cons]); omega) (by (try simp only [maxLen, List.length_nil, List.length_append, List.length_cons]); omega) ?_; clear S; (try clear hc); intro va w1 S; simp only [List.set_cons_zero, List.set_cons_succ, List.nil_append] at S; obtain ⟨Av, cv, eva, -, -⟩ := S.row 3 rfl; subst eva; have hc := S.cells; simp only [Cells, cellsC, Im, Row, El, RTH, TreeH, TR, AU, AL, OrNil, Many, MaO, FlatO, Nat.zero_add, Nat.reduceAdd] at hc))
              replace S := ((S.sel [0, 4, 5, 6, 7] (by decide) rfl (by simp) : SH _ _ _ [_, _, _, _, _] _ _) : SH _ _ _ [_, _, _, _, _] _ _)
              clear hc hcx hc3
              go_loopw [25] (fun v w' => ∃ (y : Nat) (J : Fp), v = .int .i64 y ∧ y ≤ n ∧ As (SH No I w [Im kII (some ⟨g2, 0, none⟩) (outT own told2 n), Row kII (.slice Av (told.length + 1) cv) told2, MaT gm own told2 n, Im kII A5 own, Im kII (some ⟨b, o, none⟩) be] w' J)) (fun v _ => n - (intOf v).toNat)
              case atStart => exact ⟨0, _, rfl, by omega, ⟨by rw [← HTL2.out]; exact S⟩⟩
              case round =>
                clear S
                obtain ⟨y, J, rfl, hy, ⟨S⟩⟩ := hrel
                by_cases hyn : y < n
                · have hyn' : decide ((y : Int) < n) = true := by simpa using hyn
                  have hyo : y < (outT own told2 n).length := by rw [outT_len]; exact hyn
                  obtain ⟨b9, o9, A9, c9, e9, hcz, hc9, hs9⟩ := im_at (S.im 0 rfl) y _ (List.getElem?_eq_getElem hyo)
                  cases e9
                  rw [Nat.zero_add] at hcz
                  rw [outT_at] at hcz hs9 hc9
                  have hEl : (endsL own (sinceL told2 y)).length ≤ 1000000 := by have h := endK_le (W := own) (x := sinceL told2 y) (m := own.length); change (endsL own _).length ≤ _ at h; omega
                  obtain ⟨E, hE⟩ : ∃ E, endsL own (sinceL told2 y) = E := ⟨_, rfl⟩
                  have HE := As.mk hE
                  rw [hE] at hcz hs9 hEl hc9
                  clear hE hyo
                  replace S := S.know (h := Im kI A9 E) hs9
                  clear hs9
                  have hq2 := ClE.cell (w := wr.drew) hcz
                  go_wp2_with (first | ((first | (with_reducible refine wpl_seal S ?_) | (with_reducible refine cw_seal S ?_) | (with_reducible refine bp_seal S ?_) | (with_reducible refine ca_seal S ?_)); clear S; (try clear hc); intro w1 S; (try simp only [List.set_cons_zero, List.set_cons_succ, List.nil_append] at S); have hc := S.cells; simp only [Cells, cellsC, Im, Row, El, RTH, TreeH, TR, AU, AL, OrNil, Many, MaO, FlatO, Nat.zero_add, Nat.reduceAdd] at hc))
                  refine wp_region_ext [⟨[0, 1, 2, 3, 4, 5, 6], [], 7, true⟩, ⟨[], [], 8, false⟩] [9] (by kernel_rfl) (by kernel_rfl) ?_
                  refine mix_cons rfl rfl rfl ?_
                  simp only [opsAt, List.getD_cons_succ, List.getD_cons_zero]
                  repeat (go_big_quiet_step ((intro hC; first | rfl | (go_simp; first | done | rfl))))
                  refine wpQuiet_nil ?_
                  repeat (go_big_quiet_step ((intro hC; first | rfl | (go_simp; first | done | rfl))))
                  refine wpQuiet_nil ?_
                  clear hcz hq2
                  replace S := S.drew
                  generalize wr.drew = w1 at S ⊢
                  have hc := S.cells; simp only [Cells, cellsC, Im, Row, El, RTH, TreeH, TR, AU, AL, OrNil, Many, MaO, FlatO, Nat.zero_add, Nat.reduceAdd] at hc
                  go_wp2_with (first | ((first | (with_reducible refine mx_seal S ?_) | (with_reducible refine wpl_seal S ?_) | (with_reducible refine ca_seal S ?_)); clear S; (try clear hc); intro w1 S; (try simp only [List.set_cons_zero, List.set_cons_succ, List.nil_append] at S); have hc := S.cells; simp only [Cells, cellsC, Im, Row, El, RTH, TreeH, TR, AU, AL, OrNil, Many, MaO, FlatO, Nat.zero_add, Nat.reduceAdd] at hc) | (go_at_call 16; refine (zends_r (own := own) (told := told2) (c := c5) (B := Av) (d := cv) S 2 HTL2.out.symm rfl (S.im 4 rfl) HF.out HT2.out y hyn (by omega)).mono ?_; rw [HE.out]; rintro e w1 ⟨v, rfl, hu⟩; have hxe := hu.ext; obtain ⟨I1, S1, hI1⟩ := S.new hu; clear S hu hI1; (try clear hc); have S := S1; clear S1; have hc := S.cells; simp only [Cells, cellsC, Im, Row, El, RTH, TreeH, TR, AU, AL, OrNil, Many, MaO, FlatO, Nat.zero_add, Nat.reduceAdd] at hc; obtain ⟨A10, c10, I1, e1, hc10, S1, hI1⟩ := S.frow 0 rfl; subst e1; clear S hI1; have S := S1; clear S1; simp only [List.set_cons_zero, List.set_cons_succ, List.nil_append] at S; have hc := S.cells; simp only [Cells, cellsC, Im, Row, El, RTH, TreeH, TR, AU, AL, OrNil, Many, MaO, FlatO, Nat.zero_add, Nat.reduceAdd] at hc))
                  refine ⟨fun _ => hxe, ?_⟩
                  clear hxe
                  refine mix_cons rfl rfl rfl ?_
                  simp only [opsAt, List.getD_cons_succ, List.getD_cons_zero]
                  repeat (go_big_quiet_step ((intro hC; first | rfl | (go_simp; first | done | rfl))))
                  refine wpQuiet_nil ?_
                  repeat (go_big_quiet_step ((intro hC; first | rfl | (go_simp; first | done | rfl))))
                  refine wpQuiet_nil ?_
                  go_wp2_with (first | ((first | (with_reducible refine mx_seal S ?_) | (with_reducible refine wpl_seal S ?_) | (with_reducible refine ca_seal S ?_)); clear S; (try clear hc); intro w1 S; (try simp only [List.set_cons_zero, List.set_cons_succ, List.nil_append] at S); have hc := S.cells; simp only [Cells, cellsC, Im, Row, El, RTH, TreeH, TR, AU, AL, OrNil, Many, MaO, FlatO, Nat.zero_add, Nat.reduceAdd] at hc) | (go_at_call 15; refine (sameI_e E A9 A10 c9 c10 _ _ _ (S.im 1 rfl) (S.im 0 rfl) hEl).mono ?_; rintro e w1 ⟨rfl, hx⟩; have hx := hx.ext; replace S := S.ext hx; clear hx; (try clear hc); have hc := S.cells; simp only [Cells, cellsC, Im, Row, El, RTH, TreeH, TR, AU, AL, OrNil, Many, MaO, FlatO, Nat.zero_add, Nat.reduceAdd] at hc))
                  (first | refine ⟨(fun h => by cases h), ?_⟩ | skip); (first | ((first | (with_reducible refine mx_seal S ?_)); clear S; (try clear hc); intro w1 S; (try simp only [List.set_cons_zero, List.set_cons_succ, List.nil_append] at S); have hc := S.cells; simp only [Cells, cellsC, Im, Row, El, RTH, TreeH, TR, AU, AL, OrNil, Many, MaO, FlatO, Nat.zero_add, Nat.reduceAdd] at hc) | skip); (try simp only [Act.put, List.setIfInBounds_toArray, List.set_cons_succ, List.set_cons_zero])
                  refine mix_last rfl ?_
                  simp only [opsAt, List.getD_cons_succ, List.getD_cons_zero]
                  repeat (go_big_quiet_step ((intro hC; first | rfl | (go_simp; first | done | rfl))))
                  refine wpQuiet_nil ?_
                  simp only [calmQ]
                  have hc := S.cells; simp only [Cells, cellsC, Im, Row, El, RTH, TreeH, TR, AU, AL, OrNil, Many, MaO, FlatO, Nat.zero_add, Nat.reduceAdd] at hc
                  go_wp2_with (first | ((first | (with_reducible refine wpl_seal S ?_) | (with_reducible refine cw_seal S ?_) | (with_reducible refine bp_seal S ?_) | (with_reducible refine ca_seal S ?_)); clear S; (try clear hc); intro w1 S; (try simp only [List.set_cons_zero, List.set_cons_succ, List.nil_append] at S); have hc := S.cells; simp only [Cells, cellsC, Im, Row, El, RTH, TreeH, TR, AU, AL, OrNil, Many, MaO, FlatO, Nat.zero_add, Nat.reduceAdd] at hc))
                  go_roundw
                  case rel => exact ⟨y + 1, _, by go_num, by omega, ⟨(S.sel [2, 3, 4, 5, 6] (by decide) rfl (by simp) : SH _ _ _ [_, _, _, _, _] _ _)⟩⟩
                  case measure => simp [intOf]; omega
                · have hyn' : decide ((y : Int) < n) = false := by simpa using hyn
                  have hc := S.cells; simp only [Cells, cellsC, Im, Row, El, RTH, TreeH, TR, AU, AL, OrNil, Many, MaO, FlatO, Nat.zero_add, Nat.reduceAdd] at hc
                  go_wp2_with (first | ((first | (with_reducible refine wpl_seal S ?_) | (with_reducible refine cw_seal S ?_) | (with_reducible refine bp_seal S ?_) | (with_reducible refine ca_seal S ?_)); clear S; (try clear hc); intro w1 S; (try simp only [List.set_cons_zero, List.set_cons_succ, List.nil_append] at S); have hc := S.cells; simp only [Cells, cellsC, Im, Row, El, RTH, TreeH, TR, AU, AL, OrNil, Many, MaO, FlatO, Nat.zero_add, Nat.reduceAdd] at hc))
                  go_roundw
                  case rel => exact ⟨i + 1, told2, Av, cv, _, by go_num, by rw [HTL2.out], by omega, by omega, by rw [HTL2.out, HTL.out], HT2, ⟨by rw [HTL2.out]; exact (S.sel [1, 2, 3, 4] (by decide) rfl (by simp) : SH _ _ _ [_, _, _, _] _ _)⟩⟩
                  case measure => simp [intOf]; omega
            · have him' : decide ((i : Int) < 6) = false := by simp; omega
              go_wp2_with (first | ((first | (with_reducible refine wpl_seal S ?_) | (with_reducible refine cw_seal S ?_) | (with_reducible refine bp_seal S ?_) | (with_reducible refine ca_seal S ?_)); clear S; (try clear hc); intro w1 S; (try simp only [List.set_cons_zero, List.set_cons_succ, List.nil_append] at S); have hc := S.cells; simp only [Cells, cellsC, Im, Row, El, RTH, TreeH, TR, AU, AL, OrNil, Many, MaO, FlatO, Nat.zero_add, Nat.reduceAdd] at hc) | (go_at_call 13; refine (lives17_c _ _ S.bd).mono ?_; rintro e w1 ⟨rfl, hx⟩; replace S := S.ext hx; clear hx; (try clear hc); have hc := S.cells; simp only [Cells, cellsC, Im, Row, El, RTH, TreeH, TR, AU, AL, OrNil, Many, MaO, FlatO, Nat.zero_add, Nat.reduceAdd] at hc))
              go_ret
              exact ⟨rfl, S.out⟩
          · have hil' : decide ((i : Int) < be.length) = false := by simpa using hil
            go_wp2_with (first | ((first | (with_reducible refine wpl_seal S ?_) | (with_reducible refine cw_seal S ?_) | (with_reducible refine bp_seal S ?_) | (with_reducible refine ca_seal S ?_)); clear S; (try clear hc); intro w1 S; (try simp only [List.set_cons_zero, List.set_cons_succ, List.nil_append] at S); have hc := S.cells; simp only [Cells, cellsC, Im, Row, El, RTH, TreeH, TR, AU, AL, OrNil, Many, MaO, FlatO, Nat.zero_add, Nat.reduceAdd] at hc) | (go_at_call 13; refine (lives17_c _ _ S.bd).mono ?_; rintro e w1 ⟨rfl, hx⟩; replace S := S.ext hx; clear hx; (try clear hc); have hc := S.cells; simp only [Cells, cellsC, Im, Row, El, RTH, TreeH, TR, AU, AL, OrNil, Many, MaO, FlatO, Nat.zero_add, Nat.reduceAdd] at hc))
            go_ret
            exact ⟨rfl, S.out⟩
end Go.Proofs.Ytpgphhkhjbhimaa
