/- ColsOwn: the law's walk. -/
import Derived.Test.YtpgphhkhjbhimaaCNew
import Derived.Deep.DeepCutAuto
import Derived.Deep.CutBlock
namespace Go.Proofs.Ytpgphhkhjbhimaa
open Go.RowKit X
set_option maxHeartbeats 4000000
set_option maxRecDepth 8000
set_option linter.unusedSimpArgs false
set_option linter.unusedVariables false
theorem sl_one {w : World} {D : Fp} {b o : Nat} {xs : List Int} (h : Sl kI w D (some ⟨b, o, none⟩) xs) {k : Nat} (hk : k < xs.length) : Sl kI w D (some ⟨b, o + k, none⟩) [xs[k]] := by
  intro i hi
  obtain rfl : i = 0 := by simpa using hi
  obtain ⟨b', o', cs, e, h1, h2, h3, h4, h5⟩ := h k hk
  cases e
  refine ⟨b, o + k, cs, rfl, h1, h2, h3, h4, fun j u hj => ?_⟩
  have := h5 j u hj
  rw [show o + k + 0 * kI.size + j = o + k * kI.size + j by simp [kI, Kd.int]]
  exact this
theorem outT_one (W told : List (List Int)) : outT W told 1 = [endsL W (sinceL told 0)] := rfl
theorem mem_endsL {W : List (List Int)} {s : List Int} {i : Nat} (hi : i < W.length) (h : W[i] <:+ s) : (i : Int) ∈ endsL W s := by
  unfold endsL
  rw [List.mem_map]
  refine ⟨i, ?_, rfl⟩
  rw [List.mem_filter, List.mem_range]
  exact ⟨hi, by rw [pa_eq hi]; simpa using h⟩
theorem kown_c (cs ah : List (List Int)) (A B : Option Addr) (c d : Nat) (w : World) (I : Fp) (hI : ∀ b, I b → b < w.heap.size) (hx : Sl kII w I A cs) (hy : Sl kII w I B ah) :
    Calls Try.prog 3 #[.slice A cs.length c, .slice B ah.length d] w fun e w' => e = .returned (.bool true) ∧ Ext w w' := by
  have S := ((SH.start w I hI).know (h := Im kII B ah) hy).know (h := Im kII A cs) hx
  clear hx hy
  have HF := As.mk (smallZ_few cs)
  obtain ⟨own, hown⟩ : ∃ own, smallZ (cs.take 6) = own := ⟨_, rfl⟩
  have HOW := As.mk hown
  rw [hown] at HF
  clear hown
  have hol := HF.out.len
  have hc := S.cells; simp only [Cells, cellsC, Im, Row, El, RTH, TreeH, TR, AU, AL, OrNil, Many, MaO, FlatO, Nat.zero_add, Nat.reduceAdd] at hc
  go_enter Try.func3, Try.ntmps3
  go_wp2_with (first | ((first | (with_reducible refine wpl_seal S ?_) | (with_reducible refine cw_seal S ?_) | (with_reducible refine bp_seal S ?_) | (with_reducible refine ca_seal S ?_)); clear S; (try clear hc); intro w1 S; (try simp only [List.set_cons_zero, List.set_cons_succ, List.nil_append] at S); have hc := S.cells; simp only [Cells, cellsC, Im, Row, El, RTH, TreeH, TR, AU, AL, OrNil, Many, MaO, FlatO, Nat.zero_add, Nat.reduceAdd] at hc) | (go_at_call 9; refine (zsmall_c cs A c _ _ S.bd (S.im 0 rfl)).mono ?_; rw [HOW.out]; rintro e w1 ⟨v, rfl, hu⟩; obtain ⟨I1, S1, hI1⟩ := S.new hu; clear S hu hI1; (try clear hc); have S := S1; clear S1; have hc := S.cells; simp only [Cells, cellsC, Im, Row, El, RTH, TreeH, TR, AU, AL, OrNil, Many, MaO, FlatO, Nat.zero_add, Nat.reduceAdd] at hc; obtain ⟨A5, c5, I1, e1, hc5, S1, hI1⟩ := S.frow 0 rfl; subst e1; clear S hI1; have S := S1; clear S1; simp only [List.set_cons_zero, List.set_cons_succ, List.nil_append] at S; have hc := S.cells; simp only [Cells, cellsC, Im, Row, El, RTH, TreeH, TR, AU, AL, OrNil, Many, MaO, FlatO, Nat.zero_add, Nat.reduceAdd] at hc))
  replace S := ((S.sel [0, 2] (by decide) rfl (by simp) : SH _ _ _ [_, _] _ _) : SH _ _ _ [_, _] _ _)
  clear hc
  go_loopw [6] (fun v w' => ∃ (i : Nat), v = .int .i64 i ∧ i ≤ own.length ∧ ∃ J, As (SH No I w [Im kII A5 own, Im kII B ah] w' J)) (fun v _ => own.length - (intOf v).toNat)
  case atStart => exact ⟨0, rfl, by omega, _, ⟨S⟩⟩
  case round =>
    clear S
    obtain ⟨i, rfl, hi, J, ⟨S⟩⟩ := hrel
    have hc := S.cells; simp only [Cells, cellsC, Im, Row, El, RTH, TreeH, TR, AU, AL, OrNil, Many, MaO, FlatO, Nat.zero_add, Nat.reduceAdd] at hc
    by_cases hil : i < own.length
    · have hil' : decide ((i : Int) < own.length) = true := by simpa using hil
      go_upto_block 2 with (first | ((first | (with_reducible refine wpl_seal S ?_) | (with_reducible refine cw_seal S ?_) | (with_reducible refine bp_seal S ?_) | (with_reducible refine ca_seal S ?_)); clear S; (try clear hc); intro w1 S; (try simp only [List.set_cons_zero, List.set_cons_succ, List.nil_append] at S); have hc := S.cells; simp only [Cells, cellsC, Im, Row, El, RTH, TreeH, TR, AU, AL, OrNil, Many, MaO, FlatO, Nat.zero_add, Nat.reduceAdd] at hc) | (go_at_call 10; refine (cnew_t S own 1 (by omega) A5 c5 (S.im 0 rfl) HF.out).mono ?_; rintro e w1 ⟨gm, J1, rfl, S2⟩; clear S hc; have S := S2; clear S2; have hc := S.cells; simp only [Cells, cellsC, Im, Row, El, RTH, TreeH, TR, AU, AL, OrNil, Many, MaO, FlatO, Nat.zero_add, Nat.reduceAdd] at hc))
      clear hc
      go_cut [9] (fun v w' => ∃ (told : List (List Int)) (J : Fp), As (Told told 1) ∧ told.length ≤ 6 ∧ As (SH No I w [MaT gm own told 1, Im kII A5 own, Im kII B ah] w' J))
      case first =>
        go_wp2_with (first | ((first | (with_reducible refine wpl_seal S ?_) | (with_reducible refine cw_seal S ?_) | (with_reducible refine bp_seal S ?_) | (with_reducible refine ca_seal S ?_)); clear S; (try clear hc); intro w1 S; (try simp only [List.set_cons_zero, List.set_cons_succ, List.nil_append] at S); have hc := S.cells; simp only [Cells, cellsC, Im, Row, El, RTH, TreeH, TR, AU, AL, OrNil, Many, MaO, FlatO, Nat.zero_add, Nat.reduceAdd] at hc))
        go_loopw [9] (fun v w' => ∃ (k : Nat) (told : List (List Int)) (J : Fp), v = .int .i64 k ∧ k ≤ ah.length ∧ k ≤ 6 ∧ told.length = k ∧ As (Told told 1) ∧ As (SH No I w [MaT gm own told 1, Im kII A5 own, Im kII B ah] w' J)) (fun v _ => ah.length - (intOf v).toNat)
        case atStart => exact ⟨0, [], _, rfl, by omega, by omega, rfl, ⟨Told.nil⟩, ⟨S⟩⟩
        case round =>
          clear S
          obtain ⟨k, told, J, rfl, hk, hk6, htl, HT, ⟨S⟩⟩ := hrel
          have HTL := As.mk htl
          have htl6 : told.length ≤ 6 := by omega
          clear htl
          have hc := S.cells; simp only [Cells, cellsC, Im, Row, El, RTH, TreeH, TR, AU, AL, OrNil, Many, MaO, FlatO, Nat.zero_add, Nat.reduceAdd] at hc
          by_cases hkl : k < ah.length
          · have hkl' : decide ((k : Int) < ah.length) = true := by simpa using hkl
            by_cases hkm : k < 6
            · have hkm' : decide ((k : Int) < 6) = true := by simp; omega
              obtain ⟨b, o, A3, c3, rfl, hcx, hc3, hs3⟩ := (S.im 2 rfl).sl_at hkl
              replace S := S.know (h := Im kI A3 ah[k]) hs3
              clear hs3
              generalize ah[k] = x at S hcx hc3
              have hc := S.cells; simp only [Cells, cellsC, Im, Row, El, RTH, TreeH, TR, AU, AL, OrNil, Many, MaO, FlatO, Nat.zero_add, Nat.reduceAdd] at hc
              go_wp2_with (first | ((first | (with_reducible refine wpl_seal S ?_) | (with_reducible refine cw_seal S ?_) | (with_reducible refine bp_seal S ?_) | (with_reducible refine ca_seal S ?_)); clear S; (try clear hc); intro w1 S; (try simp only [List.set_cons_zero, List.set_cons_succ, List.nil_append] at S); have hc := S.cells; simp only [Cells, cellsC, Im, Row, El, RTH, TreeH, TR, AU, AL, OrNil, Many, MaO, FlatO, Nat.zero_add, Nat.reduceAdd] at hc) | (go_at_call 12; refine (zrow_c x 1 (by omega) A3 c3 _ _ S.bd (S.im 0 rfl)).mono ?_; rintro e w1 ⟨g, rfl, hu⟩; obtain ⟨I1, S1, hI1⟩ := S.new hu; clear S hu hI1; (try clear hc); have S := S1; clear S1; have hc := S.cells; simp only [Cells, cellsC, Im, Row, El, RTH, TreeH, TR, AU, AL, OrNil, Many, MaO, FlatO, Nat.zero_add, Nat.reduceAdd] at hc; have hc := S.cells; simp only [Cells, cellsC, Im, Row, El, RTH, TreeH, TR, AU, AL, OrNil, Many, MaO, FlatO, Nat.zero_add, Nat.reduceAdd] at hc) | (go_at_call 11; refine (crow_t S 2 rfl _ 1 (S.im 0 rfl) (rowZ_len x 1) (fun y hy => by have := rowZ_mem hy; omega) (by omega) HF.out (by omega)).mono ?_; rintro e w1 ⟨g2, J5, rfl, S2⟩; clear S hc; have S := S2; clear S2; simp only [List.set_cons_zero, List.set_cons_succ, List.nil_append] at S; have hc := S.cells; simp only [Cells, cellsC, Im, Row, El, RTH, TreeH, TR, AU, AL, OrNil, Many, MaO, FlatO, Nat.zero_add, Nat.reduceAdd] at hc))
              go_roundw
              case rel => exact ⟨k + 1, told ++ [rowZ x 1], _, by go_num, by omega, by omega, by rw [List.length_append, HTL.out]; rfl, ⟨HT.out.rowZ x⟩, ⟨(S.sel [3, 4, 5] (by decide) rfl (by simp) : SH _ _ _ [_, _, _] _ _)⟩⟩
              case measure => simp [intOf]; omega
            · have hkm' : decide ((k : Int) < 6) = false := by simp; omega
              go_wp2_with (first | ((first | (with_reducible refine wpl_seal S ?_) | (with_reducible refine cw_seal S ?_) | (with_reducible refine bp_seal S ?_) | (with_reducible refine ca_seal S ?_)); clear S; (try clear hc); intro w1 S; (try simp only [List.set_cons_zero, List.set_cons_succ, List.nil_append] at S); have hc := S.cells; simp only [Cells, cellsC, Im, Row, El, RTH, TreeH, TR, AU, AL, OrNil, Many, MaO, FlatO, Nat.zero_add, Nat.reduceAdd] at hc))
              go_meet
              case rel => exact ⟨told, _, HT, by omega, ⟨by first | exact S | trivial⟩⟩
          · have hkl' : decide ((k : Int) < ah.length) = false := by simpa using hkl
            go_wp2_with (first | ((first | (with_reducible refine wpl_seal S ?_) | (with_reducible refine cw_seal S ?_) | (with_reducible refine bp_seal S ?_) | (with_reducible refine ca_seal S ?_)); clear S; (try clear hc); intro w1 S; (try simp only [List.set_cons_zero, List.set_cons_succ, List.nil_append] at S); have hc := S.cells; simp only [Cells, cellsC, Im, Row, El, RTH, TreeH, TR, AU, AL, OrNil, Many, MaO, FlatO, Nat.zero_add, Nat.reduceAdd] at hc))
            go_meet
            case rel => exact ⟨told, _, HT, by omega, ⟨by first | exact S | trivial⟩⟩
      case rest =>
        clear S
        obtain ⟨told0, J, HT0, htl0, ⟨S⟩⟩ := hcut
        obtain ⟨l, hl⟩ : ∃ l, own[i] = l := ⟨_, rfl⟩
        have HLK := As.mk hl
        have he := HF.out.each _ (List.getElem_mem hil)
        rw [hl] at he
        have hl4 : l.length ≤ 4 := he.2.1
        have HPO := As.mk he.2.2
        have hl0 : 0 < l.length := by
          rcases Nat.eq_zero_or_pos l.length with h | h
          · exact absurd (List.eq_nil_of_length_eq_zero h) he.1
          · exact h
        clear hl he
        have hc := S.cells; simp only [Cells, cellsC, Im, Row, El, RTH, TreeH, TR, AU, AL, OrNil, Many, MaO, FlatO, Nat.zero_add, Nat.reduceAdd] at hc
        go_wp2_with (first | ((first | (with_reducible refine wpl_seal S ?_) | (with_reducible refine cw_seal S ?_) | (with_reducible refine bp_seal S ?_) | (with_reducible refine ca_seal S ?_)); clear S; (try clear hc); intro w1 S; (try simp only [List.set_cons_zero, List.set_cons_succ, List.nil_append] at S); have hc := S.cells; simp only [Cells, cellsC, Im, Row, El, RTH, TreeH, TR, AU, AL, OrNil, Many, MaO, FlatO, Nat.zero_add, Nat.reduceAdd] at hc))
        clear hc
        go_loopw [10, 11] (fun hv v w' => ∃ (k : Nat) (hb : Bool) (told : List (List Int)) (J : Fp), v = .int .i64 k ∧ hv = .bool hb ∧ k ≤ l.length ∧ told.length ≤ 6 + k ∧ As (Told told 1) ∧ As (∃ s, sinceL told 0 = s ++ l.take k) ∧ As (0 < k → hb = decide ((i : Int) ∈ endsL own (sinceL told 0))) ∧ As (SH No I w [MaT gm own told 1, Im kII A5 own, Im kII B ah] w' J)) (fun _ v _ => l.length - (intOf v).toNat)
        case atStart => exact ⟨0, false, told0, _, rfl, rfl, by omega, by omega, HT0, ⟨_, (List.append_nil _).symm⟩, ⟨fun h => absurd h (Nat.lt_irrefl 0)⟩, ⟨S⟩⟩
        case round =>
          clear S
          obtain ⟨k, hb, told, J, rfl, rfl, hk, htl, HT, HSN, HHB, ⟨S⟩⟩ := hrel
          obtain ⟨b, o, A3, c3, rfl, hcx, hc3, hs3⟩ := (S.im 1 rfl).sl_at hil
          rw [HLK.out] at hcx hc3 hs3
          have hc := S.cells; simp only [Cells, cellsC, Im, Row, El, RTH, TreeH, TR, AU, AL, OrNil, Many, MaO, FlatO, Nat.zero_add, Nat.reduceAdd] at hc
          by_cases hkl : k < l.length
          · have hkl' : decide ((k : Int) < l.length) = true := by simpa using hkl
            obtain ⟨b3, o3, rfl, hcy⟩ := hs3.int_at hkl
            have hx1 := sl_one hs3 hkl
            have hyr := HPO.out _ (List.getElem_mem hkl)
            have HT2 : As (Told (told ++ [[l[k]]]) 1) := ⟨HT.out.snoc rfl fun y hy => by rw [List.mem_singleton] at hy; subst hy; omega⟩
            have HS2 : As (∃ s, sinceL (told ++ [[l[k]]]) 0 = s ++ l.take (k + 1)) := ⟨by
              obtain ⟨s, hs⟩ := HSN.out
              refine ⟨s, ?_⟩
              rw [sinceL_snoc (r := [l[k]]) (by simp)]
              rw [List.getElem_singleton, if_neg (by omega), hs, List.take_succ_eq_append_getElem hkl, List.append_assoc]⟩
            replace S := S.know (h := Im kI (some ⟨b3, o3 + k, none⟩) [l[k]]) hx1
            clear hx1 hs3 HSN HHB
            have HLY : As (∀ y ∈ [l[k]], -1 ≤ y ∧ y ≤ 9223372036854775807) := ⟨fun y hy => by rw [List.mem_singleton] at hy; subst hy; omega⟩
            generalize l[k] = x at S hcy hyr HT2 HS2 HLY
            have hc := S.cells; simp only [Cells, cellsC, Im, Row, El, RTH, TreeH, TR, AU, AL, OrNil, Many, MaO, FlatO, Nat.zero_add, Nat.reduceAdd] at hc
            go_wp2_with (first | ((first | (with_reducible refine wpl_seal S ?_) | (with_reducible refine cw_seal S ?_) | (with_reducible refine bp_seal S ?_) | (with_reducible refine ca_seal S ?_)); clear S; (try clear hc); intro w1 S; (try simp only [List.set_cons_zero, List.set_cons_succ, List.nil_append] at S); have hc := S.cells; simp only [Cells, cellsC, Im, Row, El, RTH, TreeH, TR, AU, AL, OrNil, Many, MaO, FlatO, Nat.zero_add, Nat.reduceAdd] at hc) | (go_at_call 11; refine (crow_t S 1 rfl _ _ (S.im 0 rfl) rfl HLY.out (by omega) HF.out (by omega)).mono ?_; rintro e w1 ⟨g2, J5, rfl, S2⟩; clear S hc; have S := S2; clear S2; simp only [List.set_cons_zero, List.set_cons_succ, List.nil_append] at S; have hc := S.cells; simp only [Cells, cellsC, Im, Row, El, RTH, TreeH, TR, AU, AL, OrNil, Many, MaO, FlatO, Nat.zero_add, Nat.reduceAdd] at hc))
            clear hc
            obtain ⟨E, hE⟩ : ∃ E, endsL own (sinceL (told ++ [[x]]) 0) = E := ⟨_, rfl⟩
            have HE := As.mk hE
            have hEl : E.length ≤ 6 := by rw [← hE]; have h := endK_le (W := own) (x := sinceL (told ++ [[x]]) 0) (m := own.length); change (endsL own _).length ≤ _ at h; omega
            rw [outT_one, hE] at S
            clear hE hcx hc3 hcy
            have htl2 : (told ++ [[x]]).length ≤ 6 + (k + 1) := by rw [List.length_append]; simp; omega
            generalize told ++ [[x]] = told2 at S HE HT2 HS2 htl2
            go_loopw [10, 14] (fun hv v w' => ∃ (j : Nat) (hb : Bool) (J : Fp), v = .int .i64 j ∧ hv = .bool hb ∧ j ≤ E.length ∧ As (hb = decide ((i : Int) ∈ E.take j)) ∧ As (SH No I w [Im kII (some ⟨g2, 0, none⟩) [E], MaT gm own told2 1, Im kII (some ⟨b, o, none⟩) own, Im kII B ah] w' J)) (fun _ v _ => E.length - (intOf v).toNat)
            case atStart => exact ⟨0, false, _, rfl, rfl, by omega, ⟨by simp⟩, ⟨(S.sel [0, 2, 3, 4] (by decide) rfl (by simp) : SH _ _ _ [_, _, _, _] _ _)⟩⟩
            case round =>
              clear S
              obtain ⟨j, hb2, J, rfl, rfl, hj, HB2, ⟨S⟩⟩ := hrel
              obtain ⟨b7, o7, A7, c7, e7, hc7, -, hs7⟩ := im_at (S.im 0 rfl) 0 E rfl
              cases e7
              rw [Nat.add_zero] at hc7
              have hc := S.cells; simp only [Cells, cellsC, Im, Row, El, RTH, TreeH, TR, AU, AL, OrNil, Many, MaO, FlatO, Nat.zero_add, Nat.reduceAdd] at hc
              by_cases hjl : j < E.length
              · have hjl' : decide ((j : Int) < E.length) = true := by simpa using hjl
                obtain ⟨b8, o8, rfl, hc8⟩ := hs7.int_at hjl
                have HTK : As (E.take (j + 1) = E.take j ++ [E[j]]) := ⟨List.take_succ_eq_append_getElem hjl⟩
                generalize E[j] = y at hc8 HTK
                obtain ⟨q, hq⟩ : ∃ q, (y == (i : Int)) = q := ⟨_, rfl⟩
                have HNX : As ((hb2 || q) = decide ((i : Int) ∈ E.take (j + 1))) := ⟨by
                  rw [HTK.out, HB2.out, ← hq]
                  by_cases h1 : (i : Int) ∈ E.take j
                  · rw [decide_eq_true h1, decide_eq_true (List.mem_append_left _ h1)]; rfl
                  · rw [decide_eq_false h1, Bool.false_or, Bool.eq_iff_iff, beq_iff_eq, decide_eq_true_eq, List.mem_append, List.mem_singleton]
                    exact ⟨fun h => .inr h.symm, fun h => (h.resolve_left h1).symm⟩⟩
                clear HB2 HTK
                rcases hb2 with _ | _
                · go_wp2_with (first | ((first | (with_reducible refine wpl_seal S ?_) | (with_reducible refine cw_seal S ?_) | (with_reducible refine bp_seal S ?_) | (with_reducible refine ca_seal S ?_)); clear S; (try clear hc); intro w1 S; (try simp only [List.set_cons_zero, List.set_cons_succ, List.nil_append] at S); have hc := S.cells; simp only [Cells, cellsC, Im, Row, El, RTH, TreeH, TR, AU, AL, OrNil, Many, MaO, FlatO, Nat.zero_add, Nat.reduceAdd] at hc))
                  go_roundw
                  case rel => exact ⟨j + 1, q, _, by go_num, by first | rfl | (rw [hq]) | simp [hq], by omega, ⟨HNX.out⟩, ⟨by first | exact S | trivial⟩⟩
                  case measure => simp [intOf]; omega
                · go_wp2_with (first | ((first | (with_reducible refine wpl_seal S ?_) | (with_reducible refine cw_seal S ?_) | (with_reducible refine bp_seal S ?_) | (with_reducible refine ca_seal S ?_)); clear S; (try clear hc); intro w1 S; (try simp only [List.set_cons_zero, List.set_cons_succ, List.nil_append] at S); have hc := S.cells; simp only [Cells, cellsC, Im, Row, El, RTH, TreeH, TR, AU, AL, OrNil, Many, MaO, FlatO, Nat.zero_add, Nat.reduceAdd] at hc))
                  go_roundw
                  case rel => exact ⟨j + 1, true, _, by go_num, rfl, by omega, ⟨by rw [← HNX.out]; rfl⟩, ⟨by first | exact S | trivial⟩⟩
                  case measure => simp [intOf]; omega
              · have hjl' : decide ((j : Int) < E.length) = false := by simpa using hjl
                obtain rfl : j = E.length := by omega
                rw [List.take_length, ← HE.out] at HB2
                go_wp2_with (first | ((first | (with_reducible refine wpl_seal S ?_) | (with_reducible refine cw_seal S ?_) | (with_reducible refine bp_seal S ?_) | (with_reducible refine ca_seal S ?_)); clear S; (try clear hc); intro w1 S; (try simp only [List.set_cons_zero, List.set_cons_succ, List.nil_append] at S); have hc := S.cells; simp only [Cells, cellsC, Im, Row, El, RTH, TreeH, TR, AU, AL, OrNil, Many, MaO, FlatO, Nat.zero_add, Nat.reduceAdd] at hc))
                go_roundw
                case rel => exact ⟨k + 1, hb2, told2, _, by go_num, rfl, by omega, htl2, HT2, HS2, ⟨fun _ => HB2.out⟩, ⟨(S.sel [1, 2, 3] (by decide) rfl (by simp) : SH _ _ _ [_, _, _] _ _)⟩⟩
                case measure => simp [intOf]; omega
          · have hkl' : decide ((k : Int) < l.length) = false := by simpa using hkl
            obtain rfl : k = l.length := by omega
            obtain rfl : hb = true := by
              rw [HHB.out hl0]
              obtain ⟨s, hs⟩ := HSN.out
              rw [List.take_length] at hs
              exact decide_eq_true (mem_endsL hil (by rw [HLK.out, hs]; exact List.suffix_append _ _))
            go_wp2_with (first | ((first | (with_reducible refine wpl_seal S ?_) | (with_reducible refine cw_seal S ?_) | (with_reducible refine bp_seal S ?_) | (with_reducible refine ca_seal S ?_)); clear S; (try clear hc); intro w1 S; (try simp only [List.set_cons_zero, List.set_cons_succ, List.nil_append] at S); have hc := S.cells; simp only [Cells, cellsC, Im, Row, El, RTH, TreeH, TR, AU, AL, OrNil, Many, MaO, FlatO, Nat.zero_add, Nat.reduceAdd] at hc))
            go_roundw
            case rel => exact ⟨i + 1, by go_num, by omega, _, ⟨(S.sel [1, 2] (by decide) rfl (by simp) : SH _ _ _ [_, _] _ _)⟩⟩
            case measure => simp [intOf]; omega
    · have hil' : decide ((i : Int) < own.length) = false := by simpa using hil
      go_wp2_with (first | ((first | (with_reducible refine wpl_seal S ?_) | (with_reducible refine cw_seal S ?_) | (with_reducible refine bp_seal S ?_) | (with_reducible refine ca_seal S ?_)); clear S; (try clear hc); intro w1 S; (try simp only [List.set_cons_zero, List.set_cons_succ, List.nil_append] at S); have hc := S.cells; simp only [Cells, cellsC, Im, Row, El, RTH, TreeH, TR, AU, AL, OrNil, Many, MaO, FlatO, Nat.zero_add, Nat.reduceAdd] at hc) | (go_at_call 13; refine (lives17_c _ _ S.bd).mono ?_; rintro e w1 ⟨rfl, hx⟩; replace S := S.ext hx; clear hx; (try clear hc); have hc := S.cells; simp only [Cells, cellsC, Im, Row, El, RTH, TreeH, TR, AU, AL, OrNil, Many, MaO, FlatO, Nat.zero_add, Nat.reduceAdd] at hc))
      go_ret
      exact ⟨rfl, S.out⟩
end Go.Proofs.Ytpgphhkhjbhimaa
