/- An automaton of words, made. -/
import Derived.Test.YtiemglijfdaliaaAutN
import Derived.Test.YtiemglijfdaliaaBeg
import Derived.Test.YtiemglijfdaliaaXRef
namespace Go.Proofs.Ytiemglijfdaliaa
open Go.RowKit X
set_option maxHeartbeats 4000000
set_option maxRecDepth 8000
set_option linter.unusedSimpArgs false
set_option linter.unusedVariables false
def rawN (ls : List (List Int)) (k : Nat) : List (List Int) := ((ls.take k).filter (fun x => decide (0 < x.length))).map (·.take 5)
def ownN (raw : Bool) (ls : List (List Int)) : List (List Int) := if raw then rawN ls 8 else smallT ls 8
theorem rawN_succ {ls : List (List Int)} {k : Nat} (h : k < ls.length) : rawN ls (k + 1) = rawN ls k ++ (if 0 < ls[k].length then [ls[k].take 5] else []) := by
  unfold rawN
  rw [List.take_succ_eq_append_getElem h, List.filter_append, List.map_append]
  congr 1
  by_cases h0 : 0 < ls[k].length
  · rw [if_pos h0, List.filter_cons_of_pos (p := fun x : List Int => decide (0 < x.length)) (by simpa using h0)]; rfl
  · rw [if_neg h0, List.filter_cons_of_neg (p := fun x : List Int => decide (0 < x.length)) (by simpa using h0)]; rfl
theorem rawN_all {ls : List (List Int)} {k m : Nat} (h : ¬ (k < ls.length ∧ k < m)) (hk : k ≤ m) : rawN ls k = rawN ls m := by
  unfold rawN
  by_cases h1 : k < ls.length
  · have : k = m := by omega
    rw [this]
  · rw [List.take_of_length_le (by omega), List.take_of_length_le (by omega)]
theorem rawN_len (ls : List (List Int)) (m : Nat) : (rawN ls m).length ≤ m := by
  unfold rawN; rw [List.length_map]
  exact Nat.le_trans (List.length_filter_le _ _) (by rw [List.length_take]; omega)
theorem ownN_len (raw : Bool) (ls : List (List Int)) : (ownN raw ls).length ≤ 8 := by
  unfold ownN; split
  · exact rawN_len ls 8
  · exact smallT_len ls 8
theorem ownN_ne (raw : Bool) (ls : List (List Int)) : ∀ x ∈ ownN raw ls, x ≠ [] ∧ x.length ≤ 5 := by
  intro x hx
  unfold ownN at hx
  split at hx
  · unfold rawN at hx
    obtain ⟨y, hy, rfl⟩ := List.mem_map.1 hx
    rw [List.mem_filter] at hy
    have h0 : 0 < y.length := by simpa using hy.2
    refine ⟨fun e => ?_, by rw [List.length_take]; omega⟩
    have := congrArg List.length e
    rw [List.length_take, List.length_nil] at this
    omega
  · exact smallT_ne x hx
theorem ownN_five (raw : Bool) (ls : List (List Int)) : ∀ x ∈ ownN raw ls, x.length ≤ 5 := fun x hx => (ownN_ne raw ls x hx).2
theorem begin13_c (raw : Bool) (ls : List (List Int)) (A : Option Addr) (c : Nat) (w : World) (I : Fp) (hI : ∀ b, I b → b < w.heap.size) (hx : Sl kW w I A ls) :
    Calls Try.prog 9 #[.slice A ls.length c, .bool raw] w fun e w' => ∃ a v L W J, e = .returned (.tuple #[.pointer (some ⟨a, 0, none⟩), v]) ∧ SH No I w [AU a L W, RTH v L W] w' J ∧ begT (ownN raw ls) = (L, W) ∧ L.length ≤ 41 ∧ W.length ≤ 8 ∧ (∀ x ∈ L, x.length ≤ 5) := by
  have S := (SH.start w I hI).know (h := Im kW A ls) hx
  clear hx
  have HOL := As.mk (smallT_len ls 8)
  have hc := S.cells; simp only [Cells, cellsC, Im, Row, El, RTH, TreeH, TR, AU, Nat.zero_add, Nat.reduceAdd] at hc
  go_enter Try.func9, Try.ntmps9
  go_upto_if 17 with (first | ((first | (with_reducible refine wpl_seal S ?_) | (with_reducible refine cw_seal S ?_) | (with_reducible refine bp_seal S ?_) | (with_reducible refine ca_seal S ?_)); clear S; (try clear hc); intro w1 S; (try simp only [List.set_cons_zero, List.set_cons_succ, List.nil_append] at S); have hc := S.cells; simp only [Cells, cellsC, Im, Row, El, RTH, TreeH, TR, AU, Nat.zero_add, Nat.reduceAdd] at hc) | (go_at_call 20; refine (new_c _).mono ?_; rintro e w1 ⟨b, rfl, hu⟩; obtain ⟨I1, S1, hI1⟩ := S.new (hu.any _); clear S hu hI1; (try clear hc); have S := S1; clear S1; have hc := S.cells; simp only [Cells, cellsC, Im, Row, El, RTH, TreeH, TR, AU, Nat.zero_add, Nat.reduceAdd] at hc) | (go_at_call 21; refine (rnew_c _).mono ?_; rintro e w1 ⟨v, rfl, hu⟩; obtain ⟨I1, S1, hI1⟩ := S.new (hu.any _); clear S hu hI1; (try clear hc); have S := S1; clear S1; have hc := S.cells; simp only [Cells, cellsC, Im, Row, El, RTH, TreeH, TR, AU, Nat.zero_add, Nat.reduceAdd] at hc; obtain ⟨A1, c1, A2, c2, rfl, hl1, hl2, hs1, hs2⟩ := S.rt 0 rfl; replace S := (S.know (h := Im kW A1 [[]]) hs1).know (h := Im kW A2 ([] : List (List Int))) hs2; clear hs1 hs2; have hc := S.cells; simp only [Cells, cellsC, Im, Row, El, RTH, TreeH, TR, AU, Nat.zero_add, Nat.reduceAdd] at hc) | (go_at_call 19; refine (small_c ls A c _ _ S.bd (S.im 6 rfl)).mono ?_; rintro e w1 ⟨v, rfl, hu⟩; obtain ⟨I1, S1, hI1⟩ := S.new hu; clear S hu hI1; (try clear hc); have S := S1; clear S1; have hc := S.cells; simp only [Cells, cellsC, Im, Row, El, RTH, TreeH, TR, AU, Nat.zero_add, Nat.reduceAdd] at hc; obtain ⟨Ao, co, I1, e1, hco, S1, hI1⟩ := S.frow 0 rfl; subst e1; clear S hI1; have S := S1; clear S1; simp only [List.set_cons_zero, List.set_cons_succ, List.nil_append] at S; clear hc; have hc := S.cells; simp only [Cells, cellsC, Im, Row, El, RTH, TreeH, TR, AU, Nat.zero_add, Nat.reduceAdd] at hc))
  clear hc
  obtain ⟨gT, egT⟩ := S.name 1 rfl; rw [← egT] at S ⊢; clear egT
  obtain ⟨g5, eg5⟩ := S.name 6 rfl; rw [← eg5] at S ⊢; clear eg5
  replace S := (S.sel [0, 1, 5, 6, 7, 2, 3] (by decide) rfl (by simp) : SH _ _ _ [_, _, _, _, _, _, _] _ _)
  go_cut [8] (fun o w' => ∃ (Ao : Option Addr) (co : Nat) (J : Fp), o = .slice Ao (ownN raw ls).length co ∧ As (SH No I w [Im kW Ao (ownN raw ls), Cel gT 27 [.slice A1 1 c1, .slice A2 0 c2], TreeH b [⟨-1, 0, 0, [], []⟩] [], Cel g5 27 [.slice none 0 0, .slice none 0 0], Im kW A1 [[]], Im kW A2 []] w' J))
  case first =>
    have hc := S.cells; simp only [Cells, cellsC, Im, Row, El, RTH, TreeH, TR, AU, Nat.zero_add, Nat.reduceAdd] at hc
    cases raw
    · go_wp2_with (first | ((first | (with_reducible refine wpl_seal S ?_) | (with_reducible refine cw_seal S ?_) | (with_reducible refine bp_seal S ?_) | (with_reducible refine ca_seal S ?_)); clear S; (try clear hc); intro w1 S; (try simp only [List.set_cons_zero, List.set_cons_succ, List.nil_append] at S); have hc := S.cells; simp only [Cells, cellsC, Im, Row, El, RTH, TreeH, TR, AU, Nat.zero_add, Nat.reduceAdd] at hc))
      go_meet
      case rel => exact ⟨_, _, _, rfl, ⟨(S.sel [0, 1, 2, 3, 6, 5] (by decide) rfl (by simp) : SH _ _ _ [_, _, _, _, _, _] _ _)⟩⟩
    · replace S := ((S.sel [1, 2, 3, 4, 5, 6] (by decide) rfl (by simp) : SH _ _ _ [_, _, _, _, _, _] _ _)).nilrow (k := kW)
      go_wp2_with (first | ((first | (with_reducible refine wpl_seal S ?_) | (with_reducible refine cw_seal S ?_) | (with_reducible refine bp_seal S ?_) | (with_reducible refine ca_seal S ?_)); clear S; (try clear hc); intro w1 S; (try simp only [List.set_cons_zero, List.set_cons_succ, List.nil_append] at S); have hc := S.cells; simp only [Cells, cellsC, Im, Row, El, RTH, TreeH, TR, AU, Nat.zero_add, Nat.reduceAdd] at hc))
      clear hc
      go_loopw [8, 9] (fun o i w' => ∃ (k : Nat), k ≤ ls.length ∧ k ≤ 8 ∧ i = .int .i64 k ∧ As (SH No I w [Row kW o (rawN ls k), Cel gT 27 [.slice A1 1 c1, .slice A2 0 c2], TreeH b [⟨-1, 0, 0, [], []⟩] [], Cel g5 27 [.slice none 0 0, .slice none 0 0], Im kW A ls, Im kW A2 [], Im kW A1 [[]]] w' I1)) (fun _ i _ => ls.length - (intOf i).toNat)
      case atStart => exact ⟨0, Nat.zero_le _, Nat.zero_le _, rfl, ⟨S⟩⟩
      case round =>
        clear S
        obtain ⟨k, hk, hkm, rfl, ⟨S⟩⟩ := hrel
        have hc := S.cells; simp only [Cells, cellsC, Im, Row, El, RTH, TreeH, TR, AU, Nat.zero_add, Nat.reduceAdd] at hc
        by_cases hlt : k < ls.length
        · have hlt' : decide ((k : Int) < ls.length) = true := by simpa using hlt
          by_cases hlm : k < 8
          · have hlm' : decide ((k : Int) < 8) = true := by simp; omega
            obtain ⟨lb, lo, A3, c3, rfl, hcx, hc3, hs1⟩ := (S.im 4 rfl).sl_at hlt
            replace S := S.know (h := Im kP A3 ls[k]) hs1
            have HR := As.mk (rawN_succ hlt)
            have hrl := rawN_len ls k
            have hqx := ClE.cell (w := wr.drew) hcx
            clear hs1
            have hq := S.cellsE; simp only [CellsE, cellsE, Im, Row, El, RTH, TreeH, TR, AU, Nat.zero_add, Nat.reduceAdd] at hq
            obtain ⟨m, HM, hm1⟩ : ∃ m, As ((ls[k].take 5).length = m) ∧ m ≤ 5 := ⟨_, ⟨rfl⟩, by rw [List.length_take]; omega⟩
            have HE6 : As ((ls[k].take 5).length = (min (ls[k].length : Int) 5).toNat) := ⟨by rw [List.length_take]; omega⟩
            by_cases hl0 : 0 < ls[k].length
            · have hl1 : 0 < (ls[k].length : Int) := by omega
              have HRY : As (rawN ls (k + 1) = rawN ls k ++ [ls[k].take 5]) := ⟨by rw [HR.out, if_pos hl0]⟩
              by_cases h5 : ls[k].length ≤ 5
              all_goals
                first | (have h5' : (ls[k].length : Int) ≤ 5 := by omega) | (have h5' : 5 < (ls[k].length : Int) := by omega)
                first | (have HE5 : As ((ls[k].take 5).length = ls[k].length) := ⟨by rw [List.length_take]; omega⟩) | (have HE5 : As ((ls[k].take 5).length = 5) := ⟨by rw [List.length_take]; omega⟩)
                go_wp2_with (first | ((first | (with_reducible refine wpl_seal S ?_) | (with_reducible refine cw_seal S ?_) | (with_reducible refine bp_seal S ?_) | (with_reducible refine ca_seal S ?_)); clear S; (try clear hc); intro w1 S; (try simp only [List.set_cons_zero, List.set_cons_succ, List.nil_append] at S); have hc := S.cells; simp only [Cells, cellsC, Im, Row, El, RTH, TreeH, TR, AU, Nat.zero_add, Nat.reduceAdd] at hc))
                refine wp_region_ext [⟨[1, 2, 3, 4, 5, 6, 7, 8, 9, 10, 11], [0], 12, false⟩, ⟨[], [], 13, false⟩] [14] (by kernel_rfl) (by kernel_rfl) ?_
                refine mix_cons rfl rfl rfl ?_
                simp only [opsAt, List.getD_cons_succ, List.getD_cons_zero]
                repeat (go_big_quiet_step ((intro hC; first | rfl | (go_simp; first | done | rfl))))
                refine wpQuiet_nil ?_
                repeat (go_big_quiet_step ((intro hC; first | rfl | (go_simp; first | done | rfl))))
                refine wpQuiet_nil ?_
                clear hq hqx
                go_wp2_with (first | ((first | (with_reducible refine mx_seal S ?_) | (with_reducible refine wpl_seal S ?_) | (with_reducible refine ca_seal S ?_)); clear S; (try clear hc); intro w1 S; (try simp only [List.set_cons_zero, List.set_cons_succ, List.nil_append] at S); have hc := S.cells; simp only [Cells, cellsC, Im, Row, El, RTH, TreeH, TR, AU, Nat.zero_add, Nat.reduceAdd] at hc) | (at_builtin; refine wpl_push S 2 rfl rfl _ _ rfl ty_rows rfl (ls[k].take 5) _ _ rfl [_] _ (S.cel 0 rfl) ⟨_, _, by (first | (rw [HE6.out]; done) | (rw [HE5.out]; done)), by rw [HE5.out]; omega, (S.im 1 rfl).take 5⟩ (by (try simp only [maxLen, List.length_nil, List.length_append, List.length_cons]); omega) (by (try simp only [maxLen, List.length_nil, List.length_append, List.length_cons]); omega) ?_; clear S; (try clear hc); intro va w1 S; simp only [List.set_cons_zero, List.set_cons_succ, List.nil_append] at S; have hc := S.cells; simp only [Cells, cellsC, Im, Row, El, RTH, TreeH, TR, AU, Nat.zero_add, Nat.reduceAdd] at hc))
                (first | refine ⟨(fun h => by cases h), ?_⟩ | skip); (first | ((first | (with_reducible refine mx_seal S ?_)); clear S; (try clear hc); intro w1 S; (try simp only [List.set_cons_zero, List.set_cons_succ, List.nil_append] at S); have hc := S.cells; simp only [Cells, cellsC, Im, Row, El, RTH, TreeH, TR, AU, Nat.zero_add, Nat.reduceAdd] at hc) | skip); (try simp only [Act.put, List.setIfInBounds_toArray, List.set_cons_succ, List.set_cons_zero])
                refine mix_cons rfl rfl rfl ?_
                simp only [opsAt, List.getD_cons_succ, List.getD_cons_zero]
                repeat (go_big_quiet_step ((intro hC; first | rfl | (go_simp; first | done | rfl))))
                refine wpQuiet_nil ?_
                repeat (go_big_quiet_step ((intro hC; first | rfl | (go_simp; first | done | rfl))))
                refine wpQuiet_nil ?_
                go_wp2_with (first | ((first | (with_reducible refine mx_seal S ?_) | (with_reducible refine wpl_seal S ?_) | (with_reducible refine ca_seal S ?_)); clear S; (try clear hc); intro w1 S; (try simp only [List.set_cons_zero, List.set_cons_succ, List.nil_append] at S); have hc := S.cells; simp only [Cells, cellsC, Im, Row, El, RTH, TreeH, TR, AU, Nat.zero_add, Nat.reduceAdd] at hc) | (at_builtin; refine wpl_push S 2 rfl rfl _ _ rfl ty_rows rfl (ls[k].take 5) _ _ rfl [_] _ (S.cel 0 rfl) ⟨_, _, by (first | (rw [HE6.out]; done) | (rw [HE5.out]; done)), by rw [HE5.out]; omega, (S.im 1 rfl).take 5⟩ (by (try simp only [maxLen, List.length_nil, List.length_append, List.length_cons]); omega) (by (try simp only [maxLen, List.length_nil, List.length_append, List.length_cons]); omega) ?_; clear S; (try clear hc); intro va w1 S; simp only [List.set_cons_zero, List.set_cons_succ, List.nil_append] at S; have hc := S.cells; simp only [Cells, cellsC, Im, Row, El, RTH, TreeH, TR, AU, Nat.zero_add, Nat.reduceAdd] at hc))
                (first | refine ⟨(fun h => by cases h), ?_⟩ | skip); (first | ((first | (with_reducible refine mx_seal S ?_)); clear S; (try clear hc); intro w1 S; (try simp only [List.set_cons_zero, List.set_cons_succ, List.nil_append] at S); have hc := S.cells; simp only [Cells, cellsC, Im, Row, El, RTH, TreeH, TR, AU, Nat.zero_add, Nat.reduceAdd] at hc) | skip); (try simp only [Act.put, List.setIfInBounds_toArray, List.set_cons_succ, List.set_cons_zero])
                refine mix_last rfl ?_
                simp only [opsAt, List.getD_cons_succ, List.getD_cons_zero]
                repeat (go_big_quiet_step ((intro hC; first | rfl | (go_simp; first | done | rfl))))
                refine wpQuiet_nil ?_
                simp only [calmQ]
                go_wp2_with (first | ((first | (with_reducible refine wpl_seal S ?_) | (with_reducible refine cw_seal S ?_) | (with_reducible refine bp_seal S ?_) | (with_reducible refine ca_seal S ?_)); clear S; (try clear hc); intro w1 S; (try simp only [List.set_cons_zero, List.set_cons_succ, List.nil_append] at S); have hc := S.cells; simp only [Cells, cellsC, Im, Row, El, RTH, TreeH, TR, AU, Nat.zero_add, Nat.reduceAdd] at hc))
                go_roundw
                case rel =>
                  have S1 := (S.sel [2, 3, 4, 5, 6, 7, 8] (by decide) rfl (by simp) : SH _ _ _ [_, _, _, _, _, _, _] _ _)
                  rw [← HRY.out] at S1
                  exact ⟨k + 1, by omega, by omega, by go_num, ⟨S1⟩⟩
                case measure => simp [intOf]; omega
            · have hl1 : ¬ 0 < (ls[k].length : Int) := by omega
              have HRN : As (rawN ls (k + 1) = rawN ls k) := ⟨by rw [HR.out, if_neg hl0, List.append_nil]⟩
              clear hqx
              go_wp2_with (first | ((first | (with_reducible refine wpl_seal S ?_) | (with_reducible refine cw_seal S ?_) | (with_reducible refine bp_seal S ?_) | (with_reducible refine ca_seal S ?_)); clear S; (try clear hc); intro w1 S; (try simp only [List.set_cons_zero, List.set_cons_succ, List.nil_append] at S); have hc := S.cells; simp only [Cells, cellsC, Im, Row, El, RTH, TreeH, TR, AU, Nat.zero_add, Nat.reduceAdd] at hc))
              go_roundw
              case rel =>
                have S1 := (S.sel [1, 2, 3, 4, 5, 6, 7] (by decide) rfl (by simp) : SH _ _ _ [_, _, _, _, _, _, _] _ _)
                rw [← HRN.out] at S1
                exact ⟨k + 1, by omega, by omega, by go_num, ⟨S1⟩⟩
              case measure => simp [intOf]; omega
          · have hlm' : decide ((k : Int) < 8) = false := by simp; omega
            have HE := As.mk (rawN_all (m := 8) (ls := ls) (k := k) (by omega) hkm)
            go_wp2_with (first | ((first | (with_reducible refine wpl_seal S ?_) | (with_reducible refine cw_seal S ?_) | (with_reducible refine bp_seal S ?_) | (with_reducible refine ca_seal S ?_)); clear S; (try clear hc); intro w1 S; (try simp only [List.set_cons_zero, List.set_cons_succ, List.nil_append] at S); have hc := S.cells; simp only [Cells, cellsC, Im, Row, El, RTH, TreeH, TR, AU, Nat.zero_add, Nat.reduceAdd] at hc))
            obtain ⟨A4, c4, I4, e4, hc4, S4, -⟩ := S.frow 0 rfl
            subst e4
            go_meet
            case rel => 
              have S1 := (S4.sel [0, 1, 2, 3, 6, 5] (by decide) rfl (by simp) : SH _ _ _ [_, _, _, _, _, _] _ _)
              rw [HE.out] at S1
              exact ⟨A4, c4, I4, by rw [HE.out]; rfl, ⟨S1⟩⟩
        · have hlt' : decide ((k : Int) < ls.length) = false := by simpa using hlt
          have HE := As.mk (rawN_all (m := 8) (ls := ls) (k := k) (by omega) hkm)
          go_wp2_with (first | ((first | (with_reducible refine wpl_seal S ?_) | (with_reducible refine cw_seal S ?_) | (with_reducible refine bp_seal S ?_) | (with_reducible refine ca_seal S ?_)); clear S; (try clear hc); intro w1 S; (try simp only [List.set_cons_zero, List.set_cons_succ, List.nil_append] at S); have hc := S.cells; simp only [Cells, cellsC, Im, Row, El, RTH, TreeH, TR, AU, Nat.zero_add, Nat.reduceAdd] at hc))
          obtain ⟨A4, c4, I4, e4, hc4, S4, -⟩ := S.frow 0 rfl
          subst e4
          go_meet
          case rel => 
            have S1 := (S4.sel [0, 1, 2, 3, 6, 5] (by decide) rfl (by simp) : SH _ _ _ [_, _, _, _, _, _] _ _)
            rw [HE.out] at S1
            exact ⟨A4, c4, I4, by rw [HE.out]; rfl, ⟨S1⟩⟩
  case rest =>
    clear S
    obtain ⟨Ao, co, J, rfl, ⟨S⟩⟩ := hcut
    have HO8 := ownN_len raw ls
    have HO5 := As.mk (ownN_five raw ls)
    have HON := As.mk (fun x hx => (ownN_ne raw ls x hx).1)
    generalize hOWN : ownN raw ls = own at S HO8 HO5 HON ⊢
    have HOWN := As.mk hOWN
    clear hOWN
    have hc := S.cells; simp only [Cells, cellsC, Im, Row, El, RTH, TreeH, TR, AU, Nat.zero_add, Nat.reduceAdd] at hc
    go_wp2_with (first | ((first | (with_reducible refine wpl_seal S ?_) | (with_reducible refine cw_seal S ?_) | (with_reducible refine bp_seal S ?_) | (with_reducible refine ca_seal S ?_)); clear S; (try clear hc); intro w1 S; (try simp only [List.set_cons_zero, List.set_cons_succ, List.nil_append] at S); have hc := S.cells; simp only [Cells, cellsC, Im, Row, El, RTH, TreeH, TR, AU, Nat.zero_add, Nat.reduceAdd] at hc))
    clear hc
    go_loopw [10] (fun i w' => ∃ (k : Nat) (l : List Nd) (ws : List Int) (L W : List (List Int)) (a1 : Option Addr) (d1 : Nat) (a2 : Option Addr) (d2 : Nat) (J : Fp), k ≤ own.length ∧ i = .int .i64 k ∧ As (St l ws L W) ∧ As (begT (own.take k) = (L, W)) ∧
        L.length ≤ d1 ∧ W.length ≤ d2 ∧ L.length ≤ 1 + 5 * k ∧ W.length ≤ k ∧ As (∀ x ∈ L, x.length ≤ 5) ∧
        As (SH No I w [Im kW Ao own, Cel gT 27 [.slice a1 L.length d1, .slice a2 W.length d2], TreeH b l ws, Cel g5 27 [.slice none 0 0, .slice none 0 0], Im kW a1 L, Im kW a2 W] w' J)) (fun i _ => own.length - (intOf i).toNat)
    case atStart => exact ⟨0, _, _, [[]], [], A1, c1, A2, c2, J, Nat.zero_le _, rfl, ⟨St.one⟩, ⟨rfl⟩, hl1, hl2, by simp, by simp, ⟨by simp⟩, ⟨S⟩⟩
    case round =>
      clear S
      obtain ⟨k, l, ws, L, W, a1, d1, a2, d2, J, hk, rfl, HSt, HB, hd1, hd2, hLk, hWk, HL5, ⟨S⟩⟩ := hrel
      have hc := S.cells; simp only [Cells, cellsC, Im, Row, El, RTH, TreeH, TR, AU, Nat.zero_add, Nat.reduceAdd] at hc
      by_cases hlt : k < own.length
      · have hlt' : decide ((k : Int) < own.length) = true := by simpa using hlt
        obtain ⟨ob, oo, A3, c3, rfl, hco, hc3, hs3⟩ := (S.im 0 rfl).sl_at hlt
        have h5 := HO5.out _ (List.getElem_mem hlt)
        have hlb : l.length ≤ 41 := by rw [HSt.out.tie.len]; omega
        have hwb : ws.length ≤ 8 := by rw [HSt.out.wlen]; omega
        replace S := S.know (h := Im kP A3 own[k]) hs3
        have hqx := hco
        clear hs3
        have he : own[k] ≠ [] := HON.out _ (List.getElem_mem hlt)
        have HE : As (begT (own.take (k + 1)) = (putL L own[k] own[k].length, W ++ [own[k]])) := ⟨by rw [begT_succ hlt, HB.out, stepB, if_neg he]⟩
        have HNE := As.mk he
        have hpl := putL_len L own[k] own[k].length
        have HP5 := As.mk (putL_mem HL5.out h5 own[k].length)
        have HLs : As (ShortW L) := ⟨fun x hx => by have := HL5.out x hx; omega⟩
        clear he
        go_wp2_with (first | ((first | (with_reducible refine wpl_seal S ?_) | (with_reducible refine cw_seal S ?_) | (with_reducible refine bp_seal S ?_) | (with_reducible refine ca_seal S ?_)); clear S; (try clear hc); intro w1 S; (try simp only [List.set_cons_zero, List.set_cons_succ, List.nil_append] at S); have hc := S.cells; simp only [Cells, cellsC, Im, Row, El, RTH, TreeH, TR, AU, Nat.zero_add, Nat.reduceAdd] at hc) | (go_at_call 22; refine (put_s S 3 rfl HSt.out (S.im 0 rfl) hc3 (by omega) (by omega) (by omega) HNE.out).mono ?_; clear hc hqx; rintro e w1 ⟨l5, ws5, J5, rfl, S5, hs5, hl5⟩; have HS5 := As.mk hs5; clear S hs5; have S := S5; clear S5; simp only [List.set_cons_zero, List.set_cons_succ, List.nil_append] at S; obtain ⟨ob6, oo6, A6, c6, e6, hqx, hc6, hs6⟩ := (S.im 1 rfl).sl_at hlt; cases e6; replace S := S.know (h := Im kP A6 own[k]) hs6; clear hs6; have hc := S.cells; simp only [Cells, cellsC, Im, Row, El, RTH, TreeH, TR, AU, Nat.zero_add, Nat.reduceAdd] at hc))
        have hq := S.cellsE; simp only [CellsE, cellsE, Im, Row, El, RTH, TreeH, TR, AU, Nat.zero_add, Nat.reduceAdd] at hq
        have hqy := ClE.cell (w := w1.drew) hqx
        refine wp_region_ext [⟨[0, 1, 2, 3, 4], [], 5, false⟩, ⟨[], [], 6, false⟩] [] (by kernel_rfl) (by kernel_rfl) ?_
        refine mix_cons rfl rfl rfl ?_
        simp only [opsAt, List.getD_cons_succ, List.getD_cons_zero]
        repeat (go_big_quiet_step ((intro hC; first | rfl | (go_simp; first | done | rfl))))
        refine wpQuiet_nil ?_
        repeat (go_big_quiet_step ((intro hC; first | rfl | (go_simp; first | done | rfl))))
        refine wpQuiet_nil ?_
        clear hq hqy hqx hc
        replace S := S.drew
        have hc := S.cells; simp only [Cells, cellsC, Im, Row, El, RTH, TreeH, TR, AU, Nat.zero_add, Nat.reduceAdd] at hc
        go_wp2_with (first | ((first | (with_reducible refine mx_seal S ?_) | (with_reducible refine wpl_seal S ?_) | (with_reducible refine ca_seal S ?_)); clear S; (try clear hc); intro w1 S; (try simp only [List.set_cons_zero, List.set_cons_succ, List.nil_append] at S); have hc := S.cells; simp only [Cells, cellsC, Im, Row, El, RTH, TreeH, TR, AU, Nat.zero_add, Nat.reduceAdd] at hc) | (go_at_call 23; refine (rput_c L W own[k] _ A6 c6 _ J5 S.bd ⟨a1, d1, a2, d2, rfl, hd1, hd2, S.im 6 rfl, S.im 7 rfl⟩ (S.im 0 rfl) hc6 (by omega) (by omega) HLs.out).mono ?_; rintro e w1 ⟨v, rfl, hu⟩; obtain ⟨I1, S1, hI1⟩ := S.new hu; clear S hu hI1; (try clear hc); have S := S1; clear S1; have hc := S.cells; simp only [Cells, cellsC, Im, Row, El, RTH, TreeH, TR, AU, Nat.zero_add, Nat.reduceAdd] at hc; obtain ⟨a5, d5, a6, d6, rfl, hd5, hd6, hs5, hs6⟩ := S.rt 0 rfl; replace S := (S.know (h := Im kW a6 _) hs6).know (h := Im kW a5 _) hs5; clear hc hs5 hs6; have hc := S.cells; simp only [Cells, cellsC, Im, Row, El, RTH, TreeH, TR, AU, Nat.zero_add, Nat.reduceAdd] at hc))
        (first | refine ⟨(fun h => by cases h), ?_⟩ | skip); (first | ((first | (with_reducible refine mx_seal S ?_)); clear S; (try clear hc); intro w1 S; (try simp only [List.set_cons_zero, List.set_cons_succ, List.nil_append] at S); have hc := S.cells; simp only [Cells, cellsC, Im, Row, El, RTH, TreeH, TR, AU, Nat.zero_add, Nat.reduceAdd] at hc) | skip); (try simp only [Act.put, List.setIfInBounds_toArray, List.set_cons_succ, List.set_cons_zero])
        refine mix_cons rfl rfl rfl ?_
        simp only [opsAt, List.getD_cons_succ, List.getD_cons_zero]
        repeat (go_big_quiet_step ((intro hC; first | rfl | (go_simp; first | done | rfl))))
        refine wpQuiet_nil ?_
        repeat (go_big_quiet_step ((intro hC; first | rfl | (go_simp; first | done | rfl))))
        refine wpQuiet_nil ?_
        go_wp2_with (first | ((first | (with_reducible refine mx_seal S ?_) | (with_reducible refine wpl_seal S ?_) | (with_reducible refine ca_seal S ?_)); clear S; (try clear hc); intro w1 S; (try simp only [List.set_cons_zero, List.set_cons_succ, List.nil_append] at S); have hc := S.cells; simp only [Cells, cellsC, Im, Row, El, RTH, TreeH, TR, AU, Nat.zero_add, Nat.reduceAdd] at hc))
        (first | refine ⟨(fun h => by cases h), ?_⟩ | skip); (first | ((first | (with_reducible refine mx_seal S ?_)); clear S; (try clear hc); intro w1 S; (try simp only [List.set_cons_zero, List.set_cons_succ, List.nil_append] at S); have hc := S.cells; simp only [Cells, cellsC, Im, Row, El, RTH, TreeH, TR, AU, Nat.zero_add, Nat.reduceAdd] at hc) | skip); (try simp only [Act.put, List.setIfInBounds_toArray, List.set_cons_succ, List.set_cons_zero])
        refine mix_done ?_
        simp only [calmQ]
        go_wp2_with (first | ((first | (with_reducible refine wpl_seal S ?_) | (with_reducible refine cw_seal S ?_) | (with_reducible refine bp_seal S ?_) | (with_reducible refine ca_seal S ?_)); clear S; (try clear hc); intro w1 S; (try simp only [List.set_cons_zero, List.set_cons_succ, List.nil_append] at S); have hc := S.cells; simp only [Cells, cellsC, Im, Row, El, RTH, TreeH, TR, AU, Nat.zero_add, Nat.reduceAdd] at hc))
        go_roundw
        case rel =>
          have S1 := (S.sel [5, 6, 7, 8, 0, 1] (by decide) rfl (by simp) : SH _ _ _ [_, _, _, _, _, _] _ _)
          refine ⟨k + 1, l5, ws5, putL L own[k] own[k].length, W ++ [own[k]], a5, d5, a6, d6, _, by omega, by go_num, HS5, HE, hd5, hd6, by omega, by simp; omega, HP5, ⟨by simpa only [List.length_append, List.length_cons, List.length_nil, Nat.zero_add, List.nil_append] using S1⟩⟩
        case measure => simp [intOf]; omega
      · have hlt' : decide ((k : Int) < own.length) = false := by simpa using hlt
        have hke : own.take k = own := List.take_of_length_le (by omega)
        have HKE : As (begT own = (L, W)) := ⟨by rw [← hke]; exact HB.out⟩
        clear hke
        have HNE2 : As (NeW W) := ⟨fun q hq => by rw [pa_eq hq]; exact (begT_ne2 HKE.out _ (List.getElem_mem hq)).1⟩
        replace S := S.toTR 2 rfl HSt.out
        simp only [List.set_cons_zero, List.set_cons_succ, List.nil_append] at S
        go_wp2_with (first | ((first | (with_reducible refine wpl_seal S ?_) | (with_reducible refine cw_seal S ?_) | (with_reducible refine bp_seal S ?_) | (with_reducible refine ca_seal S ?_)); clear S; (try clear hc); intro w1 S; (try simp only [List.set_cons_zero, List.set_cons_succ, List.nil_append] at S); have hc := S.cells; simp only [Cells, cellsC, Im, Row, El, RTH, TreeH, TR, AU, Nat.zero_add, Nat.reduceAdd] at hc))
        have hb0 := hc.1.1
        have hb1 := hc.1.2.2.1
        have hq0 := ClA.cell (L := [⟨gT, 0, none⟩, ⟨gT, 1, none⟩]) (w := wr.drew) hb0 (by simp)
        have hq1 := ClA.cell (L := [⟨gT, 0, none⟩, ⟨gT, 1, none⟩]) (w := wr.drew) hb1 (by simp)
        refine wp_region_at [⟨gT, 0, none⟩, ⟨gT, 1, none⟩] [⟨[0, 2], [], 1, true⟩, ⟨[3], [], 4, false⟩] [] (by kernel_rfl) (by kernel_rfl) ?_
        refine mix_cons rfl rfl rfl ?_
        simp only [opsAt, List.getD_cons_succ, List.getD_cons_zero]
        repeat (go_big_quiet_step ((intro hC; first | rfl | (go_simp; first | done | rfl))))
        refine wpQuiet_nil ?_
        repeat (go_big_quiet_step ((intro hC; first | rfl | (go_simp; first | done | rfl))))
        refine wpQuiet_nil ?_
        clear hq0 hq1
        replace S := S.drew
        replace hb0 : wr.drew.cell? ⟨gT, 0, none⟩ = some (.slice a1 L.length d1) := hb0
        replace hb1 : wr.drew.cell? ⟨gT, 1, none⟩ = some (.slice a2 W.length d2) := hb1
        generalize wr.drew = w1 at S hb0 hb1 ⊢
        clear hc
        have hc := S.cells; simp only [Cells, cellsC, Im, Row, El, RTH, TreeH, TR, AU, Nat.zero_add, Nat.reduceAdd] at hc
        go_wp2_with (first | ((first | (with_reducible refine mx_seal S ?_) | (with_reducible refine wpl_seal S ?_) | (with_reducible refine ca_seal S ?_)); clear S; (try clear hc); intro w1 S; (try simp only [List.set_cons_zero, List.set_cons_succ, List.nil_append] at S); have hc := S.cells; simp only [Cells, cellsC, Im, Row, El, RTH, TreeH, TR, AU, Nat.zero_add, Nat.reduceAdd] at hc) | (go_at_call 24; refine (anew_r S 2 rfl (by omega) (by omega) HNE2.out 5 HL5.out (by omega)).mono ?_; rintro e w2 ⟨a, J2, rfl, S2⟩; clear S hc; have S := S2; clear S2; have hc := S.cells; simp only [Cells, cellsC, Im, Row, El, RTH, TreeH, TR, AU, Nat.zero_add, Nat.reduceAdd] at hc))
        refine ⟨fun _ a' ha => by
          simp only [List.mem_cons, List.not_mem_nil, or_false] at ha
          rcases ha with rfl | rfl
          · exact (S.cell 2 0 rfl rfl).trans hb0.symm
          · exact (S.cell 2 1 rfl rfl).trans hb1.symm, ?_⟩
        clear hb0 hb1
        refine mix_cons rfl rfl rfl ?_
        simp only [opsAt, List.getD_cons_succ, List.getD_cons_zero]
        repeat (go_big_quiet_step ((intro hC; first | rfl | (go_simp; first | done | rfl))))
        refine wpQuiet_nil ?_
        repeat (go_big_quiet_step ((intro hC; first | rfl | (go_simp; first | done | rfl))))
        refine wpQuiet_nil ?_
        go_wp2_with (first | ((first | (with_reducible refine mx_seal S ?_) | (with_reducible refine wpl_seal S ?_) | (with_reducible refine ca_seal S ?_)); clear S; (try clear hc); intro w1 S; (try simp only [List.set_cons_zero, List.set_cons_succ, List.nil_append] at S); have hc := S.cells; simp only [Cells, cellsC, Im, Row, El, RTH, TreeH, TR, AU, Nat.zero_add, Nat.reduceAdd] at hc))
        (first | refine ⟨(fun h => by cases h), ?_⟩ | skip); (first | ((first | (with_reducible refine mx_seal S ?_)); clear S; (try clear hc); intro w1 S; (try simp only [List.set_cons_zero, List.set_cons_succ, List.nil_append] at S); have hc := S.cells; simp only [Cells, cellsC, Im, Row, El, RTH, TreeH, TR, AU, Nat.zero_add, Nat.reduceAdd] at hc) | skip); (try simp only [Act.put, List.setIfInBounds_toArray, List.set_cons_succ, List.set_cons_zero])
        refine mix_done ?_
        simp only [calmQ]
        go_wp2_with (first | ((first | (with_reducible refine wpl_seal S ?_) | (with_reducible refine cw_seal S ?_) | (with_reducible refine bp_seal S ?_) | (with_reducible refine ca_seal S ?_)); clear S; (try clear hc); intro w1 S; (try simp only [List.set_cons_zero, List.set_cons_succ, List.nil_append] at S); have hc := S.cells; simp only [Cells, cellsC, Im, Row, El, RTH, TreeH, TR, AU, Nat.zero_add, Nat.reduceAdd] at hc))
        refine bodyPost_ret (results_tmp_cell rfl _ _ g5 27 _ (0, 0) _ rfl (S.cel 4 rfl) Try.underlying27 rfl (by kernel_rfl)) rfl ?_
        have S1 := (S.sel [0, 5, 6] (by decide) rfl (by simp) : SH _ _ _ [_, _, _] _ _)
        exact ⟨a, _, L, W, J2, rfl, ((S1.know (h := RTH _ L W) ⟨a1, d1, a2, d2, rfl, hd1, hd2, S1.im 1 rfl, S1.im 2 rfl⟩).sel [1, 0] (by decide) rfl (by simp)), by rw [HOWN.out]; exact HKE.out, by omega, by omega, HL5.out⟩
end Go.Proofs.Ytiemglijfdaliaa
