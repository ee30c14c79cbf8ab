/- A tree of words, made. -/
import Derived.Test.YthmcefalaieigaaLiv
import Derived.Test.YthmcefalaieigaaSep2
import Derived.Deep.DeepCutAuto
namespace Go.Proofs.Ythmcefalaieigaa
open Go.RowKit X
set_option maxHeartbeats 4000000
set_option maxRecDepth 8000
set_option linter.unusedSimpArgs false
set_option linter.unusedVariables false
theorem putL_mem {L : List (List Int)} {xs : List Int} {n : Nat} (h : ∀ x ∈ L, x.length ≤ n) (hx : xs.length ≤ n) : ∀ k, ∀ x ∈ putL L xs k, x.length ≤ n
  | 0 => h
  | k + 1 => by
    have := putL_mem h hx k
    simp only [putL]
    split
    · intro x hx'
      rcases List.mem_append.1 hx' with h | h
      · exact this x h
      · rw [List.mem_singleton.1 h, List.length_take]; omega
    · exact this
/-- a word put into the reference's tree; none that is empty -/
def stepB (s : List (List Int) × List (List Int)) (x : List Int) : List (List Int) × List (List Int) := if x = [] then s else (putL s.1 x x.length, s.2 ++ [x])
def begT (own : List (List Int)) : List (List Int) × List (List Int) := own.foldl stepB ([[]], [])
theorem begT_succ {own : List (List Int)} {k : Nat} (h : k < own.length) : begT (own.take (k + 1)) = stepB (begT (own.take k)) own[k] := by
  unfold begT
  rw [List.take_succ_eq_append_getElem h, List.foldl_append]; rfl
theorem smallT_ne {ls : List (List Int)} {m : Nat} : ∀ x ∈ smallT ls m, x ≠ [] ∧ x.length ≤ 5 := by
  intro x hx
  unfold smallT at hx
  rw [List.mem_filter] at hx
  obtain ⟨h1, h2⟩ := hx
  obtain ⟨y, _, rfl⟩ := List.mem_map.1 h1
  refine ⟨?_, by rw [rowT_len]; omega⟩
  intro e
  rw [e] at h2
  simp at h2

/-- the words that a tree is made of -/
def rawT (ls : List (List Int)) (k : Nat) : List (List Int) := (ls.take k).map (·.take 5)
def ownW (raw : Bool) (ls : List (List Int)) : List (List Int) := if raw then rawT ls 8 else smallT ls 8
theorem rawT_succ {ls : List (List Int)} {k : Nat} (h : k < ls.length) : rawT ls (k + 1) = rawT ls k ++ [ls[k].take 5] := by
  unfold rawT
  rw [List.take_succ_eq_append_getElem h, List.map_append]; rfl
theorem rawT_all {ls : List (List Int)} {k m : Nat} (h : ¬ (k < ls.length ∧ k < m)) (hk : k ≤ m) : rawT ls k = rawT ls m := by
  unfold rawT
  by_cases h1 : k < ls.length
  · have : k = m := by omega
    rw [this]
  · rw [List.take_of_length_le (by omega), List.take_of_length_le (by omega)]
theorem rawT_len (ls : List (List Int)) (m : Nat) : (rawT ls m).length ≤ m := by
  unfold rawT; rw [List.length_map, List.length_take]; omega
theorem ownW_len (raw : Bool) (ls : List (List Int)) : (ownW raw ls).length ≤ 8 := by
  unfold ownW; split
  · exact rawT_len ls 8
  · exact smallT_len ls 8
theorem ownW_five (raw : Bool) (ls : List (List Int)) : ∀ x ∈ ownW raw ls, x.length ≤ 5 := by
  intro x hx
  unfold ownW at hx
  split at hx
  · unfold rawT at hx
    obtain ⟨y, _, rfl⟩ := List.mem_map.1 hx
    rw [List.length_take]; omega
  · exact (smallT_ne x hx).2

theorem X.SH.rt {F0 I0 I : Fp} {w0 w : World} {Ob0 : List Ob} {v : Value} {L W : List (List Int)} (S : SH F0 I0 w0 Ob0 w I) (i : Nat) (e : Ob0[i]? = some (RTH v L W)) : RT w I v L W := by
  obtain ⟨F, h, _⟩ := S.get i e
  exact h
theorem begin_c (raw : Bool) (ls : List (List Int)) (A : Option Addr) (c : Nat) (w : World) (I : Fp) (hI : ∀ b, I b → b < w.heap.size) (hx : Sl kW w I A ls) :
    Calls Try.prog 9 #[.slice A ls.length c, .bool raw] w fun e w' => ∃ b l ws v L W J, e = .returned (.tuple #[.pointer (some ⟨b, 0, none⟩), v]) ∧ SH No I w [TreeH b l ws, RTH v L W] w' J ∧ St l ws L W ∧ begT (ownW raw ls) = (L, W) ∧ L.length ≤ 41 ∧ W.length ≤ 8 ∧ (∀ x ∈ L, x.length ≤ 5) := by
  have S := (SH.start w I hI).know (h := Im kW A ls) hx
  clear hx
  have HOL := As.mk (smallT_len ls 8)
  have hc := S.cells; simp only [Cells, cellsC, Im, Row, El, RTH, TreeH, Nat.zero_add, Nat.reduceAdd] at hc
  go_enter Try.func9, Try.ntmps9
  go_upto_if 17 with (first | ((first | (with_reducible refine wpl_seal S ?_) | (with_reducible refine cw_seal S ?_) | (with_reducible refine bp_seal S ?_) | (with_reducible refine ca_seal S ?_)); clear S hc; intro w1 S; (try simp only [List.set_cons_zero, List.set_cons_succ, List.nil_append] at S); have hc := S.cells; simp only [Cells, cellsC, Im, Row, El, RTH, TreeH, Nat.zero_add, Nat.reduceAdd] at hc) | (go_at_call 23; refine (new_c _).mono ?_; rintro e w1 ⟨b, rfl, hu⟩; obtain ⟨I1, S1, hI1⟩ := S.new (hu.any _); clear S hc hu hI1; have S := S1; clear S1; have hc := S.cells; simp only [Cells, cellsC, Im, Row, El, RTH, TreeH, Nat.zero_add, Nat.reduceAdd] at hc) | (go_at_call 33; refine (rnew_c _).mono ?_; rintro e w1 ⟨v, rfl, hu⟩; obtain ⟨I1, S1, hI1⟩ := S.new (hu.any _); clear S hc hu hI1; have S := S1; clear S1; have hc := S.cells; simp only [Cells, cellsC, Im, Row, El, RTH, TreeH, Nat.zero_add, Nat.reduceAdd] at hc; obtain ⟨A1, c1, A2, c2, rfl, hl1, hl2, hs1, hs2⟩ := S.rt 0 rfl; replace S := (S.know (h := Im kW A1 [[]]) hs1).know (h := Im kW A2 ([] : List (List Int))) hs2; clear hs1 hs2; have hc := S.cells; simp only [Cells, cellsC, Im, Row, El, RTH, TreeH, Nat.zero_add, Nat.reduceAdd] at hc) | (go_at_call 34; refine (small_c ls A c _ _ S.bd (S.im 6 rfl)).mono ?_; rintro e w1 ⟨v, rfl, hu⟩; obtain ⟨I1, S1, hI1⟩ := S.new hu; clear S hc hu hI1; have S := S1; clear S1; have hc := S.cells; simp only [Cells, cellsC, Im, Row, El, RTH, TreeH, Nat.zero_add, Nat.reduceAdd] at hc; obtain ⟨Ao, co, I1, e1, hco, S1, hI1⟩ := S.frow 0 rfl; subst e1; clear S hI1; have S := S1; clear S1; simp only [List.set_cons_zero, List.set_cons_succ, List.nil_append] at S; clear hc; have hc := S.cells; simp only [Cells, cellsC, Im, Row, El, RTH, TreeH, Nat.zero_add, Nat.reduceAdd] at hc))
  clear hc
  obtain ⟨gT, egT⟩ := S.name 1 rfl; rw [← egT] at S ⊢; clear egT
  obtain ⟨g5, eg5⟩ := S.name 6 rfl; rw [← eg5] at S ⊢; clear eg5
  replace S := (S.sel [0, 1, 5, 6, 7, 2, 3] (by decide) rfl (by simp) : SH _ _ _ [_, _, _, _, _, _, _] _ _)
  go_cut [8] (fun o w' => ∃ (Ao : Option Addr) (co : Nat) (J : Fp), o = .slice Ao (ownW raw ls).length co ∧ As (SH No I w [Im kW Ao (ownW raw ls), Cel gT 27 [.slice A1 1 c1, .slice A2 0 c2], TreeH b [⟨-1, 0, 0, [], []⟩] [], Cel g5 27 [.slice none 0 0, .slice none 0 0], Im kW A1 [[]], Im kW A2 []] w' J))
  case first =>
    have hc := S.cells; simp only [Cells, cellsC, Im, Row, El, RTH, TreeH, Nat.zero_add, Nat.reduceAdd] at hc
    cases raw
    · go_wp2_with (first | ((first | (with_reducible refine wpl_seal S ?_) | (with_reducible refine cw_seal S ?_) | (with_reducible refine bp_seal S ?_) | (with_reducible refine ca_seal S ?_)); clear S hc; intro w1 S; (try simp only [List.set_cons_zero, List.set_cons_succ, List.nil_append] at S); have hc := S.cells; simp only [Cells, cellsC, Im, Row, El, RTH, TreeH, Nat.zero_add, Nat.reduceAdd] at hc))
      go_meet
      case rel => exact ⟨_, _, _, rfl, ⟨(S.sel [0, 1, 2, 3, 6, 5] (by decide) rfl (by simp) : SH _ _ _ [_, _, _, _, _, _] _ _)⟩⟩
    · replace S := ((S.sel [1, 2, 3, 4, 5, 6] (by decide) rfl (by simp) : SH _ _ _ [_, _, _, _, _, _] _ _)).nilrow (k := kW)
      go_wp2_with (first | ((first | (with_reducible refine wpl_seal S ?_) | (with_reducible refine cw_seal S ?_) | (with_reducible refine bp_seal S ?_) | (with_reducible refine ca_seal S ?_)); clear S hc; intro w1 S; (try simp only [List.set_cons_zero, List.set_cons_succ, List.nil_append] at S); have hc := S.cells; simp only [Cells, cellsC, Im, Row, El, RTH, TreeH, Nat.zero_add, Nat.reduceAdd] at hc))
      clear hc
      go_loopw [8, 9] (fun o i w' => ∃ (k : Nat), k ≤ ls.length ∧ k ≤ 8 ∧ i = .int .i64 k ∧ As (SH No I w [Row kW o (rawT ls k), Cel gT 27 [.slice A1 1 c1, .slice A2 0 c2], TreeH b [⟨-1, 0, 0, [], []⟩] [], Cel g5 27 [.slice none 0 0, .slice none 0 0], Im kW A ls, Im kW A2 [], Im kW A1 [[]]] w' I1)) (fun _ i _ => ls.length - (intOf i).toNat)
      case atStart => exact ⟨0, Nat.zero_le _, Nat.zero_le _, rfl, ⟨S⟩⟩
      case round =>
        clear S
        obtain ⟨k, hk, hkm, rfl, ⟨S⟩⟩ := hrel
        have hc := S.cells; simp only [Cells, cellsC, Im, Row, El, RTH, TreeH, Nat.zero_add, Nat.reduceAdd] at hc
        by_cases hlt : k < ls.length
        · have hlt' : decide ((k : Int) < ls.length) = true := by simpa using hlt
          by_cases hlm : k < 8
          · have hlm' : decide ((k : Int) < 8) = true := by simp; omega
            obtain ⟨lb, lo, A3, c3, rfl, hcx, hc3, hs1⟩ := (S.im 4 rfl).sl_at hlt
            replace S := S.know (h := Im kP A3 ls[k]) hs1
            have HR := As.mk (rawT_succ hlt)
            have hrl := rawT_len ls k
            have hqx := ClE.cell (w := wr.drew) hcx
            clear hs1
            have hq := S.cellsE; simp only [CellsE, cellsE, Im, Row, El, RTH, TreeH, Nat.zero_add, Nat.reduceAdd] at hq
            obtain ⟨m, HM, hm1⟩ : ∃ m, As ((ls[k].take 5).length = m) ∧ m ≤ 5 := ⟨_, ⟨rfl⟩, by rw [List.length_take]; omega⟩
            by_cases h5 : ls[k].length ≤ 5
            all_goals
              first | (have h5' : (ls[k].length : Int) ≤ 5 := by omega) | (have h5' : 5 < (ls[k].length : Int) := by omega)
              go_wp2_with (first | ((first | (with_reducible refine wpl_seal S ?_) | (with_reducible refine cw_seal S ?_) | (with_reducible refine bp_seal S ?_) | (with_reducible refine ca_seal S ?_)); clear S hc; intro w1 S; (try simp only [List.set_cons_zero, List.set_cons_succ, List.nil_append] at S); have hc := S.cells; simp only [Cells, cellsC, Im, Row, El, RTH, TreeH, Nat.zero_add, Nat.reduceAdd] at hc))
              refine wp_region_ext [⟨[1, 2, 3, 4, 5, 6, 7, 8, 9, 10, 11], [0], 12, false⟩, ⟨[], [], 13, false⟩] [14] (by kernel_rfl) (by kernel_rfl) ?_
              refine mix_cons rfl rfl rfl ?_
              simp only [opsAt, List.getD_cons_succ, List.getD_cons_zero]
              repeat (go_big_quiet_step ((intro hC; first | rfl | (go_simp; first | done | rfl))))
              refine wpQuiet_nil ?_
              repeat (go_big_quiet_step ((intro hC; first | rfl | (go_simp; first | done | rfl))))
              refine wpQuiet_nil ?_
              clear hq hqx
              go_wp2_with (first | ((first | (with_reducible refine mx_seal S ?_) | (with_reducible refine wpl_seal S ?_) | (with_reducible refine ca_seal S ?_)); clear S hc; intro w1 S; (try simp only [List.set_cons_zero, List.set_cons_succ, List.nil_append] at S); have hc := S.cells; simp only [Cells, cellsC, Im, Row, El, RTH, TreeH, Nat.zero_add, Nat.reduceAdd] at hc) | (at_builtin; refine wpl_push S 2 rfl rfl _ _ rfl ty_rows rfl (ls[k].take 5) _ _ rfl [_] _ (S.cel 0 rfl) ⟨_, _, by rw [List.length_take]; (first | rw [Nat.min_eq_left (by omega)] | rw [Nat.min_eq_right (by omega)]), by rw [List.length_take]; omega, (S.im 1 rfl).take 5⟩ (by (try simp only [maxLen, List.length_nil, List.length_append, List.length_cons]); omega) (by (try simp only [maxLen, List.length_nil, List.length_append, List.length_cons]); omega) ?_; clear S hc; intro va w1 S; simp only [List.set_cons_zero, List.set_cons_succ, List.nil_append] at S; have hc := S.cells; simp only [Cells, cellsC, Im, Row, El, RTH, TreeH, Nat.zero_add, Nat.reduceAdd] at hc))
              (first | refine ⟨(fun h => by cases h), ?_⟩ | skip); (first | ((first | (with_reducible refine mx_seal S ?_)); clear S hc; intro w1 S; (try simp only [List.set_cons_zero, List.set_cons_succ, List.nil_append] at S); have hc := S.cells; simp only [Cells, cellsC, Im, Row, El, RTH, TreeH, Nat.zero_add, Nat.reduceAdd] at hc) | skip); (try simp only [Act.put, List.setIfInBounds_toArray, List.set_cons_succ, List.set_cons_zero])
              refine mix_cons rfl rfl rfl ?_
              simp only [opsAt, List.getD_cons_succ, List.getD_cons_zero]
              repeat (go_big_quiet_step ((intro hC; first | rfl | (go_simp; first | done | rfl))))
              refine wpQuiet_nil ?_
              repeat (go_big_quiet_step ((intro hC; first | rfl | (go_simp; first | done | rfl))))
              refine wpQuiet_nil ?_
              go_wp2_with (first | ((first | (with_reducible refine mx_seal S ?_) | (with_reducible refine wpl_seal S ?_) | (with_reducible refine ca_seal S ?_)); clear S hc; intro w1 S; (try simp only [List.set_cons_zero, List.set_cons_succ, List.nil_append] at S); have hc := S.cells; simp only [Cells, cellsC, Im, Row, El, RTH, TreeH, Nat.zero_add, Nat.reduceAdd] at hc) | (at_builtin; refine wpl_push S 2 rfl rfl _ _ rfl ty_rows rfl (ls[k].take 5) _ _ rfl [_] _ (S.cel 0 rfl) ⟨_, _, by rw [List.length_take]; (first | rw [Nat.min_eq_left (by omega)] | rw [Nat.min_eq_right (by omega)]), by rw [List.length_take]; omega, (S.im 1 rfl).take 5⟩ (by (try simp only [maxLen, List.length_nil, List.length_append, List.length_cons]); omega) (by (try simp only [maxLen, List.length_nil, List.length_append, List.length_cons]); omega) ?_; clear S hc; intro va w1 S; simp only [List.set_cons_zero, List.set_cons_succ, List.nil_append] at S; have hc := S.cells; simp only [Cells, cellsC, Im, Row, El, RTH, TreeH, Nat.zero_add, Nat.reduceAdd] at hc))
              (first | refine ⟨(fun h => by cases h), ?_⟩ | skip); (first | ((first | (with_reducible refine mx_seal S ?_)); clear S hc; intro w1 S; (try simp only [List.set_cons_zero, List.set_cons_succ, List.nil_append] at S); have hc := S.cells; simp only [Cells, cellsC, Im, Row, El, RTH, TreeH, Nat.zero_add, Nat.reduceAdd] at hc) | skip); (try simp only [Act.put, List.setIfInBounds_toArray, List.set_cons_succ, List.set_cons_zero])
              refine mix_last rfl ?_
              simp only [opsAt, List.getD_cons_succ, List.getD_cons_zero]
              repeat (go_big_quiet_step ((intro hC; first | rfl | (go_simp; first | done | rfl))))
              refine wpQuiet_nil ?_
              simp only [calmQ]
              go_wp2_with (first | ((first | (with_reducible refine wpl_seal S ?_) | (with_reducible refine cw_seal S ?_) | (with_reducible refine bp_seal S ?_) | (with_reducible refine ca_seal S ?_)); clear S hc; intro w1 S; (try simp only [List.set_cons_zero, List.set_cons_succ, List.nil_append] at S); have hc := S.cells; simp only [Cells, cellsC, Im, Row, El, RTH, TreeH, Nat.zero_add, Nat.reduceAdd] at hc))
              go_roundw
              case rel =>
                have S1 := (S.sel [2, 3, 4, 5, 6, 7, 8] (by decide) rfl (by simp) : SH _ _ _ [_, _, _, _, _, _, _] _ _)
                rw [← HR.out] at S1
                exact ⟨k + 1, by omega, by omega, by go_num, ⟨S1⟩⟩
              case measure => simp [intOf]; omega
          · have hlm' : decide ((k : Int) < 8) = false := by simp; omega
            have HE := As.mk (rawT_all (m := 8) (ls := ls) (k := k) (by omega) hkm)
            go_wp2_with (first | ((first | (with_reducible refine wpl_seal S ?_) | (with_reducible refine cw_seal S ?_) | (with_reducible refine bp_seal S ?_) | (with_reducible refine ca_seal S ?_)); clear S hc; intro w1 S; (try simp only [List.set_cons_zero, List.set_cons_succ, List.nil_append] at S); have hc := S.cells; simp only [Cells, cellsC, Im, Row, El, RTH, TreeH, Nat.zero_add, Nat.reduceAdd] at hc))
            obtain ⟨A4, c4, I4, e4, hc4, S4, -⟩ := S.frow 0 rfl
            subst e4
            go_meet
            case rel => 
              have S1 := (S4.sel [0, 1, 2, 3, 6, 5] (by decide) rfl (by simp) : SH _ _ _ [_, _, _, _, _, _] _ _)
              rw [HE.out] at S1
              exact ⟨A4, c4, I4, by rw [HE.out]; rfl, ⟨S1⟩⟩
        · have hlt' : decide ((k : Int) < ls.length) = false := by simpa using hlt
          have HE := As.mk (rawT_all (m := 8) (ls := ls) (k := k) (by omega) hkm)
          go_wp2_with (first | ((first | (with_reducible refine wpl_seal S ?_) | (with_reducible refine cw_seal S ?_) | (with_reducible refine bp_seal S ?_) | (with_reducible refine ca_seal S ?_)); clear S hc; intro w1 S; (try simp only [List.set_cons_zero, List.set_cons_succ, List.nil_append] at S); have hc := S.cells; simp only [Cells, cellsC, Im, Row, El, RTH, TreeH, Nat.zero_add, Nat.reduceAdd] at hc))
          obtain ⟨A4, c4, I4, e4, hc4, S4, -⟩ := S.frow 0 rfl
          subst e4
          go_meet
          case rel => 
            have S1 := (S4.sel [0, 1, 2, 3, 6, 5] (by decide) rfl (by simp) : SH _ _ _ [_, _, _, _, _, _] _ _)
            rw [HE.out] at S1
            exact ⟨A4, c4, I4, by rw [HE.out]; rfl, ⟨S1⟩⟩
  case rest =>
    clear S
    obtain ⟨Ao, co, J, rfl, ⟨S⟩⟩ := hcut
    have HO8 := ownW_len raw ls
    have HO5 := As.mk (ownW_five raw ls)
    generalize hOWN : ownW raw ls = own at S HO8 HO5 ⊢
    have HOWN := As.mk hOWN
    clear hOWN
    have hc := S.cells; simp only [Cells, cellsC, Im, Row, El, RTH, TreeH, Nat.zero_add, Nat.reduceAdd] at hc
    go_wp2_with (first | ((first | (with_reducible refine wpl_seal S ?_) | (with_reducible refine cw_seal S ?_) | (with_reducible refine bp_seal S ?_) | (with_reducible refine ca_seal S ?_)); clear S hc; intro w1 S; (try simp only [List.set_cons_zero, List.set_cons_succ, List.nil_append] at S); have hc := S.cells; simp only [Cells, cellsC, Im, Row, El, RTH, TreeH, Nat.zero_add, Nat.reduceAdd] at hc))
    clear hc
    go_loopw [10] (fun i w' => ∃ (k : Nat) (l : List Nd) (ws : List Int) (L W : List (List Int)) (a1 : Option Addr) (d1 : Nat) (a2 : Option Addr) (d2 : Nat) (J : Fp), k ≤ own.length ∧ i = .int .i64 k ∧ As (St l ws L W) ∧ As (begT (own.take k) = (L, W)) ∧
        L.length ≤ d1 ∧ W.length ≤ d2 ∧ L.length ≤ 1 + 5 * k ∧ W.length ≤ k ∧ As (∀ x ∈ L, x.length ≤ 5) ∧
        As (SH No I w [Im kW Ao own, Cel gT 27 [.slice a1 L.length d1, .slice a2 W.length d2], TreeH b l ws, Cel g5 27 [.slice none 0 0, .slice none 0 0], Im kW a1 L, Im kW a2 W] w' J)) (fun i _ => own.length - (intOf i).toNat)
    case atStart => exact ⟨0, _, _, [[]], [], A1, c1, A2, c2, J, Nat.zero_le _, rfl, ⟨St.one⟩, ⟨rfl⟩, hl1, hl2, by simp, by simp, ⟨by simp⟩, ⟨S⟩⟩
    case round =>
      clear S
      obtain ⟨k, l, ws, L, W, a1, d1, a2, d2, J, hk, rfl, HSt, HB, hd1, hd2, hLk, hWk, HL5, ⟨S⟩⟩ := hrel
      have hc := S.cells; simp only [Cells, cellsC, Im, Row, El, RTH, TreeH, Nat.zero_add, Nat.reduceAdd] at hc
      by_cases hlt : k < own.length
      · have hlt' : decide ((k : Int) < own.length) = true := by simpa using hlt
        obtain ⟨ob, oo, A3, c3, rfl, hco, hc3, hs3⟩ := (S.im 0 rfl).sl_at hlt
        have h5 := HO5.out _ (List.getElem_mem hlt)
        have hlb : l.length ≤ 41 := by rw [HSt.out.tie.len]; omega
        have hwb : ws.length ≤ 8 := by rw [HSt.out.wlen]; omega
        replace S := S.know (h := Im kP A3 own[k]) hs3
        have hqx := hco
        clear hs3
        by_cases he : own[k] = []
        · have he0 : own[k].length = 0 := by rw [he]; rfl
          have hz : (((own[k].length : Int)) == 0) = true := by simp [he0]
          have HE : As (begT (own.take (k + 1)) = (L, W)) := ⟨by rw [begT_succ hlt, HB.out, stepB, if_pos he]⟩
          have HN : As (∀ w', SH No I w [Im kP A3 own[k], Im kW (some ⟨ob, oo, none⟩) own, Cel gT 27 [.slice a1 L.length d1, .slice a2 W.length d2], TreeH b l ws, Cel g5 27 [.slice none 0 0, .slice none 0 0], Im kW a1 L, Im kW a2 W] w' J → Calls Try.prog 14 #[.pointer (some ⟨b, 0, none⟩), .slice A3 own[k].length c3] w' fun e w'' => e = .returned (.tuple #[.int .i64 (-1), .int .i64 1]) ∧ Ext w' w'') := ⟨fun w' S => by rw [he0]; exact put_none S 3 rfl HSt.out (by omega) (by omega)⟩
          clear he he0
          go_wp2_with (first | ((first | (with_reducible refine wpl_seal S ?_) | (with_reducible refine cw_seal S ?_) | (with_reducible refine bp_seal S ?_) | (with_reducible refine ca_seal S ?_)); clear S hc; intro w1 S; (try simp only [List.set_cons_zero, List.set_cons_succ, List.nil_append] at S); have hc := S.cells; simp only [Cells, cellsC, Im, Row, El, RTH, TreeH, Nat.zero_add, Nat.reduceAdd] at hc) | (go_at_call 14; refine (HN.out _ S).mono ?_; rintro e w1 ⟨rfl, hx⟩; replace S := S.ext hx; clear hc hqx; have hqx := hx.cell hco; clear hx; have hc := S.cells; simp only [Cells, cellsC, Im, Row, El, RTH, TreeH, Nat.zero_add, Nat.reduceAdd] at hc))
          go_roundw
          case rel => exact ⟨k + 1, l, ws, L, W, a1, d1, a2, d2, J, by omega, by go_num, HSt, HE, hd1, hd2, by omega, by omega, HL5, ⟨(S.sel [1, 2, 3, 4, 5, 6] (by decide) rfl (by simp) : SH _ _ _ [_, _, _, _, _, _] _ _)⟩⟩
          case measure => simp [intOf]; omega
        · have hz : (((own[k].length : Int)) == 0) = false := by
            have : own[k].length ≠ 0 := fun e => he (List.eq_nil_of_length_eq_zero e)
            simp; omega
          have hnn : ((W.length : Int) != (W.length : Int)) = false := by simp
          have HE : As (begT (own.take (k + 1)) = (putL L own[k] own[k].length, W ++ [own[k]])) := ⟨by rw [begT_succ hlt, HB.out, stepB, if_neg he]⟩
          have HNE := As.mk he
          have hpl := putL_len L own[k] own[k].length
          have HP5 := As.mk (putL_mem HL5.out h5 own[k].length)
          have HLs : As (ShortW L) := ⟨fun x hx => by have := HL5.out x hx; omega⟩
          clear he
          go_wp2_with (first | ((first | (with_reducible refine wpl_seal S ?_) | (with_reducible refine cw_seal S ?_) | (with_reducible refine bp_seal S ?_) | (with_reducible refine ca_seal S ?_)); clear S hc; intro w1 S; (try simp only [List.set_cons_zero, List.set_cons_succ, List.nil_append] at S); have hc := S.cells; simp only [Cells, cellsC, Im, Row, El, RTH, TreeH, Nat.zero_add, Nat.reduceAdd] at hc) | (go_at_call 14; refine (put_s S 3 rfl HSt.out (S.im 0 rfl) hc3 (by omega) (by omega) (by omega) HNE.out).mono ?_; clear hc hqx; rintro e w1 ⟨l5, ws5, J5, rfl, S5, hs5, hl5⟩; have HS5 := As.mk hs5; clear S hs5; have S := S5; clear S5; simp only [List.set_cons_zero, List.set_cons_succ, List.nil_append] at S; obtain ⟨ob6, oo6, A6, c6, e6, hqx, hc6, hs6⟩ := (S.im 1 rfl).sl_at hlt; cases e6; replace S := S.know (h := Im kP A6 own[k]) hs6; clear hs6; have hc := S.cells; simp only [Cells, cellsC, Im, Row, El, RTH, TreeH, Nat.zero_add, Nat.reduceAdd] at hc))
          have hq := S.cellsE; simp only [CellsE, cellsE, Im, Row, El, RTH, TreeH, Nat.zero_add, Nat.reduceAdd] at hq
          have hqy := ClE.cell (w := w1.drew) hqx
          refine wp_region_ext [⟨[0, 1, 2, 3, 4], [], 5, false⟩, ⟨[], [], 6, false⟩] [] (by kernel_rfl) (by kernel_rfl) ?_
          refine mix_cons rfl rfl rfl ?_
          simp only [opsAt, List.getD_cons_succ, List.getD_cons_zero]
          repeat (go_big_quiet_step ((intro hC; first | rfl | (go_simp; first | done | rfl))))
          refine wpQuiet_nil ?_
          repeat (go_big_quiet_step ((intro hC; first | rfl | (go_simp; first | done | rfl))))
          refine wpQuiet_nil ?_
          clear hq hqy hqx hc
          replace S := S.drew
          have hc := S.cells; simp only [Cells, cellsC, Im, Row, El, RTH, TreeH, Nat.zero_add, Nat.reduceAdd] at hc
          go_wp2_with (first | ((first | (with_reducible refine mx_seal S ?_) | (with_reducible refine wpl_seal S ?_) | (with_reducible refine ca_seal S ?_)); clear S hc; intro w1 S; (try simp only [List.set_cons_zero, List.set_cons_succ, List.nil_append] at S); have hc := S.cells; simp only [Cells, cellsC, Im, Row, El, RTH, TreeH, Nat.zero_add, Nat.reduceAdd] at hc) | (go_at_call 35; refine (rput_c L W own[k] _ A6 c6 _ J5 S.bd ⟨a1, d1, a2, d2, rfl, hd1, hd2, S.im 6 rfl, S.im 7 rfl⟩ (S.im 0 rfl) hc6 (by omega) (by omega) HLs.out).mono ?_; rintro e w1 ⟨v, rfl, hu⟩; obtain ⟨I1, S1, hI1⟩ := S.new hu; clear S hc hu hI1; have S := S1; clear S1; have hc := S.cells; simp only [Cells, cellsC, Im, Row, El, RTH, TreeH, Nat.zero_add, Nat.reduceAdd] at hc; obtain ⟨a5, d5, a6, d6, rfl, hd5, hd6, hs5, hs6⟩ := S.rt 0 rfl; replace S := (S.know (h := Im kW a6 _) hs6).know (h := Im kW a5 _) hs5; clear hc hs5 hs6; have hc := S.cells; simp only [Cells, cellsC, Im, Row, El, RTH, TreeH, Nat.zero_add, Nat.reduceAdd] at hc))
          (first | refine ⟨(fun h => by cases h), ?_⟩ | skip); (first | ((first | (with_reducible refine mx_seal S ?_)); clear S hc; intro w1 S; (try simp only [List.set_cons_zero, List.set_cons_succ, List.nil_append] at S); have hc := S.cells; simp only [Cells, cellsC, Im, Row, El, RTH, TreeH, Nat.zero_add, Nat.reduceAdd] at hc) | skip); (try simp only [Act.put, List.setIfInBounds_toArray, List.set_cons_succ, List.set_cons_zero])
          refine mix_cons rfl rfl rfl ?_
          simp only [opsAt, List.getD_cons_succ, List.getD_cons_zero]
          repeat (go_big_quiet_step ((intro hC; first | rfl | (go_simp; first | done | rfl))))
          refine wpQuiet_nil ?_
          repeat (go_big_quiet_step ((intro hC; first | rfl | (go_simp; first | done | rfl))))
          refine wpQuiet_nil ?_
          go_wp2_with (first | ((first | (with_reducible refine mx_seal S ?_) | (with_reducible refine wpl_seal S ?_) | (with_reducible refine ca_seal S ?_)); clear S hc; intro w1 S; (try simp only [List.set_cons_zero, List.set_cons_succ, List.nil_append] at S); have hc := S.cells; simp only [Cells, cellsC, Im, Row, El, RTH, TreeH, Nat.zero_add, Nat.reduceAdd] at hc))
          (first | refine ⟨(fun h => by cases h), ?_⟩ | skip); (first | ((first | (with_reducible refine mx_seal S ?_)); clear S hc; intro w1 S; (try simp only [List.set_cons_zero, List.set_cons_succ, List.nil_append] at S); have hc := S.cells; simp only [Cells, cellsC, Im, Row, El, RTH, TreeH, Nat.zero_add, Nat.reduceAdd] at hc) | skip); (try simp only [Act.put, List.setIfInBounds_toArray, List.set_cons_succ, List.set_cons_zero])
          refine mix_done ?_
          simp only [calmQ]
          go_wp2_with (first | ((first | (with_reducible refine wpl_seal S ?_) | (with_reducible refine cw_seal S ?_) | (with_reducible refine bp_seal S ?_) | (with_reducible refine ca_seal S ?_)); clear S hc; intro w1 S; (try simp only [List.set_cons_zero, List.set_cons_succ, List.nil_append] at S); have hc := S.cells; simp only [Cells, cellsC, Im, Row, El, RTH, TreeH, Nat.zero_add, Nat.reduceAdd] at hc))
          go_roundw
          case rel =>
            have S1 := (S.sel [5, 6, 7, 8, 0, 1] (by decide) rfl (by simp) : SH _ _ _ [_, _, _, _, _, _] _ _)
            refine ⟨k + 1, l5, ws5, putL L own[k] own[k].length, W ++ [own[k]], a5, d5, a6, d6, _, by omega, by go_num, HS5, HE, hd5, hd6, by omega, by simp; omega, HP5, ⟨by simpa only [List.length_append, List.length_cons, List.length_nil, Nat.zero_add, List.nil_append] using S1⟩⟩
          case measure => simp [intOf]; omega
      · have hlt' : decide ((k : Int) < own.length) = false := by simpa using hlt
        have hke : own.take k = own := List.take_of_length_le (by omega)
        have HKE : As (begT own = (L, W)) := ⟨by rw [← hke]; exact HB.out⟩
        clear hke
        have hq := S.cellsE; simp only [CellsE, cellsE, Im, Row, El, RTH, TreeH, Nat.zero_add, Nat.reduceAdd] at hq
        go_wp2_with (first | ((first | (with_reducible refine wpl_seal S ?_) | (with_reducible refine cw_seal S ?_) | (with_reducible refine bp_seal S ?_) | (with_reducible refine ca_seal S ?_)); clear S hc; intro w1 S; (try simp only [List.set_cons_zero, List.set_cons_succ, List.nil_append] at S); have hc := S.cells; simp only [Cells, cellsC, Im, Row, El, RTH, TreeH, Nat.zero_add, Nat.reduceAdd] at hc))
        refine wp_region_ext [⟨[0, 1, 2], [], 3, false⟩] [] (by kernel_rfl) (by kernel_rfl) ?_
        refine mix_cons rfl rfl rfl ?_
        simp only [opsAt, List.getD_cons_succ, List.getD_cons_zero]
        repeat (go_big_quiet_step ((intro hC; first | rfl | (go_simp; first | done | rfl))))
        refine wpQuiet_nil ?_
        repeat (go_big_quiet_step ((intro hC; first | rfl | (go_simp; first | done | rfl))))
        refine wpQuiet_nil ?_
        clear hq
        go_wp2_with (first | ((first | (with_reducible refine mx_seal S ?_) | (with_reducible refine wpl_seal S ?_) | (with_reducible refine ca_seal S ?_)); clear S hc; intro w1 S; (try simp only [List.set_cons_zero, List.set_cons_succ, List.nil_append] at S); have hc := S.cells; simp only [Cells, cellsC, Im, Row, El, RTH, TreeH, Nat.zero_add, Nat.reduceAdd] at hc))
        (first | refine ⟨(fun h => by cases h), ?_⟩ | skip); (first | ((first | (with_reducible refine mx_seal S ?_)); clear S hc; intro w1 S; (try simp only [List.set_cons_zero, List.set_cons_succ, List.nil_append] at S); have hc := S.cells; simp only [Cells, cellsC, Im, Row, El, RTH, TreeH, Nat.zero_add, Nat.reduceAdd] at hc) | skip); (try simp only [Act.put, List.setIfInBounds_toArray, List.set_cons_succ, List.set_cons_zero])
        refine mix_done ?_
        simp only [calmQ]
        go_wp2_with (first | ((first | (with_reducible refine wpl_seal S ?_) | (with_reducible refine cw_seal S ?_) | (with_reducible refine bp_seal S ?_) | (with_reducible refine ca_seal S ?_)); clear S hc; intro w1 S; (try simp only [List.set_cons_zero, List.set_cons_succ, List.nil_append] at S); have hc := S.cells; simp only [Cells, cellsC, Im, Row, El, RTH, TreeH, Nat.zero_add, Nat.reduceAdd] at hc))
        refine bodyPost_ret (results_tmp_cell rfl _ _ g5 27 _ (0, 0) _ rfl (S.cel 3 rfl) Try.underlying27 rfl (by kernel_rfl)) rfl ?_
        have S1 := (S.sel [2, 4, 5] (by decide) rfl (by simp) : SH _ _ _ [_, _, _] _ _)
        refine ⟨b, l, ws, _, L, W, J, rfl, ((S1.know (h := RTH _ L W) ⟨a1, d1, a2, d2, rfl, hd1, hd2, S1.im 1 rfl, S1.im 2 rfl⟩).sel [1, 0] (by decide) rfl (by simp)), HSt.out, by rw [HOWN.out]; exact HKE.out, by omega, by omega, HL5.out⟩
end Go.Proofs.Ythmcefalaieigaa
