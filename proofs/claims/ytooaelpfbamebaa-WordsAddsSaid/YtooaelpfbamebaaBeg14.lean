/- A set of rows, made of a law's arguments. -/
import Derived.Test.YtooaelpfbamebaaWRef
namespace Go.Proofs.Ytooaelpfbamebaa
open Go.RowKit X
set_option maxHeartbeats 4000000
set_option maxRecDepth 8000
set_option linter.unusedSimpArgs false
set_option linter.unusedVariables false
def rawW (ls : List (List Int)) (k : Nat) : List (List Int) := (ls.take k).map (·.take 5)
def ownA (raw : Bool) (ls : List (List Int)) : List (List Int) := if raw then rawW ls 8 else smallT ls 8
theorem rawW_succ {ls : List (List Int)} {k : Nat} (h : k < ls.length) : rawW ls (k + 1) = rawW ls k ++ [ls[k].take 5] := by
  unfold rawW
  rw [List.take_succ_eq_append_getElem h, List.map_append]
  rfl
theorem rawW_all {ls : List (List Int)} {k m : Nat} (h : ¬ (k < ls.length ∧ k < m)) (hk : k ≤ m) : rawW ls k = rawW ls m := by
  unfold rawW
  by_cases h1 : k < ls.length
  · have : k = m := by omega
    rw [this]
  · rw [List.take_of_length_le (by omega), List.take_of_length_le (by omega)]
theorem rawW_len (ls : List (List Int)) (m : Nat) : (rawW ls m).length ≤ m := by
  unfold rawW; rw [List.length_map, List.length_take]; omega
theorem ownA_len (raw : Bool) (ls : List (List Int)) : (ownA raw ls).length ≤ 8 := by
  unfold ownA; split
  · exact rawW_len ls 8
  · exact smallT_len ls 8
theorem ownA_five (raw : Bool) (ls : List (List Int)) : ∀ x ∈ ownA raw ls, x.length ≤ 5 := by
  intro x hx
  unfold ownA at hx
  split at hx
  · unfold rawW at hx
    obtain ⟨y, hy, rfl⟩ := List.mem_map.1 hx
    rw [List.length_take]; omega
  · exact (smallT_ne x hx).2
def stepW (s : List (List Int) × List (List Int)) (x : List Int) : List (List Int) × List (List Int) := (addL s.1 s.2 x, addW s.2 x)
def setT (own : List (List Int)) : List (List Int) × List (List Int) := own.foldl stepW ([[]], [])
theorem setT_succ {own : List (List Int)} {k : Nat} (h : k < own.length) : setT (own.take (k + 1)) = stepW (setT (own.take k)) own[k] := by
  unfold setT
  rw [List.take_succ_eq_append_getElem h, List.foldl_append]; rfl
theorem addL_len (L W : List (List Int)) {x : List Int} (h : x.length ≤ 5) : (addL L W x).length ≤ L.length + 5 := by
  unfold addL
  have := putL_len L x x.length
  split
  · omega
  · split <;> omega
theorem addL_mem {L W : List (List Int)} {x : List Int} (h : x.length ≤ 5) (hL : ∀ y ∈ L, y.length ≤ 5) : ∀ y ∈ addL L W x, y.length ≤ 5 := by
  unfold addL
  split
  · exact hL
  · split
    · exact hL
    · exact putL_mem hL h _
theorem addW_len (W : List (List Int)) (x : List Int) : (addW W x).length ≤ W.length + 1 := by
  unfold addW
  split
  · omega
  · split
    · omega
    · simp
theorem addW_mem {W : List (List Int)} {x : List Int} (h : x.length ≤ 5) (hW : ∀ y ∈ W, y ≠ [] ∧ y.length ≤ 5) : ∀ y ∈ addW W x, y ≠ [] ∧ y.length ≤ 5 := by
  unfold addW
  split
  · exact hW
  · split
    · exact hW
    · intro y hy
      rcases List.mem_append.1 hy with hy | hy
      · exact hW y hy
      · rw [List.mem_singleton.1 hy]; exact ⟨by assumption, h⟩
theorem neW_of {W : List (List Int)} (h : ∀ y ∈ W, y ≠ [] ∧ y.length ≤ 5) : NeW W := fun q hq => by rw [pa_eq hq]; exact (h _ (List.getElem_mem hq)).1
theorem X.SH.setG {F0 I0 I : Fp} {w0 w : World} {O : List Ob} {L W : List (List Int)} {gs : Nat} (S : SH F0 I0 w0 O w I) (i : Nat) (e : O[i]? = some (SetO gs L W)) : GoodR L W := by
  obtain ⟨F, ⟨gt, v, pa, Fs, a, -, -⟩, -⟩ := S.get i e
  obtain ⟨l, ws, -, s⟩ := a 1 (TR gt L W) rfl
  exact s.goodR
theorem begin14_c (raw : Bool) (ls : List (List Int)) (A : Option Addr) (c : Nat) (w : World) (I : Fp) (hI : ∀ b, I b → b < w.heap.size) (hx : Sl kW w I A ls) :
    Calls Try.prog 9 #[.slice A ls.length c, .bool raw] w fun e w' => ∃ gs L W a2 d2 J, e = .returned (.tuple #[.pointer (some ⟨gs, 0, none⟩), .slice a2 W.length d2]) ∧ SH No I w [SetO gs L W, Im kW a2 W] w' J ∧ W.length ≤ d2 ∧ setT (ownA raw ls) = (L, W) ∧ L.length ≤ 41 ∧ W.length ≤ 8 ∧ (∀ x ∈ L, x.length ≤ 5) ∧ (∀ x ∈ W, x ≠ [] ∧ x.length ≤ 5) := by
  have S := (SH.start w I hI).know (h := Im kW A ls) hx
  clear hx
  have HOL := As.mk (smallT_len ls 8)
  have hc := S.cells; simp only [Cells, cellsC, Im, Row, El, RTH, TreeH, TR, AU, AL, OrNil, AuP, SetO, Many, ScO, Nat.zero_add, Nat.reduceAdd] at hc
  go_enter Try.func9, Try.ntmps9
  go_upto_if 18 with (first | ((first | (with_reducible refine wpl_seal S ?_) | (with_reducible refine cw_seal S ?_) | (with_reducible refine bp_seal S ?_) | (with_reducible refine ca_seal S ?_)); clear S; (try clear hc); intro w1 S; (try simp only [List.set_cons_zero, List.set_cons_succ, List.nil_append] at S); have hc := S.cells; simp only [Cells, cellsC, Im, Row, El, RTH, TreeH, TR, AU, AL, OrNil, AuP, SetO, Many, ScO, Nat.zero_add, Nat.reduceAdd] at hc) | (go_at_call 26; refine (wnew_c _ _ S.bd).mono ?_; rintro e w1 ⟨gs, J, rfl, S2⟩; obtain ⟨J2, S3, -, -⟩ := S.comp S2; clear S S2; (try clear hc); have S := S3; clear S3; simp only [List.cons_append, List.nil_append] at S; have hc := S.cells; simp only [Cells, cellsC, Im, Row, El, RTH, TreeH, TR, AU, AL, OrNil, AuP, SetO, Many, ScO, Nat.zero_add, Nat.reduceAdd] at hc) | (go_at_call 27; refine (small_c ls A c _ _ S.bd (S.im 1 rfl)).mono ?_; rintro e w1 ⟨v, rfl, hu⟩; obtain ⟨I1, S1, hI1⟩ := S.new hu; clear S hu hI1; (try clear hc); have S := S1; clear S1; have hc := S.cells; simp only [Cells, cellsC, Im, Row, El, RTH, TreeH, TR, AU, AL, OrNil, AuP, SetO, Many, ScO, Nat.zero_add, Nat.reduceAdd] at hc; obtain ⟨Ao, co, I1, e1, hco, S1, hI1⟩ := S.frow 0 rfl; subst e1; clear S hI1; have S := S1; clear S1; simp only [List.set_cons_zero, List.set_cons_succ, List.nil_append] at S; clear hc; have hc := S.cells; simp only [Cells, cellsC, Im, Row, El, RTH, TreeH, TR, AU, AL, OrNil, AuP, SetO, Many, ScO, Nat.zero_add, Nat.reduceAdd] at hc))
  clear hc
  go_cut [7] (fun o w' => ∃ (Ao : Option Addr) (co : Nat) (J : Fp), o = .slice Ao (ownA raw ls).length co ∧ As (SH No I w [Im kW Ao (ownA raw ls), SetO gs [[]] []] w' J))
  case first =>
    have hc := S.cells; simp only [Cells, cellsC, Im, Row, El, RTH, TreeH, TR, AU, AL, OrNil, AuP, SetO, Many, ScO, Nat.zero_add, Nat.reduceAdd] at hc
    cases raw
    · go_wp2_with (first | ((first | (with_reducible refine wpl_seal S ?_) | (with_reducible refine cw_seal S ?_) | (with_reducible refine bp_seal S ?_) | (with_reducible refine ca_seal S ?_)); clear S; (try clear hc); intro w1 S; (try simp only [List.set_cons_zero, List.set_cons_succ, List.nil_append] at S); have hc := S.cells; simp only [Cells, cellsC, Im, Row, El, RTH, TreeH, TR, AU, AL, OrNil, AuP, SetO, Many, ScO, Nat.zero_add, Nat.reduceAdd] at hc))
      go_meet
      case rel => exact ⟨_, _, _, rfl, ⟨(S.sel [0, 1] (by decide) rfl (by simp) : SH _ _ _ [_, _] _ _)⟩⟩
    · replace S := ((S.sel [1, 2] (by decide) rfl (by simp) : SH _ _ _ [_, _] _ _)).nilrow (k := kW)
      go_wp2_with (first | ((first | (with_reducible refine wpl_seal S ?_) | (with_reducible refine cw_seal S ?_) | (with_reducible refine bp_seal S ?_) | (with_reducible refine ca_seal S ?_)); clear S; (try clear hc); intro w1 S; (try simp only [List.set_cons_zero, List.set_cons_succ, List.nil_append] at S); have hc := S.cells; simp only [Cells, cellsC, Im, Row, El, RTH, TreeH, TR, AU, AL, OrNil, AuP, SetO, Many, ScO, Nat.zero_add, Nat.reduceAdd] at hc))
      clear hc
      go_loopw [7, 8] (fun o i w' => ∃ (k : Nat), k ≤ ls.length ∧ k ≤ 8 ∧ i = .int .i64 k ∧ As (SH No I w [Row kW o (rawW ls k), SetO gs [[]] [], Im kW A ls] w' I1)) (fun _ i _ => ls.length - (intOf i).toNat)
      case atStart => exact ⟨0, Nat.zero_le _, Nat.zero_le _, rfl, ⟨S⟩⟩
      case round =>
        clear S
        obtain ⟨k, hk, hkm, rfl, ⟨S⟩⟩ := hrel
        have hc := S.cells; simp only [Cells, cellsC, Im, Row, El, RTH, TreeH, TR, AU, AL, OrNil, AuP, SetO, Many, ScO, Nat.zero_add, Nat.reduceAdd] at hc
        by_cases hlt : k < ls.length
        · have hlt' : decide ((k : Int) < ls.length) = true := by simpa using hlt
          by_cases hlm : k < 8
          · have hlm' : decide ((k : Int) < 8) = true := by simp; omega
            obtain ⟨lb, lo, A3, c3, rfl, hcx, hc3, hs1⟩ := (S.im 2 rfl).sl_at hlt
            replace S := S.know (h := Im kP A3 ls[k]) hs1
            have HRY := As.mk (rawW_succ hlt)
            have hrl := rawW_len ls k
            have hqx := ClE.cell (w := wr.drew) hcx
            clear hs1
            have hq := S.cellsE; simp only [CellsE, cellsE, Im, Row, El, RTH, TreeH, TR, AU, AL, OrNil, AuP, SetO, Many, ScO, Nat.zero_add, Nat.reduceAdd] at hq
            have HE6 : As ((ls[k].take 5).length = (min (ls[k].length : Int) 5).toNat) := ⟨by rw [List.length_take]; omega⟩
            by_cases h5 : ls[k].length ≤ 5
            all_goals
              first | (have h5' : (ls[k].length : Int) ≤ 5 := by omega) | (have h5' : 5 < (ls[k].length : Int) := by omega)
              first | (have HE5 : As ((ls[k].take 5).length = ls[k].length) := ⟨by rw [List.length_take]; omega⟩) | (have HE5 : As ((ls[k].take 5).length = 5) := ⟨by rw [List.length_take]; omega⟩)
              go_wp2_with (first | ((first | (with_reducible refine wpl_seal S ?_) | (with_reducible refine cw_seal S ?_) | (with_reducible refine bp_seal S ?_) | (with_reducible refine ca_seal S ?_)); clear S; (try clear hc); intro w1 S; (try simp only [List.set_cons_zero, List.set_cons_succ, List.nil_append] at S); have hc := S.cells; simp only [Cells, cellsC, Im, Row, El, RTH, TreeH, TR, AU, AL, OrNil, AuP, SetO, Many, ScO, Nat.zero_add, Nat.reduceAdd] at hc))
              refine wp_region_ext [⟨[1, 2, 3, 4, 5, 6, 7, 8, 9, 10, 11], [0], 12, false⟩, ⟨[], [], 13, false⟩] [14] (by kernel_rfl) (by kernel_rfl) ?_
              refine mix_cons rfl rfl rfl ?_
              simp only [opsAt, List.getD_cons_succ, List.getD_cons_zero]
              repeat (go_big_quiet_step ((intro hC; first | rfl | (go_simp; first | done | rfl))))
              refine wpQuiet_nil ?_
              repeat (go_big_quiet_step ((intro hC; first | rfl | (go_simp; first | done | rfl))))
              refine wpQuiet_nil ?_
              clear hq hqx
              go_wp2_with (first | ((first | (with_reducible refine mx_seal S ?_) | (with_reducible refine wpl_seal S ?_) | (with_reducible refine ca_seal S ?_)); clear S; (try clear hc); intro w1 S; (try simp only [List.set_cons_zero, List.set_cons_succ, List.nil_append] at S); have hc := S.cells; simp only [Cells, cellsC, Im, Row, El, RTH, TreeH, TR, AU, AL, OrNil, AuP, SetO, Many, ScO, Nat.zero_add, Nat.reduceAdd] at hc) | (at_builtin; refine wpl_push S 2 rfl rfl _ _ rfl ty_rows rfl (ls[k].take 5) _ _ rfl [_] _ (S.cel 0 rfl) ⟨_, _, by (first | (rw [HE6.out]; done) | (rw [HE5.out]; done)), by rw [HE5.out]; omega, (S.im 1 rfl).take 5⟩ (by (try simp only [maxLen, List.length_nil, List.length_append, List.length_cons]); omega) (by (try simp only [maxLen, List.length_nil, List.length_append, List.length_cons]); omega) ?_; clear S; (try clear hc); intro va w1 S; simp only [List.set_cons_zero, List.set_cons_succ, List.nil_append] at S; have hc := S.cells; simp only [Cells, cellsC, Im, Row, El, RTH, TreeH, TR, AU, AL, OrNil, AuP, SetO, Many, ScO, Nat.zero_add, Nat.reduceAdd] at hc))
              (first | refine ⟨(fun h => by cases h), ?_⟩ | skip); (first | ((first | (with_reducible refine mx_seal S ?_)); clear S; (try clear hc); intro w1 S; (try simp only [List.set_cons_zero, List.set_cons_succ, List.nil_append] at S); have hc := S.cells; simp only [Cells, cellsC, Im, Row, El, RTH, TreeH, TR, AU, AL, OrNil, AuP, SetO, Many, ScO, Nat.zero_add, Nat.reduceAdd] at hc) | skip); (try simp only [Act.put, List.setIfInBounds_toArray, List.set_cons_succ, List.set_cons_zero])
              refine mix_cons rfl rfl rfl ?_
              simp only [opsAt, List.getD_cons_succ, List.getD_cons_zero]
              repeat (go_big_quiet_step ((intro hC; first | rfl | (go_simp; first | done | rfl))))
              refine wpQuiet_nil ?_
              repeat (go_big_quiet_step ((intro hC; first | rfl | (go_simp; first | done | rfl))))
              refine wpQuiet_nil ?_
              go_wp2_with (first | ((first | (with_reducible refine mx_seal S ?_) | (with_reducible refine wpl_seal S ?_) | (with_reducible refine ca_seal S ?_)); clear S; (try clear hc); intro w1 S; (try simp only [List.set_cons_zero, List.set_cons_succ, List.nil_append] at S); have hc := S.cells; simp only [Cells, cellsC, Im, Row, El, RTH, TreeH, TR, AU, AL, OrNil, AuP, SetO, Many, ScO, Nat.zero_add, Nat.reduceAdd] at hc) | (at_builtin; refine wpl_push S 2 rfl rfl _ _ rfl ty_rows rfl (ls[k].take 5) _ _ rfl [_] _ (S.cel 0 rfl) ⟨_, _, by (first | (rw [HE6.out]; done) | (rw [HE5.out]; done)), by rw [HE5.out]; omega, (S.im 1 rfl).take 5⟩ (by (try simp only [maxLen, List.length_nil, List.length_append, List.length_cons]); omega) (by (try simp only [maxLen, List.length_nil, List.length_append, List.length_cons]); omega) ?_; clear S; (try clear hc); intro va w1 S; simp only [List.set_cons_zero, List.set_cons_succ, List.nil_append] at S; have hc := S.cells; simp only [Cells, cellsC, Im, Row, El, RTH, TreeH, TR, AU, AL, OrNil, AuP, SetO, Many, ScO, Nat.zero_add, Nat.reduceAdd] at hc))
              (first | refine ⟨(fun h => by cases h), ?_⟩ | skip); (first | ((first | (with_reducible refine mx_seal S ?_)); clear S; (try clear hc); intro w1 S; (try simp only [List.set_cons_zero, List.set_cons_succ, List.nil_append] at S); have hc := S.cells; simp only [Cells, cellsC, Im, Row, El, RTH, TreeH, TR, AU, AL, OrNil, AuP, SetO, Many, ScO, Nat.zero_add, Nat.reduceAdd] at hc) | skip); (try simp only [Act.put, List.setIfInBounds_toArray, List.set_cons_succ, List.set_cons_zero])
              refine mix_last rfl ?_
              simp only [opsAt, List.getD_cons_succ, List.getD_cons_zero]
              repeat (go_big_quiet_step ((intro hC; first | rfl | (go_simp; first | done | rfl))))
              refine wpQuiet_nil ?_
              simp only [calmQ]
              go_wp2_with (first | ((first | (with_reducible refine wpl_seal S ?_) | (with_reducible refine cw_seal S ?_) | (with_reducible refine bp_seal S ?_) | (with_reducible refine ca_seal S ?_)); clear S; (try clear hc); intro w1 S; (try simp only [List.set_cons_zero, List.set_cons_succ, List.nil_append] at S); have hc := S.cells; simp only [Cells, cellsC, Im, Row, El, RTH, TreeH, TR, AU, AL, OrNil, AuP, SetO, Many, ScO, Nat.zero_add, Nat.reduceAdd] at hc))
              go_roundw
              case rel =>
                have S1 := (S.sel [2, 3, 4] (by decide) rfl (by simp) : SH _ _ _ [_, _, _] _ _)
                rw [← HRY.out] at S1
                exact ⟨k + 1, by omega, by omega, by go_num, ⟨S1⟩⟩
              case measure => simp [intOf]; omega
          · have hlm' : decide ((k : Int) < 8) = false := by simp; omega
            have HE := As.mk (rawW_all (m := 8) (ls := ls) (k := k) (by omega) hkm)
            go_wp2_with (first | ((first | (with_reducible refine wpl_seal S ?_) | (with_reducible refine cw_seal S ?_) | (with_reducible refine bp_seal S ?_) | (with_reducible refine ca_seal S ?_)); clear S; (try clear hc); intro w1 S; (try simp only [List.set_cons_zero, List.set_cons_succ, List.nil_append] at S); have hc := S.cells; simp only [Cells, cellsC, Im, Row, El, RTH, TreeH, TR, AU, AL, OrNil, AuP, SetO, Many, ScO, Nat.zero_add, Nat.reduceAdd] at hc))
            obtain ⟨A4, c4, I4, e4, hc4, S4, -⟩ := S.frow 0 rfl
            subst e4
            go_meet
            case rel => 
              have S1 := (S4.sel [0, 1] (by decide) rfl (by simp) : SH _ _ _ [_, _] _ _)
              rw [HE.out] at S1
              exact ⟨A4, c4, I4, by rw [HE.out]; rfl, ⟨S1⟩⟩
        · have hlt' : decide ((k : Int) < ls.length) = false := by simpa using hlt
          have HE := As.mk (rawW_all (m := 8) (ls := ls) (k := k) (by omega) hkm)
          go_wp2_with (first | ((first | (with_reducible refine wpl_seal S ?_) | (with_reducible refine cw_seal S ?_) | (with_reducible refine bp_seal S ?_) | (with_reducible refine ca_seal S ?_)); clear S; (try clear hc); intro w1 S; (try simp only [List.set_cons_zero, List.set_cons_succ, List.nil_append] at S); have hc := S.cells; simp only [Cells, cellsC, Im, Row, El, RTH, TreeH, TR, AU, AL, OrNil, AuP, SetO, Many, ScO, Nat.zero_add, Nat.reduceAdd] at hc))
          obtain ⟨A4, c4, I4, e4, hc4, S4, -⟩ := S.frow 0 rfl
          subst e4
          go_meet
          case rel => 
            have S1 := (S4.sel [0, 1] (by decide) rfl (by simp) : SH _ _ _ [_, _] _ _)
            rw [HE.out] at S1
            exact ⟨A4, c4, I4, by rw [HE.out]; rfl, ⟨S1⟩⟩
  case rest =>
    clear S
    obtain ⟨Ao, co, J, rfl, ⟨S⟩⟩ := hcut
    have HO8 := ownA_len raw ls
    have HO5 := As.mk (ownA_five raw ls)
    generalize hOWN : ownA raw ls = own at S HO8 HO5 ⊢
    have HOWN := As.mk hOWN
    clear hOWN
    have hc := S.cells; simp only [Cells, cellsC, Im, Row, El, RTH, TreeH, TR, AU, AL, OrNil, AuP, SetO, Many, ScO, Nat.zero_add, Nat.reduceAdd] at hc
    go_wp2_with (first | ((first | (with_reducible refine wpl_seal S ?_) | (with_reducible refine cw_seal S ?_) | (with_reducible refine bp_seal S ?_) | (with_reducible refine ca_seal S ?_)); clear S; (try clear hc); intro w1 S; (try simp only [List.set_cons_zero, List.set_cons_succ, List.nil_append] at S); have hc := S.cells; simp only [Cells, cellsC, Im, Row, El, RTH, TreeH, TR, AU, AL, OrNil, AuP, SetO, Many, ScO, Nat.zero_add, Nat.reduceAdd] at hc))
    clear hc
    go_loopw [9, 10] (fun o i w' => ∃ (k : Nat) (L W : List (List Int)) (a2 : Option Addr) (d2 : Nat) (J : Fp), k ≤ own.length ∧ i = .int .i64 k ∧ o = .slice a2 W.length d2 ∧ As (setT (own.take k) = (L, W)) ∧
        W.length ≤ d2 ∧ L.length ≤ 1 + 5 * k ∧ W.length ≤ k ∧ As (∀ x ∈ L, x.length ≤ 5) ∧ As (∀ x ∈ W, x ≠ [] ∧ x.length ≤ 5) ∧
        As (SH No I w [SetO gs L W, Im kW Ao own, Im kW a2 W] w' J)) (fun _ i _ => own.length - (intOf i).toNat)
    case atStart => exact ⟨0, [[]], [], none, 0, J, Nat.zero_le _, rfl, rfl, ⟨rfl⟩, by simp, by simp, by simp, ⟨by simp⟩, ⟨by simp⟩, ⟨(S.know (h := Im kW none []) Sl.nil).sel [2, 1, 0] (by decide) rfl (by simp)⟩⟩
    case round =>
      clear S
      obtain ⟨k, L, W, a2, d2, J, hk, rfl, rfl, HB, hd2, hLk, hWk, HL5, HW5, ⟨S⟩⟩ := hrel
      have hc := S.cells; simp only [Cells, cellsC, Im, Row, El, RTH, TreeH, TR, AU, AL, OrNil, AuP, SetO, Many, ScO, Nat.zero_add, Nat.reduceAdd] at hc
      by_cases hlt : k < own.length
      · have hlt' : decide ((k : Int) < own.length) = true := by simpa using hlt
        obtain ⟨ob, oo, A3, c3, rfl, hco, hc3, hs3⟩ := (S.im 1 rfl).sl_at hlt
        have h5 := HO5.out _ (List.getElem_mem hlt)
        have HBS : As (setT (own.take (k + 1)) = (addL L W own[k], addW W own[k])) := ⟨by rw [setT_succ hlt, HB.out]; rfl⟩
        obtain ⟨ox, hox⟩ : ∃ x, own[k] = x := ⟨_, rfl⟩
        have HAT : As (∀ w' J', Sl kW w' J' (some ⟨ob, oo, none⟩) own → ∃ A3 c3, w'.cell? ⟨ob, oo + k, none⟩ = some (.slice A3 ox.length c3) ∧ ox.length ≤ c3 ∧ Sl kP w' J' A3 ox) := ⟨fun w' J' h => by
          obtain ⟨bA, oA, A3, c3, e, h1, h2, h3⟩ := h.sl_at hlt
          cases e
          rw [hox] at h1 h2 h3
          exact ⟨A3, c3, h1, h2, h3⟩⟩
        rw [hox] at HBS hco hc3 hs3 h5
        have hal := addL_len L W h5
        have haw := addW_len W ox
        have HA5 := As.mk (addL_mem (W := W) h5 HL5.out)
        have HB5 := As.mk (addW_mem h5 HW5.out)
        clear hox
        by_cases he : ox = []
        · have HA : As (addN W ox = -1 ∧ addE ox = 1 ∧ addL L W ox = L ∧ addW W ox = W) := ⟨by unfold addN addE addL addW; rw [if_pos he, if_pos he, if_pos he, if_pos he]; exact ⟨rfl, rfl, rfl, rfl⟩⟩
          rw [HA.out.2.2.1, HA.out.2.2.2] at HBS
          have hz : ox.length = 0 := by rw [he]; rfl
          have HZ := As.mk hz
          clear he hz
          go_wp2_with (first | ((first | (with_reducible refine wpl_seal S ?_) | (with_reducible refine cw_seal S ?_) | (with_reducible refine bp_seal S ?_) | (with_reducible refine ca_seal S ?_)); clear S; (try clear hc); intro w1 S; (try simp only [List.set_cons_zero, List.set_cons_succ, List.nil_append] at S); have hc := S.cells; simp only [Cells, cellsC, Im, Row, El, RTH, TreeH, TR, AU, AL, OrNil, AuP, SetO, Many, ScO, Nat.zero_add, Nat.reduceAdd] at hc) | (go_at_call 17; refine (wadd_c S 0 rfl hs3 hc3 (by omega) (by omega) (by omega) (neW_of HW5.out)).mono ?_; rw [HA.out.1, HA.out.2.1, HA.out.2.2.1, HA.out.2.2.2]; clear hc hco hs3; rintro e w1 ⟨I9, rfl, S9⟩; clear S; have S := S9; clear S9; simp only [List.set_cons_zero, List.set_cons_succ, List.nil_append] at S; obtain ⟨A6, c6, hco, hc6, hs3⟩ := HAT.out _ _ (S.im 1 rfl); rw [HZ.out] at hco; have hc := S.cells; simp only [Cells, cellsC, Im, Row, El, RTH, TreeH, TR, AU, AL, OrNil, AuP, SetO, Many, ScO, Nat.zero_add, Nat.reduceAdd] at hc))
          go_roundw
          case rel => exact ⟨k + 1, L, W, a2, d2, _, by omega, by go_num, rfl, HBS, hd2, by omega, by omega, HL5, HW5, ⟨S⟩⟩
          case measure => simp [intOf]; omega
        · have hz : ¬ (ox.length = 0) := fun h => he (List.eq_nil_of_length_eq_zero h)
          have hz2 : ¬ ((ox.length : Int) = 0) := by omega
          have hz3 : ((ox.length : Int) == 0) = false := by rw [beq_eq_false_iff_ne]; exact hz2
          have HEE : As (addE ox = 0) := ⟨by unfold addE; rw [if_neg he]⟩
          obtain ⟨q, hq⟩ : ∃ q, addN W ox = q := ⟨_, rfl⟩
          have HQ := As.mk hq
          have HNE := As.mk he
          clear he hq
          go_wp2_with (first | ((first | (with_reducible refine wpl_seal S ?_) | (with_reducible refine cw_seal S ?_) | (with_reducible refine bp_seal S ?_) | (with_reducible refine ca_seal S ?_)); clear S; (try clear hc); intro w1 S; (try simp only [List.set_cons_zero, List.set_cons_succ, List.nil_append] at S); have hc := S.cells; simp only [Cells, cellsC, Im, Row, El, RTH, TreeH, TR, AU, AL, OrNil, AuP, SetO, Many, ScO, Nat.zero_add, Nat.reduceAdd] at hc) | (go_at_call 17; refine (wadd_c S 0 rfl hs3 hc3 (by omega) (by omega) (by omega) (neW_of HW5.out)).mono ?_; rw [HQ.out, HEE.out]; clear hc hco hs3; rintro e w1 ⟨I9, rfl, S9⟩; clear S; have S := S9; clear S9; simp only [List.set_cons_zero, List.set_cons_succ, List.nil_append] at S; obtain ⟨A6, c6, hco, hc6, hs3⟩ := HAT.out _ _ (S.im 1 rfl); have hc := S.cells; simp only [Cells, cellsC, Im, Row, El, RTH, TreeH, TR, AU, AL, OrNil, AuP, SetO, Many, ScO, Nat.zero_add, Nat.reduceAdd] at hc) | (go_at_call 28; refine (yadd_c W ox a2 A6 d2 c6 _ _ S.bd (S.im 2 rfl) hs3 hd2 hc6 (by omega) (by omega) HNE.out).mono ?_; clear hco hs3; rw [HQ.out]; rintro e w1 ⟨a7, d7, rfl, hd7, hu⟩; obtain ⟨I1, S1, hI1⟩ := S.new hu; clear S hu hI1; (try clear hc); have S := S1; clear S1; have hc := S.cells; simp only [Cells, cellsC, Im, Row, El, RTH, TreeH, TR, AU, AL, OrNil, AuP, SetO, Many, ScO, Nat.zero_add, Nat.reduceAdd] at hc; have hc := S.cells; simp only [Cells, cellsC, Im, Row, El, RTH, TreeH, TR, AU, AL, OrNil, AuP, SetO, Many, ScO, Nat.zero_add, Nat.reduceAdd] at hc))
          go_roundw
          case rel => exact ⟨k + 1, _, _, a7, d7, _, by omega, by go_num, rfl, HBS, hd7, by omega, by omega, HA5, HB5, ⟨(S.sel [1, 2, 0] (by decide) rfl (by simp) : SH _ _ _ [_, _, _] _ _)⟩⟩
          case measure => simp [intOf]; omega
      · have hlt' : decide ((k : Int) < own.length) = false := by simpa using hlt
        have hke : own.take k = own := List.take_of_length_le (by omega)
        have HKE : As (setT own = (L, W)) := ⟨by rw [← hke]; exact HB.out⟩
        clear hke
        go_wp2_with (first | ((first | (with_reducible refine wpl_seal S ?_) | (with_reducible refine cw_seal S ?_) | (with_reducible refine bp_seal S ?_) | (with_reducible refine ca_seal S ?_)); clear S; (try clear hc); intro w1 S; (try simp only [List.set_cons_zero, List.set_cons_succ, List.nil_append] at S); have hc := S.cells; simp only [Cells, cellsC, Im, Row, El, RTH, TreeH, TR, AU, AL, OrNil, AuP, SetO, Many, ScO, Nat.zero_add, Nat.reduceAdd] at hc))
        go_ret2
        exact ⟨gs, L, W, a2, d2, J, rfl, (S.sel [0, 2] (by decide) rfl (by simp) : SH _ _ _ [_, _] _ _), hd2, by rw [HOWN.out]; exact HKE.out, by omega, by omega, HL5.out, HW5.out⟩
end Go.Proofs.Ytooaelpfbamebaa
