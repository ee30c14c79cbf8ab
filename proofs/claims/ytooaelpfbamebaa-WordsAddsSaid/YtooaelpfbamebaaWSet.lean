/- A set of rows: made, added to. -/
import Derived.Test.YtooaelpfbamebaaAutN
import Derived.Test.YtooaelpfbamebaaOwn4
import Derived.Test.YtooaelpfbamebaaXRef
namespace Go.Proofs.Ytooaelpfbamebaa
open Go.RowKit X
set_option maxHeartbeats 4000000
set_option maxRecDepth 8000
set_option linter.unusedSimpArgs false
set_option linter.unusedVariables false
/-- the automaton of the tree as it is, or none -/
def AuP (pa : Value) (L W : List (List Int)) : Ob := OrNil pa fun g => (AU g L W).hp
def setM (gs : Nat) (L W : List (List Int)) (gt : Nat) (v pa : Value) : List Ob := [Cel gs 61 [.pointer (some ⟨gt, 0, none⟩), v, pa], TR gt L W, Row kW v W, AuP pa L W]
/-- a set of rows W -/
def SetO (gs : Nat) (L W : List (List Int)) : Ob := .of {
  sat := fun w F I => ∃ gt v pa, (Many (setM gs L W gt v pa)).sat w F I
  keep := fun ⟨gt, v, pa, h⟩ hk => ⟨gt, v, pa, (Many _).keep h hk⟩
  weak := fun ⟨gt, v, pa, h⟩ hf hi hn => ⟨gt, v, pa, (Many _).weak h hf hi hn⟩ }
section
variable {F0 I0 F I : Fp} {w0 w w' : World} {O : List Ob} {L W : List (List Int)} {A : Option Addr} {c gs : Nat} {xs : List Int}
theorem X.SH.openSet (S : SH F I w [SetO gs L W] w I) : ∃ gt v pa, SH F I w (setM gs L W gt v pa) w I := by
  obtain ⟨⟨gt, v, pa⟩, S1⟩ := S.pick (h' := fun x : Nat × Value × Value => Many (setM gs L W x.1 x.2.1 x.2.2)) 0 rfl (fun F ⟨gt, v, pa, h⟩ => ⟨(gt, v, pa), h⟩)
  have S2 := SH.openM (L := []) S1
  rw [List.append_nil] at S2
  exact ⟨gt, v, pa, S2⟩
theorem X.SH.asSet {gt : Nat} {v pa : Value} (S : SH F0 I0 w0 [Many (setM gs L W gt v pa)] w I) : SH F0 I0 w0 [SetO gs L W] w I :=
  S.updI 0 rfl (h' := SetO gs L W) fun F h hb => ⟨F, ⟨gt, v, pa, h⟩, fun k hk => ⟨(hb k hk).1, .inl hk⟩, Chg.refl _ _⟩
def addN (W : List (List Int)) (xs : List Int) : Int := if xs = [] then -1 else if 0 ≤ findT W xs then findT W xs else W.length
def addE (xs : List Int) : Int := if xs = [] then 1 else 0
def addL (L W : List (List Int)) (xs : List Int) : List (List Int) := if xs = [] then L else if 0 ≤ findT W xs then L else putL L xs xs.length
def addW (W : List (List Int)) (xs : List Int) : List (List Int) := if xs = [] then W else if 0 ≤ findT W xs then W else W ++ [xs]
theorem ws_head (h : GoodR L W) {k : Nat} (hk : findT L xs = k) : (wsR L W k = [] ∧ findT W xs = -1) ∨ ∃ (i : Nat) (r : List Int), wsR L W k = (i : Int) :: r ∧ findT W xs = i := by
  obtain ⟨k1, k2⟩ := findT_pa hk
  have key : ∀ j, j < W.length → ((j : Int) ∈ wsR L W k ↔ pa W j = xs) := fun j hj => by
    rw [wsR_mem]
    constructor
    · rintro ⟨q, e, q1, q2⟩
      obtain rfl : q = j := by omega
      rw [(wsR_path h k1 q1).1 q2, k2]
    · intro e
      exact ⟨j, rfl, hj, by rw [e]; exact hk⟩
  rcases hl : wsR L W k with _ | ⟨i, r⟩
  · refine .inl ⟨rfl, findT_none fun t ht e => ?_⟩
    have := (key t ht).2 (by rw [pa_eq ht, e])
    rw [hl] at this
    cases this
  · obtain ⟨q, e, q1, q2⟩ := wsR_mem.1 (show i ∈ wsR L W k by rw [hl]; simp)
    subst e
    refine .inr ⟨q, r, rfl, findT_some q1 ?_ fun t ht htq e => ?_⟩
    · have := (key q q1).1 (by rw [hl]; simp)
      rwa [pa_eq q1] at this
    · have h1 := (key t ht).2 (by rw [pa_eq ht, e])
      have h2 := wsR_srt (L := L) (W := W) (n := (k : Int))
      rw [hl] at h1 h2
      rcases List.mem_cons.1 h1 with h3 | h3
      · omega
      · have := (List.pairwise_cons.1 h2).1 _ h3
        omega
theorem wkR_hit {k : Nat} (hne : xs ≠ []) (hk : findT L xs = k) : wkR L xs xs.length = ((k : Int), xs.length) := by
  obtain ⟨m, hm⟩ : ∃ m, xs.length = m + 1 := ⟨xs.length - 1, by have : xs.length ≠ 0 := fun e => hne (List.eq_nil_of_length_eq_zero e); omega⟩
  rw [hm]
  simp only [wkR]
  rw [List.take_of_length_le (by omega), hk, if_pos (by omega)]
theorem wkR_lt : ∀ (m : Nat), (wkR L xs m).2 ≤ m
  | 0 => Nat.le_refl _
  | m + 1 => by
    simp only [wkR]
    split
    · exact Nat.le_refl _
    · exact Nat.le_succ_of_le (wkR_lt m)
theorem wkR_miss (hne : xs ≠ []) (hk : findT L xs = -1) : (wkR L xs xs.length).2 < xs.length := by
  obtain ⟨m, hm⟩ : ∃ m, xs.length = m + 1 := ⟨xs.length - 1, by have : xs.length ≠ 0 := fun e => hne (List.eq_nil_of_length_eq_zero e); omega⟩
  rw [hm]
  simp only [wkR]
  rw [List.take_of_length_le (by omega), hk, if_neg (by omega)]
  have := wkR_lt (L := L) (xs := xs) m
  omega
theorem wnew_c (w : World) (I : Fp) (hI : ∀ b, I b → b < w.heap.size) :
    Calls Try.prog 26 #[] w fun e w' => ∃ gs J, e = .returned (.pointer (some ⟨gs, 0, none⟩)) ∧ SH No I w [SetO gs [[]] []] w' J := by
  have S := SH.start w I hI
  have hc := S.cells; simp only [Cells, cellsC, Im, Row, El, RTH, TreeH, TR, AU, AL, OrNil, AuP, SetO, Many, Nat.zero_add, Nat.reduceAdd] at hc
  go_enter Try.func26, Try.ntmps26
  go_wp2_with (first | ((first | (with_reducible refine wpl_seal S ?_) | (with_reducible refine cw_seal S ?_) | (with_reducible refine bp_seal S ?_) | (with_reducible refine ca_seal S ?_)); clear S; (try clear hc); intro w1 S; (try simp only [List.set_cons_zero, List.set_cons_succ, List.nil_append] at S); have hc := S.cells; simp only [Cells, cellsC, Im, Row, El, RTH, TreeH, TR, AU, AL, OrNil, AuP, SetO, Many, Nat.zero_add, Nat.reduceAdd] at hc) | (go_at_call 40; refine (new_c _).mono ?_; rintro e w1 ⟨b, rfl, hu⟩; obtain ⟨I1, S1, hI1⟩ := S.new (hu.any _); clear S hu hI1; (try clear hc); have S := S1; clear S1; have hc := S.cells; simp only [Cells, cellsC, Im, Row, El, RTH, TreeH, TR, AU, AL, OrNil, AuP, SetO, Many, Nat.zero_add, Nat.reduceAdd] at hc; replace S := S.toTR 0 rfl St.one; simp only [List.set_cons_zero, List.set_cons_succ, List.nil_append] at S; have hc := S.cells; simp only [Cells, cellsC, Im, Row, El, RTH, TreeH, TR, AU, AL, OrNil, AuP, SetO, Many, Nat.zero_add, Nat.reduceAdd] at hc))
  obtain ⟨gs, egs⟩ := S.name 0 rfl; rw [← egs] at S ⊢; clear egs
  go_ret
  have S1 := (S.nilrow (k := kW)).know (h := AuP (.pointer none) [[]] []) (.inl rfl)
  exact ⟨gs, _, rfl, (S1.many (l := setM gs [[]] [] b (.slice none 0 0) (.pointer none)) [2, 3, 1, 0] (by decide) rfl (by simp)).asSet⟩
theorem wadd_c (S0 : SH F0 I0 w0 O w I) (i : Nat) (e : O[i]? = some (SetO gs L W)) (hx : Sl kP w I A xs) (hcc : xs.length ≤ c) (hn : xs.length ≤ 1000) (hL : L.length ≤ 10000) (hW : W.length ≤ 1000) (hNE : NeW W) :
    Calls Try.prog 17 #[.pointer (some ⟨gs, 0, none⟩), .slice A xs.length c] w fun e w' => ∃ I', e = .returned (.tuple #[.int .i64 (addN W xs), .int .i64 (addE xs)]) ∧ SH F0 I0 w0 (O.set i (SetO gs (addL L W xs) (addW W xs))) w' I' := by
  obtain ⟨F, hI, S, back⟩ := S0.call1 i e
  have HB := As.mk back
  clear back S0
  obtain ⟨gt, v, pa, S⟩ := S.openSet
  have S := S.know (h := Im kP A xs) hx
  unfold setM at S
  have HG := As.mk (S.goodR 2 rfl)
  have hpos := HG.out.pos
  have hc := S.cells; simp only [Cells, cellsC, Im, Row, El, RTH, TreeH, TR, AU, AL, OrNil, AuP, SetO, Many, Nat.zero_add, Nat.reduceAdd] at hc
  by_cases hne : xs = []
  · have HL1 : As (addN W xs = -1 ∧ addE xs = 1 ∧ addL L W xs = L ∧ addW W xs = W) := ⟨by unfold addN addE addL addW; rw [if_pos hne, if_pos hne, if_pos hne, if_pos hne]; exact ⟨rfl, rfl, rfl, rfl⟩⟩
    have HWD : As ((if (0 : Int) ≤ 0 ∧ (0 : Int) < L.length then wsR L W 0 else []) = []) := ⟨by rw [if_pos (by omega)]; exact wsR_root HG.out hNE⟩
    subst hne
    go_enter Try.func17, Try.ntmps17
    go_wp2_with (first | ((first | (with_reducible refine wpl_seal S ?_) | (with_reducible refine cw_seal S ?_) | (with_reducible refine bp_seal S ?_) | (with_reducible refine ca_seal S ?_)); clear S; (try clear hc); intro w1 S; (try simp only [List.set_cons_zero, List.set_cons_succ, List.nil_append] at S); have hc := S.cells; simp only [Cells, cellsC, Im, Row, El, RTH, TreeH, TR, AU, AL, OrNil, AuP, SetO, Many, Nat.zero_add, Nat.reduceAdd] at hc) | (go_at_call 33; refine (walk_r (c := c) S 2 rfl (by omega) (S.im 0 rfl) (by simp)).mono ?_; simp only [wkR, List.length_nil]; rintro e w1 ⟨rfl, hx1⟩; replace S := S.ext hx1; clear hx1; (try clear hc); have hc := S.cells; simp only [Cells, cellsC, Im, Row, El, RTH, TreeH, TR, AU, AL, OrNil, AuP, SetO, Many, Nat.zero_add, Nat.reduceAdd] at hc) | (go_at_call 34; refine (words_r S 2 rfl (by omega) 0).mono ?_; rw [HWD.out]; rintro e w1 ⟨v9, rfl, hu⟩; obtain ⟨I1, S1, hI1⟩ := S.new hu; clear S hu hI1; (try clear hc); have S := S1; clear S1; have hc := S.cells; simp only [Cells, cellsC, Im, Row, El, RTH, TreeH, TR, AU, AL, OrNil, AuP, SetO, Many, Nat.zero_add, Nat.reduceAdd] at hc; obtain ⟨A9, c9, I1, e1, hc9, S1, hI1⟩ := S.frow 0 rfl; subst e1; clear S hI1; have S := S1; clear S1; simp only [List.set_cons_zero, List.set_cons_succ, List.nil_append] at S; have hc := S.cells; simp only [Cells, cellsC, Im, Row, El, RTH, TreeH, TR, AU, AL, OrNil, AuP, SetO, Many, Nat.zero_add, Nat.reduceAdd] at hc) | (go_at_call 35; refine (put_tr0 S 3 rfl (by omega) (by omega)).mono ?_; rintro e w1 ⟨rfl, hx1⟩; replace S := S.ext hx1; clear hx1; (try clear hc); have hc := S.cells; simp only [Cells, cellsC, Im, Row, El, RTH, TreeH, TR, AU, AL, OrNil, AuP, SetO, Many, Nat.zero_add, Nat.reduceAdd] at hc))
    go_ret2
    have u := ((S.many (l := setM gs L W gt v pa) [2, 3, 4, 5] (by decide) rfl (by simp)).asSet).retU 0 rfl
    obtain ⟨I', S2, -⟩ := HB.out _ _ u
    rw [HL1.out.1, HL1.out.2.1, HL1.out.2.2.1, HL1.out.2.2.2]
    exact ⟨I', rfl, S2⟩
  · have hx0 : xs.length ≠ 0 := fun e => hne (List.eq_nil_of_length_eq_zero e)
    rcases findT_cases L xs with hf | ⟨k, hf⟩
    · have hfw : findT W xs = -1 := by
        rcases findT_cases W xs with h | ⟨j, h⟩
        · exact h
        · obtain ⟨j1, j2⟩ := findT_pa h
          obtain ⟨q, q1, q2, q3⟩ := HG.out.findW j1
          rw [j2, hf] at q1
          omega
      have HL1 : As (addN W xs = W.length ∧ addE xs = 0 ∧ addL L W xs = putL L xs xs.length ∧ addW W xs = W ++ [xs]) := ⟨by unfold addN addE addL addW; rw [if_neg hne, if_neg hne, if_neg hne, if_neg hne, hfw, if_neg (by omega), if_neg (by omega), if_neg (by omega)]; exact ⟨rfl, rfl, rfl, rfl⟩⟩
      have hdl := wkR_miss (L := L) hne hf
      obtain ⟨nd, hnd⟩ : ∃ nd, wkR L xs xs.length = nd := ⟨_, rfl⟩
      obtain ⟨nn, dd⟩ := nd
      have HWK := As.mk hnd
      rw [hnd] at hdl
      obtain ⟨WS, hWS⟩ : ∃ WS, (if 0 ≤ nn ∧ nn < (L.length : Int) then wsR L W nn else []) = WS := ⟨_, rfl⟩
      have HWD := As.mk hWS
      have hdd : ((dd : Int) == (xs.length : Int)) = false := by rw [beq_eq_false_iff_ne]; simp only at hdl; omega
      have hdd2 : ¬ dd = xs.length := by simp only at hdl; omega
      clear hnd hWS hf hfw hdl
      go_enter Try.func17, Try.ntmps17
      go_wp2_with (first | ((first | (with_reducible refine wpl_seal S ?_) | (with_reducible refine cw_seal S ?_) | (with_reducible refine bp_seal S ?_) | (with_reducible refine ca_seal S ?_)); clear S; (try clear hc); intro w1 S; (try simp only [List.set_cons_zero, List.set_cons_succ, List.nil_append] at S); have hc := S.cells; simp only [Cells, cellsC, Im, Row, El, RTH, TreeH, TR, AU, AL, OrNil, AuP, SetO, Many, Nat.zero_add, Nat.reduceAdd] at hc) | (go_at_call 33; refine (walk_r (c := c) S 2 rfl (by omega) (S.im 0 rfl) (by omega)).mono ?_; rw [HWK.out]; rintro e w1 ⟨rfl, hx1⟩; replace S := S.ext hx1; clear hx1; (try clear hc); have hc := S.cells; simp only [Cells, cellsC, Im, Row, El, RTH, TreeH, TR, AU, AL, OrNil, AuP, SetO, Many, Nat.zero_add, Nat.reduceAdd] at hc) | (go_at_call 34; refine (words_r S 2 rfl (by omega) nn).mono ?_; rw [HWD.out]; rintro e w1 ⟨v9, rfl, hu⟩; obtain ⟨I1, S1, hI1⟩ := S.new hu; clear S hu hI1; (try clear hc); have S := S1; clear S1; have hc := S.cells; simp only [Cells, cellsC, Im, Row, El, RTH, TreeH, TR, AU, AL, OrNil, AuP, SetO, Many, Nat.zero_add, Nat.reduceAdd] at hc; obtain ⟨A9, c9, I1, e1, hc9, S1, hI1⟩ := S.frow 0 rfl; subst e1; clear S hI1; have S := S1; clear S1; simp only [List.set_cons_zero, List.set_cons_succ, List.nil_append] at S; have hc := S.cells; simp only [Cells, cellsC, Im, Row, El, RTH, TreeH, TR, AU, AL, OrNil, AuP, SetO, Many, Nat.zero_add, Nat.reduceAdd] at hc) | (go_at_call 35; refine (put_tr S 3 rfl (S.im 1 rfl) hcc (by omega) (by omega) (by omega) hne).mono ?_; rintro e w1 ⟨I9, rfl, S9⟩; clear S; (try clear hc); have S := S9; clear S9; simp only [List.set_cons_zero, List.set_cons_succ, List.nil_append] at S; have hc := S.cells; simp only [Cells, cellsC, Im, Row, El, RTH, TreeH, TR, AU, AL, OrNil, AuP, SetO, Many, Nat.zero_add, Nat.reduceAdd] at hc))
      have hq := S.cellsE; simp only [CellsE, cellsE, Im, Row, El, RTH, TreeH, TR, AU, AL, OrNil, AuP, SetO, Many, Nat.zero_add, Nat.reduceAdd] at hq
      refine wp_region_ext [⟨[2, 3, 4, 5, 6], [0, 1], 7, true⟩, ⟨[], [], 8, true⟩, ⟨[], [], 9, false⟩, ⟨[10, 11], [], 12, false⟩, ⟨[13, 14], [], 15, false⟩] [] (by kernel_rfl) (by kernel_rfl) ?_
      refine mix_cons rfl rfl rfl ?_
      simp only [opsAt, List.getD_cons_succ, List.getD_cons_zero]
      repeat (go_big_quiet_step ((intro hC; first | rfl | (go_simp; first | done | rfl))))
      refine wpQuiet_nil ?_
      repeat (go_big_quiet_step ((intro hC; first | rfl | (go_simp; first | done | rfl))))
      refine wpQuiet_nil ?_
      clear hq hc
      replace S := S.drew
      generalize w1.drew = w1 at S ⊢
      have hc := S.cells; simp only [Cells, cellsC, Im, Row, El, RTH, TreeH, TR, AU, AL, OrNil, AuP, SetO, Many, Nat.zero_add, Nat.reduceAdd] at hc
      go_wp2_with (first | ((first | (with_reducible refine mx_seal S ?_) | (with_reducible refine wpl_seal S ?_) | (with_reducible refine ca_seal S ?_)); clear S; (try clear hc); intro w1 S; (try simp only [List.set_cons_zero, List.set_cons_succ, List.nil_append] at S); have hc := S.cells; simp only [Cells, cellsC, Im, Row, El, RTH, TreeH, TR, AU, AL, OrNil, AuP, SetO, Many, Nat.zero_add, Nat.reduceAdd] at hc) | (go_at_call 36; refine (cloneP_c xs A c _ _ (S.im 1 rfl) (by omega)).mono ?_; rintro e w1 ⟨v8, rfl, ho8, hx8⟩; have hxe := hx8; have hu := ho8.upd hx8 No; clear ho8 hx8; obtain ⟨I1, S1, hI1⟩ := S.new (hu.any _); clear S hu hI1; (try clear hc); have S := S1; clear S1; have hc := S.cells; simp only [Cells, cellsC, Im, Row, El, RTH, TreeH, TR, AU, AL, OrNil, AuP, SetO, Many, Nat.zero_add, Nat.reduceAdd] at hc; obtain ⟨A8, c8, I1, e1, hc8, S1, hI1⟩ := S.frow 0 rfl; subst e1; clear S hI1; have S := S1; clear S1; simp only [List.set_cons_zero, List.set_cons_succ, List.nil_append] at S; have hc := S.cells; simp only [Cells, cellsC, Im, Row, El, RTH, TreeH, TR, AU, AL, OrNil, AuP, SetO, Many, Nat.zero_add, Nat.reduceAdd] at hc))
      refine ⟨fun _ => hxe, ?_⟩
      clear hxe
      refine mix_cons rfl rfl rfl ?_
      simp only [opsAt, List.getD_cons_succ, List.getD_cons_zero]
      repeat (go_big_quiet_step ((intro hC; first | rfl | (go_simp; first | done | rfl))))
      refine wpQuiet_nil ?_
      repeat (go_big_quiet_step ((intro hC; first | rfl | (go_simp; first | done | rfl))))
      refine wpQuiet_nil ?_
      go_wp2_with (first | ((first | (with_reducible refine mx_seal S ?_) | (with_reducible refine wpl_seal S ?_) | (with_reducible refine ca_seal S ?_)); clear S; (try clear hc); intro w1 S; (try simp only [List.set_cons_zero, List.set_cons_succ, List.nil_append] at S); have hc := S.cells; simp only [Cells, cellsC, Im, Row, El, RTH, TreeH, TR, AU, AL, OrNil, AuP, SetO, Many, Nat.zero_add, Nat.reduceAdd] at hc))
      refine ⟨fun _ => Ext.alloc _ _, ?_⟩
      (first | refine ⟨(fun h => by cases h), ?_⟩ | skip); (first | ((first | (with_reducible refine mx_seal S ?_)); clear S; (try clear hc); intro w1 S; (try simp only [List.set_cons_zero, List.set_cons_succ, List.nil_append] at S); have hc := S.cells; simp only [Cells, cellsC, Im, Row, El, RTH, TreeH, TR, AU, AL, OrNil, AuP, SetO, Many, Nat.zero_add, Nat.reduceAdd] at hc) | skip); (try simp only [Act.put, List.setIfInBounds_toArray, List.set_cons_succ, List.set_cons_zero])
      refine mix_cons rfl rfl rfl ?_
      simp only [opsAt, List.getD_cons_succ, List.getD_cons_zero]
      repeat (go_big_quiet_step ((intro hC; first | rfl | (go_simp; first | done | rfl))))
      refine wpQuiet_nil ?_
      repeat (go_big_quiet_step ((intro hC; first | rfl | (go_simp; first | done | rfl))))
      refine wpQuiet_nil ?_
      go_wp2_with (first | ((first | (with_reducible refine mx_seal S ?_) | (with_reducible refine wpl_seal S ?_) | (with_reducible refine ca_seal S ?_)); clear S; (try clear hc); intro w1 S; (try simp only [List.set_cons_zero, List.set_cons_succ, List.nil_append] at S); have hc := S.cells; simp only [Cells, cellsC, Im, Row, El, RTH, TreeH, TR, AU, AL, OrNil, AuP, SetO, Many, Nat.zero_add, Nat.reduceAdd] at hc) | (at_builtin; refine wpl_push S 6 rfl rfl _ _ rfl ty_rows rfl xs _ _ rfl [_] _ (S.cel 0 rfl) ⟨_, _, rfl, hc8, S.im 1 rfl⟩ (by (try simp only [maxLen, List.length_nil, List.length_append, List.length_cons]); omega) (by (try simp only [maxLen, List.length_nil, List.length_append, List.length_cons]); omega) ?_; clear S; (try clear hc); intro va w1 S; simp only [List.set_cons_zero, List.set_cons_succ, List.nil_append] at S; obtain ⟨Av, cv, eva, -, -⟩ := S.row 6 rfl; subst eva; have hc := S.cells; simp only [Cells, cellsC, Im, Row, El, RTH, TreeH, TR, AU, AL, OrNil, AuP, SetO, Many, Nat.zero_add, Nat.reduceAdd] at hc))
      (first | refine ⟨(fun h => by cases h), ?_⟩ | skip); (first | ((first | (with_reducible refine mx_seal S ?_)); clear S; (try clear hc); intro w1 S; (try simp only [List.set_cons_zero, List.set_cons_succ, List.nil_append] at S); have hc := S.cells; simp only [Cells, cellsC, Im, Row, El, RTH, TreeH, TR, AU, AL, OrNil, AuP, SetO, Many, Nat.zero_add, Nat.reduceAdd] at hc) | skip); (try simp only [Act.put, List.setIfInBounds_toArray, List.set_cons_succ, List.set_cons_zero])
      refine mix_cons rfl rfl rfl ?_
      simp only [opsAt, List.getD_cons_succ, List.getD_cons_zero]
      repeat (go_big_quiet_step ((intro hC; first | rfl | (go_simp; first | done | rfl))))
      refine wpQuiet_nil ?_
      repeat (go_big_quiet_step ((intro hC; first | rfl | (go_simp; first | done | rfl))))
      refine wpQuiet_nil ?_
      go_wp2_with (first | ((first | (with_reducible refine mx_seal S ?_) | (with_reducible refine wpl_seal S ?_) | (with_reducible refine ca_seal S ?_)); clear S; (try clear hc); intro w1 S; (try simp only [List.set_cons_zero, List.set_cons_succ, List.nil_append] at S); have hc := S.cells; simp only [Cells, cellsC, Im, Row, El, RTH, TreeH, TR, AU, AL, OrNil, AuP, SetO, Many, Nat.zero_add, Nat.reduceAdd] at hc))
      (first | refine ⟨(fun h => by cases h), ?_⟩ | skip); (first | ((first | (with_reducible refine mx_seal S ?_)); clear S; (try clear hc); intro w1 S; (try simp only [List.set_cons_zero, List.set_cons_succ, List.nil_append] at S); have hc := S.cells; simp only [Cells, cellsC, Im, Row, El, RTH, TreeH, TR, AU, AL, OrNil, AuP, SetO, Many, Nat.zero_add, Nat.reduceAdd] at hc) | skip); (try simp only [Act.put, List.setIfInBounds_toArray, List.set_cons_succ, List.set_cons_zero])
      have hq := CellsE_of S.cells; simp only [CellsE, cellsE, Im, Row, El, RTH, TreeH, TR, AU, AL, OrNil, AuP, SetO, Many, Nat.zero_add, Nat.reduceAdd] at hq
      refine mix_cons rfl rfl rfl ?_
      simp only [opsAt, List.getD_cons_succ, List.getD_cons_zero]
      repeat (go_big_quiet_step ((intro hC; first | rfl | (go_simp; first | done | rfl))))
      refine wpQuiet_nil ?_
      repeat (go_big_quiet_step ((intro hC; first | rfl | (go_simp; first | done | rfl))))
      refine wpQuiet_nil ?_
      clear hq
      go_wp2_with (first | ((first | (with_reducible refine mx_seal S ?_) | (with_reducible refine wpl_seal S ?_) | (with_reducible refine ca_seal S ?_)); clear S; (try clear hc); intro w1 S; (try simp only [List.set_cons_zero, List.set_cons_succ, List.nil_append] at S); have hc := S.cells; simp only [Cells, cellsC, Im, Row, El, RTH, TreeH, TR, AU, AL, OrNil, AuP, SetO, Many, Nat.zero_add, Nat.reduceAdd] at hc))
      (first | refine ⟨(fun h => by cases h), ?_⟩ | skip); (first | ((first | (with_reducible refine mx_seal S ?_)); clear S; (try clear hc); intro w1 S; (try simp only [List.set_cons_zero, List.set_cons_succ, List.nil_append] at S); have hc := S.cells; simp only [Cells, cellsC, Im, Row, El, RTH, TreeH, TR, AU, AL, OrNil, AuP, SetO, Many, Nat.zero_add, Nat.reduceAdd] at hc) | skip); (try simp only [Act.put, List.setIfInBounds_toArray, List.set_cons_succ, List.set_cons_zero])
      refine mix_last rfl ?_
      simp only [opsAt, List.getD_cons_succ, List.getD_cons_zero]
      repeat (go_big_quiet_step ((intro hC; first | rfl | (go_simp; first | done | rfl))))
      refine wpQuiet_nil ?_
      simp only [calmQ]
      have hc := S.cells; simp only [Cells, cellsC, Im, Row, El, RTH, TreeH, TR, AU, AL, OrNil, AuP, SetO, Many, Nat.zero_add, Nat.reduceAdd] at hc
      go_wp2_with (first | ((first | (with_reducible refine wpl_seal S ?_) | (with_reducible refine cw_seal S ?_) | (with_reducible refine bp_seal S ?_) | (with_reducible refine ca_seal S ?_)); clear S; (try clear hc); intro w1 S; (try simp only [List.set_cons_zero, List.set_cons_succ, List.nil_append] at S); have hc := S.cells; simp only [Cells, cellsC, Im, Row, El, RTH, TreeH, TR, AU, AL, OrNil, AuP, SetO, Many, Nat.zero_add, Nat.reduceAdd] at hc))
      go_ret2
      simp only [List.length_append, List.length_cons, List.length_nil, Nat.zero_add] at S
      have S1 := S.know (h := AuP (.pointer none) (putL L xs xs.length) (W ++ [xs])) (.inl rfl)
      have u := ((S1.many (l := setM gs (putL L xs xs.length) (W ++ [xs]) gt _ (.pointer none)) [5, 6, 7, 0] (by decide) rfl (by simp)).asSet).retU 0 rfl
      obtain ⟨I', S2, -⟩ := HB.out _ _ u
      rw [HL1.out.1, HL1.out.2.1, HL1.out.2.2.1, HL1.out.2.2.2]
      exact ⟨I', rfl, S2⟩
    · obtain ⟨k1, k2⟩ := findT_pa hf
      have HWK := As.mk (wkR_hit hne hf)
      have HWD : As ((if (0 : Int) ≤ (k : Int) ∧ (k : Int) < L.length then wsR L W k else []) = wsR L W k) := ⟨if_pos (by omega)⟩
      rcases ws_head HG.out hf with ⟨hw1, hw2⟩ | ⟨i0, r, hw1, hw2⟩
      · have HL1 : As (addN W xs = W.length ∧ addE xs = 0 ∧ addL L W xs = putL L xs xs.length ∧ addW W xs = W ++ [xs]) := ⟨by unfold addN addE addL addW; rw [if_neg hne, if_neg hne, if_neg hne, if_neg hne, hw2, if_neg (by omega), if_neg (by omega), if_neg (by omega)]; exact ⟨rfl, rfl, rfl, rfl⟩⟩
        have HWD : As ((if (0 : Int) ≤ (k : Int) ∧ (k : Int) < L.length then wsR L W k else []) = []) := ⟨by rw [HWD.out, hw1]⟩
        clear hf hw1 hw2
        go_enter Try.func17, Try.ntmps17
        go_wp2_with (first | ((first | (with_reducible refine wpl_seal S ?_) | (with_reducible refine cw_seal S ?_) | (with_reducible refine bp_seal S ?_) | (with_reducible refine ca_seal S ?_)); clear S; (try clear hc); intro w1 S; (try simp only [List.set_cons_zero, List.set_cons_succ, List.nil_append] at S); have hc := S.cells; simp only [Cells, cellsC, Im, Row, El, RTH, TreeH, TR, AU, AL, OrNil, AuP, SetO, Many, Nat.zero_add, Nat.reduceAdd] at hc) | (go_at_call 33; refine (walk_r (c := c) S 2 rfl (by omega) (S.im 0 rfl) (by omega)).mono ?_; rw [HWK.out]; rintro e w1 ⟨rfl, hx1⟩; replace S := S.ext hx1; clear hx1; (try clear hc); have hc := S.cells; simp only [Cells, cellsC, Im, Row, El, RTH, TreeH, TR, AU, AL, OrNil, AuP, SetO, Many, Nat.zero_add, Nat.reduceAdd] at hc) | (go_at_call 34; refine (words_r S 2 rfl (by omega) k).mono ?_; rw [HWD.out]; rintro e w1 ⟨v9, rfl, hu⟩; obtain ⟨I1, S1, hI1⟩ := S.new hu; clear S hu hI1; (try clear hc); have S := S1; clear S1; have hc := S.cells; simp only [Cells, cellsC, Im, Row, El, RTH, TreeH, TR, AU, AL, OrNil, AuP, SetO, Many, Nat.zero_add, Nat.reduceAdd] at hc; obtain ⟨A9, c9, I1, e1, hc9, S1, hI1⟩ := S.frow 0 rfl; subst e1; clear S hI1; have S := S1; clear S1; simp only [List.set_cons_zero, List.set_cons_succ, List.nil_append] at S; have hc := S.cells; simp only [Cells, cellsC, Im, Row, El, RTH, TreeH, TR, AU, AL, OrNil, AuP, SetO, Many, Nat.zero_add, Nat.reduceAdd] at hc) | (go_at_call 35; refine (put_tr S 3 rfl (S.im 1 rfl) hcc (by omega) (by omega) (by omega) hne).mono ?_; rintro e w1 ⟨I9, rfl, S9⟩; clear S; (try clear hc); have S := S9; clear S9; simp only [List.set_cons_zero, List.set_cons_succ, List.nil_append] at S; have hc := S.cells; simp only [Cells, cellsC, Im, Row, El, RTH, TreeH, TR, AU, AL, OrNil, AuP, SetO, Many, Nat.zero_add, Nat.reduceAdd] at hc))
        have hq := S.cellsE; simp only [CellsE, cellsE, Im, Row, El, RTH, TreeH, TR, AU, AL, OrNil, AuP, SetO, Many, Nat.zero_add, Nat.reduceAdd] at hq
        refine wp_region_ext [⟨[2, 3, 4, 5, 6], [0, 1], 7, true⟩, ⟨[], [], 8, true⟩, ⟨[], [], 9, false⟩, ⟨[10, 11], [], 12, false⟩, ⟨[13, 14], [], 15, false⟩] [] (by kernel_rfl) (by kernel_rfl) ?_
        refine mix_cons rfl rfl rfl ?_
        simp only [opsAt, List.getD_cons_succ, List.getD_cons_zero]
        repeat (go_big_quiet_step ((intro hC; first | rfl | (go_simp; first | done | rfl))))
        refine wpQuiet_nil ?_
        repeat (go_big_quiet_step ((intro hC; first | rfl | (go_simp; first | done | rfl))))
        refine wpQuiet_nil ?_
        clear hq hc
        replace S := S.drew
        generalize w1.drew = w1 at S ⊢
        have hc := S.cells; simp only [Cells, cellsC, Im, Row, El, RTH, TreeH, TR, AU, AL, OrNil, AuP, SetO, Many, Nat.zero_add, Nat.reduceAdd] at hc
        go_wp2_with (first | ((first | (with_reducible refine mx_seal S ?_) | (with_reducible refine wpl_seal S ?_) | (with_reducible refine ca_seal S ?_)); clear S; (try clear hc); intro w1 S; (try simp only [List.set_cons_zero, List.set_cons_succ, List.nil_append] at S); have hc := S.cells; simp only [Cells, cellsC, Im, Row, El, RTH, TreeH, TR, AU, AL, OrNil, AuP, SetO, Many, Nat.zero_add, Nat.reduceAdd] at hc) | (go_at_call 36; refine (cloneP_c xs A c _ _ (S.im 1 rfl) (by omega)).mono ?_; rintro e w1 ⟨v8, rfl, ho8, hx8⟩; have hxe := hx8; have hu := ho8.upd hx8 No; clear ho8 hx8; obtain ⟨I1, S1, hI1⟩ := S.new (hu.any _); clear S hu hI1; (try clear hc); have S := S1; clear S1; have hc := S.cells; simp only [Cells, cellsC, Im, Row, El, RTH, TreeH, TR, AU, AL, OrNil, AuP, SetO, Many, Nat.zero_add, Nat.reduceAdd] at hc; obtain ⟨A8, c8, I1, e1, hc8, S1, hI1⟩ := S.frow 0 rfl; subst e1; clear S hI1; have S := S1; clear S1; simp only [List.set_cons_zero, List.set_cons_succ, List.nil_append] at S; have hc := S.cells; simp only [Cells, cellsC, Im, Row, El, RTH, TreeH, TR, AU, AL, OrNil, AuP, SetO, Many, Nat.zero_add, Nat.reduceAdd] at hc))
        refine ⟨fun _ => hxe, ?_⟩
        clear hxe
        refine mix_cons rfl rfl rfl ?_
        simp only [opsAt, List.getD_cons_succ, List.getD_cons_zero]
        repeat (go_big_quiet_step ((intro hC; first | rfl | (go_simp; first | done | rfl))))
        refine wpQuiet_nil ?_
        repeat (go_big_quiet_step ((intro hC; first | rfl | (go_simp; first | done | rfl))))
        refine wpQuiet_nil ?_
        go_wp2_with (first | ((first | (with_reducible refine mx_seal S ?_) | (with_reducible refine wpl_seal S ?_) | (with_reducible refine ca_seal S ?_)); clear S; (try clear hc); intro w1 S; (try simp only [List.set_cons_zero, List.set_cons_succ, List.nil_append] at S); have hc := S.cells; simp only [Cells, cellsC, Im, Row, El, RTH, TreeH, TR, AU, AL, OrNil, AuP, SetO, Many, Nat.zero_add, Nat.reduceAdd] at hc))
        refine ⟨fun _ => Ext.alloc _ _, ?_⟩
        (first | refine ⟨(fun h => by cases h), ?_⟩ | skip); (first | ((first | (with_reducible refine mx_seal S ?_)); clear S; (try clear hc); intro w1 S; (try simp only [List.set_cons_zero, List.set_cons_succ, List.nil_append] at S); have hc := S.cells; simp only [Cells, cellsC, Im, Row, El, RTH, TreeH, TR, AU, AL, OrNil, AuP, SetO, Many, Nat.zero_add, Nat.reduceAdd] at hc) | skip); (try simp only [Act.put, List.setIfInBounds_toArray, List.set_cons_succ, List.set_cons_zero])
        refine mix_cons rfl rfl rfl ?_
        simp only [opsAt, List.getD_cons_succ, List.getD_cons_zero]
        repeat (go_big_quiet_step ((intro hC; first | rfl | (go_simp; first | done | rfl))))
        refine wpQuiet_nil ?_
        repeat (go_big_quiet_step ((intro hC; first | rfl | (go_simp; first | done | rfl))))
        refine wpQuiet_nil ?_
        go_wp2_with (first | ((first | (with_reducible refine mx_seal S ?_) | (with_reducible refine wpl_seal S ?_) | (with_reducible refine ca_seal S ?_)); clear S; (try clear hc); intro w1 S; (try simp only [List.set_cons_zero, List.set_cons_succ, List.nil_append] at S); have hc := S.cells; simp only [Cells, cellsC, Im, Row, El, RTH, TreeH, TR, AU, AL, OrNil, AuP, SetO, Many, Nat.zero_add, Nat.reduceAdd] at hc) | (at_builtin; refine wpl_push S 6 rfl rfl _ _ rfl ty_rows rfl xs _ _ rfl [_] _ (S.cel 0 rfl) ⟨_, _, rfl, hc8, S.im 1 rfl⟩ (by (try simp only [maxLen, List.length_nil, List.length_append, List.length_cons]); omega) (by (try simp only [maxLen, List.length_nil, List.length_append, List.length_cons]); omega) ?_; clear S; (try clear hc); intro va w1 S; simp only [List.set_cons_zero, List.set_cons_succ, List.nil_append] at S; obtain ⟨Av, cv, eva, -, -⟩ := S.row 6 rfl; subst eva; have hc := S.cells; simp only [Cells, cellsC, Im, Row, El, RTH, TreeH, TR, AU, AL, OrNil, AuP, SetO, Many, Nat.zero_add, Nat.reduceAdd] at hc))
        (first | refine ⟨(fun h => by cases h), ?_⟩ | skip); (first | ((first | (with_reducible refine mx_seal S ?_)); clear S; (try clear hc); intro w1 S; (try simp only [List.set_cons_zero, List.set_cons_succ, List.nil_append] at S); have hc := S.cells; simp only [Cells, cellsC, Im, Row, El, RTH, TreeH, TR, AU, AL, OrNil, AuP, SetO, Many, Nat.zero_add, Nat.reduceAdd] at hc) | skip); (try simp only [Act.put, List.setIfInBounds_toArray, List.set_cons_succ, List.set_cons_zero])
        refine mix_cons rfl rfl rfl ?_
        simp only [opsAt, List.getD_cons_succ, List.getD_cons_zero]
        repeat (go_big_quiet_step ((intro hC; first | rfl | (go_simp; first | done | rfl))))
        refine wpQuiet_nil ?_
        repeat (go_big_quiet_step ((intro hC; first | rfl | (go_simp; first | done | rfl))))
        refine wpQuiet_nil ?_
        go_wp2_with (first | ((first | (with_reducible refine mx_seal S ?_) | (with_reducible refine wpl_seal S ?_) | (with_reducible refine ca_seal S ?_)); clear S; (try clear hc); intro w1 S; (try simp only [List.set_cons_zero, List.set_cons_succ, List.nil_append] at S); have hc := S.cells; simp only [Cells, cellsC, Im, Row, El, RTH, TreeH, TR, AU, AL, OrNil, AuP, SetO, Many, Nat.zero_add, Nat.reduceAdd] at hc))
        (first | refine ⟨(fun h => by cases h), ?_⟩ | skip); (first | ((first | (with_reducible refine mx_seal S ?_)); clear S; (try clear hc); intro w1 S; (try simp only [List.set_cons_zero, List.set_cons_succ, List.nil_append] at S); have hc := S.cells; simp only [Cells, cellsC, Im, Row, El, RTH, TreeH, TR, AU, AL, OrNil, AuP, SetO, Many, Nat.zero_add, Nat.reduceAdd] at hc) | skip); (try simp only [Act.put, List.setIfInBounds_toArray, List.set_cons_succ, List.set_cons_zero])
        have hq := CellsE_of S.cells; simp only [CellsE, cellsE, Im, Row, El, RTH, TreeH, TR, AU, AL, OrNil, AuP, SetO, Many, Nat.zero_add, Nat.reduceAdd] at hq
        refine mix_cons rfl rfl rfl ?_
        simp only [opsAt, List.getD_cons_succ, List.getD_cons_zero]
        repeat (go_big_quiet_step ((intro hC; first | rfl | (go_simp; first | done | rfl))))
        refine wpQuiet_nil ?_
        repeat (go_big_quiet_step ((intro hC; first | rfl | (go_simp; first | done | rfl))))
        refine wpQuiet_nil ?_
        clear hq
        go_wp2_with (first | ((first | (with_reducible refine mx_seal S ?_) | (with_reducible refine wpl_seal S ?_) | (with_reducible refine ca_seal S ?_)); clear S; (try clear hc); intro w1 S; (try simp only [List.set_cons_zero, List.set_cons_succ, List.nil_append] at S); have hc := S.cells; simp only [Cells, cellsC, Im, Row, El, RTH, TreeH, TR, AU, AL, OrNil, AuP, SetO, Many, Nat.zero_add, Nat.reduceAdd] at hc))
        (first | refine ⟨(fun h => by cases h), ?_⟩ | skip); (first | ((first | (with_reducible refine mx_seal S ?_)); clear S; (try clear hc); intro w1 S; (try simp only [List.set_cons_zero, List.set_cons_succ, List.nil_append] at S); have hc := S.cells; simp only [Cells, cellsC, Im, Row, El, RTH, TreeH, TR, AU, AL, OrNil, AuP, SetO, Many, Nat.zero_add, Nat.reduceAdd] at hc) | skip); (try simp only [Act.put, List.setIfInBounds_toArray, List.set_cons_succ, List.set_cons_zero])
        refine mix_last rfl ?_
        simp only [opsAt, List.getD_cons_succ, List.getD_cons_zero]
        repeat (go_big_quiet_step ((intro hC; first | rfl | (go_simp; first | done | rfl))))
        refine wpQuiet_nil ?_
        simp only [calmQ]
        have hc := S.cells; simp only [Cells, cellsC, Im, Row, El, RTH, TreeH, TR, AU, AL, OrNil, AuP, SetO, Many, Nat.zero_add, Nat.reduceAdd] at hc
        go_wp2_with (first | ((first | (with_reducible refine wpl_seal S ?_) | (with_reducible refine cw_seal S ?_) | (with_reducible refine bp_seal S ?_) | (with_reducible refine ca_seal S ?_)); clear S; (try clear hc); intro w1 S; (try simp only [List.set_cons_zero, List.set_cons_succ, List.nil_append] at S); have hc := S.cells; simp only [Cells, cellsC, Im, Row, El, RTH, TreeH, TR, AU, AL, OrNil, AuP, SetO, Many, Nat.zero_add, Nat.reduceAdd] at hc))
        go_ret2
        simp only [List.length_append, List.length_cons, List.length_nil, Nat.zero_add] at S
        have S1 := S.know (h := AuP (.pointer none) (putL L xs xs.length) (W ++ [xs])) (.inl rfl)
        have u := ((S1.many (l := setM gs (putL L xs xs.length) (W ++ [xs]) gt _ (.pointer none)) [5, 6, 7, 0] (by decide) rfl (by simp)).asSet).retU 0 rfl
        obtain ⟨I', S2, -⟩ := HB.out _ _ u
        rw [HL1.out.1, HL1.out.2.1, HL1.out.2.2.1, HL1.out.2.2.2]
        exact ⟨I', rfl, S2⟩
      · have HL1 : As (addN W xs = i0 ∧ addE xs = 0 ∧ addL L W xs = L ∧ addW W xs = W) := ⟨by unfold addN addE addL addW; rw [if_neg hne, if_neg hne, if_neg hne, if_neg hne, hw2, if_pos (by omega), if_pos (by omega), if_pos (by omega)]; exact ⟨rfl, rfl, rfl, rfl⟩⟩
        have HWD : As ((if (0 : Int) ≤ (k : Int) ∧ (k : Int) < L.length then wsR L W k else []) = (i0 : Int) :: r) := ⟨by rw [HWD.out, hw1]⟩
        have hrl : 0 < r.length + 1 := by omega
        clear hf hw1 hw2
        go_enter Try.func17, Try.ntmps17
        go_wp2_with (first | ((first | (with_reducible refine wpl_seal S ?_) | (with_reducible refine cw_seal S ?_) | (with_reducible refine bp_seal S ?_) | (with_reducible refine ca_seal S ?_)); clear S; (try clear hc); intro w1 S; (try simp only [List.set_cons_zero, List.set_cons_succ, List.nil_append] at S); have hc := S.cells; simp only [Cells, cellsC, Im, Row, El, RTH, TreeH, TR, AU, AL, OrNil, AuP, SetO, Many, Nat.zero_add, Nat.reduceAdd] at hc) | (go_at_call 33; refine (walk_r (c := c) S 2 rfl (by omega) (S.im 0 rfl) (by omega)).mono ?_; rw [HWK.out]; rintro e w1 ⟨rfl, hx1⟩; replace S := S.ext hx1; clear hx1; (try clear hc); have hc := S.cells; simp only [Cells, cellsC, Im, Row, El, RTH, TreeH, TR, AU, AL, OrNil, AuP, SetO, Many, Nat.zero_add, Nat.reduceAdd] at hc) | (go_at_call 34; refine (words_r S 2 rfl (by omega) k).mono ?_; rw [HWD.out]; rintro e w1 ⟨v9, rfl, hu⟩; obtain ⟨I1, S1, hI1⟩ := S.new hu; clear S hu hI1; (try clear hc); have S := S1; clear S1; have hc := S.cells; simp only [Cells, cellsC, Im, Row, El, RTH, TreeH, TR, AU, AL, OrNil, AuP, SetO, Many, Nat.zero_add, Nat.reduceAdd] at hc; obtain ⟨A9, c9, I1, e1, hc9, S1, hI1⟩ := S.frow 0 rfl; subst e1; clear S hI1; have S := S1; clear S1; simp only [List.set_cons_zero, List.set_cons_succ, List.nil_append] at S; obtain ⟨b9, o9, rfl, hc90⟩ := (S.im 0 rfl).int_at (i := 0) (by simp); rw [Nat.add_zero] at hc90; have hc := S.cells; simp only [Cells, cellsC, Im, Row, El, RTH, TreeH, TR, AU, AL, OrNil, AuP, SetO, Many, Nat.zero_add, Nat.reduceAdd] at hc))
        go_ret2
        have u := ((S.many (l := setM gs L W gt v pa) [2, 3, 4, 5] (by decide) rfl (by simp)).asSet).retU 0 rfl
        obtain ⟨I', S2, -⟩ := HB.out _ _ u
        rw [HL1.out.1, HL1.out.2.1, HL1.out.2.2.1, HL1.out.2.2.2]
        exact ⟨I', rfl, S2⟩
end
end Go.Proofs.Ytooaelpfbamebaa
