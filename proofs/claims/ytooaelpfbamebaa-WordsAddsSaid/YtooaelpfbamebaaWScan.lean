/- Scanners of a set of rows. -/
import Derived.Test.YtooaelpfbamebaaWSet
namespace Go.Proofs.Ytooaelpfbamebaa.X
open Go.RowKit
section
variable {F0 I0 F : Fp} {w0 w w' : World} {L l : List Ob} {I J : Fp}
theorem SH.pack (l : List Ob) (s : SH F0 I0 w0 (l ++ L) w I) : SH F0 I0 w0 (Many l :: L) w I := by
  obtain ⟨c, bd, ini, Fs, h1, h2, h3⟩ := s
  refine ⟨c, bd, ini, fun i => match i with | 0 => fun b => ∃ j, j < l.length ∧ Fs j b | i + 1 => Fs (l.length + i), fun i o e => ?_, fun i b hb => ?_, fun i j b hij hb hb' => ?_⟩
  · rcases i with _ | i
    · simp at e
      subst e
      refine ⟨fun j b => j < l.length ∧ Fs j b, fun j h e => ?_, fun j b hb => ⟨j, hb⟩, fun i j b hij hb hb' => h3 i j b hij hb.2 hb'.2⟩
      have hj := lt_of_get e
      have : (fun b => j < l.length ∧ Fs j b) = Fs j := funext fun b => propext ⟨fun h => h.2, fun h => ⟨hj, h⟩⟩
      exact (congrArg (fun X => h.sat w X I) this).mpr (h1 j h (by rw [List.getElem?_append_left hj]; exact e))
    · simp only [List.getElem?_cons_succ] at e
      exact h1 _ o (by rw [List.getElem?_append_right (by omega)]; rw [show l.length + i - l.length = i by omega]; exact e)
  · rcases i with _ | i
    · obtain ⟨j, _, hj⟩ := hb; exact h2 j b hj
    · exact h2 _ b hb
  · rcases i with _ | i
    · rcases j with _ | j
      · exact hij rfl
      · obtain ⟨m, hm, hj⟩ := hb; exact h3 m _ b (by omega) hj hb'
    · rcases j with _ | j
      · obtain ⟨m, hm, hj⟩ := hb'; exact h3 _ m b (by omega) hb hj
      · exact h3 _ _ b (by omega) hb hb'
end
end Go.Proofs.Ytooaelpfbamebaa.X
namespace Go.Proofs.Ytooaelpfbamebaa
open Go.RowKit X
set_option maxHeartbeats 4000000
set_option maxRecDepth 8000
set_option linter.unusedSimpArgs false
set_option linter.unusedVariables false
def kII : Kd (List Int) := Kd.sl 31 kI
theorem ty_intss : TyOk Try.prog 28 kII 24 := TyOk.mk' Try.underlying28 (z := .slice none 0 0) (size := 1) (by kernel_rfl) rfl rfl (by omega)
def scM (gc : Nat) (L W : List (List Int)) (k : Int) (ga : Nat) : List Ob := [Cel gc 64 [.pointer (some ⟨ga, 0, none⟩), .int .i64 k], AU ga L W]
/-- a scanner at a state -/
def ScO (gc : Nat) (L W : List (List Int)) (k : Int) : Ob := .of {
  sat := fun w F I => ∃ ga, (Many (scM gc L W k ga)).sat w F I
  keep := fun ⟨ga, h⟩ hk => ⟨ga, (Many _).keep h hk⟩
  weak := fun ⟨ga, h⟩ hf hi hn => ⟨ga, (Many _).weak h hf hi hn⟩ }
def scanR (L W : List (List Int)) (n : Int) (xs : List Int) : List (List Int) := (runR L n xs).map (endsR L W)
section
variable {F0 I0 F I : Fp} {w0 w w' : World} {O : List Ob} {L W : List (List Int)} {A : Option Addr} {c gs gc : Nat} {xs : List Int} {k : Int}
theorem X.SH.openSc (S : SH F I w [ScO gc L W k] w I) : ∃ ga, SH F I w (scM gc L W k ga) w I := by
  obtain ⟨ga, S1⟩ := S.pick (h' := fun x : Nat => Many (scM gc L W k x)) 0 rfl (fun F ⟨ga, h⟩ => ⟨ga, h⟩)
  have S2 := SH.openM (L := []) S1
  rw [List.append_nil] at S2
  exact ⟨ga, S2⟩
theorem X.SH.asSc {ga : Nat} (S : SH F0 I0 w0 O w I) (i : Nat) (e : O[i]? = some (Many (scM gc L W k ga))) : SH F0 I0 w0 (O.set i (ScO gc L W k)) w I :=
  S.updI i e (h' := ScO gc L W k) fun F h hb => ⟨F, ⟨ga, h⟩, fun k hk => ⟨(hb k hk).1, .inl hk⟩, Chg.refl _ _⟩
theorem X.SH.asSetA {gt : Nat} {v pa : Value} (S : SH F0 I0 w0 O w I) (i : Nat) (e : O[i]? = some (Many (setM gs L W gt v pa))) : SH F0 I0 w0 (O.set i (SetO gs L W)) w I :=
  S.updI i e (h' := SetO gs L W) fun F h hb => ⟨F, ⟨gt, v, pa, h⟩, fun k hk => ⟨(hb k hk).1, .inl hk⟩, Chg.refl _ _⟩
theorem wbegin_r (S0 : SH F0 I0 w0 O w I) (i : Nat) (e : O[i]? = some (SetO gs L W)) (hL : L.length ≤ 100000) (hW : W.length ≤ 1000000) (hNE : NeW W) (B : Nat) (hB : ∀ x ∈ L, x.length ≤ B) (hB1 : B ≤ 1000) :
    Calls Try.prog 15 #[.pointer (some ⟨gs, 0, none⟩)] w fun e w' => ∃ gc J, e = .returned (.pointer (some ⟨gc, 0, none⟩)) ∧ SH F0 I0 w0 (ScO gc L W 0 :: O) w' J := by
  obtain ⟨F, hI, S, back⟩ := S0.call2 i e
  have HB := As.mk back
  have HL5 := As.mk hB
  have hO : O.set i (SetO gs L W) = O := by
    have hlt := lt_of_get e
    rw [List.getElem?_eq_getElem hlt] at e
    rw [← Option.some.inj e, List.set_getElem_self]
  have HO := As.mk hO
  have HNE := As.mk hNE
  clear back S0 hB hO e hNE
  obtain ⟨gt, v, pa, S⟩ := S.openSet
  unfold setM at S
  obtain ⟨F3, h3, -⟩ := S.get 3 rfl
  rcases h3 with rfl | ⟨ga, rfl, h3⟩
  · have hc := S.cells; simp only [Cells, cellsC, Im, Row, El, RTH, TreeH, TR, AU, AL, OrNil, AuP, SetO, Many, ScO, Nat.zero_add, Nat.reduceAdd] at hc
    go_enter Try.func15, Try.ntmps15
    go_wp2_with (first | ((first | (with_reducible refine wpl_seal S ?_) | (with_reducible refine cw_seal S ?_) | (with_reducible refine bp_seal S ?_) | (with_reducible refine ca_seal S ?_)); clear S; (try clear hc); intro w1 S; (try simp only [List.set_cons_zero, List.set_cons_succ, List.nil_append] at S); have hc := S.cells; simp only [Cells, cellsC, Im, Row, El, RTH, TreeH, TR, AU, AL, OrNil, AuP, SetO, Many, ScO, Nat.zero_add, Nat.reduceAdd] at hc) | (go_at_call 30; refine (anew_r S 1 rfl hL hW HNE.out B HL5.out hB1).mono ?_; rintro e w1 ⟨ga, J, rfl, S9⟩; clear S hc; have S := S9; clear S9; have hc := S.cells; simp only [Cells, cellsC, Im, Row, El, RTH, TreeH, TR, AU, AL, OrNil, AuP, SetO, Many, ScO, Nat.zero_add, Nat.reduceAdd] at hc))
    obtain ⟨gc, egc⟩ := S.name 0 rfl; rw [← egc] at S ⊢; clear egc
    go_ret
    have S1 := ((S.know (h := AuP (.pointer (some ⟨_, 0, none⟩)) L W) (.inr ⟨_, rfl, S.au 1 rfl⟩)).sel [1, 2, 3, 4, 5, 0] (by decide) rfl (by simp))
    have S2 := ((S1.pack (scM _ L W 0 _) (L := [_, _, _, _])).sel [1, 2, 3, 4, 0] (by decide) rfl (by simp))
    have S3 := ((S2.pack (setM gs L W gt v _) (L := [_])).asSetA 0 rfl).asSc 1 rfl
    have u := S3.ret2 0 1 (by omega) rfl rfl
    obtain ⟨I', S4, -⟩ := HB.out _ _ _ u
    rw [HO.out] at S4
    exact ⟨_, I', rfl, S4⟩
  · replace S := S.know (h := AU ga L W) h3
    clear h3 F3
    have hc := S.cells; simp only [Cells, cellsC, Im, Row, El, RTH, TreeH, TR, AU, AL, OrNil, AuP, SetO, Many, ScO, Nat.zero_add, Nat.reduceAdd] at hc
    go_enter Try.func15, Try.ntmps15
    go_wp2_with (first | ((first | (with_reducible refine wpl_seal S ?_) | (with_reducible refine cw_seal S ?_) | (with_reducible refine bp_seal S ?_) | (with_reducible refine ca_seal S ?_)); clear S; (try clear hc); intro w1 S; (try simp only [List.set_cons_zero, List.set_cons_succ, List.nil_append] at S); have hc := S.cells; simp only [Cells, cellsC, Im, Row, El, RTH, TreeH, TR, AU, AL, OrNil, AuP, SetO, Many, ScO, Nat.zero_add, Nat.reduceAdd] at hc))
    obtain ⟨gc, egc⟩ := S.name 0 rfl; rw [← egc] at S ⊢; clear egc
    go_ret
    have S1 := ((S.know (h := AuP (.pointer (some ⟨ga, 0, none⟩)) L W) (.inr ⟨_, rfl, S.au 1 rfl⟩)).sel [1, 2, 3, 4, 5, 0] (by decide) rfl (by simp))
    have S2 := ((S1.pack (scM _ L W 0 _) (L := [_, _, _, _])).sel [1, 2, 3, 4, 0] (by decide) rfl (by simp))
    have S3 := ((S2.pack (setM gs L W gt v _) (L := [_])).asSetA 0 rfl).asSc 1 rfl
    have u := S3.ret2 0 1 (by omega) rfl rfl
    obtain ⟨I', S4, -⟩ := HB.out _ _ _ u
    rw [HO.out] at S4
    exact ⟨_, I', rfl, S4⟩
theorem wput_r (S0 : SH F0 I0 w0 O w I) (i : Nat) (e : O[i]? = some (ScO gc L W k)) (hL : L.length ≤ 1000000) (hW : W.length ≤ 1000000) (p : Int) :
    Calls Try.prog 16 #[.pointer (some ⟨gc, 0, none⟩), .int .u64 p] w fun e w' => ∃ v J, e = .returned v ∧ SH F0 I0 w0 (Row kI v (endsR L W (nextR L k p)) :: O.set i (ScO gc L W (nextR L k p))) w' J := by
  obtain ⟨F, hI, S, back⟩ := S0.call2 i e
  have HB := As.mk back
  clear back S0 e
  obtain ⟨ga, S⟩ := S.openSc
  unfold scM at S
  have hc := S.cells; simp only [Cells, cellsC, Im, Row, El, RTH, TreeH, TR, AU, AL, OrNil, AuP, SetO, Many, ScO, Nat.zero_add, Nat.reduceAdd] at hc
  go_enter Try.func16, Try.ntmps16
  go_wp2_with (first | ((first | (with_reducible refine wpl_seal S ?_) | (with_reducible refine cw_seal S ?_) | (with_reducible refine bp_seal S ?_) | (with_reducible refine ca_seal S ?_)); clear S; (try clear hc); intro w1 S; (try simp only [List.set_cons_zero, List.set_cons_succ, List.nil_append] at S); have hc := S.cells; simp only [Cells, cellsC, Im, Row, El, RTH, TreeH, TR, AU, AL, OrNil, AuP, SetO, Many, ScO, Nat.zero_add, Nat.reduceAdd] at hc))
  have hq := S.cellsE; simp only [CellsE, cellsE, Im, Row, El, RTH, TreeH, TR, AU, AL, OrNil, AuP, SetO, Many, ScO, Nat.zero_add, Nat.reduceAdd] at hq
  refine wp_region_ext [⟨[1, 2, 3, 4, 5, 6, 7, 8, 9], [0], 10, false⟩, ⟨[11, 12], [], 13, false⟩] [] (by kernel_rfl) (by kernel_rfl) ?_
  refine mix_cons rfl rfl rfl ?_
  simp only [opsAt, List.getD_cons_succ, List.getD_cons_zero]
  repeat (go_big_quiet_step ((intro hC; first | rfl | (go_simp; first | done | rfl))))
  refine wpQuiet_nil ?_
  repeat (go_big_quiet_step ((intro hC; first | rfl | (go_simp; first | done | rfl))))
  refine wpQuiet_nil ?_
  clear hq hc
  replace S := S.drew
  generalize w.drew = w1 at S ⊢
  have hc := S.cells; simp only [Cells, cellsC, Im, Row, El, RTH, TreeH, TR, AU, AL, OrNil, AuP, SetO, Many, ScO, Nat.zero_add, Nat.reduceAdd] at hc
  go_wp2_with (first | ((first | (with_reducible refine mx_seal S ?_) | (with_reducible refine wpl_seal S ?_) | (with_reducible refine ca_seal S ?_)); clear S; (try clear hc); intro w1 S; (try simp only [List.set_cons_zero, List.set_cons_succ, List.nil_append] at S); have hc := S.cells; simp only [Cells, cellsC, Im, Row, El, RTH, TreeH, TR, AU, AL, OrNil, AuP, SetO, Many, ScO, Nat.zero_add, Nat.reduceAdd] at hc) | (go_at_call 31; refine (next_r S 1 rfl hL k p).mono ?_; rintro e w1 ⟨rfl, hx⟩; replace S := S.ext hx; clear hx; (try clear hc); have hc := S.cells; simp only [Cells, cellsC, Im, Row, El, RTH, TreeH, TR, AU, AL, OrNil, AuP, SetO, Many, ScO, Nat.zero_add, Nat.reduceAdd] at hc))
  (first | refine ⟨(fun h => by cases h), ?_⟩ | skip); (first | ((first | (with_reducible refine mx_seal S ?_)); clear S; (try clear hc); intro w1 S; (try simp only [List.set_cons_zero, List.set_cons_succ, List.nil_append] at S); have hc := S.cells; simp only [Cells, cellsC, Im, Row, El, RTH, TreeH, TR, AU, AL, OrNil, AuP, SetO, Many, ScO, Nat.zero_add, Nat.reduceAdd] at hc) | skip); (try simp only [Act.put, List.setIfInBounds_toArray, List.set_cons_succ, List.set_cons_zero])
  refine mix_cons rfl rfl rfl ?_
  simp only [opsAt, List.getD_cons_succ, List.getD_cons_zero]
  repeat (go_big_quiet_step ((intro hC; first | rfl | (go_simp; first | done | rfl))))
  refine wpQuiet_nil ?_
  repeat (go_big_quiet_step ((intro hC; first | rfl | (go_simp; first | done | rfl))))
  refine wpQuiet_nil ?_
  go_wp2_with (first | ((first | (with_reducible refine mx_seal S ?_) | (with_reducible refine wpl_seal S ?_) | (with_reducible refine ca_seal S ?_)); clear S; (try clear hc); intro w1 S; (try simp only [List.set_cons_zero, List.set_cons_succ, List.nil_append] at S); have hc := S.cells; simp only [Cells, cellsC, Im, Row, El, RTH, TreeH, TR, AU, AL, OrNil, AuP, SetO, Many, ScO, Nat.zero_add, Nat.reduceAdd] at hc))
  (first | refine ⟨(fun h => by cases h), ?_⟩ | skip); (first | ((first | (with_reducible refine mx_seal S ?_)); clear S; (try clear hc); intro w1 S; (try simp only [List.set_cons_zero, List.set_cons_succ, List.nil_append] at S); have hc := S.cells; simp only [Cells, cellsC, Im, Row, El, RTH, TreeH, TR, AU, AL, OrNil, AuP, SetO, Many, ScO, Nat.zero_add, Nat.reduceAdd] at hc) | skip); (try simp only [Act.put, List.setIfInBounds_toArray, List.set_cons_succ, List.set_cons_zero])
  refine mix_last rfl ?_
  simp only [opsAt, List.getD_cons_succ, List.getD_cons_zero]
  repeat (go_big_quiet_step ((intro hC; first | rfl | (go_simp; first | done | rfl))))
  refine wpQuiet_nil ?_
  simp only [calmQ]
  have hc := S.cells; simp only [Cells, cellsC, Im, Row, El, RTH, TreeH, TR, AU, AL, OrNil, AuP, SetO, Many, ScO, Nat.zero_add, Nat.reduceAdd] at hc
  go_wp2_with (first | ((first | (with_reducible refine wpl_seal S ?_) | (with_reducible refine cw_seal S ?_) | (with_reducible refine bp_seal S ?_) | (with_reducible refine ca_seal S ?_)); clear S; (try clear hc); intro w1 S; (try simp only [List.set_cons_zero, List.set_cons_succ, List.nil_append] at S); have hc := S.cells; simp only [Cells, cellsC, Im, Row, El, RTH, TreeH, TR, AU, AL, OrNil, AuP, SetO, Many, ScO, Nat.zero_add, Nat.reduceAdd] at hc))
  have hq := S.cellsE; simp only [CellsE, cellsE, Im, Row, El, RTH, TreeH, TR, AU, AL, OrNil, AuP, SetO, Many, ScO, Nat.zero_add, Nat.reduceAdd] at hq
  refine wp_region_ext [⟨[0, 1, 2, 3, 4, 5, 6, 7], [], 8, false⟩] [9] (by kernel_rfl) (by kernel_rfl) ?_
  refine mix_cons rfl rfl rfl ?_
  simp only [opsAt, List.getD_cons_succ, List.getD_cons_zero]
  repeat (go_big_quiet_step ((intro hC; first | rfl | (go_simp; first | done | rfl))))
  refine wpQuiet_nil ?_
  repeat (go_big_quiet_step ((intro hC; first | rfl | (go_simp; first | done | rfl))))
  refine wpQuiet_nil ?_
  clear hq hc
  replace S := S.drew
  have hc := S.cells; simp only [Cells, cellsC, Im, Row, El, RTH, TreeH, TR, AU, AL, OrNil, AuP, SetO, Many, ScO, Nat.zero_add, Nat.reduceAdd] at hc
  go_wp2_with (first | ((first | (with_reducible refine mx_seal S ?_) | (with_reducible refine wpl_seal S ?_) | (with_reducible refine ca_seal S ?_)); clear S; (try clear hc); intro w1 S; (try simp only [List.set_cons_zero, List.set_cons_succ, List.nil_append] at S); have hc := S.cells; simp only [Cells, cellsC, Im, Row, El, RTH, TreeH, TR, AU, AL, OrNil, AuP, SetO, Many, ScO, Nat.zero_add, Nat.reduceAdd] at hc) | (go_at_call 32; refine (ends_r S 1 rfl hW _).mono ?_; rintro e w1 ⟨v9, rfl, hu⟩; obtain ⟨I1, S1, hI1⟩ := S.new hu; clear S hu hI1; (try clear hc); have S := S1; clear S1; have hc := S.cells; simp only [Cells, cellsC, Im, Row, El, RTH, TreeH, TR, AU, AL, OrNil, AuP, SetO, Many, ScO, Nat.zero_add, Nat.reduceAdd] at hc; have hc := S.cells; simp only [Cells, cellsC, Im, Row, El, RTH, TreeH, TR, AU, AL, OrNil, AuP, SetO, Many, ScO, Nat.zero_add, Nat.reduceAdd] at hc))
  (first | refine ⟨(fun h => by cases h), ?_⟩ | skip); (first | ((first | (with_reducible refine mx_seal S ?_)); clear S; (try clear hc); intro w1 S; (try simp only [List.set_cons_zero, List.set_cons_succ, List.nil_append] at S); have hc := S.cells; simp only [Cells, cellsC, Im, Row, El, RTH, TreeH, TR, AU, AL, OrNil, AuP, SetO, Many, ScO, Nat.zero_add, Nat.reduceAdd] at hc) | skip); (try simp only [Act.put, List.setIfInBounds_toArray, List.set_cons_succ, List.set_cons_zero])
  refine mix_last rfl ?_
  simp only [opsAt, List.getD_cons_succ, List.getD_cons_zero]
  repeat (go_big_quiet_step ((intro hC; first | rfl | (go_simp; first | done | rfl))))
  refine wpQuiet_nil ?_
  simp only [calmQ]
  have hc := S.cells; simp only [Cells, cellsC, Im, Row, El, RTH, TreeH, TR, AU, AL, OrNil, AuP, SetO, Many, ScO, Nat.zero_add, Nat.reduceAdd] at hc
  go_wp2_with (first | ((first | (with_reducible refine wpl_seal S ?_) | (with_reducible refine cw_seal S ?_) | (with_reducible refine bp_seal S ?_) | (with_reducible refine ca_seal S ?_)); clear S; (try clear hc); intro w1 S; (try simp only [List.set_cons_zero, List.set_cons_succ, List.nil_append] at S); have hc := S.cells; simp only [Cells, cellsC, Im, Row, El, RTH, TreeH, TR, AU, AL, OrNil, AuP, SetO, Many, ScO, Nat.zero_add, Nat.reduceAdd] at hc))
  go_ret
  have S1 := (S.sel [1, 2, 0] (by decide) rfl (by simp))
  have S2 := ((S1.pack (scM gc L W _ ga) (L := [_])).asSc 0 rfl)
  have u := S2.ret2 0 1 (by omega) rfl rfl
  obtain ⟨I', S4, -⟩ := HB.out _ _ _ u
  exact ⟨_, I', rfl, S4⟩
theorem wreset_r (S0 : SH F0 I0 w0 O w I) (i : Nat) (e : O[i]? = some (ScO gc L W k)) :
    Calls Try.prog 18 #[.pointer (some ⟨gc, 0, none⟩)] w fun e w' => ∃ J, e = .returned (.tuple #[]) ∧ SH F0 I0 w0 (O.set i (ScO gc L W 0)) w' J := by
  obtain ⟨F, hI, S, back⟩ := S0.call1 i e
  have HB := As.mk back
  clear back S0 e
  obtain ⟨ga, S⟩ := S.openSc
  unfold scM at S
  have hc := S.cells; simp only [Cells, cellsC, Im, Row, El, RTH, TreeH, TR, AU, AL, OrNil, AuP, SetO, Many, ScO, Nat.zero_add, Nat.reduceAdd] at hc
  go_enter Try.func18, Try.ntmps18
  go_wp2_with (first | ((first | (with_reducible refine wpl_seal S ?_) | (with_reducible refine cw_seal S ?_) | (with_reducible refine bp_seal S ?_) | (with_reducible refine ca_seal S ?_)); clear S; (try clear hc); intro w1 S; (try simp only [List.set_cons_zero, List.set_cons_succ, List.nil_append] at S); have hc := S.cells; simp only [Cells, cellsC, Im, Row, El, RTH, TreeH, TR, AU, AL, OrNil, AuP, SetO, Many, ScO, Nat.zero_add, Nat.reduceAdd] at hc))
  go_end0
  have S2 := ((SH.pack (L := []) (scM gc L W _ ga) S).asSc 0 rfl)
  obtain ⟨I', S4, -⟩ := HB.out _ _ (S2.retU 0 rfl)
  exact ⟨I', rfl, S4⟩
theorem wscan_r (S0 : SH F0 I0 w0 O w I) (i : Nat) (e : O[i]? = some (SetO gs L W)) (hL : L.length ≤ 100000) (hW : W.length ≤ 1000000) (hG : GoodR L W) (hNE : NeW W) (B : Nat) (hB : ∀ x ∈ L, x.length ≤ B) (hB1 : B ≤ 1000) (hx : Sl kP w I A xs) (hn : xs.length ≤ 1000000) :
    Calls Try.prog 11 #[.pointer (some ⟨gs, 0, none⟩), .slice A xs.length c] w fun e w' => ∃ v J, e = .returned v ∧ SH F0 I0 w0 (Row kII v (scanR L W 0 xs) :: O) w' J := by
  obtain ⟨F, hI, S, back⟩ := S0.call2 i e
  have HB0 := As.mk back
  have HL5 := As.mk hB
  have hO : O.set i (SetO gs L W) = O := by
    have hlt := lt_of_get e
    rw [List.getElem?_eq_getElem hlt] at e
    rw [← Option.some.inj e, List.set_getElem_self]
  have HO0 := As.mk hO
  have HNE := As.mk hNE
  have HG := As.mk hG
  have hpos := hG.pos
  have S := (S.know (h := Im kP A xs) hx)
  clear back S0 hB hO e hNE hG hx
  have hc := S.cells; simp only [Cells, cellsC, Im, Row, El, RTH, TreeH, TR, AU, AL, OrNil, AuP, SetO, Many, ScO, Nat.zero_add, Nat.reduceAdd] at hc
  go_enter Try.func11, Try.ntmps11
  go_wp2_with (first | ((first | (with_reducible refine wpl_seal S ?_) | (with_reducible refine cw_seal S ?_) | (with_reducible refine bp_seal S ?_) | (with_reducible refine ca_seal S ?_)); clear S; (try clear hc); intro w1 S; (try simp only [List.set_cons_zero, List.set_cons_succ, List.nil_append] at S); have hc := S.cells; simp only [Cells, cellsC, Im, Row, El, RTH, TreeH, TR, AU, AL, OrNil, AuP, SetO, Many, ScO, Nat.zero_add, Nat.reduceAdd] at hc) | (go_at_call 15; refine (wbegin_r S 1 rfl hL hW HNE.out B HL5.out hB1).mono ?_; rintro e w1 ⟨gc, J, rfl, S9⟩; clear S hc; have S := S9; clear S9; have hc := S.cells; simp only [Cells, cellsC, Im, Row, El, RTH, TreeH, TR, AU, AL, OrNil, AuP, SetO, Many, ScO, Nat.zero_add, Nat.reduceAdd] at hc))
  replace S := S.nilrow (k := kII)
  clear hc
  go_loopw [6, 13] (fun o i w' => ∃ (m : Nat) (z : Int) (out : List (List Int)) (J : Fp), m ≤ xs.length ∧ i = .int .i64 m ∧ (0 ≤ z ∧ z < L.length) ∧ As (out ++ scanR L W z (xs.drop m) = scanR L W 0 xs) ∧ As (SH F I w [Row kII o out, ScO gc L W z, Im kP A xs, SetO gs L W] w' J)) (fun _ i _ => xs.length - (intOf i).toNat)
  case atStart => exact ⟨0, 0, [], _, Nat.zero_le _, rfl, by omega, ⟨rfl⟩, ⟨S⟩⟩
  case round =>
    clear S
    obtain ⟨m, z, out, J, hm, rfl, hz, HO, ⟨S⟩⟩ := hrel
    have hol : out.length + (xs.length - m) = xs.length := by
      have := congrArg List.length HO.out
      simp only [scanR, List.length_append, List.length_map, runR_len, List.length_drop] at this
      exact this
    have hc := S.cells; simp only [Cells, cellsC, Im, Row, El, RTH, TreeH, TR, AU, AL, OrNil, AuP, SetO, Many, ScO, Nat.zero_add, Nat.reduceAdd] at hc
    by_cases hkt : m < xs.length
    · have hkt' : decide ((m : Int) < xs.length) = true := by simpa using hkt
      obtain ⟨xb, xo, rfl, hcx⟩ := (S.im 2 rfl).int_at hkt
      have HD : As (xs.drop m = xs[m] :: xs.drop (m + 1)) := ⟨List.drop_eq_getElem_cons hkt⟩
      obtain ⟨z', hz', hd⟩ : ∃ j : Nat, nextR L z xs[m] = j ∧ j < L.length := by
        obtain ⟨q, rfl⟩ : ∃ q : Nat, z = q := ⟨z.toNat, by omega⟩
        obtain ⟨j, e, hj⟩ := nextR_lt HG.out (n := q) (by omega) xs[m]
        exact ⟨j, e, hj.lt⟩
      have HO2 : As ((out ++ [endsR L W z']) ++ scanR L W z' (xs.drop (m + 1)) = scanR L W 0 xs) := ⟨by rw [← HO.out, HD.out]; simp only [scanR, runR, List.map_cons, hz']; simp⟩
      have HZ := As.mk hz'
      generalize xs[m] = x at hcx HZ
      clear hz' HD
      go_wp2_with (first | ((first | (with_reducible refine wpl_seal S ?_) | (with_reducible refine cw_seal S ?_) | (with_reducible refine bp_seal S ?_) | (with_reducible refine ca_seal S ?_)); clear S; (try clear hc); intro w1 S; (try simp only [List.set_cons_zero, List.set_cons_succ, List.nil_append] at S); have hc := S.cells; simp only [Cells, cellsC, Im, Row, El, RTH, TreeH, TR, AU, AL, OrNil, AuP, SetO, Many, ScO, Nat.zero_add, Nat.reduceAdd] at hc) | (go_at_call 16; refine (wput_r S 1 rfl (by omega) hW x).mono ?_; rw [HZ.out]; rintro e w1 ⟨v9, J9, rfl, S9⟩; clear S hc hcx; have S := S9; clear S9; simp only [List.set_cons_zero, List.set_cons_succ, List.nil_append] at S; obtain ⟨A9, c9, I1, e1, hc9, S1, hI1⟩ := S.frow 0 rfl; subst e1; clear S hI1; have S := S1; clear S1; simp only [List.set_cons_zero, List.set_cons_succ, List.nil_append] at S; have hc := S.cells; simp only [Cells, cellsC, Im, Row, El, RTH, TreeH, TR, AU, AL, OrNil, AuP, SetO, Many, ScO, Nat.zero_add, Nat.reduceAdd] at hc) | (at_builtin; refine wpl_push S 2 rfl rfl _ _ rfl ty_intss rfl (endsR L W z') _ _ rfl [_] _ (S.cel 0 rfl) ⟨_, _, rfl, hc9, S.im 1 rfl⟩ (by (try simp only [maxLen, List.length_nil, List.length_append, List.length_cons]); omega) (by (try simp only [maxLen, List.length_nil, List.length_append, List.length_cons]); omega) ?_; clear S; (try clear hc); intro va w1 S; simp only [List.set_cons_zero, List.set_cons_succ, List.nil_append] at S; have hc := S.cells; simp only [Cells, cellsC, Im, Row, El, RTH, TreeH, TR, AU, AL, OrNil, AuP, SetO, Many, ScO, Nat.zero_add, Nat.reduceAdd] at hc))
      go_roundw
      case rel => exact ⟨m + 1, z', _, _, by omega, by go_num, by omega, HO2, ⟨(S.sel [2, 3, 4, 5] (by decide) rfl (by simp) : SH _ _ _ [_, _, _, _] _ _)⟩⟩
      case measure => simp [intOf] <;> omega
    · have hkt' : decide ((m : Int) < xs.length) = false := by simpa using hkt
      obtain rfl : m = xs.length := by omega
      have HO3 : As (out = scanR L W 0 xs) := ⟨by rw [← HO.out, List.drop_length]; simp [scanR, runR]⟩
      go_wp2_with (first | ((first | (with_reducible refine wpl_seal S ?_) | (with_reducible refine cw_seal S ?_) | (with_reducible refine bp_seal S ?_) | (with_reducible refine ca_seal S ?_)); clear S; (try clear hc); intro w1 S; (try simp only [List.set_cons_zero, List.set_cons_succ, List.nil_append] at S); have hc := S.cells; simp only [Cells, cellsC, Im, Row, El, RTH, TreeH, TR, AU, AL, OrNil, AuP, SetO, Many, ScO, Nat.zero_add, Nat.reduceAdd] at hc))
      go_ret
      rw [HO3.out] at S
      have u := S.ret2 3 0 (by omega) rfl rfl
      obtain ⟨I', S4, -⟩ := HB0.out _ _ _ u
      rw [HO0.out] at S4
      exact ⟨_, I', rfl, S4⟩
end
end Go.Proofs.Ytooaelpfbamebaa
