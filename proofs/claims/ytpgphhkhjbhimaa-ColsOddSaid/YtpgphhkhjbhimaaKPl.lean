/- ColsPlays: the law's walk. -/
import Derived.Test.YtpgphhkhjbhimaaCNew
import Derived.Test.YtpgphhkhjbhimaaAro
namespace Go.Proofs.Ytpgphhkhjbhimaa
open Go.RowKit X
set_option maxHeartbeats 4000000
set_option maxRecDepth 8000
set_option linter.unusedSimpArgs false
set_option linter.unusedVariables false
theorem X.Upd.intI {I I1 : Fp} {w w' : World} {v : Value} {xs : List Int} (u : Upd w No I w' (Row kI v xs)) : Upd w No I1 w' (Row kI v xs) := by
  obtain ⟨F', J', ⟨⟨cells, ⟨h1, h2⟩, hf⟩, f⟩, h3, h4, h5, h6⟩ := u
  exact ⟨fun b => v.ownBlock = some b, No, ⟨⟨cells, ⟨h1, fun _ _ h => h⟩, Flat.int.2 (Flat.int.1 hf)⟩, fun g e => e⟩, fun b hb => h3 b (f b hb), fun b hb => hb.elim, fun b _ h => h, h6⟩
section
variable {F0 I0 F I : Fp} {w0 w w' : World} {O : List Ob} {L W own told : List (List Int)} {st r : List Int} {rows gm n : Nat}
theorem row_bd {α : Type} {k : Kd α} {v : Value} {xs : List α} (S : SH F0 I0 w0 O w I) (i : Nat) (e : O[i]? = some (Row k v xs)) : ∀ b, (I b ∨ v.ownBlock = some b) → b < w.heap.size := fun b hb => by
  rcases hb with hb | hb
  · exact S.bd b hb
  · exact ((S.own i e).lt hb).2
theorem row_sl {α : Type} {k : Kd α} {B : Option Addr} {d m : Nat} {xs : List α} (S : SH F0 I0 w0 O w I) (i : Nat) (e : O[i]? = some (Row k (.slice B m d) xs)) : Sl k w (fun b => I b ∨ (Value.slice B m d).ownBlock = some b) B xs := by
  obtain ⟨A', c', e1, h1, h2⟩ := S.row i e
  cases e1
  exact h2
theorem zends_r (S : SH F0 I0 w0 O w I) (i : Nat) {A B : Option Addr} {c d : Nat} {m : Nat} (hm : m = told.length) (e : O[i]? = some (Row kII (.slice B m d) told)) (hA : Sl kII w I A own) (hF : Few own) (ht : Told told n) (x : Nat) (hx : x < n) (hn : told.length ≤ 1000) :
    Calls Try.prog 16 #[.slice A own.length c, .slice B m d, .int .i64 x] w fun e w' => ∃ v, e = .returned v ∧ Upd w No I w' (Row kI v (endsL own (sinceL told x))) := by
  subst hm
  exact (zends_c own told n x A B c d w _ (row_bd S i e) (hA.weak fun _ _ h => .inl h) (row_sl S i e) hF.colz (by have := hF.len; omega) ht hx hn).mono fun e w' ⟨v, h1, h2⟩ => ⟨v, h1, h2.intI⟩
theorem zstate_r (S : SH F0 I0 w0 O w I) (i : Nat) {A B : Option Addr} {c d : Nat} {m : Nat} (hm : m = told.length) (e : O[i]? = some (Row kII (.slice B m d) told)) (hA : Sl kII w I A own) (hF : Few own) (ht : Told told n) (x : Nat) (hx : x < n) (hn : told.length ≤ 1000) :
    Calls Try.prog 23 #[.slice A own.length c, .slice B m d, .int .i64 x] w fun e w' => e = .returned (.int .i64 (dpst (treeL own) (sinceL told x) (sinceL told x).length)) ∧ Ext w w' := by
  subst hm
  exact zstate_c own told n x A B c d w _ (row_bd S i e) (hA.weak fun _ _ h => .inl h) hF (row_sl S i e) ht hx hn
theorem cplaces_t (S : SH F0 I0 w0 O w I) (i : Nat) (e : O[i]? = some (MaT gm own told n)) : Calls Try.prog 22 #[.pointer (some ⟨gm, 0, none⟩)] w fun e w' => e = .returned (.int .i64 n) ∧ w = w' := by
  have h := cplaces_r S i e
  rw [stT_len] at h
  exact h
theorem croom_t (S : SH F0 I0 w0 O w I) (i : Nat) (e : O[i]? = some (MaT gm own told n)) : Calls Try.prog 20 #[.pointer (some ⟨gm, 0, none⟩)] w fun e w' => e = .returned (.int .i64 n) ∧ w = w' := by
  have h := croom_r S i e
  rw [stT_len] at h
  exact h
end
theorem kplays_c (cs rws : List (List Int)) (p : Int) (hp : I64 p) (A B : Option Addr) (c d : Nat) (w : World) (I : Fp) (hI : ∀ b, I b → b < w.heap.size) (hx : Sl kII w I A cs) (hy : Sl kII w I B rws) :
    Calls Try.prog 7 #[.slice A cs.length c, .int .i64 p, .slice B rws.length d] w fun e w' => e = .returned (.bool true) ∧ Ext w w' := by
  have S := ((SH.start w I hI).know (h := Im kII B rws) hy).know (h := Im kII A cs) hx
  clear hx hy
  have HF := As.mk (smallZ_few cs)
  obtain ⟨own, hown⟩ : ∃ own, smallZ (cs.take 6) = own := ⟨_, rfl⟩
  have HOW := As.mk hown
  rw [hown] at HF
  clear hown
  have hol := HF.out.len
  obtain ⟨n, hn, hn7⟩ : ∃ n : Nat, aroundI p 7 = n ∧ n < 7 := ⟨(aroundI p 7).toNat, by have := aroundI_range (n := p) (m := 7) (by omega); omega, by have := aroundI_range (n := p) (m := 7) (by omega); omega⟩
  have HN := As.mk hn
  clear hn
  have hc := S.cells; simp only [Cells, cellsC, Im, Row, El, RTH, TreeH, TR, AU, AL, OrNil, Many, MaO, FlatO, Nat.zero_add, Nat.reduceAdd] at hc
  go_enter Try.func7, Try.ntmps7
  go_wp2_with (first | ((first | (with_reducible refine wpl_seal S ?_) | (with_reducible refine cw_seal S ?_) | (with_reducible refine bp_seal S ?_) | (with_reducible refine ca_seal S ?_)); clear S; (try clear hc); intro w1 S; (try simp only [List.set_cons_zero, List.set_cons_succ, List.nil_append] at S); have hc := S.cells; simp only [Cells, cellsC, Im, Row, El, RTH, TreeH, TR, AU, AL, OrNil, Many, MaO, FlatO, Nat.zero_add, Nat.reduceAdd] at hc) | (go_at_call 9; refine (zsmall_c cs A c _ _ S.bd (S.im 0 rfl)).mono ?_; rw [HOW.out]; rintro e w1 ⟨v, rfl, hu⟩; obtain ⟨I1, S1, hI1⟩ := S.new hu; clear S hu hI1; (try clear hc); have S := S1; clear S1; have hc := S.cells; simp only [Cells, cellsC, Im, Row, El, RTH, TreeH, TR, AU, AL, OrNil, Many, MaO, FlatO, Nat.zero_add, Nat.reduceAdd] at hc; obtain ⟨A5, c5, I1, e1, hc5, S1, hI1⟩ := S.frow 0 rfl; subst e1; clear S hI1; have S := S1; clear S1; simp only [List.set_cons_zero, List.set_cons_succ, List.nil_append] at S; have hc := S.cells; simp only [Cells, cellsC, Im, Row, El, RTH, TreeH, TR, AU, AL, OrNil, Many, MaO, FlatO, Nat.zero_add, Nat.reduceAdd] at hc) | (go_at_call 19; refine (around_c p 7 _ hp (by omega) (by omega)).mono ?_; rw [HN.out]; rintro e w1 ⟨rfl, rfl⟩) | (go_at_call 10; refine (cnew_t S own n (by omega) A5 c5 (S.im 0 rfl) HF.out).mono ?_; rintro e w1 ⟨gm, J1, rfl, S2⟩; clear S hc; have S := S2; clear S2; have hc := S.cells; simp only [Cells, cellsC, Im, Row, El, RTH, TreeH, TR, AU, AL, OrNil, Many, MaO, FlatO, Nat.zero_add, Nat.reduceAdd] at hc))
  replace S := ((S.sel [0, 1, 3] (by decide) rfl (by simp) : SH _ _ _ [_, _, _] _ _) : SH _ _ _ [_, _, _] _ _).nilrow (k := kII)
  clear hc
  go_loopw [11, 12] (fun tv v w' => ∃ (i : Nat) (told : List (List Int)) (Av : Option Addr) (cv : Nat) (J : Fp), v = .int .i64 i ∧ tv = .slice Av told.length cv ∧ i ≤ rws.length ∧ i ≤ 12 ∧ told.length = i ∧ As (Told told n) ∧ As (SH No I w [Row kII (.slice Av told.length cv) told, MaT gm own told n, Im kII A5 own, Im kII B rws] w' J)) (fun _ v _ => rws.length - (intOf v).toNat)
  case atStart => exact ⟨0, [], none, 0, _, rfl, rfl, by omega, by omega, rfl, ⟨Told.nil⟩, ⟨S⟩⟩
  case round =>
    clear S
    obtain ⟨i, told, Av, cv, J, rfl, rfl, hi, hi12, htl, HT, ⟨S⟩⟩ := hrel
    have HTL := As.mk htl
    have htl12 : told.length ≤ 12 := by omega
    clear htl
    have hc := S.cells; simp only [Cells, cellsC, Im, Row, El, RTH, TreeH, TR, AU, AL, OrNil, Many, MaO, FlatO, Nat.zero_add, Nat.reduceAdd] at hc
    by_cases hil : i < rws.length
    · have hil' : decide ((i : Int) < rws.length) = true := by simpa using hil
      by_cases him : i < 12
      · have him' : decide ((i : Int) < 12) = true := by simp; omega
        obtain ⟨b, o, A3, c3, rfl, hcx, hc3, hs3⟩ := (S.im 3 rfl).sl_at hil
        replace S := S.know (h := Im kI A3 rws[i]) hs3
        clear hs3
        generalize rws[i] = x at S hcx hc3
        have hc := S.cells; simp only [Cells, cellsC, Im, Row, El, RTH, TreeH, TR, AU, AL, OrNil, Many, MaO, FlatO, Nat.zero_add, Nat.reduceAdd] at hc
        have HT2 := As.mk (HT.out.rowZ x)
        have htl2 : (told ++ [rowZ x n]).length = told.length + 1 := by simp
        obtain ⟨told2, hto⟩ : ∃ told2, told ++ [rowZ x n] = told2 := ⟨_, rfl⟩
        have HTO := As.mk hto
        rw [hto] at HT2 htl2
        have HTL2 := As.mk htl2
        have htl13 : told2.length ≤ 13 := by omega
        have hrl : ((told2.length : Int) != (told.length : Int) + 1) = false := by rw [htl2]; simp
        clear hto htl2
        obtain ⟨ST, hST⟩ : ∃ ST, stT (treeL own) told2 n = ST := ⟨_, rfl⟩
        have HST := As.mk hST
        have hSl : ST.length = n := by rw [← hST, stT_len]
        have HSL := As.mk hSl
        have hsb : ((ST.length : Int) != n) = false := by rw [hSl]; simp
        have HSA : As (∀ (y : Nat) (h : y < ST.length), ST[y] = dpst (treeL own) (sinceL told2 y) (sinceL told2 y).length) := ⟨fun y h => by subst hST; exact stT_at h⟩
        clear hST hSl
        go_wp2_with (first | ((first | (with_reducible refine wpl_seal S ?_) | (with_reducible refine cw_seal S ?_) | (with_reducible refine bp_seal S ?_) | (with_reducible refine ca_seal S ?_)); clear S; (try clear hc); intro w1 S; (try simp only [List.set_cons_zero, List.set_cons_succ, List.nil_append] at S); have hc := S.cells; simp only [Cells, cellsC, Im, Row, El, RTH, TreeH, TR, AU, AL, OrNil, Many, MaO, FlatO, Nat.zero_add, Nat.reduceAdd] at hc) | (go_at_call 12; refine (zrow_c x n (by omega) A3 c3 _ _ S.bd (S.im 0 rfl)).mono ?_; rintro e w1 ⟨g, rfl, hu⟩; obtain ⟨I1, S1, hI1⟩ := S.new hu; clear S hu hI1; (try clear hc); have S := S1; clear S1; have hc := S.cells; simp only [Cells, cellsC, Im, Row, El, RTH, TreeH, TR, AU, AL, OrNil, Many, MaO, FlatO, Nat.zero_add, Nat.reduceAdd] at hc; have hc := S.cells; simp only [Cells, cellsC, Im, Row, El, RTH, TreeH, TR, AU, AL, OrNil, Many, MaO, FlatO, Nat.zero_add, Nat.reduceAdd] at hc) | (go_at_call 11; refine (crow_t S 4 rfl _ n (S.im 1 rfl) (rowZ_len x n) (fun y hy => by have := rowZ_mem hy; omega) (by omega) HF.out (by omega)).mono ?_; rw [HTO.out]; rintro e w1 ⟨g2, J5, rfl, S2⟩; clear S hc; have S := S2; clear S2; simp only [List.set_cons_zero, List.set_cons_succ, List.nil_append] at S; have hc := S.cells; simp only [Cells, cellsC, Im, Row, El, RTH, TreeH, TR, AU, AL, OrNil, Many, MaO, FlatO, Nat.zero_add, Nat.reduceAdd] at hc) | (go_at_call 18; refine (cstates_r S 5 rfl (by rw [stT_len]; omega)).mono ?_; rw [HST.out]; rintro e w1 ⟨v, rfl, hu⟩; obtain ⟨I1, S1, hI1⟩ := S.new hu; clear S hu hI1; (try clear hc); have S := S1; clear S1; have hc := S.cells; simp only [Cells, cellsC, Im, Row, El, RTH, TreeH, TR, AU, AL, OrNil, Many, MaO, FlatO, Nat.zero_add, Nat.reduceAdd] at hc; obtain ⟨A8, c8, I1, e1, hc8, S1, hI1⟩ := S.frow 0 rfl; subst e1; clear S hI1; have S := S1; clear S1; simp only [List.set_cons_zero, List.set_cons_succ, List.nil_append] at S; have hc := S.cells; simp only [Cells, cellsC, Im, Row, El, RTH, TreeH, TR, AU, AL, OrNil, Many, MaO, FlatO, Nat.zero_add, Nat.reduceAdd] at hc) | (go_at_call 17; refine (crows_r S 6 rfl).mono ?_; rintro e w1 ⟨rfl, rfl⟩) | (go_at_call 22; refine (cplaces_t S 6 rfl).mono ?_; rintro e w1 ⟨rfl, rfl⟩) | (go_at_call 20; refine (croom_t S 6 rfl).mono ?_; rintro e w1 ⟨rfl, rfl⟩) | (at_builtin; refine wpl_push S 3 rfl rfl _ _ rfl ty_intss rfl (rowZ x n) _ _ rfl [_] _ (S.cel 0 rfl) ⟨_, n, by rw [rowZ_len], by rw [rowZ_len]; exact Nat.le_refl _, S.im 1 rfl⟩ (by (try simp only [maxLen, List.length_nil, List.length_append, List.length_cons]); omega) (by (try simp only [maxLen, List.length_nil, List.length_append, List.length_cons]); omega) ?_; clear S; (try clear hc); intro va w1 S; simp only [List.set_cons_zero, List.set_cons_succ, List.nil_append] at S; obtain ⟨Av, cv, eva, -, -⟩ := S.row 3 rfl; subst eva; have hc := S.cells; simp only [Cells, cellsC, Im, Row, El, RTH, TreeH, TR, AU, AL, OrNil, Many, MaO, FlatO, Nat.zero_add, Nat.reduceAdd] at hc))
        replace S := ((S.sel [0, 1, 5, 6, 7, 8] (by decide) rfl (by simp) : SH _ _ _ [_, _, _, _, _, _] _ _) : SH _ _ _ [_, _, _, _, _, _] _ _)
        clear hc hcx hc3 hsb hrl
        go_loopw [17] (fun v w' => ∃ (y : Nat) (J : Fp), v = .int .i64 y ∧ y ≤ n ∧ As (SH No I w [Im kI A8 ST, Im kII (some ⟨g2, 0, none⟩) (outT own told2 n), Row kII (.slice Av (told.length + 1) cv) told2, MaT gm own told2 n, Im kII A5 own, Im kII (some ⟨b, o, none⟩) rws] w' J)) (fun v _ => n - (intOf v).toNat)
        case atStart => exact ⟨0, _, rfl, by omega, ⟨by rw [← HTL2.out]; exact S⟩⟩
        case round =>
          clear S
          obtain ⟨y, J, rfl, hy, ⟨S⟩⟩ := hrel
          by_cases hyn : y < n
          · have hyn' : decide ((y : Int) < n) = true := by simpa using hyn
            have hys : y < ST.length := by rw [HSL.out]; exact hyn
            obtain ⟨b8, o8, rfl, hcy⟩ := (S.im 0 rfl).int_at hys
            have hyo : y < (outT own told2 n).length := by rw [outT_len]; exact hyn
            obtain ⟨b9, o9, A9, c9, e9, hcz, hc9, hs9⟩ := im_at (S.im 1 rfl) y _ (List.getElem?_eq_getElem hyo)
            cases e9
            rw [Nat.zero_add] at hcz
            have HST2 := As.mk (HSA.out y hys)
            rw [outT_at] at hcz hs9 hc9
            have hEl : (endsL own (sinceL told2 y)).length ≤ 1000000 := by have h := endK_le (W := own) (x := sinceL told2 y) (m := own.length); change (endsL own _).length ≤ _ at h; omega
            obtain ⟨E, hE⟩ : ∃ E, endsL own (sinceL told2 y) = E := ⟨_, rfl⟩
            have HE := As.mk hE
            rw [hE] at hcz hs9 hEl hc9
            clear hE hyo
            obtain ⟨sy, hsy⟩ : ∃ sy, ST[y] = sy := ⟨_, rfl⟩
            rw [hsy] at hcy HST2
            have HSY := As.mk hsy
            clear hsy
            replace S := S.know (h := Im kI A9 E) hs9
            clear hs9
            have hq1 := ClE.cell (w := wr.drew) hcy
            have hq2 := ClE.cell (w := wr.drew) hcz
            go_wp2_with (first | ((first | (with_reducible refine wpl_seal S ?_) | (with_reducible refine cw_seal S ?_) | (with_reducible refine bp_seal S ?_) | (with_reducible refine ca_seal S ?_)); clear S; (try clear hc); intro w1 S; (try simp only [List.set_cons_zero, List.set_cons_succ, List.nil_append] at S); have hc := S.cells; simp only [Cells, cellsC, Im, Row, El, RTH, TreeH, TR, AU, AL, OrNil, Many, MaO, FlatO, Nat.zero_add, Nat.reduceAdd] at hc))
            refine wp_region_ext [⟨[0, 1, 2, 3, 4, 5, 6], [], 7, true⟩, ⟨[], [], 8, false⟩, ⟨[9, 10, 11, 12, 13, 14, 15, 16, 17], [], 18, true⟩] [19, 20] (by kernel_rfl) (by kernel_rfl) ?_
            refine mix_cons rfl rfl rfl ?_
            simp only [opsAt, List.getD_cons_succ, List.getD_cons_zero]
            repeat (go_big_quiet_step ((intro hC; first | rfl | (go_simp; first | done | rfl))))
            refine wpQuiet_nil ?_
            repeat (go_big_quiet_step ((intro hC; first | rfl | (go_simp; first | done | rfl))))
            refine wpQuiet_nil ?_
            clear hcy hcz
            replace S := S.drew
            generalize wr.drew = w1 at S hq1 hq2 ⊢
            have hc := S.cells; simp only [Cells, cellsC, Im, Row, El, RTH, TreeH, TR, AU, AL, OrNil, Many, MaO, FlatO, Nat.zero_add, Nat.reduceAdd] at hc
            go_wp2_with (first | ((first | (with_reducible refine mx_seal S ?_) | (with_reducible refine wpl_seal S ?_) | (with_reducible refine ca_seal S ?_)); clear S; (try clear hc); intro w1 S; (try simp only [List.set_cons_zero, List.set_cons_succ, List.nil_append] at S); have hc := S.cells; simp only [Cells, cellsC, Im, Row, El, RTH, TreeH, TR, AU, AL, OrNil, Many, MaO, FlatO, Nat.zero_add, Nat.reduceAdd] at hc) | (go_at_call 16; refine (zends_r (own := own) (told := told2) (c := c5) (B := Av) (d := cv) S 3 HTL2.out.symm rfl (S.im 5 rfl) HF.out HT2.out y hyn (by omega)).mono ?_; rw [HE.out]; rintro e w1 ⟨v, rfl, hu⟩; have hxe := hu.ext; obtain ⟨I1, S1, hI1⟩ := S.new hu; clear S hu hI1; (try clear hc); have S := S1; clear S1; have hc := S.cells; simp only [Cells, cellsC, Im, Row, El, RTH, TreeH, TR, AU, AL, OrNil, Many, MaO, FlatO, Nat.zero_add, Nat.reduceAdd] at hc; obtain ⟨A10, c10, I1, e1, hc10, S1, hI1⟩ := S.frow 0 rfl; subst e1; clear S hI1; have S := S1; clear S1; simp only [List.set_cons_zero, List.set_cons_succ, List.nil_append] at S; have hc := S.cells; simp only [Cells, cellsC, Im, Row, El, RTH, TreeH, TR, AU, AL, OrNil, Many, MaO, FlatO, Nat.zero_add, Nat.reduceAdd] at hc))
            refine ⟨fun _ => hxe, ?_⟩
            clear hxe
            refine mix_cons rfl rfl rfl ?_
            simp only [opsAt, List.getD_cons_succ, List.getD_cons_zero]
            repeat (go_big_quiet_step ((intro hC; first | rfl | (go_simp; first | done | rfl))))
            refine wpQuiet_nil ?_
            repeat (go_big_quiet_step ((intro hC; first | rfl | (go_simp; first | done | rfl))))
            refine wpQuiet_nil ?_
            go_wp2_with (first | ((first | (with_reducible refine mx_seal S ?_) | (with_reducible refine wpl_seal S ?_) | (with_reducible refine ca_seal S ?_)); clear S; (try clear hc); intro w1 S; (try simp only [List.set_cons_zero, List.set_cons_succ, List.nil_append] at S); have hc := S.cells; simp only [Cells, cellsC, Im, Row, El, RTH, TreeH, TR, AU, AL, OrNil, Many, MaO, FlatO, Nat.zero_add, Nat.reduceAdd] at hc) | (go_at_call 15; refine (sameI_e E A9 A10 c9 c10 _ _ _ (S.im 1 rfl) (S.im 0 rfl) hEl).mono ?_; rintro e w1 ⟨rfl, hx⟩; have hx := hx.ext; replace S := S.ext hx; clear hx; (try clear hc); have hc := S.cells; simp only [Cells, cellsC, Im, Row, El, RTH, TreeH, TR, AU, AL, OrNil, Many, MaO, FlatO, Nat.zero_add, Nat.reduceAdd] at hc))
            (first | refine ⟨(fun h => by cases h), ?_⟩ | skip); (first | ((first | (with_reducible refine mx_seal S ?_)); clear S; (try clear hc); intro w1 S; (try simp only [List.set_cons_zero, List.set_cons_succ, List.nil_append] at S); have hc := S.cells; simp only [Cells, cellsC, Im, Row, El, RTH, TreeH, TR, AU, AL, OrNil, Many, MaO, FlatO, Nat.zero_add, Nat.reduceAdd] at hc) | skip); (try simp only [Act.put, List.setIfInBounds_toArray, List.set_cons_succ, List.set_cons_zero])
            clear hq1 hq2
            obtain ⟨b8', o8', e8, hcy⟩ := (S.im 2 rfl).int_at hys
            cases e8
            rw [HSY.out] at hcy
            have hq1 := ClE.cell (w := w1) hcy
            refine mix_cons rfl rfl rfl ?_
            simp only [opsAt, List.getD_cons_succ, List.getD_cons_zero]
            repeat (go_big_quiet_step ((intro hC; first | rfl | (go_simp; first | done | rfl))))
            refine wpQuiet_nil ?_
            repeat (go_big_quiet_step ((intro hC; first | rfl | (go_simp; first | done | rfl))))
            refine wpQuiet_nil ?_
            clear hq1 hcy
            go_wp2_with (first | ((first | (with_reducible refine mx_seal S ?_) | (with_reducible refine wpl_seal S ?_) | (with_reducible refine ca_seal S ?_)); clear S; (try clear hc); intro w1 S; (try simp only [List.set_cons_zero, List.set_cons_succ, List.nil_append] at S); have hc := S.cells; simp only [Cells, cellsC, Im, Row, El, RTH, TreeH, TR, AU, AL, OrNil, Many, MaO, FlatO, Nat.zero_add, Nat.reduceAdd] at hc) | (go_at_call 23; refine (zstate_r (own := own) (told := told2) (c := c5) (B := Av) (d := cv) S 4 HTL2.out.symm rfl (S.im 6 rfl) HF.out HT2.out y hyn (by omega)).mono ?_; rw [← HST2.out]; rintro e w1 ⟨rfl, hx⟩; have hxe := hx; replace S := S.ext hx; clear hx; (try clear hc); have hc := S.cells; simp only [Cells, cellsC, Im, Row, El, RTH, TreeH, TR, AU, AL, OrNil, Many, MaO, FlatO, Nat.zero_add, Nat.reduceAdd] at hc))
            refine ⟨fun _ => hxe, ?_⟩
            clear hxe
            refine mix_last rfl ?_
            simp only [opsAt, List.getD_cons_succ, List.getD_cons_zero]
            repeat (go_big_quiet_step ((intro hC; first | rfl | (go_simp; first | done | rfl))))
            refine wpQuiet_nil ?_
            simp only [calmQ]
            have hc := S.cells; simp only [Cells, cellsC, Im, Row, El, RTH, TreeH, TR, AU, AL, OrNil, Many, MaO, FlatO, Nat.zero_add, Nat.reduceAdd] at hc
            go_wp2_with (first | ((first | (with_reducible refine wpl_seal S ?_) | (with_reducible refine cw_seal S ?_) | (with_reducible refine bp_seal S ?_) | (with_reducible refine ca_seal S ?_)); clear S; (try clear hc); intro w1 S; (try simp only [List.set_cons_zero, List.set_cons_succ, List.nil_append] at S); have hc := S.cells; simp only [Cells, cellsC, Im, Row, El, RTH, TreeH, TR, AU, AL, OrNil, Many, MaO, FlatO, Nat.zero_add, Nat.reduceAdd] at hc))
            go_roundw
            case rel => exact ⟨y + 1, _, by go_num, by omega, ⟨(S.sel [2, 3, 4, 5, 6, 7] (by decide) rfl (by simp) : SH _ _ _ [_, _, _, _, _, _] _ _)⟩⟩
            case measure => simp [intOf]; omega
          · have hyn' : decide ((y : Int) < n) = false := by simpa using hyn
            have hc := S.cells; simp only [Cells, cellsC, Im, Row, El, RTH, TreeH, TR, AU, AL, OrNil, Many, MaO, FlatO, Nat.zero_add, Nat.reduceAdd] at hc
            go_wp2_with (first | ((first | (with_reducible refine wpl_seal S ?_) | (with_reducible refine cw_seal S ?_) | (with_reducible refine bp_seal S ?_) | (with_reducible refine ca_seal S ?_)); clear S; (try clear hc); intro w1 S; (try simp only [List.set_cons_zero, List.set_cons_succ, List.nil_append] at S); have hc := S.cells; simp only [Cells, cellsC, Im, Row, El, RTH, TreeH, TR, AU, AL, OrNil, Many, MaO, FlatO, Nat.zero_add, Nat.reduceAdd] at hc))
            go_roundw
            case rel => exact ⟨i + 1, told2, Av, cv, _, by go_num, by rw [HTL2.out], by omega, by omega, by rw [HTL2.out, HTL.out], HT2, ⟨by rw [HTL2.out]; exact (S.sel [2, 3, 4, 5] (by decide) rfl (by simp) : SH _ _ _ [_, _, _, _] _ _)⟩⟩
            case measure => simp [intOf]; omega
      · have him' : decide ((i : Int) < 12) = false := by simp; omega
        go_wp2_with (first | ((first | (with_reducible refine wpl_seal S ?_) | (with_reducible refine cw_seal S ?_) | (with_reducible refine bp_seal S ?_) | (with_reducible refine ca_seal S ?_)); clear S; (try clear hc); intro w1 S; (try simp only [List.set_cons_zero, List.set_cons_succ, List.nil_append] at S); have hc := S.cells; simp only [Cells, cellsC, Im, Row, El, RTH, TreeH, TR, AU, AL, OrNil, Many, MaO, FlatO, Nat.zero_add, Nat.reduceAdd] at hc) | (go_at_call 21; refine (csize_r S 1 rfl).mono ?_; rintro e w1 ⟨rfl, rfl⟩) | (go_at_call 24; refine (ztree_c own A5 c5 _ _ S.bd (S.im 2 rfl) HF.out).mono ?_; rintro e w1 ⟨v, rfl, hu⟩; obtain ⟨I1, S1, hI1⟩ := S.new hu; clear S hu hI1; (try clear hc); have S := S1; clear S1; have hc := S.cells; simp only [Cells, cellsC, Im, Row, El, RTH, TreeH, TR, AU, AL, OrNil, Many, MaO, FlatO, Nat.zero_add, Nat.reduceAdd] at hc; obtain ⟨a5, d5, a6, d6, rfl, hd5, hd6, hs5, hs6⟩ := S.rt 0 rfl; clear hs5 hs6; have hc := S.cells; simp only [Cells, cellsC, Im, Row, El, RTH, TreeH, TR, AU, AL, OrNil, Many, MaO, FlatO, Nat.zero_add, Nat.reduceAdd] at hc; have hfd : ∀ W : World, (Instr.field 46 (rtV a5 (treeL own).length d5 a6 own.length d6) 0).run Try.prog W = .ok (.slice a5 (treeL own).length d5) W := (fun _ => by kernel_rfl); simp only [rtV] at hfd ⊢) | (go_at_call 13; refine (lives17_c _ _ S.bd).mono ?_; rintro e w1 ⟨rfl, hx⟩; replace S := S.ext hx; clear hx; (try clear hc); have hc := S.cells; simp only [Cells, cellsC, Im, Row, El, RTH, TreeH, TR, AU, AL, OrNil, Many, MaO, FlatO, Nat.zero_add, Nat.reduceAdd] at hc))
        go_ret
        exact ⟨rfl, S.out⟩
    · have hil' : decide ((i : Int) < rws.length) = false := by simpa using hil
      go_wp2_with (first | ((first | (with_reducible refine wpl_seal S ?_) | (with_reducible refine cw_seal S ?_) | (with_reducible refine bp_seal S ?_) | (with_reducible refine ca_seal S ?_)); clear S; (try clear hc); intro w1 S; (try simp only [List.set_cons_zero, List.set_cons_succ, List.nil_append] at S); have hc := S.cells; simp only [Cells, cellsC, Im, Row, El, RTH, TreeH, TR, AU, AL, OrNil, Many, MaO, FlatO, Nat.zero_add, Nat.reduceAdd] at hc) | (go_at_call 21; refine (csize_r S 1 rfl).mono ?_; rintro e w1 ⟨rfl, rfl⟩) | (go_at_call 24; refine (ztree_c own A5 c5 _ _ S.bd (S.im 2 rfl) HF.out).mono ?_; rintro e w1 ⟨v, rfl, hu⟩; obtain ⟨I1, S1, hI1⟩ := S.new hu; clear S hu hI1; (try clear hc); have S := S1; clear S1; have hc := S.cells; simp only [Cells, cellsC, Im, Row, El, RTH, TreeH, TR, AU, AL, OrNil, Many, MaO, FlatO, Nat.zero_add, Nat.reduceAdd] at hc; obtain ⟨a5, d5, a6, d6, rfl, hd5, hd6, hs5, hs6⟩ := S.rt 0 rfl; clear hs5 hs6; have hc := S.cells; simp only [Cells, cellsC, Im, Row, El, RTH, TreeH, TR, AU, AL, OrNil, Many, MaO, FlatO, Nat.zero_add, Nat.reduceAdd] at hc; have hfd : ∀ W : World, (Instr.field 46 (rtV a5 (treeL own).length d5 a6 own.length d6) 0).run Try.prog W = .ok (.slice a5 (treeL own).length d5) W := (fun _ => by kernel_rfl); simp only [rtV] at hfd ⊢) | (go_at_call 13; refine (lives17_c _ _ S.bd).mono ?_; rintro e w1 ⟨rfl, hx⟩; replace S := S.ext hx; clear hx; (try clear hc); have hc := S.cells; simp only [Cells, cellsC, Im, Row, El, RTH, TreeH, TR, AU, AL, OrNil, Many, MaO, FlatO, Nat.zero_add, Nat.reduceAdd] at hc))
      go_ret
      exact ⟨rfl, S.out⟩
end Go.Proofs.Ytpgphhkhjbhimaa
