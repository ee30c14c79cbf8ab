/- AutomatonOwn: the law's walk. -/
import Derived.Test.YtiemglijfdaliaaLiv13
namespace Go.Proofs.Ytiemglijfdaliaa
open Go.RowKit X
set_option maxHeartbeats 4000000
set_option maxRecDepth 8000
set_option linter.unusedSimpArgs false
set_option linter.unusedVariables false
def TreeSt (b : Nat) (l : List Nd) (ws : List Int) (L W : List (List Int)) : Ob := .of {
  sat := fun w F _ => OwnT w F b l ws ∧ St l ws L W
  keep := fun ⟨h, s⟩ hk => ⟨h.keep fun b hb hf => hk b hb (.inl hf), s⟩
  weak := fun ⟨h, s⟩ hf _ _ => ⟨h.weak hf, s⟩ }
theorem X.SH.ofSt {F0 I0 I : Fp} {w0 w : World} {O : List Ob} {b : Nat} {l : List Nd} {ws : List Int} {L W : List (List Int)} (S : SH F0 I0 w0 O w I) (i : Nat) (e : O[i]? = some (TreeSt b l ws L W)) : SH F0 I0 w0 (O.set i (TreeH b l ws)) w I :=
  S.updI i e fun F ⟨h, s⟩ hb => ⟨F, h, fun k hk => ⟨(hb k hk).1, .inl hk⟩, Chg.refl _ _⟩
theorem mown_c (ls : List (List Int)) (xs : List Int) (A Ax : Option Addr) (c cx : Nat) (w : World) (I : Fp) (hI : ∀ b, I b → b < w.heap.size) (hx : Sl kW w I A ls) (hxx : Sl kP w I Ax xs) (hcx : xs.length ≤ cx) :
    Calls Try.prog 5 #[.slice A ls.length c, .slice Ax xs.length cx] w fun e w' => e = .returned (.bool true) ∧ Ext w w' := by
  have S := ((SH.start w I hI).know (h := Im kP Ax xs) hxx).know (h := Im kW A ls) hx
  clear hx hxx
  have hc := S.cells; simp only [Cells, cellsC, Im, Row, El, RTH, TreeH, TR, AU, TreeSt, Nat.zero_add, Nat.reduceAdd] at hc
  go_enter Try.func5, Try.ntmps5
  go_wp2_with (first | ((first | (with_reducible refine wpl_seal S ?_) | (with_reducible refine cw_seal S ?_) | (with_reducible refine bp_seal S ?_) | (with_reducible refine ca_seal S ?_)); clear S; (try clear hc); intro w1 S; (try simp only [List.set_cons_zero, List.set_cons_succ, List.nil_append] at S); have hc := S.cells; simp only [Cells, cellsC, Im, Row, El, RTH, TreeH, TR, AU, TreeSt, Nat.zero_add, Nat.reduceAdd] at hc) | (go_at_call 19; refine (small_c ls A c _ _ S.bd (S.im 0 rfl)).mono ?_; rintro e w1 ⟨v, rfl, hu⟩; obtain ⟨I1, S1, hI1⟩ := S.new hu; clear S hu hI1; (try clear hc); have S := S1; clear S1; have hc := S.cells; simp only [Cells, cellsC, Im, Row, El, RTH, TreeH, TR, AU, TreeSt, Nat.zero_add, Nat.reduceAdd] at hc; obtain ⟨Ao, co, I1, e1, hco, S1, hI1⟩ := S.frow 0 rfl; subst e1; clear S hI1; have S := S1; clear S1; simp only [List.set_cons_zero, List.set_cons_succ, List.nil_append] at S; have hc := S.cells; simp only [Cells, cellsC, Im, Row, El, RTH, TreeH, TR, AU, TreeSt, Nat.zero_add, Nat.reduceAdd] at hc) | (go_at_call 20; refine (new_c _).mono ?_; rintro e w1 ⟨b, rfl, hu⟩; obtain ⟨I1, S1, hI1⟩ := S.new (hu.any _); clear S hu hI1; (try clear hc); have S := S1; clear S1; have hc := S.cells; simp only [Cells, cellsC, Im, Row, El, RTH, TreeH, TR, AU, TreeSt, Nat.zero_add, Nat.reduceAdd] at hc) | (go_at_call 21; refine (rnew_c _).mono ?_; rintro e w1 ⟨v, rfl, hu⟩; obtain ⟨I1, S1, hI1⟩ := S.new (hu.any _); clear S hu hI1; (try clear hc); have S := S1; clear S1; have hc := S.cells; simp only [Cells, cellsC, Im, Row, El, RTH, TreeH, TR, AU, TreeSt, Nat.zero_add, Nat.reduceAdd] at hc; obtain ⟨A1, c1, A2, c2, rfl, hl1, hl2, hs1, hs2⟩ := S.rt 0 rfl; replace S := (S.know (h := Im kW A1 [[]]) hs1).know (h := Im kW A2 ([] : List (List Int))) hs2; clear hs1 hs2; have hc := S.cells; simp only [Cells, cellsC, Im, Row, El, RTH, TreeH, TR, AU, TreeSt, Nat.zero_add, Nat.reduceAdd] at hc))
  clear hc
  obtain ⟨gT, egT⟩ := S.name 0 rfl; rw [← egT] at S ⊢; clear egT
  have HO8 := smallT_len ls 8
  have HO5 := As.mk (fun x hx => (smallT_ne (ls := ls) (m := 8) x hx).2)
  have HON := As.mk (fun x hx => (smallT_ne (ls := ls) (m := 8) x hx).1)
  generalize hOWN : smallT ls 8 = own at S HO8 HO5 HON ⊢
  clear hOWN
  replace S := (S.sel [5, 0, 4, 7, 2, 1] (by decide) rfl (by simp) : SH _ _ _ [_, _, _, _, _, _] _ _)
  have hc := S.cells; simp only [Cells, cellsC, Im, Row, El, RTH, TreeH, TR, AU, TreeSt, Nat.zero_add, Nat.reduceAdd] at hc
  go_wp2_with (first | ((first | (with_reducible refine wpl_seal S ?_) | (with_reducible refine cw_seal S ?_) | (with_reducible refine bp_seal S ?_) | (with_reducible refine ca_seal S ?_)); clear S; (try clear hc); intro w1 S; (try simp only [List.set_cons_zero, List.set_cons_succ, List.nil_append] at S); have hc := S.cells; simp only [Cells, cellsC, Im, Row, El, RTH, TreeH, TR, AU, TreeSt, Nat.zero_add, Nat.reduceAdd] at hc))
  clear hc
  go_loopw [8] (fun i w' => ∃ (k : Nat) (l : List Nd) (ws : List Int) (L W : List (List Int)) (a1 : Option Addr) (d1 : Nat) (a2 : Option Addr) (d2 : Nat) (J : Fp), k ≤ own.length ∧ i = .int .i64 k ∧ As (St l ws L W) ∧ As (begT (own.take k) = (L, W)) ∧
      L.length ≤ d1 ∧ W.length ≤ d2 ∧ L.length ≤ 1 + 5 * k ∧ W.length ≤ k ∧ As (∀ x ∈ L, x.length ≤ 5) ∧
      As (SH No I w [Im kW Ao own, Cel gT 27 [.slice a1 L.length d1, .slice a2 W.length d2], TreeH b l ws, Im kP Ax xs, Im kW a1 L, Im kW a2 W] w' J)) (fun i _ => own.length - (intOf i).toNat)
  case atStart => exact ⟨0, _, _, [[]], [], A1, c1, A2, c2, I1, Nat.zero_le _, rfl, ⟨St.one⟩, ⟨rfl⟩, hl1, hl2, by simp, by simp, ⟨by simp⟩, ⟨S⟩⟩
  case round =>
    clear S
    obtain ⟨k, l, ws, L, W, a1, d1, a2, d2, J, hk, rfl, HSt, HB, hd1, hd2, hLk, hWk, HL5, ⟨S⟩⟩ := hrel
    have hc := S.cells; simp only [Cells, cellsC, Im, Row, El, RTH, TreeH, TR, AU, TreeSt, Nat.zero_add, Nat.reduceAdd] at hc
    by_cases hlt : k < own.length
    · have hlt' : decide ((k : Int) < own.length) = true := by simpa using hlt
      obtain ⟨ob, oo, A3, c3, rfl, hco, hc3, hs3⟩ := (S.im 0 rfl).sl_at hlt
      have h5 := HO5.out _ (List.getElem_mem hlt)
      have hlb : l.length ≤ 41 := by rw [HSt.out.tie.len]; omega
      have hwb : ws.length ≤ 8 := by rw [HSt.out.wlen]; omega
      replace S := S.know (h := Im kP A3 own[k]) hs3
      have hqx := hco
      clear hs3
      have he : own[k] ≠ [] := HON.out _ (List.getElem_mem hlt)
      have HE : As (begT (own.take (k + 1)) = (putL L own[k] own[k].length, W ++ [own[k]])) := ⟨by rw [begT_succ hlt, HB.out, stepB, if_neg he]⟩
      have HNE := As.mk he
      have hpl := putL_len L own[k] own[k].length
      have HP5 := As.mk (putL_mem HL5.out h5 own[k].length)
      have HLs : As (ShortW L) := ⟨fun x hx => by have := HL5.out x hx; omega⟩
      clear he
      go_wp2_with (first | ((first | (with_reducible refine wpl_seal S ?_) | (with_reducible refine cw_seal S ?_) | (with_reducible refine bp_seal S ?_) | (with_reducible refine ca_seal S ?_)); clear S; (try clear hc); intro w1 S; (try simp only [List.set_cons_zero, List.set_cons_succ, List.nil_append] at S); have hc := S.cells; simp only [Cells, cellsC, Im, Row, El, RTH, TreeH, TR, AU, TreeSt, Nat.zero_add, Nat.reduceAdd] at hc) | (go_at_call 22; refine (put_s S 3 rfl HSt.out (S.im 0 rfl) hc3 (by omega) (by omega) (by omega) HNE.out).mono ?_; clear hc hqx; rintro e w1 ⟨l5, ws5, J5, rfl, S5, hs5, hl5⟩; have HS5 := As.mk hs5; clear S hs5; have S := S5; clear S5; simp only [List.set_cons_zero, List.set_cons_succ, List.nil_append] at S; obtain ⟨ob6, oo6, A6, c6, e6, hqx, hc6, hs6⟩ := (S.im 1 rfl).sl_at hlt; cases e6; replace S := S.know (h := Im kP A6 own[k]) hs6; clear hs6; have hc := S.cells; simp only [Cells, cellsC, Im, Row, El, RTH, TreeH, TR, AU, TreeSt, Nat.zero_add, Nat.reduceAdd] at hc))
      have hq := S.cellsE; simp only [CellsE, cellsE, Im, Row, El, RTH, TreeH, TR, AU, TreeSt, Nat.zero_add, Nat.reduceAdd] at hq
      have hqy := ClE.cell (w := w1.drew) hqx
      refine wp_region_ext [⟨[0, 1, 2, 3, 4], [], 5, false⟩, ⟨[], [], 6, false⟩] [] (by kernel_rfl) (by kernel_rfl) ?_
      refine mix_cons rfl rfl rfl ?_
      simp only [opsAt, List.getD_cons_succ, List.getD_cons_zero]
      repeat (go_big_quiet_step ((intro hC; first | rfl | (go_simp; first | done | rfl))))
      refine wpQuiet_nil ?_
      repeat (go_big_quiet_step ((intro hC; first | rfl | (go_simp; first | done | rfl))))
      refine wpQuiet_nil ?_
      clear hq hqy hqx hc
      replace S := S.drew
      have hc := S.cells; simp only [Cells, cellsC, Im, Row, El, RTH, TreeH, TR, AU, TreeSt, Nat.zero_add, Nat.reduceAdd] at hc
      go_wp2_with (first | ((first | (with_reducible refine mx_seal S ?_) | (with_reducible refine wpl_seal S ?_) | (with_reducible refine ca_seal S ?_)); clear S; (try clear hc); intro w1 S; (try simp only [List.set_cons_zero, List.set_cons_succ, List.nil_append] at S); have hc := S.cells; simp only [Cells, cellsC, Im, Row, El, RTH, TreeH, TR, AU, TreeSt, Nat.zero_add, Nat.reduceAdd] at hc) | (go_at_call 23; refine (rput_c L W own[k] _ A6 c6 _ J5 S.bd ⟨a1, d1, a2, d2, rfl, hd1, hd2, S.im 6 rfl, S.im 7 rfl⟩ (S.im 0 rfl) hc6 (by omega) (by omega) HLs.out).mono ?_; rintro e w1 ⟨v, rfl, hu⟩; obtain ⟨I1, S1, hI1⟩ := S.new hu; clear S hu hI1; (try clear hc); have S := S1; clear S1; have hc := S.cells; simp only [Cells, cellsC, Im, Row, El, RTH, TreeH, TR, AU, TreeSt, Nat.zero_add, Nat.reduceAdd] at hc; obtain ⟨a5, d5, a6, d6, rfl, hd5, hd6, hs5, hs6⟩ := S.rt 0 rfl; replace S := (S.know (h := Im kW a6 _) hs6).know (h := Im kW a5 _) hs5; clear hc hs5 hs6; have hc := S.cells; simp only [Cells, cellsC, Im, Row, El, RTH, TreeH, TR, AU, TreeSt, Nat.zero_add, Nat.reduceAdd] at hc))
      (first | refine ⟨(fun h => by cases h), ?_⟩ | skip); (first | ((first | (with_reducible refine mx_seal S ?_)); clear S; (try clear hc); intro w1 S; (try simp only [List.set_cons_zero, List.set_cons_succ, List.nil_append] at S); have hc := S.cells; simp only [Cells, cellsC, Im, Row, El, RTH, TreeH, TR, AU, TreeSt, Nat.zero_add, Nat.reduceAdd] at hc) | skip); (try simp only [Act.put, List.setIfInBounds_toArray, List.set_cons_succ, List.set_cons_zero])
      refine mix_cons rfl rfl rfl ?_
      simp only [opsAt, List.getD_cons_succ, List.getD_cons_zero]
      repeat (go_big_quiet_step ((intro hC; first | rfl | (go_simp; first | done | rfl))))
      refine wpQuiet_nil ?_
      repeat (go_big_quiet_step ((intro hC; first | rfl | (go_simp; first | done | rfl))))
      refine wpQuiet_nil ?_
      go_wp2_with (first | ((first | (with_reducible refine mx_seal S ?_) | (with_reducible refine wpl_seal S ?_) | (with_reducible refine ca_seal S ?_)); clear S; (try clear hc); intro w1 S; (try simp only [List.set_cons_zero, List.set_cons_succ, List.nil_append] at S); have hc := S.cells; simp only [Cells, cellsC, Im, Row, El, RTH, TreeH, TR, AU, TreeSt, Nat.zero_add, Nat.reduceAdd] at hc))
      (first | refine ⟨(fun h => by cases h), ?_⟩ | skip); (first | ((first | (with_reducible refine mx_seal S ?_)); clear S; (try clear hc); intro w1 S; (try simp only [List.set_cons_zero, List.set_cons_succ, List.nil_append] at S); have hc := S.cells; simp only [Cells, cellsC, Im, Row, El, RTH, TreeH, TR, AU, TreeSt, Nat.zero_add, Nat.reduceAdd] at hc) | skip); (try simp only [Act.put, List.setIfInBounds_toArray, List.set_cons_succ, List.set_cons_zero])
      refine mix_done ?_
      simp only [calmQ]
      go_wp2_with (first | ((first | (with_reducible refine wpl_seal S ?_) | (with_reducible refine cw_seal S ?_) | (with_reducible refine bp_seal S ?_) | (with_reducible refine ca_seal S ?_)); clear S; (try clear hc); intro w1 S; (try simp only [List.set_cons_zero, List.set_cons_succ, List.nil_append] at S); have hc := S.cells; simp only [Cells, cellsC, Im, Row, El, RTH, TreeH, TR, AU, TreeSt, Nat.zero_add, Nat.reduceAdd] at hc))
      go_roundw
      case rel =>
        have S1 := (S.sel [5, 6, 7, 8, 0, 1] (by decide) rfl (by simp) : SH _ _ _ [_, _, _, _, _, _] _ _)
        refine ⟨k + 1, l5, ws5, putL L own[k] own[k].length, W ++ [own[k]], a5, d5, a6, d6, _, by omega, by go_num, HS5, HE, hd5, hd6, by omega, by simp; omega, HP5, ⟨by simpa only [List.length_append, List.length_cons, List.length_nil, Nat.zero_add, List.nil_append] using S1⟩⟩
      case measure => simp [intOf]; omega
    · have hlt' : decide ((k : Int) < own.length) = false := by simpa using hlt
      have hke : own.take k = own := List.take_of_length_le (by omega)
      have HKE : As (begT own = (L, W)) := ⟨by rw [← hke]; exact HB.out⟩
      clear hke

      have HNE2 : As (NeW W) := ⟨fun q hq => by rw [pa_eq hq]; exact (begT_ne2 HKE.out _ (List.getElem_mem hq)).1⟩
      have HLs : As (ShortW L) := ⟨fun x hx => by have := HL5.out x hx; omega⟩
      have HL9 : As (∀ x ∈ L, x.length ≤ 100000) := ⟨fun x hx => by have := HL5.out x hx; omega⟩
      have HWs : As (ShortW W) := ⟨fun x hx => by have := HO5.out _ (begT_ne2 HKE.out _ hx).2; omega⟩
      have hLw : l.length = L.length := HSt.out.tie.len
      have hWw : ws.length = W.length := HSt.out.wlen
      replace S := S.toTR 2 rfl HSt.out
      simp only [List.set_cons_zero, List.set_cons_succ, List.nil_append] at S
      go_upto_if 40 with (first | ((first | (with_reducible refine wpl_seal S ?_) | (with_reducible refine cw_seal S ?_) | (with_reducible refine bp_seal S ?_) | (with_reducible refine ca_seal S ?_)); clear S; (try clear hc); intro w1 S; (try simp only [List.set_cons_zero, List.set_cons_succ, List.nil_append] at S); have hc := S.cells; simp only [Cells, cellsC, Im, Row, El, RTH, TreeH, TR, AU, TreeSt, Nat.zero_add, Nat.reduceAdd] at hc) | (go_at_call 24; refine (anew_r S 2 rfl (by omega) (by omega) HNE2.out 5 HL5.out (by omega)).mono ?_; rintro e w2 ⟨a, J2, rfl, S2⟩; clear S hc; have S := S2; clear S2; have hc := S.cells; simp only [Cells, cellsC, Im, Row, El, RTH, TreeH, TR, AU, TreeSt, Nat.zero_add, Nat.reduceAdd] at hc))
      have HG := As.mk (S.auG 0 rfl).1
      have HNE : As (∀ i, 0 < i → i < L.length → pa L i ≠ []) := ⟨fun i hi hl => HG.out.ne hi hl⟩
      obtain ⟨⟨l2, ws2⟩, S1⟩ := S.pick (h' := fun x : List Nd × List Int => TreeSt b x.1 x.2 L W) 3 rfl (fun F ⟨l, ws, h, s⟩ => ⟨(l, ws), h, s⟩)
      clear S
      have S := S1
      clear S1
      simp only [List.set_cons_zero, List.set_cons_succ, List.nil_append] at S
      obtain ⟨_, ⟨_, hst2⟩, _⟩ := S.get 3 rfl
      have HST2 := As.mk hst2
      have hl2 : l2.length = L.length := hst2.tie.len
      have hws2 : ws2.length = W.length := hst2.wlen
      clear hst2
      replace S := S.ofSt 3 rfl
      simp only [List.set_cons_zero, List.set_cons_succ, List.nil_append] at S
      have hc := S.cells; simp only [Cells, cellsC, Im, Row, El, RTH, TreeH, TR, AU, TreeSt, Nat.zero_add, Nat.reduceAdd] at hc
      have HLN : As (∀ w' I', SH No I w [AU a L W, Im kW Ao own, Cel gT 27 [.slice a1 L.length d1, .slice a2 W.length d2], TreeH b l2 ws2, Im kP Ax xs, Im kW a1 L, Im kW a2 W] w' I' → Calls Try.prog 25 #[.pointer (some ⟨b, 0, none⟩)] w' fun e w'' => e = .returned (.int .i64 L.length) ∧ w' = w'') := ⟨fun w' I' S' => by rw [← hl2]; exact len_c l2 ws2 b w' _ (S'.tree 3 rfl)⟩
      have HPT : As (∀ w' I', SH No I w [AU a L W, Im kW Ao own, Cel gT 27 [.slice a1 L.length d1, .slice a2 W.length d2], TreeH b l2 ws2, Im kP Ax xs, Im kW a1 L, Im kW a2 W] w' I' → Calls Try.prog 22 #[.pointer (some ⟨b, 0, none⟩), .slice Ax (min (xs.length : Int) 5).toNat cx] w' fun e w'' => ∃ v I'', e = .returned v ∧ SH No I w [Cel gT 27 [.slice a1 L.length d1, .slice a2 W.length d2], Im kW a1 L, Im kW a2 W, AU a L W] w'' I'') := ⟨fun w' I' S' => by
        have e5 : (min (xs.length : Int) 5).toNat = (xs.take 5).length := by rw [List.length_take]; omega
        rw [e5]
        have e6 : (xs.take 5).length ≤ 5 := by rw [List.length_take]; omega
        have e7 : (xs.take 5).length ≤ cx := by rw [List.length_take]; omega
        by_cases hn : xs.take 5 = []
        · rw [hn]
          refine (put_none S' 3 rfl HST2.out (by omega) (by omega)).mono ?_
          rintro e w'' ⟨rfl, hx⟩
          exact ⟨_, I', rfl, (S'.ext hx).sel [2, 5, 6, 0] (by decide) rfl (by simp)⟩
        · refine (put_s S' 3 rfl HST2.out ((S'.im 4 rfl).take 5) e7 (by omega) (by omega) (by omega) hn).mono ?_
          rintro e w'' ⟨l5, ws5, J5, rfl, S5, -, -⟩
          exact ⟨_, J5, rfl, S5.sel [2, 5, 6, 0] (by decide) rfl (by simp)⟩⟩
      by_cases h5 : xs.length ≤ 5
      all_goals
        first | (have h5' : (xs.length : Int) ≤ 5 := by omega) | (have h5' : 5 < (xs.length : Int) := by omega)
        go_wp2_with (first | ((first | (with_reducible refine wpl_seal S ?_) | (with_reducible refine cw_seal S ?_) | (with_reducible refine bp_seal S ?_) | (with_reducible refine ca_seal S ?_)); clear S; (try clear hc); intro w1 S; (try simp only [List.set_cons_zero, List.set_cons_succ, List.nil_append] at S); have hc := S.cells; simp only [Cells, cellsC, Im, Row, El, RTH, TreeH, TR, AU, TreeSt, Nat.zero_add, Nat.reduceAdd] at hc) | (go_at_call 25; refine (HLN.out _ _ S).mono ?_; rintro e w1 ⟨rfl, rfl⟩) | (go_at_call 22; refine (HPT.out _ _ S).mono ?_; rintro e w3 ⟨v, I3, rfl, S3⟩; clear S hc; have S := S3; clear S3; have hc := S.cells; simp only [Cells, cellsC, Im, Row, El, RTH, TreeH, TR, AU, TreeSt, Nat.zero_add, Nat.reduceAdd] at hc))
        have S1 := S
        clear S hc
        go_loopw [11] (fun i w' => ∃ (z : Nat), i = .int .i64 z ∧ z ≤ L.length ∧ ∃ I', As (SH No I w [Cel gT 27 [.slice a1 L.length d1, .slice a2 W.length d2], Im kW a1 L, Im kW a2 W, AU a L W] w' I')) (fun i _ => L.length - (intOf i).toNat)
        case atStart => exact ⟨0, rfl, by omega, _, ⟨S1⟩⟩
        case round =>
          clear S1
          obtain ⟨z, rfl, hzl, I', ⟨S⟩⟩ := hrel
          have hc := S.cells; simp only [Cells, cellsC, Im, Row, El, RTH, TreeH, TR, AU, TreeSt, Nat.zero_add, Nat.reduceAdd] at hc
          by_cases hz : z < L.length
          · have hz' : decide ((z : Int) < (L.length : Int)) = true := by simpa using hz
            obtain ⟨ES, hES⟩ : ∃ ES, endsR L W z = ES := ⟨_, rfl⟩
            have hel : ES.length ≤ 1000000 := by rw [← hES]; have := endsR_len (L := L) (W := W) (z := z); omega
            have HES := As.mk hES
            clear hES
            have hq := S.cellsE; simp only [CellsE, cellsE, Im, Row, El, RTH, TreeH, TR, AU, TreeSt, Nat.zero_add, Nat.reduceAdd] at hq
            go_wp2_with (first | ((first | (with_reducible refine wpl_seal S ?_) | (with_reducible refine cw_seal S ?_) | (with_reducible refine bp_seal S ?_) | (with_reducible refine ca_seal S ?_)); clear S; (try clear hc); intro w1 S; (try simp only [List.set_cons_zero, List.set_cons_succ, List.nil_append] at S); have hc := S.cells; simp only [Cells, cellsC, Im, Row, El, RTH, TreeH, TR, AU, TreeSt, Nat.zero_add, Nat.reduceAdd] at hc))
            refine wp_region_ext [⟨[0, 1, 3], [4], 2, true⟩, ⟨[], [], 5, false⟩, ⟨[6, 7, 8, 9, 11], [12], 10, true⟩, ⟨[], [], 13, false⟩, ⟨[], [], 14, false⟩] [15, 16] (by kernel_rfl) (by kernel_rfl) ?_
            refine mix_cons rfl rfl rfl ?_
            simp only [opsAt, List.getD_cons_succ, List.getD_cons_zero]
            repeat (go_big_quiet_step ((intro hC; first | rfl | (go_simp; first | done | rfl))))
            refine wpQuiet_nil ?_
            repeat (go_big_quiet_step ((intro hC; first | rfl | (go_simp; first | done | rfl))))
            refine wpQuiet_nil ?_
            clear hq hc
            replace S := S.drew
            generalize wr.drew = w1 at S ⊢
            have hc := S.cells; simp only [Cells, cellsC, Im, Row, El, RTH, TreeH, TR, AU, TreeSt, Nat.zero_add, Nat.reduceAdd] at hc
            go_wp2_with (first | ((first | (with_reducible refine mx_seal S ?_) | (with_reducible refine wpl_seal S ?_) | (with_reducible refine ca_seal S ?_)); clear S; (try clear hc); intro w1 S; (try simp only [List.set_cons_zero, List.set_cons_succ, List.nil_append] at S); have hc := S.cells; simp only [Cells, cellsC, Im, Row, El, RTH, TreeH, TR, AU, TreeSt, Nat.zero_add, Nat.reduceAdd] at hc) | (go_at_call 26; refine (fall_r S 3 rfl z).mono ?_; rintro e w1 ⟨rfl, rfl⟩))
            refine ⟨fun _ => Ext.refl _, ?_⟩
            refine mix_cons rfl rfl rfl ?_
            simp only [opsAt, List.getD_cons_succ, List.getD_cons_zero]
            repeat (go_big_quiet_step ((intro hC; first | rfl | (go_simp; first | done | rfl))))
            refine wpQuiet_nil ?_
            repeat (go_big_quiet_step ((intro hC; first | rfl | (go_simp; first | done | rfl))))
            refine wpQuiet_nil ?_
            go_wp2_with (first | ((first | (with_reducible refine mx_seal S ?_) | (with_reducible refine wpl_seal S ?_) | (with_reducible refine ca_seal S ?_)); clear S; (try clear hc); intro w1 S; (try simp only [List.set_cons_zero, List.set_cons_succ, List.nil_append] at S); have hc := S.cells; simp only [Cells, cellsC, Im, Row, El, RTH, TreeH, TR, AU, TreeSt, Nat.zero_add, Nat.reduceAdd] at hc) | (go_at_call 27; refine (xfall_c L W z _ _ _ S.bd ⟨a1, d1, a2, d2, rfl, hd1, hd2, S.im 1 rfl, S.im 2 rfl⟩ (by omega) HLs.out HNE.out).mono ?_; rintro e w1 ⟨rfl, hx⟩; replace S := S.ext hx; clear hx; (try clear hc); have hc := S.cells; simp only [Cells, cellsC, Im, Row, El, RTH, TreeH, TR, AU, TreeSt, Nat.zero_add, Nat.reduceAdd] at hc))
            (first | refine ⟨(fun h => by cases h), ?_⟩ | skip); (first | ((first | (with_reducible refine mx_seal S ?_)); clear S; (try clear hc); intro w1 S; (try simp only [List.set_cons_zero, List.set_cons_succ, List.nil_append] at S); have hc := S.cells; simp only [Cells, cellsC, Im, Row, El, RTH, TreeH, TR, AU, TreeSt, Nat.zero_add, Nat.reduceAdd] at hc) | skip); (try simp only [Act.put, List.setIfInBounds_toArray, List.set_cons_succ, List.set_cons_zero])
            have hq := CellsE_of S.cells; simp only [CellsE, cellsE, Im, Row, El, RTH, TreeH, TR, AU, TreeSt, Nat.zero_add, Nat.reduceAdd] at hq
            refine mix_cons rfl rfl rfl ?_
            simp only [opsAt, List.getD_cons_succ, List.getD_cons_zero]
            repeat (go_big_quiet_step ((intro hC; first | rfl | (go_simp; first | done | rfl))))
            refine wpQuiet_nil ?_
            repeat (go_big_quiet_step ((intro hC; first | rfl | (go_simp; first | done | rfl))))
            refine wpQuiet_nil ?_
            clear hq
            go_wp2_with (first | ((first | (with_reducible refine mx_seal S ?_) | (with_reducible refine wpl_seal S ?_) | (with_reducible refine ca_seal S ?_)); clear S; (try clear hc); intro w1 S; (try simp only [List.set_cons_zero, List.set_cons_succ, List.nil_append] at S); have hc := S.cells; simp only [Cells, cellsC, Im, Row, El, RTH, TreeH, TR, AU, TreeSt, Nat.zero_add, Nat.reduceAdd] at hc) | (go_at_call 16; refine (ends_r S 3 rfl (by omega) z).mono ?_; rw [HES.out]; rintro e w1 ⟨v, rfl, hu⟩; have hxe := hu.ext; obtain ⟨I1, S1, hI1⟩ := S.new hu; clear S hu hI1; (try clear hc); have S := S1; clear S1; have hc := S.cells; simp only [Cells, cellsC, Im, Row, El, RTH, TreeH, TR, AU, TreeSt, Nat.zero_add, Nat.reduceAdd] at hc; obtain ⟨A6, c6, I1, e1, hc6, S1, hI1⟩ := S.frow 0 rfl; subst e1; clear S hI1; have S := S1; clear S1; simp only [List.set_cons_zero, List.set_cons_succ, List.nil_append] at S; have hc := S.cells; simp only [Cells, cellsC, Im, Row, El, RTH, TreeH, TR, AU, TreeSt, Nat.zero_add, Nat.reduceAdd] at hc))
            refine ⟨fun _ => hxe, ?_⟩
            clear hxe
            refine mix_cons rfl rfl rfl ?_
            simp only [opsAt, List.getD_cons_succ, List.getD_cons_zero]
            repeat (go_big_quiet_step ((intro hC; first | rfl | (go_simp; first | done | rfl))))
            refine wpQuiet_nil ?_
            repeat (go_big_quiet_step ((intro hC; first | rfl | (go_simp; first | done | rfl))))
            refine wpQuiet_nil ?_
            go_wp2_with (first | ((first | (with_reducible refine mx_seal S ?_) | (with_reducible refine wpl_seal S ?_) | (with_reducible refine ca_seal S ?_)); clear S; (try clear hc); intro w1 S; (try simp only [List.set_cons_zero, List.set_cons_succ, List.nil_append] at S); have hc := S.cells; simp only [Cells, cellsC, Im, Row, El, RTH, TreeH, TR, AU, TreeSt, Nat.zero_add, Nat.reduceAdd] at hc) | (go_at_call 29; refine (xends_c L W z _ _ _ S.bd ⟨a1, d1, a2, d2, rfl, hd1, hd2, S.im 2 rfl, S.im 3 rfl⟩ (by omega) (by omega) HLs.out HWs.out).mono ?_; rw [HES.out]; rintro e w1 ⟨v, rfl, hu⟩; obtain ⟨I1, S1, hI1⟩ := S.new hu; clear S hu hI1; (try clear hc); have S := S1; clear S1; have hc := S.cells; simp only [Cells, cellsC, Im, Row, El, RTH, TreeH, TR, AU, TreeSt, Nat.zero_add, Nat.reduceAdd] at hc; obtain ⟨A5, c5, I1, e1, hc5, S1, hI1⟩ := S.frow 0 rfl; subst e1; clear S hI1; have S := S1; clear S1; simp only [List.set_cons_zero, List.set_cons_succ, List.nil_append] at S; have hc := S.cells; simp only [Cells, cellsC, Im, Row, El, RTH, TreeH, TR, AU, TreeSt, Nat.zero_add, Nat.reduceAdd] at hc))
            (first | refine ⟨(fun h => by cases h), ?_⟩ | skip); (first | ((first | (with_reducible refine mx_seal S ?_)); clear S; (try clear hc); intro w1 S; (try simp only [List.set_cons_zero, List.set_cons_succ, List.nil_append] at S); have hc := S.cells; simp only [Cells, cellsC, Im, Row, El, RTH, TreeH, TR, AU, TreeSt, Nat.zero_add, Nat.reduceAdd] at hc) | skip); (try simp only [Act.put, List.setIfInBounds_toArray, List.set_cons_succ, List.set_cons_zero])
            refine mix_cons rfl rfl rfl ?_
            simp only [opsAt, List.getD_cons_succ, List.getD_cons_zero]
            repeat (go_big_quiet_step ((intro hC; first | rfl | (go_simp; first | done | rfl))))
            refine wpQuiet_nil ?_
            repeat (go_big_quiet_step ((intro hC; first | rfl | (go_simp; first | done | rfl))))
            refine wpQuiet_nil ?_
            go_wp2_with (first | ((first | (with_reducible refine mx_seal S ?_) | (with_reducible refine wpl_seal S ?_) | (with_reducible refine ca_seal S ?_)); clear S; (try clear hc); intro w1 S; (try simp only [List.set_cons_zero, List.set_cons_succ, List.nil_append] at S); have hc := S.cells; simp only [Cells, cellsC, Im, Row, El, RTH, TreeH, TR, AU, TreeSt, Nat.zero_add, Nat.reduceAdd] at hc) | (go_at_call 28; refine (sameI_e ES A6 A5 c6 c5 _ _ _ (S.im 1 rfl) (S.im 0 rfl) hel).mono ?_; rintro e w1 ⟨rfl, hx⟩; have hx := hx.ext; replace S := S.ext hx; clear hx; (try clear hc); have hc := S.cells; simp only [Cells, cellsC, Im, Row, El, RTH, TreeH, TR, AU, TreeSt, Nat.zero_add, Nat.reduceAdd] at hc))
            (first | refine ⟨(fun h => by cases h), ?_⟩ | skip); (first | ((first | (with_reducible refine mx_seal S ?_)); clear S; (try clear hc); intro w1 S; (try simp only [List.set_cons_zero, List.set_cons_succ, List.nil_append] at S); have hc := S.cells; simp only [Cells, cellsC, Im, Row, El, RTH, TreeH, TR, AU, TreeSt, Nat.zero_add, Nat.reduceAdd] at hc) | skip); (try simp only [Act.put, List.setIfInBounds_toArray, List.set_cons_succ, List.set_cons_zero])
            refine mix_last rfl ?_
            simp only [opsAt, List.getD_cons_succ, List.getD_cons_zero]
            repeat (go_big_quiet_step ((intro hC; first | rfl | (go_simp; first | done | rfl))))
            refine wpQuiet_nil ?_
            simp only [calmQ]
            have hc := S.cells; simp only [Cells, cellsC, Im, Row, El, RTH, TreeH, TR, AU, TreeSt, Nat.zero_add, Nat.reduceAdd] at hc
            go_wp2_with (first | ((first | (with_reducible refine wpl_seal S ?_) | (with_reducible refine cw_seal S ?_) | (with_reducible refine bp_seal S ?_) | (with_reducible refine ca_seal S ?_)); clear S; (try clear hc); intro w1 S; (try simp only [List.set_cons_zero, List.set_cons_succ, List.nil_append] at S); have hc := S.cells; simp only [Cells, cellsC, Im, Row, El, RTH, TreeH, TR, AU, TreeSt, Nat.zero_add, Nat.reduceAdd] at hc))
            replace S := (S.sel [2, 3, 4, 5] (by decide) rfl (by simp) : SH _ _ _ [_, _, _, _] _ _)
            have S1 := S
            clear S hc
            go_loopw [12] (fun i w' => ∃ (q : Nat), i = .int .u64 q ∧ q ≤ 3 ∧ ∃ I', As (SH No I w [Cel gT 27 [.slice a1 L.length d1, .slice a2 W.length d2], Im kW a1 L, Im kW a2 W, AU a L W] w' I')) (fun i _ => 3 - (intOf i).toNat)
            case atStart => exact ⟨0, rfl, by omega, _, ⟨S1⟩⟩
            case round =>
              clear S1
              obtain ⟨q, rfl, hq4, I', ⟨S⟩⟩ := hrel
              have hc := S.cells; simp only [Cells, cellsC, Im, Row, El, RTH, TreeH, TR, AU, TreeSt, Nat.zero_add, Nat.reduceAdd] at hc
              by_cases hql : q < 3
              · have hql' : decide ((q : Int) < 3) = true := by simp; omega
                go_wp2_with (first | ((first | (with_reducible refine wpl_seal S ?_) | (with_reducible refine cw_seal S ?_) | (with_reducible refine bp_seal S ?_) | (with_reducible refine ca_seal S ?_)); clear S; (try clear hc); intro w1 S; (try simp only [List.set_cons_zero, List.set_cons_succ, List.nil_append] at S); have hc := S.cells; simp only [Cells, cellsC, Im, Row, El, RTH, TreeH, TR, AU, TreeSt, Nat.zero_add, Nat.reduceAdd] at hc))
                have hq := S.cellsE; simp only [CellsE, cellsE, Im, Row, El, RTH, TreeH, TR, AU, TreeSt, Nat.zero_add, Nat.reduceAdd] at hq
                refine wp_region_ext [⟨[0, 1, 2, 4], [5, 6], 3, true⟩, ⟨[], [], 7, false⟩] [8] (by kernel_rfl) (by kernel_rfl) ?_
                refine mix_cons rfl rfl rfl ?_
                simp only [opsAt, List.getD_cons_succ, List.getD_cons_zero]
                repeat (go_big_quiet_step ((intro hC; first | rfl | (go_simp; first | done | rfl))))
                refine wpQuiet_nil ?_
                repeat (go_big_quiet_step ((intro hC; first | rfl | (go_simp; first | done | rfl))))
                refine wpQuiet_nil ?_
                clear hq hc
                replace S := S.drew
                generalize wr.drew = w1 at S ⊢
                have hc := S.cells; simp only [Cells, cellsC, Im, Row, El, RTH, TreeH, TR, AU, TreeSt, Nat.zero_add, Nat.reduceAdd] at hc
                go_wp2_with (first | ((first | (with_reducible refine mx_seal S ?_) | (with_reducible refine wpl_seal S ?_) | (with_reducible refine ca_seal S ?_)); clear S; (try clear hc); intro w1 S; (try simp only [List.set_cons_zero, List.set_cons_succ, List.nil_append] at S); have hc := S.cells; simp only [Cells, cellsC, Im, Row, El, RTH, TreeH, TR, AU, TreeSt, Nat.zero_add, Nat.reduceAdd] at hc) | (go_at_call 10; refine (next_r S 3 rfl (by omega) z q).mono ?_; rintro e w1 ⟨rfl, hx⟩; have hxe := hx; replace S := S.ext hx; clear hx; (try clear hc); have hc := S.cells; simp only [Cells, cellsC, Im, Row, El, RTH, TreeH, TR, AU, TreeSt, Nat.zero_add, Nat.reduceAdd] at hc))
                refine ⟨fun _ => hxe, ?_⟩
                clear hxe
                refine mix_cons rfl rfl rfl ?_
                simp only [opsAt, List.getD_cons_succ, List.getD_cons_zero]
                repeat (go_big_quiet_step ((intro hC; first | rfl | (go_simp; first | done | rfl))))
                refine wpQuiet_nil ?_
                repeat (go_big_quiet_step ((intro hC; first | rfl | (go_simp; first | done | rfl))))
                refine wpQuiet_nil ?_
                go_wp2_with (first | ((first | (with_reducible refine mx_seal S ?_) | (with_reducible refine wpl_seal S ?_) | (with_reducible refine ca_seal S ?_)); clear S; (try clear hc); intro w1 S; (try simp only [List.set_cons_zero, List.set_cons_succ, List.nil_append] at S); have hc := S.cells; simp only [Cells, cellsC, Im, Row, El, RTH, TreeH, TR, AU, TreeSt, Nat.zero_add, Nat.reduceAdd] at hc) | (go_at_call 11; refine (xnext_c L W z q _ _ _ S.bd ⟨a1, d1, a2, d2, rfl, hd1, hd2, S.im 1 rfl, S.im 2 rfl⟩ (by omega) HL9.out).mono ?_; rintro e w1 ⟨rfl, hx⟩; replace S := S.ext hx; clear hx; (try clear hc); have hc := S.cells; simp only [Cells, cellsC, Im, Row, El, RTH, TreeH, TR, AU, TreeSt, Nat.zero_add, Nat.reduceAdd] at hc))
                (first | refine ⟨(fun h => by cases h), ?_⟩ | skip); (first | ((first | (with_reducible refine mx_seal S ?_)); clear S; (try clear hc); intro w1 S; (try simp only [List.set_cons_zero, List.set_cons_succ, List.nil_append] at S); have hc := S.cells; simp only [Cells, cellsC, Im, Row, El, RTH, TreeH, TR, AU, TreeSt, Nat.zero_add, Nat.reduceAdd] at hc) | skip); (try simp only [Act.put, List.setIfInBounds_toArray, List.set_cons_succ, List.set_cons_zero])
                refine mix_last rfl ?_
                simp only [opsAt, List.getD_cons_succ, List.getD_cons_zero]
                repeat (go_big_quiet_step ((intro hC; first | rfl | (go_simp; first | done | rfl))))
                refine wpQuiet_nil ?_
                simp only [calmQ]
                have hc := S.cells; simp only [Cells, cellsC, Im, Row, El, RTH, TreeH, TR, AU, TreeSt, Nat.zero_add, Nat.reduceAdd] at hc
                go_wp2_with (first | ((first | (with_reducible refine wpl_seal S ?_) | (with_reducible refine cw_seal S ?_) | (with_reducible refine bp_seal S ?_) | (with_reducible refine ca_seal S ?_)); clear S; (try clear hc); intro w1 S; (try simp only [List.set_cons_zero, List.set_cons_succ, List.nil_append] at S); have hc := S.cells; simp only [Cells, cellsC, Im, Row, El, RTH, TreeH, TR, AU, TreeSt, Nat.zero_add, Nat.reduceAdd] at hc))
                go_roundw
                case rel => exact ⟨q + 1, by go_num, by omega, _, ⟨by first | exact S | trivial⟩⟩
                case measure => simp [intOf] <;> omega
              · have hql' : decide ((q : Int) < 3) = false := by simp; omega
                go_wp2_with (first | ((first | (with_reducible refine wpl_seal S ?_) | (with_reducible refine cw_seal S ?_) | (with_reducible refine bp_seal S ?_) | (with_reducible refine ca_seal S ?_)); clear S; (try clear hc); intro w1 S; (try simp only [List.set_cons_zero, List.set_cons_succ, List.nil_append] at S); have hc := S.cells; simp only [Cells, cellsC, Im, Row, El, RTH, TreeH, TR, AU, TreeSt, Nat.zero_add, Nat.reduceAdd] at hc))
                go_roundw
                case rel => exact ⟨z + 1, by go_num, by omega, _, ⟨by first | exact S | trivial⟩⟩
                case measure => simp [intOf] <;> omega
          · have hz' : decide ((z : Int) < (L.length : Int)) = false := by simpa using hz
            go_wp2_with (first | ((first | (with_reducible refine wpl_seal S ?_) | (with_reducible refine cw_seal S ?_) | (with_reducible refine bp_seal S ?_) | (with_reducible refine ca_seal S ?_)); clear S; (try clear hc); intro w1 S; (try simp only [List.set_cons_zero, List.set_cons_succ, List.nil_append] at S); have hc := S.cells; simp only [Cells, cellsC, Im, Row, El, RTH, TreeH, TR, AU, TreeSt, Nat.zero_add, Nat.reduceAdd] at hc) | (go_at_call 30; refine (alen_r S 3 rfl).mono ?_; rintro e w1 ⟨rfl, rfl⟩) | (go_at_call 12; refine (lives13_c _ _ S.bd).mono ?_; rintro e w1 ⟨rfl, hx⟩; replace S := S.ext hx; clear hx; (try clear hc); have hc := S.cells; simp only [Cells, cellsC, Im, Row, El, RTH, TreeH, TR, AU, TreeSt, Nat.zero_add, Nat.reduceAdd] at hc))
            go_ret
            exact ⟨rfl, S.out⟩

end Go.Proofs.Ytiemglijfdaliaa
