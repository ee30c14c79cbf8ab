/- A line's record: the program's; the pieces first. -/
import Derived.Test.YteaekpnmiicbhaaDoorPLin
import Derived.Test.YteaekpnmiicbhaaDoorPRead
namespace Go.Proofs.YteaekpnmiicbhaaDoor
open Go.RowKit X
set_option maxHeartbeats 2000000
set_option maxRecDepth 8000
set_option linter.unusedSimpArgs false
set_option linter.unusedVariables false
/-- one cell, which nobody changes -/
def CF (b j : Nat) (v : Value) : Ob := .of {
  sat := fun w _ I => w.cell? ⟨b, j, none⟩ = some v ∧ I b
  keep := fun ⟨h, f⟩ hk => ⟨(World.cell?_of_block (hk b (World.block_lt_of_cell? _ _ h) (.inr f))).trans h, f⟩
  weak := fun ⟨h, f⟩ _ hi _ => ⟨h, hi _ (World.block_lt_of_cell? _ _ h) f⟩ }
theorem X.SH.cf {F0 I0 I : Fp} {w0 w : World} {O : List Ob} {b j : Nat} {v : Value} (s : SH F0 I0 w0 O w I) (i : Nat) (e : O[i]? = some (CF b j v)) : w.cell? ⟨b, j, none⟩ = some v := by
  obtain ⟨F, h, _⟩ := s.get i e
  exact h.1
theorem flat_str {w : World} {D : Fp} (xs : List (List UInt8)) : Flat kT w D xs (xs.map strV) := by
  refine ⟨by rw [List.length_map]; exact (Nat.mul_one _).symm, fun i hi => ?_⟩
  show ((xs.map strV).drop (i * 1)).take 1 = [strV xs[i]]
  rw [Nat.mul_one, List.drop_eq_getElem_cons (by rw [List.length_map]; exact hi)]
  simp
theorem psplit_s {F0 I0 I : Fp} {w0 w : World} {O : List Ob} (S : SH F0 I0 w0 O w I) (i : Nat) {m : Int} (e : O[i]? = some (CF 0 0 (.int .i64 m))) (zs : List UInt8) (c : UInt8) (hs : zs.length ≤ 1000000) {ws : List (List UInt8)} (hw : spl c zs = ws) :
    Calls Tryd.prog 45 #[strV zs, strV [c]] w fun e w' => ∃ g J, e = .returned (.slice (some ⟨g, 0, none⟩) ws.length ws.length) ∧ SH F0 I0 w0 (Im kT (some ⟨g, 0, none⟩) ws :: O) w' J := by
  refine (psplit_c zs c m w hs (S.cf i e)).mono ?_
  rw [hw]
  rintro e w1 ⟨rfl, rfl⟩
  have S1 := S.box (ws.map strV) 9
  obtain ⟨J, S2, -⟩ := S1.lit 0 rfl (k := kT) (xs := ws) (flat_str ws)
  exact ⟨_, J, rfl, S2⟩
theorem nplaces_c (n : Nat) (hn : n < 9223372036854775808) (w : World) (I : Fp) (hI : ∀ b, I b → b < w.heap.size) :
    Calls Tryd.prog 47 #[.int .i64 n] w fun e w' => e = .returned (.int .i64 (decL n).length) ∧ Ext w w' := by
  have S := SH.start w I hI
  have hc := S.cells; simp only [Cells, cellsC, Im, Row, El, Nat.zero_add, Nat.reduceAdd] at hc
  go_enter Tryd.func47, Tryd.ntmps47
  go_wp2_with (first | ((first | (with_reducible refine wpl_seal S ?_) | (with_reducible refine cw_seal S ?_) | (with_reducible refine bp_seal S ?_) | (with_reducible refine ca_seal S ?_)); clear S; (try clear hc); intro w1 S; (try simp only [List.set_cons_zero, List.set_cons_succ, List.nil_append] at S); have hc := S.cells; simp only [Cells, cellsC, Im, Row, El, Nat.zero_add, Nat.reduceAdd] at hc) | (go_at_call 23; refine (decimal_c n hn _ _ S.bd).mono ?_; rintro e w1 ⟨rfl, hx⟩; replace S := S.ext hx; clear hx; (try clear hc); have hc := S.cells; simp only [Cells, cellsC, Im, Row, El, Nat.zero_add, Nat.reduceAdd] at hc))
  go_ret
  exact ⟨rfl, S.out⟩
theorem pline_c (zs : List UInt8) (hz : zs.length ≤ 2000) (w : World) (I : Fp) (hI : ∀ b, I b → b < w.heap.size) {m : Int} (hm : w.cell? ⟨0, 0, none⟩ = some (.int .i64 m)) (hI0 : I 0) {x : R5} {er : Int} (hr : lineR zs = (x, er)) :
    Calls Tryd.prog 30 #[strV zs] w fun e w' => e = .returned (.tuple #[x.v, .int .i64 er]) ∧ Ext w w' := by
  have S := (SH.start w I hI).know (h := CF 0 0 (.int .i64 m)) ⟨hm, hI0⟩
  have HR := As.mk hr
  clear hr hm
  obtain ⟨ws, hws⟩ : ∃ ws, spl 32 zs = ws := ⟨_, rfl⟩
  have HWS := As.mk hws
  have HWL : As (∀ x ∈ ws, x.length ≤ 2000) := ⟨fun x hx => by rw [← hws] at hx; have := spl_mem_len 32 zs x hx; omega⟩
  clear hws
  have hc := S.cells; simp only [Cells, cellsC, Im, Row, El, CF, Nat.zero_add, Nat.reduceAdd] at hc
  go_enter Tryd.func30, Tryd.ntmps30
  go_upto_region 3 with (first | ((first | (with_reducible refine wpl_seal S ?_) | (with_reducible refine cw_seal S ?_) | (with_reducible refine bp_seal S ?_) | (with_reducible refine ca_seal S ?_)); clear S; (try clear hc); intro w1 S; (try simp only [List.set_cons_zero, List.set_cons_succ, List.nil_append] at S); have hc := S.cells; simp only [Cells, cellsC, Im, Row, El, CF, Nat.zero_add, Nat.reduceAdd] at hc) | (go_at_call 45; refine (psplit_s S 2 rfl zs 32 (by omega) HWS.out).mono ?_; rintro e w1 ⟨g4, J4, rfl, S9⟩; clear S; (try clear hc); have S := S9; clear S9; have hc := S.cells; simp only [Cells, cellsC, Im, Row, El, CF, Nat.zero_add, Nat.reduceAdd] at hc))
  obtain ⟨gr, egr⟩ := S.name 2 rfl; rw [← egr] at S ⊢; clear egr
  obtain ⟨ga, ega⟩ := S.name 1 rfl; rw [← ega] at S ⊢; clear ega
  replace S := ((S.sel [0, 1, 2] (by decide) rfl (by simp) : SH _ _ _ [_, _, _] _ _) : SH _ _ _ [_, _, _] _ _)
  clear hc
  by_cases h5 : ws.length = 5
  · have h5' : ((ws.length : Int) != 5) = false := by rw [h5]; rfl
    have HLR : As (lineR zs = endL (goL ws [])) := ⟨by unfold lineR; rw [HWS.out, if_neg (by omega)]⟩
    have HW5 := As.mk h5
    have hc := S.cells; simp only [Cells, cellsC, Im, Row, El, CF, Nat.zero_add, Nat.reduceAdd] at hc
    go_wp2_with (first | ((first | (with_reducible refine wpl_seal S ?_) | (with_reducible refine cw_seal S ?_) | (with_reducible refine bp_seal S ?_) | (with_reducible refine ca_seal S ?_)); clear S; (try clear hc); intro w1 S; (try simp only [List.set_cons_zero, List.set_cons_succ, List.nil_append] at S); have hc := S.cells; simp only [Cells, cellsC, Im, Row, El, CF, Nat.zero_add, Nat.reduceAdd] at hc))
    clear hc h5 h5'
    go_loopw [18] (fun iv w' => ∃ (pre : List Nat) (J : Fp), iv = .int .i64 pre.length ∧ pre.length ≤ 5 ∧ As (goL ws [] = goL (ws.drop pre.length) (pre.map fun n : Nat => (n : Int))) ∧ As (SH No I w [Im kT (some ⟨g4, 0, none⟩) ws, Cel ga 60 ((pad5 pre).map vI), Cel gr 37 [.int .i64 0, .int .i64 0, .int .i64 0, .int .i64 0, .int .i64 0]] w' J)) (fun iv _ => 5 - (intOf iv).toNat)
    case atStart => exact ⟨[], _, rfl, by simp, ⟨rfl⟩, ⟨S⟩⟩
    case round =>
      clear S
      obtain ⟨pre, J, rfl, hp5, HG, ⟨S⟩⟩ := hrel
      by_cases hk5 : pre.length < 5
      · have hkw : pre.length < ws.length := by rw [HW5.out]; exact hk5
        have hk5' : decide ((pre.length : Int) < ws.length) = true := by simp; omega
        obtain ⟨b, o, e1, hcx⟩ := (S.im 0 rfl).str_at hkw
        cases e1
        rw [Nat.zero_add] at hcx
        have HD : As (ws.drop pre.length = ws[pre.length] :: ws.drop (pre.length + 1)) := ⟨List.drop_eq_getElem_cons hkw⟩
        have hwl := HWL.out _ (List.getElem_mem hkw)
        obtain ⟨y, hy⟩ : ∃ y, ws[pre.length] = y := ⟨_, rfl⟩
        rw [hy] at hcx HD hwl
        clear hy
        obtain ⟨q, hq⟩ : ∃ q, parseR y = q := ⟨_, rfl⟩
        obtain ⟨qn, qe⟩ := q
        have HQ := As.mk hq
        have HG2 : As (goL ws [] = if qe ≠ 0 then (qe, []) else if decL qn.toNat ≠ y then (3, []) else goL (ws.drop (pre.length + 1)) (pre.map (fun n : Nat => (n : Int)) ++ [qn])) := ⟨by rw [HG.out, HD.out]; simp only [goL]; rw [hq]⟩
        clear HG HD
        by_cases h0 : qe = 0
        · subst h0
          obtain ⟨c1, c2, c3⟩ := decL_canon hq
          obtain ⟨qq, rfl⟩ : ∃ qq : Nat, qn = qq := ⟨qn.toNat, by omega⟩
          rw [Int.toNat_natCast] at c3
          rw [if_neg (by simp), Int.toNat_natCast] at HG2
          clear hq
          have HL : As (pre.length < (pad5 pre).length) := ⟨by unfold pad5; rw [List.length_append, List.length_replicate]; omega⟩
          by_cases hey : decL qq = y
          · have hle : ((y.length : Int) != ((decL qq).length : Int)) = false := by rw [c3.2 hey]; simp
            have HG3 : As (goL ws [] = goL (ws.drop (pre ++ [qq]).length) ((pre ++ [qq]).map fun n : Nat => (n : Int))) := ⟨by rw [HG2.out, if_neg (fun h => h hey), List.length_append, List.map_append]; rfl⟩
            have HS := As.mk (pad5_set (n := qq) hk5)
            have hck := S.cell 1 pre.length (u := vI ((pad5 pre)[pre.length]'HL.out)) rfl (by rw [List.getElem?_map, List.getElem?_eq_getElem HL.out]; rfl)
            have hfz := S.nfz 1 pre.length rfl
            clear hey c3 HG2
            have hc := S.cells; simp only [Cells, cellsC, Im, Row, El, CF, Nat.zero_add, Nat.reduceAdd] at hc
            go_wp2_with (first | ((first | (with_reducible refine wpl_seal S ?_) | (with_reducible refine cw_seal S ?_) | (with_reducible refine bp_seal S ?_) | (with_reducible refine ca_seal S ?_)); clear S; (try clear hc); intro w1 S; (try simp only [List.set_cons_zero, List.set_cons_succ, List.nil_append] at S); have hc := S.cells; simp only [Cells, cellsC, Im, Row, El, CF, Nat.zero_add, Nat.reduceAdd] at hc) | (go_at_call 46; refine (nparse_c y (by omega) _).mono ?_; rw [HQ.out]; rintro e w1 ⟨rfl, hx⟩; clear hcx hck hfz; replace S := S.ext hx; clear hx; (try clear hc); have hc := S.cells; simp only [Cells, cellsC, Im, Row, El, CF, Nat.zero_add, Nat.reduceAdd] at hc) | (go_at_call 47; refine (nplaces_c qq (by omega) _ _ S.bd).mono ?_; rintro e w1 ⟨rfl, hx⟩; replace S := S.ext hx; clear hx; (try clear hc); have hc := S.cells; simp only [Cells, cellsC, Im, Row, El, CF, Nat.zero_add, Nat.reduceAdd] at hc; have hck := S.cell 1 pre.length (u := vI ((pad5 pre)[pre.length]'HL.out)) rfl (by rw [List.getElem?_map, List.getElem?_eq_getElem HL.out]; rfl); have hfz := S.nfz 1 pre.length rfl))
            go_roundw
            case rel =>
              rw [show (Value.int .i64 (qq : Int)) = vI qq from rfl, ← List.map_set, HS.out] at S
              exact ⟨pre ++ [qq], _, by first | go_num | (rw [List.length_append]; go_num), by rw [List.length_append]; simp; omega, HG3, ⟨by first | exact S | trivial⟩⟩
            case measure => simp [intOf]; omega
          · have hle : ((y.length : Int) != ((decL qq).length : Int)) = true := by
              rw [bne_iff_ne]
              intro e
              exact hey (c3.1 (by omega))
            have HE : As (x = zeroR5 ∧ er = 3) := ⟨by
              have h := HR.out
              rw [HLR.out, HG2.out, if_pos hey] at h
              unfold endL at h
              rw [if_pos (by decide), Prod.mk.injEq] at h
              exact ⟨h.1.symm, h.2.symm⟩⟩
            obtain ⟨rfl, rfl⟩ := HE.out
            clear hey c3 HG2 HL
            have hc := S.cells; simp only [Cells, cellsC, Im, Row, El, CF, Nat.zero_add, Nat.reduceAdd] at hc
            go_wp2_with (first | ((first | (with_reducible refine wpl_seal S ?_) | (with_reducible refine cw_seal S ?_) | (with_reducible refine bp_seal S ?_) | (with_reducible refine ca_seal S ?_)); clear S; (try clear hc); intro w1 S; (try simp only [List.set_cons_zero, List.set_cons_succ, List.nil_append] at S); have hc := S.cells; simp only [Cells, cellsC, Im, Row, El, CF, Nat.zero_add, Nat.reduceAdd] at hc) | (go_at_call 46; refine (nparse_c y (by omega) _).mono ?_; rw [HQ.out]; rintro e w1 ⟨rfl, hx⟩; clear hcx; replace S := S.ext hx; clear hx; (try clear hc); have hc := S.cells; simp only [Cells, cellsC, Im, Row, El, CF, Nat.zero_add, Nat.reduceAdd] at hc) | (go_at_call 47; refine (nplaces_c qq (by omega) _ _ S.bd).mono ?_; rintro e w1 ⟨rfl, hx⟩; replace S := S.ext hx; clear hx; (try clear hc); have hc := S.cells; simp only [Cells, cellsC, Im, Row, El, CF, Nat.zero_add, Nat.reduceAdd] at hc))
            refine bodyPost_ret (results_cell_tmpR rfl _ _ gr 37 _ (0, 0) _ rfl (S.cel 2 rfl) Tryd.underlying37 rfl (by kernel_rfl)) rfl ?_
            exact ⟨rfl, S.out⟩
        · have h0' : (qe != 0) = true := by rw [bne_iff_ne]; exact h0
          have HE : As (x = zeroR5 ∧ er = qe) := ⟨by
            have h := HR.out
            rw [HLR.out, HG2.out, if_pos h0] at h
            unfold endL at h
            rw [if_pos h0, Prod.mk.injEq] at h
            exact ⟨h.1.symm, h.2.symm⟩⟩
          obtain ⟨rfl, rfl⟩ := HE.out
          clear h0 hq
          have hc := S.cells; simp only [Cells, cellsC, Im, Row, El, CF, Nat.zero_add, Nat.reduceAdd] at hc
          go_wp2_with (first | ((first | (with_reducible refine wpl_seal S ?_) | (with_reducible refine cw_seal S ?_) | (with_reducible refine bp_seal S ?_) | (with_reducible refine ca_seal S ?_)); clear S; (try clear hc); intro w1 S; (try simp only [List.set_cons_zero, List.set_cons_succ, List.nil_append] at S); have hc := S.cells; simp only [Cells, cellsC, Im, Row, El, CF, Nat.zero_add, Nat.reduceAdd] at hc) | (go_at_call 46; refine (nparse_c y (by omega) _).mono ?_; rw [HQ.out]; rintro e w1 ⟨rfl, hx⟩; clear hcx; replace S := S.ext hx; clear hx; (try clear hc); have hc := S.cells; simp only [Cells, cellsC, Im, Row, El, CF, Nat.zero_add, Nat.reduceAdd] at hc))
          refine bodyPost_ret (results_cell_tmpR rfl _ _ gr 37 _ (0, 0) _ rfl (S.cel 2 rfl) Tryd.underlying37 rfl (by kernel_rfl)) rfl ?_
          exact ⟨rfl, S.out⟩
      · have hk5' : decide ((pre.length : Int) < ws.length) = false := by have := HW5.out; simp; omega
        have HG2 : As (goL ws [] = (0, pre.map fun n : Nat => (n : Int))) := ⟨by rw [HG.out, List.drop_of_length_le (by rw [HW5.out]; omega)]; rfl⟩
        obtain ⟨a, b, c', d, e, rfl⟩ : ∃ a b c' d e, pre = [a, b, c', d, e] := by
          have h5 : pre.length = 5 := by omega
          rcases pre with _ | ⟨a, _ | ⟨b, _ | ⟨c', _ | ⟨d, _ | ⟨e, _ | ⟨f, r⟩⟩⟩⟩⟩⟩ <;> simp at h5
          exact ⟨a, b, c', d, e, rfl⟩
        have HX2 : As ((x, er) = if (7 : Int) < (e : Int) then (zeroR5, 4) else (mk5 [a, b, c', d, e], 0)) := ⟨by
          rw [← HR.out, HLR.out, HG2.out]
          unfold endL
          rw [if_neg (by simp)]
          rfl⟩
        replace S : SH _ _ _ [_, Cel ga 60 [.int .i64 a, .int .i64 b, .int .i64 c', .int .i64 d, .int .i64 e], _] _ _ := S
        by_cases h7 : (7 : Int) < (e : Int)
        · have h7' : decide ((e : Int) ≥ 8) = true := by simp; omega
          have h8 := HX2.out
          rw [if_pos h7, Prod.mk.injEq] at h8
          obtain ⟨rfl, rfl⟩ := h8
          clear h7 HX2 HG2 HG
          have hc := S.cells; simp only [Cells, cellsC, Im, Row, El, CF, Nat.zero_add, Nat.reduceAdd] at hc
          go_wp2_with (first | ((first | (with_reducible refine wpl_seal S ?_) | (with_reducible refine cw_seal S ?_) | (with_reducible refine bp_seal S ?_) | (with_reducible refine ca_seal S ?_)); clear S; (try clear hc); intro w1 S; (try simp only [List.set_cons_zero, List.set_cons_succ, List.nil_append] at S); have hc := S.cells; simp only [Cells, cellsC, Im, Row, El, CF, Nat.zero_add, Nat.reduceAdd] at hc))
          refine bodyPost_ret (results_cell_tmpR rfl _ _ gr 37 _ (0, 0) _ rfl (S.cel 2 rfl) Tryd.underlying37 rfl (by kernel_rfl)) rfl ?_
          exact ⟨rfl, S.out⟩
        · have h7' : decide ((e : Int) ≥ 8) = false := by simp; omega
          have h8 := HX2.out
          rw [if_neg h7, Prod.mk.injEq] at h8
          obtain ⟨rfl, rfl⟩ := h8
          clear h7 HX2 HG2 HG
          have hc := S.cells; simp only [Cells, cellsC, Im, Row, El, CF, Nat.zero_add, Nat.reduceAdd] at hc
          go_wp2_with (first | ((first | (with_reducible refine wpl_seal S ?_) | (with_reducible refine cw_seal S ?_) | (with_reducible refine bp_seal S ?_) | (with_reducible refine ca_seal S ?_)); clear S; (try clear hc); intro w1 S; (try simp only [List.set_cons_zero, List.set_cons_succ, List.nil_append] at S); have hc := S.cells; simp only [Cells, cellsC, Im, Row, El, CF, Nat.zero_add, Nat.reduceAdd] at hc) | (go_at_call 48; refine (record_c a b c' d e _).mono ?_; dsimp only [R5.v, mk5, List.getD_cons_zero, List.getD_cons_succ]; rintro r w1 ⟨rfl, hx⟩; replace S := S.ext hx; clear hx; (try clear hc); have hc := S.cells; simp only [Cells, cellsC, Im, Row, El, CF, Nat.zero_add, Nat.reduceAdd] at hc))
          refine bodyPost_ret (results_cell_tmpR rfl _ _ gr 37 _ (0, 0) _ rfl (S.cel 2 rfl) Tryd.underlying37 rfl (by kernel_rfl)) rfl ?_
          exact ⟨rfl, S.out⟩
  · have h5' : ((ws.length : Int) != 5) = true := by rw [bne_iff_ne]; omega
    have HE : As (x = zeroR5 ∧ er = 10) := ⟨by
      have h := HR.out
      unfold lineR at h
      rw [HWS.out, if_pos h5, Prod.mk.injEq] at h
      exact ⟨h.1.symm, h.2.symm⟩⟩
    obtain ⟨rfl, rfl⟩ := HE.out
    clear h5
    have hc := S.cells; simp only [Cells, cellsC, Im, Row, El, CF, Nat.zero_add, Nat.reduceAdd] at hc
    go_wp2_with (first | ((first | (with_reducible refine wpl_seal S ?_) | (with_reducible refine cw_seal S ?_) | (with_reducible refine bp_seal S ?_) | (with_reducible refine ca_seal S ?_)); clear S; (try clear hc); intro w1 S; (try simp only [List.set_cons_zero, List.set_cons_succ, List.nil_append] at S); have hc := S.cells; simp only [Cells, cellsC, Im, Row, El, CF, Nat.zero_add, Nat.reduceAdd] at hc))
    refine bodyPost_ret (results_cell_tmpR rfl _ _ gr 37 _ (0, 0) _ rfl (S.cel 2 rfl) Tryd.underlying37 rfl (by kernel_rfl)) rfl ?_
    exact ⟨rfl, S.out⟩
end Go.Proofs.YteaekpnmiicbhaaDoor
