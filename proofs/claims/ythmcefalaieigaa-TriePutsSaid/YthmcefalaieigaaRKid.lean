/- The reference's children. -/
import Derived.Test.YthmcefalaieigaaKidP
import Derived.Test.YthmcefalaieigaaCut2
namespace Go.Proofs.Ythmcefalaieigaa
open Go.RowKit X
set_option maxHeartbeats 2000000
set_option maxRecDepth 8000
set_option linter.unusedSimpArgs false
set_option linter.unusedVariables false
theorem rkids_c (L W : List (List Int)) (n : Int) (v : Value) (w : World) (I : Fp) (hI : ∀ b, I b → b < w.heap.size) (hR : RT w I v L W) (hL : L.length ≤ 1000000) (hs : ShortW L) (hne : ∀ i, 0 < i → i < L.length → pa L i ≠ []) :
    Calls Try.prog 29 #[v, .int .i64 n] w fun e w' => ∃ v, e = .returned v ∧ Upd w No I w' (Row kP v (kiR L n)) := by
  obtain ⟨A, c, A', c', rfl, hc0, hc', hLs, hWs⟩ := hR
  have S := (((SH.start w I hI).know (h := Im kW A' W) hWs).know (h := Im kW A L) hLs).nilrow (k := kP)
  have HS := As.mk hs
  have HNE := As.mk hne
  clear hLs hWs hs hne
  have hc := S.cells; simp only [Cells, cellsC, Im, Row, El, RTH, TreeH, TR, Nat.zero_add, Nat.reduceAdd] at hc
  go_enter Try.func29, Try.ntmps29
  go_upto_if 3 with (first | ((first | (with_reducible refine wpl_seal S ?_) | (with_reducible refine cw_seal S ?_) | (with_reducible refine bp_seal S ?_) | (with_reducible refine ca_seal S ?_)); clear S hc; intro w1 S; (try simp only [List.set_cons_zero, List.set_cons_succ, List.nil_append] at S); have hc := S.cells; simp only [Cells, cellsC, Im, Row, El, RTH, TreeH, TR, Nat.zero_add, Nat.reduceAdd] at hc))
  obtain ⟨gB, egB⟩ := S.name 0 rfl; rw [← egB] at S ⊢; clear egB
  have hc := S.cells; simp only [Cells, cellsC, Im, Row, El, RTH, TreeH, TR, Nat.zero_add, Nat.reduceAdd] at hc
  go_wp2_with (first | ((first | (with_reducible refine wpl_seal S ?_) | (with_reducible refine cw_seal S ?_) | (with_reducible refine bp_seal S ?_) | (with_reducible refine ca_seal S ?_)); clear S hc; intro w1 S; (try simp only [List.set_cons_zero, List.set_cons_succ, List.nil_append] at S); have hc := S.cells; simp only [Cells, cellsC, Im, Row, El, RTH, TreeH, TR, Nat.zero_add, Nat.reduceAdd] at hc))
  clear hc
  go_loopw [5, 6] (fun o i w' => ∃ (k : Nat) (out : List Int), As (out = kiK L n k) ∧ k ≤ L.length ∧ i = .int .i64 k ∧ As (SH No I w [Row kP o out, Cel gB 27 [.slice A L.length c, .slice A' W.length c'], Im kW A L, Im kW A' W] w' I)) (fun _ i _ => L.length - (intOf i).toNat)
  case atStart => exact ⟨0, [], ⟨rfl⟩, Nat.zero_le _, rfl, ⟨(S.sel [1, 0, 2, 3] (by decide) rfl (by simp) : SH _ _ _ [_, _, _, _] _ _)⟩⟩
  case round =>
    clear S
    obtain ⟨k, out, HO, hk, rfl, ⟨S⟩⟩ := hrel
    have hol : out.length ≤ 1000000 := by rw [HO.out]; have := kiK_len (L := L) (n := n) k; omega
    obtain ⟨Ao, co, rfl, hco, -⟩ := S.row 0 rfl
    have hc := S.cells; simp only [Cells, cellsC, Im, Row, El, RTH, TreeH, TR, Nat.zero_add, Nat.reduceAdd] at hc
    by_cases hkt : k < L.length
    · have hkt' : decide ((k : Int) < L.length) = true := by simpa using hkt
      by_cases hq : prR L k = n ∧ 0 ≤ n
      · have hq1 : (prR L k != n) = false := by simp [hq.1]
        have hq2 : decide (n < 0) = false := by simp; omega
        have HE : As (kiK L n (k + 1) = insS out (laR L k)) := ⟨by rw [HO.out]; simp only [kiK]; rw [if_pos hq]⟩
        have hk0 : 0 < k := by
          rcases Nat.eq_zero_or_pos k with e | e
          · subst e; have := hq.1; rw [show ((0 : Nat) : Int) = 0 from rfl, prR_zero] at this; omega
          · exact e
        clear hq
        go_wp2_with (first | ((first | (with_reducible refine wpl_seal S ?_) | (with_reducible refine cw_seal S ?_) | (with_reducible refine bp_seal S ?_) | (with_reducible refine ca_seal S ?_)); clear S hc; intro w1 S; (try simp only [List.set_cons_zero, List.set_cons_succ, List.nil_append] at S); have hc := S.cells; simp only [Cells, cellsC, Im, Row, El, RTH, TreeH, TR, Nat.zero_add, Nat.reduceAdd] at hc) | (go_at_call 22; refine (rparent_c L W k _ _ _ S.bd ⟨A, c, A', c', rfl, hc0, hc', S.im 2 rfl, S.im 3 rfl⟩ hL HS.out HNE.out).mono ?_; rintro e w1 ⟨rfl, hx⟩; replace S := S.ext hx; clear hc hx; have hc := S.cells; simp only [Cells, cellsC, Im, Row, El, RTH, TreeH, TR, Nat.zero_add, Nat.reduceAdd] at hc))
        have hpk : pa L k = L[k] := pa_eq hkt
        have hnk := HNE.out k hk0 hkt
        have h6 := HS.out _ (List.getElem_mem hkt)
        obtain ⟨b, o, A1, c1, rfl, hcx, hc1, hs1⟩ := (S.im 2 rfl).sl_at hkt
        have HLA : As (laR L k = L[k].getLastD 0) := ⟨by unfold laR; rw [hpk]⟩
        rw [hpk] at hnk
        generalize L[k] = ys at hcx hc1 hs1 HLA hnk h6
        obtain ⟨m, hm⟩ : ∃ m, ys.length = m + 1 := ⟨ys.length - 1, by have := List.length_pos_iff.2 hnk; omega⟩
        obtain ⟨xb, xo, rfl, hcy⟩ := hs1.int_at (i := m) (by omega)
        have hym : ys[m]'(by omega) = laR L k := by
          rw [HLA.out, List.getLastD_eq_getLast?, List.getLast?_eq_getElem?, show ys.length - 1 = m by omega, List.getElem?_eq_getElem (by omega)]; rfl
        rw [hym] at hcy
        rw [hm] at hcx hc1
        have hmx : ¬ ((m : Int) < 0) := by omega
        have hm6 : m ≤ 1000000 := by omega
        have hmw : IntKind.i64.wrap (m : Int) = m := IntWalk.i64_in _ ⟨by omega, by omega⟩
        clear hpk hnk hs1 hym hm HLA
        go_quiet (fail)
        replace S := S.ext ((Ext.refl w1).drewN nq)
        generalize w1.drewN nq = w2 at S ⊢
        clear hc hcx hcy hmx hm6 hmw hc1
        have hll := leadS_le out (laR L k)
        have HLT := As.mk (leadS_lt out (laR L k))
        have HAT := As.mk (leadS_at out (laR L k))
        have HIN := As.mk (insS_eq out (laR L k))
        generalize leadS out (laR L k) = ld at hll HLT HAT HIN
        have hc := S.cells; simp only [Cells, cellsC, Im, Row, El, RTH, TreeH, TR, Nat.zero_add, Nat.reduceAdd] at hc
        go_wp2_with (first | ((first | (with_reducible refine wpl_seal S ?_) | (with_reducible refine cw_seal S ?_) | (with_reducible refine bp_seal S ?_) | (with_reducible refine ca_seal S ?_)); clear S hc; intro w1 S; (try simp only [List.set_cons_zero, List.set_cons_succ, List.nil_append] at S); have hc := S.cells; simp only [Cells, cellsC, Im, Row, El, RTH, TreeH, TR, Nat.zero_add, Nat.reduceAdd] at hc))
        clear hc
        go_loopw [8] (fun j w' => ∃ (t : Nat), t ≤ ld ∧ j = .int .i64 t ∧ As (SH No I w [Row kP (.slice Ao out.length co) out, Cel gB 27 [.slice (some ⟨b, o, none⟩) L.length c, .slice A' W.length c'], Im kW (some ⟨b, o, none⟩) L, Im kW A' W] w' I)) (fun j _ => ld - (intOf j).toNat)
        case atStart => exact ⟨0, Nat.zero_le _, rfl, ⟨S⟩⟩
        case round =>
          clear S
          obtain ⟨t, ht, rfl, ⟨S⟩⟩ := hrel
          obtain ⟨A9, c9, e9, -, hs9⟩ := S.row 0 rfl
          cases e9
          have hc := S.cells; simp only [Cells, cellsC, Im, Row, El, RTH, TreeH, TR, Nat.zero_add, Nat.reduceAdd] at hc
          by_cases htl : t < ld
          · have hto : t < out.length := by omega
            have hto' : decide ((t : Int) < out.length) = true := by simpa using hto
            have hlt := HLT.out t hto htl
            obtain ⟨ob, oo, rfl, hco2⟩ := hs9.int_at hto
            have hlt' : decide (out[t] < laR L k) = true := by simpa using hlt
            clear hs9 hlt
            go_wp2_with (first | ((first | (with_reducible refine wpl_seal S ?_) | (with_reducible refine cw_seal S ?_) | (with_reducible refine bp_seal S ?_) | (with_reducible refine ca_seal S ?_)); clear S hc; intro w1 S; (try simp only [List.set_cons_zero, List.set_cons_succ, List.nil_append] at S); have hc := S.cells; simp only [Cells, cellsC, Im, Row, El, RTH, TreeH, TR, Nat.zero_add, Nat.reduceAdd] at hc))
            go_roundw
            case rel => exact ⟨t + 1, by omega, by go_num, ⟨S⟩⟩
            case measure => simp [intOf] <;> omega
          · obtain rfl : t = ld := by omega
            have ht1 : (out.take t).length ≤ 1000000 := by rw [List.length_take]; omega
            have ht2 : (out.drop t).length ≤ 1000000 := by rw [List.length_drop]; omega
            replace S := S.nilrow (k := kP)
            obtain ⟨DD, hDD⟩ : ∃ DD : Fp, DD = fun b => I b ∨ (Value.slice Ao out.length co).ownBlock = some b := ⟨_, rfl⟩
            rw [← hDD] at hs9
            have HDD := As.mk hDD
            clear hDD
            by_cases hto : t < out.length
            · have hto' : decide ((t : Int) < out.length) = true := by simpa using hto
              have hlt := HAT.out hto
              obtain ⟨ob, oo, rfl, hco2⟩ := hs9.int_at hto
              have hlt' : decide (out[t] < laR L k) = false := by simpa using hlt
              have HS9 := As.mk hs9
              clear hs9 hlt
              go_wp2_with (first | ((first | (with_reducible refine wpl_seal S ?_) | (with_reducible refine cw_seal S ?_) | (with_reducible refine bp_seal S ?_) | (with_reducible refine ca_seal S ?_)); clear S hc; intro w1 S; (try simp only [List.set_cons_zero, List.set_cons_succ, List.nil_append] at S); have hc := S.cells; simp only [Cells, cellsC, Im, Row, El, RTH, TreeH, TR, Nat.zero_add, Nat.reduceAdd] at hc) | (refine wpList_cutR rfl ty_pixs _ _ rfl _ _ co t out rfl rfl hll hco HS9 ?_; intro A6 HS6; (try simp only [Act.put, List.setIfInBounds_toArray, List.set_cons_succ, List.set_cons_zero])) | (obtain ⟨A8, c8, e8, -, hs8⟩ := S.row 2 rfl; cases e8; have hs8' : Sl kP _ DD _ out := (by rw [HDD.out]; exact hs8); refine wpList_cutL rfl ty_pixs _ _ rfl _ _ co t out rfl rfl hll hco ⟨hs8'⟩ ?_; clear hs8 hs8'; intro A7 HS7; (try simp only [Act.put, List.setIfInBounds_toArray, List.set_cons_succ, List.set_cons_zero])) | (at_builtin; refine wpl_app S 1 rfl rfl _ _ rfl ty_pixs rfl A7 (co - t) _ rfl DD (fun _ _ h => h) HS7.out (by (try simp only [maxLen, List.length_nil, List.length_append, List.length_cons]); omega) (by (try simp only [maxLen, List.length_nil, List.length_append, List.length_cons]); omega) ?_; clear S hc; intro va w1 S; simp only [List.set_cons_zero, List.set_cons_succ, List.nil_append] at S; have hc := S.cells; simp only [Cells, cellsC, Im, Row, El, RTH, TreeH, TR, Nat.zero_add, Nat.reduceAdd] at hc) | (at_builtin; refine wpl_app S 0 rfl rfl _ _ rfl ty_pixs rfl A6 co _ rfl DD (fun _ _ h => h) HS6.out (by (try simp only [maxLen, List.length_nil, List.length_append, List.length_cons]); omega) (by (try simp only [maxLen, List.length_nil, List.length_append, List.length_cons]); omega) ?_; clear S hc; intro va w1 S; simp only [List.set_cons_zero, List.set_cons_succ, List.nil_append] at S; have hc := S.cells; simp only [Cells, cellsC, Im, Row, El, RTH, TreeH, TR, Nat.zero_add, Nat.reduceAdd] at hc) | (at_builtin; refine wpl_push S 1 rfl rfl _ _ rfl ty_pixs rfl (laR L k) _ _ rfl [_] _ (S.cel 0 rfl) rfl (by (try simp only [maxLen, List.length_nil, List.length_append, List.length_cons]); omega) (by (try simp only [maxLen, List.length_nil, List.length_append, List.length_cons]); omega) ?_; clear S hc; intro va w1 S; simp only [List.set_cons_zero, List.set_cons_succ, List.nil_append] at S; have hc := S.cells; simp only [Cells, cellsC, Im, Row, El, RTH, TreeH, TR, Nat.zero_add, Nat.reduceAdd] at hc))
              go_roundw
              case rel => exact ⟨k + 1, _, ⟨HE.out.trans HIN.out |>.symm⟩, by omega, by go_num, ⟨(S.sel [1, 3, 4, 5] (by decide) rfl (by simp) : SH _ _ _ [_, _, _, _] _ _)⟩⟩
              case measure => simp [intOf] <;> omega
            · have hto' : decide ((t : Int) < out.length) = false := by simpa using hto
              have HS9 := As.mk hs9
              clear hs9
              go_wp2_with (first | ((first | (with_reducible refine wpl_seal S ?_) | (with_reducible refine cw_seal S ?_) | (with_reducible refine bp_seal S ?_) | (with_reducible refine ca_seal S ?_)); clear S hc; intro w1 S; (try simp only [List.set_cons_zero, List.set_cons_succ, List.nil_append] at S); have hc := S.cells; simp only [Cells, cellsC, Im, Row, El, RTH, TreeH, TR, Nat.zero_add, Nat.reduceAdd] at hc) | (refine wpList_cutR rfl ty_pixs _ _ rfl _ _ co t out rfl rfl hll hco HS9 ?_; intro A6 HS6; (try simp only [Act.put, List.setIfInBounds_toArray, List.set_cons_succ, List.set_cons_zero])) | (obtain ⟨A8, c8, e8, -, hs8⟩ := S.row 2 rfl; cases e8; have hs8' : Sl kP _ DD _ out := (by rw [HDD.out]; exact hs8); refine wpList_cutL rfl ty_pixs _ _ rfl _ _ co t out rfl rfl hll hco ⟨hs8'⟩ ?_; clear hs8 hs8'; intro A7 HS7; (try simp only [Act.put, List.setIfInBounds_toArray, List.set_cons_succ, List.set_cons_zero])) | (at_builtin; refine wpl_app S 1 rfl rfl _ _ rfl ty_pixs rfl A7 (co - t) _ rfl DD (fun _ _ h => h) HS7.out (by (try simp only [maxLen, List.length_nil, List.length_append, List.length_cons]); omega) (by (try simp only [maxLen, List.length_nil, List.length_append, List.length_cons]); omega) ?_; clear S hc; intro va w1 S; simp only [List.set_cons_zero, List.set_cons_succ, List.nil_append] at S; have hc := S.cells; simp only [Cells, cellsC, Im, Row, El, RTH, TreeH, TR, Nat.zero_add, Nat.reduceAdd] at hc) | (at_builtin; refine wpl_app S 0 rfl rfl _ _ rfl ty_pixs rfl A6 co _ rfl DD (fun _ _ h => h) HS6.out (by (try simp only [maxLen, List.length_nil, List.length_append, List.length_cons]); omega) (by (try simp only [maxLen, List.length_nil, List.length_append, List.length_cons]); omega) ?_; clear S hc; intro va w1 S; simp only [List.set_cons_zero, List.set_cons_succ, List.nil_append] at S; have hc := S.cells; simp only [Cells, cellsC, Im, Row, El, RTH, TreeH, TR, Nat.zero_add, Nat.reduceAdd] at hc) | (at_builtin; refine wpl_push S 1 rfl rfl _ _ rfl ty_pixs rfl (laR L k) _ _ rfl [_] _ (S.cel 0 rfl) rfl (by (try simp only [maxLen, List.length_nil, List.length_append, List.length_cons]); omega) (by (try simp only [maxLen, List.length_nil, List.length_append, List.length_cons]); omega) ?_; clear S hc; intro va w1 S; simp only [List.set_cons_zero, List.set_cons_succ, List.nil_append] at S; have hc := S.cells; simp only [Cells, cellsC, Im, Row, El, RTH, TreeH, TR, Nat.zero_add, Nat.reduceAdd] at hc))
              go_roundw
              case rel => exact ⟨k + 1, _, ⟨HE.out.trans HIN.out |>.symm⟩, by omega, by go_num, ⟨(S.sel [1, 3, 4, 5] (by decide) rfl (by simp) : SH _ _ _ [_, _, _, _] _ _)⟩⟩
              case measure => simp [intOf] <;> omega
      · have HE : As (kiK L n (k + 1) = out) := ⟨by rw [HO.out]; simp only [kiK]; rw [if_neg hq]⟩
        by_cases hq1 : prR L k = n
        · have hq1' : (prR L k != n) = false := by simp [hq1]
          have hq2 : decide (n < 0) = true := by simp; have := fun h => hq ⟨hq1, h⟩; omega
          clear hq hq1
          go_wp2_with (first | ((first | (with_reducible refine wpl_seal S ?_) | (with_reducible refine cw_seal S ?_) | (with_reducible refine bp_seal S ?_) | (with_reducible refine ca_seal S ?_)); clear S hc; intro w1 S; (try simp only [List.set_cons_zero, List.set_cons_succ, List.nil_append] at S); have hc := S.cells; simp only [Cells, cellsC, Im, Row, El, RTH, TreeH, TR, Nat.zero_add, Nat.reduceAdd] at hc) | (go_at_call 22; refine (rparent_c L W k _ _ _ S.bd ⟨A, c, A', c', rfl, hc0, hc', S.im 2 rfl, S.im 3 rfl⟩ hL HS.out HNE.out).mono ?_; rintro e w1 ⟨rfl, hx⟩; replace S := S.ext hx; clear hc hx; have hc := S.cells; simp only [Cells, cellsC, Im, Row, El, RTH, TreeH, TR, Nat.zero_add, Nat.reduceAdd] at hc))
          go_roundw
          case rel => exact ⟨k + 1, _, ⟨HE.out.symm⟩, by omega, by go_num, ⟨S⟩⟩
          case measure => simp [intOf] <;> omega
        · have hq1' : (prR L k != n) = true := by simp [hq1]
          clear hq hq1
          go_wp2_with (first | ((first | (with_reducible refine wpl_seal S ?_) | (with_reducible refine cw_seal S ?_) | (with_reducible refine bp_seal S ?_) | (with_reducible refine ca_seal S ?_)); clear S hc; intro w1 S; (try simp only [List.set_cons_zero, List.set_cons_succ, List.nil_append] at S); have hc := S.cells; simp only [Cells, cellsC, Im, Row, El, RTH, TreeH, TR, Nat.zero_add, Nat.reduceAdd] at hc) | (go_at_call 22; refine (rparent_c L W k _ _ _ S.bd ⟨A, c, A', c', rfl, hc0, hc', S.im 2 rfl, S.im 3 rfl⟩ hL HS.out HNE.out).mono ?_; rintro e w1 ⟨rfl, hx⟩; replace S := S.ext hx; clear hc hx; have hc := S.cells; simp only [Cells, cellsC, Im, Row, El, RTH, TreeH, TR, Nat.zero_add, Nat.reduceAdd] at hc))
          go_roundw
          case rel => exact ⟨k + 1, _, ⟨HE.out.symm⟩, by omega, by go_num, ⟨S⟩⟩
          case measure => simp [intOf] <;> omega
    · have hkt' : decide ((k : Int) < L.length) = false := by simpa using hkt
      obtain rfl : k = L.length := by omega
      go_wp2_with (first | ((first | (with_reducible refine wpl_seal S ?_) | (with_reducible refine cw_seal S ?_) | (with_reducible refine bp_seal S ?_) | (with_reducible refine ca_seal S ?_)); clear S hc; intro w1 S; (try simp only [List.set_cons_zero, List.set_cons_succ, List.nil_append] at S); have hc := S.cells; simp only [Cells, cellsC, Im, Row, El, RTH, TreeH, TR, Nat.zero_add, Nat.reduceAdd] at hc))
      go_ret
      refine ⟨_, rfl, ?_⟩
      unfold kiR
      rw [← HO.out]
      exact S.ret 0 rfl
end Go.Proofs.Ythmcefalaieigaa
