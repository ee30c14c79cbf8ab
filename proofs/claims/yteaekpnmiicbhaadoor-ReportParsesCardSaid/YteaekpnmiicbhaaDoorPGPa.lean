/- A text's records: the document's. -/
import Derived.Test.YteaekpnmiicbhaaDoorPLin
namespace Go.Proofs.YteaekpnmiicbhaaDoor
open Go.RowKit X
set_option maxHeartbeats 2000000
set_option maxRecDepth 8000
set_option linter.unusedSimpArgs false
set_option linter.unusedVariables false
def goP : List (List UInt8) → Nat → List R5 → List R5 × Nat × Int
  | [], _, out => (out, 0, 0)
  | p :: r, i, out => if r = [] then (if p = [] then (out, 0, 0) else ([], i + 1, 10)) else if (lineR p).2 ≠ 0 then ([], i + 1, (lineR p).2) else goP r (i + 1) (out ++ [(lineR p).1])
def textP (zs : List UInt8) : List R5 × Nat × Int := goP (spl 10 zs) 0 []
theorem gpars_c (zs : List UInt8) (hz : zs.length ≤ 1000) (w : World) (I : Fp) (hI : ∀ b, I b → b < w.heap.size) {xs : List R5} {m : Nat} {er : Int} (hr : textP zs = (xs, m, er)) :
    Calls Tryd.prog 18 #[strV zs] w fun e w' => ∃ v, e = .returned (.tuple #[v, .int .i64 m, .int .i64 er]) ∧ Upd w No I w' (Row kR v xs) := by
  have S := SH.start w I hI
  have HR := As.mk hr
  clear hr
  obtain ⟨ws, hws⟩ : ∃ ws, spl 10 zs = ws := ⟨_, rfl⟩
  have HWS := As.mk hws
  have hwl : ws.length ≤ 1001 := by rw [← hws]; have := spl_len 10 zs; omega
  have HWL : As (∀ x ∈ ws, x.length ≤ 1000) := ⟨fun x hx => by rw [← hws] at hx; have := spl_mem_len 10 zs x hx; omega⟩
  clear hws
  have hc := S.cells; simp only [Cells, cellsC, Im, Row, El, Nat.zero_add, Nat.reduceAdd] at hc
  go_enter Tryd.func18, Tryd.ntmps18
  go_wp2_with (first | ((first | (with_reducible refine wpl_seal S ?_) | (with_reducible refine cw_seal S ?_) | (with_reducible refine bp_seal S ?_) | (with_reducible refine ca_seal S ?_)); clear S; (try clear hc); intro w1 S; (try simp only [List.set_cons_zero, List.set_cons_succ, List.nil_append] at S); have hc := S.cells; simp only [Cells, cellsC, Im, Row, El, Nat.zero_add, Nat.reduceAdd] at hc) | (go_at_call 33; refine (gsplit_c zs 10 _ _ S.bd (by omega)).mono ?_; rw [HWS.out]; rintro e w1 ⟨v, rfl, hu⟩; obtain ⟨I1, S1, hI1⟩ := S.new hu; clear S hu hI1; (try clear hc); have S := S1; clear S1; have hc := S.cells; simp only [Cells, cellsC, Im, Row, El, Nat.zero_add, Nat.reduceAdd] at hc; obtain ⟨A4, c4, I1, e1, hc4, S1, hI1⟩ := S.frow 0 rfl; subst e1; clear S hI1; have S := S1; clear S1; simp only [List.set_cons_zero, List.set_cons_succ, List.nil_append] at S; have hc := S.cells; simp only [Cells, cellsC, Im, Row, El, Nat.zero_add, Nat.reduceAdd] at hc))
  replace S := (S.nilrow (k := kR))
  clear hc
  go_loopw [6, 7] (fun ov iv w' => ∃ (k : Nat) (out : List R5) (J : Fp), iv = .int .i64 k ∧ k ≤ ws.length ∧ out.length ≤ k ∧ As (goP ws 0 [] = goP (ws.drop k) k out) ∧ As (SH No I w [Row kR ov out, Im kT A4 ws] w' J)) (fun _ iv _ => ws.length - (intOf iv).toNat)
  case atStart => exact ⟨0, [], _, rfl, by omega, by simp, ⟨rfl⟩, ⟨S⟩⟩
  case round =>
    clear S
    obtain ⟨k, out, J, rfl, hk, hol, HG, ⟨S⟩⟩ := hrel
    by_cases hlt : k < ws.length
    · have hlt' : decide ((k : Int) < ws.length) = true := by simpa using hlt
      obtain ⟨b, o, rfl, hcx⟩ := (S.im 1 rfl).str_at hlt
      have HD : As (ws.drop k = ws[k] :: ws.drop (k + 1)) := ⟨List.drop_eq_getElem_cons hlt⟩
      have hpl := HWL.out _ (List.getElem_mem hlt)
      obtain ⟨p, hp⟩ : ∃ p, ws[k] = p := ⟨_, rfl⟩
      rw [hp] at hcx HD hpl
      clear hp
      have HG2 : As (goP ws 0 [] = if ws.drop (k + 1) = [] then (if p = [] then (out, 0, 0) else ([], k + 1, 10)) else if (lineR p).2 ≠ 0 then ([], k + 1, (lineR p).2) else goP (ws.drop (k + 1)) (k + 1) (out ++ [(lineR p).1])) := ⟨by rw [HG.out, HD.out]; rfl⟩
      clear HG HD
      by_cases hl : k + 1 = ws.length
      · have hl' : ((k : Int) == (ws.length : Int) - 1) = true := by rw [beq_iff_eq]; omega
        have HE : As (ws.drop (k + 1) = []) := ⟨List.drop_of_length_le (by omega)⟩
        by_cases hp0 : p = []
        · have HX : As ((xs, m, er) = (out, 0, 0)) := ⟨by rw [← HR.out]; unfold textP; rw [HWS.out, HG2.out, if_pos HE.out, if_pos hp0]⟩
          obtain ⟨rfl, h2⟩ := Prod.mk.inj HX.out
          obtain ⟨rfl, rfl⟩ := Prod.mk.inj h2
          have hpe : p.isEmpty = true := by rw [hp0]; rfl
          clear hp0 h2 HX
          have hc := S.cells; simp only [Cells, cellsC, Im, Row, El, Nat.zero_add, Nat.reduceAdd] at hc
          go_wp2_with (first | ((first | (with_reducible refine wpl_seal S ?_) | (with_reducible refine cw_seal S ?_) | (with_reducible refine bp_seal S ?_) | (with_reducible refine ca_seal S ?_)); clear S; (try clear hc); intro w1 S; (try simp only [List.set_cons_zero, List.set_cons_succ, List.nil_append] at S); have hc := S.cells; simp only [Cells, cellsC, Im, Row, El, Nat.zero_add, Nat.reduceAdd] at hc))
          go_ret3
          exact ⟨_, rfl, S.ret 0 rfl⟩
        · have HX : As ((xs, m, er) = ([], k + 1, 10)) := ⟨by rw [← HR.out]; unfold textP; rw [HWS.out, HG2.out, if_pos HE.out, if_neg hp0]⟩
          obtain ⟨rfl, h2⟩ := Prod.mk.inj HX.out
          obtain ⟨rfl, rfl⟩ := Prod.mk.inj h2
          have hpe : p.isEmpty = false := by cases p with | nil => exact absurd rfl hp0 | cons => rfl
          clear hp0 h2 HX
          replace S := S.nilrow (k := kR)
          have hc := S.cells; simp only [Cells, cellsC, Im, Row, El, Nat.zero_add, Nat.reduceAdd] at hc
          go_wp2_with (first | ((first | (with_reducible refine wpl_seal S ?_) | (with_reducible refine cw_seal S ?_) | (with_reducible refine bp_seal S ?_) | (with_reducible refine ca_seal S ?_)); clear S; (try clear hc); intro w1 S; (try simp only [List.set_cons_zero, List.set_cons_succ, List.nil_append] at S); have hc := S.cells; simp only [Cells, cellsC, Im, Row, El, Nat.zero_add, Nat.reduceAdd] at hc))
          go_ret3
          exact ⟨_, by first | rfl | (congr 1), S.ret 0 rfl⟩
      · have hl' : ((k : Int) == (ws.length : Int) - 1) = false := by rw [beq_eq_false_iff_ne]; omega
        have HE : As (ws.drop (k + 1) ≠ []) := ⟨fun e => by have := congrArg List.length e; rw [List.length_drop] at this; simp at this; omega⟩
        obtain ⟨q, hq⟩ : ∃ q, lineR p = q := ⟨_, rfl⟩
        obtain ⟨qx, qe⟩ := q
        have HQ := As.mk hq
        rw [hq, if_neg HE.out] at HG2
        by_cases h0 : qe = 0
        · subst h0
          have HG3 := As.mk (HG2.out.trans (if_neg (fun h => h rfl)))
          clear hq HG2
          have hc := S.cells; simp only [Cells, cellsC, Im, Row, El, Nat.zero_add, Nat.reduceAdd] at hc
          go_wp2_with (first | ((first | (with_reducible refine wpl_seal S ?_) | (with_reducible refine cw_seal S ?_) | (with_reducible refine bp_seal S ?_) | (with_reducible refine ca_seal S ?_)); clear S; (try clear hc); intro w1 S; (try simp only [List.set_cons_zero, List.set_cons_succ, List.nil_append] at S); have hc := S.cells; simp only [Cells, cellsC, Im, Row, El, Nat.zero_add, Nat.reduceAdd] at hc) | (go_at_call 34; refine (gline_c p (by omega) _ _ S.bd HQ.out).mono ?_; (try dsimp only [R5.v]); rintro e w1 ⟨rfl, hx⟩; clear hcx; replace S := S.ext hx; clear hx; (try clear hc); have hc := S.cells; simp only [Cells, cellsC, Im, Row, El, Nat.zero_add, Nat.reduceAdd] at hc) | (at_builtin; refine wpl_push S 2 rfl rfl _ _ rfl ty_r5s rfl qx _ _ rfl qx.cells _ (S.cel 0 rfl) rfl (by (try simp only [maxLen, List.length_nil, List.length_append, List.length_cons]); omega) (by (try simp only [maxLen, List.length_nil, List.length_append, List.length_cons]); omega) ?_; clear S; (try clear hc); intro va w1 S; simp only [List.set_cons_zero, List.set_cons_succ, List.nil_append] at S; have hc := S.cells; simp only [Cells, cellsC, Im, Row, El, Nat.zero_add, Nat.reduceAdd] at hc))
          go_roundw
          case rel => exact ⟨k + 1, out ++ [qx], _, by go_num, by omega, by rw [List.length_append]; simp; omega, HG3, ⟨(S.sel [2, 3] (by decide) rfl (by simp) : SH _ _ _ [_, _] _ _)⟩⟩
          case measure => simp [intOf]; omega
        · have h0' : (qe != 0) = true := by rw [bne_iff_ne]; exact h0
          have HX : As ((xs, m, er) = ([], k + 1, qe)) := ⟨by rw [← HR.out]; unfold textP; rw [HWS.out, HG2.out, if_pos h0]⟩
          obtain ⟨rfl, h2⟩ := Prod.mk.inj HX.out
          obtain ⟨rfl, rfl⟩ := Prod.mk.inj h2
          clear h0 h2 HX hq
          replace S := S.nilrow (k := kR)
          have hc := S.cells; simp only [Cells, cellsC, Im, Row, El, Nat.zero_add, Nat.reduceAdd] at hc
          go_wp2_with (first | ((first | (with_reducible refine wpl_seal S ?_) | (with_reducible refine cw_seal S ?_) | (with_reducible refine bp_seal S ?_) | (with_reducible refine ca_seal S ?_)); clear S; (try clear hc); intro w1 S; (try simp only [List.set_cons_zero, List.set_cons_succ, List.nil_append] at S); have hc := S.cells; simp only [Cells, cellsC, Im, Row, El, Nat.zero_add, Nat.reduceAdd] at hc) | (go_at_call 34; refine (gline_c p (by omega) _ _ S.bd HQ.out).mono ?_; (try dsimp only [R5.v]); rintro e w1 ⟨rfl, hx⟩; clear hcx; replace S := S.ext hx; clear hx; (try clear hc); have hc := S.cells; simp only [Cells, cellsC, Im, Row, El, Nat.zero_add, Nat.reduceAdd] at hc))
          go_ret3
          exact ⟨_, by first | rfl | (congr 1), S.ret 1 rfl⟩
    · have hlt' : decide ((k : Int) < ws.length) = false := by simpa using hlt
      have HX : As ((xs, m, er) = (out, 0, 0)) := ⟨by rw [← HR.out]; unfold textP; rw [HWS.out, HG.out, List.drop_of_length_le (by omega)]; rfl⟩
      obtain ⟨rfl, h2⟩ := Prod.mk.inj HX.out
      obtain ⟨rfl, rfl⟩ := Prod.mk.inj h2
      clear h2 HX
      have hc := S.cells; simp only [Cells, cellsC, Im, Row, El, Nat.zero_add, Nat.reduceAdd] at hc
      go_wp2_with (first | ((first | (with_reducible refine wpl_seal S ?_) | (with_reducible refine cw_seal S ?_) | (with_reducible refine bp_seal S ?_) | (with_reducible refine ca_seal S ?_)); clear S; (try clear hc); intro w1 S; (try simp only [List.set_cons_zero, List.set_cons_succ, List.nil_append] at S); have hc := S.cells; simp only [Cells, cellsC, Im, Row, El, Nat.zero_add, Nat.reduceAdd] at hc))
      go_ret3
      exact ⟨_, rfl, S.ret 0 rfl⟩
end Go.Proofs.YteaekpnmiicbhaaDoor
