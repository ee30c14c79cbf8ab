/- A text's records: the program's. -/
import Derived.Test.YteaekpnmiicbhaaDoorPPLn
import Derived.Test.YteaekpnmiicbhaaDoorPGPa
import Derived.Test.YteaekpnmiicbhaaDoorPCtS
namespace Go.Proofs.YteaekpnmiicbhaaDoor
open Go.RowKit X
set_option maxHeartbeats 2000000
set_option maxRecDepth 8000
set_option linter.unusedSimpArgs false
set_option linter.unusedVariables false
def strLen : Value → Nat
  | .string b => b.size
  | _ => 0
theorem strLen_strV (s : List UInt8) : strLen (strV s) = s.length := by show s.toArray.size = _; simp
theorem pcut_c (s : List UInt8) (c : UInt8) (m : Int) (w : World) (hs : s.length ≤ 1000000) (hm : w.cell? ⟨0, 0, none⟩ = some (.int .i64 m)) {a b : List UInt8} {h : Bool} (hc : Lib.cut s [c] = (a, b, h)) :
    Calls Tryd.prog 29 #[strV s, strV [c]] w fun e w' => e = .returned (.tuple #[strV a, strV b, .bool h]) ∧ Ext w w' := by
  have hz : (⟨s.toArray⟩ : ByteArray).size = s.length := by show s.toArray.size = _; simp
  refine (Tryd.strings_Cut ⟨s.toArray⟩ ⟨#[c]⟩ m w (by rw [hz]; omega) hm).mono ?_
  rintro e w' ⟨rfl, n, rfl⟩
  have e1 : Lib.cut (⟨s.toArray⟩ : ByteArray).data.toList (⟨#[c]⟩ : ByteArray).data.toList = (a, b, h) := by simpa using hc
  rw [e1]
  exact ⟨rfl, (Qt.ext ⟨n, rfl⟩)⟩
theorem pparse_c (zs : List UInt8) (hz : zs.length ≤ 2000) (w : World) (I : Fp) (hI : ∀ b, I b → b < w.heap.size) {mx : Int} (hm : w.cell? ⟨0, 0, none⟩ = some (.int .i64 mx)) (hI0 : I 0) {xs : List R5} {m : Nat} {er : Int} (hr : textP zs = (xs, m, er)) :
    Calls Tryd.prog 10 #[strV zs] w fun e w' => ∃ v, e = .returned (.tuple #[v, .int .i64 m, .int .i64 er]) ∧ Upd w No I w' (Row kC v xs) := by
  have S := ((SH.start w I hI).know (h := CF 0 0 (.int .i64 mx)) ⟨hm, hI0⟩).nilrow (k := kC)
  have HR := As.mk hr
  clear hr hm
  have hc := S.cells; simp only [Cells, cellsC, Im, Row, El, CF, Nat.zero_add, Nat.reduceAdd] at hc
  go_enter Tryd.func10, Tryd.ntmps10
  go_wp2_with (first | ((first | (with_reducible refine wpl_seal S ?_) | (with_reducible refine cw_seal S ?_) | (with_reducible refine bp_seal S ?_) | (with_reducible refine ca_seal S ?_)); clear S; (try clear hc); intro w1 S; (try simp only [List.set_cons_zero, List.set_cons_succ, List.nil_append] at S); have hc := S.cells; simp only [Cells, cellsC, Im, Row, El, CF, Nat.zero_add, Nat.reduceAdd] at hc))
  clear hc
  go_loopw [0, 5, 6] (fun sv ov iv w' => ∃ (s : List UInt8) (out : List R5) (i : Nat) (J : Fp), sv = strV s ∧ iv = .int .i64 ((i : Int) + 1) ∧ s.length + i ≤ 2000 ∧ out.length ≤ i ∧ As (textP zs = goP (spl 10 s) i out) ∧ J 0 ∧ As (SH No I w [Row kC ov out, CF 0 0 (.int .i64 mx)] w' J)) (fun sv _ _ _ => strLen sv)
  case atStart => exact ⟨zs, [], 0, _, rfl, rfl, by omega, by simp, ⟨rfl⟩, hI0, ⟨S⟩⟩
  case round =>
    clear S
    obtain ⟨s, out, i, J, rfl, rfl, hsl, hol, HG, hJ0, ⟨S⟩⟩ := hrel
    by_cases hs0 : s = []
    · have HX : As ((xs, m, er) = (out, 0, 0)) := ⟨by rw [← HR.out, HG.out, hs0]; rfl⟩
      obtain ⟨rfl, h2⟩ := Prod.mk.inj HX.out
      obtain ⟨rfl, rfl⟩ := Prod.mk.inj h2
      have hpe : s.isEmpty = true := by rw [hs0]; rfl
      clear hs0 h2 HX
      have hc := S.cells; simp only [Cells, cellsC, Im, Row, El, CF, Nat.zero_add, Nat.reduceAdd] at hc
      go_wp2_with (first | ((first | (with_reducible refine wpl_seal S ?_) | (with_reducible refine cw_seal S ?_) | (with_reducible refine bp_seal S ?_) | (with_reducible refine ca_seal S ?_)); clear S; (try clear hc); intro w1 S; (try simp only [List.set_cons_zero, List.set_cons_succ, List.nil_append] at S); have hc := S.cells; simp only [Cells, cellsC, Im, Row, El, CF, Nat.zero_add, Nat.reduceAdd] at hc))
      go_ret3
      exact ⟨_, rfl, S.ret 0 rfl⟩
    · have hpe : s.isEmpty = false := by cases s with | nil => exact absurd rfl hs0 | cons => rfl
      obtain ⟨q, hq⟩ : ∃ q, Lib.cut s [10] = q := ⟨_, rfl⟩
      obtain ⟨a, b, hb⟩ := q
      have HQ := As.mk hq
      have hcut := cut_eq 10 s
      rw [hq] at hcut
      obtain ⟨l, hl⟩ : ∃ l, lineR a = l := ⟨_, rfl⟩
      obtain ⟨lx, le⟩ := l
      have HL := As.mk hl
      have hal : a.length ≤ 2000 := by
        rcases hcut with ⟨_, _, _, h⟩ | ⟨_, _, h⟩
        · simp only at h; omega
        · simp only at h; rw [h]; omega
      have CUTA : As (∀ w', Sl kC w' No none ([] : List R5)) := ⟨fun _ => Sl.nil⟩
      rcases hb with _ | _
      · have h1 : spl 10 s = [s] := by
          rcases hcut with ⟨h, _⟩ | ⟨_, h, _⟩
          · cases h
          · exact h
        have HX : As ((xs, m, er) = ([], i + 1, 10)) := ⟨by rw [← HR.out, HG.out, h1]; simp [goP, hs0]⟩
        obtain ⟨rfl, h2⟩ := Prod.mk.inj HX.out
        obtain ⟨rfl, rfl⟩ := Prod.mk.inj h2
        clear hs0 h2 HX h1 hcut hq hl
        replace S := ((S.sel [0, 1] (by decide) rfl (by simp) : SH _ _ _ [_, _] _ _) : SH _ _ _ [_, _] _ _).nilrow (k := kC)
        have hc := S.cells; simp only [Cells, cellsC, Im, Row, El, CF, Nat.zero_add, Nat.reduceAdd] at hc
        go_wp2_with (first | ((first | (with_reducible refine wpl_seal S ?_) | (with_reducible refine cw_seal S ?_) | (with_reducible refine bp_seal S ?_) | (with_reducible refine ca_seal S ?_)); clear S; (try clear hc); intro w1 S; (try simp only [List.set_cons_zero, List.set_cons_succ, List.nil_append] at S); have hc := S.cells; simp only [Cells, cellsC, Im, Row, El, CF, Nat.zero_add, Nat.reduceAdd] at hc) | (go_at_call 29; refine (pcut_c s 10 mx _ (by omega) (S.cf 2 rfl) HQ.out).mono ?_; rintro e w1 ⟨rfl, hx⟩; replace S := S.ext hx; clear hx; (try clear hc); have hc := S.cells; simp only [Cells, cellsC, Im, Row, El, CF, Nat.zero_add, Nat.reduceAdd] at hc) | (go_at_call 30; refine (pline_c a hal _ _ S.bd (S.cf 2 rfl) hJ0 HL.out).mono ?_; (try dsimp only [R5.v]); rintro e w1 ⟨rfl, hx⟩; replace S := S.ext hx; clear hx; (try clear hc); have hc := S.cells; simp only [Cells, cellsC, Im, Row, El, CF, Nat.zero_add, Nat.reduceAdd] at hc))
        go_ret3
        exact ⟨_, by first | rfl | (congr 1), S.ret 1 rfl⟩
      · obtain ⟨h1, h2⟩ : spl 10 s = a :: spl 10 b ∧ b.length < s.length := by
          rcases hcut with ⟨_, h, h', _⟩ | ⟨h, _⟩
          · exact ⟨h, h'⟩
          · cases h
        have HG2 : As (textP zs = if le ≠ 0 then ([], i + 1, le) else goP (spl 10 b) (i + 1) (out ++ [lx])) := ⟨by
          rw [HG.out, h1]
          simp only [goP]
          rw [if_neg (spl_ne 10 b), hl]⟩
        by_cases h0 : le = 0
        · subst h0
          have HG3 := As.mk (HG2.out.trans (if_neg (fun h => h rfl)))
          have HSL : As (strLen (strV b) < strLen (strV s)) := ⟨by rw [strLen_strV, strLen_strV]; exact h2⟩
          clear hs0 h1 hcut hq hl HG HG2
          have hc := S.cells; simp only [Cells, cellsC, Im, Row, El, CF, Nat.zero_add, Nat.reduceAdd] at hc
          go_wp2_with (first | ((first | (with_reducible refine wpl_seal S ?_) | (with_reducible refine cw_seal S ?_) | (with_reducible refine bp_seal S ?_) | (with_reducible refine ca_seal S ?_)); clear S; (try clear hc); intro w1 S; (try simp only [List.set_cons_zero, List.set_cons_succ, List.nil_append] at S); have hc := S.cells; simp only [Cells, cellsC, Im, Row, El, CF, Nat.zero_add, Nat.reduceAdd] at hc) | (go_at_call 29; refine (pcut_c s 10 mx _ (by omega) (S.cf 1 rfl) HQ.out).mono ?_; rintro e w1 ⟨rfl, hx⟩; replace S := S.ext hx; clear hx; (try clear hc); have hc := S.cells; simp only [Cells, cellsC, Im, Row, El, CF, Nat.zero_add, Nat.reduceAdd] at hc) | (go_at_call 30; refine (pline_c a hal _ _ S.bd (S.cf 1 rfl) hJ0 HL.out).mono ?_; (try dsimp only [R5.v]); rintro e w1 ⟨rfl, hx⟩; replace S := S.ext hx; clear hx; (try clear hc); have hc := S.cells; simp only [Cells, cellsC, Im, Row, El, CF, Nat.zero_add, Nat.reduceAdd] at hc) | (at_builtin; refine wpl_push S 2 rfl rfl _ _ rfl ty_recs rfl lx _ _ rfl lx.cells _ (S.cel 0 rfl) rfl (by (try simp only [maxLen, List.length_nil, List.length_append, List.length_cons]); omega) (by (try simp only [maxLen, List.length_nil, List.length_append, List.length_cons]); omega) ?_; clear S; (try clear hc); intro va w1 S; simp only [List.set_cons_zero, List.set_cons_succ, List.nil_append] at S; have hc := S.cells; simp only [Cells, cellsC, Im, Row, El, CF, Nat.zero_add, Nat.reduceAdd] at hc))
          go_roundw
          case rel => exact ⟨b, out ++ [lx], i + 1, _, rfl, by go_num, by omega, by rw [List.length_append]; simp; omega, HG3, hJ0, ⟨(S.sel [2, 3] (by decide) rfl (by simp) : SH _ _ _ [_, _] _ _)⟩⟩
          case measure => exact HSL.out
        · have h0' : (le != 0) = true := by rw [bne_iff_ne]; exact h0
          have HX : As ((xs, m, er) = ([], i + 1, le)) := ⟨by rw [← HR.out, HG2.out, if_pos h0]⟩
          obtain ⟨rfl, h3⟩ := Prod.mk.inj HX.out
          obtain ⟨rfl, rfl⟩ := Prod.mk.inj h3
          clear hs0 h3 HX h0 h1 hcut hq hl HG HG2
          replace S := ((S.sel [0, 1] (by decide) rfl (by simp) : SH _ _ _ [_, _] _ _) : SH _ _ _ [_, _] _ _).nilrow (k := kC)
          have hc := S.cells; simp only [Cells, cellsC, Im, Row, El, CF, Nat.zero_add, Nat.reduceAdd] at hc
          go_wp2_with (first | ((first | (with_reducible refine wpl_seal S ?_) | (with_reducible refine cw_seal S ?_) | (with_reducible refine bp_seal S ?_) | (with_reducible refine ca_seal S ?_)); clear S; (try clear hc); intro w1 S; (try simp only [List.set_cons_zero, List.set_cons_succ, List.nil_append] at S); have hc := S.cells; simp only [Cells, cellsC, Im, Row, El, CF, Nat.zero_add, Nat.reduceAdd] at hc) | (go_at_call 29; refine (pcut_c s 10 mx _ (by omega) (S.cf 2 rfl) HQ.out).mono ?_; rintro e w1 ⟨rfl, hx⟩; replace S := S.ext hx; clear hx; (try clear hc); have hc := S.cells; simp only [Cells, cellsC, Im, Row, El, CF, Nat.zero_add, Nat.reduceAdd] at hc) | (go_at_call 30; refine (pline_c a hal _ _ S.bd (S.cf 2 rfl) hJ0 HL.out).mono ?_; (try dsimp only [R5.v]); rintro e w1 ⟨rfl, hx⟩; replace S := S.ext hx; clear hx; (try clear hc); have hc := S.cells; simp only [Cells, cellsC, Im, Row, El, CF, Nat.zero_add, Nat.reduceAdd] at hc))
          go_ret3
          exact ⟨_, by first | rfl | (congr 1), S.ret 1 rfl⟩
end Go.Proofs.YteaekpnmiicbhaaDoor
