/- Records' text: the document's. -/
import Derived.Test.YteaekpnmiicbhaaDoorPGDc
import Derived.Test.YteaekpnmiicbhaaDoorPMay
namespace Go.Proofs.YteaekpnmiicbhaaDoor
open Go.RowKit X
set_option maxHeartbeats 2000000
set_option maxRecDepth 8000
set_option linter.unusedSimpArgs false
set_option linter.unusedVariables false
def wordsR (x : R5) : List (List UInt8) := x.list.map fun v => decL v.toNat
def gK (ws : List (List UInt8)) : Nat → List UInt8
  | 0 => []
  | k + 1 => gK ws k ++ ws.getD k [] ++ (if k < 4 then [32] else [])
theorem gK_line (x : R5) : gK (wordsR x) 5 ++ [10] = line1 x := by
  unfold line1 wordsR R5.list
  simp [gK, Lib.join]
theorem line1_le2 {x : R5} (h : ∀ v ∈ x.list, okN v) : ∀ k, k ≤ 5 → (gK (wordsR x) k).length ≤ 20 * k
  | 0, _ => by simp [gK]
  | k + 1, hk => by
    have ih := line1_le2 h k (by omega)
    have hl : x.list.length = 5 := rfl
    have hw : ((wordsR x).getD k []).length ≤ 19 := by
      rw [List.getD_eq_getElem?_getD]
      unfold wordsR
      rw [List.getElem?_map, List.getElem?_eq_getElem (by omega)]
      have := h _ (List.getElem_mem (show k < x.list.length by omega))
      exact decL_le (by unfold okN at this; omega)
    simp only [gK, List.length_append]
    split
    · rw [List.length_singleton]; omega
    · rw [List.length_nil]; omega
theorem textR_snoc {l : List R5} {k : Nat} (h : k < l.length) : textR (l.take (k + 1)) = textR (l.take k) ++ line1 l[k] := by
  unfold textR
  rw [List.take_succ_eq_append_getElem h, List.flatMap_append]
  simp
theorem gtext_c (l : List R5) (A : Option Addr) (c : Nat) (w : World) (I : Fp) (hI : ∀ b, I b → b < w.heap.size) (hl : Sl kR w I A l) (hn : l.length ≤ 1000) {am : Bool} (ham : l.all mayR = am) :
    Calls Tryd.prog 9 #[.slice A l.length c] w fun e w' => e = .returned (if am then .tuple #[strV (textR l), .int .i64 0] else .tuple #[strV [], .int .i64 1]) ∧ Ext w w' := by
  have S := (SH.start w I hI).know (h := Im kR A l) hl
  have HAM := As.mk ham
  clear hl ham
  have hc := S.cells; simp only [Cells, cellsC, Im, Row, El, Nat.zero_add, Nat.reduceAdd] at hc
  go_enter Tryd.func9, Tryd.ntmps9
  go_wp2_with (first | ((first | (with_reducible refine wpl_seal S ?_) | (with_reducible refine cw_seal S ?_) | (with_reducible refine bp_seal S ?_) | (with_reducible refine ca_seal S ?_)); clear S; (try clear hc); intro w1 S; (try simp only [List.set_cons_zero, List.set_cons_succ, List.nil_append] at S); have hc := S.cells; simp only [Cells, cellsC, Im, Row, El, Nat.zero_add, Nat.reduceAdd] at hc))
  clear hc
  go_loopw [4, 5] (fun sv iv w' => ∃ (i : Nat) (t : List UInt8) (J : Fp), iv = .int .i64 i ∧ sv = strV t ∧ i ≤ l.length ∧ t.length ≤ 101 * i ∧ As (t = textR (l.take i)) ∧ As (∀ (j : Nat) (h : j < l.length), j < i → mayR l[j] = true) ∧ As (SH No I w [Im kR A l] w' J)) (fun _ iv _ => l.length - (intOf iv).toNat)
  case atStart => exact ⟨0, [], _, rfl, rfl, Nat.zero_le _, by simp, ⟨rfl⟩, ⟨fun j _ h => absurd h (Nat.not_lt_zero j)⟩, ⟨S⟩⟩
  case round =>
    clear S
    obtain ⟨i, t, J, rfl, rfl, hi, htl, HT, HM, ⟨S⟩⟩ := hrel
    by_cases hlt : i < l.length
    · have hlt' : decide ((i : Int) < l.length) = true := by simp; omega
      have HTS := As.mk (textR_snoc hlt)
      have HMN : As (mayR l[i] = true → ∀ (j : Nat) (h : j < l.length), j < i + 1 → mayR l[j] = true) := ⟨fun h0 j hj h => by
        rcases Nat.lt_or_eq_of_le (Nat.le_of_lt_succ h) with h1 | h1
        · exact HM.out j hj h1
        · subst h1; exact h0⟩
      have HF : As (mayR l[i] = false → l.all mayR = false) := ⟨fun h => allF hlt h⟩
      obtain ⟨b, o, rfl, g0, g1, g2, g3, g4⟩ := (S.im 0 rfl).r5_at hlt
      obtain ⟨x, hx⟩ : ∃ x, l[i] = x := ⟨_, rfl⟩
      have HX := As.mk hx
      rw [hx] at g0 g1 g2 g3 g4 HTS HMN HF
      clear hx
      obtain ⟨q, hq⟩ : ∃ q, mayR x = q := ⟨_, rfl⟩
      have HQ := As.mk hq
      rw [hq] at HMN HF
      rcases q with _ | _
      · obtain rfl : am = false := HAM.out.symm.trans (HF.out rfl)
        clear hq
        have hc := S.cells; simp only [Cells, cellsC, Im, Row, El, Nat.zero_add, Nat.reduceAdd] at hc
        go_wp2_with (first | ((first | (with_reducible refine wpl_seal S ?_) | (with_reducible refine cw_seal S ?_) | (with_reducible refine bp_seal S ?_) | (with_reducible refine ca_seal S ?_)); clear S; (try clear hc); intro w1 S; (try simp only [List.set_cons_zero, List.set_cons_succ, List.nil_append] at S); have hc := S.cells; simp only [Cells, cellsC, Im, Row, El, Nat.zero_add, Nat.reduceAdd] at hc) | (go_at_call 12; refine (may_c x _ _ S.bd).mono ?_; rw [HQ.out]; (try dsimp only [R5.v]); rintro e w1 ⟨rfl, hx⟩; replace S := S.ext hx; clear hx; (try clear hc); have hc := S.cells; simp only [Cells, cellsC, Im, Row, El, Nat.zero_add, Nat.reduceAdd] at hc))
        go_ret2
        exact ⟨rfl, S.out⟩
      · have hok := mayR_ok hq
        have HOK := As.mk hok
        have HGL := As.mk (gK_line x)
        have HGE := As.mk (line1_le2 hok)
        obtain ⟨ys, hys⟩ : ∃ ys, x.list = ys := ⟨_, rfl⟩
        have HYS := As.mk hys
        have hyl : ys.length = 5 := by rw [← hys]; rfl
        have HW : As (∀ (k : Nat) (h : k < ys.length), (wordsR x).getD k [] = decL ys[k].toNat) := ⟨fun k h => by unfold wordsR; rw [hys, List.getD_eq_getElem?_getD, List.getElem?_map, List.getElem?_eq_getElem h]; rfl⟩
        obtain ⟨ws, hws⟩ : ∃ ws, wordsR x = ws := ⟨_, rfl⟩
        rw [hws] at HGL HGE HW
        have HMN2 := As.mk (HMN.out rfl)
        have hc1 := HYS
        clear hq hok hys hws HMN HF
        have hc := S.cells; simp only [Cells, cellsC, Im, Row, El, Nat.zero_add, Nat.reduceAdd] at hc
        go_wp2_with (first | ((first | (with_reducible refine wpl_seal S ?_) | (with_reducible refine cw_seal S ?_) | (with_reducible refine bp_seal S ?_) | (with_reducible refine ca_seal S ?_)); clear S; (try clear hc); intro w1 S; (try simp only [List.set_cons_zero, List.set_cons_succ, List.nil_append] at S); have hc := S.cells; simp only [Cells, cellsC, Im, Row, El, Nat.zero_add, Nat.reduceAdd] at hc) | (go_at_call 12; refine (may_c x _ _ S.bd).mono ?_; rw [HQ.out]; (try dsimp only [R5.v]); rintro e w1 ⟨rfl, hx⟩; clear g0 g1 g2 g3 g4; replace S := S.ext hx; clear hx; (try clear hc); have hc := S.cells; simp only [Cells, cellsC, Im, Row, El, Nat.zero_add, Nat.reduceAdd] at hc; obtain ⟨b5, o5, e5, g0, g1, g2, g3, g4⟩ := (S.im 0 rfl).r5_at hlt; cases e5; rw [HX.out] at g0 g1 g2 g3 g4) | (go_at_call 27; refine (numbers_c x _ _ S.bd).mono ?_; rw [HYS.out]; (try dsimp only [R5.v]); rintro e w1 ⟨g, rfl, hu⟩; clear g0 g1 g2 g3 g4; obtain ⟨I1, S1, hI1⟩ := S.new hu; clear S hu hI1; (try clear hc); have S := S1; clear S1; have hc := S.cells; simp only [Cells, cellsC, Im, Row, El, Nat.zero_add, Nat.reduceAdd] at hc))
        clear hc
        go_loopw [4, 8] (fun sv kv w' => ∃ (k : Nat) (u : List UInt8) (J : Fp), kv = .int .i64 k ∧ sv = strV u ∧ k ≤ 5 ∧ u.length ≤ 101 * i + 20 * k ∧ As (u = t ++ gK ws k) ∧ As (SH No I w [Cel g 3 (ys.map (Value.int .i64)), Im kR (some ⟨b, o, none⟩) l] w' J)) (fun _ kv _ => 5 - (intOf kv).toNat)
        case atStart => exact ⟨0, t, _, rfl, rfl, by omega, by omega, ⟨(List.append_nil _).symm⟩, ⟨S⟩⟩
        case round =>
          clear S
          obtain ⟨k, u, J, rfl, rfl, hk, hul, HU, ⟨S⟩⟩ := hrel
          by_cases hk5 : k < 5
          · have hk5' : decide ((k : Int) < 5) = true := by simp; omega
            have hky : k < ys.length := by omega
            have hck := S.cell 0 k (u := .int .i64 ys[k]) rfl (by rw [List.getElem?_map, List.getElem?_eq_getElem hky]; rfl)
            have hyk := HOK.out ys[k] (by rw [HYS.out]; exact List.getElem_mem hky)
            have HWK := As.mk (HW.out k hky)
            generalize ys[k] = y at hck hyk HWK
            obtain ⟨hy0, hy1⟩ := hyk
            obtain ⟨yn, rfl⟩ : ∃ yn : Nat, y = yn := ⟨y.toNat, by omega⟩
            rw [Int.toNat_natCast] at HWK
            have hdl := decL_le (n := yn) (by omega)
            have HGK : As (gK ws (k + 1) = gK ws k ++ decL yn ++ (if k < 4 then [32] else [])) := ⟨by rw [← HWK.out]; rfl⟩
            have hst := str_app u (decL yn)
            have hst2 := str_app (u ++ decL yn) [32]
            by_cases hk4 : k < 4
            · have hk4' : decide ((k : Int) < 4) = true := by simp; omega
              have HU2 : As (u ++ decL yn ++ [32] = t ++ gK ws (k + 1)) := ⟨by rw [HGK.out, if_pos hk4, HU.out, List.append_assoc, List.append_assoc, List.append_assoc]⟩
              have hln : (u ++ decL yn).length ≤ 1000000 := by rw [List.length_append]; omega
              have hln2 : (u ++ decL yn ++ [32]).length ≤ 101 * i + 20 * (k + 1) := by simp only [List.length_append, List.length_singleton]; omega
              clear HGK hk4
              have hc := S.cells; simp only [Cells, cellsC, Im, Row, El, Nat.zero_add, Nat.reduceAdd] at hc
              go_wp2_with (first | ((first | (with_reducible refine wpl_seal S ?_) | (with_reducible refine cw_seal S ?_) | (with_reducible refine bp_seal S ?_) | (with_reducible refine ca_seal S ?_)); clear S; (try clear hc); intro w1 S; (try simp only [List.set_cons_zero, List.set_cons_succ, List.nil_append] at S); have hc := S.cells; simp only [Cells, cellsC, Im, Row, El, Nat.zero_add, Nat.reduceAdd] at hc) | (go_at_call 28; refine (gdec_c (yn + 1) yn (by omega) (by omega) _ _ S.bd).mono ?_; rintro e w1 ⟨rfl, hx⟩; clear hck; replace S := S.ext hx; clear hx; (try clear hc); have hc := S.cells; simp only [Cells, cellsC, Im, Row, El, Nat.zero_add, Nat.reduceAdd] at hc))
              go_roundw
              case rel => exact ⟨k + 1, u ++ decL yn ++ [32], _, by go_num, by first | rfl | simp [strV], by omega, hln2, HU2, ⟨by first | exact S | trivial⟩⟩
              case measure => simp [intOf]; omega
            · have hk4' : decide ((k : Int) < 4) = false := by simp; omega
              have HU2 : As (u ++ decL yn = t ++ gK ws (k + 1)) := ⟨by rw [HGK.out, if_neg hk4, HU.out, List.append_nil, List.append_assoc]⟩
              have hln2 : (u ++ decL yn).length ≤ 101 * i + 20 * (k + 1) := by rw [List.length_append]; omega
              clear HGK hk4
              have hc := S.cells; simp only [Cells, cellsC, Im, Row, El, Nat.zero_add, Nat.reduceAdd] at hc
              go_wp2_with (first | ((first | (with_reducible refine wpl_seal S ?_) | (with_reducible refine cw_seal S ?_) | (with_reducible refine bp_seal S ?_) | (with_reducible refine ca_seal S ?_)); clear S; (try clear hc); intro w1 S; (try simp only [List.set_cons_zero, List.set_cons_succ, List.nil_append] at S); have hc := S.cells; simp only [Cells, cellsC, Im, Row, El, Nat.zero_add, Nat.reduceAdd] at hc) | (go_at_call 28; refine (gdec_c (yn + 1) yn (by omega) (by omega) _ _ S.bd).mono ?_; rintro e w1 ⟨rfl, hx⟩; clear hck; replace S := S.ext hx; clear hx; (try clear hc); have hc := S.cells; simp only [Cells, cellsC, Im, Row, El, Nat.zero_add, Nat.reduceAdd] at hc))
              go_roundw
              case rel => exact ⟨k + 1, u ++ decL yn, _, by go_num, by first | rfl | simp [strV], by omega, hln2, HU2, ⟨by first | exact S | trivial⟩⟩
              case measure => simp [intOf]; omega
          · have hk5' : decide ((k : Int) < 5) = false := by simp; omega
            obtain rfl : k = 5 := by omega
            have HU2 : As (u ++ [10] = textR (l.take (i + 1))) := ⟨by rw [HTS.out, ← HT.out, HU.out, ← HGL.out, List.append_assoc]⟩
            have hln2 : (u ++ [10]).length ≤ 101 * (i + 1) := by rw [List.length_append, List.length_singleton]; omega
            have hc := S.cells; simp only [Cells, cellsC, Im, Row, El, Nat.zero_add, Nat.reduceAdd] at hc
            go_wp2_with (first | ((first | (with_reducible refine wpl_seal S ?_) | (with_reducible refine cw_seal S ?_) | (with_reducible refine bp_seal S ?_) | (with_reducible refine ca_seal S ?_)); clear S; (try clear hc); intro w1 S; (try simp only [List.set_cons_zero, List.set_cons_succ, List.nil_append] at S); have hc := S.cells; simp only [Cells, cellsC, Im, Row, El, Nat.zero_add, Nat.reduceAdd] at hc))
            go_roundw
            case rel => exact ⟨i + 1, u ++ [10], _, by go_num, by first | rfl | simp [strV], by omega, hln2, HU2, HMN2, ⟨(S.sel [1] (by decide) rfl (by simp) : SH _ _ _ [_] _ _)⟩⟩
            case measure => simp [intOf]; omega
    · have hlt' : decide ((i : Int) < l.length) = false := by simp; omega
      obtain rfl : am = true := HAM.out.symm.trans (allT fun j hj => HM.out j hj (by omega))
      have HT2 : As (t = textR l) := ⟨by rw [HT.out, List.take_of_length_le (by omega)]⟩
      have hc := S.cells; simp only [Cells, cellsC, Im, Row, El, Nat.zero_add, Nat.reduceAdd] at hc
      go_wp2_with (first | ((first | (with_reducible refine wpl_seal S ?_) | (with_reducible refine cw_seal S ?_) | (with_reducible refine bp_seal S ?_) | (with_reducible refine ca_seal S ?_)); clear S; (try clear hc); intro w1 S; (try simp only [List.set_cons_zero, List.set_cons_succ, List.nil_append] at S); have hc := S.cells; simp only [Cells, cellsC, Im, Row, El, Nat.zero_add, Nat.reduceAdd] at hc))
      go_ret2
      rw [← HT2.out]
      exact ⟨rfl, S.out⟩
end Go.Proofs.YteaekpnmiicbhaaDoor
