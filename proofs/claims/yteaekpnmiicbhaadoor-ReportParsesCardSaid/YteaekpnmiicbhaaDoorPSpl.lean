/- A text's pieces: the library's and the document's. -/
import Derived.Test.YteaekpnmiicbhaaDoorPText
import Derived.Test.YteaekpnmiicbhaaDoorShelf
import Derived.Lib.SplitLaws
import Derived.Laws.DeepStrings4
namespace Go.Proofs.YteaekpnmiicbhaaDoor
open Go.RowKit X
set_option maxHeartbeats 1000000
set_option maxRecDepth 8000
set_option linter.unusedSimpArgs false
set_option linter.unusedVariables false
/-- the pieces around each c -/
def spl (c : UInt8) : List UInt8 → List (List UInt8)
  | [] => [[]]
  | b :: r => if b = c then [] :: spl c r else (b :: (spl c r).headD []) :: (spl c r).tail
theorem spl_ne (c : UInt8) : ∀ l, spl c l ≠ []
  | [] => by simp [spl]
  | b :: r => by unfold spl; split <;> simp
/-- pieces, the first behind own -/
def splG (c : UInt8) (own l : List UInt8) : List (List UInt8) := (own ++ (spl c l).headD []) :: (spl c l).tail
theorem splG_nil (c : UInt8) (l : List UInt8) : splG c [] l = spl c l := by
  unfold splG
  cases h : spl c l with
  | nil => exact absurd h (spl_ne c l)
  | cons a t => rfl
theorem splG_eq (c : UInt8) (own r : List UInt8) : splG c own (c :: r) = own :: splG c [] r := by
  rw [splG_nil]
  unfold splG
  simp [spl]
theorem splG_cons {c b : UInt8} (h : b ≠ c) (own r : List UInt8) : splG c own (b :: r) = splG c (own ++ [b]) r := by
  unfold splG
  simp [spl, h]
theorem splG_end (c : UInt8) (own : List UInt8) : splG c own [] = [own] := by simp [splG, spl]
theorem spl_len (c : UInt8) : ∀ l, (spl c l).length ≤ l.length + 1
  | [] => by simp [spl]
  | b :: r => by
    have := spl_len c r
    unfold spl
    split
    · simp; omega
    · simp; omega
theorem lib_split (c : UInt8) : ∀ l, Lib.split l [c] = spl c l
  | [] => by
    unfold Lib.split
    rw [Lib.count_one]
    rfl
  | b :: r => by
    have ih := lib_split c r
    unfold Lib.split at ih ⊢
    by_cases h : b = c
    · subst h
      rw [Lib.count_cons_eq, Nat.add_comm]
      have hix : Lib.index (b :: r) [b] = 0 := by rw [Lib.index]; simp [List.isPrefixOf]
      unfold Lib.splitK
      rw [hix]
      simp only [spl, if_pos]
      rw [show ((0 : Int) == -1) = false from rfl]
      simpa using ih
    · rw [Lib.count_cons_ne b c r h]
      have hp : ([c] : List UInt8).isPrefixOf (b :: r) = false := by simp [List.isPrefixOf, Ne.symm h]
      have hix : Lib.index (b :: r) [c] = if Lib.index r [c] == -1 then -1 else Lib.index r [c] + 1 := by rw [Lib.index, hp]; simp
      simp only [spl, if_neg h]
      by_cases hm : Lib.index r [c] = -1
      · have h0 : Lib.count r [c] = 0 := Lib.count_miss hm
        rw [h0] at ih ⊢
        rw [← ih]
        rfl
      · have hge := Lib.index_ge r [c]
        obtain ⟨j, hj⟩ : ∃ j : Nat, Lib.index r [c] = j := ⟨(Lib.index r [c]).toNat, by omega⟩
        have hct : Lib.count r [c] = 1 + Lib.count (r.drop (j + 1)) [c] := Lib.count_hit (by simp) hj
        rw [hct, Nat.add_comm] at ih ⊢
        have hix' : Lib.index (b :: r) [c] = ((j + 1 : Nat) : Int) := by rw [hix, if_neg (fun e => hm (beq_iff_eq.1 e)), hj]; omega
        unfold Lib.splitK at ih ⊢
        rw [hj] at ih
        rw [hix']
        have n1 : (((j : Nat) : Int) == -1) = false := by rw [beq_eq_false_iff_ne]; omega
        have n2 : (((j + 1 : Nat) : Int) == -1) = false := by rw [beq_eq_false_iff_ne]; omega
        rw [n1] at ih
        rw [n2]
        simp only [Bool.false_eq_true, if_false, Int.toNat_natCast, Nat.add_zero, List.length_singleton] at ih ⊢
        rw [← ih]
        simp
theorem psplit_c (zs : List UInt8) (c : UInt8) (m : Int) (w : World) (hs : zs.length ≤ 1000000) (hm : w.cell? ⟨0, 0, none⟩ = some (.int .i64 m)) :
    Calls Tryd.prog 45 #[strV zs, strV [c]] w fun e w' => e = .returned (.slice (some ⟨w.heap.size, 0, none⟩) (spl c zs).length (spl c zs).length) ∧ w' = w.alloc (.cells ((spl c zs).map strV).toArray 9 (0, 0)) := by
  have hz : (⟨zs.toArray⟩ : ByteArray).size = zs.length := by show zs.toArray.size = _; simp
  refine (Tryd.strings_Split ⟨zs.toArray⟩ ⟨#[c]⟩ m w (by rw [hz]; omega) hm (Nat.le_refl 1)).mono ?_
  rintro e w' ⟨rfl, rfl⟩
  have h1 : (Lib.splitB ⟨#[c]⟩ 0 (Lib.countB ⟨zs.toArray⟩ ⟨#[c]⟩) ⟨zs.toArray⟩).map (·.data.toList) = spl c zs := by
    rw [Lib.splitB_data]
    have := lib_split c zs
    unfold Lib.split at this
    simpa using this
  have h2 : (Lib.splitB ⟨#[c]⟩ 0 (Lib.countB ⟨zs.toArray⟩ ⟨#[c]⟩) ⟨zs.toArray⟩).map Value.string = (spl c zs).map strV := by
    rw [← h1, List.map_map]
    rfl
  have h3 : Lib.countB ⟨zs.toArray⟩ ⟨#[c]⟩ + 1 = (spl c zs).length := by
    rw [← h1, List.length_map, Lib.splitB_all ⟨#[c]⟩ (Nat.le_refl 1) 0 _ _ rfl]
  rw [h2, h3]
  exact ⟨rfl, rfl⟩
theorem gsplit_c (zs : List UInt8) (c : UInt8) (w : World) (I : Fp) (hI : ∀ b, I b → b < w.heap.size) (hs : zs.length ≤ 1000) :
    Calls Tryd.prog 33 #[strV zs, .int .u8 c.toNat] w fun e w' => ∃ v, e = .returned v ∧ Upd w No I w' (Row kT v (spl c zs)) := by
  have S := (SH.start w I hI).nilrow (k := kT)
  have hc := S.cells; simp only [Cells, cellsC, Im, Row, El, Nat.zero_add, Nat.reduceAdd] at hc
  go_enter Tryd.func33, Tryd.ntmps33
  go_wp2_with (first | ((first | (with_reducible refine wpl_seal S ?_) | (with_reducible refine cw_seal S ?_) | (with_reducible refine bp_seal S ?_) | (with_reducible refine ca_seal S ?_)); clear S; (try clear hc); intro w1 S; (try simp only [List.set_cons_zero, List.set_cons_succ, List.nil_append] at S); have hc := S.cells; simp only [Cells, cellsC, Im, Row, El, Nat.zero_add, Nat.reduceAdd] at hc))
  clear hc
  go_loopw [5, 6, 7] (fun ov wv iv w' => ∃ (k : Nat) (out : List (List UInt8)) (own : List UInt8) (J : Fp), iv = .int .i64 k ∧ wv = strV own ∧ k ≤ zs.length ∧ out.length ≤ k ∧ own.length ≤ k ∧ As (spl c zs = out ++ splG c own (zs.drop k)) ∧ As (SH No I w [Row kT ov out] w' J)) (fun _ _ iv _ => zs.length - (intOf iv).toNat)
  case atStart => exact ⟨0, [], [], _, rfl, rfl, Nat.zero_le _, by simp, by simp, ⟨by rw [splG_nil]; rfl⟩, ⟨S⟩⟩
  case round =>
    clear S
    obtain ⟨k, out, own, J, rfl, rfl, hk, ho, hw, HL, ⟨S⟩⟩ := hrel
    have hc := S.cells; simp only [Cells, cellsC, Im, Row, El, Nat.zero_add, Nat.reduceAdd] at hc
    by_cases hlt : k < zs.length
    · have hlt' : decide ((k : Int) < zs.length) = true := by simpa using hlt
      have HD : As (zs.drop k = zs[k] :: zs.drop (k + 1)) := ⟨List.drop_eq_getElem_cons hlt⟩
      obtain ⟨b, hb⟩ : ∃ b, zs[k] = b := ⟨_, rfl⟩
      rw [hb] at HD
      have hix : ((⟨zs.toArray⟩ : ByteArray)[k]'(by show k < zs.toArray.size; simpa using hlt)) = b := hb
      by_cases hbc : b = c
      · have HL2 : As (spl c zs = (out ++ [own]) ++ splG c [] (zs.drop (k + 1))) := ⟨by rw [HL.out, HD.out, hbc, splG_eq, List.append_assoc]; rfl⟩
        have hq : (((⟨zs.toArray⟩ : ByteArray)[k]'(by show k < zs.toArray.size; simpa using hlt)).toNat : Int) = c.toNat := by rw [hix, hbc]
        clear hix hb hbc HD HL
        go_wp2_with (first | ((first | (with_reducible refine wpl_seal S ?_) | (with_reducible refine cw_seal S ?_) | (with_reducible refine bp_seal S ?_) | (with_reducible refine ca_seal S ?_)); clear S; (try clear hc); intro w1 S; (try simp only [List.set_cons_zero, List.set_cons_succ, List.nil_append] at S); have hc := S.cells; simp only [Cells, cellsC, Im, Row, El, Nat.zero_add, Nat.reduceAdd] at hc) | (at_builtin; refine wpl_push S 1 rfl rfl _ _ rfl ty_strs rfl own _ _ rfl [_] _ (S.cel 0 rfl) rfl (by (try simp only [maxLen, List.length_nil, List.length_append, List.length_cons]); omega) (by (try simp only [maxLen, List.length_nil, List.length_append, List.length_cons]); omega) ?_; clear S; (try clear hc); intro va w1 S; simp only [List.set_cons_zero, List.set_cons_succ, List.nil_append] at S; have hc := S.cells; simp only [Cells, cellsC, Im, Row, El, Nat.zero_add, Nat.reduceAdd] at hc))
        go_roundw
        case rel => exact ⟨k + 1, out ++ [own], [], _, by go_num, rfl, by omega, by rw [List.length_append]; simp; omega, by simp, HL2, ⟨(S.sel [1] (by decide) rfl (by simp) : SH _ _ _ [_] _ _)⟩⟩
        case measure => simp [intOf]; omega
      · have HL2 : As (spl c zs = out ++ splG c (own ++ [b]) (zs.drop (k + 1))) := ⟨by rw [HL.out, HD.out, splG_cons hbc]⟩
        have hne : ¬ b.toNat = c.toNat := fun e => hbc (UInt8.toNat_inj.1 e)
        have hq : ((((⟨zs.toArray⟩ : ByteArray)[k]'(by show k < zs.toArray.size; simpa using hlt)).toNat : Int) == c.toNat) = false := by rw [hix, beq_eq_false_iff_ne]; omega
        have hq2 : ¬ ((⟨zs.toArray⟩ : ByteArray)[k]'(by show k < zs.toArray.size; simpa using hlt)).toNat = c.toNat := by rw [hix]; exact hne
        have hex : (⟨zs.toArray⟩ : ByteArray).extract k (k + 1) = ⟨[b].toArray⟩ := by
          rw [Lib.extract_eq]
          congr 1
          show ((zs.drop k).take (k + 1 - k)).toArray = _
          rw [HD.out, Nat.add_sub_cancel_left]
          rfl
        have hsl : ∀ W : World, (Instr.slice 9 (strV zs) (some (.int .i64 (k : Int))) (some (.int .i64 ((k : Int) + 1))) none).run Tryd.prog W = .ok (strV [b]) W := fun W => by
          have hz : (⟨zs.toArray⟩ : ByteArray).size = zs.length := by show zs.toArray.size = _; simp
          rw [run_slice_string_if (h := Tryd.underlying9), if_pos (by rw [hz]; omega), if_pos (by omega), show ((k : Int)).toNat = k by omega, show ((k : Int) + 1).toNat = k + 1 by omega, hex]
        have hsl2 : ∀ W : World, (Instr.sliceAt 9 (strV zs) (some (.int .i64 (k : Int))) (some (.int .i64 ((k : Int) + 1))) none).run Tryd.prog W = .ok (strV [b]) W := fun W => (run_sliceAt_string (h := Tryd.underlying9) ..).trans (hsl W)
        have hst := str_app own [b]
        clear hix hb hbc HD HL hne hex
        go_wp2_with (first | ((first | (with_reducible refine wpl_seal S ?_) | (with_reducible refine cw_seal S ?_) | (with_reducible refine bp_seal S ?_) | (with_reducible refine ca_seal S ?_)); clear S; (try clear hc); intro w1 S; (try simp only [List.set_cons_zero, List.set_cons_succ, List.nil_append] at S); have hc := S.cells; simp only [Cells, cellsC, Im, Row, El, Nat.zero_add, Nat.reduceAdd] at hc))
        go_roundw
        case rel => exact ⟨k + 1, out, own ++ [b], _, by go_num, by first | rfl | (rw [hst]) | (show Value.string _ = _; rw [hst]), by omega, by omega, by rw [List.length_append]; simp; omega, HL2, ⟨S⟩⟩
        case measure => simp [intOf]; omega
    · have hlt' : decide ((k : Int) < zs.length) = false := by simpa using hlt
      obtain rfl : k = zs.length := by omega
      have HE : As (spl c zs = out ++ [own]) := ⟨by rw [HL.out, List.drop_length, splG_end]⟩
      go_wp2_with (first | ((first | (with_reducible refine wpl_seal S ?_) | (with_reducible refine cw_seal S ?_) | (with_reducible refine bp_seal S ?_) | (with_reducible refine ca_seal S ?_)); clear S; (try clear hc); intro w1 S; (try simp only [List.set_cons_zero, List.set_cons_succ, List.nil_append] at S); have hc := S.cells; simp only [Cells, cellsC, Im, Row, El, Nat.zero_add, Nat.reduceAdd] at hc) | (at_builtin; refine wpl_push S 1 rfl rfl _ _ rfl ty_strs rfl own _ _ rfl [_] _ (S.cel 0 rfl) rfl (by (try simp only [maxLen, List.length_nil, List.length_append, List.length_cons]); omega) (by (try simp only [maxLen, List.length_nil, List.length_append, List.length_cons]); omega) ?_; clear S; (try clear hc); intro va w1 S; simp only [List.set_cons_zero, List.set_cons_succ, List.nil_append] at S; have hc := S.cells; simp only [Cells, cellsC, Im, Row, El, Nat.zero_add, Nat.reduceAdd] at hc))
      go_ret
      rw [HE.out]
      exact ⟨_, rfl, S.ret 1 rfl⟩
end Go.Proofs.YteaekpnmiicbhaaDoor
