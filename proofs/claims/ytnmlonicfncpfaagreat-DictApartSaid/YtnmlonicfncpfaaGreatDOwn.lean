/- A variant's owners: the program's. -/
import Derived.Test.YtnmlonicfncpfaaGreatDAdd
namespace Go.Proofs.YtnmlonicfncpfaaGreat
open Go.RowKit X
set_option maxHeartbeats 4000000
set_option maxRecDepth 8000
set_option linter.unusedSimpArgs false
set_option linter.unusedVariables false
def own1 (i : Nat) (t : Tm) (v : Int) (k : Nat) : List (Int × Int) := if t.whr.getD k 0 = v then [((i : Int), t.turns.getD k 0)] else []
def ownT (i : Nat) (t : Tm) (v : Int) : List (Int × Int) := (List.range t.turns.length).flatMap (own1 i t v)
/-- the owners of variant v -/
def ownersP (L : List Tm) (v : Int) : List (Int × Int) := (List.range L.length).flatMap fun i => ownT i (L.getD i default) v
theorem own1_len (i : Nat) (t : Tm) (v : Int) (k : Nat) : (own1 i t v k).length ≤ 1 := by unfold own1; split <;> simp
theorem flatR_len {α : Type} (f : Nat → List α) (c : Nat) : ∀ (k : Nat), (∀ i, i < k → (f i).length ≤ c) → ((List.range k).flatMap f).length ≤ k * c
  | 0, _ => by simp
  | k + 1, h => by
    rw [List.range_succ, List.flatMap_append, List.length_append]
    have h1 := flatR_len f c k fun i hi => h i (by omega)
    have h2 := h k (by omega)
    simp only [List.flatMap_cons, List.flatMap_nil, List.append_nil]
    rw [Nat.add_mul]
    omega
theorem flatR_succ {α : Type} (f : Nat → List α) (k : Nat) : (List.range (k + 1)).flatMap f = (List.range k).flatMap f ++ f k := by
  rw [List.range_succ, List.flatMap_append]
  simp
theorem ownT_len (i : Nat) (t : Tm) (v : Int) : (ownT i t v).length ≤ t.turns.length := by
  have := flatR_len (own1 i t v) 1 t.turns.length fun k _ => own1_len i t v k
  unfold ownT
  omega
section
variable {F0 I0 I : Fp} {w0 w : World} {O : List Ob}
theorem owners_s (b : Nat) (L : List Tm) (V : List Pic) (ar v : Int) (S0 : SH F0 I0 w0 O w I) (i : Nat) (e : O[i]? = some (DicO b L V ar)) (hL : L.length ≤ 1000) (ht : ∀ t ∈ L, t.turns.length ≤ 1000 ∧ t.whr.length = t.turns.length) {l : List (Int × Int)} (hl : ownersP L v = l) :
    Calls Tryz.prog 42 #[.pointer (some ⟨b, 0, none⟩), .int .i64 v] w fun e w' => ∃ r, e = .returned r ∧ Upd w No I w' (Row kO r l) := by
  obtain ⟨F, hI, S, -⟩ := S0.call1 i e
  obtain ⟨A, c, B, d, h1, h2, S⟩ := S.dOpen 0 rfl
  simp only [List.set_cons_zero, List.set_cons_succ, List.nil_append] at S
  have hcb := S.cell 2 0 (u := .slice A L.length c) rfl rfl
  have hIT : Sl kT w I A L := S.im 0 rfl
  clear S S0 e
  have HCB := As.mk hcb
  have S := ((SH.start w I hI).know (h := Im kT A L) hIT).nilrow (k := kO)
  have HT := As.mk ht
  have HL := As.mk hl
  clear hIT ht hl
  have hc := S.cells; simp only [Cells, cellsC, Im, Row, El, Nat.zero_add, Nat.reduceAdd] at hc
  go_enter Tryz.func42, Tryz.ntmps42
  go_wp2_with (first | ((first | (with_reducible refine wpl_seal S ?_) | (with_reducible refine cw_seal S ?_) | (with_reducible refine bp_seal S ?_) | (with_reducible refine ca_seal S ?_)); clear S; (try clear hc); intro w1 S; (try simp only [List.set_cons_zero, List.set_cons_succ, List.nil_append] at S); have hc := S.cells; simp only [Cells, cellsC, Im, Row, El, Nat.zero_add, Nat.reduceAdd] at hc))
  clear hc
  go_loopw [5, 15] (fun ov iv w' => ∃ (k : Nat) (out : List (Int × Int)) (J : Fp), iv = .int .i64 k ∧ k ≤ L.length ∧ out.length ≤ 1000 * k ∧ As (out = (List.range k).flatMap fun i => ownT i (L.getD i default) v) ∧ As (SH No I w [Row kO ov out, Im kT A L] w' J)) (fun _ iv _ => L.length - (intOf iv).toNat)
  case atStart => exact ⟨0, [], _, rfl, by omega, by simp, ⟨rfl⟩, ⟨S⟩⟩
  case round =>
    clear S hcb
    obtain ⟨k, out, J, rfl, hk, hol, HO, ⟨S⟩⟩ := hrel
    by_cases hlt : k < L.length
    · have hlt' : decide ((k : Int) < L.length) = true := decide_eq_true (by omega)
      have hgk : L[k]? = some L[k] := List.getElem?_eq_getElem hlt
      obtain ⟨b2, o2, A2, c2, B2, d2, C2, e2, rfl, ⟨g0, g1, g2, g3, g4, g5, g6⟩, ⟨-, -⟩, ⟨-, hsB⟩, -, hsC⟩ := (S.im 1 rfl).tm_at hgk
      obtain ⟨ht1, ht2⟩ := HT.out _ (List.getElem_mem hlt)
      have HD : As (L.getD k default = L[k]) := ⟨by rw [List.getD_eq_getElem?_getD, hgk]; rfl⟩
      have HN := As.mk (flatR_succ (fun i => ownT i (L.getD i default) v) k)
      rw [HD.out] at HN
      replace S := (S.know (h := Im kI C2 L[k].whr) hsC).know (h := Im kI B2 L[k].turns) hsB
      clear hsB hsC hgk HD
      generalize L[k] = t at g0 g1 g2 g3 g4 g5 g6 ht1 ht2 HN S
      have HTL := As.mk (ownT_len k t v)
      obtain ⟨⟨pc, pm, ⟨pw, ph, pl⟩⟩, ts, ws⟩ := t
      dsimp only at *
      have HW := As.mk ht2
      have hwl : ts.length ≤ ws.length := by omega
      clear ht2
      have hc := S.cells; simp only [Cells, cellsC, Im, Row, El, Nat.zero_add, Nat.reduceAdd] at hc
      go_wp2_with (first | ((first | (with_reducible refine wpl_seal S ?_) | (with_reducible refine cw_seal S ?_) | (with_reducible refine bp_seal S ?_) | (with_reducible refine ca_seal S ?_)); clear S; (try clear hc); intro w1 S; (try simp only [List.set_cons_zero, List.set_cons_succ, List.nil_append] at S); have hc := S.cells; simp only [Cells, cellsC, Im, Row, El, Nat.zero_add, Nat.reduceAdd] at hc))
      obtain ⟨g7, eg7⟩ := S.name 0 rfl; rw [← eg7] at S ⊢; clear eg7
      clear hc
      go_loopw [5, 23] (fun ov iv w' => ∃ (m : Nat) (out2 : List (Int × Int)) (J : Fp), iv = .int .i64 m ∧ m ≤ ts.length ∧ out2.length ≤ 1000 * k + m ∧ As (out2 = out ++ (List.range m).flatMap (own1 k ⟨⟨pc, pm, ⟨pw, ph, pl⟩⟩, ts, ws⟩ v)) ∧ As (SH No I w [Row kO ov out2, Cel g7 76 [.int .i64 pc, .int .i64 pm, .int .i64 pw, .int .i64 ph, .slice A2 pl.length c2, .slice B2 ts.length d2, .slice C2 ws.length e2], Im kI B2 ts, Im kI C2 ws, Im kT (some ⟨b2, o2, none⟩) L] w' J)) (fun _ iv _ => ts.length - (intOf iv).toNat)
      case atStart => exact ⟨0, out, _, rfl, by omega, by omega, ⟨by simp⟩, ⟨(S.sel [3, 0, 1, 2, 4] (by decide) rfl (by simp) : SH _ _ _ [_, _, _, _, _] _ _)⟩⟩
      case round =>
        clear S g0 g1 g2 g3 g4 g5 g6
        obtain ⟨m, out2, J2, rfl, hm, hol2, HO2, ⟨S⟩⟩ := hrel
        by_cases hml : m < ts.length
        · have hml' : decide ((m : Int) < ts.length) = true := decide_eq_true (by omega)
          obtain ⟨y, hy⟩ : ∃ y, ts[m]? = some y := ⟨_, List.getElem?_eq_getElem hml⟩
          obtain ⟨z, hz⟩ : ∃ z, ws[m]? = some z := ⟨_, List.getElem?_eq_getElem (by omega)⟩
          obtain ⟨b3, o3, rfl, hcy⟩ := (S.im 2 rfl).num_at hy
          obtain ⟨b4, o4, rfl, hcz⟩ := (S.im 3 rfl).num_at hz
          have HN1 := As.mk (flatR_succ (own1 k ⟨⟨pc, pm, ⟨pw, ph, pl⟩⟩, ts, ws⟩ v) m)
          have HE : As (own1 k ⟨⟨pc, pm, ⟨pw, ph, pl⟩⟩, ts, ws⟩ v m = if z = v then [((k : Int), y)] else []) := ⟨by unfold own1; dsimp only; rw [List.getD_eq_getElem?_getD, List.getD_eq_getElem?_getD, hy, hz]; rfl⟩
          clear hy hz
          have hc := S.cells; simp only [Cells, cellsC, Im, Row, El, Nat.zero_add, Nat.reduceAdd] at hc
          by_cases hzv : z = v
          · have hzv' : (z == v) = true := by rw [hzv]; exact beq_self_eq_true v
            have HE2 := As.mk (HE.out.trans (if_pos hzv))
            clear hzv HE
            go_wp2_with (first | ((first | (with_reducible refine wpl_seal S ?_) | (with_reducible refine cw_seal S ?_) | (with_reducible refine bp_seal S ?_) | (with_reducible refine ca_seal S ?_)); clear S; (try clear hc); intro w1 S; (try simp only [List.set_cons_zero, List.set_cons_succ, List.nil_append] at S); have hc := S.cells; simp only [Cells, cellsC, Im, Row, El, Nat.zero_add, Nat.reduceAdd] at hc) | (at_builtin; refine wpl_push S 1 rfl rfl _ _ rfl ty_owners rfl ((k : Int), y) _ _ rfl [.int .i64 k, .int .i64 y] _ (S.cel 0 rfl) rfl (by (try simp only [maxLen, List.length_nil, List.length_append, List.length_cons]); omega) (by (try simp only [maxLen, List.length_nil, List.length_append, List.length_cons]); omega) ?_; clear S; (try clear hc); intro va w1 S; simp only [List.set_cons_zero, List.set_cons_succ, List.nil_append] at S; have hc := S.cells; simp only [Cells, cellsC, Im, Row, El, Nat.zero_add, Nat.reduceAdd] at hc))
            go_roundw
            case rel => exact ⟨m + 1, out2 ++ [((k : Int), y)], _, by go_num, by omega, by rw [List.length_append]; simp; omega, ⟨by rw [HN1.out, HE2.out, HO2.out, List.append_assoc]⟩, ⟨(S.sel [1, 2, 3, 4, 5] (by decide) rfl (by simp) : SH _ _ _ [_, _, _, _, _] _ _)⟩⟩
            case measure => simp [intOf]; omega
          · have hzv' : (z == v) = false := by rw [beq_eq_false_iff_ne]; exact hzv
            have HE2 := As.mk (HE.out.trans (if_neg hzv))
            clear hzv HE
            go_wp2_with (first | ((first | (with_reducible refine wpl_seal S ?_) | (with_reducible refine cw_seal S ?_) | (with_reducible refine bp_seal S ?_) | (with_reducible refine ca_seal S ?_)); clear S; (try clear hc); intro w1 S; (try simp only [List.set_cons_zero, List.set_cons_succ, List.nil_append] at S); have hc := S.cells; simp only [Cells, cellsC, Im, Row, El, Nat.zero_add, Nat.reduceAdd] at hc))
            go_roundw
            case rel => exact ⟨m + 1, out2, _, by go_num, by omega, by omega, ⟨by rw [HN1.out, HE2.out, List.append_nil]; exact HO2.out⟩, ⟨S⟩⟩
            case measure => simp [intOf]; omega
        · have hml' : decide ((m : Int) < ts.length) = false := decide_eq_false (by omega)
          obtain rfl : m = ts.length := by omega
          go_wp2_with (first | ((first | (with_reducible refine wpl_seal S ?_) | (with_reducible refine cw_seal S ?_) | (with_reducible refine bp_seal S ?_) | (with_reducible refine ca_seal S ?_)); clear S; (try clear hc); intro w1 S; (try simp only [List.set_cons_zero, List.set_cons_succ, List.nil_append] at S); have hc := S.cells; simp only [Cells, cellsC, Im, Row, El, Nat.zero_add, Nat.reduceAdd] at hc))
          go_roundw
          case rel => exact ⟨k + 1, out2, _, by go_num, by omega, by omega, ⟨by rw [HN.out, ← HO.out]; exact HO2.out⟩, ⟨(S.sel [0, 4] (by decide) rfl (by simp) : SH _ _ _ [_, _] _ _)⟩⟩
          case measure => simp [intOf]; omega
    · have hlt' : decide ((k : Int) < L.length) = false := decide_eq_false (by omega)
      obtain rfl : k = L.length := by omega
      have HF : As (out = l) := ⟨by rw [HO.out, ← HL.out]; rfl⟩
      obtain rfl := HF.out
      go_wp2_with (first | ((first | (with_reducible refine wpl_seal S ?_) | (with_reducible refine cw_seal S ?_) | (with_reducible refine bp_seal S ?_) | (with_reducible refine ca_seal S ?_)); clear S; (try clear hc); intro w1 S; (try simp only [List.set_cons_zero, List.set_cons_succ, List.nil_append] at S); have hc := S.cells; simp only [Cells, cellsC, Im, Row, El, Nat.zero_add, Nat.reduceAdd] at hc))
      go_ret
      exact ⟨_, rfl, S.ret 0 rfl⟩
end
end Go.Proofs.YtnmlonicfncpfaaGreat
