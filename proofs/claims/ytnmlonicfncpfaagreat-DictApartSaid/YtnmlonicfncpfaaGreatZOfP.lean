/- Which variant a template's turn is: the program's, and that it is the document's. -/
import Derived.Test.YtnmlonicfncpfaaGreatZTmp
import Derived.Test.YtnmlonicfncpfaaGreatZOfR
import Derived.Test.YtnmlonicfncpfaaGreatDWayP
namespace Go.Proofs.YtnmlonicfncpfaaGreat
open Go.RowKit X
set_option maxHeartbeats 4000000
set_option maxRecDepth 8000
set_option linter.unusedSimpArgs false
set_option linter.unusedVariables false
/-- the first of n variants that is owned so -/
def ofD (L : List Tm) (n : Nat) (t g : Int) : Int := match (List.range n).find? fun v : Nat => decide ((t, g) ∈ ownersP L v) with | some v => (v : Int) | none => -1
theorem ofD_at {L : List Tm} {n v : Nat} {t g : Int} (hv : v < n) (h : (t, g) ∈ ownersP L v) (hn : ∀ u : Nat, u < v → (t, g) ∉ ownersP L u) : ofD L n t g = v := by
  unfold ofD
  rw [List.find?_range_eq_some.2 ⟨by simpa using h, List.mem_range.2 hv, fun u hu => by simpa using hn u hu⟩]
theorem ofD_none {L : List Tm} {n : Nat} {t g : Int} (hn : ∀ u : Nat, u < n → (t, g) ∉ ownersP L u) : ofD L n t g = -1 := by
  unfold ofD
  rw [List.find?_eq_none.2 fun u hu => by simpa using hn u (List.mem_range.1 hu)]
section
variable {F0 I0 I : Fp} {w0 w : World} {O : List Ob}
theorem of_s (b : Nat) (L : List Tm) (V : List Pic) (ar : Int) (S0 : SH F0 I0 w0 O w I) (i : Nat) (e : O[i]? = some (DicO b L V ar)) (hL : L.length ≤ 1000) (hV : V.length ≤ 100000) (ht : ∀ t ∈ L, t.turns.length ≤ 1000 ∧ t.whr.length = t.turns.length) (t g : Int) {r : Int} (hr : ofD L V.length t g = r) :
    Calls Tryz.prog 40 #[.pointer (some ⟨b, 0, none⟩), .int .i64 t, .int .i64 g] w fun e w' => ∃ J, e = .returned (.int .i64 r) ∧ SH F0 I0 w0 O w' J := by
  obtain ⟨F, hI, S, back⟩ := S0.call1k i e
  refine Calls.mono (R := fun e w' => e = .returned (.int .i64 r) ∧ Upd w F I w' (Many [DicO b L V ar])) ?_ fun e w' ⟨h1, h2⟩ => by obtain ⟨J, h3⟩ := back _ _ h2; exact ⟨J, h1, h3⟩
  clear back S0 e
  obtain ⟨A, c, B, d, h1, h2, S⟩ := S.dOpen 0 rfl
  simp only [List.set_cons_zero, List.set_cons_succ, List.nil_append] at S
  have HT := As.mk ht
  have HR := As.mk hr
  clear ht hr
  have hc := S.cells; simp only [Cells, cellsC, Im, Row, El, DicO, Nat.zero_add, Nat.reduceAdd] at hc
  go_enter Tryz.func40, Tryz.ntmps40
  go_wp2_with (first | ((first | (with_reducible refine wpl_seal S ?_) | (with_reducible refine cw_seal S ?_) | (with_reducible refine bp_seal S ?_) | (with_reducible refine ca_seal S ?_)); clear S; (try clear hc); intro w1 S; (try simp only [List.set_cons_zero, List.set_cons_succ, List.nil_append] at S); have hc := S.cells; simp only [Cells, cellsC, Im, Row, El, DicO, Nat.zero_add, Nat.reduceAdd] at hc))
  replace S := S.dClose 2 rfl h1 h2 (S.im 0 rfl) (S.im 1 rfl)
  replace S := ((S.sel [2] (by decide) rfl (by simp) : SH _ _ _ [_] _ _) : SH _ _ _ [_] _ _)
  clear hc
  go_loopw [15] (fun iv w' => ∃ (v : Nat) (J : Fp), iv = .int .i64 v ∧ v ≤ V.length ∧ As (∀ u : Nat, u < v → (t, g) ∉ ownersP L u) ∧ As (SH F I w [DicO b L V ar] w' J)) (fun iv _ => V.length - (intOf iv).toNat)
  case atStart => exact ⟨0, _, rfl, by omega, ⟨fun u hu => absurd hu (Nat.not_lt_zero u)⟩, ⟨S⟩⟩
  case round =>
    clear S
    obtain ⟨v, J, rfl, hv, HN, ⟨S⟩⟩ := hrel
    by_cases hlt : v < V.length
    · have hlt' : decide ((v : Int) < V.length) = true := decide_eq_true (by omega)
      obtain ⟨l, hl⟩ : ∃ l, ownersP L (v : Int) = l := ⟨_, rfl⟩
      have HL := As.mk hl
      have hll : l.length ≤ 1000000 := by
        rw [← hl]
        have := flatR_len (fun i => ownT i (L.getD i default) v) 1000 L.length fun i hi => by
          refine Nat.le_trans (ownT_len _ _ _) ?_
          rw [List.getD_eq_getElem?_getD, List.getElem?_eq_getElem hi]
          exact (HT.out _ (List.getElem_mem hi)).1
        unfold ownersP
        omega
      clear hl
      have hc := S.cells; simp only [Cells, cellsC, Im, Row, El, DicO, Nat.zero_add, Nat.reduceAdd] at hc
      go_wp2_with (first | ((first | (with_reducible refine wpl_seal S ?_) | (with_reducible refine cw_seal S ?_) | (with_reducible refine bp_seal S ?_) | (with_reducible refine ca_seal S ?_)); clear S; (try clear hc); intro w1 S; (try simp only [List.set_cons_zero, List.set_cons_succ, List.nil_append] at S); have hc := S.cells; simp only [Cells, cellsC, Im, Row, El, DicO, Nat.zero_add, Nat.reduceAdd] at hc) | (go_at_call 42; refine (owners_s b L V ar v S 0 rfl hL HT.out HL.out).mono ?_; rintro e w1 ⟨ro, rfl, hu⟩; obtain ⟨I1, S1, hI1⟩ := S.new hu; clear S hu hI1; (try clear hc); have S := S1; clear S1; have hc := S.cells; simp only [Cells, cellsC, Im, Row, El, DicO, Nat.zero_add, Nat.reduceAdd] at hc; obtain ⟨A1, c1, I1, e1, hc1, S1, hI1⟩ := S.frow 0 rfl; subst e1; clear S hI1; have S := S1; clear S1; simp only [List.set_cons_zero, List.set_cons_succ, List.nil_append] at S; have hc := S.cells; simp only [Cells, cellsC, Im, Row, El, DicO, Nat.zero_add, Nat.reduceAdd] at hc))
      clear hc
      go_loopw [22] (fun iv w' => ∃ (k : Nat) (J : Fp), iv = .int .i64 k ∧ k ≤ l.length ∧ As (∀ (j : Nat) (h : j < l.length), j < k → l[j] ≠ (t, g)) ∧ As (SH F I w [Im kO A1 l, DicO b L V ar] w' J)) (fun iv _ => l.length - (intOf iv).toNat)
      case atStart => exact ⟨0, _, rfl, by omega, ⟨fun j _ h => absurd h (Nat.not_lt_zero j)⟩, ⟨S⟩⟩
      case round =>
        clear S
        obtain ⟨k, J, rfl, hk, HK, ⟨S⟩⟩ := hrel
        by_cases hkl : k < l.length
        · have hkl' : decide ((k : Int) < l.length) = true := decide_eq_true (by omega)
          obtain ⟨b1, o1, rfl, hc0, hc1'⟩ := (S.im 0 rfl).two_at (List.getElem?_eq_getElem hkl)
          have HM := As.mk (List.getElem_mem hkl)
          have HT2 : As (l[k] ≠ (t, g) → ∀ (j : Nat) (h : j < l.length), j < k + 1 → l[j] ≠ (t, g)) := ⟨fun h0 j hj h => by
            rcases Nat.lt_or_eq_of_le (Nat.le_of_lt_succ h) with h1 | h1
            · exact HK.out j hj h1
            · subst h1; exact h0⟩
          generalize l[k] = y at hc0 hc1' HM HT2
          obtain ⟨y1, y2⟩ := y
          dsimp only at hc0 hc1'
          have hc := S.cells; simp only [Cells, cellsC, Im, Row, El, DicO, Nat.zero_add, Nat.reduceAdd] at hc
          by_cases hy : y1 = t ∧ y2 = g
          · obtain ⟨rfl, rfl⟩ := hy
            have HF := As.mk (ofD_at hlt (show (y1, y2) ∈ ownersP L v by rw [HL.out]; exact HM.out) HN.out)
            have HF2 := As.mk (HF.out.symm.trans HR.out)
            obtain rfl := HF2.out
            clear HF HF2 HR
            go_wp2_with (first | ((first | (with_reducible refine wpl_seal S ?_) | (with_reducible refine cw_seal S ?_) | (with_reducible refine bp_seal S ?_) | (with_reducible refine ca_seal S ?_)); clear S; (try clear hc); intro w1 S; (try simp only [List.set_cons_zero, List.set_cons_succ, List.nil_append] at S); have hc := S.cells; simp only [Cells, cellsC, Im, Row, El, DicO, Nat.zero_add, Nat.reduceAdd] at hc))
            go_ret
            exact ⟨rfl, (S.many [2] (by decide) rfl (by simp)).retF 0 rfl⟩
          · have HN2 := As.mk (HT2.out (fun e => hy (Prod.mk.inj e)))
            have HY := As.mk hy
            clear hy HT2
            go_wp2_with (first | ((first | (with_reducible refine wpl_seal S ?_) | (with_reducible refine cw_seal S ?_) | (with_reducible refine bp_seal S ?_) | (with_reducible refine ca_seal S ?_)); clear S; (try clear hc); intro w1 S; (try simp only [List.set_cons_zero, List.set_cons_succ, List.nil_append] at S); have hc := S.cells; simp only [Cells, cellsC, Im, Row, El, DicO, Nat.zero_add, Nat.reduceAdd] at hc))
            all_goals first
              | exact absurd ⟨by assumption, by assumption⟩ HY.out
              | (go_roundw
                 case rel => exact ⟨k + 1, _, by go_num, by omega, HN2, ⟨(S.sel [1, 2] (by decide) rfl (by simp) : SH _ _ _ [_, _] _ _)⟩⟩
                 case measure => simp [intOf]; omega)
        · have hkl' : decide ((k : Int) < l.length) = false := decide_eq_false (by omega)
          have HN2 := As.mk (show ∀ u : Nat, u < v + 1 → (t, g) ∉ ownersP L u from fun u hu h => by
            rcases Nat.lt_or_eq_of_le (Nat.le_of_lt_succ hu) with h1 | h1
            · exact HN.out u h1 h
            · subst h1
              rw [HL.out] at h
              obtain ⟨j, hj, e⟩ := List.mem_iff_getElem.1 h
              exact HK.out j hj (by omega) e)
          have hc := S.cells; simp only [Cells, cellsC, Im, Row, El, DicO, Nat.zero_add, Nat.reduceAdd] at hc
          go_wp2_with (first | ((first | (with_reducible refine wpl_seal S ?_) | (with_reducible refine cw_seal S ?_) | (with_reducible refine bp_seal S ?_) | (with_reducible refine ca_seal S ?_)); clear S; (try clear hc); intro w1 S; (try simp only [List.set_cons_zero, List.set_cons_succ, List.nil_append] at S); have hc := S.cells; simp only [Cells, cellsC, Im, Row, El, DicO, Nat.zero_add, Nat.reduceAdd] at hc))
          go_roundw
          case rel => exact ⟨v + 1, _, by go_num, by omega, HN2, ⟨(S.sel [1] (by decide) rfl (by simp) : SH _ _ _ [_] _ _)⟩⟩
          case measure => simp [intOf]; omega
    · have hlt' : decide ((v : Int) < V.length) = false := decide_eq_false (by omega)
      obtain rfl : v = V.length := by omega
      have HF := As.mk ((ofD_none HN.out).symm.trans HR.out)
      obtain rfl := HF.out
      clear HF HR
      have hc := S.cells; simp only [Cells, cellsC, Im, Row, El, DicO, Nat.zero_add, Nat.reduceAdd] at hc
      go_wp2_with (first | ((first | (with_reducible refine wpl_seal S ?_) | (with_reducible refine cw_seal S ?_) | (with_reducible refine bp_seal S ?_) | (with_reducible refine ca_seal S ?_)); clear S; (try clear hc); intro w1 S; (try simp only [List.set_cons_zero, List.set_cons_succ, List.nil_append] at S); have hc := S.cells; simp only [Cells, cellsC, Im, Row, El, DicO, Nat.zero_add, Nat.reduceAdd] at hc))
      go_ret
      exact ⟨rfl, (S.many [0] (by decide) rfl (by simp)).retF 0 rfl⟩
end
theorem mem_owners {l : List Tv} {V : List Pic} {v t g : Int} : (t, g) ∈ ownersP (l.map (tmOf V)) v ↔ (0 ≤ t ∧ t < l.length) ∧ g ∈ (l.getD t.toNat default).turns ∧ idxI V (layT (l.getD t.toNat default) g) = v := by
  unfold ownersP
  simp only [List.mem_flatMap, List.mem_range, List.length_map]
  constructor
  · rintro ⟨i, hi, h⟩
    have hd : (l.map (tmOf V)).getD i default = tmOf V l[i] := by rw [List.getD_eq_getElem?_getD, List.getElem?_map, List.getElem?_eq_getElem hi]; rfl
    rw [hd] at h
    unfold ownT at h
    simp only [List.mem_flatMap, List.mem_range] at h
    obtain ⟨k, hk, h⟩ := h
    have hk' : k < l[i].turns.length := hk
    unfold own1 at h
    have hw : (tmOf V l[i]).whr.getD k 0 = idxI V (layT l[i] l[i].turns[k]) := by
      show (l[i].turns.map fun g => idxI V (layT l[i] g)).getD k 0 = _
      rw [List.getD_eq_getElem?_getD, List.getElem?_map, List.getElem?_eq_getElem hk']; rfl
    have ht : (tmOf V l[i]).turns.getD k 0 = l[i].turns[k] := by
      show l[i].turns.getD k 0 = _
      rw [List.getD_eq_getElem?_getD, List.getElem?_eq_getElem hk']; rfl
    rw [hw, ht] at h
    split at h
    · rename_i e
      rw [List.mem_singleton, Prod.mk.injEq] at h
      obtain ⟨rfl, rfl⟩ := h
      have hg : l.getD ((i : Int)).toNat default = l[i] := by rw [Int.toNat_natCast, List.getD_eq_getElem?_getD, List.getElem?_eq_getElem hi]; rfl
      rw [hg]
      exact ⟨⟨by omega, by omega⟩, List.getElem_mem hk', e⟩
    · cases h
  · rintro ⟨⟨h0, h1⟩, hg, hv⟩
    obtain ⟨i, rfl⟩ : ∃ i : Nat, t = i := ⟨t.toNat, by omega⟩
    have hi : i < l.length := by omega
    have hgd : l.getD ((i : Int)).toNat default = l[i] := by rw [Int.toNat_natCast, List.getD_eq_getElem?_getD, List.getElem?_eq_getElem hi]; rfl
    rw [hgd] at hg hv
    obtain ⟨k, hk, rfl⟩ := List.mem_iff_getElem.1 hg
    refine ⟨i, hi, ?_⟩
    have hd : (l.map (tmOf V)).getD i default = tmOf V l[i] := by rw [List.getD_eq_getElem?_getD, List.getElem?_map, List.getElem?_eq_getElem hi]; rfl
    rw [hd]
    unfold ownT
    simp only [List.mem_flatMap, List.mem_range]
    refine ⟨k, hk, ?_⟩
    unfold own1
    have hw : (tmOf V l[i]).whr.getD k 0 = idxI V (layT l[i] l[i].turns[k]) := by
      show (l[i].turns.map fun g => idxI V (layT l[i] g)).getD k 0 = _
      rw [List.getD_eq_getElem?_getD, List.getElem?_map, List.getElem?_eq_getElem hk]; rfl
    have ht : (tmOf V l[i]).turns.getD k 0 = l[i].turns[k] := by
      show l[i].turns.getD k 0 = _
      rw [List.getD_eq_getElem?_getD, List.getElem?_eq_getElem hk]; rfl
    rw [hw, ht, if_pos hv]
    exact List.mem_singleton.2 rfl
theorem ofD_ok {D : DS} {l : List Tv} (h : DOk D l) (t g : Int) : ofD D.L D.V.length t g = ofP l t g := by
  rw [h.t]
  unfold ofP
  split
  · rename_i hc
    obtain ⟨h0, h1⟩ := hc
    have hi : (l.getD t.toNat default) ∈ l := by
      rw [List.getD_eq_getElem?_getD, List.getElem?_eq_getElem (show t.toNat < l.length by omega)]
      exact List.getElem_mem _
    have hm : layT (l.getD t.toNat default) g ∈ varsP l := vars_mem l [] _ g hi h1
    obtain ⟨q1, q2⟩ := idxI_in hm
    rw [← h.v]
    rw [← h.v] at q1 q2
    rw [q1]
    exact ofD_at q2 (mem_owners.2 ⟨h0, h1, q1⟩) fun u hu hx => by
      have := (mem_owners.1 hx).2.2
      rw [q1] at this
      omega
  · rename_i hc
    exact ofD_none fun u _ hx => by
      obtain ⟨h0, h1, -⟩ := mem_owners.1 hx
      exact hc ⟨h0, h1⟩
end Go.Proofs.YtnmlonicfncpfaaGreat
