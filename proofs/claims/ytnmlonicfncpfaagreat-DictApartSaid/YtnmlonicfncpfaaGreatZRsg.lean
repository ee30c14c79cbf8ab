/- The turns of a list, rising: no program in sight. The turns of a list, rising: the document's. -/
import Derived.Test.YtnmlonicfncpfaaGreatDWayP
namespace Go.Proofs.YtnmlonicfncpfaaGreat
open Go.RowKit X
set_option maxRecDepth 8000
def risK (ts : List Int) (k : Nat) : List Int := ((List.range k).filter fun g : Nat => decide ((g : Int) ∈ ts)).map fun g : Nat => (g : Int)
def risP (ts : List Int) : List Int := risK ts 8
theorem risK_succ (ts : List Int) (k : Nat) : risK ts (k + 1) = if (k : Int) ∈ ts then risK ts k ++ [(k : Int)] else risK ts k := by
  unfold risK
  rw [List.range_succ, List.filter_append, List.map_append]
  by_cases h : (k : Int) ∈ ts
  · rw [if_pos h]; simp [h]
  · rw [if_neg h]; simp [h]
theorem risK_len (ts : List Int) (k : Nat) : (risK ts k).length ≤ k := by
  unfold risK
  rw [List.length_map]
  have := List.length_filter_le (fun g : Nat => decide ((g : Int) ∈ ts)) (List.range k)
  rwa [List.length_range] at this
theorem ris_mem {ts : List Int} {x : Int} : x ∈ risP ts ↔ (0 ≤ x ∧ x < 8) ∧ x ∈ ts := by
  unfold risP risK
  simp only [List.mem_map, List.mem_filter, List.mem_range, decide_eq_true_eq]
  constructor
  · rintro ⟨g, ⟨h1, h2⟩, rfl⟩
    exact ⟨⟨by omega, by omega⟩, h2⟩
  · rintro ⟨⟨h1, h2⟩, h3⟩
    exact ⟨x.toNat, ⟨by omega, by rwa [Int.toNat_of_nonneg h1]⟩, Int.toNat_of_nonneg h1⟩
theorem ris_strict (ts : List Int) : (risP ts).Pairwise (· < ·) := by
  unfold risP risK
  rw [List.pairwise_map]
  refine (List.Pairwise.filter _ List.pairwise_lt_range).imp fun h => ?_
  omega
theorem int_ext : ∀ {xs ys : List Int}, xs.Pairwise (· < ·) → ys.Pairwise (· < ·) → (∀ x, x ∈ xs ↔ x ∈ ys) → xs = ys := by
  intro xs ys hx hy h
  have nd : ∀ {l : List Int}, l.Pairwise (· < ·) → l.Nodup := fun h => h.imp fun h => by omega
  have hp := (List.perm_ext_iff_of_nodup (nd hx) (nd hy)).2 h
  exact List.Perm.eq_of_pairwise (le := fun a b => decide (a ≤ b)) (fun a b _ _ h1 h2 => by simp at h1 h2; omega) (hx.imp fun h => by simp; omega) (hy.imp fun h => by simp; omega) hp
theorem nodup_perm {r ts : List Int} (hr : r.Nodup) (hs : ∀ x ∈ r, x ∈ ts) (hl : r.length = ts.length) : r.Perm ts := by
  have key : ∀ (r ts : List Int), r.Nodup → (∀ x ∈ r, x ∈ ts) → ∃ t, ts.Perm (r ++ t) := by
    intro r
    induction r with
    | nil => intro ts _ _; exact ⟨ts, List.Perm.refl _⟩
    | cons x r ih =>
      intro ts hn hs
      obtain ⟨h1, h2⟩ := List.nodup_cons.1 hn
      obtain ⟨t, ht⟩ := ih (ts.erase x) h2 fun y hy => (List.mem_erase_of_ne (fun e => h1 (by rw [← e]; exact hy))).2 (hs y (List.mem_cons_of_mem _ hy))
      exact ⟨t, (List.perm_cons_erase (hs x List.mem_cons_self)).trans (ht.cons x)⟩
  obtain ⟨t, ht⟩ := key r ts hr hs
  have e := ht.length_eq
  rw [List.length_append] at e
  obtain rfl := List.eq_nil_of_length_eq_zero (show t.length = 0 by omega)
  rw [List.append_nil] at ht
  exact ht.symm
theorem sorted_strict {s : List Int} (hs : s.Pairwise (· ≤ ·)) (hc : Lib.compact s = s) : s.Pairwise (· < ·) := by
  have hk : ∀ j, j < s.length → Lib.keeps s.toArray j = true := by
    have e := congrArg List.length hc
    unfold Lib.compact Lib.compactUpTo at e
    rw [List.length_map] at e
    have e2 : ((List.range s.length).filter (Lib.keeps s.toArray)).length = (List.range s.length).length := by rw [List.length_range]; exact e
    intro j hj
    exact List.length_filter_eq_length_iff.1 e2 j (List.mem_range.2 hj)
  rw [List.pairwise_iff_getElem] at hs ⊢
  have step : ∀ j (h : j + 1 < s.length), s[j] < s[j + 1] := fun j h => by
    have h1 := hk (j + 1) h
    unfold Lib.keeps at h1
    rw [decide_eq_true_eq] at h1
    have h2 := hs j (j + 1) (by omega) h (by omega)
    rcases h1 with h1 | h1
    · omega
    · rw [getElem!_pos s.toArray (j + 1) (by simpa using h), getElem!_pos s.toArray (j + 1 - 1) (by simp; omega)] at h1
      simp only [List.getElem_toArray, Nat.add_sub_cancel] at h1
      omega
  intro i j hi hj hij
  obtain ⟨d, rfl⟩ : ∃ d, j = i + 1 + d := ⟨j - i - 1, by omega⟩
  have h1 := step i (by omega)
  have h2 : s[i + 1] ≤ s[i + 1 + d] := by
    rcases Nat.eq_zero_or_pos d with h | h
    · subst h; exact Int.le_refl _
    · exact hs (i + 1) (i + 1 + d) (by omega) hj (by omega)
  omega
theorem may_sort {ts : List Int} (h : mayTs ts = true) : sortI ts = risP ts := by
  obtain ⟨h1, h2, h3⟩ := mayTs_in h
  refine int_ext (sorted_strict (sortI_srt ts) h1) (ris_strict ts) fun x => ?_
  rw [ris_mem, (sortI_perm ts).mem_iff]
  exact ⟨fun hx => ⟨h3 x ((sortI_perm ts).mem_iff.2 hx), hx⟩, fun hx => hx.2⟩
theorem ris_may (ts : List Int) : mayTs ts = true ↔ 0 < (risP ts).length ∧ (risP ts).length = ts.length := by
  constructor
  · intro h
    rw [← may_sort h, sortI_len]
    exact ⟨(mayTs_in h).2.1, rfl⟩
  · rintro ⟨h1, h2⟩
    have hn : (risP ts).Nodup := (ris_strict ts).imp fun h => by omega
    have hp := nodup_perm hn (fun x hx => (ris_mem.1 hx).2) h2
    have hs : sortI ts = risP ts := by
      refine List.Perm.eq_of_pairwise (le := fun a b => decide (a ≤ b)) (fun a b _ _ h1 h2 => by simp at h1 h2; omega) ((sortI_srt ts).imp fun h => by simpa using h) ((ris_strict ts).imp fun h => by simp; omega) ((sortI_perm ts).trans hp.symm)
    have hm := mayTs_rising (ris_strict ts) h1 fun t ht => (ris_mem.1 ht).1
    have e : mayTs (risP ts) = mayTs ts := by
      unfold mayTs
      rw [rising_sort (ris_strict ts), hs, h2]
    rw [← e]
    exact hm
theorem ris_id {ts : List Int} (h : ts.Pairwise (· < ·)) (hr : ∀ t ∈ ts, 0 ≤ t ∧ t < 8) : risP ts = ts :=
  int_ext (ris_strict ts) h fun x => by rw [ris_mem]; exact ⟨fun h => h.2, fun hx => ⟨hr x hx, hx⟩⟩
end Go.Proofs.YtnmlonicfncpfaaGreat
namespace Go.Proofs.YtnmlonicfncpfaaGreat
open Go.RowKit X
set_option maxHeartbeats 2000000
set_option maxRecDepth 8000
set_option linter.unusedSimpArgs false
set_option linter.unusedVariables false
theorem yrising_c (ts : List Int) (A : Option Addr) (n : Nat) (w : World) (I : Fp) (hI : ∀ b, I b → b < w.heap.size) (hl : Sl kI w I A ts) (hn : ts.length ≤ 1000000) {r : List Int} (hr : risP ts = r) :
    Calls Tryz.prog 18 #[.slice A ts.length n] w fun e w' => ∃ B c, e = .returned (.slice B r.length c) ∧ r.length ≤ c ∧ Upd w No I w' (Im kI B r) := by
  have S := ((SH.start w I hI).know (h := Im kI A ts) hl).nilrow (k := kI)
  have HR := As.mk hr
  clear hl hr
  have hc := S.cells; simp only [Cells, cellsC, Im, Row, El, Im, Nat.zero_add, Nat.reduceAdd] at hc
  go_enter Tryz.func18, Tryz.ntmps18
  go_wp2_with (first | ((first | (with_reducible refine wpl_seal S ?_) | (with_reducible refine cw_seal S ?_) | (with_reducible refine bp_seal S ?_) | (with_reducible refine ca_seal S ?_)); clear S; (try clear hc); intro w1 S; (try simp only [List.set_cons_zero, List.set_cons_succ, List.nil_append] at S); have hc := S.cells; simp only [Cells, cellsC, Im, Row, El, Im, Nat.zero_add, Nat.reduceAdd] at hc))
  clear hc
  go_loopw [3, 4] (fun ov gv w' => ∃ (g : Nat) (o : List Int) (J : Fp), gv = .int .i64 g ∧ g ≤ 8 ∧ o.length ≤ g ∧ As (risK ts g = o) ∧ As (SH No I w [Row kI ov o, Im kI A ts] w' J)) (fun _ gv _ => 8 - (intOf gv).toNat)
  case atStart => exact ⟨0, [], _, rfl, by omega, by simp, ⟨rfl⟩, ⟨S⟩⟩
  case round =>
    clear S
    obtain ⟨g, o, J, rfl, hg, hol, HS, ⟨S⟩⟩ := hrel
    by_cases hlt : g < 8
    · have hlt' : decide ((g : Int) < 8) = true := decide_eq_true (by omega)
      have HN := As.mk (risK_succ ts g)
      rw [HS.out] at HN
      obtain ⟨Ao, co, rfl, -, -⟩ := S.row 0 rfl
      have hc := S.cells; simp only [Cells, cellsC, Im, Row, El, Im, Nat.zero_add, Nat.reduceAdd] at hc
      go_wp2_with (first | ((first | (with_reducible refine wpl_seal S ?_) | (with_reducible refine cw_seal S ?_) | (with_reducible refine bp_seal S ?_) | (with_reducible refine ca_seal S ?_)); clear S; (try clear hc); intro w1 S; (try simp only [List.set_cons_zero, List.set_cons_succ, List.nil_append] at S); have hc := S.cells; simp only [Cells, cellsC, Im, Row, El, Im, Nat.zero_add, Nat.reduceAdd] at hc))
      clear hc
      go_loopw [3, 5] (fun ov iv w' => ∃ (k : Nat) (J : Fp), iv = .int .i64 k ∧ k ≤ ts.length ∧ ov = .slice Ao o.length co ∧ As (∀ (j : Nat) (h : j < ts.length), j < k → ts[j] ≠ (g : Int)) ∧ As (SH No I w [Row kI (.slice Ao o.length co) o, Im kI A ts] w' J)) (fun _ iv _ => ts.length - (intOf iv).toNat)
      case atStart => exact ⟨0, _, rfl, by omega, rfl, ⟨fun j _ h => absurd h (Nat.not_lt_zero j)⟩, ⟨S⟩⟩
      case round =>
        clear S
        obtain ⟨k, J, rfl, hk, rfl, HK, ⟨S⟩⟩ := hrel
        by_cases hkl : k < ts.length
        · have hkl' : decide ((k : Int) < ts.length) = true := decide_eq_true (by omega)
          obtain ⟨b, ob, rfl, hck⟩ := (S.im 1 rfl).num_at (List.getElem?_eq_getElem hkl)
          have HM := As.mk (List.getElem_mem hkl)
          have HT : As (ts[k] ≠ (g : Int) → ∀ (j : Nat) (h : j < ts.length), j < k + 1 → ts[j] ≠ (g : Int)) := ⟨fun h0 j hj h => by
            rcases Nat.lt_or_eq_of_le (Nat.le_of_lt_succ h) with h1 | h1
            · exact HK.out j hj h1
            · subst h1; exact h0⟩
          generalize ts[k] = x at hck HM HT
          have hc := S.cells; simp only [Cells, cellsC, Im, Row, El, Im, Nat.zero_add, Nat.reduceAdd] at hc
          by_cases hx : x = (g : Int)
          · subst hx
            have hx' : ((g : Int) == (g : Int)) = true := beq_self_eq_true _
            have HN2 := As.mk (HN.out.trans (if_pos HM.out))
            clear HT HN
            go_wp2_with (first | ((first | (with_reducible refine wpl_seal S ?_) | (with_reducible refine cw_seal S ?_) | (with_reducible refine bp_seal S ?_) | (with_reducible refine ca_seal S ?_)); clear S; (try clear hc); intro w1 S; (try simp only [List.set_cons_zero, List.set_cons_succ, List.nil_append] at S); have hc := S.cells; simp only [Cells, cellsC, Im, Row, El, Im, Nat.zero_add, Nat.reduceAdd] at hc) | (at_builtin; refine wpl_push S 1 rfl rfl _ _ rfl ty_ints rfl (g : Int) _ _ rfl [_] _ (S.cel 0 rfl) rfl (by (try simp only [maxLen, List.length_nil, List.length_append, List.length_cons]); omega) (by (try simp only [maxLen, List.length_nil, List.length_append, List.length_cons]); omega) ?_; clear S; (try clear hc); intro va w1 S; simp only [List.set_cons_zero, List.set_cons_succ, List.nil_append] at S; obtain ⟨Av, cv, eva, -, -⟩ := S.row 1 rfl; subst eva; have hc := S.cells; simp only [Cells, cellsC, Im, Row, El, Im, Nat.zero_add, Nat.reduceAdd] at hc))
            rw [show (o ++ [(g : Int)]).length = o.length + 1 by simp] at S
            go_roundw
            case rel => exact ⟨g + 1, o ++ [(g : Int)], _, by go_num, by omega, by rw [List.length_append]; simp; omega, HN2, ⟨(S.sel [1, 2] (by decide) rfl (by simp) : SH _ _ _ [_, _] _ _)⟩⟩
            case measure => simp [intOf]; omega
          · have hx' : (x == (g : Int)) = false := by rw [beq_eq_false_iff_ne]; exact hx
            have HT2 := As.mk (HT.out hx)
            clear HT hx
            go_wp2_with (first | ((first | (with_reducible refine wpl_seal S ?_) | (with_reducible refine cw_seal S ?_) | (with_reducible refine bp_seal S ?_) | (with_reducible refine ca_seal S ?_)); clear S; (try clear hc); intro w1 S; (try simp only [List.set_cons_zero, List.set_cons_succ, List.nil_append] at S); have hc := S.cells; simp only [Cells, cellsC, Im, Row, El, Im, Nat.zero_add, Nat.reduceAdd] at hc))
            go_roundw
            case rel => exact ⟨k + 1, _, by go_num, by omega, rfl, HT2, ⟨S⟩⟩
            case measure => simp [intOf]; omega
        · have hkl' : decide ((k : Int) < ts.length) = false := decide_eq_false (by omega)
          have HN2 := As.mk (HN.out.trans (if_neg (fun h => by obtain ⟨j, hj, e⟩ := List.mem_iff_getElem.1 h; exact HK.out j hj (by omega) e)))
          clear HN
          have hc := S.cells; simp only [Cells, cellsC, Im, Row, El, Im, Nat.zero_add, Nat.reduceAdd] at hc
          go_wp2_with (first | ((first | (with_reducible refine wpl_seal S ?_) | (with_reducible refine cw_seal S ?_) | (with_reducible refine bp_seal S ?_) | (with_reducible refine ca_seal S ?_)); clear S; (try clear hc); intro w1 S; (try simp only [List.set_cons_zero, List.set_cons_succ, List.nil_append] at S); have hc := S.cells; simp only [Cells, cellsC, Im, Row, El, Im, Nat.zero_add, Nat.reduceAdd] at hc))
          go_roundw
          case rel => exact ⟨g + 1, o, _, by go_num, by omega, by omega, HN2, ⟨S⟩⟩
          case measure => simp [intOf]; omega
    · have hlt' : decide ((g : Int) < 8) = false := decide_eq_false (by omega)
      obtain rfl : g = 8 := by omega
      have HF := As.mk (show o = r by rw [← HS.out, ← HR.out]; rfl)
      obtain rfl := HF.out
      have hc := S.cells; simp only [Cells, cellsC, Im, Row, El, Im, Nat.zero_add, Nat.reduceAdd] at hc
      go_wp2_with (first | ((first | (with_reducible refine wpl_seal S ?_) | (with_reducible refine cw_seal S ?_) | (with_reducible refine bp_seal S ?_) | (with_reducible refine ca_seal S ?_)); clear S; (try clear hc); intro w1 S; (try simp only [List.set_cons_zero, List.set_cons_succ, List.nil_append] at S); have hc := S.cells; simp only [Cells, cellsC, Im, Row, El, Im, Nat.zero_add, Nat.reduceAdd] at hc))
      obtain ⟨A1, c1, I1, e1, hc1, S1, hI1⟩ := S.frow 0 rfl; subst e1; clear S hI1; have S := S1; clear S1; simp only [List.set_cons_zero, List.set_cons_succ, List.nil_append] at S
      go_ret
      exact ⟨A1, c1, rfl, hc1, S.ret 0 rfl⟩
end Go.Proofs.YtnmlonicfncpfaaGreat
