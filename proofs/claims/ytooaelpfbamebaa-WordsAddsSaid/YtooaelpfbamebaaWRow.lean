/- A row of a set; how many there are; the document's widths. -/
import Derived.Test.YtooaelpfbamebaaLiv14
namespace Go.Proofs.Ytooaelpfbamebaa
open Go.RowKit X
set_option maxHeartbeats 1000000
set_option maxRecDepth 8000
set_option linter.unusedSimpArgs false
set_option linter.unusedVariables false
section
variable {F0 I0 F I : Fp} {w0 w w' : World} {O : List Ob} {L W : List (List Int)} {A : Option Addr} {c gs gc : Nat} {xs : List Int} {k : Int}
/-- what a set's rows are read from -/
def SeR (w : World) (gs : Nat) (W : List (List Int)) : Prop := ∃ A c D, w.cell? ⟨gs, 1, none⟩ = some (.slice A W.length c) ∧ Sl kW w D A W
theorem X.SH.seR (S : SH F0 I0 w0 O w I) (i : Nat) (e : O[i]? = some (SetO gs L W)) : SeR w gs W := by
  obtain ⟨F, hI, S1, -⟩ := S.call1 i e
  obtain ⟨gt, v, pa, S2⟩ := S1.openSet
  unfold setM at S2
  obtain ⟨A', c', rfl, _, h⟩ := S2.row 2 rfl
  exact ⟨_, _, _, S2.cell 0 1 rfl rfl, h⟩
theorem wlen_c (gs : Nat) (W : List (List Int)) (w : World) (h : SeR w gs W) :
    Calls Try.prog 21 #[.pointer (some ⟨gs, 0, none⟩)] w fun e w' => e = .returned (.int .i64 W.length) ∧ w = w' := by
  obtain ⟨A, c, D, h1, -⟩ := h
  go_enter Try.func21, Try.ntmps21
  go_wp2
  go_ret
  exact ⟨rfl, rfl⟩
def rowR (W : List (List Int)) (n : Int) : List Int := if 0 ≤ n ∧ n < W.length then pa W n.toNat else []
theorem wrow_c (gs : Nat) (W : List (List Int)) (n : Int) (w : World) (h : SeR w gs W) (hW : ∀ x ∈ W, x.length ≤ 1000000) :
    Calls Try.prog 20 #[.pointer (some ⟨gs, 0, none⟩), .int .i64 n] w fun e w' => ∃ v, e = .returned v ∧ X.Own kP w' w.heap.size No v (rowR W n) ∧ Ext w w' := by
  obtain ⟨A, c, D, h1, h2⟩ := h
  by_cases hn : n < 0
  · have hr : As (rowR W n = []) := ⟨by unfold rowR; rw [if_neg (by omega)]⟩
    have hn' : decide (n < 0) = true := by simpa using hn
    go_enter Try.func20, Try.ntmps20
    go_wp2
    go_ret
    rw [hr.out]
    exact ⟨_, rfl, X.Own.nil, Ext.refl _⟩
  · have hn' : decide (n < 0) = false := by simpa using hn
    by_cases hl : (W.length : Int) ≤ n
    · have hr : As (rowR W n = []) := ⟨by unfold rowR; rw [if_neg (by omega)]⟩
      have hl' : decide ((W.length : Int) ≤ n) = true := by simpa using hl
      go_enter Try.func20, Try.ntmps20
      go_wp2
      go_ret
      rw [hr.out]
      exact ⟨_, rfl, X.Own.nil, Ext.refl _⟩
    · obtain ⟨q, rfl⟩ : ∃ q : Nat, n = q := ⟨n.toNat, by omega⟩
      have hq : q < W.length := by omega
      have hl' : decide ((W.length : Int) ≤ (q : Int)) = false := by simpa using hl
      have hr : As (rowR W q = W[q]) := ⟨by unfold rowR; rw [if_pos (by omega), Int.toNat_natCast, pa_eq hq]⟩
      have hle := hW _ (List.getElem_mem hq)
      obtain ⟨b, o, A', c', rfl, h3, h4, h5⟩ := h2.sl_at hq
      rw [hr.out]
      clear hr h2 hW
      generalize W[q] = x at h3 h4 h5 hle ⊢
      have HS := As.mk h5
      clear h5
      go_enter Try.func20, Try.ntmps20
      go_wp2_with (first | (go_at_call 36; refine (cloneP_c x A' c' _ _ HS.out hle).mono ?_; rintro e w1 ⟨v8, rfl, ho8, hx8⟩))
      go_ret
      exact ⟨_, rfl, ho8, hx8⟩
end
def topK (W : List (List Int)) (k : Nat) : Nat := (W.take k).foldl (fun m r => max m r.length) 0
theorem topK_succ {W : List (List Int)} {k : Nat} (h : k < W.length) : topK W (k + 1) = max (topK W k) W[k].length := by
  unfold topK
  rw [List.take_succ_eq_append_getElem h, List.foldl_append]
  rfl
def hasW (W : List (List Int)) (q : Nat) : Bool := W.any fun r => r.length == q + 1
def widN (W : List (List Int)) (m : Nat) : List Int := ((List.range m).filter (hasW W)).map (fun q : Nat => ((q + 1 : Nat) : Int))
theorem widN_succ (W : List (List Int)) (m : Nat) : widN W (m + 1) = widN W m ++ (if hasW W m then [((m + 1 : Nat) : Int)] else []) := by
  unfold widN
  rw [List.range_succ, List.filter_append, List.map_append]
  congr 1
  by_cases h : hasW W m
  · rw [if_pos h, List.filter_cons_of_pos h]; rfl
  · rw [if_neg h, List.filter_cons_of_neg h]; rfl
theorem widN_len (W : List (List Int)) (m : Nat) : (widN W m).length ≤ m := by
  unfold widN
  rw [List.length_map]
  exact Nat.le_trans (List.length_filter_le _ _) (by simp)
theorem hasW_yes {W : List (List Int)} {i q : Nat} (h : i < W.length) (e : W[i].length = q + 1) : hasW W q = true := by
  unfold hasW
  rw [List.any_eq_true]
  exact ⟨_, List.getElem_mem h, by simpa using e⟩
theorem hasW_no {W : List (List Int)} {q : Nat} (h : ∀ (i : Nat) (hi : i < W.length), W[i].length ≠ q + 1) : hasW W q = false := by
  unfold hasW
  rw [List.any_eq_false]
  intro r hr
  obtain ⟨i, hi, rfl⟩ := List.mem_iff_getElem.1 hr
  simpa using h i hi
theorem ywidths_c (W : List (List Int)) (A : Option Addr) (c : Nat) (w : World) (I : Fp) (hI : ∀ b, I b → b < w.heap.size) (hW : Sl kW w I A W) (hWl : W.length ≤ 1000) (hs5 : ∀ x ∈ W, x.length ≤ 5) :
    Calls Try.prog 23 #[.slice A W.length c] w fun e w' => ∃ v, e = .returned v ∧ Upd w No I w' (Row kI v (widN W (topK W W.length))) := by
  have S := ((SH.start w I hI).know (h := Im kW A W) hW).nilrow (k := kI)
  have HS5 := As.mk hs5
  clear hW hs5
  have hc := S.cells; simp only [Cells, cellsC, Im, Row, El, RTH, TreeH, TR, AU, AL, OrNil, AuP, SetO, Many, ScO, Nat.zero_add, Nat.reduceAdd] at hc
  go_enter Try.func23, Try.ntmps23
  go_wp2_with (first | ((first | (with_reducible refine wpl_seal S ?_) | (with_reducible refine cw_seal S ?_) | (with_reducible refine bp_seal S ?_) | (with_reducible refine ca_seal S ?_)); clear S; (try clear hc); intro w1 S; (try simp only [List.set_cons_zero, List.set_cons_succ, List.nil_append] at S); have hc := S.cells; simp only [Cells, cellsC, Im, Row, El, RTH, TreeH, TR, AU, AL, OrNil, AuP, SetO, Many, ScO, Nat.zero_add, Nat.reduceAdd] at hc))
  have S1 := S
  clear S hc
  go_loopw [4, 5] (fun o i w' => ∃ (k : Nat), k ≤ W.length ∧ i = .int .i64 k ∧ o = .int .i64 (topK W k) ∧ topK W k ≤ 5 ∧ As (SH No I w [Row kI (.slice none 0 0) [], Im kW A W] w' I)) (fun _ i _ => W.length - (intOf i).toNat)
  case atStart => exact ⟨0, Nat.zero_le _, rfl, rfl, Nat.zero_le _, ⟨S1⟩⟩
  case round =>
    clear S1
    obtain ⟨k, hk, rfl, rfl, ht5, ⟨S⟩⟩ := hrel
    have hc := S.cells; simp only [Cells, cellsC, Im, Row, El, RTH, TreeH, TR, AU, AL, OrNil, AuP, SetO, Many, ScO, Nat.zero_add, Nat.reduceAdd] at hc
    by_cases hlt : k < W.length
    · have hlt' : decide ((k : Int) < W.length) = true := by simpa using hlt
      obtain ⟨b, o, A1, c1, rfl, hcx, hl1, hs1⟩ := (S.im 1 rfl).sl_at hlt
      have h5 := HS5.out _ (List.getElem_mem hlt)
      have HT := As.mk (topK_succ hlt)
      have HTI : As (max (topK W k : Int) (W[k].length : Int) = (topK W (k + 1) : Nat)) := ⟨by rw [HT.out]; omega⟩
      have ht6 : topK W (k + 1) ≤ 5 := by rw [HT.out]; omega
      generalize W[k].length = n at hcx HTI
      go_wp2_with (first | ((first | (with_reducible refine wpl_seal S ?_) | (with_reducible refine cw_seal S ?_) | (with_reducible refine bp_seal S ?_) | (with_reducible refine ca_seal S ?_)); clear S; (try clear hc); intro w1 S; (try simp only [List.set_cons_zero, List.set_cons_succ, List.nil_append] at S); have hc := S.cells; simp only [Cells, cellsC, Im, Row, El, RTH, TreeH, TR, AU, AL, OrNil, AuP, SetO, Many, ScO, Nat.zero_add, Nat.reduceAdd] at hc))
      go_roundw
      case rel => exact ⟨k + 1, by omega, by go_num, by rw [← HTI.out], ht6, ⟨by first | exact S | trivial⟩⟩
      case measure => simp [intOf]; omega
    · have hlt' : decide ((k : Int) < W.length) = false := by simpa using hlt
      obtain rfl : k = W.length := by omega
      obtain ⟨tp, htp⟩ : ∃ tp, topK W W.length = tp := ⟨_, rfl⟩
      rw [htp] at ht5 ⊢
      have HTP := As.mk htp
      clear htp
      go_wp2_with (first | ((first | (with_reducible refine wpl_seal S ?_) | (with_reducible refine cw_seal S ?_) | (with_reducible refine bp_seal S ?_) | (with_reducible refine ca_seal S ?_)); clear S; (try clear hc); intro w1 S; (try simp only [List.set_cons_zero, List.set_cons_succ, List.nil_append] at S); have hc := S.cells; simp only [Cells, cellsC, Im, Row, El, RTH, TreeH, TR, AU, AL, OrNil, AuP, SetO, Many, ScO, Nat.zero_add, Nat.reduceAdd] at hc))
      have S1 := S
      clear S hc
      go_loopw [3, 6] (fun o i w' => ∃ (m : Nat), m ≤ tp ∧ i = .int .i64 ((m : Int) + 1) ∧ As (SH No I w [Row kI o (widN W m), Im kW A W] w' I)) (fun _ i _ => tp + 1 - (intOf i).toNat)
      case atStart => exact ⟨0, Nat.zero_le _, by go_num, ⟨S1⟩⟩
      case round =>
        clear S1
        obtain ⟨m, hm, rfl, ⟨S⟩⟩ := hrel
        have hwl := widN_len W m
        have HWS := As.mk (widN_succ W m)
        have hc := S.cells; simp only [Cells, cellsC, Im, Row, El, RTH, TreeH, TR, AU, AL, OrNil, AuP, SetO, Many, ScO, Nat.zero_add, Nat.reduceAdd] at hc
        by_cases hmt : m < tp
        · have hmt' : decide ((m : Int) + 1 ≤ tp) = true := by simp; omega
          obtain ⟨out, hout⟩ : ∃ out, widN W m = out := ⟨_, rfl⟩
          rw [hout] at S hwl HWS
          clear hout
          go_wp2_with (first | ((first | (with_reducible refine wpl_seal S ?_) | (with_reducible refine cw_seal S ?_) | (with_reducible refine bp_seal S ?_) | (with_reducible refine ca_seal S ?_)); clear S; (try clear hc); intro w1 S; (try simp only [List.set_cons_zero, List.set_cons_succ, List.nil_append] at S); have hc := S.cells; simp only [Cells, cellsC, Im, Row, El, RTH, TreeH, TR, AU, AL, OrNil, AuP, SetO, Many, ScO, Nat.zero_add, Nat.reduceAdd] at hc))
          have S1 := S
          clear S hc
          go_loopw [3, 7] (fun o i w' => ∃ (t : Nat), t ≤ W.length ∧ i = .int .i64 t ∧ As (∀ (q : Nat) (hq : q < W.length), q < t → W[q].length ≠ m + 1) ∧ As (SH No I w [Row kI o out, Im kW A W] w' I)) (fun _ i _ => W.length - (intOf i).toNat)
          case atStart => exact ⟨0, Nat.zero_le _, rfl, ⟨fun q _ h => absurd h (Nat.not_lt_zero q)⟩, ⟨S1⟩⟩
          case round =>
            clear S1
            obtain ⟨t, ht, rfl, HK, ⟨S⟩⟩ := hrel
            have hc := S.cells; simp only [Cells, cellsC, Im, Row, El, RTH, TreeH, TR, AU, AL, OrNil, AuP, SetO, Many, ScO, Nat.zero_add, Nat.reduceAdd] at hc
            by_cases htl : t < W.length
            · have htl' : decide ((t : Int) < W.length) = true := by simpa using htl
              obtain ⟨b, o, A1, c1, rfl, hcx, -, -⟩ := (S.im 1 rfl).sl_at htl
              have HY : As (W[t].length = m + 1 → hasW W m = true) := ⟨hasW_yes htl⟩
              have HN : As (W[t].length ≠ m + 1 → ∀ (q : Nat) (hq : q < W.length), q < t + 1 → W[q].length ≠ m + 1) := ⟨fun h q hq hqt => by
                rcases Nat.lt_or_eq_of_le (Nat.le_of_lt_succ hqt) with h1 | h1
                · exact HK.out q hq h1
                · subst h1; exact h⟩
              generalize W[t].length = n at hcx HY HN
              by_cases hn : n = m + 1
              · have hn' : ((n : Int) == (m : Int) + 1) = true := by rw [beq_iff_eq]; omega
                have HW2 := HWS.out
                rw [HY.out hn, if_pos rfl] at HW2
                have HW3 := As.mk HW2
                clear HWS HW2 hn
                go_wp2_with (first | ((first | (with_reducible refine wpl_seal S ?_) | (with_reducible refine cw_seal S ?_) | (with_reducible refine bp_seal S ?_) | (with_reducible refine ca_seal S ?_)); clear S; (try clear hc); intro w1 S; (try simp only [List.set_cons_zero, List.set_cons_succ, List.nil_append] at S); have hc := S.cells; simp only [Cells, cellsC, Im, Row, El, RTH, TreeH, TR, AU, AL, OrNil, AuP, SetO, Many, ScO, Nat.zero_add, Nat.reduceAdd] at hc) | (at_builtin; refine wpl_push S 1 rfl rfl _ _ rfl ty_ints rfl ((m : Int) + 1) _ _ rfl [_] _ (S.cel 0 rfl) rfl (by (try simp only [maxLen, List.length_nil, List.length_append, List.length_cons]); omega) (by (try simp only [maxLen, List.length_nil, List.length_append, List.length_cons]); omega) ?_; clear S; (try clear hc); intro va w1 S; simp only [List.set_cons_zero, List.set_cons_succ, List.nil_append] at S; have hc := S.cells; simp only [Cells, cellsC, Im, Row, El, RTH, TreeH, TR, AU, AL, OrNil, AuP, SetO, Many, ScO, Nat.zero_add, Nat.reduceAdd] at hc))
                go_roundw
                case rel => exact ⟨m + 1, by omega, by go_num, ⟨by rw [HW3.out]; exact (S.sel [1, 2] (by decide) rfl (by simp) : SH _ _ _ [_, _] _ _)⟩⟩
                case measure => simp [intOf]; omega
              · have hn' : ((n : Int) == (m : Int) + 1) = false := by rw [beq_eq_false_iff_ne]; omega
                have HN2 := As.mk (HN.out hn)
                clear hn HN
                go_wp2_with (first | ((first | (with_reducible refine wpl_seal S ?_) | (with_reducible refine cw_seal S ?_) | (with_reducible refine bp_seal S ?_) | (with_reducible refine ca_seal S ?_)); clear S; (try clear hc); intro w1 S; (try simp only [List.set_cons_zero, List.set_cons_succ, List.nil_append] at S); have hc := S.cells; simp only [Cells, cellsC, Im, Row, El, RTH, TreeH, TR, AU, AL, OrNil, AuP, SetO, Many, ScO, Nat.zero_add, Nat.reduceAdd] at hc))
                go_roundw
                case rel => exact ⟨t + 1, by omega, by go_num, HN2, ⟨by first | exact S | trivial⟩⟩
                case measure => simp [intOf]; omega
            · have htl' : decide ((t : Int) < W.length) = false := by simpa using htl
              obtain rfl : t = W.length := by omega
              have HW2 := HWS.out
              rw [hasW_no fun i hi => HK.out i hi hi, if_neg (by simp), List.append_nil] at HW2
              have HW3 := As.mk HW2
              clear HWS HW2
              go_wp2_with (first | ((first | (with_reducible refine wpl_seal S ?_) | (with_reducible refine cw_seal S ?_) | (with_reducible refine bp_seal S ?_) | (with_reducible refine ca_seal S ?_)); clear S; (try clear hc); intro w1 S; (try simp only [List.set_cons_zero, List.set_cons_succ, List.nil_append] at S); have hc := S.cells; simp only [Cells, cellsC, Im, Row, El, RTH, TreeH, TR, AU, AL, OrNil, AuP, SetO, Many, ScO, Nat.zero_add, Nat.reduceAdd] at hc))
              go_roundw
              case rel => exact ⟨m + 1, by omega, by go_num, ⟨by rw [HW3.out]; exact S⟩⟩
              case measure => simp [intOf]; omega
        · have hmt' : decide ((m : Int) + 1 ≤ tp) = false := by simp; omega
          obtain rfl : m = tp := by omega
          go_wp2_with (first | ((first | (with_reducible refine wpl_seal S ?_) | (with_reducible refine cw_seal S ?_) | (with_reducible refine bp_seal S ?_) | (with_reducible refine ca_seal S ?_)); clear S; (try clear hc); intro w1 S; (try simp only [List.set_cons_zero, List.set_cons_succ, List.nil_append] at S); have hc := S.cells; simp only [Cells, cellsC, Im, Row, El, RTH, TreeH, TR, AU, AL, OrNil, AuP, SetO, Many, ScO, Nat.zero_add, Nat.reduceAdd] at hc))
          go_ret
          refine ⟨_, rfl, ?_⟩
          rw [HTP.out]
          exact S.ret 0 rfl
end Go.Proofs.Ytooaelpfbamebaa
