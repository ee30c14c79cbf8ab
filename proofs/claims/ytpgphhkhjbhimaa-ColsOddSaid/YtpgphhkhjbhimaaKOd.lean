/- ColsOdd: the law's walk. -/
import Derived.Test.YtpgphhkhjbhimaaKPl
import Derived.Deep.DeepCutAuto
import Derived.Deep.CutBlock
namespace Go.Proofs.Ytpgphhkhjbhimaa.X
open Go.RowKit
/-- whole numbers that an int holds -/
def Kd.intR (ety : TypeId) : Kd Int where
  ety := ety
  size := 1
  rel := fun _ _ x cs => cs = [.int .i64 x] ∧ I64 x
  keep := fun h _ => h
  weak := fun h _ => h
  len := fun h => by obtain ⟨rfl, _⟩ := h; rfl
  one := fun h => by obtain ⟨rfl, _⟩ := h; simp [Value.oneCell']
theorem Sl.intR {ety : TypeId} {w : World} {D : Fp} {A : Option Addr} {xs : List Int} (h : Sl (Kd.intR ety) w D A xs) : Sl (Kd.int ety .i64) w D A xs ∧ ∀ x ∈ xs, I64 x := by
  refine ⟨fun i hi => ?_, fun x hx => ?_⟩
  · obtain ⟨b, o, cs, e, h1, h2, h3, h4, h5⟩ := h i hi
    exact ⟨b, o, cs, e, h1, h2, h3.1, h4, h5⟩
  · obtain ⟨i, hi, rfl⟩ := List.mem_iff_getElem.1 hx
    obtain ⟨b, o, cs, e, h1, h2, h3, h4, h5⟩ := h i hi
    exact h3.2
theorem Sl.intssR {e1 e2 : TypeId} {w : World} {D : Fp} {A : Option Addr} {xs : List (List Int)} (h : Sl (Kd.sl e1 (Kd.intR e2)) w D A xs) : Sl (Kd.sl e1 (Kd.int e2 .i64)) w D A xs ∧ ∀ l ∈ xs, ∀ x ∈ l, I64 x := by
  refine ⟨fun i hi => ?_, fun l hl => ?_⟩
  · obtain ⟨b, o, cs, e, h1, h2, ⟨A', c', h3, h6, h7⟩, h4, h5⟩ := h i hi
    exact ⟨b, o, cs, e, h1, h2, ⟨A', c', h3, h6, h7.intR.1⟩, h4, h5⟩
  · obtain ⟨i, hi, rfl⟩ := List.mem_iff_getElem.1 hl
    obtain ⟨b, o, cs, e, h1, h2, ⟨A', c', h3, h6, h7⟩, h4, h5⟩ := h i hi
    exact h7.intR.2
end Go.Proofs.Ytpgphhkhjbhimaa.X
namespace Go.Proofs.Ytpgphhkhjbhimaa
open Go.RowKit X
set_option maxHeartbeats 4000000
set_option maxRecDepth 8000
set_option linter.unusedSimpArgs false
set_option linter.unusedVariables false
theorem crow_no {F0 I0 I : Fp} {w0 w : World} {O : List Ob} {own told : List (List Int)} {r : List Int} {gm n : Nat} (S0 : SH F0 I0 w0 O w I) (i : Nat) (e : O[i]? = some (MaT gm own told n)) (A : Option Addr) (c : Nat) (hx : Sl kI w I A r) (hrl : r.length ≤ 1000) (hbad : r.length = n → lowR r = true) :
    Calls Try.prog 11 #[.pointer (some ⟨gm, 0, none⟩), .slice A r.length c] w fun e w' => e = .returned (.tuple #[.slice none 0 0, .int .i64 1]) ∧ w = w' := by
  obtain ⟨F, hI, S, back⟩ := S0.call1 i e
  clear back S0 e
  obtain ⟨ga, g, junk, S⟩ := S.openMa
  unfold maM at S
  rw [stT_len] at S
  have HX := As.mk hx
  have HBAD := As.mk hbad
  clear hx hbad
  by_cases hn : r.length = n
  · have hl := HBAD.out hn
    have HLO := As.mk hl
    have hb : ((r.length : Int) != n) = false := by rw [hn]; simp
    clear hl hn
    have hc := S.cells; simp only [Cells, cellsC, Im, Row, El, RTH, TreeH, TR, AU, AL, OrNil, Many, MaO, FlatO, Nat.zero_add, Nat.reduceAdd] at hc
    go_enter Try.func11, Try.ntmps11
    go_wp2_with (first | ((first | (with_reducible refine wpl_seal S ?_) | (with_reducible refine cw_seal S ?_) | (with_reducible refine bp_seal S ?_) | (with_reducible refine ca_seal S ?_)); clear S; (try clear hc); intro w1 S; (try simp only [List.set_cons_zero, List.set_cons_succ, List.nil_append] at S); have hc := S.cells; simp only [Cells, cellsC, Im, Row, El, RTH, TreeH, TR, AU, AL, OrNil, Many, MaO, FlatO, Nat.zero_add, Nat.reduceAdd] at hc) | (go_at_call 33; refine (contLow_c r A c _ _ HX.out (by omega)).mono ?_; rw [HLO.out]; rintro e w1 ⟨rfl, rfl⟩))
    go_ret2
    exact ⟨rfl, rfl⟩
  · have hb : ((r.length : Int) != n) = true := by rw [bne_iff_ne]; omega
    clear hn
    have hc := S.cells; simp only [Cells, cellsC, Im, Row, El, RTH, TreeH, TR, AU, AL, OrNil, Many, MaO, FlatO, Nat.zero_add, Nat.reduceAdd] at hc
    go_enter Try.func11, Try.ntmps11
    go_wp2_with (first | ((first | (with_reducible refine wpl_seal S ?_) | (with_reducible refine cw_seal S ?_) | (with_reducible refine bp_seal S ?_) | (with_reducible refine ca_seal S ?_)); clear S; (try clear hc); intro w1 S; (try simp only [List.set_cons_zero, List.set_cons_succ, List.nil_append] at S); have hc := S.cells; simp only [Cells, cellsC, Im, Row, El, RTH, TreeH, TR, AU, AL, OrNil, Many, MaO, FlatO, Nat.zero_add, Nat.reduceAdd] at hc))
    go_ret2
    exact ⟨rfl, rfl⟩
theorem zmay_c (l : List (List Int)) (A : Option Addr) (c : Nat) (w : World) (I : Fp) (hI : ∀ b, I b → b < w.heap.size) (hl : Sl kII w I A l) (hn : l.length ≤ 1000) (hc : ∀ x ∈ l, x.length ≤ 1000) :
    Calls Try.prog 14 #[.slice A l.length c] w fun e w' => e = .returned (.bool (!oddW l)) ∧ Ext w w' := by
  have S := (SH.start w I hI).know (h := Im kII A l) hl
  have HLC := As.mk hc
  clear hl hc
  have hc := S.cells; simp only [Cells, cellsC, Im, Row, El, RTH, TreeH, TR, AU, AL, OrNil, Many, MaO, FlatO, Nat.zero_add, Nat.reduceAdd] at hc
  go_enter Try.func14, Try.ntmps14
  go_wp2_with (first | ((first | (with_reducible refine wpl_seal S ?_) | (with_reducible refine cw_seal S ?_) | (with_reducible refine bp_seal S ?_) | (with_reducible refine ca_seal S ?_)); clear S; (try clear hc); intro w1 S; (try simp only [List.set_cons_zero, List.set_cons_succ, List.nil_append] at S); have hc := S.cells; simp only [Cells, cellsC, Im, Row, El, RTH, TreeH, TR, AU, AL, OrNil, Many, MaO, FlatO, Nat.zero_add, Nat.reduceAdd] at hc))
  clear hc
  go_loopw [3] (fun i w' => ∃ (k : Nat) (J : Fp), k ≤ l.length ∧ i = .int .i64 k ∧ As (∀ (j : Nat) (h : j < l.length), j < k → oddC l[j] = false) ∧ As (SH No I w [Im kII A l] w' J)) (fun i _ => l.length - (intOf i).toNat)
  case atStart => exact ⟨0, _, by omega, rfl, ⟨fun j _ h => absurd h (Nat.not_lt_zero j)⟩, ⟨S⟩⟩
  case round =>
    clear S
    obtain ⟨k, J, hk, rfl, HK, ⟨S⟩⟩ := hrel
    by_cases hlt : k < l.length
    · have hlt' : decide ((k : Int) < l.length) = true := by simp; omega
      obtain ⟨b, o, A1, c1, rfl, hcx, hc1, hs1⟩ := (S.im 0 rfl).sl_at hlt
      have HT : As (oddC l[k] = false → ∀ (j : Nat) (h : j < l.length), j < k + 1 → oddC l[j] = false) := ⟨fun hq1 j hj h => by
        rcases Nat.lt_or_eq_of_le (Nat.le_of_lt_succ h) with h1 | h1
        · exact HK.out j hj h1
        · subst h1; exact hq1⟩
      have HF : As (oddC l[k] = true → oddW l = true) := ⟨fun hq1 => by
        unfold oddW
        rw [List.any_eq_true]
        exact ⟨_, List.getElem_mem hlt, hq1⟩⟩
      have hlk := HLC.out _ (List.getElem_mem hlt)
      obtain ⟨y, hy⟩ : ∃ y, l[k] = y := ⟨_, rfl⟩
      have HY := As.mk hy
      rw [hy] at hcx hs1 HT HF hlk
      clear hy
      by_cases h0 : y.length = 0
      · have h0' : ((y.length : Int) == 0) = true := by rw [beq_iff_eq]; omega
        have HR := As.mk (HF.out (by unfold oddC; rw [decide_eq_true h0]; rfl))
        have hc := S.cells; simp only [Cells, cellsC, Im, Row, El, RTH, TreeH, TR, AU, AL, OrNil, Many, MaO, FlatO, Nat.zero_add, Nat.reduceAdd] at hc
        go_wp2_with (first | ((first | (with_reducible refine wpl_seal S ?_) | (with_reducible refine cw_seal S ?_) | (with_reducible refine bp_seal S ?_) | (with_reducible refine ca_seal S ?_)); clear S; (try clear hc); intro w1 S; (try simp only [List.set_cons_zero, List.set_cons_succ, List.nil_append] at S); have hc := S.cells; simp only [Cells, cellsC, Im, Row, El, RTH, TreeH, TR, AU, AL, OrNil, Many, MaO, FlatO, Nat.zero_add, Nat.reduceAdd] at hc))
        go_ret
        exact ⟨ret_bool (by rw [HR.out]; rfl), S.out⟩
      · have h0' : ((y.length : Int) == 0) = false := by rw [beq_eq_false_iff_ne]; omega
        have hc := S.cells; simp only [Cells, cellsC, Im, Row, El, RTH, TreeH, TR, AU, AL, OrNil, Many, MaO, FlatO, Nat.zero_add, Nat.reduceAdd] at hc
        go_wp2_with (first | ((first | (with_reducible refine wpl_seal S ?_) | (with_reducible refine cw_seal S ?_) | (with_reducible refine bp_seal S ?_) | (with_reducible refine ca_seal S ?_)); clear S; (try clear hc); intro w1 S; (try simp only [List.set_cons_zero, List.set_cons_succ, List.nil_append] at S); have hc := S.cells; simp only [Cells, cellsC, Im, Row, El, RTH, TreeH, TR, AU, AL, OrNil, Many, MaO, FlatO, Nat.zero_add, Nat.reduceAdd] at hc))
        clear hc
        go_loopw [4] (fun i w' => ∃ (t : Nat) (J : Fp), t ≤ y.length ∧ i = .int .i64 t ∧ As (∀ (j : Nat) (h : j < y.length), j < t → 0 ≤ y[j]) ∧ As (SH No I w [Im kII (some ⟨b, o, none⟩) l] w' J)) (fun i _ => y.length - (intOf i).toNat)
        case atStart => exact ⟨0, _, by omega, rfl, ⟨fun j _ h => absurd h (Nat.not_lt_zero j)⟩, ⟨S⟩⟩
        case round =>
          clear S hs1 hcx
          obtain ⟨t, J, ht, rfl, HG, ⟨S⟩⟩ := hrel
          obtain ⟨b', o', A1', c1', e1, hcx, hc1', hs1⟩ := (S.im 0 rfl).sl_at hlt
          cases e1
          rw [HY.out] at hcx hs1
          by_cases htl : t < y.length
          · have htl' : decide ((t : Int) < y.length) = true := by simp; omega
            obtain ⟨b2, o2, rfl, hcy⟩ := hs1.int_at htl
            clear hs1
            by_cases hz : y[t] < 0
            · have hz' : decide (y[t] < 0) = true := by simpa using hz
              have HR := As.mk (HF.out (by unfold oddC; rw [Bool.or_eq_true]; exact .inr (List.any_eq_true.2 ⟨_, List.getElem_mem htl, hz'⟩)))
              generalize y[t] = z at hcy hz'
              have hc := S.cells; simp only [Cells, cellsC, Im, Row, El, RTH, TreeH, TR, AU, AL, OrNil, Many, MaO, FlatO, Nat.zero_add, Nat.reduceAdd] at hc
              go_wp2_with (first | ((first | (with_reducible refine wpl_seal S ?_) | (with_reducible refine cw_seal S ?_) | (with_reducible refine bp_seal S ?_) | (with_reducible refine ca_seal S ?_)); clear S; (try clear hc); intro w1 S; (try simp only [List.set_cons_zero, List.set_cons_succ, List.nil_append] at S); have hc := S.cells; simp only [Cells, cellsC, Im, Row, El, RTH, TreeH, TR, AU, AL, OrNil, Many, MaO, FlatO, Nat.zero_add, Nat.reduceAdd] at hc))
              go_ret
              exact ⟨ret_bool (by rw [HR.out]; rfl), S.out⟩
            · have hz' : decide (y[t] < 0) = false := by simpa using hz
              have HG2 : As (∀ (j : Nat) (h : j < y.length), j < t + 1 → 0 ≤ y[j]) := ⟨fun j hj h => by
                rcases Nat.lt_or_eq_of_le (Nat.le_of_lt_succ h) with h1 | h1
                · exact HG.out j hj h1
                · subst h1; omega⟩
              generalize y[t] = z at hcy hz'
              have hc := S.cells; simp only [Cells, cellsC, Im, Row, El, RTH, TreeH, TR, AU, AL, OrNil, Many, MaO, FlatO, Nat.zero_add, Nat.reduceAdd] at hc
              go_wp2_with (first | ((first | (with_reducible refine wpl_seal S ?_) | (with_reducible refine cw_seal S ?_) | (with_reducible refine bp_seal S ?_) | (with_reducible refine ca_seal S ?_)); clear S; (try clear hc); intro w1 S; (try simp only [List.set_cons_zero, List.set_cons_succ, List.nil_append] at S); have hc := S.cells; simp only [Cells, cellsC, Im, Row, El, RTH, TreeH, TR, AU, AL, OrNil, Many, MaO, FlatO, Nat.zero_add, Nat.reduceAdd] at hc))
              go_roundw
              case rel => exact ⟨t + 1, _, by omega, by go_num, HG2, ⟨by first | exact S | trivial⟩⟩
              case measure => simp [intOf]; omega
          · have htl' : decide ((t : Int) < y.length) = false := by simp; omega
            have HO : As (oddC y = false) := ⟨by
              unfold oddC
              rw [decide_eq_false h0, Bool.false_or, List.any_eq_false]
              intro x hx
              obtain ⟨j, hj, rfl⟩ := List.mem_iff_getElem.1 hx
              have := HG.out j hj (by omega)
              simp; omega⟩
            clear hs1
            have hc := S.cells; simp only [Cells, cellsC, Im, Row, El, RTH, TreeH, TR, AU, AL, OrNil, Many, MaO, FlatO, Nat.zero_add, Nat.reduceAdd] at hc
            go_wp2_with (first | ((first | (with_reducible refine wpl_seal S ?_) | (with_reducible refine cw_seal S ?_) | (with_reducible refine bp_seal S ?_) | (with_reducible refine ca_seal S ?_)); clear S; (try clear hc); intro w1 S; (try simp only [List.set_cons_zero, List.set_cons_succ, List.nil_append] at S); have hc := S.cells; simp only [Cells, cellsC, Im, Row, El, RTH, TreeH, TR, AU, AL, OrNil, Many, MaO, FlatO, Nat.zero_add, Nat.reduceAdd] at hc))
            go_roundw
            case rel => exact ⟨k + 1, _, by omega, by go_num, ⟨HT.out HO.out⟩, ⟨by first | exact S | trivial⟩⟩
            case measure => simp [intOf]; omega
    · have hlt' : decide ((k : Int) < l.length) = false := by simp; omega
      have HR : As (oddW l = false) := ⟨by
        unfold oddW
        rw [List.any_eq_false]
        intro x hx
        obtain ⟨j, hj, rfl⟩ := List.mem_iff_getElem.1 hx
        rw [HK.out j hj (by omega)]
        decide⟩
      have hc := S.cells; simp only [Cells, cellsC, Im, Row, El, RTH, TreeH, TR, AU, AL, OrNil, Many, MaO, FlatO, Nat.zero_add, Nat.reduceAdd] at hc
      go_wp2_with (first | ((first | (with_reducible refine wpl_seal S ?_) | (with_reducible refine cw_seal S ?_) | (with_reducible refine bp_seal S ?_) | (with_reducible refine ca_seal S ?_)); clear S; (try clear hc); intro w1 S; (try simp only [List.set_cons_zero, List.set_cons_succ, List.nil_append] at S); have hc := S.cells; simp only [Cells, cellsC, Im, Row, El, RTH, TreeH, TR, AU, AL, OrNil, Many, MaO, FlatO, Nat.zero_add, Nat.reduceAdd] at hc))
      go_ret
      exact ⟨ret_bool (by rw [HR.out]; rfl), S.out⟩
def rawO (cs : List (List Int)) (k : Nat) : List (List Int) := (cs.take k).map fun l => l.take 4
theorem rawO_succ {cs : List (List Int)} {k : Nat} (h : k < cs.length) : rawO cs (k + 1) = rawO cs k ++ [cs[k].take 4] := by
  unfold rawO
  rw [List.take_succ_eq_append_getElem h, List.map_append]
  rfl
theorem rawO_len (cs : List (List Int)) (k : Nat) : (rawO cs k).length ≤ k := by unfold rawO; rw [List.length_map, List.length_take]; omega
theorem rawO_mem {cs : List (List Int)} {k : Nat} {x : List Int} (h : x ∈ rawO cs k) : x.length ≤ 4 ∧ ∀ y ∈ x, ∃ l ∈ cs, y ∈ l := by
  unfold rawO at h
  obtain ⟨l, hl, rfl⟩ := List.mem_map.1 h
  exact ⟨by rw [List.length_take]; omega, fun y hy => ⟨l, List.mem_of_mem_take hl, List.mem_of_mem_take hy⟩⟩
theorem few_of {own : List (List Int)} (h1 : own.length ≤ 6) (h2 : ∀ x ∈ own, x.length ≤ 4) (h3 : oddW own = false) (h4 : ∀ x ∈ own, ∀ y ∈ x, I64 y) : Few own where
  len := h1
  each := fun l hl => by
    unfold oddW at h3
    have := List.any_eq_false.1 h3 l hl
    unfold oddC at this
    rw [Bool.not_eq_true, Bool.or_eq_false_iff, decide_eq_false_iff_not] at this
    refine ⟨fun e => this.1 (by rw [e]; rfl), h2 l hl, fun y hy => ⟨?_, (h4 l hl y hy).2⟩⟩
    have h5 := List.any_eq_false.1 this.2 y hy
    simp at h5
    omega
theorem lowR_iff {r : List Int} : lowR r = false ↔ ∀ y ∈ r, -1 ≤ y := by
  unfold lowR
  rw [List.any_eq_false]
  constructor
  · intro h y hy
    have := h y hy
    simp at this
    omega
  · intro h y hy
    have := h y hy
    simp
    omega
theorem crow_t2 {F0 I0 I : Fp} {w0 w : World} {O : List Ob} {own told : List (List Int)} {r : List Int} {gm n : Nat} (S : SH F0 I0 w0 O w I) (i : Nat) (e : O[i]? = some (MaT gm own told n)) (A : Option Addr) (c : Nat) (hx : Sl kI w I A r) (hr : r.length = n) (hlow : ∀ y ∈ r, -1 ≤ y ∧ y ≤ 9223372036854775807) (hn : n ≤ 5000) (hF : Few own) (ht : told.length ≤ 1000) :
    Calls Try.prog 11 #[.pointer (some ⟨gm, 0, none⟩), .slice A r.length c] w fun e w' => ∃ g2 J, e = .returned (.tuple #[.slice (some ⟨g2, 0, none⟩) n n, .int .i64 0]) ∧ SH F0 I0 w0 (Im kII (some ⟨g2, 0, none⟩) (outT own (told ++ [r]) n) :: O.set i (MaT gm own (told ++ [r]) n)) w' J := by
  rw [hr]
  exact crow_t S i e A c hx hr hlow hn hF ht
theorem lowR_take {r : List Int} {k : Nat} (h : k < r.length) : lowR (r.take (k + 1)) = (lowR (r.take k) || decide (r[k] < -1)) := by
  unfold lowR
  rw [List.take_succ_eq_append_getElem h, List.any_append]
  simp
/-- may a row of three places be told? -/
def goodR3 (r : List Int) : Bool := decide (r.length = 3) && !lowR r
theorem kodd_c (cs rws : List (List Int)) (pn : Int) (A B : Option Addr) (c d : Nat) (w : World) (I : Fp) (hI : ∀ b, I b → b < w.heap.size) (hx : Sl (Kd.sl 30 (Kd.intR 3)) w I A cs) (hy : Sl (Kd.sl 30 (Kd.intR 3)) w I B rws) :
    Calls Try.prog 4 #[.slice A cs.length c, .int .i64 pn, .slice B rws.length d] w fun e w' => e = .returned (.bool true) ∧ Ext w w' := by
  have S := ((SH.start w I hI).know (h := Im kII B rws) hy.intssR.1).know (h := Im kII A cs) hx.intssR.1
  have HIC := As.mk hx.intssR.2
  have HIR := As.mk hy.intssR.2
  clear hx hy
  have S := S.nilrow (k := kII)
  have hc := S.cells; simp only [Cells, cellsC, Im, Row, El, RTH, TreeH, TR, AU, AL, OrNil, Many, MaO, FlatO, Nat.zero_add, Nat.reduceAdd] at hc
  go_enter Try.func4, Try.ntmps4
  go_upto_block 0 with (first | ((first | (with_reducible refine wpl_seal S ?_) | (with_reducible refine cw_seal S ?_) | (with_reducible refine bp_seal S ?_) | (with_reducible refine ca_seal S ?_)); clear S; (try clear hc); intro w1 S; (try simp only [List.set_cons_zero, List.set_cons_succ, List.nil_append] at S); have hc := S.cells; simp only [Cells, cellsC, Im, Row, El, RTH, TreeH, TR, AU, AL, OrNil, Many, MaO, FlatO, Nat.zero_add, Nat.reduceAdd] at hc))
  clear hc
  go_cut [7] (fun tv w' => ∃ (Ao : Option Addr) (co : Nat) (J : Fp), tv = .slice Ao (rawO cs 4).length co ∧ As (SH No I w [Im kII Ao (rawO cs 4), Im kII A cs, Im kII B rws] w' J))
  case first =>
    go_wp2_with (first | ((first | (with_reducible refine wpl_seal S ?_) | (with_reducible refine cw_seal S ?_) | (with_reducible refine bp_seal S ?_) | (with_reducible refine ca_seal S ?_)); clear S; (try clear hc); intro w1 S; (try simp only [List.set_cons_zero, List.set_cons_succ, List.nil_append] at S); have hc := S.cells; simp only [Cells, cellsC, Im, Row, El, RTH, TreeH, TR, AU, AL, OrNil, Many, MaO, FlatO, Nat.zero_add, Nat.reduceAdd] at hc))
    go_loopw [7, 8] (fun tv v w' => ∃ (k : Nat) (J : Fp), v = .int .i64 k ∧ k ≤ cs.length ∧ k ≤ 4 ∧ As (SH No I w [Row kII tv (rawO cs k), Im kII A cs, Im kII B rws] w' J)) (fun _ v _ => cs.length - (intOf v).toNat)
    case atStart => exact ⟨0, _, rfl, by omega, by omega, ⟨S⟩⟩
    case round =>
      clear S
      obtain ⟨k, J, rfl, hk, hk4, ⟨S⟩⟩ := hrel
      have hrl := rawO_len cs k
      have hc := S.cells; simp only [Cells, cellsC, Im, Row, El, RTH, TreeH, TR, AU, AL, OrNil, Many, MaO, FlatO, Nat.zero_add, Nat.reduceAdd] at hc
      by_cases hkl : k < cs.length
      · have hkl' : decide ((k : Int) < cs.length) = true := by simpa using hkl
        by_cases hkm : k < 4
        · have hkm' : decide ((k : Int) < 4) = true := by simp; omega
          obtain ⟨b, o, A3, c3, rfl, hcx, hc3, hs3⟩ := (S.im 1 rfl).sl_at hkl
          replace S := S.know (h := Im kI A3 cs[k]) hs3
          clear hs3
          have HR := As.mk (rawO_succ hkl)
          have hqx := ClE.cell (w := wr.drew) hcx
          have hq := S.cellsE; simp only [CellsE, cellsE, Im, Row, El, RTH, TreeH, TR, AU, AL, OrNil, Many, MaO, FlatO, Nat.zero_add, Nat.reduceAdd] at hq
          have HLT : As ((cs[k].take 4).length = (min (cs[k].length : Int) 4).toNat) := ⟨by rw [List.length_take]; omega⟩
          have hmn : (min (cs[k].length : Int) 4).toNat ≤ c3 := by omega
          go_wp2_with (first | ((first | (with_reducible refine wpl_seal S ?_) | (with_reducible refine cw_seal S ?_) | (with_reducible refine bp_seal S ?_) | (with_reducible refine ca_seal S ?_)); clear S; (try clear hc); intro w1 S; (try simp only [List.set_cons_zero, List.set_cons_succ, List.nil_append] at S); have hc := S.cells; simp only [Cells, cellsC, Im, Row, El, RTH, TreeH, TR, AU, AL, OrNil, Many, MaO, FlatO, Nat.zero_add, Nat.reduceAdd] at hc))
          refine wp_region_ext [⟨[1, 2, 3, 4, 5, 6, 7, 8, 9, 10, 11], [0], 12, false⟩, ⟨[], [], 13, false⟩] [14] (by kernel_rfl) (by kernel_rfl) ?_
          refine mix_cons rfl rfl rfl ?_
          simp only [opsAt, List.getD_cons_succ, List.getD_cons_zero]
          repeat (go_big_quiet_step ((intro hC; first | rfl | (go_simp; first | done | rfl))))
          refine wpQuiet_nil ?_
          repeat (go_big_quiet_step ((intro hC; first | rfl | (go_simp; first | done | rfl))))
          refine wpQuiet_nil ?_
          clear hq hqx
          go_wp2_with (first | ((first | (with_reducible refine mx_seal S ?_) | (with_reducible refine wpl_seal S ?_) | (with_reducible refine ca_seal S ?_)); clear S; (try clear hc); intro w1 S; (try simp only [List.set_cons_zero, List.set_cons_succ, List.nil_append] at S); have hc := S.cells; simp only [Cells, cellsC, Im, Row, El, RTH, TreeH, TR, AU, AL, OrNil, Many, MaO, FlatO, Nat.zero_add, Nat.reduceAdd] at hc))
          (first | refine ⟨(fun h => by cases h), ?_⟩ | skip); (first | ((first | (with_reducible refine mx_seal S ?_)); clear S; (try clear hc); intro w1 S; (try simp only [List.set_cons_zero, List.set_cons_succ, List.nil_append] at S); have hc := S.cells; simp only [Cells, cellsC, Im, Row, El, RTH, TreeH, TR, AU, AL, OrNil, Many, MaO, FlatO, Nat.zero_add, Nat.reduceAdd] at hc) | skip); (try simp only [Act.put, List.setIfInBounds_toArray, List.set_cons_succ, List.set_cons_zero])
          refine mix_cons rfl rfl rfl ?_
          simp only [opsAt, List.getD_cons_succ, List.getD_cons_zero]
          repeat (go_big_quiet_step ((intro hC; first | rfl | (go_simp; first | done | rfl))))
          refine wpQuiet_nil ?_
          repeat (go_big_quiet_step ((intro hC; first | rfl | (go_simp; first | done | rfl))))
          refine wpQuiet_nil ?_
          go_wp2_with (first | ((first | (with_reducible refine mx_seal S ?_) | (with_reducible refine wpl_seal S ?_) | (with_reducible refine ca_seal S ?_)); clear S; (try clear hc); intro w1 S; (try simp only [List.set_cons_zero, List.set_cons_succ, List.nil_append] at S); have hc := S.cells; simp only [Cells, cellsC, Im, Row, El, RTH, TreeH, TR, AU, AL, OrNil, Many, MaO, FlatO, Nat.zero_add, Nat.reduceAdd] at hc) | (at_builtin; refine wpl_push S 2 rfl rfl _ _ rfl ty_intss rfl (cs[k].take 4) _ _ rfl [_] _ (S.cel 0 rfl) ⟨_, _, by rw [HLT.out], by rw [HLT.out]; exact hmn, (S.im 1 rfl).take 4⟩ (by (try simp only [maxLen, List.length_nil, List.length_append, List.length_cons]); omega) (by (try simp only [maxLen, List.length_nil, List.length_append, List.length_cons]); omega) ?_; clear S; (try clear hc); intro va w1 S; simp only [List.set_cons_zero, List.set_cons_succ, List.nil_append] at S; have hc := S.cells; simp only [Cells, cellsC, Im, Row, El, RTH, TreeH, TR, AU, AL, OrNil, Many, MaO, FlatO, Nat.zero_add, Nat.reduceAdd] at hc))
          (first | refine ⟨(fun h => by cases h), ?_⟩ | skip); (first | ((first | (with_reducible refine mx_seal S ?_)); clear S; (try clear hc); intro w1 S; (try simp only [List.set_cons_zero, List.set_cons_succ, List.nil_append] at S); have hc := S.cells; simp only [Cells, cellsC, Im, Row, El, RTH, TreeH, TR, AU, AL, OrNil, Many, MaO, FlatO, Nat.zero_add, Nat.reduceAdd] at hc) | skip); (try simp only [Act.put, List.setIfInBounds_toArray, List.set_cons_succ, List.set_cons_zero])
          refine mix_last rfl ?_
          simp only [opsAt, List.getD_cons_succ, List.getD_cons_zero]
          repeat (go_big_quiet_step ((intro hC; first | rfl | (go_simp; first | done | rfl))))
          refine wpQuiet_nil ?_
          simp only [calmQ]
          go_wp2_with (first | ((first | (with_reducible refine wpl_seal S ?_) | (with_reducible refine cw_seal S ?_) | (with_reducible refine bp_seal S ?_) | (with_reducible refine ca_seal S ?_)); clear S; (try clear hc); intro w1 S; (try simp only [List.set_cons_zero, List.set_cons_succ, List.nil_append] at S); have hc := S.cells; simp only [Cells, cellsC, Im, Row, El, RTH, TreeH, TR, AU, AL, OrNil, Many, MaO, FlatO, Nat.zero_add, Nat.reduceAdd] at hc))
          go_roundw
          case rel =>
            have S1 := (S.sel [2, 3, 4] (by decide) rfl (by simp) : SH _ _ _ [_, _, _] _ _)
            rw [← HR.out] at S1
            exact ⟨k + 1, _, by go_num, by omega, by omega, ⟨S1⟩⟩
          case measure => simp [intOf]; omega
        · have hkm' : decide ((k : Int) < 4) = false := by simp; omega
          obtain rfl : k = 4 := by omega
          obtain ⟨Ao, co, I1, e1, hco, S1, hI1⟩ := S.frow 0 rfl; subst e1; clear S hI1; have S := S1; clear S1; simp only [List.set_cons_zero, List.set_cons_succ, List.nil_append] at S
          have hc := S.cells; simp only [Cells, cellsC, Im, Row, El, RTH, TreeH, TR, AU, AL, OrNil, Many, MaO, FlatO, Nat.zero_add, Nat.reduceAdd] at hc
          go_wp2_with (first | ((first | (with_reducible refine wpl_seal S ?_) | (with_reducible refine cw_seal S ?_) | (with_reducible refine bp_seal S ?_) | (with_reducible refine ca_seal S ?_)); clear S; (try clear hc); intro w1 S; (try simp only [List.set_cons_zero, List.set_cons_succ, List.nil_append] at S); have hc := S.cells; simp only [Cells, cellsC, Im, Row, El, RTH, TreeH, TR, AU, AL, OrNil, Many, MaO, FlatO, Nat.zero_add, Nat.reduceAdd] at hc))
          go_meet
          case rel => exact ⟨Ao, co, _, rfl, ⟨by first | exact S | trivial⟩⟩
      · have hkl' : decide ((k : Int) < cs.length) = false := by simpa using hkl
        have HE : As (rawO cs k = rawO cs 4) := ⟨by unfold rawO; rw [List.take_of_length_le (by omega), List.take_of_length_le (by omega)]⟩
        rw [HE.out] at S
        obtain ⟨Ao, co, I1, e1, hco, S1, hI1⟩ := S.frow 0 rfl; subst e1; clear S hI1; have S := S1; clear S1; simp only [List.set_cons_zero, List.set_cons_succ, List.nil_append] at S
        have hc := S.cells; simp only [Cells, cellsC, Im, Row, El, RTH, TreeH, TR, AU, AL, OrNil, Many, MaO, FlatO, Nat.zero_add, Nat.reduceAdd] at hc
        go_wp2_with (first | ((first | (with_reducible refine wpl_seal S ?_) | (with_reducible refine cw_seal S ?_) | (with_reducible refine bp_seal S ?_) | (with_reducible refine ca_seal S ?_)); clear S; (try clear hc); intro w1 S; (try simp only [List.set_cons_zero, List.set_cons_succ, List.nil_append] at S); have hc := S.cells; simp only [Cells, cellsC, Im, Row, El, RTH, TreeH, TR, AU, AL, OrNil, Many, MaO, FlatO, Nat.zero_add, Nat.reduceAdd] at hc))
        go_meet
        case rel => exact ⟨Ao, co, _, rfl, ⟨by first | exact S | trivial⟩⟩
  case rest =>
    clear S
    obtain ⟨Ao, co, J, rfl, ⟨S⟩⟩ := hcut
    have hrl := rawO_len cs 4
    have HRM : As (∀ x ∈ rawO cs 4, x.length ≤ 4 ∧ ∀ y ∈ x, I64 y) := ⟨fun x hx => ⟨(rawO_mem hx).1, fun y hy => by
      obtain ⟨l, hl, hyl⟩ := (rawO_mem hx).2 y hy
      exact HIC.out l hl y hyl⟩⟩
    obtain ⟨raw, hraw⟩ : ∃ raw, rawO cs 4 = raw := ⟨_, rfl⟩
    rw [hraw] at hrl HRM S ⊢
    clear hraw
    obtain ⟨od, hod⟩ : ∃ od, oddW raw = od := ⟨_, rfl⟩
    have HOD := As.mk hod
    obtain ⟨br, hbr⟩ : ∃ br, (decide (0 ≤ pn) && decide (pn ≤ 4096)) = br := ⟨_, rfl⟩
    have HBR := As.mk hbr
    have HRC : As (∀ x ∈ raw, x.length ≤ 1000) := ⟨fun x hx => by have := (HRM.out x hx).1; omega⟩
    have HRC2 : As (∀ x ∈ raw, x.length ≤ 10000) := ⟨fun x hx => by have := (HRM.out x hx).1; omega⟩
    clear hod hbr
    obtain ⟨bi, hbi⟩ : ∃ bi, (br && !od) = bi := ⟨_, rfl⟩
    have HBI := As.mk hbi
    clear hbi
    have hc := S.cells; simp only [Cells, cellsC, Im, Row, El, RTH, TreeH, TR, AU, AL, OrNil, Many, MaO, FlatO, Nat.zero_add, Nat.reduceAdd] at hc
    go_upto_region 7 with (first | ((first | (with_reducible refine wpl_seal S ?_) | (with_reducible refine cw_seal S ?_) | (with_reducible refine bp_seal S ?_) | (with_reducible refine ca_seal S ?_)); clear S; (try clear hc); intro w1 S; (try simp only [List.set_cons_zero, List.set_cons_succ, List.nil_append] at S); have hc := S.cells; simp only [Cells, cellsC, Im, Row, El, RTH, TreeH, TR, AU, AL, OrNil, Many, MaO, FlatO, Nat.zero_add, Nat.reduceAdd] at hc) | (go_at_call 14; refine (zmay_c raw Ao co _ _ S.bd (S.im 0 rfl) (by omega) HRC.out).mono ?_; rw [HOD.out]; rintro e w1 ⟨rfl, hx⟩; replace S := S.ext hx; clear hx; (try clear hc); have hc := S.cells; simp only [Cells, cellsC, Im, Row, El, RTH, TreeH, TR, AU, AL, OrNil, Many, MaO, FlatO, Nat.zero_add, Nat.reduceAdd] at hc))
    clear hc
    go_cut [10, 11] (fun pv ev w' => (((bi = true ∧ ∃ g, pv = .pointer (some ⟨g, 0, none⟩)) ∧ ev = .int .i64 0) ∨ (bi = false ∧ pv = .pointer none ∧ ev = .int .i64 1)) ∧ ∃ J, As (SH No I w [Im kII A cs, Im kII B rws] w' J))
    case first =>
      rcases bi with _ | _
      · have HBD : As (((decide (0 ≤ pn) && decide (pn ≤ 4096)) && !oddW raw) = false) := ⟨by rw [HOD.out, HBR.out]; exact HBI.out⟩
        have hc := S.cells; simp only [Cells, cellsC, Im, Row, El, RTH, TreeH, TR, AU, AL, OrNil, Many, MaO, FlatO, Nat.zero_add, Nat.reduceAdd] at hc
        go_wp2_with (first | ((first | (with_reducible refine wpl_seal S ?_) | (with_reducible refine cw_seal S ?_) | (with_reducible refine bp_seal S ?_) | (with_reducible refine ca_seal S ?_)); clear S; (try clear hc); intro w1 S; (try simp only [List.set_cons_zero, List.set_cons_succ, List.nil_append] at S); have hc := S.cells; simp only [Cells, cellsC, Im, Row, El, RTH, TreeH, TR, AU, AL, OrNil, Many, MaO, FlatO, Nat.zero_add, Nat.reduceAdd] at hc) | (go_at_call 10; refine (cnew_no raw pn Ao co _ _ S.bd (S.im 0 rfl) (by omega) HRC2.out HBD.out).mono ?_; rintro e w1 ⟨rfl, hx⟩; replace S := S.ext hx; clear hx; (try clear hc); have hc := S.cells; simp only [Cells, cellsC, Im, Row, El, RTH, TreeH, TR, AU, AL, OrNil, Many, MaO, FlatO, Nat.zero_add, Nat.reduceAdd] at hc))
        go_meet
        case rel => exact ⟨.inr ⟨by first | rfl | trivial, rfl, rfl⟩, _, ⟨(S.sel [1, 2] (by decide) rfl (by simp) : SH _ _ _ [_, _] _ _)⟩⟩
      · obtain ⟨hb1, hb2⟩ := Bool.and_eq_true_iff.1 HBI.out
        rw [Bool.not_eq_true'] at hb2
        have HF0 : As (Few raw) := ⟨few_of (by omega) (fun x hx => (HRM.out x hx).1) (HOD.out.trans hb2) fun x hx => (HRM.out x hx).2⟩
        have hb3 := HBR.out.trans hb1
        simp only [Bool.and_eq_true, decide_eq_true_eq] at hb3
        obtain ⟨hb4, hb5⟩ := hb3
        obtain ⟨pp, rfl⟩ : ∃ pp : Nat, pn = pp := ⟨pn.toNat, by omega⟩
        clear hb1 hb2
        have hc := S.cells; simp only [Cells, cellsC, Im, Row, El, RTH, TreeH, TR, AU, AL, OrNil, Many, MaO, FlatO, Nat.zero_add, Nat.reduceAdd] at hc
        go_wp2_with (first | ((first | (with_reducible refine wpl_seal S ?_) | (with_reducible refine cw_seal S ?_) | (with_reducible refine bp_seal S ?_) | (with_reducible refine ca_seal S ?_)); clear S; (try clear hc); intro w1 S; (try simp only [List.set_cons_zero, List.set_cons_succ, List.nil_append] at S); have hc := S.cells; simp only [Cells, cellsC, Im, Row, El, RTH, TreeH, TR, AU, AL, OrNil, Many, MaO, FlatO, Nat.zero_add, Nat.reduceAdd] at hc) | (go_at_call 10; refine (cnew_t S raw pp (by omega) Ao co (S.im 0 rfl) HF0.out).mono ?_; rintro e w1 ⟨gm, J1, rfl, S2⟩; clear S hc; have S := S2; clear S2; have hc := S.cells; simp only [Cells, cellsC, Im, Row, El, RTH, TreeH, TR, AU, AL, OrNil, Many, MaO, FlatO, Nat.zero_add, Nat.reduceAdd] at hc))
        go_meet
        case rel => exact ⟨.inl ⟨⟨by first | rfl | trivial, _, rfl⟩, rfl⟩, _, ⟨(S.sel [2, 3] (by decide) rfl (by simp) : SH _ _ _ [_, _] _ _)⟩⟩
    case rest =>
      clear S
      obtain ⟨hcase, J, ⟨S⟩⟩ := hcut
      have HCASE := As.mk hcase
      clear hcase
      have hc := S.cells; simp only [Cells, cellsC, Im, Row, El, RTH, TreeH, TR, AU, AL, OrNil, Many, MaO, FlatO, Nat.zero_add, Nat.reduceAdd] at hc
      go_upto_region 8 with (first | ((first | (with_reducible refine wpl_seal S ?_) | (with_reducible refine cw_seal S ?_) | (with_reducible refine bp_seal S ?_) | (with_reducible refine ca_seal S ?_)); clear S; (try clear hc); intro w1 S; (try simp only [List.set_cons_zero, List.set_cons_succ, List.nil_append] at S); have hc := S.cells; simp only [Cells, cellsC, Im, Row, El, RTH, TreeH, TR, AU, AL, OrNil, Many, MaO, FlatO, Nat.zero_add, Nat.reduceAdd] at hc))
      clear hc
      go_cut [12] (fun v w' => v = .bool bi ∧ ∃ J, As (SH No I w [Im kII A cs, Im kII B rws] w' J))
      case first =>
        have HBO := HBR.out
        rcases od with _ | _
        · by_cases h1 : 0 ≤ pn
          · have h1' : decide (0 ≤ pn) = true := by simpa using h1
            rw [h1', Bool.true_and] at HBO
            have HBO2 := As.mk HBO
            clear HBO
            have hc := S.cells; simp only [Cells, cellsC, Im, Row, El, RTH, TreeH, TR, AU, AL, OrNil, Many, MaO, FlatO, Nat.zero_add, Nat.reduceAdd] at hc
            go_wp2_with (first | ((first | (with_reducible refine wpl_seal S ?_) | (with_reducible refine cw_seal S ?_) | (with_reducible refine bp_seal S ?_) | (with_reducible refine ca_seal S ?_)); clear S; (try clear hc); intro w1 S; (try simp only [List.set_cons_zero, List.set_cons_succ, List.nil_append] at S); have hc := S.cells; simp only [Cells, cellsC, Im, Row, El, RTH, TreeH, TR, AU, AL, OrNil, Many, MaO, FlatO, Nat.zero_add, Nat.reduceAdd] at hc))
            go_meet
            case rel => exact ⟨by rw [← HBI.out, ← HBO2.out]; simp, _, ⟨by first | exact S | trivial⟩⟩
          · have h1' : decide (0 ≤ pn) = false := by simpa using h1
            rw [h1', Bool.false_and] at HBO
            have HBO2 := As.mk HBO
            clear HBO
            have hc := S.cells; simp only [Cells, cellsC, Im, Row, El, RTH, TreeH, TR, AU, AL, OrNil, Many, MaO, FlatO, Nat.zero_add, Nat.reduceAdd] at hc
            go_wp2_with (first | ((first | (with_reducible refine wpl_seal S ?_) | (with_reducible refine cw_seal S ?_) | (with_reducible refine bp_seal S ?_) | (with_reducible refine ca_seal S ?_)); clear S; (try clear hc); intro w1 S; (try simp only [List.set_cons_zero, List.set_cons_succ, List.nil_append] at S); have hc := S.cells; simp only [Cells, cellsC, Im, Row, El, RTH, TreeH, TR, AU, AL, OrNil, Many, MaO, FlatO, Nat.zero_add, Nat.reduceAdd] at hc))
            go_meet
            case rel => exact ⟨by rw [← HBI.out, ← HBO2.out]; simp, _, ⟨by first | exact S | trivial⟩⟩
        · clear HBO
          have hc := S.cells; simp only [Cells, cellsC, Im, Row, El, RTH, TreeH, TR, AU, AL, OrNil, Many, MaO, FlatO, Nat.zero_add, Nat.reduceAdd] at hc
          go_wp2_with (first | ((first | (with_reducible refine wpl_seal S ?_) | (with_reducible refine cw_seal S ?_) | (with_reducible refine bp_seal S ?_) | (with_reducible refine ca_seal S ?_)); clear S; (try clear hc); intro w1 S; (try simp only [List.set_cons_zero, List.set_cons_succ, List.nil_append] at S); have hc := S.cells; simp only [Cells, cellsC, Im, Row, El, RTH, TreeH, TR, AU, AL, OrNil, Many, MaO, FlatO, Nat.zero_add, Nat.reduceAdd] at hc))
          go_meet
          case rel => exact ⟨by rw [← HBI.out]; simp, _, ⟨by first | exact S | trivial⟩⟩
      case rest =>
        clear S
        obtain ⟨rfl, J, ⟨S⟩⟩ := hcut
        have hc := S.cells; simp only [Cells, cellsC, Im, Row, El, RTH, TreeH, TR, AU, AL, OrNil, Many, MaO, FlatO, Nat.zero_add, Nat.reduceAdd] at hc
        go_upto_region 9 with (first | ((first | (with_reducible refine wpl_seal S ?_) | (with_reducible refine cw_seal S ?_) | (with_reducible refine bp_seal S ?_) | (with_reducible refine ca_seal S ?_)); clear S; (try clear hc); intro w1 S; (try simp only [List.set_cons_zero, List.set_cons_succ, List.nil_append] at S); have hc := S.cells; simp only [Cells, cellsC, Im, Row, El, RTH, TreeH, TR, AU, AL, OrNil, Many, MaO, FlatO, Nat.zero_add, Nat.reduceAdd] at hc))
        clear hc
        go_cut [82] (fun v w' => v = .bool false ∧ ∃ J, As (SH No I w [Im kII A cs, Im kII B rws] w' J))
        case first =>
          obtain ⟨⟨⟨rfl, g, rfl⟩, rfl⟩ | ⟨rfl, rfl, rfl⟩⟩ := HCASE
          · skip
            have hc := S.cells; simp only [Cells, cellsC, Im, Row, El, RTH, TreeH, TR, AU, AL, OrNil, Many, MaO, FlatO, Nat.zero_add, Nat.reduceAdd] at hc
            go_wp2_with (first | ((first | (with_reducible refine wpl_seal S ?_) | (with_reducible refine cw_seal S ?_) | (with_reducible refine bp_seal S ?_) | (with_reducible refine ca_seal S ?_)); clear S; (try clear hc); intro w1 S; (try simp only [List.set_cons_zero, List.set_cons_succ, List.nil_append] at S); have hc := S.cells; simp only [Cells, cellsC, Im, Row, El, RTH, TreeH, TR, AU, AL, OrNil, Many, MaO, FlatO, Nat.zero_add, Nat.reduceAdd] at hc))
            go_meet
            case rel => exact ⟨by first | rfl | trivial, _, ⟨by first | exact S | trivial⟩⟩
          · skip
            have hc := S.cells; simp only [Cells, cellsC, Im, Row, El, RTH, TreeH, TR, AU, AL, OrNil, Many, MaO, FlatO, Nat.zero_add, Nat.reduceAdd] at hc
            go_wp2_with (first | ((first | (with_reducible refine wpl_seal S ?_) | (with_reducible refine cw_seal S ?_) | (with_reducible refine bp_seal S ?_) | (with_reducible refine ca_seal S ?_)); clear S; (try clear hc); intro w1 S; (try simp only [List.set_cons_zero, List.set_cons_succ, List.nil_append] at S); have hc := S.cells; simp only [Cells, cellsC, Im, Row, El, RTH, TreeH, TR, AU, AL, OrNil, Many, MaO, FlatO, Nat.zero_add, Nat.reduceAdd] at hc))
            go_meet
            case rel => exact ⟨by first | rfl | trivial, _, ⟨by first | exact S | trivial⟩⟩
        case rest =>
          clear S HCASE
          obtain ⟨rfl, J, ⟨S⟩⟩ := hcut
          have HF := As.mk (smallZ_few cs)
          obtain ⟨own, hown⟩ : ∃ own, smallZ (cs.take 6) = own := ⟨_, rfl⟩
          have HOW := As.mk hown
          rw [hown] at HF
          clear hown
          have hol := HF.out.len
          have hc := S.cells; simp only [Cells, cellsC, Im, Row, El, RTH, TreeH, TR, AU, AL, OrNil, Many, MaO, FlatO, Nat.zero_add, Nat.reduceAdd] at hc
          go_upto_block 2 with (first | ((first | (with_reducible refine wpl_seal S ?_) | (with_reducible refine cw_seal S ?_) | (with_reducible refine bp_seal S ?_) | (with_reducible refine ca_seal S ?_)); clear S; (try clear hc); intro w1 S; (try simp only [List.set_cons_zero, List.set_cons_succ, List.nil_append] at S); have hc := S.cells; simp only [Cells, cellsC, Im, Row, El, RTH, TreeH, TR, AU, AL, OrNil, Many, MaO, FlatO, Nat.zero_add, Nat.reduceAdd] at hc) | (go_at_call 9; refine (zsmall_c cs A c _ _ S.bd (S.im 0 rfl)).mono ?_; rw [HOW.out]; rintro e w1 ⟨v, rfl, hu⟩; obtain ⟨I1, S1, hI1⟩ := S.new hu; clear S hu hI1; (try clear hc); have S := S1; clear S1; have hc := S.cells; simp only [Cells, cellsC, Im, Row, El, RTH, TreeH, TR, AU, AL, OrNil, Many, MaO, FlatO, Nat.zero_add, Nat.reduceAdd] at hc; obtain ⟨A5, c5, I1, e1, hc5, S1, hI1⟩ := S.frow 0 rfl; subst e1; clear S hI1; have S := S1; clear S1; simp only [List.set_cons_zero, List.set_cons_succ, List.nil_append] at S; have hc := S.cells; simp only [Cells, cellsC, Im, Row, El, RTH, TreeH, TR, AU, AL, OrNil, Many, MaO, FlatO, Nat.zero_add, Nat.reduceAdd] at hc) | (go_at_call 10; refine (cnew_t S own 3 (by omega) A5 c5 (S.im 0 rfl) HF.out).mono ?_; rintro e w1 ⟨gm, J1, rfl, S2⟩; clear S hc; have S := S2; clear S2; have hc := S.cells; simp only [Cells, cellsC, Im, Row, El, RTH, TreeH, TR, AU, AL, OrNil, Many, MaO, FlatO, Nat.zero_add, Nat.reduceAdd] at hc))
          replace S := ((S.sel [0, 1, 3] (by decide) rfl (by simp) : SH _ _ _ [_, _, _] _ _) : SH _ _ _ [_, _, _] _ _).nilrow (k := kII)
          clear hc
          go_wp2_with (first | ((first | (with_reducible refine wpl_seal S ?_) | (with_reducible refine cw_seal S ?_) | (with_reducible refine bp_seal S ?_) | (with_reducible refine ca_seal S ?_)); clear S; (try clear hc); intro w1 S; (try simp only [List.set_cons_zero, List.set_cons_succ, List.nil_append] at S); have hc := S.cells; simp only [Cells, cellsC, Im, Row, El, RTH, TreeH, TR, AU, AL, OrNil, Many, MaO, FlatO, Nat.zero_add, Nat.reduceAdd] at hc))
          go_loopw [16, 17] (fun tv v w' => ∃ (i : Nat) (told : List (List Int)) (Av : Option Addr) (cv : Nat) (J : Fp), v = .int .i64 i ∧ tv = .slice Av told.length cv ∧ i ≤ rws.length ∧ i ≤ 6 ∧ told.length ≤ i ∧ As (Told told 3) ∧ As (SH No I w [Row kII (.slice Av told.length cv) told, MaT gm own told 3, Im kII A5 own, Im kII B rws] w' J)) (fun _ v _ => rws.length - (intOf v).toNat)
          case atStart => exact ⟨0, [], none, 0, _, rfl, rfl, by omega, by omega, by simp, ⟨Told.nil⟩, ⟨S⟩⟩
          case round =>
            clear S
            obtain ⟨i, told, Av, cv, J, rfl, rfl, hi, hi12, htl, HT, ⟨S⟩⟩ := hrel
            have htl12 : told.length ≤ 6 := by omega
            have hc := S.cells; simp only [Cells, cellsC, Im, Row, El, RTH, TreeH, TR, AU, AL, OrNil, Many, MaO, FlatO, Nat.zero_add, Nat.reduceAdd] at hc
            by_cases hil : i < rws.length
            · have hil' : decide ((i : Int) < rws.length) = true := by simpa using hil
              by_cases him : i < 6
              · have him' : decide ((i : Int) < 6) = true := by simp; omega
                obtain ⟨b, o, A3, c3, rfl, hcx, hc3, hs3⟩ := (S.im 3 rfl).sl_at hil
                replace S := S.know (h := Im kI A3 (rws[i].take 6)) (hs3.take 6)
                clear hs3
                have HRR := As.mk (HIR.out _ (List.getElem_mem hil))
                have hmn : (min (rws[i].length : Int) 6).toNat ≤ c3 := by omega
                have HLT : As ((min (rws[i].length : Int) 6).toNat = (rws[i].take 6).length) := ⟨by rw [List.length_take]; omega⟩
                have HRX : As (∀ y ∈ rws[i].take 6, I64 y) := ⟨fun y hy => HRR.out y (List.mem_of_mem_take hy)⟩
                have hr6 : (rws[i].take 6).length ≤ 6 := by rw [List.length_take]; omega
                have hrc : (rws[i].take 6).length ≤ c3 := by rw [← HLT.out]; exact hmn
                have hqx := ClE.cell (w := wr.drew) hcx
                clear HRR
                have hc := S.cells; simp only [Cells, cellsC, Im, Row, El, RTH, TreeH, TR, AU, AL, OrNil, Many, MaO, FlatO, Nat.zero_add, Nat.reduceAdd] at hc
                go_wp2_with (first | ((first | (with_reducible refine wpl_seal S ?_) | (with_reducible refine cw_seal S ?_) | (with_reducible refine bp_seal S ?_) | (with_reducible refine ca_seal S ?_)); clear S; (try clear hc); intro w1 S; (try simp only [List.set_cons_zero, List.set_cons_succ, List.nil_append] at S); have hc := S.cells; simp only [Cells, cellsC, Im, Row, El, RTH, TreeH, TR, AU, AL, OrNil, Many, MaO, FlatO, Nat.zero_add, Nat.reduceAdd] at hc))
                refine wp_region_ext [] [0, 1, 2, 3, 4, 5, 6, 7, 8, 9, 10, 11] (by kernel_rfl) (by kernel_rfl) ?_
                refine mix_last rfl ?_
                simp only [opsAt, List.getD_cons_succ, List.getD_cons_zero]
                repeat (go_big_quiet_step ((intro hC; first | rfl | (go_simp; first | done | rfl))))
                refine wpQuiet_nil ?_
                simp only [calmQ]
                clear hqx hcx hmn hc
                replace S := S.drew
                generalize wr.drew = w1 at S ⊢
                rw [HLT.out]
                clear HLT hc3
                generalize rws[i].take 6 = r at S HRX hr6 hrc ⊢
                have hc := S.cells; simp only [Cells, cellsC, Im, Row, El, RTH, TreeH, TR, AU, AL, OrNil, Many, MaO, FlatO, Nat.zero_add, Nat.reduceAdd] at hc
                go_wp2_with (first | ((first | (with_reducible refine wpl_seal S ?_) | (with_reducible refine cw_seal S ?_) | (with_reducible refine bp_seal S ?_) | (with_reducible refine ca_seal S ?_)); clear S; (try clear hc); intro w1 S; (try simp only [List.set_cons_zero, List.set_cons_succ, List.nil_append] at S); have hc := S.cells; simp only [Cells, cellsC, Im, Row, El, RTH, TreeH, TR, AU, AL, OrNil, Many, MaO, FlatO, Nat.zero_add, Nat.reduceAdd] at hc))
                clear hc
                go_loopw [19, 20] (fun gv v w' => ∃ (k : Nat) (gb : Bool) (J : Fp), v = .int .i64 k ∧ gv = .bool gb ∧ k ≤ r.length ∧ As (gb = (((r.length : Int) == 3) && !lowR (r.take k))) ∧ As (SH No I w [Im kI A3 r, Row kII (.slice Av told.length cv) told, MaT gm own told 3, Im kII A5 own, Im kII (some ⟨b, o, none⟩) rws] w' J)) (fun _ v _ => r.length - (intOf v).toNat)
                case atStart => exact ⟨0, ((r.length : Int) == 3), _, rfl, rfl, by omega, ⟨by simp [lowR]⟩, ⟨S⟩⟩
                case round =>
                  clear S
                  obtain ⟨k, gb, J, rfl, rfl, hk, HG, ⟨S⟩⟩ := hrel
                  by_cases hkl : k < r.length
                  · have hkl' : decide ((k : Int) < r.length) = true := by simpa using hkl
                    obtain ⟨b2, o2, rfl, hcy⟩ := (S.im 0 rfl).int_at hkl
                    have HLK := As.mk (lowR_take hkl)
                    generalize r[k] = y at hcy HLK
                    have HGN : As ((gb && decide (-1 ≤ y)) = (((r.length : Int) == 3) && !lowR (r.take (k + 1)))) := ⟨by
                      rw [HLK.out, HG.out, Bool.and_assoc]
                      congr 1
                      rw [Bool.not_or]
                      congr 1
                      rw [← decide_not]
                      exact decide_eq_decide.2 (by omega)⟩
                    clear HG HLK
                    rcases gb with _ | _
                    · have hc := S.cells; simp only [Cells, cellsC, Im, Row, El, RTH, TreeH, TR, AU, AL, OrNil, Many, MaO, FlatO, Nat.zero_add, Nat.reduceAdd] at hc
                      go_wp2_with (first | ((first | (with_reducible refine wpl_seal S ?_) | (with_reducible refine cw_seal S ?_) | (with_reducible refine bp_seal S ?_) | (with_reducible refine ca_seal S ?_)); clear S; (try clear hc); intro w1 S; (try simp only [List.set_cons_zero, List.set_cons_succ, List.nil_append] at S); have hc := S.cells; simp only [Cells, cellsC, Im, Row, El, RTH, TreeH, TR, AU, AL, OrNil, Many, MaO, FlatO, Nat.zero_add, Nat.reduceAdd] at hc))
                      go_roundw
                      case rel => exact ⟨k + 1, false, _, by go_num, rfl, by omega, ⟨by rw [← HGN.out]; rfl⟩, ⟨by first | exact S | trivial⟩⟩
                      case measure => simp [intOf]; omega
                    · obtain ⟨q, hq⟩ : ∃ q, decide (-1 ≤ y) = q := ⟨_, rfl⟩
                      rw [hq, Bool.true_and] at HGN
                      have hc := S.cells; simp only [Cells, cellsC, Im, Row, El, RTH, TreeH, TR, AU, AL, OrNil, Many, MaO, FlatO, Nat.zero_add, Nat.reduceAdd] at hc
                      go_wp2_with (first | ((first | (with_reducible refine wpl_seal S ?_) | (with_reducible refine cw_seal S ?_) | (with_reducible refine bp_seal S ?_) | (with_reducible refine ca_seal S ?_)); clear S; (try clear hc); intro w1 S; (try simp only [List.set_cons_zero, List.set_cons_succ, List.nil_append] at S); have hc := S.cells; simp only [Cells, cellsC, Im, Row, El, RTH, TreeH, TR, AU, AL, OrNil, Many, MaO, FlatO, Nat.zero_add, Nat.reduceAdd] at hc))
                      go_roundw
                      case rel => exact ⟨k + 1, q, _, by go_num, by first | rfl | (rw [← hq]) | simp [← hq], by omega, HGN, ⟨by first | exact S | trivial⟩⟩
                      case measure => simp [intOf]; omega
                  · have hkl' : decide ((k : Int) < r.length) = false := by simpa using hkl
                    obtain rfl : k = r.length := by omega
                    rw [List.take_length] at HG
                    rcases gb with _ | _
                    · have HBAD : As (r.length = 3 → lowR r = true) := ⟨fun h => by
                        have h2 := HG.out
                        rw [h] at h2
                        simpa using h2⟩
                      clear HG
                      have hc := S.cells; simp only [Cells, cellsC, Im, Row, El, RTH, TreeH, TR, AU, AL, OrNil, Many, MaO, FlatO, Nat.zero_add, Nat.reduceAdd] at hc
                      go_wp2_with (first | ((first | (with_reducible refine wpl_seal S ?_) | (with_reducible refine cw_seal S ?_) | (with_reducible refine bp_seal S ?_) | (with_reducible refine ca_seal S ?_)); clear S; (try clear hc); intro w1 S; (try simp only [List.set_cons_zero, List.set_cons_succ, List.nil_append] at S); have hc := S.cells; simp only [Cells, cellsC, Im, Row, El, RTH, TreeH, TR, AU, AL, OrNil, Many, MaO, FlatO, Nat.zero_add, Nat.reduceAdd] at hc) | (go_at_call 11; refine (crow_no S 2 rfl A3 c3 (S.im 0 rfl) (by omega) HBAD.out).mono ?_; rintro e w1 ⟨rfl, rfl⟩))
                      clear hc
                      go_loopw [23] (fun v w' => ∃ (J : Fp), As (SH No I w [Im kI A3 r, Row kII (.slice Av told.length cv) told, MaT gm own told 3, Im kII A5 own, Im kII (some ⟨b, o, none⟩) rws] w' J)) (fun _ _ => 0)
                      case atStart => exact ⟨_, ⟨by first | exact S | trivial⟩⟩
                      case round =>
                        clear S
                        obtain ⟨J, ⟨S⟩⟩ := hrel
                        have hc := S.cells; simp only [Cells, cellsC, Im, Row, El, RTH, TreeH, TR, AU, AL, OrNil, Many, MaO, FlatO, Nat.zero_add, Nat.reduceAdd] at hc
                        go_wp2_with (first | ((first | (with_reducible refine wpl_seal S ?_) | (with_reducible refine cw_seal S ?_) | (with_reducible refine bp_seal S ?_) | (with_reducible refine ca_seal S ?_)); clear S; (try clear hc); intro w1 S; (try simp only [List.set_cons_zero, List.set_cons_succ, List.nil_append] at S); have hc := S.cells; simp only [Cells, cellsC, Im, Row, El, RTH, TreeH, TR, AU, AL, OrNil, Many, MaO, FlatO, Nat.zero_add, Nat.reduceAdd] at hc))
                        go_roundw
                        case rel => exact ⟨i + 1, told, Av, cv, _, by go_num, rfl, by omega, by omega, by omega, HT, ⟨(S.sel [1, 2, 3, 4] (by decide) rfl (by simp) : SH _ _ _ [_, _, _, _] _ _)⟩⟩
                        case measure => simp [intOf]; omega
                    · have hg2 := HG.out.symm
                      rw [Bool.and_eq_true, beq_iff_eq, Bool.not_eq_true'] at hg2
                      have HR3 : As (r.length = 3) := ⟨by omega⟩
                      have HLW : As (∀ y ∈ r, -1 ≤ y ∧ y ≤ 9223372036854775807) := ⟨fun y hy => ⟨lowR_iff.1 hg2.2 y hy, (HRX.out y hy).2⟩⟩
                      clear hg2 HG
                      have HT2 : As (Told (told ++ [r]) 3) := ⟨HT.out.snoc HR3.out HLW.out⟩
                      have htl2 : (told ++ [r]).length = told.length + 1 := by simp
                      obtain ⟨told2, hto⟩ : ∃ told2, told ++ [r] = told2 := ⟨_, rfl⟩
                      have HTO := As.mk hto
                      rw [hto] at HT2 htl2
                      have HTL2 := As.mk htl2
                      have htl13 : told2.length ≤ 13 := by omega
                      clear hto htl2
                      have hc := S.cells; simp only [Cells, cellsC, Im, Row, El, RTH, TreeH, TR, AU, AL, OrNil, Many, MaO, FlatO, Nat.zero_add, Nat.reduceAdd] at hc
                      go_wp2_with (first | ((first | (with_reducible refine wpl_seal S ?_) | (with_reducible refine cw_seal S ?_) | (with_reducible refine bp_seal S ?_) | (with_reducible refine ca_seal S ?_)); clear S; (try clear hc); intro w1 S; (try simp only [List.set_cons_zero, List.set_cons_succ, List.nil_append] at S); have hc := S.cells; simp only [Cells, cellsC, Im, Row, El, RTH, TreeH, TR, AU, AL, OrNil, Many, MaO, FlatO, Nat.zero_add, Nat.reduceAdd] at hc) | (go_at_call 11; refine (crow_t2 S 2 rfl A3 c3 (S.im 0 rfl) HR3.out HLW.out (by omega) HF.out (by omega)).mono ?_; rw [HTO.out]; rintro e w1 ⟨g2, J5, rfl, S2⟩; clear S hc; have S := S2; clear S2; simp only [List.set_cons_zero, List.set_cons_succ, List.nil_append] at S; have hc := S.cells; simp only [Cells, cellsC, Im, Row, El, RTH, TreeH, TR, AU, AL, OrNil, Many, MaO, FlatO, Nat.zero_add, Nat.reduceAdd] at hc) | (at_builtin; refine wpl_push S 3 rfl rfl _ _ rfl ty_intss rfl r _ _ rfl [_] _ (S.cel 0 rfl) ⟨_, _, rfl, hrc, S.im 2 rfl⟩ (by (try simp only [maxLen, List.length_nil, List.length_append, List.length_cons]); omega) (by (try simp only [maxLen, List.length_nil, List.length_append, List.length_cons]); omega) ?_; clear S; (try clear hc); intro va w1 S; simp only [List.set_cons_zero, List.set_cons_succ, List.nil_append] at S; obtain ⟨Av, cv, eva, -, -⟩ := S.row 3 rfl; subst eva; have hc := S.cells; simp only [Cells, cellsC, Im, Row, El, RTH, TreeH, TR, AU, AL, OrNil, Many, MaO, FlatO, Nat.zero_add, Nat.reduceAdd] at hc))
                      rw [HTO.out] at S
                      replace S := ((S.sel [1, 3, 4, 5, 6] (by decide) rfl (by simp) : SH _ _ _ [_, _, _, _, _] _ _) : SH _ _ _ [_, _, _, _, _] _ _)
                      clear hc
                      go_loopw [23] (fun v w' => ∃ (y : Nat) (J : Fp), v = .int .i64 y ∧ y ≤ 3 ∧ As (SH No I w [Im kII (some ⟨g2, 0, none⟩) (outT own told2 3), Row kII (.slice Av (told.length + 1) cv) told2, MaT gm own told2 3, Im kII A5 own, Im kII (some ⟨b, o, none⟩) rws] w' J)) (fun v _ => 3 - (intOf v).toNat)
                      case atStart => exact ⟨0, _, rfl, by omega, ⟨by rw [← HTL2.out]; exact S⟩⟩
                      case round =>
                        clear S
                        obtain ⟨y, J, rfl, hy, ⟨S⟩⟩ := hrel
                        by_cases hyn : y < 3
                        · have hyn' : decide ((y : Int) < 3) = true := by simp; omega
                          have hyo : y < (outT own told2 3).length := by rw [outT_len]; exact hyn
                          obtain ⟨b9, o9, A9, c9, e9, hcz, hc9, hs9⟩ := im_at (S.im 0 rfl) y _ (List.getElem?_eq_getElem hyo)
                          cases e9
                          rw [Nat.zero_add] at hcz
                          rw [outT_at] at hcz hs9 hc9
                          have hEl : (endsL own (sinceL told2 y)).length ≤ 1000000 := by have h := endK_le (W := own) (x := sinceL told2 y) (m := own.length); change (endsL own _).length ≤ _ at h; omega
                          obtain ⟨E, hE⟩ : ∃ E, endsL own (sinceL told2 y) = E := ⟨_, rfl⟩
                          have HE := As.mk hE
                          rw [hE] at hcz hs9 hEl hc9
                          clear hE hyo
                          replace S := S.know (h := Im kI A9 E) hs9
                          clear hs9
                          have hq2 := ClE.cell (w := wr.drew) hcz
                          go_wp2_with (first | ((first | (with_reducible refine wpl_seal S ?_) | (with_reducible refine cw_seal S ?_) | (with_reducible refine bp_seal S ?_) | (with_reducible refine ca_seal S ?_)); clear S; (try clear hc); intro w1 S; (try simp only [List.set_cons_zero, List.set_cons_succ, List.nil_append] at S); have hc := S.cells; simp only [Cells, cellsC, Im, Row, El, RTH, TreeH, TR, AU, AL, OrNil, Many, MaO, FlatO, Nat.zero_add, Nat.reduceAdd] at hc))
                          refine wp_region_ext [⟨[0, 1, 2, 3, 4, 5, 6], [], 7, true⟩, ⟨[], [], 8, false⟩] [9] (by kernel_rfl) (by kernel_rfl) ?_
                          refine mix_cons rfl rfl rfl ?_
                          simp only [opsAt, List.getD_cons_succ, List.getD_cons_zero]
                          repeat (go_big_quiet_step ((intro hC; first | rfl | (go_simp; first | done | rfl))))
                          refine wpQuiet_nil ?_
                          repeat (go_big_quiet_step ((intro hC; first | rfl | (go_simp; first | done | rfl))))
                          refine wpQuiet_nil ?_
                          clear hcz hq2
                          replace S := S.drew
                          generalize wr.drew = w1 at S ⊢
                          have hc := S.cells; simp only [Cells, cellsC, Im, Row, El, RTH, TreeH, TR, AU, AL, OrNil, Many, MaO, FlatO, Nat.zero_add, Nat.reduceAdd] at hc
                          go_wp2_with (first | ((first | (with_reducible refine mx_seal S ?_) | (with_reducible refine wpl_seal S ?_) | (with_reducible refine ca_seal S ?_)); clear S; (try clear hc); intro w1 S; (try simp only [List.set_cons_zero, List.set_cons_succ, List.nil_append] at S); have hc := S.cells; simp only [Cells, cellsC, Im, Row, El, RTH, TreeH, TR, AU, AL, OrNil, Many, MaO, FlatO, Nat.zero_add, Nat.reduceAdd] at hc) | (go_at_call 16; refine (zends_r (own := own) (told := told2) (c := c5) (B := Av) (d := cv) S 2 HTL2.out.symm rfl (S.im 4 rfl) HF.out HT2.out y hyn (by omega)).mono ?_; rw [HE.out]; rintro e w1 ⟨v, rfl, hu⟩; have hxe := hu.ext; obtain ⟨I1, S1, hI1⟩ := S.new hu; clear S hu hI1; (try clear hc); have S := S1; clear S1; have hc := S.cells; simp only [Cells, cellsC, Im, Row, El, RTH, TreeH, TR, AU, AL, OrNil, Many, MaO, FlatO, Nat.zero_add, Nat.reduceAdd] at hc; obtain ⟨A10, c10, I1, e1, hc10, S1, hI1⟩ := S.frow 0 rfl; subst e1; clear S hI1; have S := S1; clear S1; simp only [List.set_cons_zero, List.set_cons_succ, List.nil_append] at S; have hc := S.cells; simp only [Cells, cellsC, Im, Row, El, RTH, TreeH, TR, AU, AL, OrNil, Many, MaO, FlatO, Nat.zero_add, Nat.reduceAdd] at hc))
                          refine ⟨fun _ => hxe, ?_⟩
                          clear hxe
                          refine mix_cons rfl rfl rfl ?_
                          simp only [opsAt, List.getD_cons_succ, List.getD_cons_zero]
                          repeat (go_big_quiet_step ((intro hC; first | rfl | (go_simp; first | done | rfl))))
                          refine wpQuiet_nil ?_
                          repeat (go_big_quiet_step ((intro hC; first | rfl | (go_simp; first | done | rfl))))
                          refine wpQuiet_nil ?_
                          go_wp2_with (first | ((first | (with_reducible refine mx_seal S ?_) | (with_reducible refine wpl_seal S ?_) | (with_reducible refine ca_seal S ?_)); clear S; (try clear hc); intro w1 S; (try simp only [List.set_cons_zero, List.set_cons_succ, List.nil_append] at S); have hc := S.cells; simp only [Cells, cellsC, Im, Row, El, RTH, TreeH, TR, AU, AL, OrNil, Many, MaO, FlatO, Nat.zero_add, Nat.reduceAdd] at hc) | (go_at_call 15; refine (sameI_e E A9 A10 c9 c10 _ _ _ (S.im 1 rfl) (S.im 0 rfl) hEl).mono ?_; rintro e w1 ⟨rfl, hx⟩; have hx := hx.ext; replace S := S.ext hx; clear hx; (try clear hc); have hc := S.cells; simp only [Cells, cellsC, Im, Row, El, RTH, TreeH, TR, AU, AL, OrNil, Many, MaO, FlatO, Nat.zero_add, Nat.reduceAdd] at hc))
                          (first | refine ⟨(fun h => by cases h), ?_⟩ | skip); (first | ((first | (with_reducible refine mx_seal S ?_)); clear S; (try clear hc); intro w1 S; (try simp only [List.set_cons_zero, List.set_cons_succ, List.nil_append] at S); have hc := S.cells; simp only [Cells, cellsC, Im, Row, El, RTH, TreeH, TR, AU, AL, OrNil, Many, MaO, FlatO, Nat.zero_add, Nat.reduceAdd] at hc) | skip); (try simp only [Act.put, List.setIfInBounds_toArray, List.set_cons_succ, List.set_cons_zero])
                          refine mix_last rfl ?_
                          simp only [opsAt, List.getD_cons_succ, List.getD_cons_zero]
                          repeat (go_big_quiet_step ((intro hC; first | rfl | (go_simp; first | done | rfl))))
                          refine wpQuiet_nil ?_
                          simp only [calmQ]
                          have hc := S.cells; simp only [Cells, cellsC, Im, Row, El, RTH, TreeH, TR, AU, AL, OrNil, Many, MaO, FlatO, Nat.zero_add, Nat.reduceAdd] at hc
                          go_wp2_with (first | ((first | (with_reducible refine wpl_seal S ?_) | (with_reducible refine cw_seal S ?_) | (with_reducible refine bp_seal S ?_) | (with_reducible refine ca_seal S ?_)); clear S; (try clear hc); intro w1 S; (try simp only [List.set_cons_zero, List.set_cons_succ, List.nil_append] at S); have hc := S.cells; simp only [Cells, cellsC, Im, Row, El, RTH, TreeH, TR, AU, AL, OrNil, Many, MaO, FlatO, Nat.zero_add, Nat.reduceAdd] at hc))
                          go_roundw
                          case rel => exact ⟨y + 1, _, by go_num, by omega, ⟨(S.sel [2, 3, 4, 5, 6] (by decide) rfl (by simp) : SH _ _ _ [_, _, _, _, _] _ _)⟩⟩
                          case measure => simp [intOf]; omega
                        · have hyn' : decide ((y : Int) < 3) = false := by simp; omega
                          have hc := S.cells; simp only [Cells, cellsC, Im, Row, El, RTH, TreeH, TR, AU, AL, OrNil, Many, MaO, FlatO, Nat.zero_add, Nat.reduceAdd] at hc
                          go_wp2_with (first | ((first | (with_reducible refine wpl_seal S ?_) | (with_reducible refine cw_seal S ?_) | (with_reducible refine bp_seal S ?_) | (with_reducible refine ca_seal S ?_)); clear S; (try clear hc); intro w1 S; (try simp only [List.set_cons_zero, List.set_cons_succ, List.nil_append] at S); have hc := S.cells; simp only [Cells, cellsC, Im, Row, El, RTH, TreeH, TR, AU, AL, OrNil, Many, MaO, FlatO, Nat.zero_add, Nat.reduceAdd] at hc))
                          go_roundw
                          case rel => exact ⟨i + 1, told2, Av, cv, _, by go_num, by rw [HTL2.out], by omega, by omega, by have := HTL2.out; omega, HT2, ⟨by rw [HTL2.out]; exact (S.sel [1, 2, 3, 4] (by decide) rfl (by simp) : SH _ _ _ [_, _, _, _] _ _)⟩⟩
                          case measure => simp [intOf]; omega
              · have him' : decide ((i : Int) < 6) = false := by simp; omega
                go_wp2_with (first | ((first | (with_reducible refine wpl_seal S ?_) | (with_reducible refine cw_seal S ?_) | (with_reducible refine bp_seal S ?_) | (with_reducible refine ca_seal S ?_)); clear S; (try clear hc); intro w1 S; (try simp only [List.set_cons_zero, List.set_cons_succ, List.nil_append] at S); have hc := S.cells; simp only [Cells, cellsC, Im, Row, El, RTH, TreeH, TR, AU, AL, OrNil, Many, MaO, FlatO, Nat.zero_add, Nat.reduceAdd] at hc) | (go_at_call 17; refine (crows_r S 1 rfl).mono ?_; rintro e w1 ⟨rfl, rfl⟩) | (go_at_call 13; refine (lives17_c _ _ S.bd).mono ?_; rintro e w1 ⟨rfl, hx⟩; replace S := S.ext hx; clear hx; (try clear hc); have hc := S.cells; simp only [Cells, cellsC, Im, Row, El, RTH, TreeH, TR, AU, AL, OrNil, Many, MaO, FlatO, Nat.zero_add, Nat.reduceAdd] at hc))
                go_ret
                exact ⟨rfl, S.out⟩
            · have hil' : decide ((i : Int) < rws.length) = false := by simpa using hil
              go_wp2_with (first | ((first | (with_reducible refine wpl_seal S ?_) | (with_reducible refine cw_seal S ?_) | (with_reducible refine bp_seal S ?_) | (with_reducible refine ca_seal S ?_)); clear S; (try clear hc); intro w1 S; (try simp only [List.set_cons_zero, List.set_cons_succ, List.nil_append] at S); have hc := S.cells; simp only [Cells, cellsC, Im, Row, El, RTH, TreeH, TR, AU, AL, OrNil, Many, MaO, FlatO, Nat.zero_add, Nat.reduceAdd] at hc) | (go_at_call 17; refine (crows_r S 1 rfl).mono ?_; rintro e w1 ⟨rfl, rfl⟩) | (go_at_call 13; refine (lives17_c _ _ S.bd).mono ?_; rintro e w1 ⟨rfl, hx⟩; replace S := S.ext hx; clear hx; (try clear hc); have hc := S.cells; simp only [Cells, cellsC, Im, Row, El, RTH, TreeH, TR, AU, AL, OrNil, Many, MaO, FlatO, Nat.zero_add, Nat.reduceAdd] at hc))
              go_ret
              exact ⟨rfl, S.out⟩
end Go.Proofs.Ytpgphhkhjbhimaa
