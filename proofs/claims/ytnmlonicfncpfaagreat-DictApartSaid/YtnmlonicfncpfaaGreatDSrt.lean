/- A row of numbers handed on, one by one, and gathered. Numbers in their row, each once; whether turns may be. -/
import Derived.Test.YtnmlonicfncpfaaGreatRF
import Derived.Test.YtnmlonicfncpfaaGreatDKd
import Derived.Shelf.Abstract
import Derived.Test.YtnmlonicfncpfaaGreatDTrn
import Derived.Test.YtnmlonicfncpfaaGreatShelf
import Derived.Sort.OwnSortedInts
import Derived.Lib.OwnBridge
import Derived.Deep.DeepCutAuto
namespace Go.Proofs.YtnmlonicfncpfaaGreat
open Go.RowKit Go.Shelf X
set_option maxHeartbeats 4000000
set_option maxRecDepth 8000
set_option linter.unusedSimpArgs false
set_option linter.unusedVariables false
attribute [local go_sem] Oper.semAt_some
abbrev kII : Kd (List Int) := Kd.sl 41 kI
def VS (W : World) (g : Nat) (A : Option Addr) (c : Nat) (xs : List Int) : Prop := W.cell? ⟨g, 0, none⟩ = some (.slice A xs.length c) ∧ Sl kI W Any A xs
theorem VS.ext {W W' : World} {g : Nat} {A : Option Addr} {c : Nat} {xs : List Int} (h : VS W g A c xs) (hx : Ext W W') : VS W' g A c xs := ⟨hx.cell h.1, h.2.below hx⟩
theorem valclo_c (g : Nat) (A : Option Addr) (c : Nat) (xs : List Int) (hn : xs.length ≤ 1000000) :
    Gives Tryz.prog 54 #[.pointer (some ⟨g, 0, none⟩)] (fun x : Int => #[.int .i64 x]) Ext (fun _ W' => VS W' g A c xs) (fun W => VS W g A c xs) xs := by
  intro lo J Jx hJ hJx hY w hw hJ0
  have HY := As.mk hY
  have HJ := As.mk hJ
  have HJX := As.mk hJx
  have HW := As.mk hw
  have HJ0 := As.mk hJ0
  have hcg := hw.1
  clear hY hJ hJx hJ0 hw
  refine callsIn_of_wp Tryz.func54 rfl trivial ?_ rfl; simp only [Tryz.ntmps54, List.size_toArray, List.length_cons, List.length_nil, Nat.reduceAdd, Nat.reduceSub, Array.replicate_succ, Array.replicate_zero, List.push_toArray, List.append_toArray, List.nil_append, List.cons_append]
  gi_wp2_with fail
  gi_loopw [7] (fun i w' => ∃ (k : Nat), k ≤ xs.length ∧ i = .int .i64 k ∧ As (VS w' g A c xs) ∧ As (J (xs.take k) w')) (fun i _ => xs.length - (intOf i).toNat)
  case atStart => exact ⟨0, Nat.zero_le _, rfl, HW, HJ0⟩
  case round =>
    clear HW HJ0 hcg
    obtain ⟨k, hk, rfl, HW, HJ0⟩ := hrel
    by_cases hlt : k < xs.length
    · have hlt' : decide ((k : Int) < xs.length) = true := by simp; omega
      obtain ⟨b, o, rfl, g0⟩ := HW.out.2.num_at (List.getElem?_eq_getElem hlt)
      have HT := As.mk (List.take_succ_eq_append_getElem hlt)
      have HPR : As ((xs.take k ++ [xs[k]]) <+: xs) := ⟨by rw [← List.take_succ_eq_append_getElem hlt]; exact List.take_prefix _ _⟩
      generalize xs[k] = x at g0 HT HPR
      have S := SH.start wr No (fun _ h => h.elim)
      have hc := S.cells; simp only [Cells, cellsC, Im, Row, El, Rec, Nat.zero_add, Nat.reduceAdd] at hc
      gi_wp2_with (first | ((first | (with_reducible refine wlI_seal S ?_) | (with_reducible refine cwI_seal S ?_) | (with_reducible refine bpM_seal S ?_) | (with_reducible refine bp_seal S ?_) | (with_reducible refine caI_seal S ?_)); clear S; (try clear hc); intro w1 S; (try simp only [List.set_cons_zero, List.set_cons_succ, List.nil_append] at S); have hc := S.cells; simp only [Cells, cellsC, Im, Row, El, Rec, Nat.zero_add, Nat.reduceAdd] at hc))
      have HW1 := As.mk (HW.out.ext S.out)
      obtain ⟨fn, tmps, assign, body, hy, hR⟩ := HY.out _ x _ HPR.out (HJ.out _ _ _ HJ0.out S.out)
      rw [hy]
      clear hy
      gi_wp2_with fail
      refine hR.mono ?_
      clear hR S hc g0
      rintro e1 W3 (⟨rfl, hJ3, hi3⟩ | ⟨rfl, hJx3⟩)
      · have HI3 := As.mk hi3
        have HJ3 := As.mk hJ3
        clear hi3 hJ3
        gi_wp2_with fail
        go_roundw
        case rel => exact ⟨k + 1, by omega, by go_num, HI3, ⟨by rw [HT.out]; exact HJ3.out⟩⟩
        case measure => simp [intOf] <;> omega
      · have HJ3 := As.mk hJx3
        clear hJx3
        gi_wp2_with fail
        refine bodyPost_ret (results_none rfl _ _ _) rfl ?_
        exact ⟨⟨_, rfl⟩, .inr ⟨_, HPR.out, HJ3.out⟩⟩
    · have hlt' : decide ((k : Int) < xs.length) = false := by simp; omega
      obtain rfl : k = xs.length := by omega
      rw [List.take_length] at HJ0
      gi_wp2_with fail
      go_end0
      exact ⟨⟨_, rfl⟩, .inl HJ0.out⟩
theorem values_c (A : Option Addr) (n c : Nat) (w : World) (I : Fp) (hI : ∀ b, I b → b < w.heap.size) :
    Calls Tryz.prog 23 #[.slice A n c] w fun e w' => ∃ g, e = .returned (.func (.func 54) #[] #[.pointer (some ⟨g, 0, none⟩)]) ∧ Upd w No I w' (Cel g 41 [.slice A n c]) := by
  have S := SH.start w I hI
  have hc := S.cells; simp only [Cells, cellsC, Im, Row, El, Rec, Nat.zero_add, Nat.reduceAdd] at hc
  go_enter Tryz.func23, Tryz.ntmps23
  go_wp2_with (first | ((first | (with_reducible refine wpl_seal S ?_) | (with_reducible refine cw_seal S ?_) | (with_reducible refine bp_seal S ?_) | (with_reducible refine ca_seal S ?_)); clear S; (try clear hc); intro w1 S; (try simp only [List.set_cons_zero, List.set_cons_succ, List.nil_append] at S); have hc := S.cells; simp only [Cells, cellsC, Im, Row, El, Rec, Nat.zero_add, Nat.reduceAdd] at hc))
  obtain ⟨g, eg⟩ := S.name 0 rfl; rw [← eg] at S ⊢; clear eg
  go_ret
  exact ⟨g, rfl, S.ret 0 rfl⟩
theorem appendSeq_c (xs : List Int) (g : Nat) (w : World) (I : Fp) (hI : ∀ b, I b → b < w.heap.size) (hg : Sl kII w I (some ⟨g, 0, none⟩) [xs]) (hn : xs.length ≤ 1000000) :
    Calls Tryz.prog 72 #[.slice none 0 0, .func (.func 54) #[] #[.pointer (some ⟨g, 0, none⟩)]] w fun e w' => ∃ v, e = .returned v ∧ Upd w No I w' (Row kI v xs) := by
  obtain ⟨b, o, A, c, e, hcg, hlc, hsl⟩ := hg.sl_at (i := 0) (by simp)
  cases e
  replace hcg : w.cell? ⟨g, 0, none⟩ = some (.slice A xs.length c) := hcg
  replace hsl : Sl kI w I A xs := hsl
  have S := ((SH.start w I hI).know (h := Im kI A xs) hsl).nilrow (k := kI)
  have HV : As (VS w g A c xs) := ⟨hcg, hsl.any⟩
  have qf : ∀ w, (binOp BinOp.eql 73 (.func (.func 54) #[] #[.pointer (some ⟨g, 0, none⟩)]) .nilFunc).run Tryz.prog w = .ok (.bool false) w := fun _ => by kernel_rfl
  have hc := S.cells; simp only [Cells, cellsC, Im, Row, El, Rec, Nat.zero_add, Nat.reduceAdd] at hc
  refine (callsIn_wide (n := 9)).1 (callsIn_of_wp_marks Tryz.func72 rfl trivial (wpIn_wide.2 ?_)); simp only [Tryz.ntmps72, List.size_toArray, List.length_cons, List.length_nil, Nat.reduceAdd, Nat.reduceSub, Array.replicate_succ, Array.replicate_zero, List.push_toArray, List.append_toArray, List.nil_append, List.cons_append]
  go_wp2_with (first | ((first | (with_reducible refine wpl_seal S ?_) | (with_reducible refine cw_seal S ?_) | (with_reducible refine bp_seal S ?_) | (with_reducible refine ca_seal S ?_)); clear S; (try clear hc); intro w1 S; (try simp only [List.set_cons_zero, List.set_cons_succ, List.nil_append] at S); have hc := S.cells; simp only [Cells, cellsC, Im, Row, El, Rec, Nat.zero_add, Nat.reduceAdd] at hc))
  obtain ⟨gb, egb⟩ := S.name 0 rfl; rw [← egb] at S ⊢; clear egb
  refine (wpIn_wide (n := 9)).1 ?_
  refine S.range (gf := 54) (lb := #[.pointer (some ⟨g, 0, none⟩)]) rfl (enters_of Tryz.func54 (by kernel_rfl) rfl) (valclo_c g A c xs hn) (fun _ => rfl)
    (fun pre L' I' => ∃ (v : Value), L' = [Cel gb 41 [v], Row kI v pre, Im kI A xs]) (fun _ _ _ => False) ⟨_, rfl⟩ ?st ?own ?ownx ?round ?done ?stop
  case st => exact fun W4 o1 o2 _ S4 => HV.out.ext S4.out
  case own =>
    rintro pre L' I' X Y o1 o2 ⟨v, rfl⟩ s he
    exact ⟨_, _, ⟨v, rfl⟩, s.ext he⟩
  case ownx => exact fun _ _ _ _ _ _ _ h => h.elim
  case stop => exact fun _ _ _ _ _ h => h.elim
  case done =>
    rintro D L' I' W5 ⟨v, rfl⟩ S
    dsimp only
    have hc := S.cells; simp only [Cells, cellsC, Im, Row, El, Rec, Nat.zero_add, Nat.reduceAdd] at hc
    go_wp2_with (first | ((first | (with_reducible refine wpl_seal S ?_) | (with_reducible refine cw_seal S ?_) | (with_reducible refine bpM_seal S ?_) | (with_reducible refine bp_seal S ?_) | (with_reducible refine ca_seal S ?_)); clear S; (try clear hc); intro w1 S; (try simp only [List.set_cons_zero, List.set_cons_succ, List.nil_append] at S); have hc := S.cells; simp only [Cells, cellsC, Im, Row, El, Rec, Nat.zero_add, Nat.reduceAdd] at hc))
    refine ⟨by simp, .inl ⟨_, _, rfl, run_takeDeferred (S.recd 0 rfl), ?_⟩⟩
    have S5 := S.putRec 0 rfl (.deferred none)
    exact ⟨_, results_tmp rfl _ _ _, _, rfl, S5.ret 2 rfl⟩
  case round =>
    rintro lo D r1 r2 pre x L' I' W5 hpre ⟨v, rfl⟩ S
    have hpl : pre.length ≤ 1000000 := by
      obtain ⟨rest, hpr⟩ := hpre
      have := congrArg List.length hpr
      simp only [List.length_append, List.length_cons, List.length_nil] at this
      omega
    clear hpre
    have hc := S.cells; simp only [Cells, cellsC, Im, Row, El, Rec, Nat.zero_add, Nat.reduceAdd] at hc
    simp only [List.zip_toArray, List.foldl_toArray', List.foldl_cons, List.foldl_nil, List.zip_cons_cons, List.zip_nil_left, List.setIfInBounds_toArray, List.set_cons_succ, List.set_cons_zero]
    gi_wp2_with (first | ((first | (with_reducible refine wlI_seal S ?_) | (with_reducible refine cwI_seal S ?_) | (with_reducible refine bpM_seal S ?_) | (with_reducible refine bp_seal S ?_) | (with_reducible refine caI_seal S ?_)); clear S; (try clear hc); intro w1 S; (try simp only [List.set_cons_zero, List.set_cons_succ, List.nil_append] at S); have hc := S.cells; simp only [Cells, cellsC, Im, Row, El, Rec, Nat.zero_add, Nat.reduceAdd] at hc))
    refine ⟨[Cel gb 41 [v], Row kI v pre, Im kI A xs], I', S, ?_⟩
    clear S
    intro W6 _ S
    have hc := S.cells; simp only [Cells, cellsC, Im, Row, El, Rec, Nat.zero_add, Nat.reduceAdd] at hc
    gi_wp2_with (first | ((first | (with_reducible refine wlI_seal S ?_) | (with_reducible refine cwI_seal S ?_) | (with_reducible refine bpM_seal S ?_) | (with_reducible refine bp_seal S ?_) | (with_reducible refine caI_seal S ?_)); clear S; (try clear hc); intro w1 S; (try simp only [List.set_cons_zero, List.set_cons_succ, List.nil_append] at S); have hc := S.cells; simp only [Cells, cellsC, Im, Row, El, Rec, Nat.zero_add, Nat.reduceAdd] at hc) | (gi_at_builtin; refine wlI_push S 4 rfl rfl _ _ rfl ty_ints rfl x _ _ rfl [_] _ (S.cel 0 rfl) rfl (by (try simp only [maxLen, List.length_nil, List.length_append, List.length_cons]); omega) (by (try simp only [maxLen, List.length_nil, List.length_append, List.length_cons]); omega) ?_; clear S; (try clear hc); intro va w1 S; simp only [List.set_cons_zero, List.set_cons_succ, List.nil_append] at S; obtain ⟨Av, cv, eva, -, -⟩ := S.row 4 rfl; subst eva; have hc := S.cells; simp only [Cells, cellsC, Im, Row, El, Rec, Nat.zero_add, Nat.reduceAdd] at hc))
    rw [show (pre ++ [x]).length = pre.length + 1 by simp] at S
    have S3 := S.put 3 0 (.slice Av (pre.length + 1) cv) rfl
    refine ⟨_, I', ⟨_, rfl⟩, S3.sel [1, 2, 3, 4, 5] (by decide) rfl (by simp), ?_⟩
    rintro W7 L7 I7 ⟨v7, rfl⟩ - S7
    exact HV.out.ext S7.out
end Go.Proofs.YtnmlonicfncpfaaGreat
namespace Go.Proofs.YtnmlonicfncpfaaGreat
open Go.RowKit X Go.Sort
set_option maxHeartbeats 2000000
set_option maxRecDepth 8000
set_option linter.unusedSimpArgs false
set_option linter.unusedVariables false
section
variable {F0 I0 I : Fp} {w0 w : World} {O : List Ob}
def sortI (xs : List Int) : List Int := xs.mergeSort fun x y => decide (x ≤ y)
theorem sortI_perm (xs : List Int) : (sortI xs).Perm xs := List.mergeSort_perm _ _
theorem sortI_len (xs : List Int) : (sortI xs).length = xs.length := List.length_mergeSort _
theorem sortI_srt (xs : List Int) : (sortI xs).Pairwise (· ≤ ·) := by
  have := List.pairwise_mergeSort (le := fun x y : Int => decide (x ≤ y)) (fun a b c h1 h2 => by simp only [decide_eq_true_eq] at *; omega) (fun a b => by simp only [Bool.or_eq_true, decide_eq_true_eq]; omega) xs
  exact this.imp fun h => by simpa using h
theorem sort_r {v : Value} {xs : List Int} (S : SH F0 I0 w0 O w I) (i : Nat) (e : O[i]? = some (Row kI v xs)) (hn : xs.length ≤ 1000000) :
    Calls Tryz.prog 53 #[v] w fun e w' => e = .returned (.tuple #[]) ∧ SH F0 I0 w0 (O.set i (Row kI v (sortI xs))) w' I := by
  obtain ⟨cells, ⟨ho, hnb⟩, hf⟩ := S.own i e
  rcases ho.2 with ⟨hv, h0⟩ | ⟨g, cap, cur, hv, hbase, hh, hle, hmax, hsize, htake⟩
  · have : xs = [] := List.eq_nil_of_length_eq_zero h0
    subst this
    subst hv
    refine (Tryz.slices_Sort_int_none none 0 w).mono ?_
    rintro e1 w' ⟨rfl, rfl⟩
    have hs : sortI [] = [] := List.eq_nil_of_length_eq_zero (by rw [sortI_len]; rfl)
    refine ⟨rfl, ?_⟩
    rw [hs]
    exact S.updI i e fun F hF hb => ⟨F, hF, fun k hk => ⟨(hb k hk).1, .inl hk⟩, Chg.refl _ _⟩
  · rw [Flat.int] at hf
    subst hv
    have hk1 : (kI).ety = 3 := rfl
    have htk : cur.toList.take xs.length = xs.map (Value.int .i64) := by
      rw [← hf]; exact (by simpa [kI, Kd.int] using htake)
    have hgl := lt_of_heap hh
    refine (Tryz.slices_Sort_int g 0 cap xs w (holds_of_blockI hh htk) hgl (by omega)).mono ?_
    rintro e1 w' ⟨rfl, n, os, rfl⟩
    refine ⟨rfl, ?_⟩
    refine S.updI i e fun F ⟨_, hF⟩ hb => ⟨F, ⟨?_, fun g' hg' => hF g' hg'⟩, fun k hk => ⟨Nat.lt_of_lt_of_le (hb k hk).1 (grownBy_sortedI (w := w) (g := g) (n := n) (os := os) _).size, .inl hk⟩, Chg.of_grown (grownBy_sortedI _) fun g' hg' => hF g' (by cases hg'; rfl)⟩
    have h2 := ownsRow_sortedI (n := n) (os := os) (ts := sortI xs) (ss := xs) (sortI_len xs) hbase hh hle hmax (by simpa [kI, Kd.int] using hsize)
    have h3 : (sortI xs).length = xs.length := sortI_len xs
    refine ⟨(sortI xs).map (Value.int .i64), ⟨?_, hnb⟩, Flat.int.2 rfl⟩
    rw [h3]
    exact h2
theorem grownBy_put {w : World} {g q : Nat} (d : Array Int) : w.grownBy (putRow (Value.int .i64) (Sort.ahead w q) g 0 d) (some g) := by
  refine ⟨rfl, rfl, rfl, by simp [putRow, mapBlock, Sort.ahead], fun k hk hne => ?_⟩
  have : g ≠ k := fun e => hne (by rw [e])
  simp [putRow, mapBlock, Sort.ahead, Array.getElem?_modify, this]
theorem compactUpTo_le (d : Array Int) : ∀ m, (Lib.compactUpTo d m).length ≤ m
  | 0 => by simp [Lib.compactUpTo]
  | m + 1 => by
    rw [Lib.compactUpTo_succ, List.length_append]
    have := compactUpTo_le d m
    split
    · simp only [List.length_cons, List.length_nil]; omega
    · simp only [List.length_nil]; omega
theorem compact_le (xs : List Int) : (Lib.compact xs).length ≤ xs.length := compactUpTo_le _ _
theorem X.Own.made {w : World} {B : Nat} {D : Fp} {α : Type} {k : Kd α} {v : Value} {xs : List α} (h : Own k w B D v xs) (h0 : 0 < xs.length) : ∃ g c, v = .slice (some ⟨g, 0, none⟩) xs.length c ∧ xs.length ≤ c := by
  obtain ⟨cells, ⟨ho, -⟩, -⟩ := h
  rcases ho.2 with ⟨_, h1⟩ | ⟨g, cap, cur, hv, -, -, hle, -⟩
  · omega
  · exact ⟨g, cap, hv, hle⟩
theorem compact_r {g c : Nat} {xs : List Int} (S : SH F0 I0 w0 O w I) (i : Nat) (e : O[i]? = some (Row kI (.slice (some ⟨g, 0, none⟩) xs.length c) xs)) (hn : xs.length ≤ 1000000) (hc : xs.length ≤ c) :
    Calls Tryz.prog 49 #[.slice (some ⟨g, 0, none⟩) xs.length c] w fun e w' => e = .returned (.slice (some ⟨g, 0, none⟩) (Lib.compact xs).length c) ∧ SH F0 I0 w0 (O.set i (Row kI (.slice (some ⟨g, 0, none⟩) (Lib.compact xs).length c) (Lib.compact xs))) w' I := by
  obtain ⟨cells, ⟨ho, hnb⟩, hf⟩ := S.own i e
  rw [Flat.int] at hf
  subst hf
  have hle := compact_le xs
  obtain ⟨g', cap, e1, hb, hg, h1, h2, h3, hH⟩ := Lib.holds_of_ownsRow ho (by simp)
  cases e1
  refine (Tryz.slices_Compact_int g 0 c xs w hH (by omega) hc).mono ?_
  rintro e1 w' ⟨rfl, q, rfl⟩
  refine ⟨rfl, S.updI i e fun F ⟨_, hF⟩ hbb => ⟨F, ⟨⟨_, ⟨?_, hnb⟩, Flat.int.2 rfl⟩, hF⟩, fun k hk => ⟨?_, .inl hk⟩, ?_⟩⟩
  · have := Lib.ownsRow_putRow (q := q) (k := (Lib.compact xs).length) (ys := Lib.compact xs ++ List.replicate (xs.length - (Lib.compact xs).length) 0) ho (by simp; omega) hle
    rwa [List.take_left'] at this
    rfl
  · exact Nat.lt_of_lt_of_le (hbb k hk).1 (grownBy_put (w := w) (g := g) (q := q) _).size
  · exact Chg.of_grown (grownBy_put _) fun g' hg' => hF g' (by cases hg'; rfl)
end
/-- whether turns may be -/
def mayTs (ts : List Int) : Bool := let s := Lib.compact (sortI ts); decide (0 < s.length) && decide (s.length = ts.length) && (decide (0 ≤ s.headD 0) && decide (s.headD 0 < 8)) && (decide (0 ≤ s.getLastD 0) && decide (s.getLastD 0 < 8))
theorem collect_c (xs : List Int) (g : Nat) (w : World) (I : Fp) (hI : ∀ b, I b → b < w.heap.size) (hg : Sl kII w I (some ⟨g, 0, none⟩) [xs]) (hn : xs.length ≤ 1000000) :
    Calls Tryz.prog 52 #[.func (.func 54) #[] #[.pointer (some ⟨g, 0, none⟩)]] w fun e w' => ∃ v, e = .returned v ∧ Upd w No I w' (Row kI v xs) := by
  have HG := As.mk hg
  clear hg
  go_enter Tryz.func52, Tryz.ntmps52
  go_wp2_with (go_at_call 72; refine (appendSeq_c xs g w I hI HG.out hn).mono ?_; rintro e w1 ⟨v, rfl, hu⟩; have HU := As.mk hu; clear hu)
  go_ret
  exact ⟨_, rfl, HU.out⟩
theorem sorted_c (xs : List Int) (g : Nat) (w : World) (I : Fp) (hI : ∀ b, I b → b < w.heap.size) (hg : Sl kII w I (some ⟨g, 0, none⟩) [xs]) (hn : xs.length ≤ 1000000) :
    Calls Tryz.prog 22 #[.func (.func 54) #[] #[.pointer (some ⟨g, 0, none⟩)]] w fun e w' => ∃ v, e = .returned v ∧ Upd w No I w' (Row kI v (sortI xs)) := by
  have S := SH.start w I hI
  have HG := As.mk hg
  clear hg
  have hc := S.cells; simp only [Cells, cellsC, Im, Row, El, Im, Nat.zero_add, Nat.reduceAdd] at hc
  go_enter Tryz.func22, Tryz.ntmps22
  go_wp2_with (first | ((first | (with_reducible refine wpl_seal S ?_) | (with_reducible refine cw_seal S ?_) | (with_reducible refine bp_seal S ?_) | (with_reducible refine ca_seal S ?_)); clear S; (try clear hc); intro w1 S; (try simp only [List.set_cons_zero, List.set_cons_succ, List.nil_append] at S); have hc := S.cells; simp only [Cells, cellsC, Im, Row, El, Im, Nat.zero_add, Nat.reduceAdd] at hc) | (go_at_call 52; refine (collect_c xs g _ _ S.bd HG.out hn).mono ?_; rintro e w1 ⟨v, rfl, hu⟩; obtain ⟨I1, S1, hI1⟩ := S.new hu; clear S hu hI1; (try clear hc); have S := S1; clear S1; have hc := S.cells; simp only [Cells, cellsC, Im, Row, El, Im, Nat.zero_add, Nat.reduceAdd] at hc) | (go_at_call 53; refine (sort_r S 0 rfl hn).mono ?_; clear S hc; rintro e w1 ⟨rfl, S⟩; simp only [List.set_cons_zero, List.set_cons_succ, List.nil_append] at S; have hc := S.cells; simp only [Cells, cellsC, Im, Row, El, Im, Nat.zero_add, Nat.reduceAdd] at hc))
  go_ret
  exact ⟨_, rfl, S.ret 0 rfl⟩
theorem may_c (ts : List Int) (A : Option Addr) (c : Nat) (w : World) (I : Fp) (hI : ∀ b, I b → b < w.heap.size) (hx : Sl kI w I A ts) (hc0 : ts.length ≤ c) (hn : ts.length ≤ 1000000) {r : Bool} (hr : mayTs ts = r) :
    Calls Tryz.prog 20 #[.slice A ts.length c] w fun e w' => e = .returned (.bool r) ∧ Ext w w' := by
  have S := (SH.start w I hI).know (h := Im kI A ts) hx
  clear hx
  by_cases h0 : ts.length = 0
  · have e0 : ts = [] := List.eq_nil_of_length_eq_zero h0
    subst e0
    have hs0 : sortI [] = [] := List.eq_nil_of_length_eq_zero (by rw [sortI_len]; rfl)
    have HR : As (r = false) := ⟨by rw [← hr]; unfold mayTs; rw [hs0]; rfl⟩
    rw [HR.out]
    clear hr HR h0
    have HS := As.mk hs0
    have hc := S.cells; simp only [Cells, cellsC, Im, Row, El, Im, Nat.zero_add, Nat.reduceAdd] at hc
    go_enter Tryz.func20, Tryz.ntmps20
    go_wp2_with (first | ((first | (with_reducible refine wpl_seal S ?_) | (with_reducible refine cw_seal S ?_) | (with_reducible refine bp_seal S ?_) | (with_reducible refine ca_seal S ?_)); clear S; (try clear hc); intro w1 S; (try simp only [List.set_cons_zero, List.set_cons_succ, List.nil_append] at S); have hc := S.cells; simp only [Cells, cellsC, Im, Row, El, Im, Nat.zero_add, Nat.reduceAdd] at hc) | (go_at_call 23; refine (values_c A 0 c _ _ S.bd).mono ?_; rintro e w1 ⟨g, rfl, hu⟩; obtain ⟨I1, S1, hI1⟩ := S.new hu; clear S hu hI1; (try clear hc); have S := S1; clear S1; have hc := S.cells; simp only [Cells, cellsC, Im, Row, El, Im, Nat.zero_add, Nat.reduceAdd] at hc; obtain ⟨J, S9, -⟩ := S.lit 0 rfl (k := kII) (xs := [[]]) (Flat.single ⟨A, c, rfl, hc0, S.im 1 rfl⟩); clear S hc; have S := S9; clear S9; simp only [List.set_cons_zero, List.set_cons_succ, List.nil_append] at S) | (go_at_call 22; refine (sorted_c [] g _ _ S.bd (S.im 0 rfl) hn).mono ?_; rw [HS.out]; rintro e w1 ⟨v, rfl, hu⟩; obtain ⟨I1, S1, hI1⟩ := S.new hu; clear S hu hI1; (try clear hc); have S := S1; clear S1; have hc := S.cells; simp only [Cells, cellsC, Im, Row, El, Im, Nat.zero_add, Nat.reduceAdd] at hc; obtain ⟨Av, cv, ev, -, -⟩ := S.row 0 rfl; subst ev) | (go_at_call 49; refine (Tryz.slices_Compact_int_empty _ _ _).mono ?_; rintro e w1 ⟨rfl, rfl⟩))
    go_ret
    exact ⟨rfl, S.out⟩
  · obtain ⟨s0, hs0⟩ : ∃ s0, sortI ts = s0 := ⟨_, rfl⟩
    have hsl : s0.length = ts.length := by rw [← hs0, sortI_len]
    obtain ⟨s, hs⟩ : ∃ s, Lib.compact s0 = s := ⟨_, rfl⟩
    have hle : s.length ≤ s0.length := by rw [← hs]; exact compact_le s0
    have HR := As.mk hr
    unfold mayTs at HR
    rw [hs0, hs] at HR
    have HS0 := As.mk hs0
    have HS := As.mk hs
    have HSL := As.mk hsl
    have hs01 : s0.length ≤ 1000000 := by omega
    have hs02 : s.length ≤ 1000000 := by omega
    have hs03 : 0 < s0.length := by omega
    have hnil : ∀ cc : Nat, (Value.slice none 0 0 : Value) ≠ .slice none s0.length cc := fun cc e => by injection e; omega
    clear hr hs0 hs hle hsl
    have hc := S.cells; simp only [Cells, cellsC, Im, Row, El, Im, Nat.zero_add, Nat.reduceAdd] at hc
    go_enter Tryz.func20, Tryz.ntmps20
    go_upto_region 2 with (first | ((first | (with_reducible refine wpl_seal S ?_) | (with_reducible refine cw_seal S ?_) | (with_reducible refine bp_seal S ?_) | (with_reducible refine ca_seal S ?_)); clear S; (try clear hc); intro w1 S; (try simp only [List.set_cons_zero, List.set_cons_succ, List.nil_append] at S); have hc := S.cells; simp only [Cells, cellsC, Im, Row, El, Im, Nat.zero_add, Nat.reduceAdd] at hc) | (go_at_call 23; refine (values_c A ts.length c _ _ S.bd).mono ?_; rintro e w1 ⟨g, rfl, hu⟩; obtain ⟨I1, S1, hI1⟩ := S.new hu; clear S hu hI1; (try clear hc); have S := S1; clear S1; have hc := S.cells; simp only [Cells, cellsC, Im, Row, El, Im, Nat.zero_add, Nat.reduceAdd] at hc; obtain ⟨J, S9, -⟩ := S.lit 0 rfl (k := kII) (xs := [ts]) (Flat.single ⟨A, c, rfl, hc0, S.im 1 rfl⟩); clear S hc; have S := S9; clear S9; simp only [List.set_cons_zero, List.set_cons_succ, List.nil_append] at S) | (go_at_call 22; refine (sorted_c ts g _ _ S.bd (S.im 0 rfl) hn).mono ?_; rw [HS0.out]; rintro e w1 ⟨v, rfl, hu⟩; obtain ⟨I1, S1, hI1⟩ := S.new hu; clear S hu hI1; (try clear hc); have S := S1; clear S1; have hc := S.cells; simp only [Cells, cellsC, Im, Row, El, Im, Nat.zero_add, Nat.reduceAdd] at hc; obtain ⟨gs, cs, ev, hcs⟩ := (S.own 0 rfl).made hs03; subst ev) | (go_at_call 49; refine (compact_r S 0 rfl hs01 hcs).mono ?_; rw [HS.out]; clear S hc; rintro e w1 ⟨rfl, S⟩; simp only [List.set_cons_zero, List.set_cons_succ, List.nil_append] at S; have hc := S.cells; simp only [Cells, cellsC, Im, Row, El, Im, Nat.zero_add, Nat.reduceAdd] at hc))
    by_cases h1 : 0 < s.length
    · have h1' : decide (0 < s.length) = true := decide_eq_true h1
      obtain ⟨Ar, cr, er, -, hsr⟩ := S.row 0 rfl
      cases er
      obtain ⟨f, hf⟩ : ∃ f, s[0]? = some f := ⟨_, List.getElem?_eq_getElem h1⟩
      obtain ⟨l, hl⟩ : ∃ l, s[s.length - 1]? = some l := ⟨_, List.getElem?_eq_getElem (by omega)⟩
      obtain ⟨b', o', e', hcf⟩ := hsr.num_at hf
      cases e'
      obtain ⟨b', o', e', hcl⟩ := hsr.num_at hl
      cases e'
      have HF : As (s.headD 0 = f) := ⟨by rw [List.headD_eq_head?_getD, List.head?_eq_getElem?, hf]; rfl⟩
      have HL : As (s.getLastD 0 = l) := ⟨by rw [List.getLastD_eq_getLast?, List.getLast?_eq_getElem?, hl]; rfl⟩
      have hix : ((s.length : Int) - 1).toNat = s.length - 1 := by omega
      clear hf hl h0 hnil
      by_cases h2 : s.length = ts.length
      · have h2' : ((s.length : Int) == ts.length) = true := by rw [beq_iff_eq]; omega
        have HR2 : As (((decide (0 ≤ f) && decide (f < 8)) && (decide (0 ≤ l) && decide (l < 8))) = r) := ⟨by rw [← HR.out]; rw [HF.out, HL.out, decide_eq_true h1, decide_eq_true h2]; rfl⟩
        obtain ⟨q1, hq1⟩ : ∃ q, (decide (0 ≤ f) && decide (f < 8)) = q := ⟨_, rfl⟩
        obtain ⟨q2, hq2⟩ : ∃ q, (decide (0 ≤ l) && decide (l < 8)) = q := ⟨_, rfl⟩
        have M1 := As.mk (mayT_c f)
        have M2 := As.mk (mayT_c l)
        rw [hq1, hq2] at HR2
        rw [hq1] at M1
        rw [hq2] at M2
        clear hq1 hq2 HR h2
        rw [Nat.zero_add] at hcl
        have hm1 : True := trivial
        rcases q1 with _ | _
        · go_wp2_with (first | ((first | (with_reducible refine wpl_seal S ?_) | (with_reducible refine cw_seal S ?_) | (with_reducible refine bp_seal S ?_) | (with_reducible refine ca_seal S ?_)); clear S; (try clear hc); intro w1 S; (try simp only [List.set_cons_zero, List.set_cons_succ, List.nil_append] at S); have hc := S.cells; simp only [Cells, cellsC, Im, Row, El, Im, Nat.zero_add, Nat.reduceAdd] at hc) | (go_at_call 50; clear hm1; refine (M1.out _).mono ?_; rintro e w1 ⟨rfl, rfl⟩))
          go_ret
          exact ⟨by rw [← HR2.out]; rfl, S.out⟩
        · go_wp2_with (first | ((first | (with_reducible refine wpl_seal S ?_) | (with_reducible refine cw_seal S ?_) | (with_reducible refine bp_seal S ?_) | (with_reducible refine ca_seal S ?_)); clear S; (try clear hc); intro w1 S; (try simp only [List.set_cons_zero, List.set_cons_succ, List.nil_append] at S); have hc := S.cells; simp only [Cells, cellsC, Im, Row, El, Im, Nat.zero_add, Nat.reduceAdd] at hc) | (go_at_call 50; clear hm1; refine (M1.out _).mono ?_; rintro e w1 ⟨rfl, rfl⟩) | (go_at_call 50; refine (M2.out _).mono ?_; rintro e w1 ⟨rfl, rfl⟩))
          go_ret
          exact ⟨by rw [← HR2.out]; rfl, S.out⟩
      · have h2' : ((s.length : Int) == ts.length) = false := by rw [beq_eq_false_iff_ne]; omega
        have HR2 : As (false = r) := ⟨by rw [← HR.out]; rw [decide_eq_true h1, decide_eq_false h2]; rfl⟩
        clear HR
        go_wp2_with (first | ((first | (with_reducible refine wpl_seal S ?_) | (with_reducible refine cw_seal S ?_) | (with_reducible refine bp_seal S ?_) | (with_reducible refine ca_seal S ?_)); clear S; (try clear hc); intro w1 S; (try simp only [List.set_cons_zero, List.set_cons_succ, List.nil_append] at S); have hc := S.cells; simp only [Cells, cellsC, Im, Row, El, Im, Nat.zero_add, Nat.reduceAdd] at hc))
        go_ret
        exact ⟨by rw [← HR2.out]; rfl, S.out⟩
    · have h1' : decide (0 < s.length) = false := decide_eq_false h1
      have HR2 : As (false = r) := ⟨by rw [← HR.out]; rw [decide_eq_false h1]; rfl⟩
      clear HR
      go_wp2_with (first | ((first | (with_reducible refine wpl_seal S ?_) | (with_reducible refine cw_seal S ?_) | (with_reducible refine bp_seal S ?_) | (with_reducible refine ca_seal S ?_)); clear S; (try clear hc); intro w1 S; (try simp only [List.set_cons_zero, List.set_cons_succ, List.nil_append] at S); have hc := S.cells; simp only [Cells, cellsC, Im, Row, El, Im, Nat.zero_add, Nat.reduceAdd] at hc))
      go_ret
      exact ⟨by rw [← HR2.out]; rfl, S.out⟩
end Go.Proofs.YtnmlonicfncpfaaGreat
