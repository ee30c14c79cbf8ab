/- Numbers in their row, each once; whether turns may be. -/
import Derived.Test.YtnmlonicfncpfaaDSeq
import Derived.Test.YtnmlonicfncpfaaDTrn
import Derived.Test.YtnmlonicfncpfaaShelf
import Derived.Sort.OwnSortedInts
import Derived.Lib.OwnBridge
import Derived.Deep.DeepCutAuto
namespace Go.Proofs.Ytnmlonicfncpfaa
open Go.RowKit X Go.Sort
set_option maxHeartbeats 2000000
set_option maxRecDepth 8000
set_option linter.unusedSimpArgs false
set_option linter.unusedVariables false
section
variable {F0 I0 I : Fp} {w0 w : World} {O : List Ob}
def sortI (xs : List Int) : List Int := xs.mergeSort fun x y => decide (x ≤ y)
theorem sortI_perm (xs : List Int) : (sortI xs).Perm xs := List.mergeSort_perm _ _
theorem sortI_len (xs : List Int) : (sortI xs).length = xs.length := List.length_mergeSort _
theorem sortI_srt (xs : List Int) : (sortI xs).Pairwise (· ≤ ·) := by
  have := List.pairwise_mergeSort (le := fun x y : Int => decide (x ≤ y)) (fun a b c h1 h2 => by simp only [decide_eq_true_eq] at *; omega) (fun a b => by simp only [Bool.or_eq_true, decide_eq_true_eq]; omega) xs
  exact this.imp fun h => by simpa using h
theorem sort_r {v : Value} {xs : List Int} (S : SH F0 I0 w0 O w I) (i : Nat) (e : O[i]? = some (Row kI v xs)) (hn : xs.length ≤ 1000000) :
    Calls Try.prog 40 #[v] w fun e w' => e = .returned (.tuple #[]) ∧ SH F0 I0 w0 (O.set i (Row kI v (sortI xs))) w' I := by
  obtain ⟨cells, ⟨ho, hnb⟩, hf⟩ := S.own i e
  rcases ho.2 with ⟨hv, h0⟩ | ⟨g, cap, cur, hv, hbase, hh, hle, hmax, hsize, htake⟩
  · have : xs = [] := List.eq_nil_of_length_eq_zero h0
    subst this
    subst hv
    refine (Try.slices_Sort_int_none none 0 w).mono ?_
    rintro e1 w' ⟨rfl, rfl⟩
    have hs : sortI [] = [] := List.eq_nil_of_length_eq_zero (by rw [sortI_len]; rfl)
    refine ⟨rfl, ?_⟩
    rw [hs]
    exact S.updI i e fun F hF hb => ⟨F, hF, fun k hk => ⟨(hb k hk).1, .inl hk⟩, Chg.refl _ _⟩
  · rw [Flat.int] at hf
    subst hv
    have hk1 : (kI).ety = 3 := rfl
    have htk : cur.toList.take xs.length = xs.map (Value.int .i64) := by
      rw [← hf]; exact (by simpa [kI, Kd.int] using htake)
    have hgl := lt_of_heap hh
    refine (Try.slices_Sort_int g 0 cap xs w (holds_of_blockI hh htk) hgl (by omega)).mono ?_
    rintro e1 w' ⟨rfl, n, os, rfl⟩
    refine ⟨rfl, ?_⟩
    refine S.updI i e fun F ⟨_, hF⟩ hb => ⟨F, ⟨?_, fun g' hg' => hF g' hg'⟩, fun k hk => ⟨Nat.lt_of_lt_of_le (hb k hk).1 (grownBy_sortedI (w := w) (g := g) (n := n) (os := os) _).size, .inl hk⟩, Chg.of_grown (grownBy_sortedI _) fun g' hg' => hF g' (by cases hg'; rfl)⟩
    have h2 := ownsRow_sortedI (n := n) (os := os) (ts := sortI xs) (ss := xs) (sortI_len xs) hbase hh hle hmax (by simpa [kI, Kd.int] using hsize)
    have h3 : (sortI xs).length = xs.length := sortI_len xs
    refine ⟨(sortI xs).map (Value.int .i64), ⟨?_, hnb⟩, Flat.int.2 rfl⟩
    rw [h3]
    exact h2
theorem grownBy_put {w : World} {g q : Nat} (d : Array Int) : w.grownBy (putRow (Value.int .i64) (Sort.ahead w q) g 0 d) (some g) := by
  refine ⟨rfl, rfl, rfl, by simp [putRow, mapBlock, Sort.ahead], fun k hk hne => ?_⟩
  have : g ≠ k := fun e => hne (by rw [e])
  simp [putRow, mapBlock, Sort.ahead, Array.getElem?_modify, this]
theorem compactUpTo_le (d : Array Int) : ∀ m, (Lib.compactUpTo d m).length ≤ m
  | 0 => by simp [Lib.compactUpTo]
  | m + 1 => by
    rw [Lib.compactUpTo_succ, List.length_append]
    have := compactUpTo_le d m
    split
    · simp only [List.length_cons, List.length_nil]; omega
    · simp only [List.length_nil]; omega
theorem compact_le (xs : List Int) : (Lib.compact xs).length ≤ xs.length := compactUpTo_le _ _
theorem X.Own.made {w : World} {B : Nat} {D : Fp} {α : Type} {k : Kd α} {v : Value} {xs : List α} (h : Own k w B D v xs) (h0 : 0 < xs.length) : ∃ g c, v = .slice (some ⟨g, 0, none⟩) xs.length c ∧ xs.length ≤ c := by
  obtain ⟨cells, ⟨ho, -⟩, -⟩ := h
  rcases ho.2 with ⟨_, h1⟩ | ⟨g, cap, cur, hv, -, -, hle, -⟩
  · omega
  · exact ⟨g, cap, hv, hle⟩
theorem compact_r {g c : Nat} {xs : List Int} (S : SH F0 I0 w0 O w I) (i : Nat) (e : O[i]? = some (Row kI (.slice (some ⟨g, 0, none⟩) xs.length c) xs)) (hn : xs.length ≤ 1000000) (hc : xs.length ≤ c) :
    Calls Try.prog 36 #[.slice (some ⟨g, 0, none⟩) xs.length c] w fun e w' => e = .returned (.slice (some ⟨g, 0, none⟩) (Lib.compact xs).length c) ∧ SH F0 I0 w0 (O.set i (Row kI (.slice (some ⟨g, 0, none⟩) (Lib.compact xs).length c) (Lib.compact xs))) w' I := by
  obtain ⟨cells, ⟨ho, hnb⟩, hf⟩ := S.own i e
  rw [Flat.int] at hf
  subst hf
  have hle := compact_le xs
  obtain ⟨g', cap, e1, hb, hg, h1, h2, h3, hH⟩ := Lib.holds_of_ownsRow ho (by simp)
  cases e1
  refine (Try.slices_Compact_int g 0 c xs w hH (by omega) hc).mono ?_
  rintro e1 w' ⟨rfl, q, rfl⟩
  refine ⟨rfl, S.updI i e fun F ⟨_, hF⟩ hbb => ⟨F, ⟨⟨_, ⟨?_, hnb⟩, Flat.int.2 rfl⟩, hF⟩, fun k hk => ⟨?_, .inl hk⟩, ?_⟩⟩
  · have := Lib.ownsRow_putRow (q := q) (k := (Lib.compact xs).length) (ys := Lib.compact xs ++ List.replicate (xs.length - (Lib.compact xs).length) 0) ho (by simp; omega) hle
    rwa [List.take_left'] at this
    rfl
  · exact Nat.lt_of_lt_of_le (hbb k hk).1 (grownBy_put (w := w) (g := g) (q := q) _).size
  · exact Chg.of_grown (grownBy_put _) fun g' hg' => hF g' (by cases hg'; rfl)
end
/-- whether turns may be -/
def mayTs (ts : List Int) : Bool := let s := Lib.compact (sortI ts); decide (0 < s.length) && decide (s.length = ts.length) && (decide (0 ≤ s.headD 0) && decide (s.headD 0 < 8)) && (decide (0 ≤ s.getLastD 0) && decide (s.getLastD 0 < 8))
theorem collect_c (xs : List Int) (g : Nat) (w : World) (I : Fp) (hI : ∀ b, I b → b < w.heap.size) (hg : Sl kII w I (some ⟨g, 0, none⟩) [xs]) (hn : xs.length ≤ 1000000) :
    Calls Try.prog 39 #[.func (.func 41) #[] #[.pointer (some ⟨g, 0, none⟩)]] w fun e w' => ∃ v, e = .returned v ∧ Upd w No I w' (Row kI v xs) := by
  have HG := As.mk hg
  clear hg
  go_enter Try.func39, Try.ntmps39
  go_wp2_with (go_at_call 56; refine (appendSeq_c xs g w I hI HG.out hn).mono ?_; rintro e w1 ⟨v, rfl, hu⟩; have HU := As.mk hu; clear hu)
  go_ret
  exact ⟨_, rfl, HU.out⟩
theorem sorted_c (xs : List Int) (g : Nat) (w : World) (I : Fp) (hI : ∀ b, I b → b < w.heap.size) (hg : Sl kII w I (some ⟨g, 0, none⟩) [xs]) (hn : xs.length ≤ 1000000) :
    Calls Try.prog 23 #[.func (.func 41) #[] #[.pointer (some ⟨g, 0, none⟩)]] w fun e w' => ∃ v, e = .returned v ∧ Upd w No I w' (Row kI v (sortI xs)) := by
  have S := SH.start w I hI
  have HG := As.mk hg
  clear hg
  have hc := S.cells; simp only [Cells, cellsC, Im, Row, El, Nat.zero_add, Nat.reduceAdd] at hc
  go_enter Try.func23, Try.ntmps23
  go_wp2_with (first | ((first | (with_reducible refine wpl_seal S ?_) | (with_reducible refine cw_seal S ?_) | (with_reducible refine bp_seal S ?_) | (with_reducible refine ca_seal S ?_)); clear S; (try clear hc); intro w1 S; (try simp only [List.set_cons_zero, List.set_cons_succ, List.nil_append] at S); have hc := S.cells; simp only [Cells, cellsC, Im, Row, El, Nat.zero_add, Nat.reduceAdd] at hc) | (go_at_call 39; refine (collect_c xs g _ _ S.bd HG.out hn).mono ?_; rintro e w1 ⟨v, rfl, hu⟩; obtain ⟨I1, S1, hI1⟩ := S.new hu; clear S hu hI1; (try clear hc); have S := S1; clear S1; have hc := S.cells; simp only [Cells, cellsC, Im, Row, El, Nat.zero_add, Nat.reduceAdd] at hc) | (go_at_call 40; refine (sort_r S 0 rfl hn).mono ?_; clear S hc; rintro e w1 ⟨rfl, S⟩; simp only [List.set_cons_zero, List.set_cons_succ, List.nil_append] at S; have hc := S.cells; simp only [Cells, cellsC, Im, Row, El, Nat.zero_add, Nat.reduceAdd] at hc))
  go_ret
  exact ⟨_, rfl, S.ret 0 rfl⟩
theorem may_c (ts : List Int) (A : Option Addr) (c : Nat) (w : World) (I : Fp) (hI : ∀ b, I b → b < w.heap.size) (hx : Sl kI w I A ts) (hc0 : ts.length ≤ c) (hn : ts.length ≤ 1000000) {r : Bool} (hr : mayTs ts = r) :
    Calls Try.prog 21 #[.slice A ts.length c] w fun e w' => e = .returned (.bool r) ∧ Ext w w' := by
  have S := (SH.start w I hI).know (h := Im kI A ts) hx
  clear hx
  by_cases h0 : ts.length = 0
  · have e0 : ts = [] := List.eq_nil_of_length_eq_zero h0
    subst e0
    have hs0 : sortI [] = [] := List.eq_nil_of_length_eq_zero (by rw [sortI_len]; rfl)
    have HR : As (r = false) := ⟨by rw [← hr]; unfold mayTs; rw [hs0]; rfl⟩
    rw [HR.out]
    clear hr HR h0
    have HS := As.mk hs0
    have hc := S.cells; simp only [Cells, cellsC, Im, Row, El, Nat.zero_add, Nat.reduceAdd] at hc
    go_enter Try.func21, Try.ntmps21
    go_wp2_with (first | ((first | (with_reducible refine wpl_seal S ?_) | (with_reducible refine cw_seal S ?_) | (with_reducible refine bp_seal S ?_) | (with_reducible refine ca_seal S ?_)); clear S; (try clear hc); intro w1 S; (try simp only [List.set_cons_zero, List.set_cons_succ, List.nil_append] at S); have hc := S.cells; simp only [Cells, cellsC, Im, Row, El, Nat.zero_add, Nat.reduceAdd] at hc) | (go_at_call 24; refine (values_c A 0 c _ _ S.bd).mono ?_; rintro e w1 ⟨g, rfl, hu⟩; obtain ⟨I1, S1, hI1⟩ := S.new hu; clear S hu hI1; (try clear hc); have S := S1; clear S1; have hc := S.cells; simp only [Cells, cellsC, Im, Row, El, Nat.zero_add, Nat.reduceAdd] at hc; obtain ⟨J, S9, -⟩ := S.lit 0 rfl (k := kII) (xs := [[]]) (Flat.single ⟨A, c, rfl, hc0, S.im 1 rfl⟩); clear S hc; have S := S9; clear S9; simp only [List.set_cons_zero, List.set_cons_succ, List.nil_append] at S) | (go_at_call 23; refine (sorted_c [] g _ _ S.bd (S.im 0 rfl) hn).mono ?_; rw [HS.out]; rintro e w1 ⟨v, rfl, hu⟩; obtain ⟨I1, S1, hI1⟩ := S.new hu; clear S hu hI1; (try clear hc); have S := S1; clear S1; have hc := S.cells; simp only [Cells, cellsC, Im, Row, El, Nat.zero_add, Nat.reduceAdd] at hc; obtain ⟨Av, cv, ev, -, -⟩ := S.row 0 rfl; subst ev) | (go_at_call 36; refine (Try.slices_Compact_int_empty _ _ _).mono ?_; rintro e w1 ⟨rfl, rfl⟩))
    go_ret
    exact ⟨rfl, S.out⟩
  · obtain ⟨s0, hs0⟩ : ∃ s0, sortI ts = s0 := ⟨_, rfl⟩
    have hsl : s0.length = ts.length := by rw [← hs0, sortI_len]
    obtain ⟨s, hs⟩ : ∃ s, Lib.compact s0 = s := ⟨_, rfl⟩
    have hle : s.length ≤ s0.length := by rw [← hs]; exact compact_le s0
    have HR := As.mk hr
    unfold mayTs at HR
    rw [hs0, hs] at HR
    have HS0 := As.mk hs0
    have HS := As.mk hs
    have HSL := As.mk hsl
    have hs01 : s0.length ≤ 1000000 := by omega
    have hs02 : s.length ≤ 1000000 := by omega
    have hs03 : 0 < s0.length := by omega
    have hnil : ∀ cc : Nat, (Value.slice none 0 0 : Value) ≠ .slice none s0.length cc := fun cc e => by injection e; omega
    clear hr hs0 hs hle hsl
    have hc := S.cells; simp only [Cells, cellsC, Im, Row, El, Nat.zero_add, Nat.reduceAdd] at hc
    go_enter Try.func21, Try.ntmps21
    go_upto_region 2 with (first | ((first | (with_reducible refine wpl_seal S ?_) | (with_reducible refine cw_seal S ?_) | (with_reducible refine bp_seal S ?_) | (with_reducible refine ca_seal S ?_)); clear S; (try clear hc); intro w1 S; (try simp only [List.set_cons_zero, List.set_cons_succ, List.nil_append] at S); have hc := S.cells; simp only [Cells, cellsC, Im, Row, El, Nat.zero_add, Nat.reduceAdd] at hc) | (go_at_call 24; refine (values_c A ts.length c _ _ S.bd).mono ?_; rintro e w1 ⟨g, rfl, hu⟩; obtain ⟨I1, S1, hI1⟩ := S.new hu; clear S hu hI1; (try clear hc); have S := S1; clear S1; have hc := S.cells; simp only [Cells, cellsC, Im, Row, El, Nat.zero_add, Nat.reduceAdd] at hc; obtain ⟨J, S9, -⟩ := S.lit 0 rfl (k := kII) (xs := [ts]) (Flat.single ⟨A, c, rfl, hc0, S.im 1 rfl⟩); clear S hc; have S := S9; clear S9; simp only [List.set_cons_zero, List.set_cons_succ, List.nil_append] at S) | (go_at_call 23; refine (sorted_c ts g _ _ S.bd (S.im 0 rfl) hn).mono ?_; rw [HS0.out]; rintro e w1 ⟨v, rfl, hu⟩; obtain ⟨I1, S1, hI1⟩ := S.new hu; clear S hu hI1; (try clear hc); have S := S1; clear S1; have hc := S.cells; simp only [Cells, cellsC, Im, Row, El, Nat.zero_add, Nat.reduceAdd] at hc; obtain ⟨gs, cs, ev, hcs⟩ := (S.own 0 rfl).made hs03; subst ev) | (go_at_call 36; refine (compact_r S 0 rfl hs01 hcs).mono ?_; rw [HS.out]; clear S hc; rintro e w1 ⟨rfl, S⟩; simp only [List.set_cons_zero, List.set_cons_succ, List.nil_append] at S; have hc := S.cells; simp only [Cells, cellsC, Im, Row, El, Nat.zero_add, Nat.reduceAdd] at hc))
    by_cases h1 : 0 < s.length
    · have h1' : decide (0 < s.length) = true := decide_eq_true h1
      obtain ⟨Ar, cr, er, -, hsr⟩ := S.row 0 rfl
      cases er
      obtain ⟨f, hf⟩ : ∃ f, s[0]? = some f := ⟨_, List.getElem?_eq_getElem h1⟩
      obtain ⟨l, hl⟩ : ∃ l, s[s.length - 1]? = some l := ⟨_, List.getElem?_eq_getElem (by omega)⟩
      obtain ⟨b', o', e', hcf⟩ := hsr.num_at hf
      cases e'
      obtain ⟨b', o', e', hcl⟩ := hsr.num_at hl
      cases e'
      have HF : As (s.headD 0 = f) := ⟨by rw [List.headD_eq_head?_getD, List.head?_eq_getElem?, hf]; rfl⟩
      have HL : As (s.getLastD 0 = l) := ⟨by rw [List.getLastD_eq_getLast?, List.getLast?_eq_getElem?, hl]; rfl⟩
      have hix : ((s.length : Int) - 1).toNat = s.length - 1 := by omega
      clear hf hl h0 hnil
      by_cases h2 : s.length = ts.length
      · have h2' : ((s.length : Int) == ts.length) = true := by rw [beq_iff_eq]; omega
        have HR2 : As (((decide (0 ≤ f) && decide (f < 8)) && (decide (0 ≤ l) && decide (l < 8))) = r) := ⟨by rw [← HR.out]; rw [HF.out, HL.out, decide_eq_true h1, decide_eq_true h2]; rfl⟩
        obtain ⟨q1, hq1⟩ : ∃ q, (decide (0 ≤ f) && decide (f < 8)) = q := ⟨_, rfl⟩
        obtain ⟨q2, hq2⟩ : ∃ q, (decide (0 ≤ l) && decide (l < 8)) = q := ⟨_, rfl⟩
        have M1 := As.mk (mayT_c f)
        have M2 := As.mk (mayT_c l)
        rw [hq1, hq2] at HR2
        rw [hq1] at M1
        rw [hq2] at M2
        clear hq1 hq2 HR h2
        rw [Nat.zero_add] at hcl
        have hm1 : True := trivial
        rcases q1 with _ | _
        · go_wp2_with (first | ((first | (with_reducible refine wpl_seal S ?_) | (with_reducible refine cw_seal S ?_) | (with_reducible refine bp_seal S ?_) | (with_reducible refine ca_seal S ?_)); clear S; (try clear hc); intro w1 S; (try simp only [List.set_cons_zero, List.set_cons_succ, List.nil_append] at S); have hc := S.cells; simp only [Cells, cellsC, Im, Row, El, Nat.zero_add, Nat.reduceAdd] at hc) | (go_at_call 37; clear hm1; refine (M1.out _).mono ?_; rintro e w1 ⟨rfl, rfl⟩))
          go_ret
          exact ⟨by rw [← HR2.out]; rfl, S.out⟩
        · go_wp2_with (first | ((first | (with_reducible refine wpl_seal S ?_) | (with_reducible refine cw_seal S ?_) | (with_reducible refine bp_seal S ?_) | (with_reducible refine ca_seal S ?_)); clear S; (try clear hc); intro w1 S; (try simp only [List.set_cons_zero, List.set_cons_succ, List.nil_append] at S); have hc := S.cells; simp only [Cells, cellsC, Im, Row, El, Nat.zero_add, Nat.reduceAdd] at hc) | (go_at_call 37; clear hm1; refine (M1.out _).mono ?_; rintro e w1 ⟨rfl, rfl⟩) | (go_at_call 37; refine (M2.out _).mono ?_; rintro e w1 ⟨rfl, rfl⟩))
          go_ret
          exact ⟨by rw [← HR2.out]; rfl, S.out⟩
      · have h2' : ((s.length : Int) == ts.length) = false := by rw [beq_eq_false_iff_ne]; omega
        have HR2 : As (false = r) := ⟨by rw [← HR.out]; rw [decide_eq_true h1, decide_eq_false h2]; rfl⟩
        clear HR
        go_wp2_with (first | ((first | (with_reducible refine wpl_seal S ?_) | (with_reducible refine cw_seal S ?_) | (with_reducible refine bp_seal S ?_) | (with_reducible refine ca_seal S ?_)); clear S; (try clear hc); intro w1 S; (try simp only [List.set_cons_zero, List.set_cons_succ, List.nil_append] at S); have hc := S.cells; simp only [Cells, cellsC, Im, Row, El, Nat.zero_add, Nat.reduceAdd] at hc))
        go_ret
        exact ⟨by rw [← HR2.out]; rfl, S.out⟩
    · have h1' : decide (0 < s.length) = false := decide_eq_false h1
      have HR2 : As (false = r) := ⟨by rw [← HR.out]; rw [decide_eq_false h1]; rfl⟩
      clear HR
      go_wp2_with (first | ((first | (with_reducible refine wpl_seal S ?_) | (with_reducible refine cw_seal S ?_) | (with_reducible refine bp_seal S ?_) | (with_reducible refine ca_seal S ?_)); clear S; (try clear hc); intro w1 S; (try simp only [List.set_cons_zero, List.set_cons_succ, List.nil_append] at S); have hc := S.cells; simp only [Cells, cellsC, Im, Row, El, Nat.zero_add, Nat.reduceAdd] at hc))
      go_ret
      exact ⟨by rw [← HR2.out]; rfl, S.out⟩
end Go.Proofs.Ytnmlonicfncpfaa
