/- A row of numbers handed on, one by one, and gathered. -/
import Derived.Test.YtnmlonicfncpfaaRF
import Derived.Test.YtnmlonicfncpfaaDKd
import Derived.Shelf.Abstract
namespace Go.Proofs.Ytnmlonicfncpfaa
open Go.RowKit Go.Shelf X
set_option maxHeartbeats 4000000
set_option maxRecDepth 8000
set_option linter.unusedSimpArgs false
set_option linter.unusedVariables false
attribute [local go_sem] Oper.semAt_some
abbrev kII : Kd (List Int) := Kd.sl 22 kI
def VS (W : World) (g : Nat) (A : Option Addr) (c : Nat) (xs : List Int) : Prop := W.cell? ⟨g, 0, none⟩ = some (.slice A xs.length c) ∧ Sl kI W Any A xs
theorem VS.ext {W W' : World} {g : Nat} {A : Option Addr} {c : Nat} {xs : List Int} (h : VS W g A c xs) (hx : Ext W W') : VS W' g A c xs := ⟨hx.cell h.1, h.2.below hx⟩
theorem valclo_c (g : Nat) (A : Option Addr) (c : Nat) (xs : List Int) (hn : xs.length ≤ 1000000) :
    Gives Try.prog 41 #[.pointer (some ⟨g, 0, none⟩)] (fun x : Int => #[.int .i64 x]) Ext (fun _ W' => VS W' g A c xs) (fun W => VS W g A c xs) xs := by
  intro lo J Jx hJ hJx hY w hw hJ0
  have HY := As.mk hY
  have HJ := As.mk hJ
  have HJX := As.mk hJx
  have HW := As.mk hw
  have HJ0 := As.mk hJ0
  have hcg := hw.1
  clear hY hJ hJx hJ0 hw
  refine callsIn_of_wp Try.func41 rfl trivial ?_ rfl; simp only [Try.ntmps41, List.size_toArray, List.length_cons, List.length_nil, Nat.reduceAdd, Nat.reduceSub, Array.replicate_succ, Array.replicate_zero, List.push_toArray, List.append_toArray, List.nil_append, List.cons_append]
  gi_wp2_with fail
  gi_loopw [7] (fun i w' => ∃ (k : Nat), k ≤ xs.length ∧ i = .int .i64 k ∧ As (VS w' g A c xs) ∧ As (J (xs.take k) w')) (fun i _ => xs.length - (intOf i).toNat)
  case atStart => exact ⟨0, Nat.zero_le _, rfl, HW, HJ0⟩
  case round =>
    clear HW HJ0 hcg
    obtain ⟨k, hk, rfl, HW, HJ0⟩ := hrel
    by_cases hlt : k < xs.length
    · have hlt' : decide ((k : Int) < xs.length) = true := by simp; omega
      obtain ⟨b, o, rfl, g0⟩ := HW.out.2.num_at (List.getElem?_eq_getElem hlt)
      have HT := As.mk (List.take_succ_eq_append_getElem hlt)
      have HPR : As ((xs.take k ++ [xs[k]]) <+: xs) := ⟨by rw [← List.take_succ_eq_append_getElem hlt]; exact List.take_prefix _ _⟩
      generalize xs[k] = x at g0 HT HPR
      have S := SH.start wr No (fun _ h => h.elim)
      have hc := S.cells; simp only [Cells, cellsC, Im, Row, El, Rec, Nat.zero_add, Nat.reduceAdd] at hc
      gi_wp2_with (first | ((first | (with_reducible refine wlI_seal S ?_) | (with_reducible refine cwI_seal S ?_) | (with_reducible refine bpM_seal S ?_) | (with_reducible refine bp_seal S ?_) | (with_reducible refine caI_seal S ?_)); clear S; (try clear hc); intro w1 S; (try simp only [List.set_cons_zero, List.set_cons_succ, List.nil_append] at S); have hc := S.cells; simp only [Cells, cellsC, Im, Row, El, Rec, Nat.zero_add, Nat.reduceAdd] at hc))
      have HW1 := As.mk (HW.out.ext S.out)
      obtain ⟨fn, tmps, assign, body, hy, hR⟩ := HY.out _ x _ HPR.out (HJ.out _ _ _ HJ0.out S.out)
      rw [hy]
      clear hy
      gi_wp2_with fail
      refine hR.mono ?_
      clear hR S hc g0
      rintro e1 W3 (⟨rfl, hJ3, hi3⟩ | ⟨rfl, hJx3⟩)
      · have HI3 := As.mk hi3
        have HJ3 := As.mk hJ3
        clear hi3 hJ3
        gi_wp2_with fail
        go_roundw
        case rel => exact ⟨k + 1, by omega, by go_num, HI3, ⟨by rw [HT.out]; exact HJ3.out⟩⟩
        case measure => simp [intOf] <;> omega
      · have HJ3 := As.mk hJx3
        clear hJx3
        gi_wp2_with fail
        refine bodyPost_ret (results_none rfl _ _ _) rfl ?_
        exact ⟨⟨_, rfl⟩, .inr ⟨_, HPR.out, HJ3.out⟩⟩
    · have hlt' : decide ((k : Int) < xs.length) = false := by simp; omega
      obtain rfl : k = xs.length := by omega
      rw [List.take_length] at HJ0
      gi_wp2_with fail
      go_end0
      exact ⟨⟨_, rfl⟩, .inl HJ0.out⟩
theorem values_c (A : Option Addr) (n c : Nat) (w : World) (I : Fp) (hI : ∀ b, I b → b < w.heap.size) :
    Calls Try.prog 24 #[.slice A n c] w fun e w' => ∃ g, e = .returned (.func (.func 41) #[] #[.pointer (some ⟨g, 0, none⟩)]) ∧ Upd w No I w' (Cel g 22 [.slice A n c]) := by
  have S := SH.start w I hI
  have hc := S.cells; simp only [Cells, cellsC, Im, Row, El, Rec, Nat.zero_add, Nat.reduceAdd] at hc
  go_enter Try.func24, Try.ntmps24
  go_wp2_with (first | ((first | (with_reducible refine wpl_seal S ?_) | (with_reducible refine cw_seal S ?_) | (with_reducible refine bp_seal S ?_) | (with_reducible refine ca_seal S ?_)); clear S; (try clear hc); intro w1 S; (try simp only [List.set_cons_zero, List.set_cons_succ, List.nil_append] at S); have hc := S.cells; simp only [Cells, cellsC, Im, Row, El, Rec, Nat.zero_add, Nat.reduceAdd] at hc))
  obtain ⟨g, eg⟩ := S.name 0 rfl; rw [← eg] at S ⊢; clear eg
  go_ret
  exact ⟨g, rfl, S.ret 0 rfl⟩
theorem appendSeq_c (xs : List Int) (g : Nat) (w : World) (I : Fp) (hI : ∀ b, I b → b < w.heap.size) (hg : Sl kII w I (some ⟨g, 0, none⟩) [xs]) (hn : xs.length ≤ 1000000) :
    Calls Try.prog 56 #[.slice none 0 0, .func (.func 41) #[] #[.pointer (some ⟨g, 0, none⟩)]] w fun e w' => ∃ v, e = .returned v ∧ Upd w No I w' (Row kI v xs) := by
  obtain ⟨b, o, A, c, e, hcg, hlc, hsl⟩ := hg.sl_at (i := 0) (by simp)
  cases e
  replace hcg : w.cell? ⟨g, 0, none⟩ = some (.slice A xs.length c) := hcg
  replace hsl : Sl kI w I A xs := hsl
  have S := ((SH.start w I hI).know (h := Im kI A xs) hsl).nilrow (k := kI)
  have HV : As (VS w g A c xs) := ⟨hcg, hsl.any⟩
  have qf : ∀ w, (binOp BinOp.eql 68 (.func (.func 41) #[] #[.pointer (some ⟨g, 0, none⟩)]) .nilFunc).run Try.prog w = .ok (.bool false) w := fun _ => by kernel_rfl
  have hc := S.cells; simp only [Cells, cellsC, Im, Row, El, Rec, Nat.zero_add, Nat.reduceAdd] at hc
  refine (callsIn_wide (n := 9)).1 (callsIn_of_wp_marks Try.func56 rfl trivial (wpIn_wide.2 ?_)); simp only [Try.ntmps56, List.size_toArray, List.length_cons, List.length_nil, Nat.reduceAdd, Nat.reduceSub, Array.replicate_succ, Array.replicate_zero, List.push_toArray, List.append_toArray, List.nil_append, List.cons_append]
  go_wp2_with (first | ((first | (with_reducible refine wpl_seal S ?_) | (with_reducible refine cw_seal S ?_) | (with_reducible refine bp_seal S ?_) | (with_reducible refine ca_seal S ?_)); clear S; (try clear hc); intro w1 S; (try simp only [List.set_cons_zero, List.set_cons_succ, List.nil_append] at S); have hc := S.cells; simp only [Cells, cellsC, Im, Row, El, Rec, Nat.zero_add, Nat.reduceAdd] at hc))
  obtain ⟨gb, egb⟩ := S.name 0 rfl; rw [← egb] at S ⊢; clear egb
  refine (wpIn_wide (n := 9)).1 ?_
  refine S.range (gf := 41) (lb := #[.pointer (some ⟨g, 0, none⟩)]) rfl (enters_of Try.func41 (by kernel_rfl) rfl) (valclo_c g A c xs hn) (fun _ => rfl)
    (fun pre L' I' => ∃ (v : Value), L' = [Cel gb 22 [v], Row kI v pre, Im kI A xs]) (fun _ _ _ => False) ⟨_, rfl⟩ ?st ?own ?ownx ?round ?done ?stop
  case st => exact fun W4 o1 o2 _ S4 => HV.out.ext S4.out
  case own =>
    rintro pre L' I' X Y o1 o2 ⟨v, rfl⟩ s he
    exact ⟨_, _, ⟨v, rfl⟩, s.ext he⟩
  case ownx => exact fun _ _ _ _ _ _ _ h => h.elim
  case stop => exact fun _ _ _ _ _ h => h.elim
  case done =>
    rintro D L' I' W5 ⟨v, rfl⟩ S
    dsimp only
    have hc := S.cells; simp only [Cells, cellsC, Im, Row, El, Rec, Nat.zero_add, Nat.reduceAdd] at hc
    go_wp2_with (first | ((first | (with_reducible refine wpl_seal S ?_) | (with_reducible refine cw_seal S ?_) | (with_reducible refine bpM_seal S ?_) | (with_reducible refine bp_seal S ?_) | (with_reducible refine ca_seal S ?_)); clear S; (try clear hc); intro w1 S; (try simp only [List.set_cons_zero, List.set_cons_succ, List.nil_append] at S); have hc := S.cells; simp only [Cells, cellsC, Im, Row, El, Rec, Nat.zero_add, Nat.reduceAdd] at hc))
    refine ⟨by simp, .inl ⟨_, _, rfl, run_takeDeferred (S.recd 0 rfl), ?_⟩⟩
    have S5 := S.putRec 0 rfl (.deferred none)
    exact ⟨_, results_tmp rfl _ _ _, _, rfl, S5.ret 2 rfl⟩
  case round =>
    rintro lo D r1 r2 pre x L' I' W5 hpre ⟨v, rfl⟩ S
    have hpl : pre.length ≤ 1000000 := by
      obtain ⟨rest, hpr⟩ := hpre
      have := congrArg List.length hpr
      simp only [List.length_append, List.length_cons, List.length_nil] at this
      omega
    clear hpre
    have hc := S.cells; simp only [Cells, cellsC, Im, Row, El, Rec, Nat.zero_add, Nat.reduceAdd] at hc
    simp only [List.zip_toArray, List.foldl_toArray', List.foldl_cons, List.foldl_nil, List.zip_cons_cons, List.zip_nil_left, List.setIfInBounds_toArray, List.set_cons_succ, List.set_cons_zero]
    gi_wp2_with (first | ((first | (with_reducible refine wlI_seal S ?_) | (with_reducible refine cwI_seal S ?_) | (with_reducible refine bpM_seal S ?_) | (with_reducible refine bp_seal S ?_) | (with_reducible refine caI_seal S ?_)); clear S; (try clear hc); intro w1 S; (try simp only [List.set_cons_zero, List.set_cons_succ, List.nil_append] at S); have hc := S.cells; simp only [Cells, cellsC, Im, Row, El, Rec, Nat.zero_add, Nat.reduceAdd] at hc))
    refine ⟨[Cel gb 22 [v], Row kI v pre, Im kI A xs], I', S, ?_⟩
    clear S
    intro W6 _ S
    have hc := S.cells; simp only [Cells, cellsC, Im, Row, El, Rec, Nat.zero_add, Nat.reduceAdd] at hc
    gi_wp2_with (first | ((first | (with_reducible refine wlI_seal S ?_) | (with_reducible refine cwI_seal S ?_) | (with_reducible refine bpM_seal S ?_) | (with_reducible refine bp_seal S ?_) | (with_reducible refine caI_seal S ?_)); clear S; (try clear hc); intro w1 S; (try simp only [List.set_cons_zero, List.set_cons_succ, List.nil_append] at S); have hc := S.cells; simp only [Cells, cellsC, Im, Row, El, Rec, Nat.zero_add, Nat.reduceAdd] at hc) | (gi_at_builtin; refine wlI_push S 4 rfl rfl _ _ rfl ty_ints rfl x _ _ rfl [_] _ (S.cel 0 rfl) rfl (by (try simp only [maxLen, List.length_nil, List.length_append, List.length_cons]); omega) (by (try simp only [maxLen, List.length_nil, List.length_append, List.length_cons]); omega) ?_; clear S; (try clear hc); intro va w1 S; simp only [List.set_cons_zero, List.set_cons_succ, List.nil_append] at S; obtain ⟨Av, cv, eva, -, -⟩ := S.row 4 rfl; subst eva; have hc := S.cells; simp only [Cells, cellsC, Im, Row, El, Rec, Nat.zero_add, Nat.reduceAdd] at hc))
    rw [show (pre ++ [x]).length = pre.length + 1 by simp] at S
    have S3 := S.put 3 0 (.slice Av (pre.length + 1) cv) rfl
    refine ⟨_, I', ⟨_, rfl⟩, S3.sel [1, 2, 3, 4, 5] (by decide) rfl (by simp), ?_⟩
    rintro W7 L7 I7 ⟨v7, rfl⟩ - S7
    exact HV.out.ext S7.out
end Go.Proofs.Ytnmlonicfncpfaa
