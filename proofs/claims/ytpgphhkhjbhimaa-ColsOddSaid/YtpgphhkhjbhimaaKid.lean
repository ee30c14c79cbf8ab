/- The numbers of a node's children. -/
import Derived.Test.YtpgphhkhjbhimaaRWor
import Derived.Test.YtpgphhkhjbhimaaLevC
import Derived.Shelf.Abstract
namespace Go.Proofs.Ytpgphhkhjbhimaa
open Go.RowKit Go.Shelf X
set_option maxHeartbeats 2000000
set_option maxRecDepth 8000
set_option linter.unusedSimpArgs false
set_option linter.unusedVariables false
attribute [local go_sem] Oper.semAt_some
theorem values_c (A : Option Addr) (n c : Nat) (w : World) (I : Fp) (hI : ∀ b, I b → b < w.heap.size) :
    Calls Try.prog 65 #[.slice A n c] w fun e w' => ∃ g, e = .returned (.func (.func 74) #[] #[.pointer (some ⟨g, 0, none⟩)]) ∧ Upd w No I w' (Cel g 76 [.slice A n c]) := by
  have S := SH.start w I hI
  have hc := S.cells; simp only [Cells, cellsC, Im, Row, El, RTH, TreeH, TR, TI, Rec, Nat.zero_add, Nat.reduceAdd] at hc
  go_enter Try.func65, Try.ntmps65
  go_wp2_with (first | ((first | (with_reducible refine wpl_seal S ?_) | (with_reducible refine cw_seal S ?_) | (with_reducible refine bp_seal S ?_) | (with_reducible refine ca_seal S ?_)); clear S; (try clear hc); intro w1 S; (try simp only [List.set_cons_zero, List.set_cons_succ, List.nil_append] at S); have hc := S.cells; simp only [Cells, cellsC, Im, Row, El, RTH, TreeH, TR, TI, Rec, Nat.zero_add, Nat.reduceAdd] at hc))
  obtain ⟨g, eg⟩ := S.name 0 rfl; rw [← eg] at S ⊢; clear eg
  go_ret
  exact ⟨g, rfl, S.ret 0 rfl⟩
theorem vclo_c (xs : List (Int × Int)) (A : Option Addr) (c g : Nat) (hn : xs.length ≤ 1048576) :
    Gives Try.prog 74 #[.pointer (some ⟨g, 0, none⟩)] (fun x : Int × Int => #[.agg #[.int .u64 x.1, .int .i64 x.2]]) Ext (fun _ W' => Sl kE W' Any A xs) (fun W' => Sl kE W' Any A xs ∧ W'.cell? ⟨g, 0, none⟩ = some (.slice A xs.length c)) xs := by
  intro lo J Jx hJ hJx hY w hw hJ0
  have HY := As.mk hY
  have HJ := As.mk hJ
  have HW := As.mk hw.1
  have HJ0 := As.mk hJ0
  have hcg := hw.2
  clear hY hJ hJx hJ0 hw
  refine callsIn_of_wp Try.func74 rfl trivial ?_ rfl; simp only [Try.ntmps74, List.size_toArray, List.length_cons, List.length_nil, Nat.reduceAdd, Nat.reduceSub, Array.replicate_succ, Array.replicate_zero, List.push_toArray, List.append_toArray, List.nil_append, List.cons_append]
  gi_wp2_with fail
  gi_loopw [7] (fun i w' => ∃ (k : Nat), k ≤ xs.length ∧ i = .int .i64 k ∧ As (Sl kE w' Any A xs) ∧ As (J (xs.take k) w')) (fun i _ => xs.length - (intOf i).toNat)
  case atStart => exact ⟨0, Nat.zero_le _, rfl, HW, HJ0⟩
  case round =>
    clear hcg HW HJ0
    obtain ⟨k, hk, rfl, HW, HJ0⟩ := hrel
    by_cases hkt : k < xs.length
    · have hkt' : decide ((k : Int) < xs.length) = true := by simpa using hkt
      obtain ⟨b, o, rfl, he1, he2⟩ := kE_at HW.out hkt
      have HE := As.mk (List.take_succ_eq_append_getElem hkt)
      have HPR : As (xs.take k ++ [xs[k]] <+: xs) := ⟨by rw [← HE.out]; exact List.take_prefix _ _⟩
      have S := SH.start wr No (fun _ h => h.elim)
      have hc := S.cells; simp only [Cells, cellsC, Im, Row, El, RTH, TreeH, TR, TI, Rec, Nat.zero_add, Nat.reduceAdd] at hc
      gi_wp2_with (first | ((first | (with_reducible refine wlI_seal S ?_) | (with_reducible refine cwI_seal S ?_) | (with_reducible refine bpM_seal S ?_) | (with_reducible refine bp_seal S ?_) | (with_reducible refine caI_seal S ?_)); clear S; (try clear hc); intro w1 S; (try simp only [List.set_cons_zero, List.set_cons_succ, List.nil_append] at S); have hc := S.cells; simp only [Cells, cellsC, Im, Row, El, RTH, TreeH, TR, TI, Rec, Nat.zero_add, Nat.reduceAdd] at hc))
      have HW1 := As.mk (HW.out.below S.out)
      obtain ⟨fn, tmps, assign, body, hy, hR⟩ := HY.out _ xs[k] _ HPR.out (HJ.out _ _ _ HJ0.out S.out)
      rw [hy]
      clear hy
      gi_wp2_with fail
      refine hR.mono ?_
      clear hR S hc HW1
      rintro e1 W3 (⟨rfl, hJ3, hi3⟩ | ⟨rfl, hJx3⟩)
      · have HI3 := As.mk hi3
        have HJ3 := As.mk hJ3
        clear hi3 hJ3
        gi_wp2_with fail
        go_roundw
        case rel => exact ⟨k + 1, by omega, by go_num, HI3, ⟨by rw [HE.out]; exact HJ3.out⟩⟩
        case measure => simp [intOf] <;> omega
      · have HJ3 := As.mk hJx3
        clear hJx3
        gi_wp2_with fail
        refine bodyPost_ret (results_none rfl _ _ _) rfl ?_
        exact ⟨⟨_, rfl⟩, .inr ⟨_, HPR.out, HJ3.out⟩⟩
    · have hkt' : decide ((k : Int) < xs.length) = false := by simpa using hkt
      obtain rfl : k = xs.length := by omega
      gi_wp2_with fail
      go_end0
      exact ⟨⟨_, rfl⟩, .inl (by have := HJ0.out; rwa [List.take_length] at this)⟩
/-- the numbers of a node's children -/
def kidsT (l : List Nd) (n : Int) : List Int := if inB l n then (l.getD n.toNat default).kids.map Prod.fst else []
theorem kids_c (l : List Nd) (ws : List Int) (n : Int) (b : Nat) (w : World) (D : Fp) (hT : RdT w D b l ws) (hk : ∀ x ∈ l, x.kids.length ≤ 1000000) :
    Calls Try.prog 51 #[.pointer (some ⟨b, 0, none⟩), .int .i64 n] w fun e w' => ∃ v, e = .returned v ∧ Upd w No No w' (Row kP v (kidsT l n)) := by
  have HT := As.mk hT
  have S := SH.start w No (fun _ h => h.elim)
  have hc := S.cells; simp only [Cells, cellsC, Im, Row, El, RTH, TreeH, TR, TI, Rec, Nat.zero_add, Nat.reduceAdd] at hc
  by_cases hin : inB l n = true
  · obtain ⟨k, rfl, hkl⟩ := inB_true hin
    have HE : As (kidsT l k = l[k].kids.map Prod.fst) := ⟨by unfold kidsT; rw [if_pos hin, Int.toNat_natCast, List.getD_eq_getElem?_getD, List.getElem?_eq_getElem hkl]; rfl⟩
    have hkk := hk _ (List.getElem_mem hkl)
    obtain ⟨A, c, A', c', hh, _, _, hl, _, _⟩ := hT
    have hct0 := cell_of_heap (j := 0) hh rfl
    obtain ⟨nb, o, A1, c1, A2, c2, rfl, _, _, _, hc30, _, hks, _⟩ := kN_at hl hkl
    have HKS : As (∀ w2, Ext w w2 → Sl kE w2 Any A1 l[k].kids) := ⟨fun w2 hx => (hks.below hx).any⟩
    have HC0 := As.mk hct0
    have HC3 := As.mk hc30
    clear hk hh hl hks hct0 hc30
    refine (callsIn_wide (n := 9)).1 (callsIn_of_wp_marks Try.func51 rfl trivial (wpIn_wide.2 ?_)); simp only [Try.ntmps51, List.size_toArray, List.length_cons, List.length_nil, Nat.reduceAdd, Nat.reduceSub, Array.replicate_succ, Array.replicate_zero, List.push_toArray, List.append_toArray, List.nil_append, List.cons_append]
    go_wp2_with (first | ((first | (with_reducible refine wpl_seal S ?_) | (with_reducible refine cw_seal S ?_) | (with_reducible refine bp_seal S ?_) | (with_reducible refine ca_seal S ?_)); clear S; (try clear hc); intro w1 S; (try simp only [List.set_cons_zero, List.set_cons_succ, List.nil_append] at S); have hc := S.cells; simp only [Cells, cellsC, Im, Row, El, RTH, TreeH, TR, TI, Rec, Nat.zero_add, Nat.reduceAdd] at hc; have hct := S.out.cell HC0.out; have hc3 := S.out.cell HC3.out) | (go_at_call 64; refine (in_c l ws _ _ _ D HT.out).mono ?_; rintro e w' ⟨rfl, rfl⟩) | (go_at_call 65; replace S := S.nilrow (k := kP); refine (values_c _ _ _ _ _ S.bd).mono ?_; rintro e w2 ⟨gv, rfl, hu⟩; have hx2 := hu.ext; obtain ⟨I1, S1, hI1⟩ := S.new hu; clear S hu hI1; (try clear hc); have S := S1; clear S1; have hc := S.cells; simp only [Cells, cellsC, Im, Row, El, RTH, TreeH, TR, TI, Rec, Nat.zero_add, Nat.reduceAdd] at hc; clear hct hc3))
    obtain ⟨g5, eg5⟩ := S.name 2 rfl; rw [← eg5] at S ⊢; clear eg5
    generalize l[k].kids = ks at HE HKS hkk S hc ⊢
    refine (wpIn_wide (n := 9)).1 ?_
    refine S.range (gf := 74) (lb := #[.pointer (some ⟨gv, 0, none⟩)]) rfl (enters_of Try.func74 (by kernel_rfl) rfl) (vclo_c ks A1 c1 gv (by omega)) (fun _ => rfl)
      (fun pre L' I' => I' = I1 ∧ ∃ v, L' = [Cel gv 76 [.slice A1 ks.length c1], Row kP v (pre.map Prod.fst), Cel g5 56 [v]]) (fun _ _ _ => False) ⟨rfl, _, rfl⟩ ?st ?own ?ownx ?round ?done ?stop
    case st =>
      intro W4 o1 o2 _ S4
      exact ⟨HKS.out _ S4.out, S4.cell 2 0 rfl rfl⟩
    case own =>
      rintro pre L' I' X Y o1 o2 ⟨rfl, v, rfl⟩ s he
      exact ⟨_, _, ⟨rfl, _, rfl⟩, s.ext he⟩
    case ownx => exact fun _ _ _ _ _ _ _ h => h.elim
    case stop => exact fun _ _ _ _ _ h => h.elim
    case done =>
      rintro D L' I' W5 ⟨rfl, v, rfl⟩ S
      dsimp only
      have hc := S.cells; simp only [Cells, cellsC, Im, Row, El, RTH, TreeH, TR, TI, Rec, Nat.zero_add, Nat.reduceAdd] at hc
      go_wp2_with (first | ((first | (with_reducible refine wpl_seal S ?_) | (with_reducible refine cw_seal S ?_) | (with_reducible refine bp_seal S ?_) | (with_reducible refine ca_seal S ?_)); clear S; (try clear hc); intro w1 S; (try simp only [List.set_cons_zero, List.set_cons_succ, List.nil_append] at S); have hc := S.cells; simp only [Cells, cellsC, Im, Row, El, RTH, TreeH, TR, TI, Rec, Nat.zero_add, Nat.reduceAdd] at hc))
      refine ⟨by simp, .inl ⟨_, _, rfl, run_takeDeferred (S.recd 0 rfl), ?_⟩⟩
      have S5 := S.putRec 0 rfl (.deferred none)
      exact ⟨_, results_tmp rfl _ _ _, _, rfl, by rw [HE.out]; exact S5.ret 2 rfl⟩
    case round =>
      rintro lo D r1 r2 pre x L' I' W5 hpre ⟨rfl, v, rfl⟩ S
      obtain ⟨rest, hpr⟩ := hpre
      have hpl : (pre.map Prod.fst).length ≤ 1000000 := by rw [List.length_map]; have := congrArg List.length hpr; simp at this; omega
      clear hpr hc
      have hc := S.cells; simp only [Cells, cellsC, Im, Row, El, RTH, TreeH, TR, TI, Rec, Nat.zero_add, Nat.reduceAdd] at hc
      simp only [List.zip_toArray, List.foldl_toArray', List.foldl_cons, List.foldl_nil, List.zip_cons_cons, List.zip_nil_left, List.setIfInBounds_toArray, List.set_cons_succ, List.set_cons_zero]
      gi_wp2_with (first | ((first | (with_reducible refine wlI_seal S ?_) | (with_reducible refine cwI_seal S ?_) | (with_reducible refine bpM_seal S ?_) | (with_reducible refine bp_seal S ?_) | (with_reducible refine caI_seal S ?_)); clear S; (try clear hc); intro w1 S; (try simp only [List.set_cons_zero, List.set_cons_succ, List.nil_append] at S); have hc := S.cells; simp only [Cells, cellsC, Im, Row, El, RTH, TreeH, TR, TI, Rec, Nat.zero_add, Nat.reduceAdd] at hc))
      refine rd_seal S ?_
      clear S hc
      intro W6 S
      simp only [List.set_cons_zero, List.set_cons_succ, List.nil_append] at S
      obtain ⟨g6, eg6⟩ := S.name 0 rfl; rw [← eg6] at S ⊢; clear eg6
      refine ⟨_, _, (S.sel [1, 2, 0, 3, 4, 5] (by decide) rfl (by simp) : SH _ _ _ [_, _, _, _, _, _] _ _), ?_⟩
      clear S
      intro W7 _ S
      have hc := S.cells; simp only [Cells, cellsC, Im, Row, El, RTH, TreeH, TR, TI, Rec, Nat.zero_add, Nat.reduceAdd] at hc
      gi_wp2_with (first | ((first | (with_reducible refine wlI_seal S ?_) | (with_reducible refine cwI_seal S ?_) | (with_reducible refine bpM_seal S ?_) | (with_reducible refine bp_seal S ?_) | (with_reducible refine caI_seal S ?_)); clear S; (try clear hc); intro w1 S; (try simp only [List.set_cons_zero, List.set_cons_succ, List.nil_append] at S); have hc := S.cells; simp only [Cells, cellsC, Im, Row, El, RTH, TreeH, TR, TI, Rec, Nat.zero_add, Nat.reduceAdd] at hc) | (gi_at_builtin; refine wlI_push S 5 rfl rfl _ _ rfl ty_pixs rfl x.1 _ _ rfl [_] _ (S.cel 0 rfl) rfl (by (try simp only [maxLen, List.length_nil, List.length_append, List.length_cons]); omega) (by (try simp only [maxLen, List.length_nil, List.length_append, List.length_cons]); omega) ?_; clear S; (try clear hc); intro va w1 S; simp only [List.set_cons_zero, List.set_cons_succ, List.nil_append] at S; obtain ⟨Av, cv, eva, -, -⟩ := S.row 5 rfl; subst eva; have hc := S.cells; simp only [Cells, cellsC, Im, Row, El, RTH, TreeH, TR, TI, Rec, Nat.zero_add, Nat.reduceAdd] at hc))
      have hlen : (pre.map Prod.fst ++ [x.1]).length = pre.length + 1 := by simp
      rw [hlen] at S
      refine ⟨[Cel gv 76 [.slice A1 ks.length c1], Row kP (.slice Av (pre.length + 1) cv) (pre.map Prod.fst ++ [x.1]), Cel g5 56 [.slice Av (pre.length + 1) cv]], _, ⟨rfl, _, by rw [List.map_append]; rfl⟩, (S.put 6 0 _ rfl).sel [1, 2, 4, 5, 6] (by decide) rfl (by simp), ?_⟩
      rintro W8 L8 I8 ⟨rfl, v8, rfl⟩ - S8
      exact HKS.out _ S8.out
  · have hin' : inB l n = false := by simpa using hin
    have HE : As (kidsT l n = []) := ⟨by unfold kidsT; rw [if_neg hin]⟩
    clear hT hk hin
    refine (callsIn_wide (n := 9)).1 (callsIn_of_wp_marks Try.func51 rfl trivial (wpIn_wide.2 ?_)); simp only [Try.ntmps51, List.size_toArray, List.length_cons, List.length_nil, Nat.reduceAdd, Nat.reduceSub, Array.replicate_succ, Array.replicate_zero, List.push_toArray, List.append_toArray, List.nil_append, List.cons_append]
    go_wp2_with (first | ((first | (with_reducible refine wpl_seal S ?_) | (with_reducible refine cw_seal S ?_) | (with_reducible refine bp_seal S ?_) | (with_reducible refine ca_seal S ?_)); clear S; (try clear hc); intro w1 S; (try simp only [List.set_cons_zero, List.set_cons_succ, List.nil_append] at S); have hc := S.cells; simp only [Cells, cellsC, Im, Row, El, RTH, TreeH, TR, TI, Rec, Nat.zero_add, Nat.reduceAdd] at hc) | (go_at_call 64; refine (in_c l ws _ _ _ D HT.out).mono ?_; rintro e w' ⟨rfl, rfl⟩))
    refine ⟨_, results_tmp rfl _ _ _, _, rfl, ?_⟩
    rw [HE.out]
    exact S.nilrow.ret 0 rfl
end Go.Proofs.Ytpgphhkhjbhimaa
