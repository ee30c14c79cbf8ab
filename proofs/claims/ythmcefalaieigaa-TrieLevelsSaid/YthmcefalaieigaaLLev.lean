/- TrieLevels: the law's walk. -/
import Derived.Test.YthmcefalaieigaaLevC
import Derived.Shelf.Abstract
namespace Go.Proofs.Ythmcefalaieigaa.X
open Go.RowKit
theorem results_cell_one {P : Program} {fn : Func} {p : Tmp} {ty : TypeId} (h : fn.results = #[.cell p ty]) (tmps : Array Value) (w : World) (g : Addr) (v : Value) (d : TypeDesc)
    (hp : tmps.getD p undef = .pointer (some g)) (hg : w.cell? g = some v)
    (hu : P.underlying ty = some d) (hd : (match d with | .struct _ | .array _ _ => true | _ => false) = false) :
    (results fn tmps).run P w = .ok v w := by
  have hp' : tmps[p]?.getD undef = .pointer (some g) := by simpa using hp
  have hagg : (isAgg ty).run P w = .ok false w := by
    unfold isAgg
    rw [Sem.run_bind, run_underlying hu w]
    cases d <;> simp_all
  simp [results, h, hp', asAddr, loadVar, Sem.run_bind, hagg, hg]
end Go.Proofs.Ythmcefalaieigaa.X
namespace Go.Proofs.Ythmcefalaieigaa
open Go.RowKit Go.Shelf X
set_option maxHeartbeats 4000000
set_option maxRecDepth 8000
set_option linter.unusedSimpArgs false
set_option linter.unusedVariables false
attribute [local go_sem] Oper.semAt_some
theorem llevels_c (raw : Bool) (ls : List (List Int)) (A : Option Addr) (c : Nat) (w : World) (I : Fp) (hI : ∀ b, I b → b < w.heap.size) (hx : Sl kW w I A ls) :
    Calls Try.prog 6 #[.slice A ls.length c, .bool raw] w fun e w' => e = .returned (.bool true) ∧ Ext w w' := by
  have S := SH.start w I hI
  have HXL := As.mk hx
  clear hx
  have qf : ∀ gt w, (binOp BinOp.eql 49 (.func (.func 39) #[] #[.pointer (some ⟨gt, 0, none⟩)]) .nilFunc).run Try.prog w = .ok (.bool false) w := fun _ _ => by kernel_rfl
  have hc := S.cells; simp only [Cells, cellsC, Im, Row, El, RTH, TreeH, TR, TI, Rec, Nat.zero_add, Nat.reduceAdd] at hc
  refine (callsIn_wide (n := 9)).1 (callsIn_of_wp_marks Try.func6 rfl trivial (wpIn_wide.2 ?_)); simp only [Try.ntmps6, List.size_toArray, List.length_cons, List.length_nil, Nat.reduceAdd, Nat.reduceSub, Array.replicate_succ, Array.replicate_zero, List.push_toArray, List.append_toArray, List.nil_append, List.cons_append]
  go_upto_if 1 with (first | ((first | (with_reducible refine wpl_seal S ?_) | (with_reducible refine cw_seal S ?_) | (with_reducible refine bp_seal S ?_) | (with_reducible refine ca_seal S ?_)); clear S hc; intro w1 S; (try simp only [List.set_cons_zero, List.set_cons_succ, List.nil_append] at S); have hc := S.cells; simp only [Cells, cellsC, Im, Row, El, RTH, TreeH, TR, TI, Rec, Nat.zero_add, Nat.reduceAdd] at hc))
  obtain ⟨g4, eg4⟩ := S.name 0 rfl; rw [← eg4] at S ⊢; clear eg4
  have hc := S.cells; simp only [Cells, cellsC, Im, Row, El, RTH, TreeH, TR, TI, Rec, Nat.zero_add, Nat.reduceAdd] at hc
  go_wp2_with (first | ((first | (with_reducible refine wpl_seal S ?_) | (with_reducible refine cw_seal S ?_) | (with_reducible refine bp_seal S ?_) | (with_reducible refine ca_seal S ?_)); clear S hc; intro w1 S; (try simp only [List.set_cons_zero, List.set_cons_succ, List.nil_append] at S); have hc := S.cells; simp only [Cells, cellsC, Im, Row, El, RTH, TreeH, TR, TI, Rec, Nat.zero_add, Nat.reduceAdd] at hc) | (go_at_call 9; refine (begin_c raw ls A c _ I S.bd (HXL.out.below S.out)).mono ?_; rintro e w1 ⟨b, l, ws, v, L, W, J, rfl, S2, hst, hbg, hL, hW, hL5⟩; obtain ⟨J2, S3, -, -⟩ := S.comp (S2.toTR 0 rfl hst); have HBG := As.mk hbg; have HL5 := As.mk hL5; clear S hc S2 hst hbg hL5; have S := S3; clear S3; simp only [List.cons_append, List.nil_append, List.set_cons_zero] at S; obtain ⟨a1, d1, a2, d2, rfl, hd1, hd2, hs1, hs2⟩ := S.rt 1 rfl; replace S := (S.know (h := Im kW a2 W) hs2).know (h := Im kW a1 L) hs1; clear hs1 hs2; have hc := S.cells; simp only [Cells, cellsC, Im, Row, El, RTH, TreeH, TR, TI, Rec, Nat.zero_add, Nat.reduceAdd] at hc))
  have HG := As.mk (S.goodR 3 rfl)
  have h0 := HG.out.dp0
  have h1 := HG.out.dp1 (B := 5) HL5.out
  obtain ⟨g6, eg6⟩ := S.name 0 rfl; rw [← eg6] at S ⊢; clear eg6
  have hc := S.cells; simp only [Cells, cellsC, Im, Row, El, RTH, TreeH, TR, TI, Rec, Nat.zero_add, Nat.reduceAdd] at hc
  go_wp2_with (first | ((first | (with_reducible refine wpl_seal S ?_) | (with_reducible refine cw_seal S ?_) | (with_reducible refine bp_seal S ?_) | (with_reducible refine ca_seal S ?_)); clear S hc; intro w1 S; (try simp only [List.set_cons_zero, List.set_cons_succ, List.nil_append] at S); have hc := S.cells; simp only [Cells, cellsC, Im, Row, El, RTH, TreeH, TR, TI, Rec, Nat.zero_add, Nat.reduceAdd] at hc) | (go_at_call 20; refine (rlevels_c L W 5 _ _ _ S.bd ⟨a1, d1, a2, d2, rfl, hd1, hd2, S.im 1 rfl, S.im 2 rfl⟩ (by omega) HG.out.pos h0 h1 (by omega)).mono ?_; rintro e w1 ⟨v, rfl, hu⟩; obtain ⟨I1, S1, hI1⟩ := S.new hu; clear S hc hu hI1; have S := S1; clear S1; have hc := S.cells; simp only [Cells, cellsC, Im, Row, El, RTH, TreeH, TR, TI, Rec, Nat.zero_add, Nat.reduceAdd] at hc; obtain ⟨A3, c3, I1, e1, hc3, S1, hI1⟩ := S.frow 0 rfl; subst e1; clear S hI1; have S := S1; clear S1; simp only [List.set_cons_zero, List.set_cons_succ, List.nil_append] at S; have hc := S.cells; simp only [Cells, cellsC, Im, Row, El, RTH, TreeH, TR, TI, Rec, Nat.zero_add, Nat.reduceAdd] at hc) | (go_at_call 21; refine (levels_c b _ _ S.bd).mono ?_; rintro e w1 ⟨gt, rfl, hu⟩; obtain ⟨I1, S1, hI1⟩ := S.new hu; clear S hc hu hI1; have S := S1; clear S1; have hc := S.cells; simp only [Cells, cellsC, Im, Row, El, RTH, TreeH, TR, TI, Rec, Nat.zero_add, Nat.reduceAdd] at hc))
  obtain ⟨g7, eg7⟩ := S.name 2 rfl; rw [← eg7] at S ⊢; clear eg7
  have HWL : As (((lvL L 5).map (fun k : Nat => (k : Int))).length = (lvL L 5).length) := ⟨List.length_map ..⟩
  obtain ⟨want, hwt⟩ : ∃ want : List Int, want = (lvL L 5).map (fun k : Nat => (k : Int)) := ⟨_, rfl⟩
  rw [← HWL.out] at S ⊢
  rw [← hwt] at S HWL hc3 ⊢
  have HWT := As.mk hwt
  clear hwt
  obtain ⟨g9, eg9⟩ := S.name 0 rfl; rw [← eg9] at S ⊢; clear eg9
  obtain ⟨A4, c4, l4, ws4, J4, hst4, S4, -⟩ := S.frzT 7 rfl
  clear S hc
  have S := S4
  clear S4
  simp only [List.set_cons_zero, List.set_cons_succ] at S
  have hwl : want.length ≤ 1000000 := by rw [HWL.out]; have := lvU_le (N := L.length) h0 5; unfold lvL; omega
  refine (wpIn_wide (n := 9)).1 ?_
  have HLs : As (ShortW L) := ⟨fun x hx => by have := HL5.out x hx; omega⟩
  have HNE : As (∀ i, 0 < i → i < L.length → pa L i ≠ []) := ⟨fun i hi hl e => by have := h1 i hi hl; unfold dpN at this; rw [e] at this; simp at this⟩
  refine S.range (gf := 39) (lb := #[.pointer (some ⟨gt, 0, none⟩)]) rfl (enters_of Try.func39 (by kernel_rfl) rfl) (lclo_c l4 ws4 L W 5 gt b A4 c4 hst4 (by omega) h1 (by omega)) (fun _ => rfl)
    (fun pre L' I' => I' = J4 ∧ L' = [Cel g9 3 [.int .i64 pre.length], Cel gt 25 [.pointer (some ⟨b, 0, none⟩)], Cel g7 46 [.slice A3 want.length c3], Im kI A3 want, Cel g6 27 [.slice a1 L.length d1, .slice a2 W.length d2], Im kW a1 L, Im kW a2 W, TI b A4 c4 l4, RTH (rtV a1 L.length d1 a2 W.length d2) L W, Cel g4 4 [.bool false]]) (fun _ _ _ => False) ⟨rfl, rfl⟩ ?st ?own ?ownx ?round ?done ?stop
  case st =>
    intro W4 o1 o2 _ S4
    obtain ⟨F, ⟨h1, _, h3⟩, _⟩ := S4.get 9 rfl
    exact ⟨⟨h1, trivial, h3.any⟩, S4.cell 3 0 rfl rfl⟩
  case own =>
    rintro pre L' I' X Y o1 o2 ⟨rfl, rfl⟩ s he
    exact ⟨_, _, ⟨rfl, rfl⟩, s.ext he⟩
  case ownx => exact fun _ _ _ _ _ _ _ h => h.elim
  case stop => exact fun _ _ _ _ _ h => h.elim
  case done =>
    rintro D L' I' W5 ⟨rfl, rfl⟩ S
    dsimp only
    rw [← HWL.out] at S
    have hc := S.cells; simp only [Cells, cellsC, Im, Row, El, RTH, TreeH, TR, TI, Rec, Nat.zero_add, Nat.reduceAdd] at hc
    go_wp2_with (first | ((first | (with_reducible refine wpl_seal S ?_) | (with_reducible refine cw_seal S ?_) | (with_reducible refine bpM_seal S ?_) | (with_reducible refine bp_seal S ?_) | (with_reducible refine ca_seal S ?_)); clear S hc; intro w1 S; (try simp only [List.set_cons_zero, List.set_cons_succ, List.nil_append] at S); have hc := S.cells; simp only [Cells, cellsC, Im, Row, El, RTH, TreeH, TR, TI, Rec, Nat.zero_add, Nat.reduceAdd] at hc) | (go_at_call 12; refine (lives_c _ _ S.bd).mono ?_; rintro e w1 ⟨rfl, hx⟩; replace S := S.ext hx; clear hc hx; have hc := S.cells; simp only [Cells, cellsC, Im, Row, El, RTH, TreeH, TR, TI, Rec, Nat.zero_add, Nat.reduceAdd] at hc))
    refine ⟨by simp, .inl ⟨_, _, rfl, run_takeDeferred (S.recd 0 rfl), ?_⟩⟩
    have S5 := S.putRec 0 rfl (.deferred none)
    exact ⟨_, results_cell_one rfl _ _ _ _ _ rfl (S5.cell 10 0 rfl rfl) Try.underlying4 rfl, rfl, S5.out⟩
  case round =>
    rintro lo D r1 r2 pre x L' I' W5 hpre ⟨rfl, rfl⟩ S
    obtain ⟨rest, hpr⟩ := hpre
    have hplt : pre.length < want.length := by rw [HWL.out, ← hpr]; simp
    have hwx : want[pre.length] = x := by
      have := HWT.out
      subst this
      simp [← hpr]
    have hlp : pre.length ≤ 1000000 := by omega
    have hge : decide ((pre.length : Int) ≥ want.length) = false := by simp; omega
    have HWX := As.mk hwx
    clear hpr hwx
    have hc := S.cells; simp only [Cells, cellsC, Im, Row, El, RTH, TreeH, TR, TI, Rec, Nat.zero_add, Nat.reduceAdd] at hc
    simp only [List.zip_toArray, List.foldl_toArray', List.foldl_cons, List.foldl_nil, List.zip_cons_cons, List.zip_nil_left, List.setIfInBounds_toArray, List.set_cons_succ, List.set_cons_zero]
    gi_wp2_with (first | ((first | (with_reducible refine wlI_seal S ?_) | (with_reducible refine cwI_seal S ?_) | (with_reducible refine bpM_seal S ?_) | (with_reducible refine bp_seal S ?_) | (with_reducible refine caI_seal S ?_)); clear S hc; intro w1 S; (try simp only [List.set_cons_zero, List.set_cons_succ, List.nil_append] at S); have hc := S.cells; simp only [Cells, cellsC, Im, Row, El, RTH, TreeH, TR, TI, Rec, Nat.zero_add, Nat.reduceAdd] at hc))
    refine ⟨_, _, S, ?_⟩
    clear S
    intro W6 _ S
    obtain ⟨eb, eo, rfl, hce⟩ := (S.im 5 rfl).int_at hplt
    rw [HWX.out] at hce
    have hc := S.cells; simp only [Cells, cellsC, Im, Row, El, RTH, TreeH, TR, TI, Rec, Nat.zero_add, Nat.reduceAdd] at hc
    gi_wp2_with (first | ((first | (with_reducible refine wlI_seal S ?_) | (with_reducible refine cwI_seal S ?_) | (with_reducible refine bpM_seal S ?_) | (with_reducible refine bp_seal S ?_) | (with_reducible refine caI_seal S ?_)); clear S hc; intro w1 S; (try simp only [List.set_cons_zero, List.set_cons_succ, List.nil_append] at S); have hc := S.cells; simp only [Cells, cellsC, Im, Row, El, RTH, TreeH, TR, TI, Rec, Nat.zero_add, Nat.reduceAdd] at hc) | (refine ⟨trivial, ?_⟩; gi_at_call 22; refine (CallsIn.inRound lo (callsIn_wide.2 (rparent_c L W x _ _ _ S.bd ⟨a1, d1, a2, d2, rfl, hd1, hd2, S.im 7 rfl, S.im 8 rfl⟩ (by omega) HLs.out HNE.out))).mono ?_; rintro e w1 ⟨rfl, hx⟩; replace S := S.ext hx; clear hc hx; have hc := S.cells; simp only [Cells, cellsC, Im, Row, El, RTH, TreeH, TR, TI, Rec, Nat.zero_add, Nat.reduceAdd] at hc))
    refine ⟨_, _, ⟨rfl, ?_⟩, S.put 2 0 _ rfl, ?_⟩
    · simp
    · rintro W7 L7 I7 ⟨rfl, rfl⟩ - S7
      obtain ⟨F, ⟨h1, _, h3⟩, _⟩ := S7.get 9 rfl
      exact ⟨⟨h1, trivial, h3.any⟩, S7.cell 3 0 rfl rfl⟩
end Go.Proofs.Ythmcefalaieigaa
