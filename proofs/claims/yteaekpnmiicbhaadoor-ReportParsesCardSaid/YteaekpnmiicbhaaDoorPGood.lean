/- Records made such as may be; the first few. -/
import Derived.Test.YteaekpnmiicbhaaDoorPKd
namespace Go.Proofs.YteaekpnmiicbhaaDoor
open Go.RowKit X
set_option maxHeartbeats 1000000
set_option maxRecDepth 8000
set_option linter.unusedSimpArgs false
set_option linter.unusedVariables false
def goodR (x : R5) : R5 := ⟨limI x.i, limI x.b, limI x.r, limI x.t, limI x.u % 8⟩
def gk (x : List Int) (k : Nat) : List Int := (x.take k).map limI ++ x.drop k
theorem gk_len (x : List Int) (k : Nat) (h : k ≤ x.length) : (gk x k).length = x.length := by
  unfold gk; rw [List.length_append, List.length_map, List.length_take, List.length_drop]; omega
theorem gk_zero (x : List Int) : gk x 0 = x := by simp [gk]
theorem gk_get (x : List Int) (k : Nat) (h : k < x.length) : (gk x k)[k]? = some x[k] := by
  unfold gk
  rw [List.getElem?_append_right (by rw [List.length_map, List.length_take]; omega), List.length_map, List.length_take, List.getElem?_drop, Nat.min_eq_left (by omega), Nat.sub_self, Nat.add_zero, List.getElem?_eq_getElem h]
theorem gk_set (x : List Int) (k : Nat) (h : k < x.length) : (gk x k).set k (limI x[k]) = gk x (k + 1) := by
  unfold gk
  rw [List.set_append_right _ _ (by rw [List.length_map, List.length_take]; omega), List.length_map, List.length_take, Nat.min_eq_left (by omega), Nat.sub_self, List.drop_eq_getElem_cons h, List.set_cons_zero,
    List.take_succ_eq_append_getElem h, List.map_append, List.append_assoc]
  rfl
theorem good_c (x : R5) (w : World) (I : Fp) (hI : ∀ b, I b → b < w.heap.size) (hx : x.ok) : Calls Tryd.prog 20 #[x.v] w fun e w' => e = .returned (goodR x).v ∧ Ext w w' := by
  have S := SH.start w I hI
  have HX := As.mk hx
  clear hx
  obtain ⟨ys, hys⟩ : ∃ ys, x.list = ys := ⟨_, rfl⟩
  have hyl : ys.length = 5 := by rw [← hys]; rfl
  have HOK : As (∀ (k : Nat) (h : k < ys.length), I64 ys[k]) := ⟨by
    subst hys
    obtain ⟨⟨h0, h1, h2, h3, h4⟩⟩ := HX
    intro k h
    rcases k with _ | _ | _ | _ | _ | k
    · exact h0
    · exact h1
    · exact h2
    · exact h3
    · exact h4
    · rw [show x.list.length = 5 from rfl] at h; omega⟩
  have HYS := As.mk hys
  clear HX hys
  dsimp only [R5.v]
  have hc := S.cells; simp only [Cells, cellsC, Im, Row, El, Nat.zero_add, Nat.reduceAdd] at hc
  go_enter Tryd.func20, Tryd.ntmps20
  go_wp2_with (first | ((first | (with_reducible refine wpl_seal S ?_) | (with_reducible refine cw_seal S ?_) | (with_reducible refine bp_seal S ?_) | (with_reducible refine ca_seal S ?_)); clear S; (try clear hc); intro w1 S; (try simp only [List.set_cons_zero, List.set_cons_succ, List.nil_append] at S); have hc := S.cells; simp only [Cells, cellsC, Im, Row, El, Nat.zero_add, Nat.reduceAdd] at hc) | (go_at_call 27; refine (numbers_c x _ _ S.bd).mono ?_; rw [HYS.out]; rintro e w1 ⟨g, rfl, hu⟩; obtain ⟨I1, S1, hI1⟩ := S.new hu; clear S hu hI1; (try clear hc); have S := S1; clear S1; have hc := S.cells; simp only [Cells, cellsC, Im, Row, El, Nat.zero_add, Nat.reduceAdd] at hc))
  obtain ⟨gr0, egr0⟩ := S.name 1 rfl; rw [← egr0] at S ⊢; clear egr0
  have S1 := S
  clear S hc
  go_loopw [4] (fun i w' => ∃ (k : Nat), k ≤ 5 ∧ i = .int .i64 k ∧ ∃ I', As (SH No I w [Cel g 3 ((gk ys k).map (Value.int .i64)), Cel gr0 41 [.int .i64 0, .int .i64 0, .int .i64 0, .int .i64 0, .int .i64 0]] w' I')) (fun i _ => 5 - (intOf i).toNat)
  case atStart => exact ⟨0, by omega, rfl, _, ⟨by rw [gk_zero]; exact (S1.sel [0, 1] (by decide) rfl (by simp) : SH _ _ _ [_, _] _ _)⟩⟩
  case round =>
    clear S1
    obtain ⟨k, hk, rfl, I', ⟨S⟩⟩ := hrel
    by_cases hlt : k < 5
    · have hlt' : decide ((k : Int) < 5) = true := by simp; omega
      have hky : k < ys.length := by omega
      have hck := S.cell 0 k (u := .int .i64 ys[k]) rfl (by rw [List.getElem?_map, gk_get ys k hky]; rfl)
      have hfz := S.nfz 0 k rfl
      have HO := As.mk (HOK.out k hky)
      have HS := As.mk (gk_set ys k hky)
      generalize ys[k] = y at hck HO HS
      go_wp2_with (first | ((first | (with_reducible refine wpl_seal S ?_) | (with_reducible refine cw_seal S ?_) | (with_reducible refine bp_seal S ?_) | (with_reducible refine ca_seal S ?_)); clear S; (try clear hc); intro w1 S; (try simp only [List.set_cons_zero, List.set_cons_succ, List.nil_append] at S); have hc := S.cells; simp only [Cells, cellsC, Im, Row, El, Nat.zero_add, Nat.reduceAdd] at hc) | (go_at_call 36; refine (limit_c y _ HO.out).mono ?_; rintro e w1 ⟨rfl, rfl⟩))
      go_roundw
      case rel => exact ⟨k + 1, by omega, by go_num, _, ⟨by rw [← HS.out, List.map_set]; exact S⟩⟩
      case measure => simp [intOf]; omega
    · have hlt' : decide ((k : Int) < 5) = false := by simp; omega
      obtain rfl : k = 5 := by omega
      have e5 : gk ys 5 = [limI x.i, limI x.b, limI x.r, limI x.t, limI x.u] := by rw [← HYS.out]; rfl
      rw [e5] at S
      simp only [List.map_cons, List.map_nil] at S
      have hc := S.cells; simp only [Cells, cellsC, Im, Row, El, Nat.zero_add, Nat.reduceAdd] at hc
      have hr1 := limI_range x.u
      have hx8 : (limI x.u).tmod 8 = limI x.u % 8 := Int.tmod_eq_emod_of_nonneg hr1.1
      go_wp2_with (first | ((first | (with_reducible refine wpl_seal S ?_) | (with_reducible refine cw_seal S ?_) | (with_reducible refine bp_seal S ?_) | (with_reducible refine ca_seal S ?_)); clear S; (try clear hc); intro w1 S; (try simp only [List.set_cons_zero, List.set_cons_succ, List.nil_append] at S); have hc := S.cells; simp only [Cells, cellsC, Im, Row, El, Nat.zero_add, Nat.reduceAdd] at hc) | (go_at_call 37; obtain ⟨J, S1, -⟩ := S.lit 0 rfl (k := kI) (xs := (goodR x).list) (Flat.int.2 rfl); refine (make_c (goodR x) _ _ _ _ (S1.im 0 rfl)).mono ?_; clear S1; dsimp only [R5.v, goodR]; rintro e w1 ⟨rfl, hx⟩; replace S := S.ext hx; clear hx; (try clear hc); have hc := S.cells; simp only [Cells, cellsC, Im, Row, El, Nat.zero_add, Nat.reduceAdd] at hc))
      refine bodyPost_ret (results_cell_row rfl _ _ _ 41 _ (0, 0) _ rfl (S.cel 1 rfl) Tryd.underlying41 rfl (by kernel_rfl)) rfl ?_
      exact ⟨rfl, S.out⟩
/-- the first few -/
def few6 (l : List R5) : List R5 := l.take 6
theorem few_c (l : List R5) (A : Option Addr) (c : Nat) (w : World) (I : Fp) (hI : ∀ b, I b → b < w.heap.size) (hl : Sl kR w I A l) (hc : l.length ≤ c) (hok : ∀ x ∈ l, x.ok) :
    Calls Tryd.prog 6 #[.slice A l.length c] w fun e w' => ∃ v c', e = .returned (.tuple #[.slice A (few6 l).length c', v]) ∧ (few6 l).length ≤ c' ∧ Upd w No I w' (Row kR v ((few6 l).map goodR)) := by
  have S := ((SH.start w I hI).know (h := Im kR A (few6 l)) (hl.tk 6)).nilrow (k := kR)
  have HOK : As (∀ x ∈ few6 l, x.ok) := ⟨fun x hx => hok x (List.mem_of_mem_take hx)⟩
  obtain ⟨m, hm⟩ : ∃ m, few6 l = m := ⟨_, rfl⟩
  have hml : m.length ≤ 6 := by rw [← hm]; unfold few6; rw [List.length_take]; omega
  have hmc : m.length ≤ c := by rw [← hm]; unfold few6; rw [List.length_take]; omega
  have HM : As ((min (l.length : Int) 6).toNat = m.length) := ⟨by rw [← hm]; unfold few6; rw [List.length_take]; omega⟩
  rw [hm] at S HOK ⊢
  clear hm hl hok
  by_cases h6 : l.length ≤ 6
  all_goals
    first | (have h5' : (l.length : Int) ≤ 6 := by omega) | (have h5' : 6 < (l.length : Int) := by omega)
    have hq : m.length = l.length ∨ (6 < l.length ∧ m.length = 6) := by have := HM.out; omega
    have hc := S.cells; simp only [Cells, cellsC, Im, Row, El, Nat.zero_add, Nat.reduceAdd] at hc
    go_enter Tryd.func6, Tryd.ntmps6
    go_wp2_with (first | ((first | (with_reducible refine wpl_seal S ?_) | (with_reducible refine cw_seal S ?_) | (with_reducible refine bp_seal S ?_) | (with_reducible refine ca_seal S ?_)); clear S; (try clear hc); intro w1 S; (try simp only [List.set_cons_zero, List.set_cons_succ, List.nil_append] at S); have hc := S.cells; simp only [Cells, cellsC, Im, Row, El, Nat.zero_add, Nat.reduceAdd] at hc))
    have S1 := S
    clear S hc
    go_loopw [5, 6] (fun v i w' => ∃ (k : Nat), k ≤ m.length ∧ i = .int .i64 k ∧ ∃ I', As (SH No I w [Row kR v ((m.take k).map goodR), Im kR A m] w' I')) (fun _ i _ => m.length - (intOf i).toNat)
    case atStart => exact ⟨0, by omega, rfl, _, ⟨S1⟩⟩
    case round =>
      clear S1
      obtain ⟨k, hk, rfl, I', ⟨S⟩⟩ := hrel
      by_cases hlt : k < m.length
      · first | (have hlt' : decide ((k : Int) < l.length) = true := by simp; omega) | (have hlt' : decide ((k : Int) < 6) = true := by simp; omega)
        obtain ⟨b, o, rfl, g0, g1, g2, g3, g4⟩ := (S.im 1 rfl).r5_at hlt
        have HO := As.mk (HOK.out _ (List.getElem_mem hlt))
        have HT : As ((m.take (k + 1)).map goodR = (m.take k).map goodR ++ [goodR m[k]]) := ⟨by rw [List.take_succ_eq_append_getElem hlt, List.map_append]; rfl⟩
        have htl : ((m.take k).map goodR).length ≤ 6 := by rw [List.length_map, List.length_take]; omega
        generalize m[k] = y at g0 g1 g2 g3 g4 HO HT
        generalize (m.take k).map goodR = ys at S HT htl
        have hc := S.cells; simp only [Cells, cellsC, Im, Row, El, Nat.zero_add, Nat.reduceAdd] at hc
        first | (have hkl : k < l.length := by omega) | skip
        go_wp2_with (first | ((first | (with_reducible refine wpl_seal S ?_) | (with_reducible refine cw_seal S ?_) | (with_reducible refine bp_seal S ?_) | (with_reducible refine ca_seal S ?_)); clear S; (try clear hc); intro w1 S; (try simp only [List.set_cons_zero, List.set_cons_succ, List.nil_append] at S); have hc := S.cells; simp only [Cells, cellsC, Im, Row, El, Nat.zero_add, Nat.reduceAdd] at hc) | (go_at_call 20; refine (good_c y _ _ S.bd HO.out).mono ?_; rintro e w1 ⟨rfl, hx⟩; replace S := S.ext hx; clear hx; (try clear hc); have hc := S.cells; simp only [Cells, cellsC, Im, Row, El, Nat.zero_add, Nat.reduceAdd] at hc) | (at_builtin; refine wpl_push S 1 rfl rfl _ _ rfl ty_r5s rfl (goodR y) _ _ rfl (goodR y).cells _ (S.cel 0 rfl) rfl (by (try simp only [maxLen, List.length_nil, List.length_append, List.length_cons]); omega) (by (try simp only [maxLen, List.length_nil, List.length_append, List.length_cons]); omega) ?_; clear S; (try clear hc); intro va w1 S; simp only [List.set_cons_zero, List.set_cons_succ, List.nil_append] at S; have hc := S.cells; simp only [Cells, cellsC, Im, Row, El, Nat.zero_add, Nat.reduceAdd] at hc))
        go_roundw
        case rel => exact ⟨k + 1, by omega, by go_num, _, ⟨by rw [HT.out]; exact (S.sel [1, 2] (by decide) rfl (by simp) : SH _ _ _ [_, _] _ _)⟩⟩
        case measure => simp [intOf]; omega
      · first | (have hlt' : decide ((k : Int) < l.length) = false := by simp; omega) | (have hlt' : decide ((k : Int) < 6) = false := by simp; omega)
        obtain rfl : k = m.length := by omega
        rw [List.take_length] at S
        go_wp2_with (first | ((first | (with_reducible refine wpl_seal S ?_) | (with_reducible refine cw_seal S ?_) | (with_reducible refine bp_seal S ?_) | (with_reducible refine ca_seal S ?_)); clear S; (try clear hc); intro w1 S; (try simp only [List.set_cons_zero, List.set_cons_succ, List.nil_append] at S); have hc := S.cells; simp only [Cells, cellsC, Im, Row, El, Nat.zero_add, Nat.reduceAdd] at hc))
        go_ret2
        exact ⟨_, c, by first | rfl | (rcases hq with hq | hq <;> first | rw [hq]; rfl | omega | (rw [hq.2]; rfl)), hmc, S.ret 0 rfl⟩
end Go.Proofs.YteaekpnmiicbhaaDoor
