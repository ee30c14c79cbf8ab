/- Records of places: the program's. -/
import Derived.Test.YteaekpnmiicbhaaPCmp
import Derived.Test.YteaekpnmiicbhaaPGood
namespace Go.Proofs.Yteaekpnmiicbhaa.X
open Go.RowKit
def P4.cells (x : P4) : List Value := [.int .i64 x.b, .int .i64 x.r, .int .i64 x.t, .int .i64 x.u]
def Kd.p4 (ety : TypeId) : Kd P4 where
  ety := ety
  size := 4
  rel := fun _ _ x cs => cs = P4.cells x
  keep := fun h _ => h
  weak := fun h _ => h
  len := fun h => by subst h; rfl
  one := fun h => by subst h; simp [P4.cells, Value.oneCell']
theorem Sl.p4_at {ety : TypeId} {w : World} {D : Nat → Prop} {A : Option Addr} {xs : List P4} (h : Sl (Kd.p4 ety) w D A xs) {i : Nat} (hi : i < xs.length) :
    ∃ b o, A = some ⟨b, o, none⟩ ∧ w.cell? ⟨b, o + i * 4, none⟩ = some (.int .i64 xs[i].b) ∧ w.cell? ⟨b, o + i * 4 + 1, none⟩ = some (.int .i64 xs[i].r) ∧ w.cell? ⟨b, o + i * 4 + 2, none⟩ = some (.int .i64 xs[i].t) ∧ w.cell? ⟨b, o + i * 4 + 3, none⟩ = some (.int .i64 xs[i].u) := by
  obtain ⟨b, o, cs, rfl, hb, hd, rfl, hl, hc⟩ := h i hi
  exact ⟨b, o, rfl, hc 0 _ rfl, hc 1 _ rfl, hc 2 _ rfl, hc 3 _ rfl⟩
end Go.Proofs.Yteaekpnmiicbhaa.X
namespace Go.Proofs.Yteaekpnmiicbhaa
open Go.RowKit X
set_option maxHeartbeats 1000000
set_option maxRecDepth 8000
set_option linter.unusedSimpArgs false
set_option linter.unusedVariables false
abbrev kP4 : Kd P4 := Kd.p4 52
theorem ty_places : TyOk Try.prog 51 kP4 32 := TyOk.mk' (size := 4) (z := .agg #[.int .i64 0, .int .i64 0, .int .i64 0, .int .i64 0]) Try.underlying51 (by kernel_rfl) rfl rfl (by decide)
def recP (a : Int) (p : P4) : R5 := ⟨a, p.b, p.r, p.t, p.u⟩
theorem rof_c (a : Int) (l : List P4) (A : Option Addr) (c : Nat) (w : World) (I : Fp) (hI : ∀ b, I b → b < w.heap.size) (hl : Sl kP4 w I A l) (hn : l.length ≤ 1000) :
    Calls Try.prog 19 #[.int .i64 a, .slice A l.length c] w fun e w' => ∃ v, e = .returned v ∧ Upd w No I w' (Row kC v (l.map (recP a))) := by
  have S := ((SH.start w I hI).know (h := Im kP4 A l) hl).nilrow (k := kC)
  clear hl
  have hc := S.cells; simp only [Cells, cellsC, Im, Row, El, Nat.zero_add, Nat.reduceAdd] at hc
  go_enter Try.func19, Try.ntmps19
  go_wp2_with (first | ((first | (with_reducible refine wpl_seal S ?_) | (with_reducible refine cw_seal S ?_) | (with_reducible refine bp_seal S ?_) | (with_reducible refine ca_seal S ?_)); clear S; (try clear hc); intro w1 S; (try simp only [List.set_cons_zero, List.set_cons_succ, List.nil_append] at S); have hc := S.cells; simp only [Cells, cellsC, Im, Row, El, Nat.zero_add, Nat.reduceAdd] at hc))
  have S1 := S
  clear S hc
  go_loopw [5, 10] (fun v i w' => ∃ (k : Nat), k ≤ l.length ∧ i = .int .i64 k ∧ ∃ I', As (SH No I w [Row kC v ((l.take k).map (recP a)), Im kP4 A l] w' I')) (fun _ i _ => l.length - (intOf i).toNat)
  case atStart => exact ⟨0, by omega, rfl, _, ⟨S1⟩⟩
  case round =>
    clear S1
    obtain ⟨k, hk, rfl, I', ⟨S⟩⟩ := hrel
    by_cases hlt : k < l.length
    · have hlt' : decide ((k : Int) < l.length) = true := by simp; omega
      obtain ⟨b, o, rfl, g0, g1, g2, g3⟩ := (S.im 1 rfl).p4_at hlt
      have HT : As ((l.take (k + 1)).map (recP a) = (l.take k).map (recP a) ++ [recP a l[k]]) := ⟨by rw [List.take_succ_eq_append_getElem hlt, List.map_append]; rfl⟩
      have htl : ((l.take k).map (recP a)).length ≤ 1000 := by rw [List.length_map, List.length_take]; omega
      generalize l[k] = y at g0 g1 g2 g3 HT
      generalize (l.take k).map (recP a) = ys at S HT htl
      have hc := S.cells; simp only [Cells, cellsC, Im, Row, El, Nat.zero_add, Nat.reduceAdd] at hc
      go_wp2_with (first | ((first | (with_reducible refine wpl_seal S ?_) | (with_reducible refine cw_seal S ?_) | (with_reducible refine bp_seal S ?_) | (with_reducible refine ca_seal S ?_)); clear S; (try clear hc); intro w1 S; (try simp only [List.set_cons_zero, List.set_cons_succ, List.nil_append] at S); have hc := S.cells; simp only [Cells, cellsC, Im, Row, El, Nat.zero_add, Nat.reduceAdd] at hc) | (at_builtin; refine wpl_push S 2 rfl rfl _ _ rfl ty_recs rfl (recP a y) _ _ rfl (recP a y).cells _ (S.cel 0 rfl) rfl (by (try simp only [maxLen, List.length_nil, List.length_append, List.length_cons]); omega) (by (try simp only [maxLen, List.length_nil, List.length_append, List.length_cons]); omega) ?_; clear S; (try clear hc); intro va w1 S; simp only [List.set_cons_zero, List.set_cons_succ, List.nil_append] at S; have hc := S.cells; simp only [Cells, cellsC, Im, Row, El, Nat.zero_add, Nat.reduceAdd] at hc))
      go_roundw
      case rel => exact ⟨k + 1, by omega, by go_num, _, ⟨by rw [HT.out]; exact (S.sel [2, 3] (by decide) rfl (by simp) : SH _ _ _ [_, _] _ _)⟩⟩
      case measure => simp [intOf]; omega
    · have hlt' : decide ((k : Int) < l.length) = false := by simp; omega
      obtain rfl : k = l.length := by omega
      rw [List.take_length] at S
      go_wp2_with (first | ((first | (with_reducible refine wpl_seal S ?_) | (with_reducible refine cw_seal S ?_) | (with_reducible refine bp_seal S ?_) | (with_reducible refine ca_seal S ?_)); clear S; (try clear hc); intro w1 S; (try simp only [List.set_cons_zero, List.set_cons_succ, List.nil_append] at S); have hc := S.cells; simp only [Cells, cellsC, Im, Row, El, Nat.zero_add, Nat.reduceAdd] at hc))
      go_ret
      exact ⟨_, rfl, S.ret 0 rfl⟩
end Go.Proofs.Yteaekpnmiicbhaa
