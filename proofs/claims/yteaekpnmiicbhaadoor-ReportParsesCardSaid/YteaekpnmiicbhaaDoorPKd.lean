/- Records and bytes: how they lie in memory. -/
import Derived.Test.YteaekpnmiicbhaaDoorSep3
import Derived.Test.YteaekpnmiicbhaaDoorOpen
import Derived.Test.YteaekpnmiicbhaaDoorProg
namespace Go.Proofs.YteaekpnmiicbhaaDoor.X
open Go.RowKit
/-- the walk stands still here -/
def Hold (p : Prop) : Prop := p
theorem Hold.mk {p : Prop} (h : Hold p) : p := h
/-- bytes -/
def Kd.u8 (ety : TypeId) : Kd UInt8 where
  ety := ety
  size := 1
  rel := fun _ _ x cs => cs = [.int .u8 x.toNat]
  keep := fun h _ => h
  weak := fun h _ => h
  len := fun h => by subst h; rfl
  one := fun h => by subst h; simp [Value.oneCell']
theorem Sl.u8_at {ety : TypeId} {w : World} {D : Nat → Prop} {A : Option Addr} {xs : List UInt8} (h : Sl (Kd.u8 ety) w D A xs) {i : Nat} (hi : i < xs.length) :
    ∃ b o, A = some ⟨b, o, none⟩ ∧ w.cell? ⟨b, o + i, none⟩ = some (.int .u8 xs[i].toNat) := by
  obtain ⟨b, o, cs, rfl, hb, hd, rfl, hl, hc⟩ := h i hi
  exact ⟨b, o, rfl, by simpa [Kd.u8] using hc 0 _ rfl⟩
/-- a number that an int holds -/
def I64 (x : Int) : Prop := -9223372036854775808 ≤ x ∧ x ≤ 9223372036854775807
/-- a record's numbers -/
structure R5 where
  i : Int
  b : Int
  r : Int
  t : Int
  u : Int
deriving DecidableEq, Inhabited
def R5.cells (x : R5) : List Value := [.int .i64 x.i, .int .i64 x.b, .int .i64 x.r, .int .i64 x.t, .int .i64 x.u]
abbrev R5.v (x : R5) : Value := .agg #[.int .i64 x.i, .int .i64 x.b, .int .i64 x.r, .int .i64 x.t, .int .i64 x.u]
def R5.ok (x : R5) : Prop := I64 x.i ∧ I64 x.b ∧ I64 x.r ∧ I64 x.t ∧ I64 x.u
def R5.list (x : R5) : List Int := [x.i, x.b, x.r, x.t, x.u]
def Kd.r5 (ety : TypeId) : Kd R5 where
  ety := ety
  size := 5
  rel := fun _ _ x cs => cs = x.cells
  keep := fun h _ => h
  weak := fun h _ => h
  len := fun h => by subst h; rfl
  one := fun h => by subst h; simp [R5.cells, Value.oneCell']
/-- the same, of an argument -/
def Kd.r5o (ety : TypeId) : Kd R5 where
  ety := ety
  size := 5
  rel := fun _ _ x cs => cs = x.cells ∧ x.ok
  keep := fun h _ => h
  weak := fun h _ => h
  len := fun h => by obtain ⟨h, _⟩ := h; subst h; rfl
  one := fun h => by obtain ⟨h, _⟩ := h; subst h; simp [R5.cells, Value.oneCell']
theorem Sl.r5o {ety : TypeId} {w : World} {D : Nat → Prop} {A : Option Addr} {xs : List R5} (h : Sl (Kd.r5o ety) w D A xs) (ety' : TypeId) : Sl (Kd.r5 ety') w D A xs ∧ ∀ x ∈ xs, x.ok := by
  refine ⟨fun i hi => ?_, fun x hx => ?_⟩
  · obtain ⟨b, o, cs, e, hb, hd, hr, hl, hc⟩ := h i hi
    exact ⟨b, o, cs, e, hb, hd, hr.1, hl, hc⟩
  · obtain ⟨i, hi, rfl⟩ := List.mem_iff_getElem.1 hx
    obtain ⟨b, o, cs, e, hb, hd, hr, hl, hc⟩ := h i hi
    exact hr.2
theorem Sl.r5_at {ety : TypeId} {w : World} {D : Nat → Prop} {A : Option Addr} {xs : List R5} (h : Sl (Kd.r5 ety) w D A xs) {i : Nat} (hi : i < xs.length) :
    ∃ b o, A = some ⟨b, o, none⟩ ∧ w.cell? ⟨b, o + i * 5, none⟩ = some (.int .i64 xs[i].i) ∧ w.cell? ⟨b, o + i * 5 + 1, none⟩ = some (.int .i64 xs[i].b) ∧ w.cell? ⟨b, o + i * 5 + 2, none⟩ = some (.int .i64 xs[i].r) ∧
      w.cell? ⟨b, o + i * 5 + 3, none⟩ = some (.int .i64 xs[i].t) ∧ w.cell? ⟨b, o + i * 5 + 4, none⟩ = some (.int .i64 xs[i].u) := by
  obtain ⟨b, o, cs, rfl, hb, hd, rfl, hl, hc⟩ := h i hi
  exact ⟨b, o, rfl, hc 0 _ rfl, hc 1 _ rfl, hc 2 _ rfl, hc 3 _ rfl, hc 4 _ rfl⟩
theorem Sl.r5_get {ety : TypeId} {w : World} {D : Nat → Prop} {b o : Nat} {xs : List R5} (h : Sl (Kd.r5 ety) w D (some ⟨b, o, none⟩) xs) {i : Nat} {y : R5} (hi : xs[i]? = some y) :
    w.cell? ⟨b, o + i * 5, none⟩ = some (.int .i64 y.i) ∧ w.cell? ⟨b, o + i * 5 + 1, none⟩ = some (.int .i64 y.b) ∧ w.cell? ⟨b, o + i * 5 + 2, none⟩ = some (.int .i64 y.r) ∧
      w.cell? ⟨b, o + i * 5 + 3, none⟩ = some (.int .i64 y.t) ∧ w.cell? ⟨b, o + i * 5 + 4, none⟩ = some (.int .i64 y.u) := by
  obtain ⟨hl, rfl⟩ := List.getElem?_eq_some_iff.1 hi
  obtain ⟨b', o', e, g⟩ := h.r5_at hl
  cases e
  exact g
theorem Sl.u8_get {ety : TypeId} {w : World} {D : Nat → Prop} {b o : Nat} {xs : List UInt8} (h : Sl (Kd.u8 ety) w D (some ⟨b, o, none⟩) xs) {i : Nat} {y : UInt8} (hi : xs[i]? = some y) :
    w.cell? ⟨b, o + i, none⟩ = some (.int .u8 y.toNat) := by
  obtain ⟨hl, rfl⟩ := List.getElem?_eq_some_iff.1 hi
  obtain ⟨b', o', e, g⟩ := h.u8_at hl
  cases e
  exact g
theorem Sl.tk {α : Type} {k : Kd α} {w : World} {D : Nat → Prop} {A : Option Addr} {xs : List α} (h : Sl k w D A xs) (n : Nat) : Sl k w D A (xs.take n) := by
  intro i hi
  rw [List.length_take] at hi
  obtain ⟨b, o, cs, e, hb, hd, hr, hl, hc⟩ := h i (by omega)
  exact ⟨b, o, cs, e, hb, hd, by rw [List.getElem_take]; exact hr, hl, hc⟩
end Go.Proofs.YteaekpnmiicbhaaDoor.X
namespace Go.Proofs.YteaekpnmiicbhaaDoor
open Go.RowKit X
set_option maxHeartbeats 1000000
set_option maxRecDepth 8000
set_option linter.unusedSimpArgs false
set_option linter.unusedVariables false
abbrev kI : Kd Int := Kd.int 3 .i64
abbrev kB : Kd UInt8 := Kd.u8 5
abbrev kR : Kd R5 := Kd.r5 41
abbrev kC : Kd R5 := Kd.r5 37
theorem ty_ints : TyOk Tryd.prog 69 kI 8 := TyOk.mk' (size := 1) (z := .int .i64 0) Tryd.underlying69 (by kernel_rfl) rfl rfl (by decide)
theorem ty_u8s : TyOk Tryd.prog 49 kB 1 := TyOk.mk' (size := 1) (z := .int .u8 0) Tryd.underlying49 (by kernel_rfl) rfl rfl (by decide)
theorem ty_r5s : TyOk Tryd.prog 22 kR 40 := TyOk.mk' (size := 5) (z := .agg #[.int .i64 0, .int .i64 0, .int .i64 0, .int .i64 0, .int .i64 0]) Tryd.underlying22 (by kernel_rfl) rfl rfl (by decide)
theorem ty_recs : TyOk Tryd.prog 28 kC 40 := TyOk.mk' (size := 5) (z := .agg #[.int .i64 0, .int .i64 0, .int .i64 0, .int .i64 0, .int .i64 0]) Tryd.underlying28 (by kernel_rfl) rfl rfl (by decide)
/-- modulo, from 0 on -/
def aroundI (n m : Int) : Int := (if n < 0 then -(n + 1) else n) % m
theorem around_c (n m : Int) (w : World) (hn : I64 n) (hm : 0 < m) (hm2 : m ≤ 4611686018427387904) : Calls Tryd.prog 17 #[.int .i64 n, .int .i64 m] w fun e w' => e = .returned (.int .i64 (aroundI n m)) ∧ w = w' := by
  obtain ⟨h1, h2⟩ := hn
  have hm0 : (m == 0) = false := by rw [beq_eq_false_iff_ne]; omega
  by_cases h : n < 0
  · have h' : decide (n < 0) = true := by simpa using h
    have e : aroundI n m = -(n + 1).tmod m := by unfold aroundI; rw [if_pos h, ← Int.neg_tmod, Int.tmod_eq_emod_of_nonneg (by omega)]
    have h3 := Int.tmod_lt_of_pos (-(n + 1)) hm
    have h4 := Int.tmod_nonneg m (show 0 ≤ -(n + 1) by omega)
    rw [Int.neg_tmod] at h3 h4
    rw [e]
    go_enter Tryd.func17, Tryd.ntmps17
    go_wp2
    go_ret
    exact ⟨rfl, rfl⟩
  · have h' : decide (n < 0) = false := by simpa using h
    have e : aroundI n m = n % m := by unfold aroundI; rw [if_neg h]
    rw [e]
    have := Int.tmod_lt_of_pos n hm
    have := Int.tmod_nonneg m (show 0 ≤ n by omega)
    go_enter Tryd.func17, Tryd.ntmps17
    go_wp2
    go_ret
    exact ⟨rfl, rfl⟩
theorem aroundI_range {n m : Int} (hm : 0 < m) : 0 ≤ aroundI n m ∧ aroundI n m < m := by
  unfold aroundI
  exact ⟨Int.emod_nonneg _ (by omega), Int.emod_lt_of_pos _ hm⟩
/-- a greatest number that may be -/
def limI (n : Int) : Int := aroundI n 4611686018427387904
theorem limI_range (n : Int) : 0 ≤ limI n ∧ limI n < 4611686018427387904 := aroundI_range (by decide)
theorem limit_c (n : Int) (w : World) (hn : I64 n) : Calls Tryd.prog 36 #[.int .i64 n] w fun e w' => e = .returned (.int .i64 (limI n)) ∧ w = w' := by
  go_enter Tryd.func36, Tryd.ntmps36
  go_wp2_with (first | (go_at_call 17; refine (around_c n 4611686018427387904 _ hn (by decide) (by decide)).mono ?_; rintro e w1 ⟨rfl, rfl⟩))
  go_ret
  exact ⟨rfl, rfl⟩
/-- a record's numbers -/
theorem numbers_c (x : R5) (w : World) (I : Fp) (hI : ∀ b, I b → b < w.heap.size) : Calls Tryd.prog 27 #[x.v] w fun e w' => ∃ g, e = .returned (.slice (some ⟨g, 0, none⟩) 5 5) ∧ Upd w No I w' (Cel g 3 (x.list.map (Value.int .i64))) := by
  have S := SH.start w I hI
  dsimp only [R5.v, R5.list, List.map_cons, List.map_nil]
  have hc := S.cells; simp only [Cells, cellsC, Im, Row, El, Nat.zero_add, Nat.reduceAdd] at hc
  go_enter Tryd.func27, Tryd.ntmps27
  go_wp2_with (first | ((first | (with_reducible refine wpl_seal S ?_) | (with_reducible refine cw_seal S ?_) | (with_reducible refine bp_seal S ?_) | (with_reducible refine ca_seal S ?_)); clear S; (try clear hc); intro w1 S; (try simp only [List.set_cons_zero, List.set_cons_succ, List.nil_append] at S); have hc := S.cells; simp only [Cells, cellsC, Im, Row, El, Nat.zero_add, Nat.reduceAdd] at hc))
  obtain ⟨g, eg⟩ := S.name 0 rfl; rw [← eg] at S ⊢; clear eg
  go_ret
  exact ⟨g, rfl, S.ret 0 rfl⟩
theorem make_c (x : R5) (A : Option Addr) (c : Nat) (w : World) (D : Fp) (hx : Sl kI w D A x.list) : Calls Tryd.prog 37 #[.slice A 5 c] w fun e w' => e = .returned x.v ∧ Ext w w' := by
  have S := SH.start w No (fun _ h => h.elim)
  obtain ⟨b, o, rfl, h0⟩ := hx.int_at (i := 0) (by simp [R5.list])
  obtain ⟨_, _, e1, h1⟩ := hx.int_at (i := 1) (by simp [R5.list])
  obtain ⟨_, _, e2, h2⟩ := hx.int_at (i := 2) (by simp [R5.list])
  obtain ⟨_, _, e3, h3⟩ := hx.int_at (i := 3) (by simp [R5.list])
  obtain ⟨_, _, e4, h4⟩ := hx.int_at (i := 4) (by simp [R5.list])
  cases e1; cases e2; cases e3; cases e4
  clear hx
  replace h0 : w.cell? ⟨b, o, none⟩ = some (.int .i64 x.i) := h0
  replace h1 : w.cell? ⟨b, o + 1, none⟩ = some (.int .i64 x.b) := h1
  replace h2 : w.cell? ⟨b, o + 2, none⟩ = some (.int .i64 x.r) := h2
  replace h3 : w.cell? ⟨b, o + 3, none⟩ = some (.int .i64 x.t) := h3
  replace h4 : w.cell? ⟨b, o + 4, none⟩ = some (.int .i64 x.u) := h4
  have hc := S.cells; simp only [Cells, cellsC, Im, Row, El, Nat.zero_add, Nat.reduceAdd] at hc
  go_enter Tryd.func37, Tryd.ntmps37
  go_wp2_with (first | ((first | (with_reducible refine wpl_seal S ?_) | (with_reducible refine cw_seal S ?_) | (with_reducible refine bp_seal S ?_) | (with_reducible refine ca_seal S ?_)); clear S; (try clear hc); intro w1 S; (try simp only [List.set_cons_zero, List.set_cons_succ, List.nil_append] at S); have hc := S.cells; simp only [Cells, cellsC, Im, Row, El, Nat.zero_add, Nat.reduceAdd] at hc))
  have q0 := ClE.cell (w := w1.drew) (S.out.cell h0)
  have q1 := ClE.cell (w := w1.drew) (S.out.cell h1)
  have q2 := ClE.cell (w := w1.drew) (S.out.cell h2)
  have q3 := ClE.cell (w := w1.drew) (S.out.cell h3)
  have q4 := ClE.cell (w := w1.drew) (S.out.cell h4)
  have hq := S.cellsE; simp only [CellsE, cellsE, Im, Row, El, Nat.zero_add, Nat.reduceAdd] at hq
  refine wp_region_ext [⟨[0, 1, 2, 3, 4, 5, 6, 7, 8, 9, 10, 11, 12, 13, 14, 15, 16], [], 17, false⟩] [] (by kernel_rfl) (by kernel_rfl) ?_
  refine mix_cons rfl rfl rfl ?_
  simp only [opsAt, List.getD_cons_succ, List.getD_cons_zero]
  repeat (go_big_quiet_step ((intro hC; first | rfl | (go_simp; first | done | rfl))))
  refine wpQuiet_nil ?_
  repeat (go_big_quiet_step ((intro hC; first | rfl | (go_simp; first | done | rfl))))
  refine wpQuiet_nil ?_
  clear hq q0 q1 q2 q3 q4 hc
  replace S := S.drew
  generalize w1.drew = w2 at S ⊢
  have hc := S.cells; simp only [Cells, cellsC, Im, Row, El, Nat.zero_add, Nat.reduceAdd] at hc
  go_wp2_with (first | ((first | (with_reducible refine mx_seal S ?_) | (with_reducible refine wpl_seal S ?_) | (with_reducible refine ca_seal S ?_)); clear S; (try clear hc); intro w1 S; (try simp only [List.set_cons_zero, List.set_cons_succ, List.nil_append] at S); have hc := S.cells; simp only [Cells, cellsC, Im, Row, El, Nat.zero_add, Nat.reduceAdd] at hc))
  (first | refine ⟨(fun h => by cases h), ?_⟩ | skip); (first | ((first | (with_reducible refine mx_seal S ?_)); clear S; (try clear hc); intro w1 S; (try simp only [List.set_cons_zero, List.set_cons_succ, List.nil_append] at S); have hc := S.cells; simp only [Cells, cellsC, Im, Row, El, Nat.zero_add, Nat.reduceAdd] at hc) | skip); (try simp only [Act.put, List.setIfInBounds_toArray, List.set_cons_succ, List.set_cons_zero])
  refine mix_last rfl ?_
  simp only [opsAt, List.getD_cons_succ, List.getD_cons_zero]
  repeat (go_big_quiet_step ((intro hC; first | rfl | (go_simp; first | done | rfl))))
  refine wpQuiet_nil ?_
  simp only [calmQ]
  go_wp2_with (first | ((first | (with_reducible refine wpl_seal S ?_) | (with_reducible refine cw_seal S ?_) | (with_reducible refine bp_seal S ?_) | (with_reducible refine ca_seal S ?_)); clear S; (try clear hc); intro w1 S; (try simp only [List.set_cons_zero, List.set_cons_succ, List.nil_append] at S); have hc := S.cells; simp only [Cells, cellsC, Im, Row, El, Nat.zero_add, Nat.reduceAdd] at hc))
  refine bodyPost_ret (results_cell_row rfl _ _ _ 41 _ (0, 0) _ rfl (S.cel 0 rfl) Tryd.underlying41 rfl (by kernel_rfl)) rfl ?_
  exact ⟨rfl, S.out⟩
end Go.Proofs.YteaekpnmiicbhaaDoor
