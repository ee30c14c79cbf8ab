/- Which record comes first: the program's. -/
import Derived.Test.YteaekpnmiicbhaaPTxt
import Derived.Test.YteaekpnmiicbhaaMix
import Derived.Sort.Grow
import Derived.Deep.Draws
namespace Go.Proofs.Yteaekpnmiicbhaa.X
open Go.RowKit Go.Sort
/-- some orders drawn, some blocks laid -/
def Gr (w w' : World) : Prop := ∃ q os, w' = grow (w.drewN q) os
theorem Gr.refl (w : World) : Gr w w := ⟨0, #[], by simp [grow, World.drewN]⟩
theorem Gr.alloc {a b : World} (h : Gr a b) (o : Obj) : Gr a (b.alloc o) := by
  obtain ⟨q, os, rfl⟩ := h
  exact ⟨q, os ++ #[o], by rw [alloc_eq_grow, grow_grow]⟩
theorem Gr.trans {a b c : World} (h : Gr a b) (g : Gr b c) : Gr a c := by
  obtain ⟨q, os, rfl⟩ := h
  obtain ⟨p, os', rfl⟩ := g
  exact ⟨q + p, os ++ os', by simp [grow, World.drewN, Nat.add_assoc, Array.append_assoc]⟩
theorem Gr.drew {a b : World} (h : Gr a b) : Gr a b.drew := h.trans ⟨1, #[], by rw [grow_empty]; rfl⟩
theorem Gr.ext {a b : World} (h : Gr a b) : Ext a b := by
  obtain ⟨q, os, rfl⟩ := h
  exact ⟨rfl, rfl, rfl, by simp [grow, World.drewN], fun k hk => by simp only [grow, World.drewN]; rw [Array.getElem?_append_left hk]⟩
end Go.Proofs.Yteaekpnmiicbhaa.X
namespace Go.Proofs.Yteaekpnmiicbhaa
open Go.RowKit X
set_option maxHeartbeats 1000000
set_option maxRecDepth 8000
set_option linter.unusedSimpArgs false
set_option linter.unusedVariables false
/-- the first that is not 0 -/
def orI : List Int → Int
  | [] => 0
  | a :: r => if a = 0 then orI r else a
def cmpL : List Int → List Int → Int
  | a :: r, b :: s => if Lib.compareInt a b = 0 then cmpL r s else Lib.compareInt a b
  | _, _ => 0
theorem cmpOr_c (xs : List Int) (A : Option Addr) (c : Nat) (w : World) (D : Fp) (hx : Sl kI w D A xs) (hn : xs.length ≤ 1000) :
    Calls Try.prog 38 #[.slice A xs.length c] w fun e w' => e = .returned (.int .i64 (orI xs)) ∧ w' = w := by
  have HX := As.mk hx
  clear hx
  go_enter Try.func38, Try.ntmps38
  go_wp2
  go_loopw [8] (fun i w' => ∃ (k : Nat), k ≤ xs.length ∧ i = .int .i64 k ∧ As (orI xs = orI (xs.drop k)) ∧ w' = w) (fun i _ => xs.length - (intOf i).toNat)
  case atStart => exact ⟨0, by omega, rfl, ⟨rfl⟩, rfl⟩
  case round =>
    obtain ⟨k, hk, rfl, HO, rfl⟩ := hrel
    by_cases hlt : k < xs.length
    · have hlt' : decide ((k : Int) < xs.length) = true := by simp; omega
      obtain ⟨b, o, rfl, hc⟩ := HX.out.int_at hlt
      have HD := As.mk (List.drop_eq_getElem_cons hlt)
      generalize xs[k] = y at hc HD
      by_cases hy : y = 0
      · have hy' : (y != 0) = false := by simp [hy]
        have HE : As (orI xs = orI (xs.drop (k + 1))) := ⟨by rw [HO.out, HD.out, orI, if_pos hy]⟩
        clear hy
        go_wp2
        go_roundw
        case rel => exact ⟨k + 1, by omega, by go_num, HE, by first | rfl | trivial⟩
        case measure => simp [intOf]; omega
      · have hy' : (y != 0) = true := by simp [hy]
        have HE : As (orI xs = y) := ⟨by rw [HO.out, HD.out, orI, if_neg hy]⟩
        clear hy
        go_wp2
        go_ret
        rw [HE.out]
        exact ⟨rfl, rfl⟩
    · have hlt' : decide ((k : Int) < xs.length) = false := by simp; omega
      have HE : As (orI xs = 0) := ⟨by rw [HO.out, List.drop_of_length_le (by omega)]; rfl⟩
      go_wp2
      go_ret
      rw [HE.out]
      exact ⟨rfl, rfl⟩
/-- a place's numbers -/
structure P4 where
  b : Int
  r : Int
  t : Int
  u : Int
deriving DecidableEq, Inhabited
def P4.list (x : P4) : List Int := [x.b, x.r, x.t, x.u]
abbrev P4.v (x : P4) : Value := .agg #[.int .i64 x.b, .int .i64 x.r, .int .i64 x.t, .int .i64 x.u]
theorem compareInt_self (a : Int) : Lib.compareInt a a = 0 := by simp [Lib.compareInt]
theorem compareInt_eq {a b : Int} (h : Lib.compareInt a b = 0) : a = b := by
  unfold Lib.compareInt at h
  split at h
  · omega
  · split at h <;> omega
theorem cmpL_self : ∀ (l : List Int), cmpL l l = 0
  | [] => rfl
  | a :: r => by rw [cmpL, if_pos (compareInt_self a)]; exact cmpL_self r
theorem cmpL4 (x y : P4) : orI [Lib.compareInt x.b y.b, Lib.compareInt x.r y.r, Lib.compareInt x.t y.t, Lib.compareInt x.u y.u] = cmpL x.list y.list := by
  simp only [P4.list, cmpL, orI]
theorem eql_p4 (x y : P4) (w : World) : (binOp .eql 52 x.v y.v).run Try.prog w = .ok (.bool (decide (x = y))) w := by
  obtain ⟨x0, x1, x2, x3⟩ := x
  obtain ⟨y0, y1, y2, y3⟩ := y
  simp only [P4.v]
  go_simp
  by_cases h0 : x0 = y0 <;> by_cases h1 : x1 = y1 <;> by_cases h2 : x2 = y2 <;> by_cases h3 : x3 = y3 <;> simp [h0, h1, h2, h3]
theorem occCompare_c (x y : P4) (w : World) : Calls Try.prog 40 #[x.v, y.v] w fun e w' => e = .returned (.int .i64 (cmpL x.list y.list)) ∧ Gr w w' := by
  have heq := eql_p4 x y
  by_cases hxy : x = y
  · subst hxy
    rw [cmpL_self]
    rw [decide_eq_true rfl] at heq
    dsimp only [P4.v] at heq ⊢
    go_enter Try.func40, Try.ntmps40
    go_wp2
    go_ret
    exact ⟨rfl, ((Gr.refl w).alloc _).alloc _⟩
  · rw [decide_eq_false hxy] at heq
    have HC := As.mk (cmpL4 x y)
    dsimp only [P4.v] at heq ⊢
    obtain ⟨c0, hc0⟩ : ∃ c0, Lib.compareInt x.b y.b = c0 := ⟨_, rfl⟩
    obtain ⟨c1, hc1⟩ : ∃ c1, Lib.compareInt x.r y.r = c1 := ⟨_, rfl⟩
    obtain ⟨c2, hc2⟩ : ∃ c2, Lib.compareInt x.t y.t = c2 := ⟨_, rfl⟩
    obtain ⟨c3, hc3⟩ : ∃ c3, Lib.compareInt x.u y.u = c3 := ⟨_, rfl⟩
    have H0 := As.mk hc0
    have H1 := As.mk hc1
    have H2 := As.mk hc2
    have H3 := As.mk hc3
    rw [hc0, hc1, hc2, hc3] at HC
    clear hc0 hc1 hc2 hc3 hxy
    have S := ((SH.start w No (fun _ h => h.elim)).box [.int .i64 x.b, .int .i64 x.r, .int .i64 x.t, .int .i64 x.u] 52).box [.int .i64 y.b, .int .i64 y.r, .int .i64 y.t, .int .i64 y.u] 52
    have hG := ((Gr.refl w).alloc (.cells [.int .i64 x.b, .int .i64 x.r, .int .i64 x.t, .int .i64 x.u].toArray 52 (0, 0))).alloc (.cells [.int .i64 y.b, .int .i64 y.r, .int .i64 y.t, .int .i64 y.u].toArray 52 (0, 0))
    go_enter Try.func40, Try.ntmps40
    go_wp2
    generalize ((w.alloc (.cells [.int .i64 x.b, .int .i64 x.r, .int .i64 x.t, .int .i64 x.u].toArray 52 (0, 0))).alloc (.cells [.int .i64 y.b, .int .i64 y.r, .int .i64 y.t, .int .i64 y.u].toArray 52 (0, 0))) = W2 at S hG ⊢
    have HG := As.mk hG.drew
    rw [World.size_alloc] at S
    clear hG
    have hq := S.cellsE; simp only [CellsE, cellsE, Im, Row, El, Nat.zero_add, Nat.reduceAdd] at hq
    refine wp_region_ext [⟨[0, 1, 2, 3, 5, 6, 7, 8, 10, 11, 12, 13, 15, 16, 17, 18], [], 4, true⟩, ⟨[], [], 9, true⟩, ⟨[], [], 14, true⟩, ⟨[], [], 19, false⟩, ⟨[], [], 20, false⟩, ⟨[], [], 21, false⟩] [22] (by kernel_rfl) (by kernel_rfl) ?_
    refine mix_cons rfl rfl rfl ?_
    simp only [opsAt, List.getD_cons_succ, List.getD_cons_zero]
    repeat (go_big_quiet_step ((intro hC; first | rfl | (go_simp; first | done | rfl))))
    refine wpQuiet_nil ?_
    repeat (go_big_quiet_step ((intro hC; first | rfl | (go_simp; first | done | rfl))))
    refine wpQuiet_nil ?_
    clear hq
    replace S := S.drew
    generalize W2.drew = W3 at S HG ⊢
    have hc := S.cells; simp only [Cells, cellsC, Im, Row, El, Nat.zero_add, Nat.reduceAdd] at hc
    go_wp2_with (go_at_call 39; refine (Try.cmp_Compare_int x.b y.b _).mono ?_; rw [H0.out]; rintro e w1 ⟨rfl, rfl⟩)
    refine ⟨by first | (intro _; exact Below.refl _ _) | (intro h; cases h), ?_⟩
    refine mix_cons rfl rfl rfl ?_
    simp only [opsAt, List.getD_cons_succ, List.getD_cons_zero]
    repeat (go_big_quiet_step ((intro hC; first | rfl | (go_simp; first | done | rfl))))
    refine wpQuiet_nil ?_
    repeat (go_big_quiet_step ((intro hC; first | rfl | (go_simp; first | done | rfl))))
    refine wpQuiet_nil ?_
    go_wp2_with (go_at_call 39; refine (Try.cmp_Compare_int x.r y.r _).mono ?_; rw [H1.out]; rintro e w1 ⟨rfl, rfl⟩)
    refine ⟨by first | (intro _; exact Below.refl _ _) | (intro h; cases h), ?_⟩
    refine mix_cons rfl rfl rfl ?_
    simp only [opsAt, List.getD_cons_succ, List.getD_cons_zero]
    repeat (go_big_quiet_step ((intro hC; first | rfl | (go_simp; first | done | rfl))))
    refine wpQuiet_nil ?_
    repeat (go_big_quiet_step ((intro hC; first | rfl | (go_simp; first | done | rfl))))
    refine wpQuiet_nil ?_
    go_wp2_with (go_at_call 39; refine (Try.cmp_Compare_int x.t y.t _).mono ?_; rw [H2.out]; rintro e w1 ⟨rfl, rfl⟩)
    refine ⟨by first | (intro _; exact Below.refl _ _) | (intro h; cases h), ?_⟩
    refine mix_cons rfl rfl rfl ?_
    simp only [opsAt, List.getD_cons_succ, List.getD_cons_zero]
    repeat (go_big_quiet_step ((intro hC; first | rfl | (go_simp; first | done | rfl))))
    refine wpQuiet_nil ?_
    repeat (go_big_quiet_step ((intro hC; first | rfl | (go_simp; first | done | rfl))))
    refine wpQuiet_nil ?_
    go_wp2_with (go_at_call 39; refine (Try.cmp_Compare_int x.u y.u _).mono ?_; rw [H3.out]; rintro e w1 ⟨rfl, rfl⟩)
    refine ⟨by first | (intro _; exact Below.refl _ _) | (intro h; cases h), ?_⟩
    refine mix_cons rfl rfl rfl ?_
    simp only [opsAt, List.getD_cons_succ, List.getD_cons_zero]
    repeat (go_big_quiet_step ((intro hC; first | rfl | (go_simp; first | done | rfl))))
    refine wpQuiet_nil ?_
    repeat (go_big_quiet_step ((intro hC; first | rfl | (go_simp; first | done | rfl))))
    refine wpQuiet_nil ?_
    go_wp2
    refine ⟨by first | (intro _; exact Below.refl _ _) | (intro h; cases h), ?_⟩
    refine mix_cons rfl rfl rfl ?_
    simp only [opsAt, List.getD_cons_succ, List.getD_cons_zero]
    repeat (go_big_quiet_step ((intro hC; first | rfl | (go_simp; first | done | rfl))))
    refine wpQuiet_nil ?_
    repeat (go_big_quiet_step ((intro hC; first | rfl | (go_simp; first | done | rfl))))
    refine wpQuiet_nil ?_
    obtain ⟨J, S3, -⟩ := (S.box [.int .i64 c0, .int .i64 c1, .int .i64 c2, .int .i64 c3] 3).lit 0 rfl (k := kI) (xs := [c0, c1, c2, c3]) (Flat.int.2 rfl)
    have hsl := S3.im 0 rfl
    go_wp2_with (go_at_call 38; refine (cmpOr_c [c0, c1, c2, c3] _ 4 _ _ hsl (by simp)).mono ?_; rw [HC.out]; rintro e w1 ⟨rfl, rfl⟩)
    refine ⟨by first | (intro _; exact Below.refl _ _) | (intro h; cases h), ?_⟩
    refine mix_last rfl ?_
    simp only [opsAt, List.getD_cons_succ, List.getD_cons_zero]
    repeat (go_big_quiet_step ((intro hC; first | rfl | (go_simp; first | done | rfl))))
    refine wpQuiet_nil ?_
    simp only [calmQ]
    go_wp2
    go_ret
    exact ⟨rfl, HG.out.alloc _⟩
def X.R5.p4 (x : R5) : P4 := ⟨x.b, x.r, x.t, x.u⟩
/-- which record comes first -/
def cmpR (x y : R5) : Int := cmpL x.list y.list
theorem cmpR_or (x y : R5) : orI [Lib.compareInt x.i y.i, cmpL x.p4.list y.p4.list] = cmpR x y := by
  show (if Lib.compareInt x.i y.i = 0 then (if cmpL x.p4.list y.p4.list = 0 then 0 else cmpL x.p4.list y.p4.list) else Lib.compareInt x.i y.i) = (if Lib.compareInt x.i y.i = 0 then cmpL x.p4.list y.p4.list else Lib.compareInt x.i y.i)
  split
  · split
    · rename_i h; exact h.symm
    · rfl
  · rfl
theorem compare_c (x y : R5) (w : World) : Calls Try.prog 20 #[x.v, y.v] w fun e w' => e = .returned (.int .i64 (cmpR x y)) ∧ Gr w w' := by
  have HC := As.mk (cmpR_or x y)
  dsimp only [R5.v]
  obtain ⟨c0, hc0⟩ : ∃ c0, Lib.compareInt x.i y.i = c0 := ⟨_, rfl⟩
  obtain ⟨c1, hc1⟩ : ∃ c1, cmpL x.p4.list y.p4.list = c1 := ⟨_, rfl⟩
  have H0 := As.mk hc0
  have H1 := As.mk hc1
  rw [hc0, hc1] at HC
  clear hc0 hc1
  have S := ((SH.start w No (fun _ h => h.elim)).box [.int .i64 x.i, .int .i64 x.b, .int .i64 x.r, .int .i64 x.t, .int .i64 x.u] 57).box [.int .i64 y.i, .int .i64 y.b, .int .i64 y.r, .int .i64 y.t, .int .i64 y.u] 57
  have hG := ((Gr.refl w).alloc (.cells [.int .i64 x.i, .int .i64 x.b, .int .i64 x.r, .int .i64 x.t, .int .i64 x.u].toArray 57 (0, 0))).alloc (.cells [.int .i64 y.i, .int .i64 y.b, .int .i64 y.r, .int .i64 y.t, .int .i64 y.u].toArray 57 (0, 0))
  go_enter Try.func20, Try.ntmps20
  go_wp2
  generalize ((w.alloc (.cells [.int .i64 x.i, .int .i64 x.b, .int .i64 x.r, .int .i64 x.t, .int .i64 x.u].toArray 57 (0, 0))).alloc (.cells [.int .i64 y.i, .int .i64 y.b, .int .i64 y.r, .int .i64 y.t, .int .i64 y.u].toArray 57 (0, 0))) = W2 at S hG ⊢
  have HG := As.mk hG.drew
  rw [World.size_alloc] at S
  clear hG
  have hq := S.cellsE; simp only [CellsE, cellsE, Im, Row, El, Nat.zero_add, Nat.reduceAdd] at hq
  refine wp_region_ext [⟨[0, 1, 2, 3, 5, 6, 7, 8], [], 4, true⟩, ⟨[], [], 9, false⟩, ⟨[], [], 10, false⟩, ⟨[], [], 11, false⟩] [12] (by kernel_rfl) (by kernel_rfl) ?_
  refine mix_cons rfl rfl rfl ?_
  simp only [opsAt, List.getD_cons_succ, List.getD_cons_zero]
  repeat (go_big_quiet_step ((intro hC; first | rfl | (go_simp; first | done | rfl))))
  refine wpQuiet_nil ?_
  repeat (go_big_quiet_step ((intro hC; first | rfl | (go_simp; first | done | rfl))))
  refine wpQuiet_nil ?_
  clear hq
  replace S := S.drew
  generalize W2.drew = W3 at S HG ⊢
  go_wp2_with (go_at_call 39; refine (Try.cmp_Compare_int x.i y.i _).mono ?_; rw [H0.out]; rintro e w1 ⟨rfl, rfl⟩)
  refine ⟨by first | (intro _; exact Below.refl _ _) | (intro h; cases h), ?_⟩
  refine mix_cons rfl rfl rfl ?_
  simp only [opsAt, List.getD_cons_succ, List.getD_cons_zero]
  repeat (go_big_quiet_step ((intro hC; first | rfl | (go_simp; first | done | rfl))))
  refine wpQuiet_nil ?_
  repeat (go_big_quiet_step ((intro hC; first | rfl | (go_simp; first | done | rfl))))
  refine wpQuiet_nil ?_
  go_wp2_with (go_at_call 40; refine (occCompare_c x.p4 y.p4 _).mono ?_; rw [H1.out]; rintro e w4 ⟨rfl, hg4⟩)
  have HG4 := As.mk (HG.out.trans hg4)
  replace S := S.ext hg4.ext
  clear hg4 HG
  refine ⟨by first | (intro _; exact Below.refl _ _) | (intro h; cases h), ?_⟩
  refine mix_cons rfl rfl rfl ?_
  simp only [opsAt, List.getD_cons_succ, List.getD_cons_zero]
  repeat (go_big_quiet_step ((intro hC; first | rfl | (go_simp; first | done | rfl))))
  refine wpQuiet_nil ?_
  repeat (go_big_quiet_step ((intro hC; first | rfl | (go_simp; first | done | rfl))))
  refine wpQuiet_nil ?_
  go_wp2
  refine ⟨by first | (intro _; exact Below.refl _ _) | (intro h; cases h), ?_⟩
  refine mix_cons rfl rfl rfl ?_
  simp only [opsAt, List.getD_cons_succ, List.getD_cons_zero]
  repeat (go_big_quiet_step ((intro hC; first | rfl | (go_simp; first | done | rfl))))
  refine wpQuiet_nil ?_
  repeat (go_big_quiet_step ((intro hC; first | rfl | (go_simp; first | done | rfl))))
  refine wpQuiet_nil ?_
  obtain ⟨J, S3, -⟩ := (S.box [.int .i64 c0, .int .i64 c1] 3).lit 0 rfl (k := kI) (xs := [c0, c1]) (Flat.int.2 rfl)
  have hsl := S3.im 0 rfl
  go_wp2_with (go_at_call 38; refine (cmpOr_c [c0, c1] _ 2 _ _ hsl (by simp)).mono ?_; rw [HC.out]; rintro e w1 ⟨rfl, rfl⟩)
  refine ⟨by first | (intro _; exact Below.refl _ _) | (intro h; cases h), ?_⟩
  refine mix_last rfl ?_
  simp only [opsAt, List.getD_cons_succ, List.getD_cons_zero]
  repeat (go_big_quiet_step ((intro hC; first | rfl | (go_simp; first | done | rfl))))
  refine wpQuiet_nil ?_
  simp only [calmQ]
  go_wp2
  go_ret
  exact ⟨rfl, HG4.out.alloc _⟩
end Go.Proofs.Yteaekpnmiicbhaa
