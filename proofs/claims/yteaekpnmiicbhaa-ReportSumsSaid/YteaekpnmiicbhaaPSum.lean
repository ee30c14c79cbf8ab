/- Sums by their keys: the order, the library's sort. -/
import Derived.Test.YteaekpnmiicbhaaPSort
namespace Go.Proofs.Yteaekpnmiicbhaa
open Go.RowKit Go.Sort Go.Shelf X
set_option maxHeartbeats 1000000
set_option maxRecDepth 8000
set_option linter.unusedSimpArgs false
set_option linter.unusedVariables false
/-- a sum's key: the label, the turn -/
abbrev Key := Int × Int
def keyL (x : Key) : List Int := [x.1, x.2]
def cmpS (x y : Key) : Int := cmpL (keyL x) (keyL y)
theorem keyL_inj {x y : Key} (h : keyL x = keyL y) : x = y := by
  obtain ⟨a, b⟩ := x
  obtain ⟨a', b'⟩ := y
  simp only [keyL, List.cons.injEq, and_true] at h
  obtain ⟨rfl, rfl⟩ := h
  rfl
def ltS : Key → Key → Bool := ltOf cmpS
theorem ltS_iff (x y : Key) : ltS x y = true ↔ cmpS x y < 0 := by simp [ltS, ltOf]
theorem ltS_not (x y : Key) : ltS x y = false ↔ 0 ≤ cmpS x y := by simp [ltS, ltOf]
theorem cmpS_swap (x y : Key) : cmpS y x = - cmpS x y := cmpL_swap _ _ rfl
theorem cmpS_zero {x y : Key} (h : cmpS x y = 0) : x = y := keyL_inj (cmpL_zero _ _ rfl h)
theorem cmpS_self (x : Key) : cmpS x x = 0 := cmpL_self _
theorem cmpS_trans {x y z : Key} (h1 : cmpS x y < 0) (h2 : cmpS y z < 0) : cmpS x z < 0 := cmpL_lt_trans (keyL x) (keyL y) (keyL z) rfl rfl h1 h2
theorem swoS : SWO ltS where
  irrefl x := by rw [ltS_not, cmpS_self]; exact Int.le_refl _
  trans x y z h1 h2 := by rw [ltS_iff] at *; exact cmpS_trans h1 h2
  ntrans x y z h1 h2 := by
    rw [ltS_not] at *
    have e1 := cmpS_swap x y
    have e2 := cmpS_swap y z
    have e3 := cmpS_swap x z
    rcases Int.lt_or_eq_of_le h1 with h3 | h3
    · rcases Int.lt_or_eq_of_le h2 with h4 | h4
      · have := @cmpS_trans z y x (by omega) (by omega)
        omega
      · have := cmpS_zero h4.symm
        subst this; omega
    · have := cmpS_zero h3.symm
      subst this; omega
theorem totS (x y : Key) (h1 : ltS x y = false) (h2 : ltS y x = false) : x = y := by
  rw [ltS_not] at *
  have := cmpS_swap x y
  exact cmpS_zero (by omega)
def sortS (xs : List Key) : List Key := xs.mergeSort fun x y => !ltS y x
theorem sortS_perm (xs : List Key) : (sortS xs).Perm xs := List.mergeSort_perm _ _
theorem sortS_len (xs : List Key) : (sortS xs).length = xs.length := List.length_mergeSort _
theorem sortS_srt (xs : List Key) : (sortS xs).Pairwise fun x y => cmpS x y ≤ 0 := by
  have := List.pairwise_mergeSort (le := fun x y : Key => !ltS y x) (fun a b c h1 h2 => by
    simp only [Bool.not_eq_true'] at *
    exact swoS.ntrans _ _ _ h2 h1) (fun a b => by
    simp only [Bool.or_eq_true, Bool.not_eq_true']
    rw [ltS_not, ltS_not]
    have := cmpS_swap a b
    omega) xs
  refine this.imp fun {a b} h => ?_
  simp only [Bool.not_eq_true'] at h
  rw [ltS_not] at h
  have := cmpS_swap a b
  omega
theorem cmpS_or (x y : Key) : orI [Lib.compareInt x.1 y.1, Lib.compareInt x.2 y.2] = cmpS x y := by
  show (if Lib.compareInt x.1 y.1 = 0 then (if Lib.compareInt x.2 y.2 = 0 then 0 else Lib.compareInt x.2 y.2) else Lib.compareInt x.1 y.1) = (if Lib.compareInt x.1 y.1 = 0 then (if Lib.compareInt x.2 y.2 = 0 then 0 else Lib.compareInt x.2 y.2) else Lib.compareInt x.1 y.1)
  rfl
/-- sums as their keys; the counts are a function of the key -/
def encS (f : Key → Int) (x : Key) : List Value := [.int .i64 x.1, .int .i64 x.2, .int .i64 (f x)]
def kSf (f : Key → Int) : Kd Key where
  ety := 50
  size := 3
  rel := fun _ _ x cs => cs = encS f x
  keep := fun h _ => h
  weak := fun h _ => h
  len := fun h => by subst h; rfl
  one := fun h => by subst h; simp [encS, Value.oneCell']
theorem ty_sums (f : Key → Int) : TyOk Try.prog 43 (kSf f) 24 := TyOk.mk' (size := 3) (z := .agg #[.int .i64 0, .int .i64 0, .int .i64 0]) Try.underlying43 (by kernel_rfl) rfl rfl (by decide)
theorem sumclo_c (x y : Key) (m n : Int) (w : World) : Calls Try.prog 37 #[.agg #[.int .i64 x.1, .int .i64 x.2, .int .i64 m], .agg #[.int .i64 y.1, .int .i64 y.2, .int .i64 n]] w fun e w' => e = .returned (.int .i64 (cmpS x y)) ∧ Gr w w' := by
  have HC := As.mk (cmpS_or x y)
  obtain ⟨c0, hc0⟩ : ∃ c0, Lib.compareInt x.1 y.1 = c0 := ⟨_, rfl⟩
  obtain ⟨c1, hc1⟩ : ∃ c1, Lib.compareInt x.2 y.2 = c1 := ⟨_, rfl⟩
  have H0 := As.mk hc0
  have H1 := As.mk hc1
  rw [hc0, hc1] at HC
  clear hc0 hc1
  obtain ⟨x0, hx0⟩ : ∃ x0, x.1 = x0 := ⟨_, rfl⟩
  obtain ⟨x1, hx1⟩ : ∃ x1, x.2 = x1 := ⟨_, rfl⟩
  obtain ⟨y0, hy0⟩ : ∃ y0, y.1 = y0 := ⟨_, rfl⟩
  obtain ⟨y1, hy1⟩ : ∃ y1, y.2 = y1 := ⟨_, rfl⟩
  rw [hx0, hy0] at H0
  rw [hx1, hy1] at H1
  rw [hx0, hx1, hy0, hy1]
  obtain ⟨q, hq⟩ : ∃ q, cmpS x y = q := ⟨_, rfl⟩
  rw [hq] at HC ⊢
  clear hx0 hx1 hy0 hy1 hq
  have S := ((SH.start w No (fun _ h => h.elim)).box [.int .i64 x0, .int .i64 x1, .int .i64 m] 50).box [.int .i64 y0, .int .i64 y1, .int .i64 n] 50
  have hG := ((Gr.refl w).alloc (.cells [.int .i64 x0, .int .i64 x1, .int .i64 m].toArray 50 (0, 0))).alloc (.cells [.int .i64 y0, .int .i64 y1, .int .i64 n].toArray 50 (0, 0))
  go_enter Try.func37, Try.ntmps37
  go_wp2
  generalize ((w.alloc (.cells [.int .i64 x0, .int .i64 x1, .int .i64 m].toArray 50 (0, 0))).alloc (.cells [.int .i64 y0, .int .i64 y1, .int .i64 n].toArray 50 (0, 0))) = W2 at S hG ⊢
  have HG := As.mk hG.drew
  rw [World.size_alloc] at S
  clear hG
  have hq := S.cellsE; simp only [CellsE, cellsE, Im, Row, El, Nat.zero_add, Nat.reduceAdd] at hq
  refine wp_region_ext [⟨[0, 1, 2, 3, 5, 6, 7, 8], [], 4, true⟩, ⟨[], [], 9, false⟩, ⟨[], [], 10, false⟩, ⟨[], [], 11, false⟩] [12] (by kernel_rfl) (by kernel_rfl) ?_
  refine mix_cons rfl rfl rfl ?_
  simp only [opsAt, List.getD_cons_succ, List.getD_cons_zero]
  repeat (go_big_quiet_step ((intro hC; first | rfl | (go_simp; first | done | rfl))))
  refine wpQuiet_nil ?_
  repeat (go_big_quiet_step ((intro hC; first | rfl | (go_simp; first | done | rfl))))
  refine wpQuiet_nil ?_
  clear hq
  replace S := S.drew
  generalize W2.drew = W3 at S HG ⊢
  go_wp2_with (go_at_call 39; refine (Try.cmp_Compare_int x0 y0 _).mono ?_; rw [H0.out]; rintro e w1 ⟨rfl, rfl⟩)
  refine ⟨by first | (intro _; exact Below.refl _ _) | (intro h; cases h), ?_⟩
  refine mix_cons rfl rfl rfl ?_
  simp only [opsAt, List.getD_cons_succ, List.getD_cons_zero]
  repeat (go_big_quiet_step ((intro hC; first | rfl | (go_simp; first | done | rfl))))
  refine wpQuiet_nil ?_
  repeat (go_big_quiet_step ((intro hC; first | rfl | (go_simp; first | done | rfl))))
  refine wpQuiet_nil ?_
  go_wp2_with (go_at_call 39; refine (Try.cmp_Compare_int x1 y1 _).mono ?_; rw [H1.out]; rintro e w1 ⟨rfl, rfl⟩)
  refine ⟨by first | (intro _; exact Below.refl _ _) | (intro h; cases h), ?_⟩
  refine mix_cons rfl rfl rfl ?_
  simp only [opsAt, List.getD_cons_succ, List.getD_cons_zero]
  repeat (go_big_quiet_step ((intro hC; first | rfl | (go_simp; first | done | rfl))))
  refine wpQuiet_nil ?_
  repeat (go_big_quiet_step ((intro hC; first | rfl | (go_simp; first | done | rfl))))
  refine wpQuiet_nil ?_
  go_wp2
  refine ⟨by first | (intro _; exact Below.refl _ _) | (intro h; cases h), ?_⟩
  refine mix_cons rfl rfl rfl ?_
  simp only [opsAt, List.getD_cons_succ, List.getD_cons_zero]
  repeat (go_big_quiet_step ((intro hC; first | rfl | (go_simp; first | done | rfl))))
  refine wpQuiet_nil ?_
  repeat (go_big_quiet_step ((intro hC; first | rfl | (go_simp; first | done | rfl))))
  refine wpQuiet_nil ?_
  obtain ⟨J, S3, -⟩ := (S.box [.int .i64 c0, .int .i64 c1] 3).lit 0 rfl (k := kI) (xs := [c0, c1]) (Flat.int.2 rfl)
  have hsl := S3.im 0 rfl
  go_wp2_with (go_at_call 38; refine (cmpOr_c [c0, c1] _ 2 _ _ hsl (by simp)).mono ?_; rw [HC.out]; rintro e w1 ⟨rfl, rfl⟩)
  refine ⟨by first | (intro _; exact Below.refl _ _) | (intro h; cases h), ?_⟩
  refine mix_last rfl ?_
  simp only [opsAt, List.getD_cons_succ, List.getD_cons_zero]
  repeat (go_big_quiet_step ((intro hC; first | rfl | (go_simp; first | done | rfl))))
  refine wpQuiet_nil ?_
  simp only [calmQ]
  go_wp2
  go_ret
  exact ⟨rfl, HG.out.alloc _⟩
section
variable {F0 I0 I : Fp} {w0 w : World} {O : List Ob}
theorem sortS_s (f : Key → Int) {v : Value} {xs : List Key} (S : SH F0 I0 w0 O w I) (i : Nat) (e : O[i]? = some (Row (kSf f) v xs)) (hn : xs.length ≤ 1000000) :
    Calls Try.prog 36 #[v, .func (.func 37) #[] #[]] w fun e w' => e = .returned (.tuple #[]) ∧ SH F0 I0 w0 (O.set i (Row (kSf f) v (sortS xs))) w' I := by
  obtain ⟨A, c, rfl, hc, hg⟩ := (S.own i e).form
  by_cases h0 : xs = []
  · subst h0
    refine (AnyF.slices_SortFunc_none Try.sortS A c (.func (.func 37) #[] #[]) w).mono ?_
    rintro e1 w' ⟨rfl, rfl⟩
    have hs : sortS [] = [] := List.eq_nil_of_length_eq_zero (by rw [sortS_len]; rfl)
    refine ⟨rfl, ?_⟩
    rw [hs]
    exact S.updI i e fun F hF hb => ⟨F, hF, fun k hk => ⟨(hb k hk).1, .inl hk⟩, Chg.refl _ _⟩
  · obtain ⟨g, rfl, -⟩ := hg h0
    have hH := holdsK_of (k := kSf f) (enc := encS f) (fun _ _ _ _ => Iff.rfl) (fun _ => rfl) (show 0 < 3 by decide) S i e
    have hblk : g < w.heap.size := ((S.own i e).lt (g := g) rfl).2
    have := AnyQ.slices_SortFunc_total Try.sortS 3 (fun _ => by kernel_rfl) (fun _ => by kernel_rfl) (encS f) (fun _ => rfl) (fun x v hv => (kSf f).one (D := No) (w := w) (x := x) rfl v hv) cmpS swoS 37 #[] g 0 c xs.toArray w (enters_of Try.func37 (by kernel_rfl) rfl)
      (fun m os dk hs x y => sumclo_c x y _ _ _) hH hblk (by simp; omega) totS
    rw [show xs.toArray.size = xs.length by simp] at this
    refine this.mono ?_
    rintro e1 w' ⟨rfl, m, os, rfl⟩
    refine ⟨rfl, ?_⟩
    exact S.sortedK (k := kSf f) (enc := encS f) (fun _ _ _ _ => Iff.rfl) (fun _ => rfl) (show 0 < 3 by decide) i e (sortS xs) (sortS_len xs) m os
end
end Go.Proofs.Yteaekpnmiicbhaa
