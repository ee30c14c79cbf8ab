/- Matrices, images and templates: how they lie in memory. -/
import Derived.Test.YtnmlonicfncpfaaGreatFork
import Derived.Test.YtnmlonicfncpfaaGreatRF
import Derived.Test.YtnmlonicfncpfaaGreatOpen
import Derived.Test.YtnmlonicfncpfaaGreatProg
namespace Go.Proofs.YtnmlonicfncpfaaGreat.X
open Go.RowKit
/-- a number that an int holds -/
def I64 (x : Int) : Prop := -9223372036854775808 ≤ x ∧ x ≤ 9223372036854775807
/-- a matrix -/
structure Mx where
  w : Int
  h : Int
  l : List Int
deriving DecidableEq, Inhabited
/-- an image -/
structure Pic where
  c : Int
  m : Int
  x : Mx
deriving DecidableEq, Inhabited
/-- a template: its image, its turns; the variant of each -/
structure Tm where
  p : Pic
  turns : List Int
  whr : List Int
deriving DecidableEq, Inhabited
/-- the document's -/
structure Tv where
  p : Pic
  turns : List Int
deriving DecidableEq, Inhabited
def Kd.mx (ety : TypeId) (kp : Kd Int) : Kd Mx where
  ety := ety
  size := 3
  rel := fun w D x cs => ∃ A c, cs = [.int .i64 x.w, .int .i64 x.h, .slice A x.l.length c] ∧ x.l.length ≤ c ∧ Sl kp w D A x.l
  keep := fun ⟨A, c, e, l, h⟩ hk => ⟨A, c, e, l, h.keep hk⟩
  weak := fun ⟨A, c, e, l, h⟩ hk => ⟨A, c, e, l, h.weak hk⟩
  len := fun ⟨_, _, e, _⟩ => by subst e; rfl
  one := fun ⟨_, _, e, _⟩ => by subst e; simp [Value.oneCell']
def Kd.pic (ety : TypeId) (kp : Kd Int) : Kd Pic where
  ety := ety
  size := 5
  rel := fun w D x cs => ∃ A c, cs = [.int .i64 x.c, .int .i64 x.m, .int .i64 x.x.w, .int .i64 x.x.h, .slice A x.x.l.length c] ∧ x.x.l.length ≤ c ∧ Sl kp w D A x.x.l
  keep := fun ⟨A, c, e, l, h⟩ hk => ⟨A, c, e, l, h.keep hk⟩
  weak := fun ⟨A, c, e, l, h⟩ hk => ⟨A, c, e, l, h.weak hk⟩
  len := fun ⟨_, _, e, _⟩ => by subst e; rfl
  one := fun ⟨_, _, e, _⟩ => by subst e; simp [Value.oneCell']
def Kd.tm (ety : TypeId) (kp ki : Kd Int) : Kd Tm where
  ety := ety
  size := 7
  rel := fun w D x cs => ∃ A c B d C e, cs = [.int .i64 x.p.c, .int .i64 x.p.m, .int .i64 x.p.x.w, .int .i64 x.p.x.h, .slice A x.p.x.l.length c, .slice B x.turns.length d, .slice C x.whr.length e] ∧ (x.p.x.l.length ≤ c ∧ Sl kp w D A x.p.x.l) ∧ (x.turns.length ≤ d ∧ Sl ki w D B x.turns) ∧ x.whr.length ≤ e ∧ Sl ki w D C x.whr
  keep := fun ⟨A, c, B, d, C, f, e, ⟨l, h⟩, ⟨l2, h2⟩, l3, h3⟩ hk => ⟨A, c, B, d, C, f, e, ⟨l, h.keep hk⟩, ⟨l2, h2.keep hk⟩, l3, h3.keep hk⟩
  weak := fun ⟨A, c, B, d, C, f, e, ⟨l, h⟩, ⟨l2, h2⟩, l3, h3⟩ hk => ⟨A, c, B, d, C, f, e, ⟨l, h.weak hk⟩, ⟨l2, h2.weak hk⟩, l3, h3.weak hk⟩
  len := fun ⟨_, _, _, _, _, _, e, _⟩ => by subst e; rfl
  one := fun ⟨_, _, _, _, _, _, e, _⟩ => by subst e; simp [Value.oneCell']
def Kd.tv (ety : TypeId) (kp ki : Kd Int) : Kd Tv where
  ety := ety
  size := 6
  rel := fun w D x cs => ∃ A c B d, cs = [.int .i64 x.p.c, .int .i64 x.p.m, .int .i64 x.p.x.w, .int .i64 x.p.x.h, .slice A x.p.x.l.length c, .slice B x.turns.length d] ∧ (x.p.x.l.length ≤ c ∧ Sl kp w D A x.p.x.l) ∧ x.turns.length ≤ d ∧ Sl ki w D B x.turns
  keep := fun ⟨A, c, B, d, e, ⟨l, h⟩, l2, h2⟩ hk => ⟨A, c, B, d, e, ⟨l, h.keep hk⟩, l2, h2.keep hk⟩
  weak := fun ⟨A, c, B, d, e, ⟨l, h⟩, l2, h2⟩ hk => ⟨A, c, B, d, e, ⟨l, h.weak hk⟩, l2, h2.weak hk⟩
  len := fun ⟨_, _, _, _, e, _⟩ => by subst e; rfl
  one := fun ⟨_, _, _, _, e, _⟩ => by subst e; simp [Value.oneCell']
/-- two numbers -/
def Kd.two (ety : TypeId) : Kd (Int × Int) where
  ety := ety
  size := 2
  rel := fun _ _ x cs => cs = [.int .i64 x.1, .int .i64 x.2]
  keep := fun h _ => h
  weak := fun h _ => h
  len := fun h => by subst h; rfl
  one := fun h => by subst h; simp [Value.oneCell']
section
variable {ety : TypeId} {kp ki : Kd Int} {w : World} {D : Nat → Prop} {A0 : Option Addr} {b o : Nat}
theorem Sl.mx_at {xs : List Mx} (h : Sl (Kd.mx ety kp) w D A0 xs) {i : Nat} {y : Mx} (hi : xs[i]? = some y) :
    ∃ b o A c, A0 = some ⟨b, o, none⟩ ∧ w.cell? ⟨b, o + i * 3, none⟩ = some (.int .i64 y.w) ∧ w.cell? ⟨b, o + i * 3 + 1, none⟩ = some (.int .i64 y.h) ∧ w.cell? ⟨b, o + i * 3 + 2, none⟩ = some (.slice A y.l.length c) ∧ y.l.length ≤ c ∧ Sl kp w D A y.l := by
  obtain ⟨hl, rfl⟩ := List.getElem?_eq_some_iff.1 hi
  obtain ⟨b, o, cs, rfl, hb, hd, ⟨A, c, rfl, h1, h2⟩, hl, hc⟩ := h i hl
  exact ⟨b, o, A, c, rfl, hc 0 _ rfl, hc 1 _ rfl, hc 2 _ rfl, h1, h2⟩
theorem Sl.pic_at {xs : List Pic} (h : Sl (Kd.pic ety kp) w D A0 xs) {i : Nat} {y : Pic} (hi : xs[i]? = some y) :
    ∃ b o A c, A0 = some ⟨b, o, none⟩ ∧ (w.cell? ⟨b, o + i * 5, none⟩ = some (.int .i64 y.c) ∧ w.cell? ⟨b, o + i * 5 + 1, none⟩ = some (.int .i64 y.m) ∧ w.cell? ⟨b, o + i * 5 + 2, none⟩ = some (.int .i64 y.x.w) ∧ w.cell? ⟨b, o + i * 5 + 3, none⟩ = some (.int .i64 y.x.h) ∧ w.cell? ⟨b, o + i * 5 + 4, none⟩ = some (.slice A y.x.l.length c)) ∧ y.x.l.length ≤ c ∧ Sl kp w D A y.x.l := by
  obtain ⟨hl, rfl⟩ := List.getElem?_eq_some_iff.1 hi
  obtain ⟨b, o, cs, rfl, hb, hd, ⟨A, c, rfl, h1, h2⟩, hl, hc⟩ := h i hl
  exact ⟨b, o, A, c, rfl, ⟨hc 0 _ rfl, hc 1 _ rfl, hc 2 _ rfl, hc 3 _ rfl, hc 4 _ rfl⟩, h1, h2⟩
theorem Sl.tm_at {xs : List Tm} (h : Sl (Kd.tm ety kp ki) w D A0 xs) {i : Nat} {y : Tm} (hi : xs[i]? = some y) :
    ∃ b o A c B d C e, A0 = some ⟨b, o, none⟩ ∧ (w.cell? ⟨b, o + i * 7, none⟩ = some (.int .i64 y.p.c) ∧ w.cell? ⟨b, o + i * 7 + 1, none⟩ = some (.int .i64 y.p.m) ∧ w.cell? ⟨b, o + i * 7 + 2, none⟩ = some (.int .i64 y.p.x.w) ∧ w.cell? ⟨b, o + i * 7 + 3, none⟩ = some (.int .i64 y.p.x.h) ∧ w.cell? ⟨b, o + i * 7 + 4, none⟩ = some (.slice A y.p.x.l.length c) ∧ w.cell? ⟨b, o + i * 7 + 5, none⟩ = some (.slice B y.turns.length d) ∧ w.cell? ⟨b, o + i * 7 + 6, none⟩ = some (.slice C y.whr.length e)) ∧ (y.p.x.l.length ≤ c ∧ Sl kp w D A y.p.x.l) ∧ (y.turns.length ≤ d ∧ Sl ki w D B y.turns) ∧ y.whr.length ≤ e ∧ Sl ki w D C y.whr := by
  obtain ⟨hl, rfl⟩ := List.getElem?_eq_some_iff.1 hi
  obtain ⟨b, o, cs, rfl, hb, hd, ⟨A, c, B, d, C, e, rfl, h1, h2, h3⟩, hl, hc⟩ := h i hl
  exact ⟨b, o, A, c, B, d, C, e, rfl, ⟨hc 0 _ rfl, hc 1 _ rfl, hc 2 _ rfl, hc 3 _ rfl, hc 4 _ rfl, hc 5 _ rfl, hc 6 _ rfl⟩, h1, h2, h3⟩
theorem Sl.tv_at {xs : List Tv} (h : Sl (Kd.tv ety kp ki) w D A0 xs) {i : Nat} {y : Tv} (hi : xs[i]? = some y) :
    ∃ b o A c B d, A0 = some ⟨b, o, none⟩ ∧ (w.cell? ⟨b, o + i * 6, none⟩ = some (.int .i64 y.p.c) ∧ w.cell? ⟨b, o + i * 6 + 1, none⟩ = some (.int .i64 y.p.m) ∧ w.cell? ⟨b, o + i * 6 + 2, none⟩ = some (.int .i64 y.p.x.w) ∧ w.cell? ⟨b, o + i * 6 + 3, none⟩ = some (.int .i64 y.p.x.h) ∧ w.cell? ⟨b, o + i * 6 + 4, none⟩ = some (.slice A y.p.x.l.length c) ∧ w.cell? ⟨b, o + i * 6 + 5, none⟩ = some (.slice B y.turns.length d)) ∧ (y.p.x.l.length ≤ c ∧ Sl kp w D A y.p.x.l) ∧ y.turns.length ≤ d ∧ Sl ki w D B y.turns := by
  obtain ⟨hl, rfl⟩ := List.getElem?_eq_some_iff.1 hi
  obtain ⟨b, o, cs, rfl, hb, hd, ⟨A, c, B, d, rfl, h1, h2⟩, hl, hc⟩ := h i hl
  exact ⟨b, o, A, c, B, d, rfl, ⟨hc 0 _ rfl, hc 1 _ rfl, hc 2 _ rfl, hc 3 _ rfl, hc 4 _ rfl, hc 5 _ rfl⟩, h1, h2⟩
theorem Sl.two_at {xs : List (Int × Int)} (h : Sl (Kd.two ety) w D A0 xs) {i : Nat} {y : Int × Int} (hi : xs[i]? = some y) :
    ∃ b o, A0 = some ⟨b, o, none⟩ ∧ w.cell? ⟨b, o + i * 2, none⟩ = some (.int .i64 y.1) ∧ w.cell? ⟨b, o + i * 2 + 1, none⟩ = some (.int .i64 y.2) := by
  obtain ⟨hl, rfl⟩ := List.getElem?_eq_some_iff.1 hi
  obtain ⟨b, o, cs, rfl, hb, hd, rfl, hl, hc⟩ := h i hl
  exact ⟨b, o, rfl, hc 0 _ rfl, hc 1 _ rfl⟩
theorem Sl.num_at {ik : IntKind} {xs : List Int} (h : Sl (Kd.int ety ik) w D A0 xs) {i : Nat} {y : Int} (hi : xs[i]? = some y) :
    ∃ b o, A0 = some ⟨b, o, none⟩ ∧ w.cell? ⟨b, o + i, none⟩ = some (.int ik y) := by
  obtain ⟨hl, rfl⟩ := List.getElem?_eq_some_iff.1 hi
  obtain ⟨b, o, cs, rfl, hb, hd, rfl, hl, hc⟩ := h i hl
  exact ⟨b, o, rfl, by simpa [Kd.int] using hc 0 _ rfl⟩
theorem Sl.tk {α : Type} {k : Kd α} {xs : List α} (h : Sl k w D A0 xs) (n : Nat) : Sl k w D A0 (xs.take n) := by
  intro i hi
  rw [List.length_take] at hi
  obtain ⟨b, o, cs, e, hb, hd, hr, hl, hc⟩ := h i (by omega)
  exact ⟨b, o, cs, e, hb, hd, by rw [List.getElem_take]; exact hr, hl, hc⟩
end
/-- modulo, from 0 on -/
def aroundI (n m : Int) : Int := (if n < 0 then -(n + 1) else n) % m
theorem aroundI_range {n m : Int} (hm : 0 < m) : 0 ≤ aroundI n m ∧ aroundI n m < m := ⟨Int.emod_nonneg _ (by omega), Int.emod_lt_of_pos _ hm⟩
end Go.Proofs.YtnmlonicfncpfaaGreat.X
namespace Go.Proofs.YtnmlonicfncpfaaGreat
open Go.RowKit X
set_option maxHeartbeats 1000000
set_option maxRecDepth 8000
set_option linter.unusedSimpArgs false
set_option linter.unusedVariables false
abbrev kI : Kd Int := Kd.int 3 .i64
abbrev kP : Kd Int := Kd.int 52 .u64
abbrev kM : Kd Mx := Kd.mx 34 kP
abbrev kG : Kd Pic := Kd.pic 36 kP
abbrev kT : Kd Tm := Kd.tm 76 kP kI
abbrev kyG : Kd Pic := Kd.pic 40 kP
abbrev kyT : Kd Tv := Kd.tv 43 kP kI
abbrev kO : Kd (Int × Int) := Kd.two 101
theorem ty_ints : TyOk Tryz.prog 41 kI 8 := TyOk.mk' (size := 1) (z := .int .i64 0) Tryz.underlying41 (by kernel_rfl) rfl rfl (by decide)
theorem ty_pixs : TyOk Tryz.prog 32 kP 8 := TyOk.mk' (size := 1) (z := .int .u64 0) Tryz.underlying32 (by kernel_rfl) rfl rfl (by decide)
theorem ty_mxs : TyOk Tryz.prog 77 kM 40 := TyOk.mk' (size := 3) (z := .agg #[.int .i64 0, .int .i64 0, .slice none 0 0]) Tryz.underlying77 (by kernel_rfl) rfl rfl (by decide)
theorem ty_pics : TyOk Tryz.prog 65 kG 56 := TyOk.mk' (size := 5) (z := .agg #[.int .i64 0, .int .i64 0, .int .i64 0, .int .i64 0, .slice none 0 0]) Tryz.underlying65 (by kernel_rfl) rfl rfl (by decide)
theorem ty_tmps : TyOk Tryz.prog 64 kT 104 := TyOk.mk' (size := 7) (z := .agg #[.int .i64 0, .int .i64 0, .int .i64 0, .int .i64 0, .slice none 0 0, .slice none 0 0, .slice none 0 0]) Tryz.underlying64 (by kernel_rfl) rfl rfl (by decide)
theorem ty_ypics : TyOk Tryz.prog 89 kyG 56 := TyOk.mk' (size := 5) (z := .agg #[.int .i64 0, .int .i64 0, .int .i64 0, .int .i64 0, .slice none 0 0]) Tryz.underlying89 (by kernel_rfl) rfl rfl (by decide)
theorem ty_ytvs : TyOk Tryz.prog 23 kyT 80 := TyOk.mk' (size := 6) (z := .agg #[.int .i64 0, .int .i64 0, .int .i64 0, .int .i64 0, .slice none 0 0, .slice none 0 0]) Tryz.underlying23 (by kernel_rfl) rfl rfl (by decide)
theorem ty_owners : TyOk Tryz.prog 96 kO 16 := TyOk.mk' (size := 2) (z := .agg #[.int .i64 0, .int .i64 0]) Tryz.underlying96 (by kernel_rfl) rfl rfl (by decide)
theorem around_c (n m : Int) (w : World) (hn : I64 n) (hm : 0 < m) (hm2 : m ≤ 4611686018427387904) : Calls Tryz.prog 14 #[.int .i64 n, .int .i64 m] w fun e w' => e = .returned (.int .i64 (aroundI n m)) ∧ w = w' := by
  obtain ⟨h1, h2⟩ := hn
  have hm0 : (m == 0) = false := by rw [beq_eq_false_iff_ne]; omega
  by_cases h : n < 0
  · have h' : decide (n < 0) = true := by simpa using h
    have e : aroundI n m = -(n + 1).tmod m := by unfold aroundI; rw [if_pos h, ← Int.neg_tmod, Int.tmod_eq_emod_of_nonneg (by omega)]
    have h3 := Int.tmod_lt_of_pos (-(n + 1)) hm
    have h4 := Int.tmod_nonneg m (show 0 ≤ -(n + 1) by omega)
    rw [Int.neg_tmod] at h3 h4
    rw [e]
    go_enter Tryz.func14, Tryz.ntmps14
    go_wp2
    go_ret
    exact ⟨rfl, rfl⟩
  · have h' : decide (n < 0) = false := by simpa using h
    have e : aroundI n m = n % m := by unfold aroundI; rw [if_neg h]
    rw [e]
    have := Int.tmod_lt_of_pos n hm
    have := Int.tmod_nonneg m (show 0 ≤ n by omega)
    go_enter Tryz.func14, Tryz.ntmps14
    go_wp2
    go_ret
    exact ⟨rfl, rfl⟩
end Go.Proofs.YtnmlonicfncpfaaGreat
