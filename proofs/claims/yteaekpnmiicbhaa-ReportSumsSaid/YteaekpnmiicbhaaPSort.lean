/- Records sorted by the library. -/
import Derived.Test.YteaekpnmiicbhaaSortK
import Derived.Test.YteaekpnmiicbhaaSortL
import Derived.Test.YteaekpnmiicbhaaPCmp
import Derived.Test.YteaekpnmiicbhaaPDcm
namespace Go.Proofs.Yteaekpnmiicbhaa
open Go.RowKit Go.Sort Go.Shelf X
set_option maxHeartbeats 1000000
set_option maxRecDepth 8000
set_option linter.unusedSimpArgs false
set_option linter.unusedVariables false
/-! ### The order -/
theorem cmpL_lt_trans : ∀ (a b c : List Int), a.length = b.length → b.length = c.length → cmpL a b < 0 → cmpL b c < 0 → cmpL a c < 0
  | [], [], [], _, _, h, _ => by simp [cmpL] at h
  | a :: r, b :: s, c :: t, h1, h2, h3, h4 => by
    simp only [List.length_cons, Nat.add_right_cancel_iff] at h1 h2
    have ih := cmpL_lt_trans r s t h1 h2
    simp only [cmpL, Lib.compareInt] at *
    (repeat' split at h3) <;> (repeat' split at h4) <;> (repeat' split) <;> first | omega | (exact ih h3 h4) | skip
theorem cmpL_swap : ∀ (a b : List Int), a.length = b.length → cmpL b a = - cmpL a b
  | [], [], _ => rfl
  | a :: r, b :: s, h => by
    simp only [List.length_cons, Nat.add_right_cancel_iff] at h
    have ih := cmpL_swap r s h
    simp only [cmpL, Lib.compareInt]
    (repeat' split) <;> omega
theorem cmpL_zero : ∀ (a b : List Int), a.length = b.length → cmpL a b = 0 → a = b
  | [], [], _, _ => rfl
  | a :: r, b :: s, h, h0 => by
    simp only [List.length_cons, Nat.add_right_cancel_iff] at h
    simp only [cmpL] at h0
    split at h0
    · rename_i hc
      rw [compareInt_eq hc, cmpL_zero r s h h0]
    · contradiction
theorem R5.list_inj {x y : R5} (h : x.list = y.list) : x = y := by
  obtain ⟨a, b, c, d, e⟩ := x
  obtain ⟨a', b', c', d', e'⟩ := y
  simp only [X.R5.list, List.cons.injEq, and_true] at h
  obtain ⟨rfl, rfl, rfl, rfl, rfl⟩ := h
  rfl
def ltR : R5 → R5 → Bool := ltOf cmpR
theorem ltR_iff (x y : R5) : ltR x y = true ↔ cmpR x y < 0 := by simp [ltR, ltOf]
theorem ltR_not (x y : R5) : ltR x y = false ↔ 0 ≤ cmpR x y := by simp [ltR, ltOf]
theorem cmpR_swap (x y : R5) : cmpR y x = - cmpR x y := cmpL_swap _ _ rfl
theorem cmpR_zero {x y : R5} (h : cmpR x y = 0) : x = y := R5.list_inj (cmpL_zero _ _ rfl h)
theorem cmpR_self (x : R5) : cmpR x x = 0 := cmpL_self _
theorem cmpR_trans {x y z : R5} (h1 : cmpR x y < 0) (h2 : cmpR y z < 0) : cmpR x z < 0 := cmpL_lt_trans x.list y.list z.list rfl rfl h1 h2
theorem swoR : SWO ltR where
  irrefl x := by rw [ltR_not, cmpR_self]; exact Int.le_refl _
  trans x y z h1 h2 := by rw [ltR_iff] at *; exact cmpR_trans h1 h2
  ntrans x y z h1 h2 := by
    rw [ltR_not] at *
    have e1 := cmpR_swap x y
    have e2 := cmpR_swap y z
    have e3 := cmpR_swap x z
    rcases Int.lt_or_eq_of_le h1 with h3 | h3
    · rcases Int.lt_or_eq_of_le h2 with h4 | h4
      · have := @cmpR_trans z y x (by omega) (by omega)
        omega
      · have := cmpR_zero h4.symm
        subst this; omega
    · have := cmpR_zero h3.symm
      subst this; omega
theorem totR (x y : R5) (h1 : ltR x y = false) (h2 : ltR y x = false) : x = y := by
  rw [ltR_not] at *
  have := cmpR_swap x y
  exact cmpR_zero (by omega)
/-- records in their row -/
def sortR (xs : List R5) : List R5 := xs.mergeSort fun x y => !ltR y x
theorem sortR_perm (xs : List R5) : (sortR xs).Perm xs := List.mergeSort_perm _ _
theorem sortR_len (xs : List R5) : (sortR xs).length = xs.length := List.length_mergeSort _
theorem sortR_srt (xs : List R5) : (sortR xs).Pairwise fun x y => cmpR x y ≤ 0 := by
  have := List.pairwise_mergeSort (le := fun x y : R5 => !ltR y x) (fun a b c h1 h2 => by
    simp only [Bool.not_eq_true'] at *
    exact swoR.ntrans _ _ _ h2 h1) (fun a b => by
    simp only [Bool.or_eq_true, Bool.not_eq_true']
    rw [ltR_not, ltR_not]
    have := cmpR_swap a b
    omega) xs
  refine this.imp fun {a b} h => ?_
  simp only [Bool.not_eq_true'] at h
  rw [ltR_not] at h
  have := cmpR_swap a b
  omega
def encR (x : R5) : List Value := x.cells
section
variable {F0 I0 I : Fp} {w0 w : World} {O : List Ob}
theorem sortR_s {v : Value} {xs : List R5} (S : SH F0 I0 w0 O w I) (i : Nat) (e : O[i]? = some (Row kC v xs)) (hn : xs.length ≤ 1000000) :
    Calls Try.prog 58 #[v, .func (.func 20) #[] #[]] w fun e w' => e = .returned (.tuple #[]) ∧ SH F0 I0 w0 (O.set i (Row kC v (sortR xs))) w' I := by
  obtain ⟨A, c, rfl, hc, hg⟩ := (S.own i e).form
  by_cases h0 : xs = []
  · subst h0
    refine (AnyF.slices_SortFunc_none Try.sortR A c (.func (.func 20) #[] #[]) w).mono ?_
    rintro e1 w' ⟨rfl, rfl⟩
    have hs : sortR [] = [] := List.eq_nil_of_length_eq_zero (by rw [sortR_len]; rfl)
    refine ⟨rfl, ?_⟩
    rw [hs]
    exact S.updI i e fun F hF hb => ⟨F, hF, fun k hk => ⟨(hb k hk).1, .inl hk⟩, Chg.refl _ _⟩
  · obtain ⟨g, rfl, -⟩ := hg h0
    have hH := holdsK_of (enc := encR) (fun _ _ _ _ => Iff.rfl) (fun _ => rfl) (by decide) S i e
    have hblk : g < w.heap.size := ((S.own i e).lt (g := g) rfl).2
    have := AnyQ.slices_SortFunc_total Try.sortR 5 (fun _ => by kernel_rfl) (fun _ => by kernel_rfl) encR (fun _ => rfl) (fun x v hv => kC.one (D := No) (w := w) (x := x) rfl v hv) cmpR swoR 20 #[] g 0 c xs.toArray w (enters_of Try.func20 (by kernel_rfl) rfl)
      (fun m os dk hs x y => compare_c x y _) hH hblk (by simp; omega) totR
    rw [show xs.toArray.size = xs.length by simp] at this
    refine this.mono ?_
    rintro e1 w' ⟨rfl, m, os, rfl⟩
    refine ⟨rfl, ?_⟩
    exact S.sortedK (enc := encR) (fun _ _ _ _ => Iff.rfl) (fun _ => rfl) (by decide) i e (sortR xs) (sortR_len xs) m os
end
end Go.Proofs.Yteaekpnmiicbhaa
