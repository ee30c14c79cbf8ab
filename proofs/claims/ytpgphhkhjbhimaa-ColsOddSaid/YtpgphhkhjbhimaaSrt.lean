/- slices.Sort and slices.Equal of ints. -/
import Derived.Test.YtpgphhkhjbhimaaRWor
import Derived.Test.YtpgphhkhjbhimaaShelf
import Derived.Sort.OwnSortedInts
namespace Go.Proofs.Ytpgphhkhjbhimaa
open Go.RowKit X Go.Sort
set_option maxRecDepth 8000
section
variable {F0 I0 I : Fp} {w0 w : World} {O : List Ob}
def sortI (xs : List Int) : List Int := xs.mergeSort fun x y => decide (x ≤ y)
theorem sortI_perm (xs : List Int) : (sortI xs).Perm xs := List.mergeSort_perm _ _
theorem sortI_len (xs : List Int) : (sortI xs).length = xs.length := List.length_mergeSort _
theorem sortI_srt (xs : List Int) : (sortI xs).Pairwise (· ≤ ·) := by
  have := List.pairwise_mergeSort (le := fun x y : Int => decide (x ≤ y)) (fun a b c h1 h2 => by simp only [decide_eq_true_eq] at *; omega) (fun a b => by simp only [Bool.or_eq_true, decide_eq_true_eq]; omega) xs
  exact this.imp fun h => by simpa using h
theorem sort_r {v : Value} {xs : List Int} (S : SH F0 I0 w0 O w I) (i : Nat) (e : O[i]? = some (Row kI v xs)) (hn : xs.length ≤ 1000000) :
    Calls Try.prog 57 #[v] w fun e w' => e = .returned (.tuple #[]) ∧ SH F0 I0 w0 (O.set i (Row kI v (sortI xs))) w' I := by
  obtain ⟨cells, ⟨ho, hnb⟩, hf⟩ := S.own i e
  rcases ho.2 with ⟨hv, h0⟩ | ⟨g, cap, cur, hv, hbase, hh, hle, hmax, hsize, htake⟩
  · have : xs = [] := List.eq_nil_of_length_eq_zero h0
    subst this
    subst hv
    refine (Try.slices_Sort_int_none none 0 w).mono ?_
    rintro e1 w' ⟨rfl, rfl⟩
    have hs : sortI [] = [] := List.eq_nil_of_length_eq_zero (by rw [sortI_len]; rfl)
    refine ⟨rfl, ?_⟩
    rw [hs]
    exact S.updI i e fun F hF hb => ⟨F, hF, fun k hk => ⟨(hb k hk).1, .inl hk⟩, Chg.refl _ _⟩
  · rw [Flat.int] at hf
    subst hv
    have hk1 : (kI).ety = 3 := rfl
    have htk : cur.toList.take xs.length = xs.map (Value.int .i64) := by
      rw [← hf]; exact (by simpa [kI, Kd.int] using htake)
    have hgl := lt_of_heap hh
    refine (Try.slices_Sort_int g 0 cap xs w (holds_of_blockI hh htk) hgl (by omega)).mono ?_
    rintro e1 w' ⟨rfl, n, os, rfl⟩
    refine ⟨rfl, ?_⟩
    refine S.updI i e fun F ⟨_, hF⟩ hb => ⟨F, ⟨?_, fun g' hg' => hF g' hg'⟩, fun k hk => ⟨Nat.lt_of_lt_of_le (hb k hk).1 (grownBy_sortedI (w := w) (g := g) (n := n) (os := os) _).size, .inl hk⟩, Chg.of_grown (grownBy_sortedI _) fun g' hg' => hF g' (by cases hg'; rfl)⟩
    have h2 := ownsRow_sortedI (n := n) (os := os) (ts := sortI xs) (ss := xs) (sortI_len xs) hbase hh hle hmax (by simpa [kI, Kd.int] using hsize)
    have h3 : (sortI xs).length = xs.length := sortI_len xs
    refine ⟨(sortI xs).map (Value.int .i64), ⟨?_, hnb⟩, Flat.int.2 rfl⟩
    rw [h3]
    exact h2
end
end Go.Proofs.Ytpgphhkhjbhimaa
