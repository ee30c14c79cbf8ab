/- The reference's automaton. -/
import Derived.Test.YtooaelpfbamebaaAcP
import Derived.Test.YtooaelpfbamebaaRWor
import Derived.Test.YtooaelpfbamebaaCut
namespace Go.Proofs.Ytooaelpfbamebaa
open Go.RowKit X
set_option maxHeartbeats 2000000
set_option maxRecDepth 8000
set_option linter.unusedSimpArgs false
set_option linter.unusedVariables false
theorem X.Sl.dropI {ety : TypeId} {kd : IntKind} {w : World} {D : Fp} {A : Option Addr} {xs : List Int} (h : Sl (Kd.int ety kd) w D A xs) (lo : Nat) : Sl (Kd.int ety kd) w D (A.map (fun x => x.add lo)) (xs.drop lo) := by
  have := h.cut (l := lo) (hi := xs.length) (c := xs.length + lo + 1) (Nat.le_refl _) (by omega)
  rw [if_neg (by omega), List.take_length] at this
  simpa [Kd.int] using this
theorem X.Sl.dropC {ety : TypeId} {kd : IntKind} {w : World} {D : Fp} {A : Option Addr} {xs : List Int} (h : Sl (Kd.int ety kd) w D A xs) (lo c : Nat) (hc : xs.length ≤ c) : Sl (Kd.int ety kd) w D (if c = lo then A else A.map (fun x => x.add lo)) (xs.drop lo) := by
  have := h.cut (l := lo) (hi := xs.length) (c := c) (Nat.le_refl _) hc
  rw [List.take_length] at this
  simpa [Kd.int] using this
theorem xlast_c (xs ys : List Int) (A B : Option Addr) (c d : Nat) (w : World) (D E : Fp) (hx : Sl kP w D A xs) (hy : Sl kP w E B ys) (hc : xs.length ≤ c) (hd : ys.length ≤ d) (hxl : xs.length ≤ 1000000) (hyl : ys.length ≤ 1000000) :
    Calls Try.prog 29 #[.slice A xs.length c, .slice B ys.length d] w fun e w' => e = .returned (.bool (decide (ys <:+ xs))) ∧ Ext w w' := by
  have HX := As.mk hx
  have HY := As.mk hy
  clear hx hy
  by_cases hl : ys.length ≤ xs.length
  · obtain ⟨lo, hlo⟩ : ∃ lo, xs.length = lo + ys.length := ⟨xs.length - ys.length, by omega⟩
    have HE : As (decide (xs.drop lo = ys) = decide (ys <:+ xs)) := ⟨by
      rw [decide_eq_decide, List.suffix_iff_eq_drop, show xs.length - ys.length = lo by omega]
      exact eq_comm⟩
    have h0 := (HX.out.dropC lo c hc)
    have hlen : (xs.drop lo).length = ys.length := by rw [List.length_drop]; omega
    have HH : As (∀ A2 c2, Sl kP w D A2 (xs.drop lo) → Calls Try.prog 19 #[.slice A2 ys.length c2, .slice B ys.length d] w fun e w' => e = .returned (.bool (decide (ys <:+ xs))) ∧ Ext w w') := ⟨fun A2 c2 h2 => by
      have := sameRow_c (xs.drop lo) ys A2 B c2 d w D E h2 HY.out hyl
      rw [hlen, HE.out] at this
      exact this.mono fun e w' ⟨h1, h2⟩ => ⟨h1, h2.ext⟩⟩
    have H0 := As.mk h0
    clear h0 hlen
    go_enter Try.func29, Try.ntmps29
    go_wp2_with (first | (go_at_call 19; refine (HH.out _ _ H0.out).mono ?_; rintro e w1 ⟨rfl, hx⟩))
    all_goals
      go_ret
      exact ⟨rfl, hx⟩
  · have hl1 : xs.length < ys.length := by omega
    have HE : As (decide (ys <:+ xs) = false) := ⟨by rw [decide_eq_false_iff_not]; intro h; have := h.length_le; omega⟩
    go_enter Try.func29, Try.ntmps29
    go_wp2
    go_ret
    exact ⟨ret_bool HE.out.symm, Ext.refl _⟩
def endK (W : List (List Int)) (x : List Int) (m : Nat) : List Int := ((List.range m).filter (fun i => decide (pa W i <:+ x))).map (fun k : Nat => (k : Int))
theorem endK_yes {W : List (List Int)} {x : List Int} {m : Nat} (h : decide (pa W m <:+ x) = true) : endK W x (m + 1) = endK W x m ++ [(m : Int)] := by
  unfold endK; rw [List.range_succ, List.filter_append, List.filter_cons_of_pos (p := fun i => decide (pa W i <:+ x)) h, List.map_append]; rfl
theorem endK_no {W : List (List Int)} {x : List Int} {m : Nat} (h : decide (pa W m <:+ x) = false) : endK W x (m + 1) = endK W x m := by
  unfold endK; rw [List.range_succ, List.filter_append, List.filter_cons_of_neg (p := fun i => decide (pa W i <:+ x)) (by rw [h]; simp), List.filter_nil, List.append_nil]
theorem endK_le {W : List (List Int)} {x : List Int} {m : Nat} : (endK W x m).length ≤ m := by
  unfold endK
  rw [List.length_map]
  exact Nat.le_trans (List.length_filter_le _ _) (by simp)
end Go.Proofs.Ytooaelpfbamebaa
