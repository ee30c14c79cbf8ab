/- Rows of ints alike; the words that end at a node. -/
import Derived.Test.YtpgphhkhjbhimaaRLev
namespace Go.Proofs.Ytpgphhkhjbhimaa
open Go.RowKit X
set_option maxHeartbeats 2000000
set_option maxRecDepth 8000
set_option linter.unusedSimpArgs false
set_option linter.unusedVariables false
theorem sameI_c (xs ys : List Int) (A B : Option Addr) (c d : Nat) (w : World) (D E : Nat → Prop) (hx : Sl kI w D A xs) (hy : Sl kI w E B ys) (hyl : ys.length ≤ 1000000) :
    Calls Try.prog 15 #[.slice A xs.length c, .slice B ys.length d] w fun e w' => e = .returned (.bool (decide (xs = ys))) ∧ Qt w w' := by
  by_cases hn : xs.length = ys.length
  · have H1 := As.mk hn
    have hq : (((xs.length : Int) != (ys.length : Int))) = false := by simp [hn]
    have hle : xs.length ≤ ys.length := by omega
    clear hn
    have HX := As.mk hx
    have HY := As.mk hy
    clear hx hy
    go_enter Try.func15, Try.ntmps15
    go_wp2
    go_loopw [5] (fun i w' => ∃ k : Nat, k ≤ xs.length ∧ i = .int .i64 k ∧ As (∀ t, t < k → xs[t]? = ys[t]?) ∧ As (Qt w w')) (fun i _ => xs.length - (intOf i).toNat)
    case atStart => exact ⟨0, Nat.zero_le _, rfl, ⟨fun t ht => absurd ht (Nat.not_lt_zero t)⟩, ⟨Qt.refl w⟩⟩
    case round =>
      obtain ⟨k, hk, rfl, HK, HQ⟩ := hrel
      by_cases hlt : k < xs.length
      · have hlt' : decide ((k : Int) < xs.length) = true := by simpa using hlt
        have hk2 : k < ys.length := by omega
        obtain ⟨m, rfl⟩ := HQ.out
        obtain ⟨b, o, rfl, hc⟩ := HX.out.int_at hlt
        obtain ⟨b', o', rfl, hc'⟩ := HY.out.int_at (i := k) hk2
        by_cases he : xs[k] = ys[k]
        · have he' : (xs[k] != ys[k]) = false := by simp [he]
          have HE := As.mk he
          clear he
          go_wp2
          go_quiet (fail)
          go_wp2
          go_roundw
          case rel =>
            refine ⟨k + 1, by omega, by go_num, ⟨fun t ht => ?_⟩, ⟨?_⟩⟩
            · rcases Nat.lt_or_eq_of_le (Nat.le_of_lt_succ ht) with h | h
              · exact HK.out t h
              · subst h; rw [List.getElem?_eq_getElem hlt, List.getElem?_eq_getElem hk2, HE.out]
            · exact ⟨_, rfl⟩
          case measure => simp [intOf]; omega
        · have he' : (xs[k] != ys[k]) = true := by simp [he]
          have HE := As.mk he
          clear he
          go_wp2
          go_quiet (fail)
          go_wp2
          go_ret
          refine ⟨ret_bool ?_, HQ.out.trans ⟨_, rfl⟩⟩
          symm
          rw [decide_eq_false_iff_not]
          rintro rfl
          exact HE.out rfl
      · have hlt' : decide ((k : Int) < xs.length) = false := by simpa using hlt
        go_wp2
        go_ret
        refine ⟨ret_bool ?_, HQ.out⟩
        symm
        rw [decide_eq_true_iff]
        apply List.ext_getElem?
        intro t
        rcases Nat.lt_or_ge t k with h | h
        · exact HK.out t h
        · rw [List.getElem?_eq_none (by omega), List.getElem?_eq_none (by have := H1.out; omega)]
  · have H1 := As.mk hn
    have hq : (((xs.length : Int) != (ys.length : Int))) = true := by simp; omega
    clear hn hx hy
    go_enter Try.func15, Try.ntmps15
    go_wp2
    go_ret
    refine ⟨ret_bool ?_, Qt.refl w⟩
    symm
    rw [decide_eq_false_iff_not]
    rintro rfl
    exact H1.out rfl


theorem sameRow_e (xs : List Int) (A B : Option Addr) (c d : Nat) (w : World) (D E : Nat → Prop) (hx : Sl kP w D A xs) (hy : Sl kP w E B xs) (hyl : xs.length ≤ 1000000) :
    Calls Try.prog 58 #[.slice A xs.length c, .slice B xs.length d] w fun e w' => e = .returned (.bool true) ∧ Qt w w' := by
  refine (sameRow_c xs xs A B c d w D E hx hy hyl).mono ?_
  rintro e w' ⟨rfl, h⟩
  exact ⟨ret_bool (by simp), h⟩
theorem sameI_e (xs : List Int) (A B : Option Addr) (c d : Nat) (w : World) (D E : Nat → Prop) (hx : Sl kI w D A xs) (hy : Sl kI w E B xs) (hyl : xs.length ≤ 1000000) :
    Calls Try.prog 15 #[.slice A xs.length c, .slice B xs.length d] w fun e w' => e = .returned (.bool true) ∧ Qt w w' := by
  refine (sameI_c xs xs A B c d w D E hx hy hyl).mono ?_
  rintro e w' ⟨rfl, h⟩
  exact ⟨ret_bool (by simp), h⟩
theorem wsR_eq (L W : List (List Int)) (n : Int) : wsR L W n = ((List.range W.length).filter (fun k => decide (findT L (pa W k) = n))).map (fun k : Nat => (k : Int)) := rfl
def wsK (L W : List (List Int)) (n : Int) (m : Nat) : List Int := ((List.range m).filter (fun k => decide (findT L (pa W k) = n))).map (fun k : Nat => (k : Int))
theorem wsK_yes {L W : List (List Int)} {n : Int} {m : Nat} (h : findT L (pa W m) = n) : wsK L W n (m + 1) = wsK L W n m ++ [(m : Int)] := by
  unfold wsK; rw [List.range_succ, List.filter_append, show [m].filter (fun k => decide (findT L (pa W k) = n)) = [m] from List.filter_cons_of_pos (p := fun k => decide (findT L (pa W k) = n)) (by exact decide_eq_true h), List.map_append]; rfl
theorem wsK_no {L W : List (List Int)} {n : Int} {m : Nat} (h : findT L (pa W m) ≠ n) : wsK L W n (m + 1) = wsK L W n m := by
  unfold wsK; rw [List.range_succ, List.filter_append, show [m].filter (fun k => decide (findT L (pa W k) = n)) = [] from List.filter_cons_of_neg (p := fun k => decide (findT L (pa W k) = n)) (by simpa only [decide_eq_true_eq] using h), List.append_nil]
theorem wsK_le {L W : List (List Int)} {n : Int} {m : Nat} : (wsK L W n m).length ≤ m := by
  unfold wsK
  rw [List.length_map]
  exact Nat.le_trans (List.length_filter_le _ _) (by simp)
end Go.Proofs.Ytpgphhkhjbhimaa
