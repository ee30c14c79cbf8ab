/- slices.Reverse of bytes, in place. -/
import Derived.Test.YteaekpnmiicbhaaDoorPDec
import Derived.Test.YteaekpnmiicbhaaDoorMix
namespace Go.Proofs.YteaekpnmiicbhaaDoor
open Go.RowKit X
set_option maxHeartbeats 400000
set_option linter.unusedSimpArgs false
set_option linter.unusedVariables false
/-- the first i and the last i of a list are exchanged -/
def TurnedB (xs ys : List UInt8) (i : Nat) : Prop := ys.length = xs.length ∧ ∀ t, t < xs.length → ys[t]? = if t < i ∨ xs.length ≤ t + i then xs[xs.length - 1 - t]? else xs[t]?

theorem revB_c (xs : List UInt8) (v : Value) (B : Nat) (D : Nat → Prop) (w : World) (ho : X.Own kB w B D v xs) (hn : xs.length ≤ 1048576) :
    Calls Tryd.prog 41 #[v] w fun e w' => e = .returned (.tuple #[]) ∧ X.Own kB w' B D v xs.reverse ∧ w.grownBy w' v.ownBlock := by
  obtain ⟨A, c, rfl, hc, hA⟩ := ho.form
  have HA := As.mk hA
  have HO := As.mk ho
  clear hA ho
  go_enter Tryd.func41, Tryd.ntmps41
  go_wp2
  go_loopw [2, 3] (fun i j w' => ∃ (k : Nat) (ys : List UInt8), i = .int .i64 k ∧ j = .int .i64 ((xs.length : Int) - 1 - k) ∧ 2 * k ≤ xs.length + 1 ∧ As (TurnedB xs ys k) ∧ As (X.Own kB w' B D (.slice A xs.length c) ys) ∧ As (w.grownBy w' (Value.slice A xs.length c).ownBlock))
    (fun i _ _ => xs.length - (intOf i).toNat)
  case atStart => exact ⟨0, xs, rfl, by go_num, by omega, ⟨rfl, fun t ht => by rw [if_neg (by omega)]⟩, HO, ⟨World.grownBy.refl w _⟩⟩
  case round =>
    obtain ⟨k, ys, rfl, rfl, hk, HT, HO, HG⟩ := hrel
    by_cases hlt : 2 * k + 1 < xs.length
    · have hlt' : decide ((k : Int) < (xs.length : Int) - 1 - k) = true := by simp; omega
      obtain ⟨g, rfl, hg⟩ := HA.out (by rintro rfl; simp at hlt)
      have hyl : ys.length = xs.length := HT.out.1
      have HYL := As.mk hyl
      have hk1 : k < ys.length := by omega
      have hk2 : xs.length - 1 - k < ys.length := by omega
      have ej : ((xs.length : Int) - 1 - k).toNat = xs.length - 1 - k := by omega
      have c1 := HO.out.u8_cell hk1
      have c2 := HO.out.u8_cell hk2
      have f1 := HO.out.not_frozen k
      have f2 := HO.out.not_frozen (xs.length - 1 - k)
      have k1 := ClE.cell (w := wr.drew) c1
      have k2 := ClE.cell (w := wr.drew) c2
      clear hyl hg
      have HJ := As.mk ej
      have b1 : (0 : Int) ≤ (xs.length : Int) - 1 - k := by omega
      have b2 : (xs.length : Int) - 1 - k < xs.length := by omega
      have b3 : (0 : Int) ≤ (k : Int) := by omega
      have b4 : (k : Int) < (xs.length : Int) := by omega
      go_wp2
      refine wp_region_ext [⟨[0, 1, 4, 5, 6, 7, 8, 9, 10, 11, 12], [2, 3], 13, false⟩, ⟨[14], [], 15, false⟩] [] (by kernel_rfl) (by kernel_rfl) ?_
      refine mix_cons rfl rfl rfl ?_
      simp only [opsAt, List.getD_cons_succ, List.getD_cons_zero]
      repeat (go_big_quiet_step ((intro hC; first | rfl | (go_simp; first | done | rfl))))
      refine wpQuiet_nil ?_
      repeat (go_big_quiet_step ((intro hC; first | rfl | (go_simp; first | done | rfl))))
      refine wpQuiet_nil ?_
      go_wp2
      refine ⟨(fun h => by cases h), ?_⟩
      obtain ⟨ho1, hg1⟩ := HO.out.u8_set k ys[xs.length - 1 - k]
      have HO1 := As.mk ho1
      have HG1 := As.mk hg1
      have c3 := HO1.out.u8_cell (t := xs.length - 1 - k) (by rw [List.length_set]; exact hk2)
      have f3 := HO1.out.not_frozen (xs.length - 1 - k)
      clear ho1 hg1 c1 c2 f1 f2 k1 k2
      obtain ⟨w1, hw1⟩ : ∃ w1 : World, w1 = wr.setCell ⟨g, k, none⟩ (.int .u8 ys[xs.length - 1 - k].toNat) := ⟨_, rfl⟩
      rw [← hw1] at HO1 HG1 c3 f3 ⊢
      clear hw1
      refine mix_cons rfl rfl rfl ?_
      simp only [opsAt, List.getD_cons_succ, List.getD_cons_zero]
      repeat (go_big_quiet_step ((intro hC; first | rfl | (go_simp; first | done | rfl))))
      refine wpQuiet_nil ?_
      repeat (go_big_quiet_step ((intro hC; first | rfl | (go_simp; first | done | rfl))))
      refine wpQuiet_nil ?_
      go_wp2
      refine ⟨(fun h => by cases h), mix_done ?_⟩
      simp only [calmQ]
      obtain ⟨ho2, hg2⟩ := HO1.out.u8_set (xs.length - 1 - k) ys[k]
      have HO2 := As.mk ho2
      have HG2 := As.mk hg2
      clear ho2 hg2 c3 f3
      go_wp2
      go_roundw
      case rel =>
        refine ⟨k + 1, (ys.set k ys[xs.length - 1 - k]).set (xs.length - 1 - k) ys[k], by go_num, by go_num, by omega, ⟨?_⟩, HO2, ⟨(HG.out.trans HG1.out).trans (grownBy_drew HG2.out)⟩⟩
        refine ⟨by rw [List.length_set, List.length_set]; exact HYL.out, fun t ht => ?_⟩
        have h1 := HT.out.2 t ht
        have hk0 := HT.out.2 k (by omega)
        have hk3 := HT.out.2 (xs.length - 1 - k) (by omega)
        rw [if_neg (by omega)] at hk0 hk3
        rw [List.getElem?_eq_getElem hk1] at hk0
        rw [List.getElem?_eq_getElem hk2] at hk3
        rw [List.getElem?_set, List.length_set, List.getElem?_set]
        by_cases e1 : xs.length - 1 - k = t
        · rw [if_pos e1, if_pos hk2, if_pos (by omega), hk0]; congr 1; omega
        · rw [if_neg e1]
          by_cases e2 : k = t
          · rw [if_pos e2, if_pos hk1, if_pos (by omega), hk3]; congr 1; omega
          · rw [if_neg e2, h1]
            by_cases e3 : t < k ∨ xs.length ≤ t + k
            · rw [if_pos e3, if_pos (by omega)]
            · rw [if_neg e3, if_neg (by omega)]
      case measure => simp [intOf]; omega
    · have hlt' : decide ((k : Int) < (xs.length : Int) - 1 - k) = false := by simp; omega
      go_wp2
      go_end0
      have e : ys = xs.reverse := by
        apply List.ext_getElem?
        intro t
        have hl := HT.out.1
        rcases Nat.lt_or_ge t xs.length with ht | ht
        · rw [HT.out.2 t ht, List.getElem?_reverse ht]
          split
          · rfl
          · congr 1; omega
        · rw [List.getElem?_eq_none (by omega), List.getElem?_eq_none (by simpa using ht)]
      exact ⟨rfl, e ▸ HO.out, HG.out⟩
end Go.Proofs.YteaekpnmiicbhaaDoor
