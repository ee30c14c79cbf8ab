/- The law TrieTwice, walked. -/
import Derived.Test.YthmcefalaieigaaTie3
namespace Go.Proofs.Ythmcefalaieigaa
open Go.RowKit X
set_option maxHeartbeats 2000000
set_option maxRecDepth 8000
theorem pa_twice {W : List (List Int)} {k : Nat} (h : k < W.length) : pa (W ++ W.take (k + 1)) (W.length + k) = pa (W ++ W.take (k + 1)) k := by
  unfold pa
  rw [List.getD_eq_getElem?_getD, List.getElem?_append_right (by omega), Nat.add_sub_cancel_left, List.getElem?_take_of_lt (by omega), List.getD_eq_getElem?_getD, List.getElem?_append_left h]
theorem twice_c (ls : List (List Int)) (A : Option Addr) (c : Nat) (w : World) (hx : ARows w A ls) :
    Calls Try.prog 4 #[.slice A ls.length c] w fun e w' => e = .returned (.bool true) ∧ Ext w w' := by
  have HS := As.mk hx
  clear hx
  go_enter Try.func4, Try.ntmps4
  go_wp2_with (first | (go_at_call 9; refine (begin0_c ls A c _ (HS.out.ext (Ext.refl _))).mono ?_; rintro e w1 ⟨b, l, ws, v, L, W, rfl, ho, ⟨a1, d1, a2, d2, rfl, hl1, hl2, hs1, hs2⟩, hst, hbt, hL, hW, hL5, hx⟩; have HO := As.mk ho; have HSW := As.mk hs2; have HX := As.mk hx; have HST := As.mk hst; have HW5 := As.mk (begT_small hbt); have HLL := As.mk hst.tie.len; clear ho hs1 hs2 hst hbt hx hl1 hl2 hL5 HS; have HX2 := As.mk (HX.out.tr (Ext.alloc w1 (.cells #[.slice a1 L.length d1, .slice a2 W.length d2] 27))); have HO2 := As.mk (HO.out.ext (Ext.alloc w1 (.cells #[.slice a1 L.length d1, .slice a2 W.length d2] 27))); have HSW2 := As.mk (HSW.out.below (Ext.alloc w1 (.cells #[.slice a1 L.length d1, .slice a2 W.length d2] 27))); have HB2 := As.mk (heap_alloc_new w1 (.cells #[.slice a1 L.length d1, .slice a2 W.length d2] 27))) | (go_at_call 13; have h1 := len_c l ws b _ _ HO2.out.rd; rw [HLL.out] at h1; refine h1.mono ?_; clear h1; rintro e w2 ⟨rfl, rfl⟩))
  generalize w1.heap.size = g8 at HB2 ⊢
  generalize w1.alloc (.cells #[.slice a1 L.length d1, .slice a2 W.length d2] 27) = w2 at HX2 HO2 HSW2 HB2 ⊢
  clear HO HSW HX
  go_loopw [6] (fun i w' => ∃ (k : Nat) (l' : List Nd) (ws' : List Int), k ≤ W.length ∧ i = .int .i64 k ∧ As (OwnT w' w.heap.size b l' ws') ∧ As (St l' ws' L (W ++ W.take k)) ∧ As (Chg w.heap.size tysT w2 w')) (fun i _ => W.length - (intOf i).toNat)
  case atStart => exact ⟨0, l, ws, Nat.zero_le _, rfl, HO2, ⟨by rw [List.take_zero, List.append_nil]; exact HST.out⟩, ⟨Chg.refl _ _ _⟩⟩
  case round =>
    obtain ⟨k, l', ws', hk, rfl, HOk, HSt, HC⟩ := hrel
    have HBk := As.mk (HC.out.blk HB2.out (by decide))
    have hcb1 := cell_of_heap (j := 1) HBk.out rfl
    have HSWk := As.mk (HSW2.out.chg HC.out (by decide))
    by_cases hlt : k < W.length
    · have hlt' : decide ((k : Int) < W.length) = true := by simpa using hlt
      obtain ⟨wb, wo, A3, c3, rfl, hcw, hc3, hs3⟩ := HSWk.out.sl_at hlt
      have HS3 := As.mk hs3
      obtain ⟨hne, h5⟩ := HW5.out _ (List.getElem_mem hlt)
      have HNE := As.mk hne
      have hVl : (W ++ W.take k).length = W.length + k := by rw [List.length_append, List.length_take]; omega
      have HVL := As.mk hVl
      have hl'b : l'.length ≤ 41 := by rw [HSt.out.tie.len]; exact hL
      have hw'b : ws'.length ≤ 16 := by rw [HSt.out.wlen, hVl]; omega
      have HFX : As (putL L W[k] W[k].length = L) := ⟨by
        obtain ⟨j, _, j2, j3⟩ := HST.out.at_ k hlt
        exact HST.out.tie.fix j2 (by rw [j3, pa_eq hlt]) _⟩
      have HTK : As (W ++ W.take k ++ [W[k]] = W ++ W.take (k + 1)) := ⟨by rw [List.take_succ_eq_append_getElem hlt, List.append_assoc]⟩
      clear hs3 hne hVl
      go_wp2_with (first | (go_at_call 14; have h1 := put_st HOk.out HSt.out HS3.out hc3 (by omega) (by omega) (by omega) HNE.out; rw [HVL.out, HFX.out, HTK.out] at h1; refine h1.mono ?_; clear h1; rintro e w5 ⟨l5, ws5, rfl, ho, hs, hc⟩; have HO5 := As.mk ho; have HS5 := As.mk hs; have HC5 := As.mk (HC.out.tr hc); have hcb5 := cell_of_heap (j := 1) (hc.blk HBk.out (by decide)) rfl; have HL5 : As (l5.length = L.length) := ⟨hs.tie.len⟩; have HW5' : As (wordT ws5 ((W.length : Int) + k) = wordT ws5 k) := ⟨(by have := hs.same (k := W.length + k) (k' := k) (by rw [List.length_append, List.length_take]; omega) (by rw [List.length_append]; omega) (pa_twice hlt); simpa using this)⟩; clear ho hs hc HOk HSt) | (go_at_call 15; refine (word_c l5 ws5 _ b _ _ HO5.out.rd).mono ?_; rintro e w6 ⟨rfl, rfl⟩; (try rw [HW5'.out])) | (go_at_call 13; have h1 := len_c l5 ws5 b _ _ HO5.out.rd; rw [HL5.out] at h1; refine h1.mono ?_; clear h1; rintro e w7 ⟨rfl, rfl⟩))
      go_roundw
      case rel => exact ⟨k + 1, l5, ws5, by omega, by go_num, HO5, HS5, HC5⟩
      case measure => simp [intOf]; omega
    · have hlt' : decide ((k : Int) < W.length) = false := by simpa using hlt
      go_wp2_with (first | (go_at_call 12; refine (lives_c _).mono ?_; rintro e wd ⟨rfl, hx⟩; have HXd := As.mk hx; clear hx))
      go_ret
      exact ⟨rfl, (HX2.out.chg HC.out (Nat.le_refl _)).tr HXd.out⟩
end Go.Proofs.Ythmcefalaieigaa
