/- The law TrieCounts, walked. -/
import Derived.Test.YthmcefalaieigaaTie4
namespace Go.Proofs.Ythmcefalaieigaa
open Go.RowKit X
set_option maxHeartbeats 2000000
set_option maxRecDepth 8000
theorem drop_pred {W : List (List Int)} {k : Nat} (h : k < W.length) : (W.drop k).reverse = (W.drop (k + 1)).reverse ++ [W[k]] := by
  rw [List.drop_eq_getElem_cons h, List.reverse_cons]
theorem begT_push (V : List (List Int)) (x : List Int) : begT (V ++ [x]) = stepB (begT V) x := by
  unfold begT
  rw [List.foldl_append]; rfl
theorem counts_c (ls : List (List Int)) (A : Option Addr) (c : Nat) (w : World) (hx : ARows w A ls) :
    Calls Try.prog 7 #[.slice A ls.length c] w fun e w' => e = .returned (.bool true) ∧ Ext w w' := by
  have HS := As.mk hx
  clear hx
  go_enter Try.func7, Try.ntmps7
  go_wp2_with (first | (go_at_call 9; refine (begin0_c ls A c _ (HS.out.ext (Ext.refl _))).mono ?_; rintro e w1 ⟨b, l, ws, v, L, W, rfl, ho, ⟨a1, d1, a2, d2, rfl, hl1, hl2, hs1, hs2⟩, hst, hbt, hL, hW, hL5, hx⟩; have HO := As.mk ho; have HSW := As.mk hs2; have HX := As.mk hx; have HST := As.mk hst; have HW5 := As.mk (begT_small hbt); have HLL := As.mk hst.tie.len; have HMB : As (∀ x, x ∈ L ↔ PreOf W x) := ⟨fun x => by have := begT_mem (smallT ls 8) x; rw [hbt] at this; exact this⟩; clear ho hs1 hs2 hst hbt hx hl1 hl2 hL5 HS; have HX2 := As.mk (HX.out.tr (Ext.alloc w1 (.cells #[.slice a1 L.length d1, .slice a2 W.length d2] 27))); have HO2 := As.mk (HO.out.ext (Ext.alloc w1 (.cells #[.slice a1 L.length d1, .slice a2 W.length d2] 27))); have HSW2 := As.mk (HSW.out.below (Ext.alloc w1 (.cells #[.slice a1 L.length d1, .slice a2 W.length d2] 27))); have HB2 := As.mk (heap_alloc_new w1 (.cells #[.slice a1 L.length d1, .slice a2 W.length d2] 27))) | (go_at_call 23; refine (new_c _).mono ?_; rintro e w3 ⟨b3, rfl, ho, hx⟩; have HU3 := As.mk ho; have HX3 := As.mk hx; have hcb3 := cell_of_heap (j := 1) (hx.heap HB2.out) rfl; clear ho hx))
  clear hcb3
  generalize w1.heap.size = g8 at HB2 ⊢
  generalize w1.alloc (.cells #[.slice a1 L.length d1, .slice a2 W.length d2] 27) = w2 at HX2 HO2 HSW2 HB2 HU3 HX3 ⊢
  clear HO HSW HX
  go_loopw [6] (fun i w' => ∃ (k : Nat) (l' : List Nd) (ws' : List Int) (L' : List (List Int)), k ≤ W.length ∧ i = .int .i64 ((k : Int) - 1) ∧ As (OwnT w' w2.heap.size b3 l' ws') ∧ As (St l' ws' L' (W.drop k).reverse) ∧ As (begT (W.drop k).reverse = (L', (W.drop k).reverse)) ∧ L'.length ≤ 1 + 5 * (W.length - k) ∧ As (Ext w2 w')) (fun i _ => (intOf i + 1).toNat)
  case atStart => exact ⟨W.length, _, _, [[]], Nat.le_refl _, rfl, HU3, ⟨by rw [List.drop_length]; exact St.one⟩, ⟨by rw [List.drop_length]; rfl⟩, by simp, HX3⟩
  case round =>
    obtain ⟨k, l', ws', L', hk, rfl, HU, HSt, HBt, hLb, HC⟩ := hrel
    have hcb1 := cell_of_heap (j := 1) (HC.out.heap HB2.out) rfl
    have HSWk := As.mk (HSW2.out.below HC.out)
    rcases k with _ | k
    · rw [List.drop_zero] at HSt HBt
      have hgn : decide ((((0 : Nat) : Int) - 1) ≥ 0) = false := by simp
      have hm : ∀ x, x ∈ L ↔ x ∈ L' := fun x => by
        have := begT_mem W.reverse x
        rw [HBt.out] at this
        rw [HMB.out, this]
        unfold PreOf
        simp only [List.mem_reverse]
      have hle : L.length = L'.length := Nat.le_antisymm (nodup_le HST.out.tie.nodup fun x hx => (hm x).1 hx) (nodup_le HSt.out.tie.nodup fun x hx => (hm x).2 hx)
      have HLE := As.mk hle
      have HM := As.mk hm
      have hl41 : L'.length ≤ 41 := by omega
      have HT : As (∀ x, Ext wr x → RdT x Any b l ws) := ⟨fun x hx => (HO2.out.ext (HC.out.tr hx)).rd⟩
      have HUr : As (∀ x, Ext wr x → RdT x Any b3 l' ws') := ⟨fun x hx => (HU.out.ext hx).rd⟩
      have HG : As (GoodT l) := ⟨HST.out.wf.good (by rw [HLL.out]; omega)⟩
      have HG' : As (GoodT l') := ⟨HSt.out.wf.good (by rw [HSt.out.tie.len]; omega)⟩
      have HLL' : As (l'.length = L.length) := ⟨by rw [HSt.out.tie.len, hle]⟩
      have HWb : As (∀ x ∈ l, x.words.length ≤ 1000000) := ⟨fun x hx => by have := HST.out.wf.wn x hx; have := HST.out.wlen; omega⟩
      have HWb' : As (∀ x ∈ l', x.words.length ≤ 1000000) := ⟨fun x hx => by have := HSt.out.wf.wn x hx; have := HSt.out.wlen; rw [List.length_reverse] at this; omega⟩
      have HL5' : As (∀ i, i < L.length → (pa L i).length ≤ 5) := ⟨fun i hi => by
        have := (HMB.out (pa L i)).1 (by rw [pa_eq hi]; exact List.getElem_mem hi)
        rcases this with h | ⟨y, hy, t, _, _, h⟩
        · rw [h]; simp
        · rw [h, List.length_take]; have := (HW5.out y hy).2; omega⟩
      have HXc : As (Ext wr wr) := ⟨Ext.refl _⟩
      clear hm hle
      go_wp2_with (first | (go_at_call 13; have h1 := len_c l ws b _ _ (HT.out _ HXc.out); rw [HLL.out] at h1; refine h1.mono ?_; clear h1; rintro e w7 ⟨rfl, rfl⟩) | (go_at_call 13; have h1 := len_c l' ws' b3 _ _ (HUr.out _ HXc.out); rw [HLL'.out] at h1; refine h1.mono ?_; clear h1; rintro e w7 ⟨rfl, rfl⟩))
      go_loopw [7] (fun i w' => ∃ k : Nat, k ≤ L.length ∧ i = .int .i64 k ∧ As (Ext wr w')) (fun i _ => L.length - (intOf i).toNat)
      case atStart => exact ⟨0, Nat.zero_le _, rfl, HXc⟩
      case round =>
        clear HXc
        obtain ⟨i, hi, rfl, HXc⟩ := hrel
        by_cases hlt : i < L.length
        · have hlt' : decide ((i : Int) < L.length) = true := by simpa using hlt
          have hil : i < l.length := by rw [HLL.out]; exact hlt
          obtain ⟨j, hj, hje⟩ := List.mem_iff_getElem.1 ((HM.out (pa L i)).1 (by rw [pa_eq hlt]; exact List.getElem_mem hlt))
          have hjl : j < l'.length := by rw [HSt.out.tie.len]; exact hj
          have hpj : pa L' j = pa L i := by rw [pa_eq hj, hje]
          have HWk : As (walkT l' 0 (pa L i) = ((j : Int), (pa L i).length)) := ⟨by
            rw [HSt.out.tie.walk0 HSt.out.wf]
            have := HSt.out.tie.walkOf hjl (pa L i) 0 HSt.out.wf.pos (by rw [HSt.out.tie.root, List.nil_append]; exact hpj)
            rw [HSt.out.tie.root] at this
            exact this⟩
          have HPt : As (pathT l i = pa L i) := ⟨HST.out.tie.pathOf HG.out i i (Nat.le_refl _) hil⟩
          have HPu : As (pathT l' j = pa L i) := ⟨by rw [HSt.out.tie.pathOf HG'.out j j (Nat.le_refl _) hjl, hpj]⟩
          have HDt : As (depthT l i = (pa L i).length) := ⟨by unfold depthT; rw [if_pos (inB_nat hil), Int.toNat_natCast]; exact HST.out.tie.depth i hil⟩
          have HDu : As (depthT l' j = (pa L i).length) := ⟨by unfold depthT; rw [if_pos (inB_nat hjl), Int.toNat_natCast, ← hpj]; exact HSt.out.tie.depth j hjl⟩
          have HCw : As ((wordsT l' j).length = (wordsT l i).length) := ⟨by
            have h1 := HSt.out.count hjl
            have h2 := HST.out.count hil
            unfold wordsT
            rw [if_pos (inB_nat hjl), if_pos (inB_nat hil), Int.toNat_natCast, Int.toNat_natCast]
            show (nd l' j).words.length = (nd l i).words.length
            rw [h1, h2, hpj, List.countP_reverse]⟩
          have hp5 := HL5'.out i hlt
          clear hje hpj
          generalize pa L i = p at HWk HPt HPu HDt HDu hp5
          go_wp2_with (first | (go_at_call 13; have h1 := len_c l ws b _ _ (HT.out _ HXc.out); rw [HLL.out] at h1; with_reducible refine h1.mono ?_; clear h1; rintro e w7 ⟨rfl, rfl⟩) | (go_at_call 24; have h1 := path_c l ws i b _ _ (HT.out _ HXc.out) HG.out; rw [HPt.out] at h1; with_reducible refine h1.mono ?_; clear h1; rintro e w8 ⟨v8, rfl, ho, hx⟩; obtain ⟨A8, c8, rfl, -, -⟩ := ho.form; have HP8 := As.mk ho.sl'; (try have HP9 := As.mk (HP9.out.below hx)); have HXc := As.mk (HXc.out.tr hx); clear ho hx) | (go_at_call 17; have h1 := walk_c l' ws' p A8 c8 b3 _ _ _ (HUr.out _ HXc.out) HG'.out HP8.out (by omega); rw [HWk.out] at h1; with_reducible refine h1.mono ?_; clear h1; rintro e wx ⟨rfl, hx⟩; have HXc := As.mk (HXc.out.tr hx); clear hx) | (go_at_call 19; have h1 := depth_c l ws i b _ _ (HT.out _ HXc.out); rw [HDt.out] at h1; with_reducible refine h1.mono ?_; clear h1; rintro e w7 ⟨rfl, rfl⟩) | (go_at_call 19; have h1 := depth_c l' ws' j b3 _ _ (HUr.out _ HXc.out); rw [HDu.out] at h1; with_reducible refine h1.mono ?_; clear h1; rintro e w7 ⟨rfl, rfl⟩) | (go_at_call 24; have h1 := path_c l' ws' j b3 _ _ (HUr.out _ HXc.out) HG'.out; rw [HPu.out] at h1; with_reducible refine h1.mono ?_; clear h1; rintro e w8 ⟨v9, rfl, ho, hx⟩; obtain ⟨A9, c9, rfl, -, -⟩ := ho.form; have HP9 := As.mk ho.sl'; have HXc := As.mk (HXc.out.tr hx); clear ho hx) | (go_at_call 25; have h1 := sameRow_c p p A9 A8 c9 c8 _ _ _ HP9.out HP8.out (by omega); rw [decide_eq_true rfl] at h1; with_reducible refine h1.mono ?_; clear h1; rintro e wx ⟨rfl, hx⟩; have HXc := As.mk (HXc.out.tr hx.ext); clear hx) | (go_at_call 26; have h1 := words_c l' ws' j b3 _ _ (HUr.out _ HXc.out) HWb'.out; with_reducible refine h1.mono ?_; clear h1; rintro e w8 ⟨v9, rfl, ho, hx⟩; obtain ⟨Aw, cw, hv, -, -⟩ := ho.form; rw [HCw.out] at hv; subst hv; have HXc := As.mk (HXc.out.tr hx); clear ho hx) | (go_at_call 26; have h1 := words_c l ws i b _ _ (HT.out _ HXc.out) HWb.out; with_reducible refine h1.mono ?_; clear h1; rintro e w8 ⟨v9, rfl, ho, hx⟩; obtain ⟨Aw2, cw2, rfl, -, -⟩ := ho.form; have HXc := As.mk (HXc.out.tr hx); clear ho hx))
          go_roundw
          case rel => exact ⟨i + 1, by omega, by go_num, HXc⟩
          case measure => simp [intOf]; omega
        · have hlt' : decide ((i : Int) < L.length) = false := by simpa using hlt
          go_wp2_with (first | (go_at_call 13; have h1 := len_c l ws b _ _ (HT.out _ HXc.out); rw [HLL.out] at h1; with_reducible refine h1.mono ?_; clear h1; rintro e w7 ⟨rfl, rfl⟩) | (go_at_call 12; refine (lives_c _).mono ?_; rintro e wd ⟨rfl, hx⟩; have HXd := As.mk (HXc.out.tr hx); clear hx))
          go_ret
          exact ⟨rfl, (HX2.out.tr HC.out).tr HXd.out⟩
    · have hge : decide ((((k + 1 : Nat) : Int) - 1) ≥ 0) = true := by simp
      have hlt : k < W.length := by omega
      have hkk : ((k + 1 : Nat) : Int) - 1 = k := by omega
      obtain ⟨wb, wo, A3, c3, rfl, hcw, hc3, hs3⟩ := HSWk.out.sl_at hlt
      have HS3 := As.mk hs3
      obtain ⟨hne, h5⟩ := HW5.out _ (List.getElem_mem hlt)
      have HNE := As.mk hne
      have hl'b : l'.length ≤ 41 := by rw [HSt.out.tie.len]; omega
      have hw'b : ws'.length ≤ 16 := by rw [HSt.out.wlen, List.length_reverse, List.length_drop]; omega
      rw [hkk]
      clear hs3 hne
      go_wp2_with (first | (go_at_call 14; have h1 := put_st HU.out HSt.out HS3.out hc3 (by omega) (by omega) (by omega) HNE.out; with_reducible refine h1.mono ?_; clear h1; rintro e w5 ⟨l5, ws5, rfl, ho, hs, hc⟩; have HU5 := As.mk ho; rw [← drop_pred hlt] at hs; have HS5 := As.mk hs; have HC5 := As.mk (HC.out.chg hc (Nat.le_refl _)); clear ho hs hc HU))
      go_roundw
      case rel =>
        have hpl := (putL_len L' W[k] W[k].length).2
        refine ⟨k, l5, ws5, _, by omega, by go_num, HU5, HS5, ⟨?_⟩, by omega, HC5⟩
        rw [drop_pred hlt, begT_push, HBt.out, stepB, if_neg HNE.out]
      case measure => simp [intOf]
end Go.Proofs.Ythmcefalaieigaa
