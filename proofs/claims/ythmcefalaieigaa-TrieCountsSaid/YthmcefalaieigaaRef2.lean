/- The reference's functions: a tree's paths. -/
import Derived.Test.YthmcefalaieigaaRef
namespace Go.Proofs.Ythmcefalaieigaa
open Go.RowKit X
set_option maxHeartbeats 400000
set_option maxRecDepth 8000
/-- v is the reference's tree -/
def RT (w : World) (v : Value) (L W : List (List Int)) : Prop := ∃ A c A' c', v = rtV A L.length c A' W.length c' ∧ L.length ≤ c ∧ W.length ≤ c' ∧ Sl kW w Any A L ∧ Sl kW w Any A' W
theorem RT.ext {w w' : World} {v : Value} {L W : List (List Int)} (h : RT w v L W) (hx : Ext w w') : RT w' v L W := by
  obtain ⟨A, c, A', c', e, h1, h2, h3, h4⟩ := h
  exact ⟨A, c, A', c', e, h1, h2, h3.below hx, h4.below hx⟩
theorem RT.chg {w w' : World} {v : Value} {L W : List (List Int)} {B : Nat} {tys : List TypeId} (h : RT w v L W) (hx : Chg B tys w w') (hd : ∀ t ∈ [38, 24], t ∉ tys) : RT w' v L W := by
  obtain ⟨A, c, A', c', e, h1, h2, h3, h4⟩ := h
  exact ⟨A, c, A', c', e, h1, h2, h3.chg hx hd, h4.chg hx hd⟩
theorem ty_rows : TyOk Try.prog 22 kW 24 := TyOk.mk' Try.underlying22 (z := .slice none 0 0) (size := 1) (by kernel_rfl) rfl rfl (by omega) (by decide)
theorem blk_kept {w w' : World} {b : Nat} {cur : Array Value} {t0 : TypeId} {fr : Nat × Nat} {row : Option Nat} (h : w.heap[b]? = some (.cells cur t0 fr)) (hg : w.grownBy w' row) (t : TypeId) (hr : ∀ g, row = some g → ∃ cur, w.heap[g]? = some (.cells cur t (0, 0))) (h1 : t ≠ t0) : w'.heap[b]? = some (.cells cur t0 fr) := by
  refine (hg.block b (lt_of_heap h) (fun e => ?_)).trans h
  obtain ⟨cur', hh'⟩ := hr b e.symm
  rw [h] at hh'
  injection hh' with i1
  injection i1 with _ i2 _
  exact h1 i2.symm
theorem X.Sl.take {α : Type} {k : Kd α} {w : World} {D : Nat → Prop} {A : Option Addr} {xs : List α} (h : Sl k w D A xs) (n : Nat) : Sl k w D A (xs.take n) := by
  intro i hi
  rw [List.length_take] at hi
  obtain ⟨b, o, cur, fr, cs, e, hd, hh, hr, hl, hc⟩ := h i (by omega)
  exact ⟨b, o, cur, fr, cs, e, hd, hh, by rw [List.getElem_take]; exact hr, hl, hc⟩

theorem X.Own.sl' {α : Type} {k : Kd α} {w : World} {D : Nat → Prop} {B : Nat} {A : Option Addr} {n c : Nat} {xs : List α} (h : Own k w B D (.slice A n c) xs) : Sl k w Any A xs := by
  obtain ⟨A', c', e, _, hs⟩ := h.sl
  cases e
  exact hs.any
theorem set_chg {w : World} {b j : Nat} {cur : Array Value} {t : TypeId} {fr : Nat × Nat} (h : w.heap[b]? = some (.cells cur t fr)) (v : Value) (B : Nat) (hB : B ≤ b) : Chg B [t] w (w.setCell ⟨b, j, none⟩ v) := Chg.of_set hB ⟨cur, t, fr, h, List.mem_singleton.2 rfl⟩
theorem set_ext {w0 w : World} {b j : Nat} (h : Ext w0 w) (v : Value) (hB : w0.heap.size ≤ b) : Ext w0 (w.setCell ⟨b, j, none⟩ v) :=
  ⟨h.os, h.tape, h.output, by rw [show (w.setCell ⟨b, j, none⟩ v).heap.size = w.heap.size from by simp [World.setCell]]; exact h.size, fun k hk => (Below.heap_setCell w _ v k (by show k ≠ b; omega)).trans (h.block k hk)⟩
theorem set_ne {w : World} {b b' j : Nat} (h : b' ≠ b) (v : Value) : (w.setCell ⟨b, j, none⟩ v).heap[b']? = w.heap[b']? := Below.heap_setCell w _ v b' h

theorem rnew_c (w : World) : Calls Try.prog 33 #[] w fun e w' => ∃ v, e = .returned v ∧ RT w' v [[]] [] ∧ Ext w w' := by
  go_enter Try.func33, Try.ntmps33
  go_wp2
  have h0 := heap_alloc_new w (.cells #[.slice (some ⟨w.heap.size + 1, 0, none⟩) 1 1, .slice none 0 0] 27)
  have h1 := heap_alloc_new (w.alloc (.cells #[.slice (some ⟨w.heap.size + 1, 0, none⟩) 1 1, .slice none 0 0] 27)) (.cells #[.slice none 0 0] 38)
  have hx := (Ext.alloc (w.alloc (.cells #[.slice (some ⟨w.heap.size + 1, 0, none⟩) 1 1, .slice none 0 0] 27)) (.cells #[.slice none 0 0] 38))
  rw [show (w.alloc (.cells #[.slice (some ⟨w.heap.size + 1, 0, none⟩) 1 1, .slice none 0 0] 27)).heap.size = w.heap.size + 1 from by simp] at h1
  refine bodyPost_ret (results_cell_row rfl _ _ w.heap.size 27 #[.slice (some ⟨w.heap.size + 1, 0, none⟩) 1 1, .slice none 0 0] (0, 0) _ rfl (hx.heap h0) Try.underlying27 rfl (by kernel_rfl)) rfl ?_
  refine ⟨_, rfl, ⟨_, _, _, _, rfl, Nat.le_refl _, Nat.le_refl _, fun i hi => ?_, Sl.nil⟩, (Ext.alloc w _).tr hx⟩
  obtain rfl : i = 0 := by simpa using hi
  exact ⟨w.heap.size + 1, 0, _, _, [.slice none 0 0], rfl, trivial, h1, ⟨none, 0, rfl, Nat.le_refl _, Sl.nil⟩, rfl, fun j u hj => by simpa using hj⟩
/-- paths of a word's beginnings, put one behind the other -/
def putL (L : List (List Int)) (xs : List Int) : Nat → List (List Int)
  | 0 => L
  | i + 1 => if findT (putL L xs i) (xs.take (i + 1)) < 0 then putL L xs i ++ [xs.take (i + 1)] else putL L xs i
theorem putL_len (L : List (List Int)) (xs : List Int) : ∀ k, L.length ≤ (putL L xs k).length ∧ (putL L xs k).length ≤ L.length + k
  | 0 => ⟨Nat.le_refl _, Nat.le_refl _⟩
  | k + 1 => by
    have := putL_len L xs k
    simp only [putL]
    split
    · rw [List.length_append]; simp; omega
    · omega
theorem putL_short {L : List (List Int)} {xs : List Int} (h : ShortW L) (hx : xs.length ≤ 1000000) : ∀ k, ShortW (putL L xs k)
  | 0 => h
  | k + 1 => by
    have := putL_short h hx k
    simp only [putL]
    split
    · intro x hx'
      rcases List.mem_append.1 hx' with h | h
      · exact this x h
      · rw [List.mem_singleton.1 h, List.length_take]; omega
    · exact this

theorem rput_c (L W : List (List Int)) (xs : List Int) (v : Value) (B : Option Addr) (d : Nat) (w : World) (hR : RT w v L W) (hx : Sl kP w Any B xs) (hd : xs.length ≤ d) (hL : L.length + xs.length ≤ 900000) (hW : W.length ≤ 900000) (hs : ShortW L) :
    Calls Try.prog 35 #[v, .slice B xs.length d] w fun e w' => ∃ v', e = .returned v' ∧ RT w' v' (putL L xs xs.length) (W ++ [xs]) ∧ Ext w w' := by
  obtain ⟨A, c, A', c', rfl, hc, hc', hLs, hWs⟩ := hR
  have HL := As.mk hLs
  have HW := As.mk hWs
  have HX := As.mk hx
  have HS := As.mk hs
  clear hLs hWs hx hs
  go_enter Try.func35, Try.ntmps35
  go_wp2
  go_loopw [5] (fun i w' => ∃ (k : Nat) (A1 : Option Addr) (c1 : Nat), k ≤ xs.length ∧ i = .int .i64 ((k : Int) + 1) ∧ As (w'.heap[w.heap.size]? = some (.cells #[.slice A1 (putL L xs k).length c1, .slice A' W.length c'] 27 (0, 0))) ∧ As (w'.heap[w.heap.size + 1]? = some (.cells #[.slice none 0 0, .slice none 0 0] 27 (0, 0))) ∧ As (Ext w w') ∧ As (Sl kW w' Any A1 (putL L xs k)) ∧ (putL L xs k).length ≤ c1)
    (fun i _ => xs.length + 1 - (intOf i).toNat)
  case atStart =>
    have h0 := heap_alloc_new w (.cells #[.slice A L.length c, .slice A' W.length c'] 27)
    have h1 := heap_alloc_new (w.alloc (.cells #[.slice A L.length c, .slice A' W.length c'] 27)) (.cells #[.slice none 0 0, .slice none 0 0] 27)
    have hx := (Ext.alloc (w.alloc (.cells #[.slice A L.length c, .slice A' W.length c'] 27)) (.cells #[.slice none 0 0, .slice none 0 0] 27))
    rw [show (w.alloc (.cells #[.slice A L.length c, .slice A' W.length c'] 27)).heap.size = w.heap.size + 1 from by simp] at h1
    exact ⟨0, A, c, Nat.zero_le _, by go_num, ⟨hx.heap h0⟩, ⟨h1⟩, ⟨(Ext.alloc w _).tr hx⟩, ⟨HL.out.below ((Ext.alloc w _).tr hx)⟩, hc⟩
  case round =>
    obtain ⟨k, A1, c1, hk, rfl, HB, HR, HE, HS1, hlc⟩ := hrel
    have hLk := (putL_len L xs k).2
    have HSk := As.mk (putL_short HS.out (by omega) (xs := xs) k)
    by_cases hlt : k < xs.length
    · have hlt' : decide ((k : Int) + 1 ≤ xs.length) = true := by simp; omega
      obtain ⟨xb, xo, rfl, _⟩ := HX.out.int_at (i := 0) (by omega)
      have hcb0 := cell_of_heap (j := 0) HB.out rfl
      have hcb1 := cell_of_heap (j := 1) HB.out rfl
      have hq0 := ClE.cell (w := wr.drew) hcb0
      have hq1 := ClE.cell (w := wr.drew) hcb1
      have hlk : (xs.take (k + 1)).length = k + 1 := by rw [List.length_take]; omega
      have HF0 : As (∀ w', Ext w w' → Sl kW w' Any A1 (putL L xs k) → Calls Try.prog 32 #[rtV A1 (putL L xs k).length c1 A' W.length c', .slice (some ⟨xb, xo, none⟩) (k + 1) d] w' fun e w2 => e = .returned (.int .i64 (findT (putL L xs k) (xs.take (k + 1)))) ∧ Ext w' w2) := ⟨fun w' hx hs => by
        have := find_c (putL L xs k) W (xs.take (k + 1)) A1 A' (some ⟨xb, xo, none⟩) c1 c' d w' Any Any hs ((HX.out.below hx).take _) (by omega) HSk.out (by omega)
        rwa [hlk] at this⟩
      have HLK := As.mk hlk
      clear hlk
      by_cases hf : findT (putL L xs k) (xs.take (k + 1)) < 0
      · have hf' : decide (findT (putL L xs k) (xs.take (k + 1)) < 0) = true := by simpa using hf
        have HPE : As (putL L xs (k + 1) = putL L xs k ++ [xs.take (k + 1)]) := ⟨by simp only [putL, if_pos hf]⟩
        clear hf
        go_wp2
        refine wp_region_ext [⟨[0, 1, 2, 3], [], 4, false⟩] [5] (by kernel_rfl) (by kernel_rfl) ?_
        refine mix_cons rfl rfl rfl ?_
        simp only [opsAt, List.getD_cons_succ, List.getD_cons_zero]
        repeat (go_big_quiet_step ((intro hC; first | rfl | (go_simp; first | done | rfl))))
        refine wpQuiet_nil ?_
        repeat (go_big_quiet_step ((intro hC; first | rfl | (go_simp; first | done | rfl))))
        refine wpQuiet_nil ?_
        go_wp2_with (first | (go_at_call 32; refine (HF0.out _ HE.out.drew (HS1.out.below (Ext.refl wr).drew)).mono ?_; rintro e w1 ⟨rfl, hx⟩; have HX1 : As (Ext wr w1) := ⟨(Ext.refl wr).drew.tr hx⟩; clear hx))
        refine ⟨(fun h => by cases h), ?_⟩
        refine mix_last rfl ?_
        simp only [opsAt, List.getD_cons_succ, List.getD_cons_zero]
        repeat (go_big_quiet_step ((intro hC; first | rfl | (go_simp; first | done | rfl))))
        refine wpQuiet_nil ?_
        simp only [calmQ]
        clear hq0 hq1 hcb0 hcb1
        have hcb0 := HX1.out.cell (cell_of_heap (j := 0) HB.out rfl)
        have HE1 : As (Ext w w1) := ⟨HE.out.tr HX1.out⟩
        have HN : As (Own kW w1 w.heap.size Any (.slice none 0 0) []) := ⟨Own.nil⟩
        have HB1 : As (w1.heap[w.heap.size]? = some (.cells #[.slice A1 (putL L xs k).length c1, .slice A' W.length c'] 27 (0, 0))) := ⟨HX1.out.heap HB.out⟩
        have HR1 := As.mk (HX1.out.heap HR.out)
        have HS2 : As (Sl kW w1 Any A1 (putL L xs k)) := ⟨HS1.out.below HX1.out⟩
        go_wp2_with (first | (at_builtin; refine wpList_app rfl _ _ rfl ty_rows w HE1 Any (.slice none 0 0) [] (putL L xs k) rfl HN A1 c1 rfl HS2.out (by simp only [maxLen, List.length_nil]; omega) (by simp only [List.length_nil]; omega) ?_; intro v2 w2 HO2 HE2 HG2; rw [List.nil_append] at HO2; obtain ⟨A2, c2, hv2, -, -⟩ := HO2.out.form; subst hv2; have HOa := As.mk (HO2.out.ext (Ext.alloc w2 (.cells #[.slice (some ⟨xb, xo, none⟩) (k + 1) d] 38))); have HEa := As.mk (HE2.out.tr (Ext.alloc w2 (.cells #[.slice (some ⟨xb, xo, none⟩) (k + 1) d] 38)))) | (at_builtin; refine wpList_push rfl _ _ rfl ty_rows w HEa Any (.slice A2 (putL L xs k).length c2) (putL L xs k) rfl HOa (xs.take (k + 1)) w2.heap.size 1 rfl [.slice (some ⟨xb, xo, none⟩) (k + 1) d] 38 (0, 0) (heap_alloc_new _ _) ⟨_, d, by rw [HLK.out], by rw [HLK.out]; omega, (HX.out.below HEa.out).take _⟩ (by simp only [maxLen]; omega) (by omega) ?_; intro v3 w3 HO3 HE3 HG3; obtain ⟨A3, c3, hv3, hc3, -⟩ := HO3.out.form; rw [← HPE.out] at hv3 hc3 HO3; subst hv3; have hB2 : w2.heap[w.heap.size]? = _ := (HG2.out.1.block w.heap.size (lt_of_heap HB1.out) (by simp [Value.ownBlock])).trans HB1.out; have hR2 : w2.heap[w.heap.size + 1]? = _ := (HG2.out.1.block (w.heap.size + 1) (lt_of_heap HR1.out) (by simp [Value.ownBlock])).trans HR1.out; have hx2 := Ext.alloc w2 (.cells #[.slice (some ⟨xb, xo, none⟩) (k + 1) d] 38); have HB3 := As.mk (blk_kept (hx2.heap hB2) HG3.out.1 _ HOa.out.rowTy (by decide)); have HR3 := As.mk (blk_kept (hx2.heap hR2) HG3.out.1 _ HOa.out.rowTy (by decide)); have hcb3 := cell_of_heap (j := 0) HB3.out rfl; have hf3 := frozen_of_row w3 w.heap.size 0 _ _ HB3.out; clear hB2 hR2 hx2))
        go_roundw
        case rel =>
          refine ⟨k + 1, A3, c3, by omega, by go_num, ⟨set_at HB3.out _⟩, ⟨(set_ne (by omega) _).trans HR3.out⟩, ⟨set_ext HE3.out _ (Nat.le_refl _)⟩, ⟨HO3.out.sl'.chg (set_chg HB3.out _ _ (Nat.le_refl _)) (by decide)⟩, hc3⟩
        case measure => simp [intOf]; omega
      · have hf' : decide (findT (putL L xs k) (xs.take (k + 1)) < 0) = false := by simpa using hf
        have HPE : As (putL L xs (k + 1) = putL L xs k) := ⟨by simp only [putL, if_neg hf]⟩
        clear hf
        go_wp2
        refine wp_region_ext [⟨[0, 1, 2, 3], [], 4, false⟩] [5] (by kernel_rfl) (by kernel_rfl) ?_
        refine mix_cons rfl rfl rfl ?_
        simp only [opsAt, List.getD_cons_succ, List.getD_cons_zero]
        repeat (go_big_quiet_step ((intro hC; first | rfl | (go_simp; first | done | rfl))))
        refine wpQuiet_nil ?_
        repeat (go_big_quiet_step ((intro hC; first | rfl | (go_simp; first | done | rfl))))
        refine wpQuiet_nil ?_
        go_wp2_with (first | (go_at_call 32; refine (HF0.out _ HE.out.drew (HS1.out.below (Ext.refl wr).drew)).mono ?_; rintro e w1 ⟨rfl, hx⟩; have HX1 : As (Ext wr w1) := ⟨(Ext.refl wr).drew.tr hx⟩; clear hx))
        refine ⟨(fun h => by cases h), ?_⟩
        refine mix_last rfl ?_
        simp only [opsAt, List.getD_cons_succ, List.getD_cons_zero]
        repeat (go_big_quiet_step ((intro hC; first | rfl | (go_simp; first | done | rfl))))
        refine wpQuiet_nil ?_
        simp only [calmQ]
        clear hq0 hq1 hcb0 hcb1
        go_wp2
        go_roundw
        case rel =>
          refine ⟨k + 1, A1, c1, by omega, by go_num, ⟨by rw [HPE.out]; exact HX1.out.heap HB.out⟩, ⟨HX1.out.heap HR.out⟩, ⟨HE.out.tr HX1.out⟩, ⟨by rw [HPE.out]; exact HS1.out.below HX1.out⟩, by rw [HPE.out]; exact hlc⟩
        case measure => simp [intOf]; omega
    · have hlt' : decide ((k : Int) + 1 ≤ xs.length) = false := by simp; omega
      have hke : k = xs.length := by omega
      subst hke
      have hcb1 := cell_of_heap (j := 1) HB.out rfl
      have HN : As (Own kW wr w.heap.size Any (.slice none 0 0) []) := ⟨Own.nil⟩
      have HSW : As (Sl kW wr Any A' W) := ⟨HW.out.below HE.out⟩
      go_wp2_with (first | (at_builtin; refine wpList_app rfl _ _ rfl ty_rows w HE Any (.slice none 0 0) [] W rfl HN A' c' rfl HSW.out (by simp only [maxLen, List.length_nil]; omega) (by simp only [List.length_nil]; omega) ?_; intro v2 w2 HO2 HE2 HG2; rw [List.nil_append] at HO2; obtain ⟨A2, c2, hv2, -, -⟩ := HO2.out.form; subst hv2; have HOa := As.mk (HO2.out.ext (Ext.alloc w2 (.cells #[.slice B xs.length d] 38))); have HEa := As.mk (HE2.out.tr (Ext.alloc w2 (.cells #[.slice B xs.length d] 38)))) | (at_builtin; refine wpList_push rfl _ _ rfl ty_rows w HEa Any (.slice A2 W.length c2) W rfl HOa xs w2.heap.size 1 rfl [.slice B xs.length d] 38 (0, 0) (heap_alloc_new _ _) ⟨_, d, rfl, hd, HX.out.below HEa.out⟩ (by simp only [maxLen]; omega) (by omega) ?_; intro v3 w3 HO3 HE3 HG3; obtain ⟨A3, c3, hv3, hc3, -⟩ := HO3.out.form; subst hv3; have hB2 : w2.heap[w.heap.size]? = _ := (HG2.out.1.block w.heap.size (lt_of_heap HB.out) (by simp [Value.ownBlock])).trans HB.out; have hR2 : w2.heap[w.heap.size + 1]? = _ := (HG2.out.1.block (w.heap.size + 1) (lt_of_heap HR.out) (by simp [Value.ownBlock])).trans HR.out; have hx2 := Ext.alloc w2 (.cells #[.slice B xs.length d] 38); have HB3 := As.mk (blk_kept (hx2.heap hB2) HG3.out.1 _ HOa.out.rowTy (by decide)); have HR3 := As.mk (blk_kept (hx2.heap hR2) HG3.out.1 _ HOa.out.rowTy (by decide)); have hcb3 := cell_of_heap (j := 1) HB3.out rfl; have hcc3 := cell_of_heap (j := 0) HB3.out rfl; have hf3 := frozen_of_row w3 w.heap.size 1 _ _ HB3.out; clear hB2 hR2 hx2 hcb1; have hcr0 := cell_of_heap (j := 0) HR3.out rfl; have hcr1 := cell_of_heap (j := 1) HR3.out rfl; have hfr := frozen_of_row w3 (w.heap.size + 1) 0 _ _ HR3.out; have hfr1 := frozen_of_row w3 (w.heap.size + 1) 1 _ _ HR3.out; have hE2 : Ext wr w2 := ⟨HG2.out.1.os, HG2.out.1.tape, HG2.out.1.output, HG2.out.1.size, fun k hk => HG2.out.1.block k hk (by simp [Value.ownBlock])⟩; have hE2a := hE2.tr (Ext.alloc w2 (.cells #[.slice B xs.length d] 38)); have HE23 : As (Ext wr w3) := ⟨hE2a.grown HG3.out.1 hE2a.size (fun g hg => by rcases HG2.out.2 with h | h <;> rw [h] at hg <;> cases hg; exact Nat.le_refl _)⟩; clear hE2 hE2a))
      have e1 := set_at (set_at ((set_ne (b := w.heap.size) (j := 1) (b' := w.heap.size + 1) (by omega) (.slice A3 (W.length + 1) c3)).trans HR3.out) (.slice A1 (putL L xs xs.length).length c1) (j := 0)) (.slice A3 (W.length + 1) c3) (j := 1)
      have hch := (set_chg (j := 1) HB3.out (.slice A3 (W.length + 1) c3) w.heap.size (Nat.le_refl _)).tr ((set_chg (j := 0) ((set_ne (b := w.heap.size) (j := 1) (b' := w.heap.size + 1) (by omega) (.slice A3 (W.length + 1) c3)).trans HR3.out) (.slice A1 (putL L xs xs.length).length c1) w.heap.size (by omega)).tr
        (set_chg (j := 1) (set_at ((set_ne (b := w.heap.size) (j := 1) (b' := w.heap.size + 1) (by omega) (.slice A3 (W.length + 1) c3)).trans HR3.out) (.slice A1 (putL L xs xs.length).length c1) (j := 0)) (.slice A3 (W.length + 1) c3) w.heap.size (by omega)))
      refine bodyPost_ret (results_cell_row rfl _ _ (w.heap.size + 1) 27 _ (0, 0) _ rfl e1 Try.underlying27 rfl (by kernel_rfl)) rfl ?_
      refine ⟨_, rfl, ⟨A1, c1, A3, c3, by rw [List.length_append]; rfl, hlc, hc3, ?_, ?_⟩, set_ext (set_ext (set_ext HE3.out _ (Nat.le_refl _)) _ (by omega)) _ (by omega)⟩
      · exact (HS1.out.below HE23.out).chg hch (by decide)
      · exact HO3.out.sl'.chg hch (by decide)

end Go.Proofs.Ythmcefalaieigaa
