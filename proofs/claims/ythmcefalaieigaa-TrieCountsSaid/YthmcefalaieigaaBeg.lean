/- A tree of words, made. -/
import Derived.Test.YthmcefalaieigaaLiv
namespace Go.Proofs.Ythmcefalaieigaa
open Go.RowKit X
set_option maxHeartbeats 2000000
set_option maxRecDepth 8000
theorem X.Ext.chg {w a b : World} (hx : Ext w a) {B : Nat} {tys : List TypeId} (h : Chg B tys a b) (hB : w.heap.size ≤ B) : Ext w b :=
  ⟨h.os.trans hx.os, h.tape.trans hx.tape, h.output.trans hx.output, Nat.le_trans hx.size h.size, fun k hk => (h.block k (Nat.lt_of_lt_of_le hk hx.size) (.inl (by omega))).trans (hx.block k hk)⟩
theorem OwnT.lower {w : World} {B B' b : Nat} {l : List Nd} {ws : List Int} (h : OwnT w B b l ws) (hB : B' ≤ B) : OwnT w B' b l ws := by
  obtain ⟨vn, vw, ns, h⟩ := h
  exact ⟨vn, vw, ns, h.at_, Nat.le_trans hB h.base, h.row.base hB, h.wrow.base hB, h.len, fun i a c => ⟨(h.nd i a c).up, (h.nd i a c).p, (h.nd i a c).depth, (h.nd i a c).kids.base hB, (h.nd i a c).words.base hB⟩, h.dk, h.dw, h.dv⟩
theorem X.Chg.blk {B : Nat} {tys : List TypeId} {a b : World} (h : Chg B tys a b) {g : Nat} {cur : Array Value} {t : TypeId} {fr : Nat × Nat} (hg : a.heap[g]? = some (.cells cur t fr)) (ht : t ∉ tys) : b.heap[g]? = some (.cells cur t fr) :=
  (h.block g (lt_of_heap hg) (.inr (fun ⟨cur', e', fr', hh', hm'⟩ => by
    rw [hg] at hh'
    injection hh' with i1
    injection i1 with _ i2 _
    exact ht (i2 ▸ hm')))).trans hg
theorem OwnT.chg {w w' : World} {B b : Nat} {l : List Nd} {ws : List Int} (h : OwnT w B b l ws) {B' : Nat} {tys : List TypeId} (hc : Chg B' tys w w') (hd : ∀ t ∈ tysT, t ∉ tys) : OwnT w' B b l ws := by
  obtain ⟨vn, vw, ns, h⟩ := h
  have d1 : ∀ t ∈ kR.ety :: kR.sub, t ∉ tys := fun t ht => hd t (by simp only [kR, List.mem_singleton] at ht; subst ht; simp)
  have d2 : ∀ t ∈ kI.ety :: kI.sub, t ∉ tys := fun t ht => hd t (by simp only [Kd.int, List.mem_singleton] at ht; subst ht; simp)
  have d3 : ∀ t ∈ kE.ety :: kE.sub, t ∉ tys := fun t ht => hd t (by simp only [kE, List.mem_singleton] at ht; subst ht; simp)
  exact ⟨vn, vw, ns, hc.blk h.at_ (hd _ (by simp)), h.base, h.row.chg hc d1, h.wrow.chg hc d2, h.len, fun i a c => ⟨(h.nd i a c).up, (h.nd i a c).p, (h.nd i a c).depth, (h.nd i a c).kids.chg hc d3, (h.nd i a c).words.chg hc d2⟩, h.dk, h.dw, h.dv⟩
theorem putL_mem {L : List (List Int)} {xs : List Int} {n : Nat} (h : ∀ x ∈ L, x.length ≤ n) (hx : xs.length ≤ n) : ∀ k, ∀ x ∈ putL L xs k, x.length ≤ n
  | 0 => h
  | k + 1 => by
    have := putL_mem h hx k
    simp only [putL]
    split
    · intro x hx'
      rcases List.mem_append.1 hx' with h | h
      · exact this x h
      · rw [List.mem_singleton.1 h, List.length_take]; omega
    · exact this
/-- a word put into the reference's tree; none that is empty -/
def stepB (s : List (List Int) × List (List Int)) (x : List Int) : List (List Int) × List (List Int) := if x = [] then s else (putL s.1 x x.length, s.2 ++ [x])
def begT (own : List (List Int)) : List (List Int) × List (List Int) := own.foldl stepB ([[]], [])
theorem begT_succ {own : List (List Int)} {k : Nat} (h : k < own.length) : begT (own.take (k + 1)) = stepB (begT (own.take k)) own[k] := by
  unfold begT
  rw [List.take_succ_eq_append_getElem h, List.foldl_append]; rfl
theorem smallT_ne {ls : List (List Int)} {m : Nat} : ∀ x ∈ smallT ls m, x ≠ [] ∧ x.length ≤ 5 := by
  intro x hx
  unfold smallT at hx
  rw [List.mem_filter] at hx
  obtain ⟨h1, h2⟩ := hx
  obtain ⟨y, _, rfl⟩ := List.mem_map.1 h1
  refine ⟨?_, by rw [rowT_len]; omega⟩
  intro e
  rw [e] at h2
  simp at h2

theorem begin0_c (ls : List (List Int)) (A : Option Addr) (c : Nat) (w : World) (hx : ARows w A ls) :
    Calls Try.prog 9 #[.slice A ls.length c, .bool false] w fun e w' => ∃ b l ws v L W, e = .returned (.tuple #[.pointer (some ⟨b, 0, none⟩), v]) ∧ OwnT w' w.heap.size b l ws ∧ RT w' v L W ∧ St l ws L W ∧ begT (smallT ls 8) = (L, W) ∧ L.length ≤ 41 ∧ W.length ≤ 8 ∧ (∀ x ∈ L, x.length ≤ 5) ∧ Ext w w' := by
  have HS := As.mk hx
  clear hx
  have HR0 : As ((w.alloc (.cells #[.slice none 0 0, .slice none 0 0] 27)).heap[w.heap.size]? = some (.cells #[.slice none 0 0, .slice none 0 0] 27 (0, 0))) := ⟨heap_alloc_new w _⟩
  have HX0 := As.mk (Ext.alloc w (.cells #[.slice none 0 0, .slice none 0 0] 27))
  go_enter Try.func9, Try.ntmps9
  go_wp2_with (first | (go_at_call 23; refine (new_c _).mono ?_; rintro e w1 ⟨b, rfl, ho, hx⟩; have HO1 := As.mk (ho.lower (B' := w.heap.size) HX0.out.size); have HX1 := As.mk (HX0.out.tr hx); have HR1 := As.mk (hx.heap HR0.out); clear ho hx HR0) | (go_at_call 33; refine (rnew_c _).mono ?_; rintro e w2 ⟨v, rfl, ⟨A1, c1, A2, c2, rfl, hl1, hl2, hs1, hs2⟩, hx⟩; have HRT2 : As (RT w2 (rtV A1 1 c1 A2 0 c2) [[]] []) := ⟨⟨A1, c1, A2, c2, rfl, hl1, hl2, hs1, hs2⟩⟩; have HO2 := As.mk (HO1.out.ext hx); have HX2 := As.mk (HX1.out.tr hx); have HR2 := As.mk (hx.heap HR1.out); clear hs1 hs2 hl1 hl2 hx HO1 HR1) | (go_at_call 34; have HX3 := As.mk (HX2.out.tr (Ext.alloc w2 (.cells #[.slice A1 1 c1, .slice A2 0 c2] 27))); refine (small_c ls A c _ (HS.out.ext HX3.out)).mono ?_; rintro e w4 ⟨v4, rfl, ho, hx⟩; obtain ⟨Ao, co, rfl, -, -⟩ := ho.form; have HOW := As.mk ho.sl'; have HX4 := As.mk (HX3.out.tr hx); have HE4 := As.mk ((Ext.alloc w2 (.cells #[.slice A1 1 c1, .slice A2 0 c2] 27)).tr hx); have HB4 := As.mk (hx.heap (heap_alloc_new w2 (.cells #[.slice A1 1 c1, .slice A2 0 c2] 27))); clear ho hx HX3))
  have h57 : w.heap.size < w2.heap.size := lt_of_heap HR2.out
  have HNE : As (∀ x ∈ smallT ls 8, x ≠ [] ∧ x.length ≤ 5) := ⟨smallT_ne⟩
  have hown : (smallT ls 8).length ≤ 8 := smallT_len ls 8
  have HO4 := As.mk (HO2.out.ext HE4.out)
  have HRT4 := As.mk (HRT2.out.ext HE4.out)
  have HR4 := As.mk (HE4.out.heap HR2.out)
  clear HO2 HX0 HX1 HX2 HR2 HE4 HRT2
  generalize hg7 : w2.heap.size = g7 at h57 HB4 ⊢
  clear hg7
  generalize hOWN : smallT ls 8 = own at HOW HNE hown ⊢
  have HOWN := As.mk hOWN
  clear hOWN
  go_loopw [10] (fun i w' => ∃ (k : Nat) (l : List Nd) (ws : List Int) (L W : List (List Int)) (a1 : Option Addr) (d1 : Nat) (a2 : Option Addr) (d2 : Nat), k ≤ own.length ∧ i = .int .i64 k ∧ As (OwnT w' w.heap.size b l ws) ∧ As (St l ws L W) ∧ As (begT (own.take k) = (L, W)) ∧
      As (w'.heap[g7]? = some (.cells #[.slice a1 L.length d1, .slice a2 W.length d2] 27 (0, 0))) ∧ As (w'.heap[w.heap.size]? = some (.cells #[.slice none 0 0, .slice none 0 0] 27 (0, 0))) ∧ As (RT w' (rtV a1 L.length d1 a2 W.length d2) L W) ∧ As (Ext w w') ∧ As (Sl kW w' Any Ao own) ∧
      L.length ≤ 1 + 5 * k ∧ W.length ≤ k ∧ As (∀ x ∈ L, x.length ≤ 5)) (fun i _ => own.length - (intOf i).toNat)
  case atStart => exact ⟨0, _, _, [[]], [], A1, c1, A2, c2, Nat.zero_le _, rfl, HO4, ⟨St.one⟩, ⟨rfl⟩, HB4, HR4, HRT4, HX4, HOW, by simp, by simp, ⟨by simp⟩⟩
  case round =>
    obtain ⟨k, l, ws, L, W, a1, d1, a2, d2, hk, rfl, HO, HSt, HB, HBx, HRs, HRT, HX, HOW, hLk, hWk, HL5⟩ := hrel
    by_cases hlt : k < own.length
    · have hlt' : decide ((k : Int) < own.length) = true := by simpa using hlt
      obtain ⟨ob, oo, A3, c3, rfl, hco, hc3, hs3⟩ := HOW.out.sl_at hlt
      have HS3 := As.mk hs3
      obtain ⟨hne, h5⟩ := HNE.out _ (List.getElem_mem hlt)
      have hz : (((own[k].length : Int)) == 0) = false := by
        have : own[k].length ≠ 0 := fun e => hne (List.eq_nil_of_length_eq_zero e)
        simp; omega
      have HNEk := As.mk hne
      have hlb : l.length ≤ 41 := by rw [HSt.out.tie.len]; omega
      have hwb : ws.length ≤ 8 := by rw [HSt.out.wlen]; omega
      have hnn : ((W.length : Int) != (W.length : Int)) = false := by simp
      clear hs3 hne
      go_wp2_with (first | (go_at_call 14; go_loud (have h1 := put_st HO.out HSt.out HS3.out hc3 (by omega) (by omega) (by omega) HNEk.out; refine h1.mono ?_; clear h1; rintro e w5 ⟨l5, ws5, rfl, ho, hs, hc⟩; have HO5 := As.mk ho; have HS5 := As.mk hs; have HC5 := As.mk hc; have HBx5 := As.mk (hc.blk HBx.out (by decide)); have HRs5 := As.mk (hc.blk HRs.out (by decide)); have HRT5 := As.mk (HRT.out.chg hc (by decide)); have HX5 := As.mk (HX.out.chg hc (Nat.le_refl _)); have HOW5 := As.mk (HOW.out.chg hc (by decide)); obtain ⟨ob6, oo6, A6, c6, e5, hco5, hc6, hs6⟩ := HOW5.out.sl_at hlt; cases e5; have HS6 := As.mk hs6; have hcb5 := cell_of_heap (j := 1) HBx5.out rfl; clear ho hs hc hs6)))
      have hq0 := ClE.cell (w := w5.drew) (cell_of_heap (j := 0) HBx5.out rfl)
      have hq1 := ClE.cell (w := w5.drew) (cell_of_heap (j := 1) HBx5.out rfl)
      have hq2 := ClE.cell (w := w5.drew) hco5
      refine wp_region_ext [⟨[0, 1, 2, 3, 4], [], 5, false⟩, ⟨[], [], 6, false⟩] [] (by kernel_rfl) (by kernel_rfl) ?_
      refine mix_cons rfl rfl rfl ?_
      simp only [opsAt, List.getD_cons_succ, List.getD_cons_zero]
      repeat (go_big_quiet_step ((intro hC; first | rfl | (go_simp; first | done | rfl))))
      refine wpQuiet_nil ?_
      repeat (go_big_quiet_step ((intro hC; first | rfl | (go_simp; first | done | rfl))))
      refine wpQuiet_nil ?_
      clear hq0 hq1 hq2 hcb5 hco5
      have hR6 := HRT5.out.ext (Ext.refl w5).drew
      have hS6 : Sl kP w5.drew Any A6 own[k] := HS6.out.below (Ext.refl w5).drew
      have hLs : ShortW L := fun x hx => by have := HL5.out x hx; omega
      have h1 := rput_c L W own[k] _ A6 c6 w5.drew hR6 hS6 hc6 (by omega) (by omega) hLs
      have H1 := As.mk h1
      clear hR6 hS6 hLs h1
      go_wp2_with (first | (go_at_call 35; refine H1.out.mono ?_; clear H1; rintro e w7 ⟨v, rfl, ⟨a5, d5, a6, d6, rfl, hl5, hl6, hs5, hs6⟩, hx⟩; have hx' := (Ext.refl w5).drew.tr hx; have HRT7 : As (RT w7 (rtV a5 (putL L own[k] own[k].length).length d5 a6 (W ++ [own[k]]).length d6) _ _) := ⟨⟨a5, d5, a6, d6, rfl, hl5, hl6, hs5, hs6⟩⟩; have HX7 := As.mk (HX5.out.tr hx'); have HBx7 := As.mk (hx'.heap HBx5.out); have HRs7 := As.mk (hx'.heap HRs5.out); have HO7 := As.mk (HO5.out.ext hx'); have HOW7 := As.mk (HOW5.out.below hx'); clear hs5 hs6 hl5 hl6 hx hx'))
      refine ⟨(fun h => by cases h), ?_⟩
      have hcb7 := cell_of_heap (j := 0) HBx7.out rfl
      have hcc7 := cell_of_heap (j := 1) HBx7.out rfl
      have hf7 := frozen_of_row w7 g7 0 _ _ HBx7.out
      have hf71 := frozen_of_row w7 g7 1 _ _ HBx7.out
      refine mix_cons rfl rfl rfl ?_
      simp only [opsAt, List.getD_cons_succ, List.getD_cons_zero]
      repeat (go_big_quiet_step ((intro hC; first | rfl | (go_simp; first | done | rfl))))
      refine wpQuiet_nil ?_
      repeat (go_big_quiet_step ((intro hC; first | rfl | (go_simp; first | done | rfl))))
      refine wpQuiet_nil ?_
      go_wp2
      refine ⟨(fun h => by cases h), mix_done ?_⟩
      simp only [calmQ]
      clear hcb7 hcc7 hf7 hf71
      have hwl : (W ++ [own[k]]).length = W.length + 1 := List.length_append ..
      rw [hwl] at HRT7
      have e1 := set_at (j := 1) (set_at (j := 0) HBx7.out (.slice a5 (putL L own[k] own[k].length).length d5)) (.slice a6 (W.length + 1) d6)
      have hch := (set_chg (j := 0) HBx7.out (.slice a5 (putL L own[k] own[k].length).length d5) w.heap.size (Nat.le_of_lt h57)).tr (set_chg (j := 1) (set_at (j := 0) HBx7.out (.slice a5 (putL L own[k] own[k].length).length d5)) (.slice a6 (W.length + 1) d6) w.heap.size (Nat.le_of_lt h57))
      have hplen := putL_len L own[k] own[k].length
      have HE1 := As.mk e1
      have HCH := As.mk hch
      have HWL := As.mk hwl
      clear e1 hch hwl
      go_wp2
      go_roundw
      case rel =>
        refine ⟨k + 1, l5, ws5, putL L own[k] own[k].length, W ++ [own[k]], a5, d5, a6, d6, by omega, by go_num, ⟨HO7.out.chg HCH.out (by decide)⟩, HS5, ⟨?_⟩, ⟨?_⟩, ⟨?_⟩, ⟨?_⟩, ⟨HX7.out.chg HCH.out (Nat.le_refl _)⟩, ⟨HOW7.out.chg HCH.out (by decide)⟩, by omega, by rw [HWL.out]; omega, ⟨putL_mem HL5.out h5 _⟩⟩
        · rw [begT_succ hlt, HB.out, stepB, if_neg HNEk.out]
        · rw [HWL.out]; exact HE1.out
        · exact (set_ne (by omega) _).trans ((set_ne (by omega) _).trans HRs7.out)
        · rw [HWL.out]; exact HRT7.out.chg HCH.out (by decide)
      case measure => simp [intOf]; omega
    · have hlt' : decide ((k : Int) < own.length) = false := by simpa using hlt
      have hke : own.take k = own := List.take_of_length_le (by omega)
      have HKE : As (begT own = (L, W)) := ⟨by rw [← hke]; exact HB.out⟩
      clear hke
      go_wp2
      have hq0 := ClE.cell (w := wr.drew) (cell_of_heap (j := 0) HBx.out rfl)
      have hq1 := ClE.cell (w := wr.drew) (cell_of_heap (j := 1) HBx.out rfl)
      have hcr0 := cell_of_heap (j := 0) HRs.out rfl
      have hcr1 := cell_of_heap (j := 1) HRs.out rfl
      have hf0 := frozen_of_row wr w.heap.size 0 _ _ HRs.out
      have hf1 := frozen_of_row wr w.heap.size 1 _ _ HRs.out
      refine wp_region_ext [⟨[0, 1, 2], [], 3, false⟩] [] (by kernel_rfl) (by kernel_rfl) ?_
      refine mix_cons rfl rfl rfl ?_
      simp only [opsAt, List.getD_cons_succ, List.getD_cons_zero]
      repeat (go_big_quiet_step ((intro hC; first | rfl | (go_simp; first | done | rfl))))
      refine wpQuiet_nil ?_
      repeat (go_big_quiet_step ((intro hC; first | rfl | (go_simp; first | done | rfl))))
      refine wpQuiet_nil ?_
      clear hq0 hq1
      go_wp2
      refine ⟨(fun h => by cases h), mix_done ?_⟩
      simp only [calmQ]
      go_wp2
      have e1 := set_at (j := 1) (set_at (j := 0) HRs.out (.slice a1 L.length d1)) (.slice a2 W.length d2)
      have hch := (set_chg (j := 0) HRs.out (.slice a1 L.length d1) w.heap.size (Nat.le_refl _)).tr (set_chg (j := 1) (set_at (j := 0) HRs.out (.slice a1 L.length d1)) (.slice a2 W.length d2) w.heap.size (Nat.le_refl _))
      refine bodyPost_ret (results_tmp_cell rfl _ _ w.heap.size 27 _ (0, 0) _ rfl e1 Try.underlying27 rfl (by kernel_rfl)) rfl ?_
      refine ⟨b, l, ws, _, L, W, rfl, HO.out.chg hch.drew (by decide), HRT.out.chg hch.drew (by decide), HSt.out, by rw [HOWN.out]; exact HKE.out, by omega, by omega, HL5.out, (set_ext (set_ext HX.out _ (Nat.le_refl _)) _ (Nat.le_refl _)).drew⟩
end Go.Proofs.Ythmcefalaieigaa
