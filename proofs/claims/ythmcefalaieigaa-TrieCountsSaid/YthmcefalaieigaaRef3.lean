/- The reference's functions: rows made small; a node's child. -/
import Derived.Test.YthmcefalaieigaaRef2
namespace Go.Proofs.Ythmcefalaieigaa
open Go.RowKit X
set_option maxHeartbeats 2000000
set_option maxRecDepth 8000
/-- numbers made small -/
def rowT (xs : List Int) (m : Nat) : List Int := (xs.take m).map (fun x => x.tmod 3)
theorem rowT_len (xs : List Int) (m : Nat) : (rowT xs m).length = min m xs.length := by simp [rowT, List.length_take]
theorem rowT_succ {xs : List Int} {k : Nat} (h : k < xs.length) : rowT xs (k + 1) = rowT xs k ++ [xs[k].tmod 3] := by
  unfold rowT
  rw [List.take_succ_eq_append_getElem h, List.map_append]; rfl
theorem rowT_all {xs : List Int} {k m : Nat} (h : ¬ (k < xs.length ∧ k < m)) (hk : k ≤ m) : rowT xs k = rowT xs m := by
  unfold rowT
  by_cases h1 : k < xs.length
  · have : k = m := by omega
    rw [this]
  · rw [List.take_of_length_le (by omega), List.take_of_length_le (by omega)]

/-- an argument's row, and rows -/
def ARow (w : World) (A : Option Addr) (xs : List Int) : Prop := ∀ (i : Nat) (h : i < xs.length), ∃ a, A = some a ∧ w.cell? (a.add i) = some (.int .u64 xs[i])
def ARows (w : World) (A : Option Addr) (ls : List (List Int)) : Prop := ∀ (i : Nat) (h : i < ls.length), ∃ a A' c', A = some a ∧ w.cell? (a.add i) = some (.slice A' ls[i].length c') ∧ ARow w A' ls[i]
theorem ARow.ext {w w' : World} {A : Option Addr} {xs : List Int} (h : ARow w A xs) (hx : Ext w w') : ARow w' A xs := fun i hi => by
  obtain ⟨a, e, hc⟩ := h i hi
  exact ⟨a, e, hx.cell hc⟩
theorem ARows.ext {w w' : World} {A : Option Addr} {ls : List (List Int)} (h : ARows w A ls) (hx : Ext w w') : ARows w' A ls := fun i hi => by
  obtain ⟨a, A', c', e, hc, hr⟩ := h i hi
  exact ⟨a, A', c', e, hx.cell hc, hr.ext hx⟩

theorem row_c (xs : List Int) (m : Nat) (A : Option Addr) (c : Nat) (w : World) (hx : ARow w A xs) (hm : m ≤ 1000000) :
    Calls Try.prog 16 #[.slice A xs.length c, .int .i64 m] w fun e w' => ∃ v, e = .returned v ∧ Own kP w' w.heap.size Any v (rowT xs m) ∧ Ext w w' := by
  have HS := As.mk hx
  clear hx
  go_enter Try.func16, Try.ntmps16
  go_wp2
  go_loopw [5, 6] (fun o i w' => ∃ k : Nat, k ≤ xs.length ∧ k ≤ m ∧ i = .int .i64 k ∧ As (Own kP w' w.heap.size Any o (rowT xs k)) ∧ As (Ext w w')) (fun _ i _ => xs.length - (intOf i).toNat)
  case atStart => exact ⟨0, Nat.zero_le _, Nat.zero_le _, rfl, ⟨by simpa [rowT] using Own.nil⟩, ⟨Ext.refl _⟩⟩
  case round =>
    obtain ⟨k, hk, hkm, rfl, HO, HX⟩ := hrel
    by_cases hlt : k < xs.length
    · have hlt' : decide ((k : Int) < xs.length) = true := by simpa using hlt
      by_cases hlm : k < m
      · have hlm' : decide ((k : Int) < m) = true := by simpa using hlm
        obtain ⟨a, rfl, hc⟩ := HS.out.ext HX.out k hlt
        have HR := As.mk (rowT_succ hlt)
        have HL := As.mk (rowT_len xs k)
        have hrl : (rowT xs k).length ≤ 1000000 := by rw [HL.out]; omega
        have HXa := As.mk (HX.out.tr (Ext.alloc wr (.cells #[.int .u64 (xs[k].tmod 3)] 24)))
        have HOa := As.mk (HO.out.ext (Ext.alloc wr (.cells #[.int .u64 (xs[k].tmod 3)] 24)))
        go_wp2_with (first | (at_builtin; refine wpList_push rfl _ _ rfl ty_pixs w HXa Any _ (rowT xs k) rfl HOa (xs[k].tmod 3) wr.heap.size 1 rfl [.int .u64 (xs[k].tmod 3)] 24 (0, 0) (heap_alloc_new _ _) rfl (by simp only [maxLen]; omega) (by omega) ?_; intro v1 w1 HO1 HX1 _))
        go_roundw
        case rel => exact ⟨k + 1, by omega, by omega, by go_num, ⟨by rw [HR.out]; exact HO1.out⟩, HX1⟩
        case measure => simp [intOf]; omega
      · have hlm' : decide ((k : Int) < m) = false := by simpa using hlm
        have HE := As.mk (rowT_all (m := m) (xs := xs) (k := k) (by omega) hkm)
        go_wp2
        go_ret
        exact ⟨_, rfl, HE.out ▸ HO.out, HX.out⟩
    · have hlt' : decide ((k : Int) < xs.length) = false := by simpa using hlt
      have HE := As.mk (rowT_all (m := m) (xs := xs) (k := k) (by omega) hkm)
      go_wp2
      go_ret
      exact ⟨_, rfl, HE.out ▸ HO.out, HX.out⟩
/-- words made small: none that is empty -/
def smallT (ls : List (List Int)) (m : Nat) : List (List Int) := ((ls.take m).map (fun x => rowT x 5)).filter (fun x => decide (0 < x.length))
theorem smallT_len (ls : List (List Int)) (m : Nat) : (smallT ls m).length ≤ m := by
  unfold smallT
  refine Nat.le_trans (List.length_filter_le _ _) ?_
  rw [List.length_map, List.length_take]; omega
theorem smallT_succ {ls : List (List Int)} {k : Nat} (h : k < ls.length) : smallT ls (k + 1) = smallT ls k ++ (if 0 < (rowT ls[k] 5).length then [rowT ls[k] 5] else []) := by
  unfold smallT
  rw [List.take_succ_eq_append_getElem h, List.map_append, List.filter_append]
  congr 1
  simp [List.filter_cons]
theorem smallT_all {ls : List (List Int)} {k m : Nat} (h : ¬ (k < ls.length ∧ k < m)) (hk : k ≤ m) : smallT ls k = smallT ls m := by
  unfold smallT
  by_cases h1 : k < ls.length
  · have : k = m := by omega
    rw [this]
  · rw [List.take_of_length_le (by omega), List.take_of_length_le (by omega)]

theorem small_c (ls : List (List Int)) (A : Option Addr) (c : Nat) (w : World) (hx : ARows w A ls) :
    Calls Try.prog 34 #[.slice A ls.length c] w fun e w' => ∃ v, e = .returned v ∧ Own kW w' w.heap.size Any v (smallT ls 8) ∧ Ext w w' := by
  have HS := As.mk hx
  clear hx
  go_enter Try.func34, Try.ntmps34
  go_wp2
  go_loopw [3, 4] (fun o i w' => ∃ k : Nat, k ≤ ls.length ∧ k ≤ 8 ∧ i = .int .i64 k ∧ As (Own kW w' w.heap.size Any o (smallT ls k)) ∧ As (Ext w w')) (fun _ i _ => ls.length - (intOf i).toNat)
  case atStart => exact ⟨0, Nat.zero_le _, Nat.zero_le _, rfl, ⟨by simpa [smallT] using Own.nil⟩, ⟨Ext.refl _⟩⟩
  case round =>
    obtain ⟨k, hk, hkm, rfl, HO, HX⟩ := hrel
    by_cases hlt : k < ls.length
    · have hlt' : decide ((k : Int) < ls.length) = true := by simpa using hlt
      by_cases hlm : k < 8
      · have hlm' : decide ((k : Int) < 8) = true := by simp; omega
        obtain ⟨a, A1, c1, rfl, hc, hs1⟩ := HS.out.ext HX.out k hlt
        have HS1 := As.mk hs1
        have hsm := smallT_len ls k
        clear hs1
        by_cases h0 : 0 < (rowT ls[k] 5).length
        · have HR : As (smallT ls (k + 1) = smallT ls k ++ [rowT ls[k] 5]) := ⟨by rw [smallT_succ hlt, if_pos h0]⟩
          have h0' : decide (((rowT ls[k] 5).length : Int) > 0) = true := by simp; omega
          go_wp2_with (first | (go_at_call 16; refine (row_c ls[k] 5 A1 c1 _ HS1.out (by omega)).mono ?_; rintro e w1 ⟨v, rfl, ho, hx⟩; obtain ⟨A2, c2, rfl, hc2, -⟩ := ho.form; have HO1 := As.mk ho.sl'; have HX1 := As.mk (HX.out.tr hx); have HOb := As.mk (HO.out.ext hx); clear ho hx; have HXa := As.mk (HX1.out.tr (Ext.alloc w1 (.cells #[.slice A2 (rowT ls[k] 5).length c2] 38))); have HOa := As.mk (HOb.out.ext (Ext.alloc w1 (.cells #[.slice A2 (rowT ls[k] 5).length c2] 38)))) | (at_builtin; refine wpList_push rfl _ _ rfl ty_rows w HXa Any _ (smallT ls k) rfl HOa (rowT ls[k] 5) w1.heap.size 1 rfl [.slice A2 (rowT ls[k] 5).length c2] 38 (0, 0) (heap_alloc_new _ _) ⟨A2, c2, rfl, hc2, HO1.out.below (Ext.alloc _ _)⟩ (by simp only [maxLen]; omega) (by omega) ?_; intro v3 w3 HO3 HX3 _))
          go_roundw
          case rel => exact ⟨k + 1, by omega, by omega, by go_num, ⟨by rw [HR.out]; exact HO3.out⟩, HX3⟩
          case measure => simp [intOf]; omega
        · have HR : As (smallT ls (k + 1) = smallT ls k) := ⟨by rw [smallT_succ hlt, if_neg h0, List.append_nil]⟩
          have h0' : decide (((rowT ls[k] 5).length : Int) > 0) = false := by rw [decide_eq_false_iff_not]; omega
          go_wp2_with (first | (go_at_call 16; refine (row_c ls[k] 5 A1 c1 _ HS1.out (by omega)).mono ?_; rintro e w1 ⟨v, rfl, ho, hx⟩; obtain ⟨A2, c2, rfl, hc2, -⟩ := ho.form; have HX1 := As.mk (HX.out.tr hx); have HOb := As.mk (HO.out.ext hx); clear ho hx))
          go_roundw
          case rel => exact ⟨k + 1, by omega, by omega, by go_num, ⟨by rw [HR.out]; exact HOb.out⟩, HX1⟩
          case measure => simp [intOf]; omega
      · have hlm' : decide ((k : Int) < 8) = false := by simp; omega
        have HE := As.mk (smallT_all (m := 8) (ls := ls) (k := k) (by omega) hkm)
        go_wp2
        go_ret
        exact ⟨_, rfl, HE.out ▸ HO.out, HX.out⟩
    · have hlt' : decide ((k : Int) < ls.length) = false := by simpa using hlt
      have HE := As.mk (smallT_all (m := 8) (ls := ls) (k := k) (by omega) hkm)
      go_wp2
      go_ret
      exact ⟨_, rfl, HE.out ▸ HO.out, HX.out⟩

/-- a node's child, by paths -/
def rchildT (L : List (List Int)) (n p : Int) : Int := if 0 ≤ n ∧ n < L.length then findT L (L.getD n.toNat [] ++ [p]) else -1
theorem rchild_c (L W : List (List Int)) (n p : Int) (v : Value) (w : World) (hR : RT w v L W) (hL : L.length ≤ 1000000) (hs : ShortW L) (hs' : ∀ x ∈ L, x.length ≤ 999999) :
    Calls Try.prog 11 #[v, .int .i64 n, .int .u64 p] w fun e w' => e = .returned (.int .i64 (rchildT L n p)) ∧ Ext w w' := by
  obtain ⟨A, c, A', c', rfl, hc, hc', hLs, hWs⟩ := hR
  have HL := As.mk hLs
  have HSh := As.mk hs
  have HSh' := As.mk hs'
  clear hLs hWs hs hs'
  by_cases h0 : 0 ≤ n
  · obtain ⟨k, rfl⟩ : ∃ k : Nat, n = k := ⟨n.toNat, by omega⟩
    have h0' : decide ((k : Int) < 0) = false := by simp
    by_cases h1 : k < L.length
    · have h1' : decide ((k : Int) ≥ (L.length : Int)) = false := by simp; omega
      have HE : As (rchildT L k p = findT L (L[k] ++ [p])) := ⟨by unfold rchildT; rw [if_pos (by omega), Int.toNat_natCast, List.getD_eq_getElem?_getD, List.getElem?_eq_getElem h1]; rfl⟩
      obtain ⟨b, o, A1, c1, rfl, hcl, hl1, hs1⟩ := HL.out.sl_at h1
      have HX0 := As.mk (Ext.alloc w (.cells #[.slice (some ⟨b, o, none⟩) L.length c, .slice A' W.length c'] 27))
      have hca := HX0.out.cell hcl
      have HS1 := As.mk (hs1.below HX0.out)
      have hsl := HSh'.out _ (List.getElem_mem h1)
      have HB : As ((w.alloc (.cells #[.slice (some ⟨b, o, none⟩) L.length c, .slice A' W.length c'] 27)).heap[w.heap.size]? = some (.cells #[.slice (some ⟨b, o, none⟩) L.length c, .slice A' W.length c'] 27 (0, 0))) := ⟨heap_alloc_new w _⟩
      have hcb0 := cell_of_heap (j := 0) HB.out rfl
      clear hs1 hcl
      go_enter Try.func11, Try.ntmps11
      have HN : As (Own kP (w.alloc (.cells #[.slice (some ⟨b, o, none⟩) L.length c, .slice A' W.length c'] 27)) w.heap.size Any (.slice none 0 0) []) := ⟨Own.nil⟩
      go_wp2_with (first | (at_builtin; refine wpList_app rfl _ _ rfl ty_pixs w HX0 Any (.slice none 0 0) [] L[k] rfl HN A1 c1 rfl HS1.out (by simp only [maxLen, List.length_nil]; omega) (by simp only [List.length_nil]; omega) ?_; intro v2 w2 HO2 HE2 HG2; rw [List.nil_append] at HO2; obtain ⟨A2, c2, hv2, -, -⟩ := HO2.out.form; subst hv2))
      have HB2 : As (w2.heap[w.heap.size]? = some (.cells #[.slice (some ⟨b, o, none⟩) L.length c, .slice A' W.length c'] 27 (0, 0))) := ⟨(HG2.out.1.block w.heap.size (lt_of_heap HB.out) (by simp [Value.ownBlock])).trans HB.out⟩
      have hE2 : As (Ext (w.alloc (.cells #[.slice (some ⟨b, o, none⟩) L.length c, .slice A' W.length c'] 27)) w2) := ⟨⟨HG2.out.1.os, HG2.out.1.tape, HG2.out.1.output, HG2.out.1.size, fun k hk => HG2.out.1.block k hk (by simp [Value.ownBlock])⟩⟩
      have hq0 := ClA.cell (L := [⟨w.heap.size, 0, none⟩, ⟨w.heap.size, 1, none⟩]) (w := w2.drew) (cell_of_heap (j := 0) HB2.out rfl) (by simp)
      have hq1 := ClA.cell (L := [⟨w.heap.size, 0, none⟩, ⟨w.heap.size, 1, none⟩]) (w := w2.drew) (cell_of_heap (j := 1) HB2.out rfl) (by simp)
      have hlb := lt_of_heap HB2.out
      refine wp_region_at [⟨w.heap.size, 0, none⟩, ⟨w.heap.size, 1, none⟩] [⟨[0, 2], [1], 3, true⟩, ⟨[], [], 4, true⟩, ⟨[], [], 5, false⟩] [6] (by kernel_rfl) (by kernel_rfl) ?_
      refine mix_cons rfl rfl rfl ?_
      simp only [opsAt, List.getD_cons_succ, List.getD_cons_zero]
      repeat (go_big_quiet_step ((intro hC; first | rfl | (go_simp; first | done | rfl))))
      refine wpQuiet_nil ?_
      repeat (go_big_quiet_step ((intro hC; first | rfl | (go_simp; first | done | rfl))))
      refine wpQuiet_nil ?_
      go_wp2
      have hcl : ClA [⟨w.heap.size, 0, none⟩, ⟨w.heap.size, 1, none⟩] w2.drew (w2.alloc (.cells #[.int .u64 p] 24)).drew := by
        refine ClA.alloc (w := w2) (fun a ha => ?_) _
        simp only [List.mem_cons, List.not_mem_nil, or_false] at ha
        rcases ha with rfl | rfl <;> exact hlb
      refine ⟨fun _ => hcl, ?_⟩
      have HX3 : As (Ext w2 (w2.alloc (.cells #[.int .u64 p] 24)).drew) := ⟨(Ext.alloc w2 _).drew⟩
      have HY3 : As ((w2.alloc (.cells #[.int .u64 p] 24)).drew.heap[w2.heap.size]? = some (.cells #[.int .u64 p] 24 (0, 0))) := ⟨heap_alloc_new w2 _⟩
      generalize (w2.alloc (.cells #[.int .u64 p] 24)).drew = w3 at HX3 HY3 ⊢
      have HO3 := As.mk (HO2.out.ext HX3.out)
      have HE3 := As.mk (HE2.out.tr HX3.out)
      clear hcl hq0 hq1 hcb0
      have HLN : As ((L[k] ++ [p]).length = L[k].length + 1) := ⟨List.length_append ..⟩
      refine mix_cons rfl rfl rfl ?_
      simp only [opsAt, List.getD_cons_succ, List.getD_cons_zero]
      repeat (go_big_quiet_step ((intro hC; first | rfl | (go_simp; first | done | rfl))))
      refine wpQuiet_nil ?_
      repeat (go_big_quiet_step ((intro hC; first | rfl | (go_simp; first | done | rfl))))
      refine wpQuiet_nil ?_
      go_wp2_with (first | (at_builtin; refine wpList_push rfl _ _ rfl ty_pixs w HE3 Any (.slice A2 L[k].length c2) L[k] rfl HO3 p w2.heap.size 1 rfl [.int .u64 p] 24 (0, 0) HY3.out rfl (by simp only [maxLen]; omega) (by omega) ?_; intro v4 w4 HO4 HE4 HG4; obtain ⟨A4, c4, hv4, hc4, -⟩ := HO4.out.form; rw [HLN.out] at hv4; subst hv4))
      have hcl4 : ClA [⟨w.heap.size, 0, none⟩, ⟨w.heap.size, 1, none⟩] w3 w4 := by
        have hB3 := HX3.out.heap HB2.out
        have hne : some w.heap.size ≠ (Value.slice A2 L[k].length c2).ownBlock := fun e => by
          obtain ⟨cur, hh⟩ := HO3.out.rowTy _ e.symm
          rw [hB3] at hh
          injection hh with i1
          injection i1 with _ i2 _
          exact absurd i2 (by decide)
        refine ClA.grown HG4.out.1 (fun a ha => ?_)
        simp only [List.mem_cons, List.not_mem_nil, or_false] at ha
        rcases ha with rfl | rfl <;> exact ⟨lt_of_heap hB3, hne⟩
      refine ⟨fun _ => hcl4, ?_⟩
      simp only [Act.put, List.setIfInBounds_toArray, List.set_cons_succ, List.set_cons_zero]
      clear hcl4
      refine mix_cons rfl rfl rfl ?_
      simp only [opsAt, List.getD_cons_succ, List.getD_cons_zero]
      repeat (go_big_quiet_step ((intro hC; first | rfl | (go_simp; first | done | rfl))))
      refine wpQuiet_nil ?_
      repeat (go_big_quiet_step ((intro hC; first | rfl | (go_simp; first | done | rfl))))
      refine wpQuiet_nil ?_
      have hf4 := find_c L W (L[k] ++ [p]) (some ⟨b, o, none⟩) A' A4 c c' c4 w4 Any Any (HL.out.below HE4.out) (HLN.out ▸ HO4.out).sl' hL HSh.out (by rw [HLN.out]; omega)
      rw [HLN.out] at hf4
      have HF4 := As.mk hf4
      clear hf4
      go_wp2_with (first | (go_at_call 32; refine HF4.out.mono ?_; rintro e w5 ⟨rfl, hx⟩; have HX5 := As.mk (HE4.out.tr hx); clear hx))
      refine ⟨(fun h => by cases h), ?_⟩
      refine mix_last rfl ?_
      simp only [opsAt, List.getD_cons_succ, List.getD_cons_zero]
      repeat (go_big_quiet_step ((intro hC; first | rfl | (go_simp; first | done | rfl))))
      refine wpQuiet_nil ?_
      simp only [calmQ]
      go_wp2
      go_ret
      exact ⟨ret_int HE.out.symm, HX5.out⟩
    · have h1' : decide ((k : Int) ≥ (L.length : Int)) = true := by simp; omega
      have HE : As (rchildT L k p = -1) := ⟨by unfold rchildT; rw [if_neg (by omega)]⟩
      go_enter Try.func11, Try.ntmps11
      go_wp2
      go_ret
      exact ⟨ret_int HE.out.symm, Ext.alloc w _⟩
  · have h0' : decide (n < 0) = true := by simp; omega
    have HE : As (rchildT L n p = -1) := ⟨by unfold rchildT; rw [if_neg (by omega)]⟩
    go_enter Try.func11, Try.ntmps11
    go_wp2
    go_ret
    exact ⟨ret_int HE.out.symm, Ext.alloc w _⟩
end Go.Proofs.Ythmcefalaieigaa
