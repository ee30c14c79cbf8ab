/- The law TrieChildren, walked. -/
import Derived.Test.YthmcefalaieigaaBeg
namespace Go.Proofs.Ythmcefalaieigaa
open Go.RowKit X
set_option maxHeartbeats 2000000
set_option maxRecDepth 8000
theorem children_c (ls : List (List Int)) (n p : Int) (A : Option Addr) (c : Nat) (w : World) (hx : ARows w A ls) :
    Calls Try.prog 3 #[.slice A ls.length c, .int .i64 n, .int .u64 p] w fun e w' => e = .returned (.bool true) ∧ Ext w w' := by
  have HS := As.mk hx
  clear hx
  go_enter Try.func3, Try.ntmps3
  go_wp2_with (first | (go_at_call 9; refine (begin0_c ls A c _ (HS.out.ext (Ext.refl _))).mono ?_; rintro e w1 ⟨b, l, ws, v, L, W, rfl, ho, ⟨a1, d1, a2, d2, rfl, hl1, hl2, hs1, hs2⟩, hst, -, hL, hW, hL5, hx⟩; have HO := As.mk ho; have HRT : As (RT w1 (rtV a1 L.length d1 a2 W.length d2) L W) := ⟨⟨a1, d1, a2, d2, rfl, hl1, hl2, hs1, hs2⟩⟩; have HX := As.mk hx; have HST := As.mk hst; have HL5 := As.mk hL5; clear ho hs1 hs2 hst hx hl1 hl2 hL5 HS))
  have HX2 := As.mk (HX.out.tr (Ext.alloc w1 (.cells #[.slice a1 L.length d1, .slice a2 W.length d2] 27)))
  have HO2 := As.mk (HO.out.ext (Ext.alloc w1 (.cells #[.slice a1 L.length d1, .slice a2 W.length d2] 27)))
  have HRT2 := As.mk (HRT.out.ext (Ext.alloc w1 (.cells #[.slice a1 L.length d1, .slice a2 W.length d2] 27)))
  have HB2 := As.mk (heap_alloc_new w1 (.cells #[.slice a1 L.length d1, .slice a2 W.length d2] 27))
  have HG : As (GoodT l) := ⟨HST.out.wf.good (by rw [HST.out.tie.len]; omega)⟩
  have HCC : As (∀ i q, childT l i q = rchildT L i q) := ⟨HST.out.tie.childR HST.out.wf⟩
  have HLS : As (ShortW L ∧ ∀ x ∈ L, x.length ≤ 999999) := ⟨fun x hx => by have := HL5.out x hx; omega, fun x hx => by have := HL5.out x hx; omega⟩
  generalize w1.heap.size = g8 at HB2 ⊢
  generalize w1.alloc (.cells #[.slice a1 L.length d1, .slice a2 W.length d2] 27) = w2 at HX2 HO2 HRT2 HB2 ⊢
  clear HO HRT HX
  go_loopw [9] (fun i w' => ∃ k : Int, -1 ≤ k ∧ k ≤ L.length + 1 ∧ i = .int .i64 k ∧ As (Ext w2 w')) (fun i _ => ((L.length : Int) + 1 - intOf i).toNat)
  case atStart => exact ⟨-1, by omega, by omega, rfl, ⟨Ext.refl _⟩⟩
  case round =>
    obtain ⟨k, hk0, hk1, rfl, HX⟩ := hrel
    have hcb0 := cell_of_heap (j := 0) (HX.out.heap HB2.out) rfl
    by_cases hle : k ≤ L.length
    · have hle' : decide (k ≤ (L.length : Int)) = true := by simpa using hle
      go_wp2
      go_loopw [10] (fun i w' => ∃ q : Nat, q ≤ 4 ∧ i = .int .u64 q ∧ As (Ext w2 w')) (fun i _ => 4 - (intOf i).toNat)
      case atStart => exact ⟨0, by omega, rfl, HX⟩
      case round =>
        obtain ⟨q, hq, rfl, HXr⟩ := hrel
        by_cases hlt : q < 4
        · have hlt' : decide ((q : Int) < 4) = true := by simp; omega
          go_wp2
          have hq0 := ClE.cell (w := wr.drew) (cell_of_heap (j := 0) (HXr.out.heap HB2.out) rfl)
          have hq1 := ClE.cell (w := wr.drew) (cell_of_heap (j := 1) (HXr.out.heap HB2.out) rfl)
          have hc1 := child_c l ws k q b wr.drew _ (HO2.out.ext HXr.out.drew).rd HG.out
          rw [HCC.out] at hc1
          have H1 := As.mk hc1
          clear hc1
          refine wp_region_ext [⟨[0, 1, 2, 4], [5, 6], 3, true⟩, ⟨[], [], 7, false⟩] [8] (by kernel_rfl) (by kernel_rfl) ?_
          refine mix_cons rfl rfl rfl ?_
          simp only [opsAt, List.getD_cons_succ, List.getD_cons_zero]
          repeat (go_big_quiet_step ((intro hC; first | rfl | (go_simp; first | done | rfl))))
          refine wpQuiet_nil ?_
          repeat (go_big_quiet_step ((intro hC; first | rfl | (go_simp; first | done | rfl))))
          refine wpQuiet_nil ?_
          go_wp2_with (first | (go_at_call 10; refine H1.out.mono ?_; clear H1; rintro e wa ⟨rfl, hx⟩; have HXa := As.mk hx; clear hx))
          refine ⟨fun _ => HXa.out, ?_⟩
          have HXb : As (Ext w2 wa) := ⟨HXr.out.drew.tr HXa.out⟩
          have h2 := rchild_c L W k q _ wa (HRT2.out.ext HXb.out) (by omega) HLS.out.1 HLS.out.2
          have H2 := As.mk h2
          clear h2 hq0 hq1
          refine mix_cons rfl rfl rfl ?_
          simp only [opsAt, List.getD_cons_succ, List.getD_cons_zero]
          repeat (go_big_quiet_step ((intro hC; first | rfl | (go_simp; first | done | rfl))))
          refine wpQuiet_nil ?_
          repeat (go_big_quiet_step ((intro hC; first | rfl | (go_simp; first | done | rfl))))
          refine wpQuiet_nil ?_
          go_wp2_with (first | (go_at_call 11; refine H2.out.mono ?_; clear H2; rintro e wb ⟨rfl, hx⟩; have HXc : As (Ext w2 wb) := ⟨HXb.out.tr hx⟩; clear hx))
          refine ⟨(fun h => by cases h), ?_⟩
          refine mix_last rfl ?_
          simp only [opsAt, List.getD_cons_succ, List.getD_cons_zero]
          repeat (go_big_quiet_step ((intro hC; first | rfl | (go_simp; first | done | rfl))))
          refine wpQuiet_nil ?_
          simp only [calmQ]
          go_wp2
          go_roundw
          case rel => exact ⟨q + 1, by omega, by go_num, HXc⟩
          case measure => simp [intOf]; omega
        · have hlt' : decide ((q : Int) < 4) = false := by simp; omega
          go_wp2

          have hq0 := ClE.cell (w := wr.drew) (cell_of_heap (j := 0) (HXr.out.heap HB2.out) rfl)
          have hq1 := ClE.cell (w := wr.drew) (cell_of_heap (j := 1) (HXr.out.heap HB2.out) rfl)
          have hc1 := child_c l ws k p b wr.drew _ (HO2.out.ext HXr.out.drew).rd HG.out
          rw [HCC.out] at hc1
          have H1 := As.mk hc1
          clear hc1
          refine wp_region_ext [⟨[0, 1, 2, 4], [5, 6], 3, true⟩, ⟨[], [], 7, false⟩] [8] (by kernel_rfl) (by kernel_rfl) ?_
          refine mix_cons rfl rfl rfl ?_
          simp only [opsAt, List.getD_cons_succ, List.getD_cons_zero]
          repeat (go_big_quiet_step ((intro hC; first | rfl | (go_simp; first | done | rfl))))
          refine wpQuiet_nil ?_
          repeat (go_big_quiet_step ((intro hC; first | rfl | (go_simp; first | done | rfl))))
          refine wpQuiet_nil ?_
          go_wp2_with (first | (go_at_call 10; refine H1.out.mono ?_; clear H1; rintro e wa ⟨rfl, hx⟩; have HXa := As.mk hx; clear hx))
          refine ⟨fun _ => HXa.out, ?_⟩
          have HXb : As (Ext w2 wa) := ⟨HXr.out.drew.tr HXa.out⟩
          have h2 := rchild_c L W k p _ wa (HRT2.out.ext HXb.out) (by omega) HLS.out.1 HLS.out.2
          have H2 := As.mk h2
          clear h2 hq0 hq1
          refine mix_cons rfl rfl rfl ?_
          simp only [opsAt, List.getD_cons_succ, List.getD_cons_zero]
          repeat (go_big_quiet_step ((intro hC; first | rfl | (go_simp; first | done | rfl))))
          refine wpQuiet_nil ?_
          repeat (go_big_quiet_step ((intro hC; first | rfl | (go_simp; first | done | rfl))))
          refine wpQuiet_nil ?_
          go_wp2_with (first | (go_at_call 11; refine H2.out.mono ?_; clear H2; rintro e wb ⟨rfl, hx⟩; have HXc : As (Ext w2 wb) := ⟨HXb.out.tr hx⟩; clear hx))
          refine ⟨(fun h => by cases h), ?_⟩
          refine mix_last rfl ?_
          simp only [opsAt, List.getD_cons_succ, List.getD_cons_zero]
          repeat (go_big_quiet_step ((intro hC; first | rfl | (go_simp; first | done | rfl))))
          refine wpQuiet_nil ?_
          simp only [calmQ]
          go_wp2
          go_roundw
          case rel => exact ⟨k + 1, by omega, by omega, rfl, HXc⟩
          case measure => simp [intOf]; omega
    · have hle' : decide (k ≤ (L.length : Int)) = false := by simpa using hle
      go_wp2
      have hq0 := ClE.cell (w := wr.drew) (cell_of_heap (j := 0) (HX.out.heap HB2.out) rfl)
      have hq1 := ClE.cell (w := wr.drew) (cell_of_heap (j := 1) (HX.out.heap HB2.out) rfl)
      have hc1 := child_c l ws n p b wr.drew _ (HO2.out.ext HX.out.drew).rd HG.out
      rw [HCC.out] at hc1
      have H1 := As.mk hc1
      clear hc1
      refine wp_region_ext [⟨[0, 1, 2, 4], [5, 6], 3, true⟩, ⟨[], [], 7, false⟩, ⟨[8, 9], [], 10, false⟩] [11, 12] (by kernel_rfl) (by kernel_rfl) ?_
      refine mix_cons rfl rfl rfl ?_
      simp only [opsAt, List.getD_cons_succ, List.getD_cons_zero]
      repeat (go_big_quiet_step ((intro hC; first | rfl | (go_simp; first | done | rfl))))
      refine wpQuiet_nil ?_
      repeat (go_big_quiet_step ((intro hC; first | rfl | (go_simp; first | done | rfl))))
      refine wpQuiet_nil ?_
      go_wp2_with (first | (go_at_call 10; refine H1.out.mono ?_; clear H1; rintro e wa ⟨rfl, hx⟩; have HXa := As.mk hx; clear hx))
      refine ⟨fun _ => HXa.out, ?_⟩
      have HXb : As (Ext w2 wa) := ⟨HX.out.drew.tr HXa.out⟩
      have h2 := rchild_c L W n p _ wa (HRT2.out.ext HXb.out) (by omega) HLS.out.1 HLS.out.2
      have H2 := As.mk h2
      clear h2 hq0 hq1
      refine mix_cons rfl rfl rfl ?_
      simp only [opsAt, List.getD_cons_succ, List.getD_cons_zero]
      repeat (go_big_quiet_step ((intro hC; first | rfl | (go_simp; first | done | rfl))))
      refine wpQuiet_nil ?_
      repeat (go_big_quiet_step ((intro hC; first | rfl | (go_simp; first | done | rfl))))
      refine wpQuiet_nil ?_
      go_wp2_with (first | (go_at_call 11; refine H2.out.mono ?_; clear H2; rintro e wb ⟨rfl, hx⟩; have HXc : As (Ext w2 wb) := ⟨HXb.out.tr hx⟩; clear hx))
      refine ⟨(fun h => by cases h), ?_⟩
      refine mix_cons rfl rfl rfl ?_
      simp only [opsAt, List.getD_cons_succ, List.getD_cons_zero]
      repeat (go_big_quiet_step ((intro hC; first | rfl | (go_simp; first | done | rfl))))
      refine wpQuiet_nil ?_
      repeat (go_big_quiet_step ((intro hC; first | rfl | (go_simp; first | done | rfl))))
      refine wpQuiet_nil ?_
      go_wp2_with (first | (go_at_call 12; refine (lives_c _).mono ?_; rintro e wd ⟨rfl, hx⟩; have HXd := As.mk (HXc.out.tr hx); clear hx))
      refine ⟨(fun h => by cases h), ?_⟩
      refine mix_last rfl ?_
      simp only [opsAt, List.getD_cons_succ, List.getD_cons_zero]
      repeat (go_big_quiet_step ((intro hC; first | rfl | (go_simp; first | done | rfl))))
      refine wpQuiet_nil ?_
      simp only [calmQ]
      go_wp2
      go_ret
      exact ⟨rfl, HX2.out.tr HXd.out⟩
end Go.Proofs.Ythmcefalaieigaa
