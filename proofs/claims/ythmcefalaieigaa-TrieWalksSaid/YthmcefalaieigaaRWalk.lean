/- The reference's walk. -/
import Derived.Test.YthmcefalaieigaaTreeC
namespace Go.Proofs.Ythmcefalaieigaa
open Go.RowKit X
set_option maxHeartbeats 2000000
set_option maxRecDepth 8000
set_option linter.unusedSimpArgs false
set_option linter.unusedVariables false
theorem rwalk_c (L W : List (List Int)) (xs : List Int) (v : Value) (B : Option Addr) (d : Nat) (w : World) (I : Fp) (hI : ∀ b, I b → b < w.heap.size) (hR : RT w I v L W) (hx : Sl kP w I B xs) (hd : xs.length ≤ d) (hL : L.length ≤ 1000000) (hn : xs.length ≤ 1000000) (hs : ShortW L) :
    Calls Try.prog 18 #[v, .slice B xs.length d] w fun e w' => e = .returned (.tuple #[.int .i64 (wkR L xs xs.length).1, .int .i64 (wkR L xs xs.length).2]) ∧ Ext w w' := by
  obtain ⟨A, c, A', c', rfl, hc0, hc', hLs, hWs⟩ := hR
  have S := ((SH.start w I hI).know (h := Im kP B xs) hx).know (h := Im kW A L) hLs
  have HS := As.mk hs
  have hc := S.cells; simp only [Cells, cellsC, Im, Row, El, RTH, TreeH, TR, Nat.zero_add, Nat.reduceAdd] at hc
  clear hLs hWs hx hs hI
  go_enter Try.func18, Try.ntmps18
  go_wp2_with (first | ((first | (with_reducible refine wpl_seal S ?_) | (with_reducible refine cw_seal S ?_) | (with_reducible refine bp_seal S ?_) | (with_reducible refine ca_seal S ?_)); clear S hc; intro w1 S; (try simp only [List.set_cons_zero, List.set_cons_succ, List.nil_append] at S); have hc := S.cells; simp only [Cells, cellsC, Im, Row, El, RTH, TreeH, TR, Nat.zero_add, Nat.reduceAdd] at hc))
  clear hc
  go_loopw [6] (fun i w' => ∃ (k : Nat) (g : Nat), k ≤ xs.length ∧ i = .int .i64 k ∧ As (wkR L xs xs.length = wkR L xs k) ∧ As (SH No I w [Cel w.heap.size 27 [.slice A L.length c, .slice A' W.length c'], Im kW A L, Im kP B xs] w' I)) (fun i _ => (intOf i).toNat)
  case atStart => exact ⟨xs.length, 0, Nat.le_refl _, rfl, ⟨rfl⟩, ⟨S⟩⟩
  case round =>
    clear S
    obtain ⟨k, -, hk, rfl, HE, ⟨S⟩⟩ := hrel
    rcases k with _ | k
    · have hc := S.cells; simp only [Cells, cellsC, Im, Row, El, RTH, TreeH, TR, Nat.zero_add, Nat.reduceAdd] at hc
      go_wp2_with (first | ((first | (with_reducible refine wpl_seal S ?_) | (with_reducible refine cw_seal S ?_) | (with_reducible refine bp_seal S ?_) | (with_reducible refine ca_seal S ?_)); clear S hc; intro w1 S; (try simp only [List.set_cons_zero, List.set_cons_succ, List.nil_append] at S); have hc := S.cells; simp only [Cells, cellsC, Im, Row, El, RTH, TreeH, TR, Nat.zero_add, Nat.reduceAdd] at hc))
      go_ret2
      refine ⟨?_, S.out⟩
      rw [HE.out]; rfl
    · have h0' : decide (((k + 1 : Nat) : Int) > 0) = true := by simp
      have hlk : (xs.take (k + 1)).length = k + 1 := by rw [List.length_take]; omega
      have HLK := As.mk hlk
      have hF : ∀ w', SH No I w [Cel w.heap.size 27 [.slice A L.length c, .slice A' W.length c'], Im kW A L, Im kP B xs] w' I → Calls Try.prog 32 #[rtV A L.length c A' W.length c', .slice B (k + 1) d] w' fun e w2 => e = .returned (.int .i64 (findT L (xs.take (k + 1)))) ∧ Ext w' w2 := fun w' S => by
        have := find_c L W (xs.take (k + 1)) A A' B c c' d w' _ _ (S.im 1 rfl) ((S.im 2 rfl).take _) hL HS.out (by omega)
        rwa [hlk] at this
      have HF := As.mk hF
      obtain ⟨xb, xo, rfl, -⟩ := (S.im 2 rfl).int_at (i := 0) (by omega)
      clear hF hlk
      have hc := S.cells; simp only [Cells, cellsC, Im, Row, El, RTH, TreeH, TR, Nat.zero_add, Nat.reduceAdd] at hc
      have hq := S.cellsE; simp only [CellsE, cellsE, Im, Row, El, RTH, TreeH, TR, Nat.zero_add, Nat.reduceAdd] at hq
      by_cases hf : 0 ≤ findT L (xs.take (k + 1))
      · have hf' : decide (findT L (xs.take (k + 1)) ≥ 0) = true := by simpa using hf
        have HW : As (wkR L xs xs.length = (findT L (xs.take (k + 1)), k + 1)) := ⟨by rw [HE.out]; simp only [wkR]; rw [if_pos hf]⟩
        clear hf
        go_wp2_with (first | ((first | (with_reducible refine wpl_seal S ?_) | (with_reducible refine cw_seal S ?_) | (with_reducible refine bp_seal S ?_) | (with_reducible refine ca_seal S ?_)); clear S hc; intro w1 S; (try simp only [List.set_cons_zero, List.set_cons_succ, List.nil_append] at S); have hc := S.cells; simp only [Cells, cellsC, Im, Row, El, RTH, TreeH, TR, Nat.zero_add, Nat.reduceAdd] at hc))
        refine wp_region_ext [⟨[0, 1, 2, 3], [], 4, false⟩] [5] (by kernel_rfl) (by kernel_rfl) ?_
        refine mix_cons rfl rfl rfl ?_
        simp only [opsAt, List.getD_cons_succ, List.getD_cons_zero]
        repeat (go_big_quiet_step ((intro hC; first | rfl | (go_simp; first | done | rfl))))
        refine wpQuiet_nil ?_
        repeat (go_big_quiet_step ((intro hC; first | rfl | (go_simp; first | done | rfl))))
        refine wpQuiet_nil ?_
        clear hq hc
        replace S := S.drew
        go_wp2_with (first | ((first | (with_reducible refine wpl_seal S ?_) | (with_reducible refine cw_seal S ?_) | (with_reducible refine bp_seal S ?_) | (with_reducible refine ca_seal S ?_)); clear S hc; intro w1 S; (try simp only [List.set_cons_zero, List.set_cons_succ, List.nil_append] at S); have hc := S.cells; simp only [Cells, cellsC, Im, Row, El, RTH, TreeH, TR, Nat.zero_add, Nat.reduceAdd] at hc) | (go_at_call 32; refine (HF.out _ S).mono ?_; rintro e w1 ⟨rfl, hx⟩; replace S := S.ext hx; clear hx))
        refine ⟨(fun h => by cases h), ?_⟩
        refine mix_last rfl ?_
        simp only [opsAt, List.getD_cons_succ, List.getD_cons_zero]
        repeat (go_big_quiet_step ((intro hC; first | rfl | (go_simp; first | done | rfl))))
        refine wpQuiet_nil ?_
        simp only [calmQ]
        have hc := S.cells; simp only [Cells, cellsC, Im, Row, El, RTH, TreeH, TR, Nat.zero_add, Nat.reduceAdd] at hc
        go_wp2_with (first | ((first | (with_reducible refine wpl_seal S ?_) | (with_reducible refine cw_seal S ?_) | (with_reducible refine bp_seal S ?_) | (with_reducible refine ca_seal S ?_)); clear S hc; intro w1 S; (try simp only [List.set_cons_zero, List.set_cons_succ, List.nil_append] at S); have hc := S.cells; simp only [Cells, cellsC, Im, Row, El, RTH, TreeH, TR, Nat.zero_add, Nat.reduceAdd] at hc))
        go_ret2
        refine ⟨?_, S.out⟩
        rw [HW.out]; simp
      · have hf' : decide (findT L (xs.take (k + 1)) ≥ 0) = false := by simpa using hf
        have HW : As (wkR L xs xs.length = wkR L xs k) := ⟨by rw [HE.out]; simp only [wkR]; rw [if_neg hf]⟩
        clear hf
        go_wp2_with (first | ((first | (with_reducible refine wpl_seal S ?_) | (with_reducible refine cw_seal S ?_) | (with_reducible refine bp_seal S ?_) | (with_reducible refine ca_seal S ?_)); clear S hc; intro w1 S; (try simp only [List.set_cons_zero, List.set_cons_succ, List.nil_append] at S); have hc := S.cells; simp only [Cells, cellsC, Im, Row, El, RTH, TreeH, TR, Nat.zero_add, Nat.reduceAdd] at hc))
        refine wp_region_ext [⟨[0, 1, 2, 3], [], 4, false⟩] [5] (by kernel_rfl) (by kernel_rfl) ?_
        refine mix_cons rfl rfl rfl ?_
        simp only [opsAt, List.getD_cons_succ, List.getD_cons_zero]
        repeat (go_big_quiet_step ((intro hC; first | rfl | (go_simp; first | done | rfl))))
        refine wpQuiet_nil ?_
        repeat (go_big_quiet_step ((intro hC; first | rfl | (go_simp; first | done | rfl))))
        refine wpQuiet_nil ?_
        clear hq hc
        replace S := S.drew
        go_wp2_with (first | ((first | (with_reducible refine wpl_seal S ?_) | (with_reducible refine cw_seal S ?_) | (with_reducible refine bp_seal S ?_) | (with_reducible refine ca_seal S ?_)); clear S hc; intro w1 S; (try simp only [List.set_cons_zero, List.set_cons_succ, List.nil_append] at S); have hc := S.cells; simp only [Cells, cellsC, Im, Row, El, RTH, TreeH, TR, Nat.zero_add, Nat.reduceAdd] at hc) | (go_at_call 32; refine (HF.out _ S).mono ?_; rintro e w1 ⟨rfl, hx⟩; replace S := S.ext hx; clear hx))
        refine ⟨(fun h => by cases h), ?_⟩
        refine mix_last rfl ?_
        simp only [opsAt, List.getD_cons_succ, List.getD_cons_zero]
        repeat (go_big_quiet_step ((intro hC; first | rfl | (go_simp; first | done | rfl))))
        refine wpQuiet_nil ?_
        simp only [calmQ]
        have hc := S.cells; simp only [Cells, cellsC, Im, Row, El, RTH, TreeH, TR, Nat.zero_add, Nat.reduceAdd] at hc
        go_wp2_with (first | ((first | (with_reducible refine wpl_seal S ?_) | (with_reducible refine cw_seal S ?_) | (with_reducible refine bp_seal S ?_) | (with_reducible refine ca_seal S ?_)); clear S hc; intro w1 S; (try simp only [List.set_cons_zero, List.set_cons_succ, List.nil_append] at S); have hc := S.cells; simp only [Cells, cellsC, Im, Row, El, RTH, TreeH, TR, Nat.zero_add, Nat.reduceAdd] at hc))
        go_roundw
        case rel => exact ⟨k, 0, by omega, by go_num, HW, ⟨S⟩⟩
        case measure => simp [intOf] <;> omega
end Go.Proofs.Ythmcefalaieigaa
