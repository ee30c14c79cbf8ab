/- A number's text: the document's. -/
import Derived.Test.YteaekpnmiicbhaaDoorPText
namespace Go.Proofs.YteaekpnmiicbhaaDoor
open Go.RowKit X
set_option maxHeartbeats 1000000
set_option maxRecDepth 8000
set_option linter.unusedSimpArgs false
set_option linter.unusedVariables false
theorem decL_small {n : Nat} (h : n < 10) : decL n = [UInt8.ofNat (48 + n)] := by
  unfold decL
  rw [digs_one h]
  simp [Nat.mod_eq_of_lt h]
theorem decL_big {n : Nat} (h : ¬ n < 10) : decL n = decL (n / 10) ++ [UInt8.ofNat (48 + n % 10)] := by
  unfold decL
  rw [digs_more h (by omega)]
  simp
theorem conv_one {w : World} {b : Nat} {x : UInt8} {q : Int} (hq : q = (x.toNat : Nat)) (hc : w.cell? ⟨b, 0, none⟩ = some (.int .u8 q)) (c : Nat) : (convert 49 9 (.slice (some ⟨b, 0, none⟩) 1 c)).run Tryd.prog w = .ok (strV [x]) w := by
  refine run_convert_bytes_back w 49 9 5 ⟨b, 0, none⟩ c [x] Tryd.underlying49 Tryd.underlying5 Tryd.underlying9 fun j hj => ?_
  obtain rfl : j = 0 := by simpa using hj
  have hadd : (⟨b, 0, none⟩ : Addr).add 0 = ⟨b, 0, none⟩ := by unfold Addr.add; split <;> simp_all
  rw [hadd, hc, hq]
  rfl
theorem gdec_c : ∀ (f n : Nat), n < f → n ≤ 4611686018427387903 → ∀ (w : World) (I : Fp), (∀ b, I b → b < w.heap.size) → Calls Tryd.prog 28 #[.int .i64 n] w fun e w' => e = .returned (strV (decL n)) ∧ Ext w w'
  | 0, n, h, _ => absurd h (Nat.not_lt_zero _)
  | f + 1, n, h, hn => fun w I hI => by
    have IH := As.mk (gdec_c f (n / 10))
    have S := SH.start w I hI
    have HB : As ((48 + (n : Int) % 10) = ((UInt8.ofNat (48 + n % 10)).toNat : Nat)) := ⟨by rw [UInt8.toNat_ofNat', Nat.mod_eq_of_lt (by omega)]; omega⟩
    obtain ⟨x, hx⟩ : ∃ x, UInt8.ofNat (48 + n % 10) = x := ⟨_, rfl⟩
    rw [hx] at HB
    have HX := As.mk hx
    clear hx
    have hnd : decide ((n : Int) < 0) = false := by simp
    have hn10 : decide (-10 < (n : Int)) = true := by simp; omega
    have hc := S.cells; simp only [Cells, cellsC, Im, Row, El, Nat.zero_add, Nat.reduceAdd] at hc
    go_enter Tryd.func28, Tryd.ntmps28
    by_cases h10 : n < 10
    · have h10' : decide ((n : Int) < 10) = true := by simp; omega
      have HR : As (decL n = [x]) := ⟨by rw [← HX.out, decL_small h10, Nat.mod_eq_of_lt h10]⟩
      rw [HR.out]
      go_wp2_with (first | ((first | (with_reducible refine wpl_seal S ?_) | (with_reducible refine cw_seal S ?_) | (with_reducible refine bp_seal S ?_) | (with_reducible refine ca_seal S ?_)); clear S; (try clear hc); intro w1 S; (try simp only [List.set_cons_zero, List.set_cons_succ, List.nil_append] at S); have hc := S.cells; simp only [Cells, cellsC, Im, Row, El, Nat.zero_add, Nat.reduceAdd] at hc; (try have hcv := conv_one HB.out (S.cell 0 0 rfl rfl) 1)))
      go_ret
      exact ⟨rfl, S.out⟩
    · have h10' : decide ((n : Int) < 10) = false := by simp; omega
      have HR : As (decL n = decL (n / 10) ++ [x]) := ⟨by rw [← HX.out]; exact decL_big h10⟩
      have hln := decL_le (n := n / 10) (by omega)
      have hst := str_app (decL (n / 10)) [x]
      rw [HR.out]
      have HC : As (∀ (w' : World) (I' : Fp), (∀ b, I' b → b < w'.heap.size) → Calls Tryd.prog 28 #[.int .i64 ((n : Int) / 10)] w' fun e w'' => e = .returned (strV (decL (n / 10))) ∧ Ext w' w'') := ⟨fun w' I' hI' => by
        have := IH.out (by omega) (by omega) w' I' hI'
        rwa [show ((n / 10 : Nat) : Int) = (n : Int) / 10 by omega] at this⟩
      go_wp2_with (first | ((first | (with_reducible refine wpl_seal S ?_) | (with_reducible refine cw_seal S ?_) | (with_reducible refine bp_seal S ?_) | (with_reducible refine ca_seal S ?_)); clear S; (try clear hc); intro w1 S; (try simp only [List.set_cons_zero, List.set_cons_succ, List.nil_append] at S); have hc := S.cells; simp only [Cells, cellsC, Im, Row, El, Nat.zero_add, Nat.reduceAdd] at hc; (try have hcv := conv_one HB.out (S.cell 0 0 rfl rfl) 1)) | (go_at_call 28; refine (HC.out _ _ S.bd).mono ?_; rintro e w1 ⟨rfl, hx⟩; clear hcv; replace S := S.ext hx; clear hx; (try clear hc); have hc := S.cells; simp only [Cells, cellsC, Im, Row, El, Nat.zero_add, Nat.reduceAdd] at hc))
      go_ret
      exact ⟨by first | rfl | (rw [← hst]), S.out⟩
end Go.Proofs.YteaekpnmiicbhaaDoor
