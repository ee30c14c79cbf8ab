/- Records' bytes: the program's, the document's; read back. -/
import Derived.Test.YteaekpnmiicbhaaDoorPLiv
namespace Go.Proofs.YteaekpnmiicbhaaDoor
open Go.RowKit X
set_option maxHeartbeats 1000000
set_option maxRecDepth 8000
set_option linter.unusedSimpArgs false
set_option linter.unusedVariables false
/-- the error, and the bytes, that are told -/
def errR (l : List R5) : Int := if oddR l then 1 else 0
def outB (l : List R5) : List UInt8 := if oddR l then [] else bytesR l
theorem errR_yes {l : List R5} (h : oddR l = true) : errR l = 1 := by unfold errR; rw [if_pos h]
theorem errR_no {l : List R5} (h : oddR l = false) : errR l = 0 := by unfold errR; rw [if_neg (by rw [h]; decide)]
theorem outB_yes {l : List R5} (h : oddR l = true) : outB l = [] := by unfold outB; rw [if_pos h]
theorem outB_no {l : List R5} (h : oddR l = false) : outB l = bytesR l := by unfold outB; rw [if_neg (by rw [h]; decide)]
theorem pbytes_c (l : List R5) (A : Option Addr) (c : Nat) (w : World) (I : Fp) (hI : ∀ b, I b → b < w.heap.size) (hl : Sl kC w I A l) (hn : l.length ≤ 1000) :
    Calls Tryd.prog 19 #[.slice A l.length c] w fun e w' => ∃ v, e = .returned (.tuple #[v, .int .i64 (errR l)]) ∧ Upd w No I w' (Row kB v (outB l)) := by
  have S := ((SH.start w I hI).know (h := Im kC A l) hl).nilrow (k := kB)
  clear hl
  by_cases ho : oddR l = true
  · have HO := As.mk ho
    rw [errR_yes ho, outB_yes ho]
    clear ho
    have hc := S.cells; simp only [Cells, cellsC, Im, Row, El, Nat.zero_add, Nat.reduceAdd] at hc
    go_enter Tryd.func19, Tryd.ntmps19
    go_wp2_with (first | ((first | (with_reducible refine wpl_seal S ?_) | (with_reducible refine cw_seal S ?_) | (with_reducible refine bp_seal S ?_) | (with_reducible refine ca_seal S ?_)); clear S; (try clear hc); intro w1 S; (try simp only [List.set_cons_zero, List.set_cons_succ, List.nil_append] at S); have hc := S.cells; simp only [Cells, cellsC, Im, Row, El, Nat.zero_add, Nat.reduceAdd] at hc) | (go_at_call 21; refine (odd_c l A c _ _ S.bd (S.im 1 rfl) hn).mono ?_; rw [HO.out]; rintro e w1 ⟨rfl, hx⟩; replace S := S.ext hx; clear hx; (try clear hc); have hc := S.cells; simp only [Cells, cellsC, Im, Row, El, Nat.zero_add, Nat.reduceAdd] at hc))
    go_ret2
    exact ⟨_, rfl, S.ret 0 rfl⟩
  · have hof : oddR l = false := by simpa using ho
    have HO := As.mk hof
    have HM : As (∀ x ∈ l, mayR x = true) := ⟨fun x hx => by
      unfold oddR at hof
      rw [List.any_eq_false] at hof
      simpa using hof x hx⟩
    rw [errR_no HO.out, outB_no HO.out]
    clear ho hof
    have hc := S.cells; simp only [Cells, cellsC, Im, Row, El, Nat.zero_add, Nat.reduceAdd] at hc
    go_enter Tryd.func19, Tryd.ntmps19
    go_wp2_with (first | ((first | (with_reducible refine wpl_seal S ?_) | (with_reducible refine cw_seal S ?_) | (with_reducible refine bp_seal S ?_) | (with_reducible refine ca_seal S ?_)); clear S; (try clear hc); intro w1 S; (try simp only [List.set_cons_zero, List.set_cons_succ, List.nil_append] at S); have hc := S.cells; simp only [Cells, cellsC, Im, Row, El, Nat.zero_add, Nat.reduceAdd] at hc) | (go_at_call 21; refine (odd_c l A c _ _ S.bd (S.im 1 rfl) hn).mono ?_; rw [HO.out]; rintro e w1 ⟨rfl, hx⟩; replace S := S.ext hx; clear hx; (try clear hc); have hc := S.cells; simp only [Cells, cellsC, Im, Row, El, Nat.zero_add, Nat.reduceAdd] at hc))
    have S1 := S
    clear S hc
    go_loopw [4, 15] (fun v i w' => ∃ (k : Nat), k ≤ l.length ∧ i = .int .i64 k ∧ ∃ I', As (SH No I w [Row kB v (bytesR (l.take k)), Im kC A l] w' I')) (fun _ i _ => l.length - (intOf i).toNat)
    case atStart => exact ⟨0, by omega, rfl, _, ⟨S1⟩⟩
    case round =>
      clear S1
      obtain ⟨k, hk, rfl, I', ⟨S⟩⟩ := hrel
      by_cases hlt : k < l.length
      · have hlt' : decide ((k : Int) < l.length) = true := by simp; omega
        obtain ⟨b, o, rfl, g0, g1, g2, g3, g4⟩ := (S.im 1 rfl).r5_at hlt
        have HMY := As.mk (HM.out _ (List.getElem_mem hlt))
        have HT : As (bytesR (l.take (k + 1)) = bytesR (l.take k) ++ bytes1 l[k]) := ⟨by rw [List.take_succ_eq_append_getElem hlt]; unfold bytesR; rw [List.flatMap_append]; simp⟩
        have htl : (bytesR (l.take k)).length ≤ 45000 := by
          have := flat_le (f := bytes1) (b := 45) (l.take k) fun x hx => bytes1_le (mayR_ok (HM.out x (List.mem_of_mem_take hx)))
          rw [List.length_take] at this
          unfold bytesR
          omega
        generalize l[k] = y at g0 g1 g2 g3 g4 HT HMY
        generalize bytesR (l.take k) = ys at S HT htl
        have HOK : As (∀ v ∈ y.list, okN v) := ⟨mayR_ok HMY.out⟩
        have hc := S.cells; simp only [Cells, cellsC, Im, Row, El, Nat.zero_add, Nat.reduceAdd] at hc
        go_wp2_with (first | ((first | (with_reducible refine wpl_seal S ?_) | (with_reducible refine cw_seal S ?_) | (with_reducible refine bp_seal S ?_) | (with_reducible refine ca_seal S ?_)); clear S; (try clear hc); intro w1 S; (try simp only [List.set_cons_zero, List.set_cons_succ, List.nil_append] at S); have hc := S.cells; simp only [Cells, cellsC, Im, Row, El, Nat.zero_add, Nat.reduceAdd] at hc) | (go_at_call 22; refine (pnumb_c y _).mono ?_; dsimp only [R5.v]; rintro e w1 ⟨rfl, hx⟩; replace S := S.ext hx; clear hx; (try clear hc); have hc := S.cells; simp only [Cells, cellsC, Im, Row, El, Nat.zero_add, Nat.reduceAdd] at hc))
        have S1 := S
        clear S hc g0 g1 g2 g3 g4
        go_loopw [4, 21] (fun v j w' => ∃ (m : Nat), m ≤ 5 ∧ j = .int .i64 m ∧ ∃ I', As (SH No I w [Row kB v (ys ++ (y.list.take m).flatMap fun v => putB v.toNat), Im kC (some ⟨b, o, none⟩) l] w' I')) (fun _ j _ => 5 - (intOf j).toNat)
        case atStart => exact ⟨0, by omega, rfl, _, ⟨by
          rw [List.take_zero, List.flatMap_nil, List.append_nil]
          exact S1.sel [1, 2] (by decide) rfl (by simp)⟩⟩
        case round =>
          clear S1
          obtain ⟨m, hm, rfl, I', ⟨S⟩⟩ := hrel
          by_cases hm5 : m < 5
          · have hm5' : decide ((m : Int) < 5) = true := by simp; omega
            have hml : m < y.list.length := hm5
            obtain ⟨q, hq⟩ : ∃ q : Nat, y.list[m] = q := ⟨y.list[m].toNat, by have := (HOK.out _ (List.getElem_mem hml)).1; omega⟩
            have hq2 : q ≤ 4611686018427387903 := by have := (HOK.out _ (List.getElem_mem hml)).2; omega
            have HT2 : As ((ys ++ (y.list.take (m + 1)).flatMap fun v => putB v.toNat) = (ys ++ (y.list.take m).flatMap fun v => putB v.toNat) ++ putB q) := ⟨by
              rw [List.take_succ_eq_append_getElem hml, List.flatMap_append, List.append_assoc]
              simp [hq]⟩
            have hix := idx5 y m hm5 q (by rw [List.getElem?_eq_getElem hml, hq])
            have hpl := putB_le hq2
            have hl2 : (ys ++ (y.list.take m).flatMap fun v => putB v.toNat).length ≤ 45045 := by
              have := flat_le (f := fun v : Int => putB v.toNat) (b := 9) (y.list.take m) fun v hv => putB_le (by have := HOK.out v (List.mem_of_mem_take hv); unfold okN at this; omega)
              rw [List.length_take] at this
              rw [List.length_append]
              omega
            generalize (ys ++ (y.list.take m).flatMap fun v => putB v.toNat) = us at S HT2 hl2
            clear hq
            have hc := S.cells; simp only [Cells, cellsC, Im, Row, El, Nat.zero_add, Nat.reduceAdd] at hc
            go_wp2_with (first | ((first | (with_reducible refine wpl_seal S ?_) | (with_reducible refine cw_seal S ?_) | (with_reducible refine bp_seal S ?_) | (with_reducible refine ca_seal S ?_)); clear S; (try clear hc); intro w1 S; (try simp only [List.set_cons_zero, List.set_cons_succ, List.nil_append] at S); have hc := S.cells; simp only [Cells, cellsC, Im, Row, El, Nat.zero_add, Nat.reduceAdd] at hc) | (go_at_call 35; refine (nput_c q hq2 _ _ S.bd).mono ?_; rintro e w1 ⟨v3, rfl, hu⟩; obtain ⟨I1, S1, hI1⟩ := S.new hu; clear S hu hI1; (try clear hc); have S := S1; clear S1; have hc := S.cells; simp only [Cells, cellsC, Im, Row, El, Nat.zero_add, Nat.reduceAdd] at hc; obtain ⟨A3, c3, I1, e1, hc3, S1, hI1⟩ := S.frow 0 rfl; subst e1; clear S hI1; have S := S1; clear S1; simp only [List.set_cons_zero, List.set_cons_succ, List.nil_append] at S; generalize putB q = ps at S hpl HT2 hc3 ⊢; have hc := S.cells; simp only [Cells, cellsC, Im, Row, El, Nat.zero_add, Nat.reduceAdd] at hc) | (at_builtin; refine wpl_app S 1 rfl rfl _ _ rfl ty_u8s rfl A3 c3 _ rfl _ (fun _ _ h => h) ((S.im 0 rfl)) (by (try simp only [maxLen, List.length_nil, List.length_append, List.length_cons]); omega) (by (try simp only [maxLen, List.length_nil, List.length_append, List.length_cons]); omega) ?_; clear S; (try clear hc); intro va w1 S; simp only [List.set_cons_zero, List.set_cons_succ, List.nil_append] at S; have hc := S.cells; simp only [Cells, cellsC, Im, Row, El, Nat.zero_add, Nat.reduceAdd] at hc))
            go_roundw
            case rel => exact ⟨m + 1, by omega, by go_num, _, ⟨by rw [HT2.out]; exact (S.sel [1, 2] (by decide) rfl (by simp) : SH _ _ _ [_, _] _ _)⟩⟩
            case measure => simp [intOf]; omega
          · have hm5' : decide ((m : Int) < 5) = false := by simp; omega
            obtain rfl : m = 5 := by omega
            rw [show (y.list.take 5).flatMap (fun v => putB v.toNat) = bytes1 y from rfl] at S
            have hc := S.cells; simp only [Cells, cellsC, Im, Row, El, Nat.zero_add, Nat.reduceAdd] at hc
            go_wp2_with (first | ((first | (with_reducible refine wpl_seal S ?_) | (with_reducible refine cw_seal S ?_) | (with_reducible refine bp_seal S ?_) | (with_reducible refine ca_seal S ?_)); clear S; (try clear hc); intro w1 S; (try simp only [List.set_cons_zero, List.set_cons_succ, List.nil_append] at S); have hc := S.cells; simp only [Cells, cellsC, Im, Row, El, Nat.zero_add, Nat.reduceAdd] at hc))
            go_roundw
            case rel => exact ⟨k + 1, by omega, by go_num, _, ⟨by rw [HT.out]; exact (S.sel [0, 1] (by decide) rfl (by simp) : SH _ _ _ [_, _] _ _)⟩⟩
            case measure => simp [intOf]; omega
      · have hlt' : decide ((k : Int) < l.length) = false := by simp; omega
        obtain rfl : k = l.length := by omega
        rw [List.take_length] at S
        have hc := S.cells; simp only [Cells, cellsC, Im, Row, El, Nat.zero_add, Nat.reduceAdd] at hc
        go_wp2_with (first | ((first | (with_reducible refine wpl_seal S ?_) | (with_reducible refine cw_seal S ?_) | (with_reducible refine bp_seal S ?_) | (with_reducible refine ca_seal S ?_)); clear S; (try clear hc); intro w1 S; (try simp only [List.set_cons_zero, List.set_cons_succ, List.nil_append] at S); have hc := S.cells; simp only [Cells, cellsC, Im, Row, El, Nat.zero_add, Nat.reduceAdd] at hc))
        go_ret2
        exact ⟨_, rfl, S.ret 0 rfl⟩
end Go.Proofs.YteaekpnmiicbhaaDoor
