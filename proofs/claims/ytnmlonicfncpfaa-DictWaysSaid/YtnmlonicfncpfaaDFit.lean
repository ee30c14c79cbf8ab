/- Whether a pixel is of a format. -/
import Derived.Test.YtnmlonicfncpfaaDPix
import Derived.Test.YtnmlonicfncpfaaShelf
namespace Go.Proofs.Ytnmlonicfncpfaa
open Go.RowKit X
set_option maxHeartbeats 1000000
set_option maxRecDepth 8000
set_option linter.unusedSimpArgs false
set_option linter.unusedVariables false
/-- a pixel of a format -/
def fitsP (p c m : Int) : Bool := formP c m && decide (((unpackL p).length : Int) = c) && decide (Lib.maxOf (unpackL p) ≤ m)
theorem max_s {F0 I0 I : Fp} {w0 w : World} {O : List Ob} {A : Option Addr} {xs : List Int} (S : SH F0 I0 w0 O w I) (i : Nat) (e : O[i]? = some (Im kI A xs)) (hn : 0 < xs.length) (hm : xs.length ≤ 1000000) (c : Nat) :
    Calls Try.prog 70 #[.slice A xs.length c] w fun e w' => e = .returned (.int .i64 (Lib.maxOf xs)) ∧ w' = w := by
  obtain ⟨b, o, rfl, -⟩ := (S.im i e).num_at (List.getElem?_eq_getElem hn)
  refine (Try.slices_Max_int b o xs.length c xs w hn (Nat.le_refl _) (by omega) (fun j hj => ?_)).mono ?_
  · obtain ⟨b', o', e', h⟩ := (S.im i e).num_at (List.getElem?_eq_getElem hj)
    cases e'
    rw [h, List.getD, List.getElem?_eq_getElem hj]
    rfl
  · rw [List.take_length]
    exact fun e w' h => h
theorem fits_c (p c m : Int) (hp : U64 p) (w : World) (I : Fp) (hI : ∀ b, I b → b < w.heap.size) {r : Bool} (hr : fitsP p c m = r) :
    Calls Try.prog 55 #[.int .u64 p, .agg #[.int .i64 c, .int .i64 m]] w fun e w' => e = .returned (.bool r) ∧ Ext w w' := by
  have S := SH.start w I hI
  have HP := As.mk hp
  obtain ⟨l, hl⟩ : ∃ l, unpackL p = l := ⟨_, rfl⟩
  have HL := As.mk hl
  have hln : l.length ≤ 3 := by rw [← hl]; unfold unpackL; split <;> (try split) <;> simp
  obtain ⟨f, hf⟩ : ∃ f, formP c m = f := ⟨_, rfl⟩
  have HF := As.mk hf
  unfold fitsP at hr
  rw [hl, hf] at hr
  clear hl hf hp
  have hc := S.cells; simp only [Cells, cellsC, Im, Row, El, Nat.zero_add, Nat.reduceAdd] at hc
  go_enter Try.func55, Try.ntmps55
  go_upto_region 2 with (first | ((first | (with_reducible refine wpl_seal S ?_) | (with_reducible refine cw_seal S ?_) | (with_reducible refine bp_seal S ?_) | (with_reducible refine ca_seal S ?_)); clear S; (try clear hc); intro w1 S; (try simp only [List.set_cons_zero, List.set_cons_succ, List.nil_append] at S); have hc := S.cells; simp only [Cells, cellsC, Im, Row, El, Nat.zero_add, Nat.reduceAdd] at hc) | (go_at_call 68; refine (unpack_c p HP.out _ _ S.bd HL.out).mono ?_; rintro e w1 ⟨A, cl, rfl, hcl, hu⟩; obtain ⟨I1, S1, hI1⟩ := S.new hu; clear S hu hI1; (try clear hc); have S := S1; clear S1; have hc := S.cells; simp only [Cells, cellsC, Im, Row, El, Nat.zero_add, Nat.reduceAdd] at hc))
  have hq := S.cellsE; simp only [CellsE, cellsE, Im, Row, El, Nat.zero_add, Nat.reduceAdd] at hq
  refine wp_region_ext [⟨[0], [], 1, false⟩, ⟨[2, 3, 4, 5, 6, 7, 8, 9, 10, 12, 13], [], 11, true⟩] [14, 15, 16] (by kernel_rfl) (by kernel_rfl) ?_
  refine mix_cons rfl rfl rfl ?_
  simp only [opsAt, List.getD_cons_succ, List.getD_cons_zero]
  repeat (go_big_quiet_step ((intro hC; first | rfl | (go_simp; first | done | rfl))))
  refine wpQuiet_nil ?_
  repeat (go_big_quiet_step ((intro hC; first | rfl | (go_simp; first | done | rfl))))
  refine wpQuiet_nil ?_
  clear hc hq
  replace S := S.drew
  generalize w1.drew = w2 at S ⊢
  have hc := S.cells; simp only [Cells, cellsC, Im, Row, El, Nat.zero_add, Nat.reduceAdd] at hc
  go_wp2_with (first | ((first | (with_reducible refine mx_seal S ?_) | (with_reducible refine wpl_seal S ?_) | (with_reducible refine ca_seal S ?_)); clear S; (try clear hc); intro w1 S; (try simp only [List.set_cons_zero, List.set_cons_succ, List.nil_append] at S); have hc := S.cells; simp only [Cells, cellsC, Im, Row, El, Nat.zero_add, Nat.reduceAdd] at hc) | (go_at_call 69; refine (format_c c m _ _ S.bd HF.out).mono ?_; rintro e w1 ⟨rfl, hx⟩; replace S := S.ext hx; clear hx; (try clear hc); have hc := S.cells; simp only [Cells, cellsC, Im, Row, El, Nat.zero_add, Nat.reduceAdd] at hc))
  (first | refine ⟨(fun h => by cases h), ?_⟩ | skip); (first | ((first | (with_reducible refine mx_seal S ?_)); clear S; (try clear hc); intro w1 S; (try simp only [List.set_cons_zero, List.set_cons_succ, List.nil_append] at S); have hc := S.cells; simp only [Cells, cellsC, Im, Row, El, Nat.zero_add, Nat.reduceAdd] at hc) | skip); (try simp only [Act.put, List.setIfInBounds_toArray, List.set_cons_succ, List.set_cons_zero])
  have hq := CellsE_of S.cells; simp only [CellsE, cellsE, Im, Row, El, Nat.zero_add, Nat.reduceAdd] at hq
  have HR := As.mk hr
  clear hr
  rcases f with _ | _
  · have HR2 : As (false = r) := ⟨by rw [← HR.out]; rfl⟩
    obtain rfl := HR2.out
    clear HR HR2
    refine mix_cons rfl rfl rfl ?_
    simp only [opsAt, List.getD_cons_succ, List.getD_cons_zero]
    repeat (go_big_quiet_step ((intro hC; first | rfl | (go_simp; first | done | rfl))))
    refine wpQuiet_nil ?_
    repeat (go_big_quiet_step ((intro hC; first | rfl | (go_simp; first | done | rfl))))
    refine wpQuiet_nil ?_
    clear hc hq
    have hc := S.cells; simp only [Cells, cellsC, Im, Row, El, Nat.zero_add, Nat.reduceAdd] at hc
    go_wp2_with (first | ((first | (with_reducible refine mx_seal S ?_) | (with_reducible refine wpl_seal S ?_) | (with_reducible refine ca_seal S ?_)); clear S; (try clear hc); intro w1 S; (try simp only [List.set_cons_zero, List.set_cons_succ, List.nil_append] at S); have hc := S.cells; simp only [Cells, cellsC, Im, Row, El, Nat.zero_add, Nat.reduceAdd] at hc))
    refine ⟨fun _ => Below.refl _ _, ?_⟩
    refine mix_last rfl ?_
    simp only [opsAt, List.getD_cons_succ, List.getD_cons_zero]
    repeat (go_big_quiet_step ((intro hC; first | rfl | (go_simp; first | done | rfl))))
    refine wpQuiet_nil ?_
    simp only [calmQ]
    go_wp2_with (first | ((first | (with_reducible refine wpl_seal S ?_) | (with_reducible refine cw_seal S ?_) | (with_reducible refine bp_seal S ?_) | (with_reducible refine ca_seal S ?_)); clear S; (try clear hc); intro w1 S; (try simp only [List.set_cons_zero, List.set_cons_succ, List.nil_append] at S); have hc := S.cells; simp only [Cells, cellsC, Im, Row, El, Nat.zero_add, Nat.reduceAdd] at hc))
    go_ret
    exact ⟨rfl, S.out⟩
  · by_cases hlc : (l.length : Int) = c
    · have hlc' : ((l.length : Int) == c) = true := by rw [hlc]; exact beq_self_eq_true c
      have hc13 := (formP_iff.1 HF.out).1
      have hl0 : 0 < l.length := by omega
      have HR2 : As (decide (Lib.maxOf l ≤ m) = r) := ⟨by rw [← HR.out, decide_eq_true hlc]; rfl⟩
      obtain rfl := HR2.out
      clear HR HR2 hlc hc13
      refine mix_cons rfl rfl rfl ?_
      simp only [opsAt, List.getD_cons_succ, List.getD_cons_zero]
      repeat (go_big_quiet_step ((intro hC; first | rfl | (go_simp; first | done | rfl))))
      refine wpQuiet_nil ?_
      repeat (go_big_quiet_step ((intro hC; first | rfl | (go_simp; first | done | rfl))))
      refine wpQuiet_nil ?_
      clear hc hq
      have hc := S.cells; simp only [Cells, cellsC, Im, Row, El, Nat.zero_add, Nat.reduceAdd] at hc
      go_wp2_with (first | ((first | (with_reducible refine mx_seal S ?_) | (with_reducible refine wpl_seal S ?_) | (with_reducible refine ca_seal S ?_)); clear S; (try clear hc); intro w1 S; (try simp only [List.set_cons_zero, List.set_cons_succ, List.nil_append] at S); have hc := S.cells; simp only [Cells, cellsC, Im, Row, El, Nat.zero_add, Nat.reduceAdd] at hc) | (go_at_call 70; refine (max_s S 0 rfl hl0 (by omega) _).mono ?_; rintro e w1 ⟨rfl, rfl⟩))
      refine ⟨fun _ => Below.refl _ _, ?_⟩
      refine mix_last rfl ?_
      simp only [opsAt, List.getD_cons_succ, List.getD_cons_zero]
      repeat (go_big_quiet_step ((intro hC; first | rfl | (go_simp; first | done | rfl))))
      refine wpQuiet_nil ?_
      simp only [calmQ]
      go_wp2_with (first | ((first | (with_reducible refine wpl_seal S ?_) | (with_reducible refine cw_seal S ?_) | (with_reducible refine bp_seal S ?_) | (with_reducible refine ca_seal S ?_)); clear S; (try clear hc); intro w1 S; (try simp only [List.set_cons_zero, List.set_cons_succ, List.nil_append] at S); have hc := S.cells; simp only [Cells, cellsC, Im, Row, El, Nat.zero_add, Nat.reduceAdd] at hc))
      go_ret
      exact ⟨rfl, S.out⟩
    · have hlc' : ((l.length : Int) == c) = false := by rw [beq_eq_false_iff_ne]; exact hlc
      have HR2 : As (false = r) := ⟨by rw [← HR.out, decide_eq_false hlc]; rfl⟩
      obtain rfl := HR2.out
      clear HR HR2 hlc
      refine mix_cons rfl rfl rfl ?_
      simp only [opsAt, List.getD_cons_succ, List.getD_cons_zero]
      repeat (go_big_quiet_step ((intro hC; first | rfl | (go_simp; first | done | rfl))))
      refine wpQuiet_nil ?_
      repeat (go_big_quiet_step ((intro hC; first | rfl | (go_simp; first | done | rfl))))
      refine wpQuiet_nil ?_
      clear hc hq
      have hc := S.cells; simp only [Cells, cellsC, Im, Row, El, Nat.zero_add, Nat.reduceAdd] at hc
      go_wp2_with (first | ((first | (with_reducible refine mx_seal S ?_) | (with_reducible refine wpl_seal S ?_) | (with_reducible refine ca_seal S ?_)); clear S; (try clear hc); intro w1 S; (try simp only [List.set_cons_zero, List.set_cons_succ, List.nil_append] at S); have hc := S.cells; simp only [Cells, cellsC, Im, Row, El, Nat.zero_add, Nat.reduceAdd] at hc))
      refine ⟨fun _ => Below.refl _ _, ?_⟩
      refine mix_last rfl ?_
      simp only [opsAt, List.getD_cons_succ, List.getD_cons_zero]
      repeat (go_big_quiet_step ((intro hC; first | rfl | (go_simp; first | done | rfl))))
      refine wpQuiet_nil ?_
      simp only [calmQ]
      go_wp2_with (first | ((first | (with_reducible refine wpl_seal S ?_) | (with_reducible refine cw_seal S ?_) | (with_reducible refine bp_seal S ?_) | (with_reducible refine ca_seal S ?_)); clear S; (try clear hc); intro w1 S; (try simp only [List.set_cons_zero, List.set_cons_succ, List.nil_append] at S); have hc := S.cells; simp only [Cells, cellsC, Im, Row, El, Nat.zero_add, Nat.reduceAdd] at hc))
      go_ret
      exact ⟨rfl, S.out⟩
/-- whether no pixel of an image is of another format -/
def allFit (c m : Int) (l : List Int) : Bool := l.all fun p => fitsP p c m
theorem fitsClo_c (p c m : Int) (hp : U64 p) (g : Nat) (w : World) (I : Fp) (hI : ∀ b, I b → b < w.heap.size) (h0 : w.cell? ⟨g, 0, none⟩ = some (.int .i64 c)) (h1 : w.cell? ⟨g, 1, none⟩ = some (.int .i64 m)) {r : Bool} (hr : fitsP p c m = r) :
    Calls Try.prog 54 #[.int .u64 p, .pointer (some ⟨g, 0, none⟩)] w fun e w' => e = .returned (.bool (!r)) ∧ Ext w w' := by
  have S := SH.start w I hI
  have HR := As.mk hr
  have HP := As.mk hp
  clear hr hp
  have hc := S.cells; simp only [Cells, cellsC, Im, Row, El, Nat.zero_add, Nat.reduceAdd] at hc
  go_enter Try.func54, Try.ntmps54
  go_wp2_with (first | ((first | (with_reducible refine wpl_seal S ?_) | (with_reducible refine cw_seal S ?_) | (with_reducible refine bp_seal S ?_) | (with_reducible refine ca_seal S ?_)); clear S; (try clear hc); intro w1 S; (try simp only [List.set_cons_zero, List.set_cons_succ, List.nil_append] at S); have hc := S.cells; simp only [Cells, cellsC, Im, Row, El, Nat.zero_add, Nat.reduceAdd] at hc) | (go_at_call 55; refine (fits_c p c m HP.out _ _ S.bd HR.out).mono ?_; rintro e w1 ⟨rfl, hx⟩; replace S := S.ext hx; clear hx; (try clear hc); have hc := S.cells; simp only [Cells, cellsC, Im, Row, El, Nat.zero_add, Nat.reduceAdd] at hc))
  go_ret
  exact ⟨rfl, S.out⟩
end Go.Proofs.Ytnmlonicfncpfaa
