/- Whether a pixel, an image, may be: the document's. -/
import Derived.Test.YtnmlonicfncpfaaGreatDYFi
import Derived.Test.YtnmlonicfncpfaaGreatDPix
namespace Go.Proofs.YtnmlonicfncpfaaGreat
open Go.RowKit X
set_option maxHeartbeats 4000000
set_option maxRecDepth 8000
set_option linter.unusedSimpArgs false
set_option linter.unusedVariables false
theorem yunpack_c (p : Int) (hp : U64 p) (w : World) (I : Fp) (hI : ∀ b, I b → b < w.heap.size) {l : List Int} (hl : unpackL p = l) :
    Calls Tryz.prog 106 #[.int .u64 p] w fun e w' => ∃ A c, e = .returned (.slice A l.length c) ∧ l.length ≤ c ∧ Upd w No I w' (Im kI A l) := by
  have S := SH.start w I hI
  obtain ⟨h0, h1⟩ := hp
  obtain ⟨n, hn⟩ : ∃ n, p / 281474976710656 = n := ⟨_, rfl⟩
  obtain ⟨r, hr⟩ : ∃ r, p % 281474976710656 = r := ⟨_, rfl⟩
  have hr0 : 0 ≤ r ∧ r < 281474976710656 := by omega
  obtain ⟨r0, r1⟩ := hr0
  have e1 : p / 4294967296 % 65536 = r / 4294967296 := by omega
  have e2 : p / 65536 % 65536 = r / 65536 % 65536 := by omega
  have e3 : p % 65536 = r % 65536 := by omega
  unfold unpackL at hl
  rw [hn, e1, e2, e3] at hl
  have hn0 : 0 ≤ n ∧ n < 65536 := by omega
  have HL := As.mk hl
  have t1 : Int.tdiv p 281474976710656 = n := by rw [Int.tdiv_eq_ediv_of_nonneg h0]; exact hn
  have t2 : Int.tmod p 281474976710656 = r := by rw [Int.tmod_eq_emod_of_nonneg h0]; exact hr
  have w1 : wrap64 r = r := IntWalk.wrap64_in _ ⟨by omega, by omega⟩
  clear hl e1 e2 e3
  by_cases h3 : n = 3
  · have hn3 : (n == 3) = true := by rw [h3]; rfl
    have HL2 : As ([r / 4294967296, r / 65536 % 65536, r % 65536] = l) := ⟨by rw [← HL.out, if_pos h3]⟩
    obtain rfl := HL2.out
    clear HL HL2 h3 hn0
    have hc := S.cells; simp only [Cells, cellsC, Im, Row, El, Nat.zero_add, Nat.reduceAdd] at hc
    go_enter Tryz.func106, Tryz.ntmps106
    go_wp2_with (first | ((first | (with_reducible refine wpl_seal S ?_) | (with_reducible refine cw_seal S ?_) | (with_reducible refine bp_seal S ?_) | (with_reducible refine ca_seal S ?_)); clear S; (try clear hc); intro w1 S; (try simp only [List.set_cons_zero, List.set_cons_succ, List.nil_append] at S); have hc := S.cells; simp only [Cells, cellsC, Im, Row, El, Nat.zero_add, Nat.reduceAdd] at hc))
    go_ret
    obtain ⟨J, S1, -⟩ := S.lit 0 rfl (k := kI) (xs := [r / 4294967296, r / 65536 % 65536, r % 65536]) (flat_int _)
    exact ⟨_, _, rfl, by simp, S1.ret 0 rfl⟩
  · have hn3 : (n == 3) = false := by rw [beq_eq_false_iff_ne]; exact h3
    by_cases h4 : n = 1
    · have hn1 : (n == 1) = true := by rw [h4]; rfl
      by_cases h5 : r < 65536
      · have h5' : decide (r < 65536) = true := decide_eq_true h5
        have HL2 : As ([r] = l) := ⟨by rw [← HL.out, if_neg h3, if_pos ⟨h4, by omega, by omega⟩, Int.emod_eq_of_lt r0 h5]⟩
        obtain rfl := HL2.out
        clear HL HL2 h3 h4 hn0 h5
        have hc := S.cells; simp only [Cells, cellsC, Im, Row, El, Nat.zero_add, Nat.reduceAdd] at hc
        go_enter Tryz.func106, Tryz.ntmps106
        go_wp2_with (first | ((first | (with_reducible refine wpl_seal S ?_) | (with_reducible refine cw_seal S ?_) | (with_reducible refine bp_seal S ?_) | (with_reducible refine ca_seal S ?_)); clear S; (try clear hc); intro w1 S; (try simp only [List.set_cons_zero, List.set_cons_succ, List.nil_append] at S); have hc := S.cells; simp only [Cells, cellsC, Im, Row, El, Nat.zero_add, Nat.reduceAdd] at hc))
        go_ret
        obtain ⟨J, S1, -⟩ := S.lit 0 rfl (k := kI) (xs := [r]) (flat_int _)
        exact ⟨_, _, rfl, by simp, S1.ret 0 rfl⟩
      · have h5' : decide (r < 65536) = false := decide_eq_false h5
        have HL2 : As ([] = l) := ⟨by rw [← HL.out, if_neg h3, if_neg (by omega)]⟩
        obtain rfl := HL2.out
        clear HL HL2 h3 h4 hn0 h5
        have hc := S.cells; simp only [Cells, cellsC, Im, Row, El, Nat.zero_add, Nat.reduceAdd] at hc
        go_enter Tryz.func106, Tryz.ntmps106
        go_wp2_with (first | ((first | (with_reducible refine wpl_seal S ?_) | (with_reducible refine cw_seal S ?_) | (with_reducible refine bp_seal S ?_) | (with_reducible refine ca_seal S ?_)); clear S; (try clear hc); intro w1 S; (try simp only [List.set_cons_zero, List.set_cons_succ, List.nil_append] at S); have hc := S.cells; simp only [Cells, cellsC, Im, Row, El, Nat.zero_add, Nat.reduceAdd] at hc))
        go_ret
        exact ⟨_, _, rfl, by simp, (S.know (h := Im kI none []) Sl.nil).ret 0 rfl⟩
    · have hn1 : (n == 1) = false := by rw [beq_eq_false_iff_ne]; exact h4
      have HL2 : As ([] = l) := ⟨by rw [← HL.out, if_neg h3, if_neg (by omega)]⟩
      obtain rfl := HL2.out
      clear HL HL2 h3 h4 hn0
      have hc := S.cells; simp only [Cells, cellsC, Im, Row, El, Nat.zero_add, Nat.reduceAdd] at hc
      go_enter Tryz.func106, Tryz.ntmps106
      go_wp2_with (first | ((first | (with_reducible refine wpl_seal S ?_) | (with_reducible refine cw_seal S ?_) | (with_reducible refine bp_seal S ?_) | (with_reducible refine ca_seal S ?_)); clear S; (try clear hc); intro w1 S; (try simp only [List.set_cons_zero, List.set_cons_succ, List.nil_append] at S); have hc := S.cells; simp only [Cells, cellsC, Im, Row, El, Nat.zero_add, Nat.reduceAdd] at hc))
      go_ret
      exact ⟨_, _, rfl, by simp, (S.know (h := Im kI none []) Sl.nil).ret 0 rfl⟩
theorem yformat_c (c m : Int) (w : World) (I : Fp) (hI : ∀ b, I b → b < w.heap.size) {r : Bool} (hr : formP c m = r) :
    Calls Tryz.prog 107 #[.agg #[.int .i64 c, .int .i64 m]] w fun e w' => e = .returned (.bool r) ∧ Ext w w' := by
  have S := SH.start w I hI
  have hc := S.cells; simp only [Cells, cellsC, Im, Row, El, Nat.zero_add, Nat.reduceAdd] at hc
  have fin : ∀ b : Bool, (b = true ↔ (c = 1 ∨ c = 3) ∧ 1 ≤ m ∧ m ≤ 65535) → b = r := fun b h => by rw [← hr, Bool.eq_iff_iff, h, formP_iff]
  clear hr
  have F := As.mk fin
  clear fin
  by_cases h1 : c = 1
  · have h1' : (c == 1) = true := by rw [h1]; rfl
    go_enter Tryz.func107, Tryz.ntmps107
    go_wp2_with (first | ((first | (with_reducible refine wpl_seal S ?_) | (with_reducible refine cw_seal S ?_) | (with_reducible refine bp_seal S ?_) | (with_reducible refine ca_seal S ?_)); clear S; (try clear hc); intro w1 S; (try simp only [List.set_cons_zero, List.set_cons_succ, List.nil_append] at S); have hc := S.cells; simp only [Cells, cellsC, Im, Row, El, Nat.zero_add, Nat.reduceAdd] at hc))
    all_goals (go_ret; exact ⟨congrArg (fun b => Ending.returned (.bool b)) (F.out _ (by simp; omega)), S.out⟩)
  · have h1' : (c == 1) = false := by rw [beq_eq_false_iff_ne]; exact h1
    by_cases h2 : c = 3
    · have h2' : (c == 3) = true := by rw [h2]; rfl
      go_enter Tryz.func107, Tryz.ntmps107
      go_wp2_with (first | ((first | (with_reducible refine wpl_seal S ?_) | (with_reducible refine cw_seal S ?_) | (with_reducible refine bp_seal S ?_) | (with_reducible refine ca_seal S ?_)); clear S; (try clear hc); intro w1 S; (try simp only [List.set_cons_zero, List.set_cons_succ, List.nil_append] at S); have hc := S.cells; simp only [Cells, cellsC, Im, Row, El, Nat.zero_add, Nat.reduceAdd] at hc))
      all_goals (go_ret; exact ⟨congrArg (fun b => Ending.returned (.bool b)) (F.out _ (by simp; omega)), S.out⟩)
    · have h2' : (c == 3) = false := by rw [beq_eq_false_iff_ne]; exact h2
      go_enter Tryz.func107, Tryz.ntmps107
      go_wp2_with (first | ((first | (with_reducible refine wpl_seal S ?_) | (with_reducible refine cw_seal S ?_) | (with_reducible refine bp_seal S ?_) | (with_reducible refine ca_seal S ?_)); clear S; (try clear hc); intro w1 S; (try simp only [List.set_cons_zero, List.set_cons_succ, List.nil_append] at S); have hc := S.cells; simp only [Cells, cellsC, Im, Row, El, Nat.zero_add, Nat.reduceAdd] at hc))
      all_goals (go_ret; exact ⟨congrArg (fun b => Ending.returned (.bool b)) (F.out _ (by simp; omega)), S.out⟩)
theorem maxOf_iff : ∀ (l : List Int) (m : Int), 0 < l.length → (Lib.maxOf l ≤ m ↔ ∀ x ∈ l, x ≤ m) := by
  intro l m h0
  have key : ∀ (l : List Int) (a : Int), l.foldl max a ≤ m ↔ a ≤ m ∧ ∀ x ∈ l, x ≤ m := by
    intro l
    induction l with
    | nil => intro a; simp
    | cons x r ih =>
      intro a
      rw [List.foldl_cons, ih, Int.max_le, and_assoc]
      simp only [List.mem_cons, forall_eq_or_imp]
  unfold Lib.maxOf
  rw [key]
  rcases l with _ | ⟨x, r⟩
  · cases h0
  · constructor
    · exact fun h => h.2
    · exact fun h => ⟨h x List.mem_cons_self, h⟩
theorem fitsP_all {p c m : Int} : fitsP p c m = true ↔ (∀ x ∈ unpackL p, x ≤ m) ∧ formP c m = true ∧ ((unpackL p).length : Int) = c := by
  unfold fitsP
  rw [Bool.and_eq_true, Bool.and_eq_true, decide_eq_true_eq, decide_eq_true_eq]
  constructor
  · rintro ⟨⟨h1, h2⟩, h3⟩
    have := (formP_iff.1 h1).1
    exact ⟨(maxOf_iff _ _ (by omega)).1 h3, h1, h2⟩
  · rintro ⟨h3, h1, h2⟩
    have := (formP_iff.1 h1).1
    exact ⟨⟨h1, h2⟩, (maxOf_iff _ _ (by omega)).2 h3⟩
theorem yfits_c (p c m : Int) (hp : U64 p) (w : World) (I : Fp) (hI : ∀ b, I b → b < w.heap.size) {r : Bool} (hr : fitsP p c m = r) :
    Calls Tryz.prog 81 #[.int .u64 p, .agg #[.int .i64 c, .int .i64 m]] w fun e w' => e = .returned (.bool r) ∧ Ext w w' := by
  have S := SH.start w I hI
  have HP := As.mk hp
  obtain ⟨l, hl⟩ : ∃ l, unpackL p = l := ⟨_, rfl⟩
  have HL := As.mk hl
  have hln : l.length ≤ 3 := by rw [← hl]; unfold unpackL; split <;> (try split) <;> simp
  obtain ⟨f, hf⟩ : ∃ f, formP c m = f := ⟨_, rfl⟩
  have HF := As.mk hf
  have F : As (∀ q : Bool, (q = true ↔ (∀ x ∈ l, x ≤ m) ∧ f = true ∧ (l.length : Int) = c) → q = r) := ⟨fun q h => by rw [← hr, Bool.eq_iff_iff, h, fitsP_all, hl, hf]⟩
  clear hr hl hf hp
  have hc := S.cells; simp only [Cells, cellsC, Im, Row, El, Nat.zero_add, Nat.reduceAdd] at hc
  go_enter Tryz.func81, Tryz.ntmps81
  go_wp2_with (first | ((first | (with_reducible refine wpl_seal S ?_) | (with_reducible refine cw_seal S ?_) | (with_reducible refine bp_seal S ?_) | (with_reducible refine ca_seal S ?_)); clear S; (try clear hc); intro w1 S; (try simp only [List.set_cons_zero, List.set_cons_succ, List.nil_append] at S); have hc := S.cells; simp only [Cells, cellsC, Im, Row, El, Nat.zero_add, Nat.reduceAdd] at hc) | (go_at_call 106; refine (yunpack_c p HP.out _ _ S.bd HL.out).mono ?_; rintro e w1 ⟨A, cl, rfl, hcl, hu⟩; obtain ⟨I1, S1, hI1⟩ := S.new hu; clear S hu hI1; (try clear hc); have S := S1; clear S1; have hc := S.cells; simp only [Cells, cellsC, Im, Row, El, Nat.zero_add, Nat.reduceAdd] at hc; have hc := S.cells; simp only [Cells, cellsC, Im, Row, El, Nat.zero_add, Nat.reduceAdd] at hc))
  obtain ⟨gf, egf⟩ := S.name 1 rfl; rw [← egf] at S ⊢; clear egf
  clear hc
  go_loopw [6] (fun iv w' => ∃ (k : Nat) (J : Fp), iv = .int .i64 k ∧ k ≤ l.length ∧ As (∀ (j : Nat) (h : j < l.length), j < k → l[j] ≤ m) ∧ As (SH No I w [Im kI A l, Cel gf 31 [.int .i64 c, .int .i64 m]] w' J)) (fun iv _ => l.length - (intOf iv).toNat)
  case atStart => exact ⟨0, _, rfl, by omega, ⟨fun j _ h => absurd h (Nat.not_lt_zero j)⟩, ⟨S⟩⟩
  case round =>
    clear S
    obtain ⟨k, J, rfl, hk, HK, ⟨S⟩⟩ := hrel
    by_cases hlt : k < l.length
    · have hlt' : decide ((k : Int) < l.length) = true := decide_eq_true (by omega)
      obtain ⟨b, o, rfl, hck⟩ := (S.im 0 rfl).num_at (List.getElem?_eq_getElem hlt)
      have HX := As.mk (show ∃ x ∈ l, l[k] = x from ⟨_, List.getElem_mem hlt, rfl⟩)
      have HT : As (l[k] ≤ m → ∀ (j : Nat) (h : j < l.length), j < k + 1 → l[j] ≤ m) := ⟨fun h0 j hj h => by
        rcases Nat.lt_or_eq_of_le (Nat.le_of_lt_succ h) with h1 | h1
        · exact HK.out j hj h1
        · subst h1; exact h0⟩
      have HM := As.mk (List.getElem_mem hlt)
      generalize l[k] = x at hck HT HM
      clear HX
      have p1 := ClE.cell (w := wr.drew) hck
      have hc := S.cells; simp only [Cells, cellsC, Im, Row, El, Nat.zero_add, Nat.reduceAdd] at hc
      have hq := S.cellsE; simp only [CellsE, cellsE, Im, Row, El, Nat.zero_add, Nat.reduceAdd] at hq
      by_cases hgt : x > m
      · have hgt' : decide (x > m) = true := decide_eq_true hgt
        have HR := As.mk (F.out false (by simp only [Bool.false_eq_true, false_iff]; exact fun h => absurd (h.1 x HM.out) (by omega)))
        clear F HT hgt
        go_wp2_with (first | ((first | (with_reducible refine wpl_seal S ?_) | (with_reducible refine cw_seal S ?_) | (with_reducible refine bp_seal S ?_) | (with_reducible refine ca_seal S ?_)); clear S; (try clear hc); intro w1 S; (try simp only [List.set_cons_zero, List.set_cons_succ, List.nil_append] at S); have hc := S.cells; simp only [Cells, cellsC, Im, Row, El, Nat.zero_add, Nat.reduceAdd] at hc))
        refine wp_region_ext [] [0, 1, 2, 3, 4, 5, 6] (by kernel_rfl) (by kernel_rfl) ?_
        refine mix_last rfl ?_
        simp only [opsAt, List.getD_cons_succ, List.getD_cons_zero]
        repeat (go_big_quiet_step ((intro hC; first | rfl | (go_simp; first | done | rfl))))
        refine wpQuiet_nil ?_
        simp only [calmQ]
        clear hq hc p1
        replace S := S.drew
        generalize wr.drew = w4 at S ⊢
        go_wp2_with (first | ((first | (with_reducible refine wpl_seal S ?_) | (with_reducible refine cw_seal S ?_) | (with_reducible refine bp_seal S ?_) | (with_reducible refine ca_seal S ?_)); clear S; (try clear hc); intro w1 S; (try simp only [List.set_cons_zero, List.set_cons_succ, List.nil_append] at S); have hc := S.cells; simp only [Cells, cellsC, Im, Row, El, Nat.zero_add, Nat.reduceAdd] at hc))
        go_ret
        exact ⟨by rw [← HR.out]; rfl, S.out⟩
      · have hgt' : decide (x > m) = false := decide_eq_false hgt
        have HN := As.mk (HT.out (by omega))
        clear HT hgt
        go_wp2_with (first | ((first | (with_reducible refine wpl_seal S ?_) | (with_reducible refine cw_seal S ?_) | (with_reducible refine bp_seal S ?_) | (with_reducible refine ca_seal S ?_)); clear S; (try clear hc); intro w1 S; (try simp only [List.set_cons_zero, List.set_cons_succ, List.nil_append] at S); have hc := S.cells; simp only [Cells, cellsC, Im, Row, El, Nat.zero_add, Nat.reduceAdd] at hc))
        refine wp_region_ext [] [0, 1, 2, 3, 4, 5, 6] (by kernel_rfl) (by kernel_rfl) ?_
        refine mix_last rfl ?_
        simp only [opsAt, List.getD_cons_succ, List.getD_cons_zero]
        repeat (go_big_quiet_step ((intro hC; first | rfl | (go_simp; first | done | rfl))))
        refine wpQuiet_nil ?_
        simp only [calmQ]
        clear hq hc p1
        replace S := S.drew
        generalize wr.drew = w4 at S ⊢
        go_wp2_with (first | ((first | (with_reducible refine wpl_seal S ?_) | (with_reducible refine cw_seal S ?_) | (with_reducible refine bp_seal S ?_) | (with_reducible refine ca_seal S ?_)); clear S; (try clear hc); intro w1 S; (try simp only [List.set_cons_zero, List.set_cons_succ, List.nil_append] at S); have hc := S.cells; simp only [Cells, cellsC, Im, Row, El, Nat.zero_add, Nat.reduceAdd] at hc))
        go_roundw
        case rel => exact ⟨k + 1, _, by go_num, by omega, HN, ⟨S⟩⟩
        case measure => simp [intOf]; omega
    · have hlt' : decide ((k : Int) < l.length) = false := decide_eq_false (by omega)
      have HA := As.mk (show ∀ x ∈ l, x ≤ m from fun x hx => by obtain ⟨j, hj, rfl⟩ := List.mem_iff_getElem.1 hx; exact HK.out j hj (by omega))
      have F2 : As (∀ q : Bool, (q = true ↔ f = true ∧ (l.length : Int) = c) → q = r) := ⟨fun q h => F.out q (by rw [h]; exact ⟨fun h => ⟨HA.out, h⟩, fun h => h.2⟩)⟩
      clear F HA
      have hc := S.cells; simp only [Cells, cellsC, Im, Row, El, Nat.zero_add, Nat.reduceAdd] at hc
      by_cases hlc : (l.length : Int) = c
      · have hlc' : ((l.length : Int) == c) = true := by rw [hlc]; exact beq_self_eq_true c
        have F3 := As.mk (F2.out f (by simp [hlc]))
        clear F2 hlc
        rcases f with _ | _
        all_goals
          go_wp2_with (first | ((first | (with_reducible refine wpl_seal S ?_) | (with_reducible refine cw_seal S ?_) | (with_reducible refine bp_seal S ?_) | (with_reducible refine ca_seal S ?_)); clear S; (try clear hc); intro w1 S; (try simp only [List.set_cons_zero, List.set_cons_succ, List.nil_append] at S); have hc := S.cells; simp only [Cells, cellsC, Im, Row, El, Nat.zero_add, Nat.reduceAdd] at hc) | (go_at_call 107; refine (yformat_c c m _ _ S.bd HF.out).mono ?_; rintro e w1 ⟨rfl, hx⟩; replace S := S.ext hx; clear hx; (try clear hc); have hc := S.cells; simp only [Cells, cellsC, Im, Row, El, Nat.zero_add, Nat.reduceAdd] at hc))
          go_ret
          exact ⟨by rw [← F3.out]; rfl, S.out⟩
      · have hlc' : ((l.length : Int) == c) = false := by rw [beq_eq_false_iff_ne]; exact hlc
        have F3 := As.mk (F2.out false (by simp [hlc]))
        clear F2 hlc
        rcases f with _ | _
        all_goals
          go_wp2_with (first | ((first | (with_reducible refine wpl_seal S ?_) | (with_reducible refine cw_seal S ?_) | (with_reducible refine bp_seal S ?_) | (with_reducible refine ca_seal S ?_)); clear S; (try clear hc); intro w1 S; (try simp only [List.set_cons_zero, List.set_cons_succ, List.nil_append] at S); have hc := S.cells; simp only [Cells, cellsC, Im, Row, El, Nat.zero_add, Nat.reduceAdd] at hc) | (go_at_call 107; refine (yformat_c c m _ _ S.bd HF.out).mono ?_; rintro e w1 ⟨rfl, hx⟩; replace S := S.ext hx; clear hx; (try clear hc); have hc := S.cells; simp only [Cells, cellsC, Im, Row, El, Nat.zero_add, Nat.reduceAdd] at hc))
          go_ret
          exact ⟨by rw [← F3.out]; rfl, S.out⟩
theorem ymay_c (x : Mx) (A : Option Addr) (n : Nat) (w : World) (I : Fp) (hI : ∀ b, I b → b < w.heap.size) (hm : mayX x = true) :
    Calls Tryz.prog 80 #[mxV x A n] w fun e w' => e = .returned (.bool true) ∧ Ext w w' := by
  have S := SH.start w I hI
  obtain ⟨⟨h1, h2, h3, h4, h5⟩, h6⟩ := mayX_iff.1 hm
  obtain ⟨hm1, hm2⟩ := mul_in h1 h2 h3 h4
  have HQ := As.mk (sizedP_iff.2 ⟨h1, h2, h3, h4, h5⟩)
  obtain ⟨a, b, l⟩ := x
  dsimp only [mxV] at *
  have HE := As.mk h6
  have hw : IntKind.i64.wrap (a * b) = (l.length : Int) := by rw [IntKind.wrap_i64]; omega
  clear hm h6 hm1 hm2
  have hc := S.cells; simp only [Cells, cellsC, Im, Row, El, Nat.zero_add, Nat.reduceAdd] at hc
  go_enter Tryz.func80, Tryz.ntmps80
  go_wp2_with (first | ((first | (with_reducible refine wpl_seal S ?_) | (with_reducible refine cw_seal S ?_) | (with_reducible refine bp_seal S ?_) | (with_reducible refine ca_seal S ?_)); clear S; (try clear hc); intro w1 S; (try simp only [List.set_cons_zero, List.set_cons_succ, List.nil_append] at S); have hc := S.cells; simp only [Cells, cellsC, Im, Row, El, Nat.zero_add, Nat.reduceAdd] at hc) | (go_at_call 63; refine (ysized_c a b _ HQ.out).mono ?_; rintro e w1 ⟨rfl, rfl⟩))
  go_ret
  exact ⟨by first | rfl | simp, S.out⟩
theorem yfitsM_c (x : Mx) (c m : Int) (A : Option Addr) (n : Nat) (w : World) (I : Fp) (hI : ∀ b, I b → b < w.heap.size) (hl : Sl kP w I A x.l) (hn : x.l.length ≤ 1000000) (hu : ∀ p ∈ x.l, U64 p) (hm : mayX x = true) {r : Bool} (hr : allFit c m x.l = r) :
    Calls Tryz.prog 60 #[mxV x A n, .agg #[.int .i64 c, .int .i64 m]] w fun e w' => e = .returned (.bool r) ∧ Ext w w' := by
  have S := (SH.start w I hI).know (h := Im kP A x.l) hl
  have HU := As.mk hu
  have HM := As.mk (fun w I hI => ymay_c x A n w I hI hm)
  have F : As (∀ q : Bool, (q = true ↔ ∀ p ∈ x.l, fitsP p c m = true) → q = r) := ⟨fun q h => by rw [← hr, Bool.eq_iff_iff, h]; unfold allFit; rw [List.all_eq_true]⟩
  clear hl hu hm hr
  obtain ⟨a, b, l⟩ := x
  dsimp only [mxV] at *
  have hc := S.cells; simp only [Cells, cellsC, Im, Row, El, Nat.zero_add, Nat.reduceAdd] at hc
  go_enter Tryz.func60, Tryz.ntmps60
  go_wp2_with (first | ((first | (with_reducible refine wpl_seal S ?_) | (with_reducible refine cw_seal S ?_) | (with_reducible refine bp_seal S ?_) | (with_reducible refine ca_seal S ?_)); clear S; (try clear hc); intro w1 S; (try simp only [List.set_cons_zero, List.set_cons_succ, List.nil_append] at S); have hc := S.cells; simp only [Cells, cellsC, Im, Row, El, Nat.zero_add, Nat.reduceAdd] at hc) | (go_at_call 80; refine (HM.out _ _ S.bd).mono ?_; rintro e w1 ⟨rfl, hx⟩; replace S := S.ext hx; clear hx; (try clear hc); have hc := S.cells; simp only [Cells, cellsC, Im, Row, El, Nat.zero_add, Nat.reduceAdd] at hc))
  obtain ⟨gf, egf⟩ := S.name 0 rfl; rw [← egf] at S ⊢; clear egf
  obtain ⟨gm, egm⟩ := S.name 1 rfl; rw [← egm] at S ⊢; clear egm
  clear hc
  go_loopw [6] (fun iv w' => ∃ (k : Nat) (J : Fp), iv = .int .i64 k ∧ k ≤ l.length ∧ As (∀ (j : Nat) (h : j < l.length), j < k → fitsP l[j] c m = true) ∧ As (SH No I w [Cel gf 31 [.int .i64 c, .int .i64 m], Cel gm 38 [.int .i64 a, .int .i64 b, .slice A l.length n], Im kP A l] w' J)) (fun iv _ => l.length - (intOf iv).toNat)
  case atStart => exact ⟨0, _, rfl, by omega, ⟨fun j _ h => absurd h (Nat.not_lt_zero j)⟩, ⟨S⟩⟩
  case round =>
    clear S
    obtain ⟨k, J, rfl, hk, HK, ⟨S⟩⟩ := hrel
    by_cases hlt : k < l.length
    · have hlt' : decide ((k : Int) < l.length) = true := decide_eq_true (by omega)
      obtain ⟨b2, o2, rfl, hck⟩ := (S.im 2 rfl).num_at (List.getElem?_eq_getElem hlt)
      have HT : As (fitsP l[k] c m = true → ∀ (j : Nat) (h : j < l.length), j < k + 1 → fitsP l[j] c m = true) := ⟨fun h0 j hj h => by
        rcases Nat.lt_or_eq_of_le (Nat.le_of_lt_succ h) with h1 | h1
        · exact HK.out j hj h1
        · subst h1; exact h0⟩
      have HM2 := As.mk (List.getElem_mem hlt)
      have HU2 := As.mk (HU.out _ HM2.out)
      generalize l[k] = x at hck HT HM2 HU2
      obtain ⟨q, hq⟩ : ∃ q, fitsP x c m = q := ⟨_, rfl⟩
      have HQ := As.mk hq
      rw [hq] at HT
      clear hq
      have p1 := ClE.cell (w := wr.drew) hck
      have hc := S.cells; simp only [Cells, cellsC, Im, Row, El, Nat.zero_add, Nat.reduceAdd] at hc
      have hq := S.cellsE; simp only [CellsE, cellsE, Im, Row, El, Nat.zero_add, Nat.reduceAdd] at hq
      go_wp2_with (first | ((first | (with_reducible refine wpl_seal S ?_) | (with_reducible refine cw_seal S ?_) | (with_reducible refine bp_seal S ?_) | (with_reducible refine ca_seal S ?_)); clear S; (try clear hc); intro w1 S; (try simp only [List.set_cons_zero, List.set_cons_succ, List.nil_append] at S); have hc := S.cells; simp only [Cells, cellsC, Im, Row, El, Nat.zero_add, Nat.reduceAdd] at hc))
      refine wp_region_ext [⟨[0, 1, 2, 3, 4, 5], [], 6, false⟩] [7] (by kernel_rfl) (by kernel_rfl) ?_
      refine mix_cons rfl rfl rfl ?_
      simp only [opsAt, List.getD_cons_succ, List.getD_cons_zero]
      repeat (go_big_quiet_step ((intro hC; first | rfl | (go_simp; first | done | rfl))))
      refine wpQuiet_nil ?_
      repeat (go_big_quiet_step ((intro hC; first | rfl | (go_simp; first | done | rfl))))
      refine wpQuiet_nil ?_
      clear hq hc p1
      replace S := S.drew
      generalize wr.drew = w4 at S ⊢
      have hc := S.cells; simp only [Cells, cellsC, Im, Row, El, Nat.zero_add, Nat.reduceAdd] at hc
      go_wp2_with (first | ((first | (with_reducible refine mx_seal S ?_) | (with_reducible refine wpl_seal S ?_) | (with_reducible refine ca_seal S ?_)); clear S; (try clear hc); intro w1 S; (try simp only [List.set_cons_zero, List.set_cons_succ, List.nil_append] at S); have hc := S.cells; simp only [Cells, cellsC, Im, Row, El, Nat.zero_add, Nat.reduceAdd] at hc) | (go_at_call 81; refine (yfits_c x c m HU2.out _ _ S.bd HQ.out).mono ?_; rintro e w1 ⟨rfl, hx⟩; have hxe := hx; replace S := S.ext hx; clear hx; (try clear hc); have hc := S.cells; simp only [Cells, cellsC, Im, Row, El, Nat.zero_add, Nat.reduceAdd] at hc))
      (first | refine ⟨(fun h => by cases h), ?_⟩ | skip); (first | ((first | (with_reducible refine mx_seal S ?_)); clear S; (try clear hc); intro w1 S; (try simp only [List.set_cons_zero, List.set_cons_succ, List.nil_append] at S); have hc := S.cells; simp only [Cells, cellsC, Im, Row, El, Nat.zero_add, Nat.reduceAdd] at hc) | skip); (try simp only [Act.put, List.setIfInBounds_toArray, List.set_cons_succ, List.set_cons_zero])
      refine mix_last rfl ?_
      simp only [opsAt, List.getD_cons_succ, List.getD_cons_zero]
      repeat (go_big_quiet_step ((intro hC; first | rfl | (go_simp; first | done | rfl))))
      refine wpQuiet_nil ?_
      simp only [calmQ]
      rcases q with _ | _
      · have HR := As.mk (F.out false (by simp only [Bool.false_eq_true, false_iff]; exact fun h => by have := h x HM2.out; rw [HQ.out] at this; cases this))
        go_wp2_with (first | ((first | (with_reducible refine wpl_seal S ?_) | (with_reducible refine cw_seal S ?_) | (with_reducible refine bp_seal S ?_) | (with_reducible refine ca_seal S ?_)); clear S; (try clear hc); intro w1 S; (try simp only [List.set_cons_zero, List.set_cons_succ, List.nil_append] at S); have hc := S.cells; simp only [Cells, cellsC, Im, Row, El, Nat.zero_add, Nat.reduceAdd] at hc))
        go_ret
        exact ⟨by rw [← HR.out]; rfl, S.out⟩
      · have HN := As.mk (HT.out rfl)
        go_wp2_with (first | ((first | (with_reducible refine wpl_seal S ?_) | (with_reducible refine cw_seal S ?_) | (with_reducible refine bp_seal S ?_) | (with_reducible refine ca_seal S ?_)); clear S; (try clear hc); intro w1 S; (try simp only [List.set_cons_zero, List.set_cons_succ, List.nil_append] at S); have hc := S.cells; simp only [Cells, cellsC, Im, Row, El, Nat.zero_add, Nat.reduceAdd] at hc))
        go_roundw
        case rel => exact ⟨k + 1, _, by go_num, by omega, HN, ⟨S⟩⟩
        case measure => simp [intOf]; omega
    · have hlt' : decide ((k : Int) < l.length) = false := decide_eq_false (by omega)
      have HR := As.mk (F.out true (by simp only [true_iff]; exact fun x hx => by obtain ⟨j, hj, rfl⟩ := List.mem_iff_getElem.1 hx; exact HK.out j hj (by omega)))
      have hc := S.cells; simp only [Cells, cellsC, Im, Row, El, Nat.zero_add, Nat.reduceAdd] at hc
      go_wp2_with (first | ((first | (with_reducible refine wpl_seal S ?_) | (with_reducible refine cw_seal S ?_) | (with_reducible refine bp_seal S ?_) | (with_reducible refine ca_seal S ?_)); clear S; (try clear hc); intro w1 S; (try simp only [List.set_cons_zero, List.set_cons_succ, List.nil_append] at S); have hc := S.cells; simp only [Cells, cellsC, Im, Row, El, Nat.zero_add, Nat.reduceAdd] at hc))
      go_ret
      exact ⟨by rw [← HR.out]; rfl, S.out⟩
theorem ymayG_c (p : Pic) (A : Option Addr) (n : Nat) (w : World) (I : Fp) (hI : ∀ b, I b → b < w.heap.size) (hl : Sl kP w I A p.x.l) (hn : p.x.l.length ≤ 1000000) (hu : ∀ q ∈ p.x.l, U64 q) (hm : mayX p.x = true) {r : Bool} (hr : mayG p = r) :
    Calls Tryz.prog 31 #[picV p A n] w fun e w' => e = .returned (.bool r) ∧ Ext w w' := by
  have S := (SH.start w I hI).know (h := Im kP A p.x.l) hl
  have HF := As.mk (fun w I hI hl => yfitsM_c p.x p.c p.m A n w I hI hl hn hu hm (show allFit p.c p.m p.x.l = r by rw [← hr]; unfold mayG; rw [hm, Bool.true_and]))
  clear hl hm hr
  obtain ⟨c, m, ⟨a, b, l⟩⟩ := p
  dsimp only [picV, mxV] at *
  have hc := S.cells; simp only [Cells, cellsC, Im, Row, El, Nat.zero_add, Nat.reduceAdd] at hc
  go_enter Tryz.func31, Tryz.ntmps31
  go_wp2_with (first | ((first | (with_reducible refine wpl_seal S ?_) | (with_reducible refine cw_seal S ?_) | (with_reducible refine bp_seal S ?_) | (with_reducible refine ca_seal S ?_)); clear S; (try clear hc); intro w1 S; (try simp only [List.set_cons_zero, List.set_cons_succ, List.nil_append] at S); have hc := S.cells; simp only [Cells, cellsC, Im, Row, El, Nat.zero_add, Nat.reduceAdd] at hc) | (go_at_call 60; refine (HF.out _ _ S.bd (S.im 1 rfl)).mono ?_; rintro e w1 ⟨rfl, hx⟩; replace S := S.ext hx; clear hx; (try clear hc); have hc := S.cells; simp only [Cells, cellsC, Im, Row, El, Nat.zero_add, Nat.reduceAdd] at hc))
  go_ret
  exact ⟨rfl, S.out⟩
end Go.Proofs.YtnmlonicfncpfaaGreat
