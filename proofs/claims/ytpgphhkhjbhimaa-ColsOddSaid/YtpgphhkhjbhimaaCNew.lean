/- The machine of columns made; what is known of it behind rows; the document's example. -/
import Derived.Test.YtpgphhkhjbhimaaCMac
namespace Go.Proofs.Ytpgphhkhjbhimaa
open Go.RowKit X
set_option maxHeartbeats 4000000
set_option maxRecDepth 8000
set_option linter.unusedSimpArgs false
set_option linter.unusedVariables false
theorem minSI_c (xs : List Int) (A : Option Addr) (c : Nat) (w : World) (D : Fp) (hx : Sl kI w D A xs) (hn : xs.length ≤ 10000) (h0 : 0 < xs.length) :
    Calls Try.prog 28 #[.slice A xs.length c] w fun e w' => ∃ m : Int, e = .returned (.int .i64 m) ∧ decide (m < 0) = (xs.any fun n => decide (n < 0)) ∧ Qt w w' := by
  have HS := As.mk hx
  have h00 : decide ((xs.length : Int) < 1) = false := by rw [decide_eq_false_iff_not]; omega
  obtain ⟨b0, o0, rfl, hc0⟩ := hx.int_at h0
  rw [Nat.add_zero] at hc0
  have HM0 : As ((∀ (j : Nat) (h : j < xs.length), j < 1 → xs[0] ≤ xs[j]) ∧ xs[0] ∈ xs) := by
    constructor
    refine ⟨fun j h hj => ?_, List.getElem_mem _⟩
    obtain rfl : j = 0 := by omega
    exact Int.le_refl _
  generalize xs[0] = x0 at hc0 HM0
  clear hx
  go_enter Try.func28, Try.ntmps28
  go_wp2
  go_loopw [3, 4] (fun m i w' => w' = w ∧ ∃ (k : Nat) (y : Int), 0 < k ∧ k ≤ xs.length ∧ i = .int .i64 k ∧ m = .int .i64 y ∧ As ((∀ (j : Nat) (h : j < xs.length), j < k → y ≤ xs[j]) ∧ y ∈ xs)) (fun _ i _ => xs.length - (intOf i).toNat)
  case atStart => exact ⟨rfl, 1, x0, by omega, by omega, rfl, rfl, HM0⟩
  case round =>
    obtain ⟨rfl, k, y, hk0, hk, rfl, rfl, HK⟩ := hrel
    by_cases hlt : k < xs.length
    · have hlt' : decide ((k : Int) < xs.length) = true := by simp; omega
      obtain ⟨b, o, e1, hcx⟩ := HS.out.int_at hlt
      cases e1
      have HXM : As (xs[k] ∈ xs) := ⟨List.getElem_mem hlt⟩
      have HT : As (∀ z, z ≤ y → z ≤ xs[k] → z ∈ xs → (∀ (j : Nat) (h : j < xs.length), j < k + 1 → z ≤ xs[j]) ∧ z ∈ xs) := ⟨fun z h1 h2 h3 => ⟨fun j hj h => by
        rcases Nat.lt_or_eq_of_le (Nat.le_of_lt_succ h) with h4 | h4
        · exact Int.le_trans h1 (HK.out.1 j hj h4)
        · subst h4; exact h2, h3⟩⟩
      generalize xs[k] = x at hcx HXM HT
      by_cases hxy : x < y
      · go_wp2
        go_roundw
        case rel => exact ⟨by first | rfl | trivial, k + 1, x, by omega, by omega, by go_num, by first | rfl | rw [Int.min_eq_right (by omega)], ⟨HT.out x (by omega) (by omega) HXM.out⟩⟩
        case measure => simp [intOf]; omega
      · go_wp2
        go_roundw
        case rel => exact ⟨by first | rfl | trivial, k + 1, y, by omega, by omega, by go_num, by first | rfl | rw [Int.min_eq_left (by omega)], ⟨HT.out y (by omega) (by omega) HK.out.2⟩⟩
        case measure => simp [intOf]; omega
    · have hlt' : decide ((k : Int) < xs.length) = false := by simp; omega
      go_wp2
      go_ret
      refine ⟨_, rfl, ?_, Qt.refl _⟩
      by_cases hy : y < 0
      · rw [decide_eq_true hy]
        exact (List.any_eq_true.2 ⟨y, HK.out.2, decide_eq_true hy⟩).symm
      · rw [decide_eq_false hy]
        refine (List.any_eq_false.2 fun x hx => ?_).symm
        obtain ⟨j, hj, rfl⟩ := List.mem_iff_getElem.1 hx
        have := HK.out.1 j hj (by omega)
        simp; omega
def oddC (l : List Int) : Bool := decide (l.length = 0) || l.any fun n => decide (n < 0)
theorem oddC_c (l : List Int) (A : Option Addr) (c : Nat) (w : World) (D : Fp) (hx : Sl kI w D A l) (hn : l.length ≤ 10000) :
    Calls Try.prog 27 #[.slice A l.length c] w fun e w' => e = .returned (.bool (oddC l)) ∧ Qt w w' := by
  have HS := As.mk hx
  clear hx
  by_cases h : l.length = 0
  · have h' : ((l.length : Int) == 0) = true := by rw [beq_iff_eq]; omega
    have HR : As (oddC l = true) := ⟨by unfold oddC; rw [decide_eq_true h]; rfl⟩
    clear h
    go_enter Try.func27, Try.ntmps27
    go_wp2
    go_ret
    exact ⟨ret_bool HR.out.symm, Qt.refl _⟩
  · have h' : ((l.length : Int) == 0) = false := by rw [beq_eq_false_iff_ne]; omega
    have HR : As (oddC l = (l.any fun n => decide (n < 0))) := ⟨by unfold oddC; rw [decide_eq_false h]; rfl⟩
    have h0 : 0 < l.length := by omega
    go_enter Try.func27, Try.ntmps27
    go_wp2_with (first | (go_at_call 28; refine (minSI_c l A c _ _ HS.out hn h0).mono ?_; rintro e w1 ⟨m, rfl, hm, hq⟩))
    go_ret
    exact ⟨ret_bool (by first | (rw [HR.out]; done) | (rw [HR.out]; exact hm)), hq⟩
def oddW (own : List (List Int)) : Bool := own.any oddC
theorem indexOddW_c (l : List (List Int)) (A : Option Addr) (c : Nat) (w : World) (I : Fp) (hI : ∀ b, I b → b < w.heap.size) (hl : Sl kII w I A l) (hn : l.length ≤ 1000) (hc : ∀ x ∈ l, x.length ≤ 10000) :
    Calls Try.prog 45 #[.slice A l.length c, .func (.func 27) #[] #[]] w fun e w' => ∃ q : Int, e = .returned (.int .i64 q) ∧ decide (0 ≤ q) = oddW l ∧ Ext w w' := by
  have S := (SH.start w I hI).know (h := Im kII A l) hl
  have HLC := As.mk hc
  clear hl hc
  have hc := S.cells; simp only [Cells, cellsC, Im, Row, El, RTH, TreeH, TR, AU, AL, OrNil, Many, MaO, FlatO, Nat.zero_add, Nat.reduceAdd] at hc
  go_enter Try.func45, Try.ntmps45
  go_wp2_with (first | ((first | (with_reducible refine wpl_seal S ?_) | (with_reducible refine cw_seal S ?_) | (with_reducible refine bp_seal S ?_) | (with_reducible refine ca_seal S ?_)); clear S; (try clear hc); intro w1 S; (try simp only [List.set_cons_zero, List.set_cons_succ, List.nil_append] at S); have hc := S.cells; simp only [Cells, cellsC, Im, Row, El, RTH, TreeH, TR, AU, AL, OrNil, Many, MaO, FlatO, Nat.zero_add, Nat.reduceAdd] at hc))
  have S1 := S
  clear S hc
  go_loopw [8] (fun i w' => ∃ (k : Nat), k ≤ l.length ∧ i = .int .i64 k ∧ As (∀ (j : Nat) (h : j < l.length), j < k → oddC l[j] = false) ∧ ∃ I', As (SH No I w [Im kII A l] w' I')) (fun i _ => l.length - (intOf i).toNat)
  case atStart => exact ⟨0, by omega, rfl, ⟨fun j _ h => absurd h (Nat.not_lt_zero j)⟩, _, ⟨S1⟩⟩
  case round =>
    clear S1
    obtain ⟨k, hk, rfl, HK, I', ⟨S⟩⟩ := hrel
    by_cases hlt : k < l.length
    · have hlt' : decide ((k : Int) < l.length) = true := by simp; omega
      obtain ⟨b, o, A1, c1, rfl, hcx, hc1, hs1⟩ := (S.im 0 rfl).sl_at hlt
      obtain ⟨q, hq⟩ : ∃ q, oddC l[k] = q := ⟨_, rfl⟩
      have HQ := As.mk hq
      have HT : As (q = false → ∀ (j : Nat) (h : j < l.length), j < k + 1 → oddC l[j] = false) := ⟨fun hq1 j hj h => by
        rcases Nat.lt_or_eq_of_le (Nat.le_of_lt_succ h) with h1 | h1
        · exact HK.out j hj h1
        · subst h1; rw [hq, hq1]⟩
      have HF : As (q = true → oddW l = true) := ⟨fun hq1 => by
        unfold oddW
        rw [List.any_eq_true]
        exact ⟨_, List.getElem_mem hlt, by rw [hq, hq1]⟩⟩
      have hlk := HLC.out _ (List.getElem_mem hlt)
      have HS1 := As.mk hs1
      clear hq hs1
      generalize l[k] = y at hcx HQ hlk HS1
      have hc := S.cells; simp only [Cells, cellsC, Im, Row, El, RTH, TreeH, TR, AU, AL, OrNil, Many, MaO, FlatO, Nat.zero_add, Nat.reduceAdd] at hc
      cases q
      · go_wp2_with (first | ((first | (with_reducible refine wpl_seal S ?_) | (with_reducible refine cw_seal S ?_) | (with_reducible refine bp_seal S ?_) | (with_reducible refine ca_seal S ?_)); clear S; (try clear hc); intro w1 S; (try simp only [List.set_cons_zero, List.set_cons_succ, List.nil_append] at S); have hc := S.cells; simp only [Cells, cellsC, Im, Row, El, RTH, TreeH, TR, AU, AL, OrNil, Many, MaO, FlatO, Nat.zero_add, Nat.reduceAdd] at hc) | (go_at_call 27; refine (oddC_c y A1 c1 _ _ HS1.out hlk).mono ?_; rw [HQ.out]; rintro e w1 ⟨rfl, hx⟩; have hx := hx.ext; replace S := S.ext hx; clear hx; (try clear hc); have hc := S.cells; simp only [Cells, cellsC, Im, Row, El, RTH, TreeH, TR, AU, AL, OrNil, Many, MaO, FlatO, Nat.zero_add, Nat.reduceAdd] at hc))
        go_roundw
        case rel => exact ⟨k + 1, by omega, by go_num, ⟨HT.out (by first | rfl | trivial)⟩, _, ⟨by first | exact S | trivial⟩⟩
        case measure => simp [intOf]; omega
      · go_wp2_with (first | ((first | (with_reducible refine wpl_seal S ?_) | (with_reducible refine cw_seal S ?_) | (with_reducible refine bp_seal S ?_) | (with_reducible refine ca_seal S ?_)); clear S; (try clear hc); intro w1 S; (try simp only [List.set_cons_zero, List.set_cons_succ, List.nil_append] at S); have hc := S.cells; simp only [Cells, cellsC, Im, Row, El, RTH, TreeH, TR, AU, AL, OrNil, Many, MaO, FlatO, Nat.zero_add, Nat.reduceAdd] at hc) | (go_at_call 27; refine (oddC_c y A1 c1 _ _ HS1.out hlk).mono ?_; rw [HQ.out]; rintro e w1 ⟨rfl, hx⟩; have hx := hx.ext; replace S := S.ext hx; clear hx; (try clear hc); have hc := S.cells; simp only [Cells, cellsC, Im, Row, El, RTH, TreeH, TR, AU, AL, OrNil, Many, MaO, FlatO, Nat.zero_add, Nat.reduceAdd] at hc))
        go_ret
        exact ⟨_, rfl, by rw [HF.out (by first | rfl | trivial)]; simp, S.out⟩
    · have hlt' : decide ((k : Int) < l.length) = false := by simp; omega
      go_wp2_with (first | ((first | (with_reducible refine wpl_seal S ?_) | (with_reducible refine cw_seal S ?_) | (with_reducible refine bp_seal S ?_) | (with_reducible refine ca_seal S ?_)); clear S; (try clear hc); intro w1 S; (try simp only [List.set_cons_zero, List.set_cons_succ, List.nil_append] at S); have hc := S.cells; simp only [Cells, cellsC, Im, Row, El, RTH, TreeH, TR, AU, AL, OrNil, Many, MaO, FlatO, Nat.zero_add, Nat.reduceAdd] at hc))
      go_ret
      refine ⟨_, rfl, ?_, S.out⟩
      have : oddW l = false := by
        unfold oddW
        rw [List.any_eq_false]
        intro x hx
        obtain ⟨j, hj, rfl⟩ := List.mem_iff_getElem.1 hx
        rw [HK.out j hj (by omega)]
        decide
      rw [this]
      rfl
theorem contOddW_c (l : List (List Int)) (A : Option Addr) (c : Nat) (w : World) (I : Fp) (hI : ∀ b, I b → b < w.heap.size) (hl : Sl kII w I A l) (hn : l.length ≤ 1000) (hc : ∀ x ∈ l, x.length ≤ 10000) :
    Calls Try.prog 29 #[.slice A l.length c, .func (.func 27) #[] #[]] w fun e w' => e = .returned (.bool (oddW l)) ∧ Ext w w' := by
  have S := (SH.start w I hI).know (h := Im kII A l) hl
  have HLC := As.mk hc
  clear hl hc
  have hc := S.cells; simp only [Cells, cellsC, Im, Row, El, RTH, TreeH, TR, AU, AL, OrNil, Many, MaO, FlatO, Nat.zero_add, Nat.reduceAdd] at hc
  go_enter Try.func29, Try.ntmps29
  go_wp2_with (first | ((first | (with_reducible refine wpl_seal S ?_) | (with_reducible refine cw_seal S ?_) | (with_reducible refine bp_seal S ?_) | (with_reducible refine ca_seal S ?_)); clear S; (try clear hc); intro w1 S; (try simp only [List.set_cons_zero, List.set_cons_succ, List.nil_append] at S); have hc := S.cells; simp only [Cells, cellsC, Im, Row, El, RTH, TreeH, TR, AU, AL, OrNil, Many, MaO, FlatO, Nat.zero_add, Nat.reduceAdd] at hc) | (go_at_call 45; refine (indexOddW_c l A c _ _ S.bd (S.im 0 rfl) hn HLC.out).mono ?_; rintro e w1 ⟨q, rfl, hq, hx⟩; replace S := S.ext hx; clear hx; (try clear hc); have hc := S.cells; simp only [Cells, cellsC, Im, Row, El, RTH, TreeH, TR, AU, AL, OrNil, Many, MaO, FlatO, Nat.zero_add, Nat.reduceAdd] at hc))
  go_ret
  exact ⟨ret_bool (by first | rfl | exact hq), S.out⟩
end Go.Proofs.Ytpgphhkhjbhimaa
namespace Go.Proofs.Ytpgphhkhjbhimaa
open Go.RowKit X
set_option maxHeartbeats 4000000
set_option maxRecDepth 8000
set_option linter.unusedSimpArgs false
set_option linter.unusedVariables false
theorem Few.even {own : List (List Int)} (h : Few own) : oddW own = false := by
  unfold oddW
  rw [List.any_eq_false]
  intro l hl
  obtain ⟨h1, -, h3⟩ := h.each l hl
  have h4 : (l.any fun n => decide (n < 0)) = false := by
    rw [List.any_eq_false]
    intro n hn
    have := (h3 n hn).1
    simp; omega
  unfold oddC
  rw [h4, decide_eq_false (fun e => h1 (List.eq_nil_of_length_eq_zero e))]
  decide
theorem Few.neW {own : List (List Int)} (h : Few own) : NeW own := fun q hq => by rw [pa_eq hq]; exact (h.each _ (List.getElem_mem hq)).1
theorem cnew_no (own : List (List Int)) (p : Int) (A : Option Addr) (c : Nat) (w : World) (I : Fp) (hI : ∀ b, I b → b < w.heap.size) (hl : Sl kII w I A own) (hn : own.length ≤ 1000) (hc : ∀ x ∈ own, x.length ≤ 10000) (hbad : ((decide (0 ≤ p) && decide (p ≤ 4096)) && !oddW own) = false) :
    Calls Try.prog 10 #[.slice A own.length c, .int .i64 p] w fun e w' => e = .returned (.tuple #[.pointer none, .int .i64 1]) ∧ Ext w w' := by
  have S := (SH.start w I hI).know (h := Im kII A own) hl
  have HLC := As.mk hc
  clear hl hc
  obtain ⟨mp, hmp⟩ : ∃ mp, (decide (0 ≤ p) && decide (p ≤ 4096)) = mp := ⟨_, rfl⟩
  have HMP := As.mk hmp
  obtain ⟨ow, how⟩ : ∃ ow, oddW own = ow := ⟨_, rfl⟩
  have HOW := As.mk how
  rw [hmp, how] at hbad
  clear hmp how
  have hc := S.cells; simp only [Cells, cellsC, Im, Row, El, RTH, TreeH, TR, AU, AL, OrNil, Many, MaO, FlatO, Nat.zero_add, Nat.reduceAdd] at hc
  rcases mp with _ | _
  · clear hbad
    go_enter Try.func10, Try.ntmps10
    go_wp2_with (first | ((first | (with_reducible refine wpl_seal S ?_) | (with_reducible refine cw_seal S ?_) | (with_reducible refine bp_seal S ?_) | (with_reducible refine ca_seal S ?_)); clear S; (try clear hc); intro w1 S; (try simp only [List.set_cons_zero, List.set_cons_succ, List.nil_append] at S); have hc := S.cells; simp only [Cells, cellsC, Im, Row, El, RTH, TreeH, TR, AU, AL, OrNil, Many, MaO, FlatO, Nat.zero_add, Nat.reduceAdd] at hc) | (go_at_call 26; refine (cmay_c p _).mono ?_; rw [HMP.out]; rintro e w1 ⟨rfl, rfl⟩))
    go_ret2
    exact ⟨rfl, S.out⟩
  · have how : ow = true := by simpa using hbad
    subst how
    clear hbad
    go_enter Try.func10, Try.ntmps10
    go_wp2_with (first | ((first | (with_reducible refine wpl_seal S ?_) | (with_reducible refine cw_seal S ?_) | (with_reducible refine bp_seal S ?_) | (with_reducible refine ca_seal S ?_)); clear S; (try clear hc); intro w1 S; (try simp only [List.set_cons_zero, List.set_cons_succ, List.nil_append] at S); have hc := S.cells; simp only [Cells, cellsC, Im, Row, El, RTH, TreeH, TR, AU, AL, OrNil, Many, MaO, FlatO, Nat.zero_add, Nat.reduceAdd] at hc) | (go_at_call 26; refine (cmay_c p _).mono ?_; rw [HMP.out]; rintro e w1 ⟨rfl, rfl⟩) | (go_at_call 29; refine (contOddW_c own A c _ _ S.bd (S.im 0 rfl) hn HLC.out).mono ?_; rw [HOW.out]; rintro e w1 ⟨rfl, hx⟩; replace S := S.ext hx; clear hx; (try clear hc); have hc := S.cells; simp only [Cells, cellsC, Im, Row, El, RTH, TreeH, TR, AU, AL, OrNil, Many, MaO, FlatO, Nat.zero_add, Nat.reduceAdd] at hc))
    go_ret2
    exact ⟨rfl, S.out⟩
theorem cnew_ok (own : List (List Int)) (p : Nat) (hp : p ≤ 4096) (A : Option Addr) (c : Nat) (w : World) (I : Fp) (hI : ∀ b, I b → b < w.heap.size) (hl : Sl kII w I A own) (hF : Few own) :
    Calls Try.prog 10 #[.slice A own.length c, .int .i64 p] w fun e w' => ∃ gm J, e = .returned (.tuple #[.pointer (some ⟨gm, 0, none⟩), .int .i64 0]) ∧ SH No I w [MaO gm (treeL own) own (List.replicate p 0) 0] w' J := by
  have S := (SH.start w I hI).know (h := Im kII A own) hl
  have HF := As.mk hF
  have HOW := As.mk hF.even
  have HMP : As ((decide (0 ≤ (p : Int)) && decide ((p : Int) ≤ 4096)) = true) := ⟨by simp; omega⟩
  have HLC : As (∀ x ∈ own, x.length ≤ 10000) := ⟨fun x hx => by have := (hF.each x hx).2.1; omega⟩
  have hlen := hF.len
  clear hl hF
  have hc := S.cells; simp only [Cells, cellsC, Im, Row, El, RTH, TreeH, TR, AU, AL, OrNil, Many, MaO, FlatO, Nat.zero_add, Nat.reduceAdd] at hc
  go_enter Try.func10, Try.ntmps10
  go_wp2_with (first | ((first | (with_reducible refine wpl_seal S ?_) | (with_reducible refine cw_seal S ?_) | (with_reducible refine bp_seal S ?_) | (with_reducible refine ca_seal S ?_)); clear S; (try clear hc); intro w1 S; (try simp only [List.set_cons_zero, List.set_cons_succ, List.nil_append] at S); have hc := S.cells; simp only [Cells, cellsC, Im, Row, El, RTH, TreeH, TR, AU, AL, OrNil, Many, MaO, FlatO, Nat.zero_add, Nat.reduceAdd] at hc) | (go_at_call 26; refine (cmay_c p _).mono ?_; rw [HMP.out]; rintro e w1 ⟨rfl, rfl⟩) | (go_at_call 29; refine (contOddW_c own A c _ _ S.bd (S.im 0 rfl) (by omega) HLC.out).mono ?_; rw [HOW.out]; rintro e w1 ⟨rfl, hx⟩; replace S := S.ext hx; clear hx; (try clear hc); have hc := S.cells; simp only [Cells, cellsC, Im, Row, El, RTH, TreeH, TR, AU, AL, OrNil, Many, MaO, FlatO, Nat.zero_add, Nat.reduceAdd] at hc) | (go_at_call 30; refine (new_c _).mono ?_; rintro e w1 ⟨b, rfl, hu⟩; obtain ⟨I1, S1, hI1⟩ := S.new (hu.any _); clear S hu hI1; (try clear hc); have S := S1; clear S1; have hc := S.cells; simp only [Cells, cellsC, Im, Row, El, RTH, TreeH, TR, AU, AL, OrNil, Many, MaO, FlatO, Nat.zero_add, Nat.reduceAdd] at hc; replace S := S.toTR 0 rfl St.one; simp only [List.set_cons_zero, List.set_cons_succ, List.nil_append] at S; have hc := S.cells; simp only [Cells, cellsC, Im, Row, El, RTH, TreeH, TR, AU, AL, OrNil, Many, MaO, FlatO, Nat.zero_add, Nat.reduceAdd] at hc))
  clear hc
  go_loopw [24] (fun i w' => ∃ (k : Nat) (L W : List (List Int)) (J : Fp), k ≤ own.length ∧ i = .int .i64 k ∧ As (L = treeL (own.take k)) ∧ As (W = own.take k) ∧ As (SH No I w [TR b L W, Im kII A own] w' J)) (fun i _ => own.length - (intOf i).toNat)
  case atStart => exact ⟨0, [[]], [], _, Nat.zero_le _, rfl, ⟨rfl⟩, ⟨rfl⟩, ⟨S⟩⟩
  case round =>
    clear S
    obtain ⟨k, L, W, J, hk, rfl, HL, HW, ⟨S⟩⟩ := hrel
    have hb := treeL_small HF.out k hk
    rw [← HL.out] at hb
    have hLk : L.length ≤ 25 := by omega
    have hWk : W.length ≤ 6 := by rw [HW.out, List.length_take]; omega
    have HLx : As (∀ x ∈ L, x.length ≤ 4) := ⟨hb.2⟩
    clear hb
    have hc := S.cells; simp only [Cells, cellsC, Im, Row, El, RTH, TreeH, TR, AU, AL, OrNil, Many, MaO, FlatO, Nat.zero_add, Nat.reduceAdd] at hc
    by_cases hlt : k < own.length
    · have hlt' : decide ((k : Int) < own.length) = true := by simpa using hlt
      obtain ⟨bo, oo, A3, c3, rfl, hcx, hc3, hs3⟩ := (S.im 1 rfl).sl_at hlt
      have he := HF.out.each _ (List.getElem_mem hlt)
      have HL2 : As (treeL (own.take (k + 1)) = putL L own[k] own[k].length) := ⟨by rw [treeL_succ hlt, ← HL.out]⟩
      have HW2 : As (own.take (k + 1) = W ++ [own[k]]) := ⟨by rw [List.take_succ_eq_append_getElem hlt, ← HW.out]⟩
      have HPO := As.mk he.2.2
      have hl4 : own[k].length ≤ 4 := he.2.1
      have HNE := As.mk he.1
      clear he
      replace S := (S.know (h := Im kI A3 own[k]) hs3).nilrow (k := kP)
      clear hs3
      generalize own[k] = xs at S HL2 HW2 HPO hl4 hcx hc3 HNE
      have hc := S.cells; simp only [Cells, cellsC, Im, Row, El, RTH, TreeH, TR, AU, AL, OrNil, Many, MaO, FlatO, Nat.zero_add, Nat.reduceAdd] at hc
      go_wp2_with (first | ((first | (with_reducible refine wpl_seal S ?_) | (with_reducible refine cw_seal S ?_) | (with_reducible refine bp_seal S ?_) | (with_reducible refine ca_seal S ?_)); clear S; (try clear hc); intro w1 S; (try simp only [List.set_cons_zero, List.set_cons_succ, List.nil_append] at S); have hc := S.cells; simp only [Cells, cellsC, Im, Row, El, RTH, TreeH, TR, AU, AL, OrNil, Many, MaO, FlatO, Nat.zero_add, Nat.reduceAdd] at hc))
      clear hc hcx
      go_loopw [10, 30] (fun o9 i w' => ∃ (t : Nat) (J' : Fp), t ≤ xs.length ∧ i = .int .i64 t ∧ As (SH No I w [Row kP o9 (xs.take t), Im kI A3 xs, TR b L W, Im kII (some ⟨bo, oo, none⟩) own] w' J')) (fun _ i _ => xs.length - (intOf i).toNat)
      case atStart => exact ⟨0, _, Nat.zero_le _, rfl, ⟨S⟩⟩
      case round =>
        clear S
        obtain ⟨t, J', ht, rfl, ⟨S⟩⟩ := hrel
        have hol : (xs.take t).length ≤ 1000 := by rw [List.length_take]; omega
        by_cases htl : t < xs.length
        · have htl' : decide ((t : Int) < xs.length) = true := by simpa using htl
          obtain ⟨b2, o2, rfl, hcy⟩ := (S.im 1 rfl).int_at htl
          have hpx := HPO.out _ (List.getElem_mem htl)
          have HT : As (xs.take (t + 1) = xs.take t ++ [xs[t]]) := ⟨List.take_succ_eq_append_getElem htl⟩
          generalize xs[t] = x at hcy hpx HT
          generalize xs.take t = ys at S hol HT
          obtain ⟨hp1, hp2⟩ := hpx
          have hc := S.cells; simp only [Cells, cellsC, Im, Row, El, RTH, TreeH, TR, AU, AL, OrNil, Many, MaO, FlatO, Nat.zero_add, Nat.reduceAdd] at hc
          go_wp2_with (first | ((first | (with_reducible refine wpl_seal S ?_) | (with_reducible refine cw_seal S ?_) | (with_reducible refine bp_seal S ?_) | (with_reducible refine ca_seal S ?_)); clear S; (try clear hc); intro w1 S; (try simp only [List.set_cons_zero, List.set_cons_succ, List.nil_append] at S); have hc := S.cells; simp only [Cells, cellsC, Im, Row, El, RTH, TreeH, TR, AU, AL, OrNil, Many, MaO, FlatO, Nat.zero_add, Nat.reduceAdd] at hc) | (at_builtin; refine wpl_push S 1 rfl rfl _ _ rfl ty_pixs rfl x _ _ rfl [_] _ (S.cel 0 rfl) rfl (by (try simp only [maxLen, List.length_nil, List.length_append, List.length_cons]); omega) (by (try simp only [maxLen, List.length_nil, List.length_append, List.length_cons]); omega) ?_; clear S; (try clear hc); intro va w1 S; simp only [List.set_cons_zero, List.set_cons_succ, List.nil_append] at S; have hc := S.cells; simp only [Cells, cellsC, Im, Row, El, RTH, TreeH, TR, AU, AL, OrNil, Many, MaO, FlatO, Nat.zero_add, Nat.reduceAdd] at hc))
          go_roundw
          case rel => exact ⟨t + 1, _, by omega, by go_num, ⟨by rw [HT.out]; exact (S.sel [1, 2, 3, 4] (by decide) rfl (by simp) : SH _ _ _ [_, _, _, _] _ _)⟩⟩
          case measure => simp [intOf]; omega
        · have htl' : decide ((t : Int) < xs.length) = false := by simpa using htl
          have HT : As (xs.take t = xs) := ⟨List.take_of_length_le (by omega)⟩
          rw [HT.out] at S
          clear HT hol
          obtain ⟨A6, c6, I1, e1, hc6, S1, hI1⟩ := S.frow 0 rfl; subst e1; clear S hI1; have S := S1; clear S1; simp only [List.set_cons_zero, List.set_cons_succ, List.nil_append] at S
          have hc := S.cells; simp only [Cells, cellsC, Im, Row, El, RTH, TreeH, TR, AU, AL, OrNil, Many, MaO, FlatO, Nat.zero_add, Nat.reduceAdd] at hc
          go_wp2_with (first | ((first | (with_reducible refine wpl_seal S ?_) | (with_reducible refine cw_seal S ?_) | (with_reducible refine bp_seal S ?_) | (with_reducible refine ca_seal S ?_)); clear S; (try clear hc); intro w1 S; (try simp only [List.set_cons_zero, List.set_cons_succ, List.nil_append] at S); have hc := S.cells; simp only [Cells, cellsC, Im, Row, El, RTH, TreeH, TR, AU, AL, OrNil, Many, MaO, FlatO, Nat.zero_add, Nat.reduceAdd] at hc) | (go_at_call 31; refine (put_tr S 2 rfl (S.im 0 rfl) hc6 (by omega) (by omega) (by omega) HNE.out).mono ?_; rintro e w1 ⟨I9, rfl, S9⟩; clear S hc; have S := S9; clear S9; simp only [List.set_cons_zero, List.set_cons_succ, List.nil_append] at S; have hc := S.cells; simp only [Cells, cellsC, Im, Row, El, RTH, TreeH, TR, AU, AL, OrNil, Many, MaO, FlatO, Nat.zero_add, Nat.reduceAdd] at hc))
          go_roundw
          case rel => exact ⟨k + 1, _, _, _, by omega, by go_num, ⟨HL2.out.symm⟩, ⟨HW2.out.symm⟩, ⟨(S.sel [2, 3] (by decide) rfl (by simp) : SH _ _ _ [_, _] _ _)⟩⟩
          case measure => simp [intOf]; omega
    · have hlt' : decide ((k : Int) < own.length) = false := by simpa using hlt
      have hke : own.take k = own := List.take_of_length_le (by omega)
      rw [hke] at HL HW
      clear hke
      have HNW : As (NeW W) := ⟨by rw [HW.out]; exact HF.out.neW⟩
      go_wp2_with (first | ((first | (with_reducible refine wpl_seal S ?_) | (with_reducible refine cw_seal S ?_) | (with_reducible refine bp_seal S ?_) | (with_reducible refine ca_seal S ?_)); clear S; (try clear hc); intro w1 S; (try simp only [List.set_cons_zero, List.set_cons_succ, List.nil_append] at S); have hc := S.cells; simp only [Cells, cellsC, Im, Row, El, RTH, TreeH, TR, AU, AL, OrNil, Many, MaO, FlatO, Nat.zero_add, Nat.reduceAdd] at hc))
      refine wp_region_fork [0, 2] 1 3 [⟨[], [], 3, false⟩, ⟨[4], [], 5, false⟩] [6, 7] [⟨[], [], 1, false⟩, ⟨[4], [], 5, false⟩] [6, 7] (by kernel_rfl) (by kernel_rfl) rfl rfl rfl ?_
      (try simp only [opsAt, List.getD_cons_succ, List.getD_cons_zero])
      repeat (go_big_quiet_step ((intro hC; first | rfl | (go_simp; first | done | rfl))))
      refine wpQuiet_nil ?_
      replace S := S.drew
      generalize wr.drew = w1 at S ⊢
      clear hc
      refine ⟨?_, ?_⟩
      · have hc := S.cells; simp only [Cells, cellsC, Im, Row, El, RTH, TreeH, TR, AU, AL, OrNil, Many, MaO, FlatO, Nat.zero_add, Nat.reduceAdd] at hc
        go_wp2_with (first | ((first | (with_reducible refine mx_seal S ?_) | (with_reducible refine wpl_seal S ?_) | (with_reducible refine ca_seal S ?_)); clear S; (try clear hc); intro w1 S; (try simp only [List.set_cons_zero, List.set_cons_succ, List.nil_append] at S); have hc := S.cells; simp only [Cells, cellsC, Im, Row, El, RTH, TreeH, TR, AU, AL, OrNil, Many, MaO, FlatO, Nat.zero_add, Nat.reduceAdd] at hc) | (go_at_call 32; refine (anew_r S 0 rfl (by omega) (by omega) HNW.out 4 HLx.out (by omega)).mono ?_; rintro e w1 ⟨ga, J1, rfl, S9⟩; clear S; (try clear hc); have S := S9; clear S9; have hc := S.cells; simp only [Cells, cellsC, Im, Row, El, RTH, TreeH, TR, AU, AL, OrNil, Many, MaO, FlatO, Nat.zero_add, Nat.reduceAdd] at hc))
        refine mix_cons rfl rfl rfl ?_
        simp only [opsAt, List.getD_cons_succ, List.getD_cons_zero]
        repeat (go_big_quiet_step ((intro hC; first | rfl | (go_simp; first | done | rfl))))
        refine wpQuiet_nil ?_
        repeat (go_big_quiet_step ((intro hC; first | rfl | (go_simp; first | done | rfl))))
        refine wpQuiet_nil ?_
        go_wp2_with (first | ((first | (with_reducible refine mx_seal S ?_) | (with_reducible refine wpl_seal S ?_) | (with_reducible refine ca_seal S ?_)); clear S; (try clear hc); intro w1 S; (try simp only [List.set_cons_zero, List.set_cons_succ, List.nil_append] at S); have hc := S.cells; simp only [Cells, cellsC, Im, Row, El, RTH, TreeH, TR, AU, AL, OrNil, Many, MaO, FlatO, Nat.zero_add, Nat.reduceAdd] at hc) | (at_make; refine wpl_make (k := kI) S rfl _ _ rfl (z := .int .i64 0) (bytes := 8) (size := 1) Try.underlying30 (by kernel_rfl) rfl (by omega) .i64 .i64 p rfl rfl (by omega) 0 (fun _ => rfl) (by omega) ?_; clear S; (try clear hc); intro g w1 S; have hc := S.cells; simp only [Cells, cellsC, Im, Row, El, RTH, TreeH, TR, AU, AL, OrNil, Many, MaO, FlatO, Nat.zero_add, Nat.reduceAdd] at hc))
        obtain ⟨cs, hf, S1⟩ := S.rowCel 0 (xs := List.replicate p (0 : Int)) (by rw [List.length_replicate]; rfl)
        obtain rfl := Flat.int.1 hf
        clear S hf
        have S := S1
        clear S1
        simp only [List.set_cons_zero, List.set_cons_succ, List.nil_append] at S
        (first | refine ⟨(fun h => by cases h), ?_⟩ | skip); (first | ((first | (with_reducible refine mx_seal S ?_)); clear S; (try clear hc); intro w1 S; (try simp only [List.set_cons_zero, List.set_cons_succ, List.nil_append] at S); have hc := S.cells; simp only [Cells, cellsC, Im, Row, El, RTH, TreeH, TR, AU, AL, OrNil, Many, MaO, FlatO, Nat.zero_add, Nat.reduceAdd] at hc) | skip); (try simp only [Act.put, List.setIfInBounds_toArray, List.set_cons_succ, List.set_cons_zero])
        refine mix_cons rfl rfl rfl ?_
        simp only [opsAt, List.getD_cons_succ, List.getD_cons_zero]
        repeat (go_big_quiet_step ((intro hC; first | rfl | (go_simp; first | done | rfl))))
        refine wpQuiet_nil ?_
        repeat (go_big_quiet_step ((intro hC; first | rfl | (go_simp; first | done | rfl))))
        refine wpQuiet_nil ?_
        go_wp2_with (first | ((first | (with_reducible refine mx_seal S ?_) | (with_reducible refine wpl_seal S ?_) | (with_reducible refine ca_seal S ?_)); clear S; (try clear hc); intro w1 S; (try simp only [List.set_cons_zero, List.set_cons_succ, List.nil_append] at S); have hc := S.cells; simp only [Cells, cellsC, Im, Row, El, RTH, TreeH, TR, AU, AL, OrNil, Many, MaO, FlatO, Nat.zero_add, Nat.reduceAdd] at hc))
        (first | refine ⟨(fun h => by cases h), ?_⟩ | skip); (first | ((first | (with_reducible refine mx_seal S ?_)); clear S; (try clear hc); intro w1 S; (try simp only [List.set_cons_zero, List.set_cons_succ, List.nil_append] at S); have hc := S.cells; simp only [Cells, cellsC, Im, Row, El, RTH, TreeH, TR, AU, AL, OrNil, Many, MaO, FlatO, Nat.zero_add, Nat.reduceAdd] at hc) | skip); (try simp only [Act.put, List.setIfInBounds_toArray, List.set_cons_succ, List.set_cons_zero])
        refine mix_last rfl ?_
        simp only [opsAt, List.getD_cons_succ, List.getD_cons_zero]
        repeat (go_big_quiet_step ((intro hC; first | rfl | (go_simp; first | done | rfl))))
        refine wpQuiet_nil ?_
        simp only [calmQ]
        have hc := S.cells; simp only [Cells, cellsC, Im, Row, El, RTH, TreeH, TR, AU, AL, OrNil, Many, MaO, FlatO, Nat.zero_add, Nat.reduceAdd] at hc
        go_wp2_with (first | ((first | (with_reducible refine wpl_seal S ?_) | (with_reducible refine cw_seal S ?_) | (with_reducible refine bp_seal S ?_) | (with_reducible refine ca_seal S ?_)); clear S; (try clear hc); intro w1 S; (try simp only [List.set_cons_zero, List.set_cons_succ, List.nil_append] at S); have hc := S.cells; simp only [Cells, cellsC, Im, Row, El, RTH, TreeH, TR, AU, AL, OrNil, Many, MaO, FlatO, Nat.zero_add, Nat.reduceAdd] at hc))
        go_ret2
        obtain ⟨gm, egm⟩ := S.name 0 rfl; rw [← egm] at S ⊢; clear egm
        have S1 : SH No I w (maM gm ga g L W (List.replicate p 0) [] 0 ++ [Im kII A own]) w1 J1 := by
          unfold maM
          rw [List.length_replicate, List.append_nil]
          exact (S.sel [0, 2, 1, 4] (by decide) rfl (by simp) : SH _ _ _ [_, _, _, _] _ _)
        have S2 := (S1.pack (maM _ ga g L W _ [] _) (L := [_])).asMa 0 rfl
        rw [← HL.out, ← HW.out]
        exact ⟨_, _, rfl, S2.sel [0] (by decide) rfl (by simp)⟩
      · have hc := S.cells; simp only [Cells, cellsC, Im, Row, El, RTH, TreeH, TR, AU, AL, OrNil, Many, MaO, FlatO, Nat.zero_add, Nat.reduceAdd] at hc
        go_wp2_with (first | ((first | (with_reducible refine mx_seal S ?_) | (with_reducible refine wpl_seal S ?_) | (with_reducible refine ca_seal S ?_)); clear S; (try clear hc); intro w1 S; (try simp only [List.set_cons_zero, List.set_cons_succ, List.nil_append] at S); have hc := S.cells; simp only [Cells, cellsC, Im, Row, El, RTH, TreeH, TR, AU, AL, OrNil, Many, MaO, FlatO, Nat.zero_add, Nat.reduceAdd] at hc) | (at_make; refine wpl_make (k := kI) S rfl _ _ rfl (z := .int .i64 0) (bytes := 8) (size := 1) Try.underlying30 (by kernel_rfl) rfl (by omega) .i64 .i64 p rfl rfl (by omega) 0 (fun _ => rfl) (by omega) ?_; clear S; (try clear hc); intro g w1 S; have hc := S.cells; simp only [Cells, cellsC, Im, Row, El, RTH, TreeH, TR, AU, AL, OrNil, Many, MaO, FlatO, Nat.zero_add, Nat.reduceAdd] at hc))
        obtain ⟨cs, hf, S1⟩ := S.rowCel 0 (xs := List.replicate p (0 : Int)) (by rw [List.length_replicate]; rfl)
        obtain rfl := Flat.int.1 hf
        clear S hf
        have S := S1
        clear S1
        simp only [List.set_cons_zero, List.set_cons_succ, List.nil_append] at S
        (first | refine ⟨(fun h => by cases h), ?_⟩ | skip); (first | ((first | (with_reducible refine mx_seal S ?_)); clear S; (try clear hc); intro w1 S; (try simp only [List.set_cons_zero, List.set_cons_succ, List.nil_append] at S); have hc := S.cells; simp only [Cells, cellsC, Im, Row, El, RTH, TreeH, TR, AU, AL, OrNil, Many, MaO, FlatO, Nat.zero_add, Nat.reduceAdd] at hc) | skip); (try simp only [Act.put, List.setIfInBounds_toArray, List.set_cons_succ, List.set_cons_zero])
        refine mix_cons rfl rfl rfl ?_
        simp only [opsAt, List.getD_cons_succ, List.getD_cons_zero]
        repeat (go_big_quiet_step ((intro hC; first | rfl | (go_simp; first | done | rfl))))
        refine wpQuiet_nil ?_
        repeat (go_big_quiet_step ((intro hC; first | rfl | (go_simp; first | done | rfl))))
        refine wpQuiet_nil ?_
        go_wp2_with (first | ((first | (with_reducible refine mx_seal S ?_) | (with_reducible refine wpl_seal S ?_) | (with_reducible refine ca_seal S ?_)); clear S; (try clear hc); intro w1 S; (try simp only [List.set_cons_zero, List.set_cons_succ, List.nil_append] at S); have hc := S.cells; simp only [Cells, cellsC, Im, Row, El, RTH, TreeH, TR, AU, AL, OrNil, Many, MaO, FlatO, Nat.zero_add, Nat.reduceAdd] at hc) | (go_at_call 32; refine (anew_r S 1 rfl (by omega) (by omega) HNW.out 4 HLx.out (by omega)).mono ?_; rintro e w1 ⟨ga, J1, rfl, S9⟩; clear S; (try clear hc); have S := S9; clear S9; have hc := S.cells; simp only [Cells, cellsC, Im, Row, El, RTH, TreeH, TR, AU, AL, OrNil, Many, MaO, FlatO, Nat.zero_add, Nat.reduceAdd] at hc))
        (first | refine ⟨(fun h => by cases h), ?_⟩ | skip); (first | ((first | (with_reducible refine mx_seal S ?_)); clear S; (try clear hc); intro w1 S; (try simp only [List.set_cons_zero, List.set_cons_succ, List.nil_append] at S); have hc := S.cells; simp only [Cells, cellsC, Im, Row, El, RTH, TreeH, TR, AU, AL, OrNil, Many, MaO, FlatO, Nat.zero_add, Nat.reduceAdd] at hc) | skip); (try simp only [Act.put, List.setIfInBounds_toArray, List.set_cons_succ, List.set_cons_zero])
        refine mix_cons rfl rfl rfl ?_
        simp only [opsAt, List.getD_cons_succ, List.getD_cons_zero]
        repeat (go_big_quiet_step ((intro hC; first | rfl | (go_simp; first | done | rfl))))
        refine wpQuiet_nil ?_
        repeat (go_big_quiet_step ((intro hC; first | rfl | (go_simp; first | done | rfl))))
        refine wpQuiet_nil ?_
        go_wp2_with (first | ((first | (with_reducible refine mx_seal S ?_) | (with_reducible refine wpl_seal S ?_) | (with_reducible refine ca_seal S ?_)); clear S; (try clear hc); intro w1 S; (try simp only [List.set_cons_zero, List.set_cons_succ, List.nil_append] at S); have hc := S.cells; simp only [Cells, cellsC, Im, Row, El, RTH, TreeH, TR, AU, AL, OrNil, Many, MaO, FlatO, Nat.zero_add, Nat.reduceAdd] at hc))
        (first | refine ⟨(fun h => by cases h), ?_⟩ | skip); (first | ((first | (with_reducible refine mx_seal S ?_)); clear S; (try clear hc); intro w1 S; (try simp only [List.set_cons_zero, List.set_cons_succ, List.nil_append] at S); have hc := S.cells; simp only [Cells, cellsC, Im, Row, El, RTH, TreeH, TR, AU, AL, OrNil, Many, MaO, FlatO, Nat.zero_add, Nat.reduceAdd] at hc) | skip); (try simp only [Act.put, List.setIfInBounds_toArray, List.set_cons_succ, List.set_cons_zero])
        refine mix_last rfl ?_
        simp only [opsAt, List.getD_cons_succ, List.getD_cons_zero]
        repeat (go_big_quiet_step ((intro hC; first | rfl | (go_simp; first | done | rfl))))
        refine wpQuiet_nil ?_
        simp only [calmQ]
        have hc := S.cells; simp only [Cells, cellsC, Im, Row, El, RTH, TreeH, TR, AU, AL, OrNil, Many, MaO, FlatO, Nat.zero_add, Nat.reduceAdd] at hc
        go_wp2_with (first | ((first | (with_reducible refine wpl_seal S ?_) | (with_reducible refine cw_seal S ?_) | (with_reducible refine bp_seal S ?_) | (with_reducible refine ca_seal S ?_)); clear S; (try clear hc); intro w1 S; (try simp only [List.set_cons_zero, List.set_cons_succ, List.nil_append] at S); have hc := S.cells; simp only [Cells, cellsC, Im, Row, El, RTH, TreeH, TR, AU, AL, OrNil, Many, MaO, FlatO, Nat.zero_add, Nat.reduceAdd] at hc))
        go_ret2
        obtain ⟨gm, egm⟩ := S.name 0 rfl; rw [← egm] at S ⊢; clear egm
        have S1 : SH No I w (maM gm ga g L W (List.replicate p 0) [] 0 ++ [Im kII A own]) w1 J1 := by
          unfold maM
          rw [List.length_replicate, List.append_nil]
          exact (S.sel [0, 1, 2, 4] (by decide) rfl (by simp) : SH _ _ _ [_, _, _, _] _ _)
        have S2 := (S1.pack (maM _ ga g L W _ [] _) (L := [_])).asMa 0 rfl
        rw [← HL.out, ← HW.out]
        exact ⟨_, _, rfl, S2.sel [0] (by decide) rfl (by simp)⟩
end Go.Proofs.Ytpgphhkhjbhimaa
namespace Go.Proofs.Ytpgphhkhjbhimaa
open Go.RowKit X
set_option maxHeartbeats 1000000
set_option maxRecDepth 8000
set_option linter.unusedSimpArgs false
set_option linter.unusedVariables false
section
variable {L W : List (List Int)}
theorem ends_dpst (h : GoodR L W) (s : List Int) : endsR L W (dpst L s s.length) = endsL W s := by
  obtain ⟨j, e, hj⟩ := dpst_spec h (w := s) s.length (Nat.le_refl _)
  rw [e]
  unfold endsR
  rw [if_pos (by have := hj.lt; omega), Int.toNat_natCast]
  exact endsL_dp h hj
theorem next_dpst (h : GoodR L W) (s : List Int) (n : Int) : nextR L (dpst L s s.length) n = dpst L (s ++ [n]) (s ++ [n]).length := by
  rw [List.length_append]
  exact (dpst_snoc h).symm
theorem endsL_nil (h : NeW W) : endsL W [] = [] := by
  unfold endsL
  rw [List.map_eq_nil_iff, List.filter_eq_nil_iff]
  intro i hi
  rw [List.mem_range] at hi
  rw [decide_eq_true_eq]
  intro hs
  exact h i hi (List.suffix_nil.1 hs)
/-- the states, behind rows -/
def stT (L : List (List Int)) (told : List (List Int)) (n : Nat) : List Int := (List.range n).map fun x => dpst L (sinceL told x) (sinceL told x).length
/-- what ends, behind rows -/
def outT (W : List (List Int)) (told : List (List Int)) (n : Nat) : List (List Int) := (List.range n).map fun x => endsL W (sinceL told x)
theorem stT_len (told : List (List Int)) (n : Nat) : (stT L told n).length = n := by simp [stT]
theorem outT_len (told : List (List Int)) (n : Nat) : (outT W told n).length = n := by simp [outT]
theorem stT_at {told : List (List Int)} {n x : Nat} (h : x < (stT L told n).length) : (stT L told n)[x] = dpst L (sinceL told x) (sinceL told x).length := by simp [stT]
theorem outT_at {told : List (List Int)} {n x : Nat} (h : x < (outT W told n).length) : (outT W told n)[x] = endsL W (sinceL told x) := by simp [outT]
theorem stT_nil (n : Nat) : stT L [] n = List.replicate n 0 := by
  apply List.ext_getElem
  · simp [stT]
  · intro i h1 h2
    rw [stT_at, List.getElem_replicate]
    rfl
theorem stT_getD {told : List (List Int)} {n x : Nat} (h : x < n) : (stT L told n).getD x 0 = dpst L (sinceL told x) (sinceL told x).length := by
  rw [getD_at (by rw [stT_len]; exact h), stT_at]
theorem stepS_told (hG : GoodR L W) {told : List (List Int)} {n : Nat} {r : List Int} (hr : r.length = n) (hlow : ∀ y ∈ r, -1 ≤ y) : stepS L (stT L told n) r = stT L (told ++ [r]) n := by
  unfold stepS
  rw [stT_len]
  unfold stT
  refine List.map_congr_left fun x hx => ?_
  rw [List.mem_range] at hx
  have hxr : x < r.length := by omega
  have := stT_getD (L := L) (told := told) hx
  unfold stT at this
  rw [this, getD_at hxr, sinceL_snoc hxr]
  have h1 := hlow _ (List.getElem_mem hxr)
  unfold stepM
  by_cases hy : r[x] = -1
  · rw [if_pos hy, if_pos (by omega)]; rfl
  · rw [if_neg hy, if_neg (by omega)]; exact next_dpst hG _ _
theorem outS_told (hG : GoodR L W) (hN : NeW W) {told : List (List Int)} {n : Nat} {r : List Int} (hr : r.length = n) (hlow : ∀ y ∈ r, -1 ≤ y) : outS L W (stT L told n) r = outT W (told ++ [r]) n := by
  unfold outS outT
  rw [stT_len]
  refine List.map_congr_left fun x hx => ?_
  rw [List.mem_range] at hx
  have hxr : x < r.length := by omega
  rw [stT_getD hx, getD_at hxr, sinceL_snoc hxr]
  have h1 := hlow _ (List.getElem_mem hxr)
  unfold outM
  by_cases hy : r[x] = -1
  · rw [if_pos hy, if_pos (by omega), endsL_nil hN]
  · rw [if_neg hy, if_neg (by omega), next_dpst hG, ends_dpst hG]
end
theorem Told.snoc {told : List (List Int)} {r : List Int} {n : Nat} (h : Told told n) (hr : r.length = n) (hl : ∀ y ∈ r, -1 ≤ y ∧ y ≤ 9223372036854775807) : Told (told ++ [r]) n := fun x hx => by
  rcases List.mem_append.1 hx with hx | hx
  · exact h x hx
  · rw [List.mem_singleton.1 hx]; exact ⟨hr, hl⟩
theorem Told.nil {n : Nat} : Told [] n := fun x hx => by cases hx
theorem Told.rowZ {told : List (List Int)} {n : Nat} (h : Told told n) (l : List Int) : Told (told ++ [rowZ l n]) n := h.snoc (rowZ_len l n) fun y hy => by have := rowZ_mem hy; omega
/-- a machine of columns that was told rows -/
abbrev MaT (gm : Nat) (own told : List (List Int)) (n : Nat) : Ob := MaO gm (treeL own) own (stT (treeL own) told n) told.length
section
variable {F0 I0 F I : Fp} {w0 w w' : World} {O : List Ob} {L W own told : List (List Int)} {st r : List Int} {rows gm n : Nat}
theorem X.SH.maG (S : SH F0 I0 w0 O w I) (i : Nat) (e : O[i]? = some (MaO gm L W st rows)) : GoodR L W ∧ NeW W := by
  obtain ⟨F, hI, S1, -⟩ := S.call1 i e
  obtain ⟨ga, g, junk, S2⟩ := S1.openMa
  unfold maM at S2
  exact S2.auG 1 rfl
theorem cnew_t (S : SH F0 I0 w0 O w I) (own : List (List Int)) (p : Nat) (hp : p ≤ 4096) (A : Option Addr) (c : Nat) (hl : Sl kII w I A own) (hF : Few own) :
    Calls Try.prog 10 #[.slice A own.length c, .int .i64 p] w fun e w' => ∃ gm J, e = .returned (.tuple #[.pointer (some ⟨gm, 0, none⟩), .int .i64 0]) ∧ SH F0 I0 w0 (MaT gm own [] p :: O) w' J := by
  refine (cnew_ok own p hp A c w I S.bd hl hF).mono ?_
  rintro e w1 ⟨gm, J, rfl, S2⟩
  obtain ⟨J2, S3, -, -⟩ := S.comp S2
  rw [← stT_nil (L := treeL own)] at S3
  exact ⟨gm, J2, rfl, S3⟩
theorem crow_t (S : SH F0 I0 w0 O w I) (i : Nat) (e : O[i]? = some (MaT gm own told n)) (A : Option Addr) (c : Nat) (hx : Sl kI w I A r) (hr : r.length = n) (hlow : ∀ y ∈ r, -1 ≤ y ∧ y ≤ 9223372036854775807) (hn : n ≤ 5000) (hF : Few own) (ht : told.length ≤ 1000) :
    Calls Try.prog 11 #[.pointer (some ⟨gm, 0, none⟩), .slice A n c] w fun e w' => ∃ g2 J, e = .returned (.tuple #[.slice (some ⟨g2, 0, none⟩) n n, .int .i64 0]) ∧ SH F0 I0 w0 (Im kII (some ⟨g2, 0, none⟩) (outT own (told ++ [r]) n) :: O.set i (MaT gm own (told ++ [r]) n)) w' J := by
  obtain ⟨hG, hN⟩ := S.maG i e
  have hL := (treeL_small hF own.length (Nat.le_refl _)).1
  rw [List.take_length] at hL
  have hW := hF.len
  have h := crow_r S i e A c hx (by rw [stT_len]; exact hr) hlow (by rw [stT_len]; exact hn) (by omega) (by omega) (by omega)
  rw [stT_len, stepS_told hG hr fun y hy => (hlow y hy).1, outS_told hG hN hr fun y hy => (hlow y hy).1] at h
  refine h.mono ?_
  rintro e w1 ⟨g2, J, rfl, S3⟩
  refine ⟨g2, J, rfl, ?_⟩
  unfold MaT
  rw [List.length_append]
  exact S3
end
end Go.Proofs.Ytpgphhkhjbhimaa
namespace Go.Proofs.Ytpgphhkhjbhimaa
open Go.RowKit X
set_option maxHeartbeats 4000000
set_option maxRecDepth 8000
set_option linter.unusedSimpArgs false
set_option linter.unusedVariables false
theorem im_at {w : World} {D : Fp} {A : Option Addr} {xs : List (List Int)} (h : Sl kII w D A xs) (i : Nat) (x : List Int) (hi : xs[i]? = some x) : ∃ b o A' c', A = some ⟨b, o, none⟩ ∧ w.cell? ⟨b, o + i, none⟩ = some (.slice A' x.length c') ∧ x.length ≤ c' ∧ Sl kI w D A' x := by
  have hl : i < xs.length := by
    rcases Nat.lt_or_ge i xs.length with h | h
    · exact h
    · rw [List.getElem?_eq_none h] at hi; cases hi
  rw [List.getElem?_eq_getElem hl] at hi
  obtain ⟨b, o, A', c', e, h1, h2, h3⟩ := Sl.sl_at (k := kI) (ety := 30) h hl
  rw [Option.some.inj hi] at h1 h2 h3
  exact ⟨b, o, A', c', e, h1, h2, h3⟩
theorem lives17_c (w : World) (I : Fp) (hI : ∀ b, I b → b < w.heap.size) : Calls Try.prog 13 #[] w fun e w' => e = .returned (.bool true) ∧ Ext w w' := by
  have S := SH.start w I hI
  have HF : As (Few [[1, 2]]) := ⟨⟨by decide, by unfold Pos; decide⟩⟩
  have HO1 : As (outT [[1, 2]] ([] ++ [[1]]) 1 = [[]]) := ⟨by decide⟩
  have HO2 : As (outT [[1, 2]] ([[1]] ++ [[2]]) 1 = [[0]]) := ⟨by decide⟩
  have hm1 : True := trivial
  have hm2 : True := trivial
  have hc := S.cells; simp only [Cells, cellsC, Im, Row, El, RTH, TreeH, TR, AU, AL, OrNil, Many, MaO, FlatO, Nat.zero_add, Nat.reduceAdd] at hc
  go_enter Try.func13, Try.ntmps13
  go_wp2_with (first | ((first | (with_reducible refine wpl_seal S ?_) | (with_reducible refine cw_seal S ?_) | (with_reducible refine bp_seal S ?_) | (with_reducible refine ca_seal S ?_)); clear S; (try clear hc); intro w1 S; (try simp only [List.set_cons_zero, List.set_cons_succ, List.nil_append] at S); have hc := S.cells; simp only [Cells, cellsC, Im, Row, El, RTH, TreeH, TR, AU, AL, OrNil, Many, MaO, FlatO, Nat.zero_add, Nat.reduceAdd] at hc) | (go_at_call 10; obtain ⟨J1, S1, -⟩ := S.lit 1 rfl (k := kI) (xs := [1, 2]) (Flat.int.2 rfl); clear S; obtain ⟨J2, S, -⟩ := S1.lit 0 rfl (k := kII) (xs := [[1, 2]]) (Flat.single (cs := [_]) ⟨_, _, rfl, Nat.le_refl _, S1.im 1 rfl⟩); clear S1; simp only [List.set_cons_zero, List.set_cons_succ] at S; refine (cnew_t S [[1, 2]] 1 (by omega) _ 1 (S.im 0 rfl) HF.out).mono ?_; rintro e w1 ⟨gm, J, rfl, S2⟩; clear S hc; have S := S2; clear S2; have hc := S.cells; simp only [Cells, cellsC, Im, Row, El, RTH, TreeH, TR, AU, AL, OrNil, Many, MaO, FlatO, Nat.zero_add, Nat.reduceAdd] at hc) | (go_at_call 11; clear hm1; obtain ⟨J1, S1, -⟩ := S.lit 0 rfl (k := kI) (xs := [1]) (Flat.int.2 rfl); clear S hc; have S := S1; clear S1; simp only [List.set_cons_zero, List.set_cons_succ, List.nil_append] at S; refine (crow_t S 1 rfl _ 1 (S.im 0 rfl) rfl (by simp) (by omega) HF.out (by simp)).mono ?_; rw [HO1.out]; rintro e w1 ⟨g2, J, rfl, S2⟩; clear S; have S := S2; clear S2; simp only [List.set_cons_zero, List.set_cons_succ, List.nil_append] at S; have hc := S.cells; simp only [Cells, cellsC, Im, Row, El, RTH, TreeH, TR, AU, AL, OrNil, Many, MaO, FlatO, Nat.zero_add, Nat.reduceAdd] at hc) | (go_at_call 11; clear hm2; obtain ⟨J1, S1, -⟩ := S.lit 0 rfl (k := kI) (xs := [2]) (Flat.int.2 rfl); clear S hc; have S := S1; clear S1; simp only [List.set_cons_zero, List.set_cons_succ, List.nil_append] at S; refine (crow_t S 3 rfl _ 1 (S.im 0 rfl) rfl (by simp) (by omega) HF.out (by simp)).mono ?_; rw [HO2.out]; rintro e w1 ⟨g3, J, rfl, S2⟩; clear S; have S := S2; clear S2; simp only [List.set_cons_zero, List.set_cons_succ, List.nil_append] at S; obtain ⟨b9, o9, A11, c11, e11, hc0, -, -⟩ := im_at (S.im 2 rfl) 0 [] rfl; cases e11; obtain ⟨b8, o8, A12, c12, e12, hc1, -, hs1⟩ := im_at (S.im 0 rfl) 0 [0] rfl; cases e12; rw [Nat.add_zero] at hc0 hc1; replace S := S.know (h := Im kI A12 [0]) hs1; clear hs1; have hc := S.cells; simp only [Cells, cellsC, Im, Row, El, RTH, TreeH, TR, AU, AL, OrNil, Many, MaO, FlatO, Nat.zero_add, Nat.reduceAdd] at hc) | (go_at_call 15; obtain ⟨J7, S1, -⟩ := S.lit 0 rfl (k := kI) (xs := [0]) (Flat.int.2 rfl); clear S hc; have S := S1; clear S1; simp only [List.set_cons_zero, List.set_cons_succ, List.nil_append] at S; refine (sameI_c [0] [0] A12 _ c12 1 _ _ _ (S.im 1 rfl) (S.im 0 rfl) (by simp)).mono ?_; rintro e w1 ⟨rfl, hx⟩; have hx := hx.ext; clear hc0 hc1; replace S := S.ext hx; clear hx; (try clear hc); have hc := S.cells; simp only [Cells, cellsC, Im, Row, El, RTH, TreeH, TR, AU, AL, OrNil, Many, MaO, FlatO, Nat.zero_add, Nat.reduceAdd] at hc))
  go_ret
  exact ⟨ret_bool (by decide), S.out⟩
end Go.Proofs.Ytpgphhkhjbhimaa
