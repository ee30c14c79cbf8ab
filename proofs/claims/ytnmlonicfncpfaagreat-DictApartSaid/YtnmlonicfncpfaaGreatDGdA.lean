/- Pixels and formats made such as may be: the document's. Images made such as may be: the document's. Numbers and images of an argument: how they lie in memory. -/
import Derived.Test.YtnmlonicfncpfaaGreatDPix
import Derived.Test.YtnmlonicfncpfaaGreatMix2
import Derived.Test.YtnmlonicfncpfaaGreatDTrn
import Derived.Test.YtnmlonicfncpfaaGreatDOrb
import Derived.Test.YtnmlonicfncpfaaGreatDYLa
import Derived.Test.YtnmlonicfncpfaaGreatFork
namespace Go.Proofs.YtnmlonicfncpfaaGreat
open Go.RowKit X
set_option maxHeartbeats 4000000
set_option maxRecDepth 8000
set_option linter.unusedSimpArgs false
set_option linter.unusedVariables false
def Smp (x : Int) : Prop := 0 ≤ x ∧ x ≤ 65535
theorem in_ok (x : Int) (h : Smp x) (w : World) : Calls Tryz.prog 84 #[.int .i64 x] w fun e w' => e = .returned (.bool true) ∧ w' = w := by
  obtain ⟨h1, h2⟩ := h
  have h1' : decide (0 ≤ x) = true := decide_eq_true h1
  have h1'' : decide (x ≥ 0) = true := decide_eq_true h1
  have h2' : decide (x ≤ 65535) = true := decide_eq_true h2
  go_enter Tryz.func84, Tryz.ntmps84
  go_wp2
  go_ret
  exact ⟨rfl, rfl⟩
def packS (n x : Int) : Int := n * 65536 + x
def packP (l : List Int) : Int := l.foldl packS 0 + l.length * 281474976710656
theorem packS_lt {n x : Int} {m : Nat} (h : 0 ≤ n ∧ n < (65536 : Int) ^ m) (hx : Smp x) : 0 ≤ packS n x ∧ packS n x < (65536 : Int) ^ (m + 1) := by
  unfold packS
  obtain ⟨h1, h2⟩ := hx
  rw [Int.pow_succ]
  generalize (65536 : Int) ^ m = q at h ⊢
  omega
theorem pack_lt : ∀ (l : List Int), (∀ x ∈ l, Smp x) → ∀ k, 0 ≤ (l.take k).foldl packS 0 ∧ (l.take k).foldl packS 0 < (65536 : Int) ^ (min k l.length) := by
  intro l hl k
  have key : ∀ (l : List Int) (n : Int) (m : Nat), (∀ x ∈ l, Smp x) → 0 ≤ n ∧ n < (65536 : Int) ^ m → 0 ≤ l.foldl packS n ∧ l.foldl packS n < (65536 : Int) ^ (m + l.length) := by
    intro l
    induction l with
    | nil => intro n m _ h; exact h
    | cons x r ih =>
      intro n m hx h
      have := ih (packS n x) (m + 1) (fun y hy => hx y (List.mem_cons_of_mem _ hy)) (packS_lt h (hx x List.mem_cons_self))
      rw [List.foldl_cons, List.length_cons, show m + (r.length + 1) = m + 1 + r.length by omega]
      exact this
  have := key (l.take k) 0 0 (fun x hx => hl x (List.mem_of_mem_take hx)) (by decide)
  rwa [Nat.zero_add, List.length_take] at this
theorem pack_c (l : List Int) (h3 : l.length = 1 ∨ l.length = 3) (hl : ∀ x ∈ l, Smp x) (A : Option Addr) (n : Nat) (w : World) (I : Fp) (hI : ∀ b, I b → b < w.heap.size) (hx : Sl kI w I A l) {p : Int} (hp : packP l = p) :
    Calls Tryz.prog 67 #[.slice A l.length n] w fun e w' => e = .returned (.tuple #[.int .u64 p, .int .i64 0]) ∧ Ext w w' := by
  have S := (SH.start w I hI).know (h := Im kI A l) hx
  have HL := As.mk hl
  have HB := As.mk (pack_lt l hl)
  have HP := As.mk hp
  have hle : l.length ≤ 3 := by omega
  obtain ⟨q, hq⟩ : ∃ q, ((l.length : Int) != 1) = q := ⟨_, rfl⟩
  have hq3 : ((l.length : Int) != 3) = !q := by rcases h3 with h | h <;> (rw [h] at hq ⊢; rw [← hq]; rfl)
  clear hl hx hp
  have hc := S.cells; simp only [Cells, cellsC, Im, Row, El, Nat.zero_add, Nat.reduceAdd] at hc
  have key : ∀ w' : World, True := fun _ => trivial
  rcases q with _ | _ <;> simp only [Bool.not_false, Bool.not_true] at hq3
  all_goals
    go_enter Tryz.func67, Tryz.ntmps67
    go_wp2_with (first | ((first | (with_reducible refine wpl_seal S ?_) | (with_reducible refine cw_seal S ?_) | (with_reducible refine bp_seal S ?_) | (with_reducible refine ca_seal S ?_)); clear S; (try clear hc); intro w1 S; (try simp only [List.set_cons_zero, List.set_cons_succ, List.nil_append] at S); have hc := S.cells; simp only [Cells, cellsC, Im, Row, El, Nat.zero_add, Nat.reduceAdd] at hc))
    clear hc
    go_loopw [4, 5] (fun nv iv w' => ∃ (k : Nat) (s : Int) (J : Fp), iv = .int .i64 k ∧ k ≤ l.length ∧ nv = .int .i64 s ∧ As ((l.take k).foldl packS 0 = s) ∧ As (SH No I w [Im kI A l] w' J)) (fun _ iv _ => l.length - (intOf iv).toNat)
    case atStart => exact ⟨0, 0, _, rfl, by omega, rfl, ⟨rfl⟩, ⟨S⟩⟩
    case round =>
      clear S
      obtain ⟨k, s, J, rfl, hk, rfl, HS, ⟨S⟩⟩ := hrel
      have hb := HB.out k
      rw [HS.out] at hb
      by_cases hlt : k < l.length
      · have hlt' : decide ((k : Int) < l.length) = true := decide_eq_true (by omega)
        have HN := As.mk (show (l.take (k + 1)).foldl packS 0 = packS s l[k] by rw [List.take_succ_eq_append_getElem hlt, List.foldl_append, HS.out]; rfl)
        have HX := HL.out _ (List.getElem_mem hlt)
        have hb2 := HB.out (k + 1)
        rw [HN.out] at hb2
        obtain ⟨b, o, rfl, hck⟩ := (S.im 0 rfl).num_at (List.getElem?_eq_getElem hlt)
        generalize l[k] = x at HN HX hck hb2
        have hs2 : 0 ≤ s ∧ s ≤ 4294967296 := by
          refine ⟨hb.1, ?_⟩
          have hm : min k l.length = 0 ∨ min k l.length = 1 ∨ min k l.length = 2 := by omega
          rcases hm with hm | hm | hm <;> (rw [hm] at hb; have := hb.2; simp only [Int.reducePow] at this; omega)
        have HIN := As.mk (fun w => in_ok x HX w)
        have hpk : s * 65536 + x = packS s x := rfl
        obtain ⟨hx1, hx2⟩ := HX
        obtain ⟨hs3, hs4⟩ := hs2
        have hw1 : IntKind.i64.wrap (s * 65536) = s * 65536 := by rw [IntKind.wrap_i64]; omega
        have hw2 : IntKind.i64.wrap (s * 65536 + x) = s * 65536 + x := by rw [IntKind.wrap_i64]; omega
        clear hb hb2 hpk
        have hc := S.cells; simp only [Cells, cellsC, Im, Row, El, Nat.zero_add, Nat.reduceAdd] at hc
        go_wp2_with (first | ((first | (with_reducible refine wpl_seal S ?_) | (with_reducible refine cw_seal S ?_) | (with_reducible refine bp_seal S ?_) | (with_reducible refine ca_seal S ?_)); clear S; (try clear hc); intro w1 S; (try simp only [List.set_cons_zero, List.set_cons_succ, List.nil_append] at S); have hc := S.cells; simp only [Cells, cellsC, Im, Row, El, Nat.zero_add, Nat.reduceAdd] at hc) | (go_at_call 84; refine (HIN.out _).mono ?_; rintro e w1 ⟨rfl, rfl⟩))
        go_roundw
        case rel => exact ⟨k + 1, packS s x, J, by go_num, by omega, by first | rfl | (unfold packS; go_num), HN, ⟨S⟩⟩
        case measure => simp [intOf]; omega
      · have hlt' : decide ((k : Int) < l.length) = false := decide_eq_false (by omega)
        obtain rfl : k = l.length := by omega
        have HF : As (s + l.length * 281474976710656 = p) := ⟨by rw [← HP.out, ← HS.out, List.take_length]; rfl⟩
        have hs2 : 0 ≤ s ∧ s < 281474976710656 := by
          refine ⟨hb.1, ?_⟩
          rcases h3 with h | h <;> (rw [h] at hb; have := hb.2; simp only [Nat.min_self, Int.reducePow] at this; omega)
        clear hb
        obtain ⟨hs3, hs4⟩ := hs2
        have hc := S.cells; simp only [Cells, cellsC, Im, Row, El, Nat.zero_add, Nat.reduceAdd] at hc
        go_wp2_with (first | ((first | (with_reducible refine wpl_seal S ?_) | (with_reducible refine cw_seal S ?_) | (with_reducible refine bp_seal S ?_) | (with_reducible refine ca_seal S ?_)); clear S; (try clear hc); intro w1 S; (try simp only [List.set_cons_zero, List.set_cons_succ, List.nil_append] at S); have hc := S.cells; simp only [Cells, cellsC, Im, Row, El, Nat.zero_add, Nat.reduceAdd] at hc))
        refine bodyPost_ret (results_tmp2 rfl _ _ _) rfl ?_
        refine ⟨?_, S.out⟩
        rw [← HF.out]
        rfl
theorem unpack_pack {l : List Int} (h3 : l.length = 1 ∨ l.length = 3) (hl : ∀ x ∈ l, Smp x) : unpackL (packP l) = l ∧ U64 (packP l) := by
  rcases h3 with h | h
  · obtain ⟨a, rfl⟩ := List.length_eq_one_iff.1 h
    obtain ⟨h1, h2⟩ := hl a (by simp)
    have e : packP [a] = a + 281474976710656 := by simp [packP, packS]
    rw [e]
    unfold unpackL U64
    have q1 : (a + 281474976710656) / 281474976710656 = 1 := by omega
    have q2 : (a + 281474976710656) / 4294967296 % 65536 = 0 := by omega
    have q3 : (a + 281474976710656) / 65536 % 65536 = 0 := by omega
    have q4 : (a + 281474976710656) % 65536 = a := by omega
    rw [q1, q2, q3, q4]
    exact ⟨rfl, by omega⟩
  · obtain ⟨a, b, c, rfl⟩ : ∃ a b c, l = [a, b, c] := by
      rcases l with _ | ⟨a, _ | ⟨b, _ | ⟨c, _ | ⟨d, r⟩⟩⟩⟩ <;> simp at h
      exact ⟨a, b, c, rfl⟩
    obtain ⟨h1, h2⟩ := hl a (by simp)
    obtain ⟨h3, h4⟩ := hl b (by simp)
    obtain ⟨h5, h6⟩ := hl c (by simp)
    have e : packP [a, b, c] = (a * 65536 + b) * 65536 + c + 844424930131968 := by simp [packP, packS]
    rw [e]
    unfold unpackL U64
    obtain ⟨n, hn⟩ : ∃ n, (a * 65536 + b) * 65536 + c + 844424930131968 = n := ⟨_, rfl⟩
    rw [hn]
    have q1 : n / 281474976710656 = 3 := by omega
    have q2 : n / 4294967296 % 65536 = a := by omega
    have q3 : n / 65536 % 65536 = b := by omega
    have q4 : n % 65536 = c := by omega
    rw [q1, q2, q3, q4]
    exact ⟨rfl, by omega⟩
theorem maxOf_le : ∀ (l : List Int) (m : Int), 0 < l.length → (∀ x ∈ l, x ≤ m) → Lib.maxOf l ≤ m := by
  intro l m h0 h
  have key : ∀ (l : List Int) (a : Int), a ≤ m → (∀ x ∈ l, x ≤ m) → l.foldl max a ≤ m := by
    intro l
    induction l with
    | nil => intro a h _; exact h
    | cons x r ih =>
      intro a ha hx
      rw [List.foldl_cons]
      exact ih _ (Int.max_le.2 ⟨ha, hx x List.mem_cons_self⟩) fun y hy => hx y (List.mem_cons_of_mem _ hy)
  unfold Lib.maxOf
  refine key l _ ?_ h
  rcases l with _ | ⟨x, r⟩
  · cases h0
  · exact h x List.mem_cons_self
def goodPx (l : List Int) (c : Nat) (m : Int) : Int := packP ((List.range c).map fun i => aroundI (l.getD i 0) (m + 1))
theorem goodPx_fits {l : List Int} {c : Nat} {m : Int} (hf : formP c m = true) : fitsP (goodPx l c m) c m = true ∧ U64 (goodPx l c m) := by
  obtain ⟨h1, h2, h3⟩ := formP_iff.1 hf
  have hc : c = 1 ∨ c = 3 := by omega
  have hx : ∀ x ∈ (List.range c).map (fun i => aroundI (l.getD i 0) (m + 1)), 0 ≤ x ∧ x ≤ m := by
    intro x hx
    obtain ⟨i, -, rfl⟩ := List.mem_map.1 hx
    have := aroundI_range (n := l.getD i 0) (m := m + 1) (by omega)
    omega
  have hlen : ((List.range c).map (fun i => aroundI (l.getD i 0) (m + 1))).length = c := by simp
  obtain ⟨e1, e2⟩ := unpack_pack (l := (List.range c).map (fun i => aroundI (l.getD i 0) (m + 1))) (by rw [hlen]; exact hc) (fun x h => by have := hx x h; exact ⟨this.1, by omega⟩)
  refine ⟨?_, e2⟩
  unfold fitsP goodPx
  rw [e1, hf, hlen, Bool.true_and, Bool.and_eq_true]
  exact ⟨decide_eq_true rfl, decide_eq_true (maxOf_le _ _ (by rw [hlen]; omega) fun x h => (hx x h).2)⟩
theorem ygoodp_c (l : List Int) (c : Nat) (m : Int) (hf : formP c m = true) (hl3 : l.length = 3) (hi : ∀ x ∈ l, I64 x) (A : Option Addr) (n : Nat) (w : World) (I : Fp) (hI : ∀ b, I b → b < w.heap.size) (hx : Sl kI w I A l) :
    Calls Tryz.prog 46 #[.slice A 3 n, .agg #[.int .i64 c, .int .i64 m]] w fun e w' => e = .returned (.int .u64 (goodPx l c m)) ∧ Ext w w' := by
  have S := (SH.start w I hI).know (h := Im kI A l) hx
  obtain ⟨h1, hm1, hm2⟩ := formP_iff.1 hf
  have hcc : c = 1 ∨ c = 3 := by omega
  have HI := As.mk hi
  have HF := As.mk hf
  obtain ⟨f, hfe⟩ : ∃ f : Nat → Int, (fun i => aroundI (l.getD i 0) (m + 1)) = f := ⟨_, rfl⟩
  have HFE := As.mk (fun (i : Nat) (h : i < l.length) => show f i = aroundI l[i] (m + 1) by rw [← hfe]; show aroundI (l.getD i 0) (m + 1) = _; rw [List.getD_eq_getElem?_getD, List.getElem?_eq_getElem h]; rfl)
  have HSM : As (∀ x ∈ (List.range c).map f, Smp x) := ⟨fun x hx => by
    obtain ⟨i, -, rfl⟩ := List.mem_map.1 hx
    rw [← hfe]
    have := aroundI_range (n := l.getD i 0) (m := m + 1) (by omega)
    exact ⟨this.1, by show aroundI _ _ ≤ _; omega⟩⟩
  have HG : As (packP ((List.range c).map f) = goodPx l c m) := ⟨by rw [← hfe]; rfl⟩
  have HL3 := As.mk hl3
  obtain ⟨gp, hgp⟩ : ∃ gp, goodPx l c m = gp := ⟨_, rfl⟩
  rw [hgp] at HG ⊢
  have hc3 : c ≤ 3 := by omega
  clear hx hi hf hfe hgp h1
  have hc := S.cells; simp only [Cells, cellsC, Im, Row, El, Nat.zero_add, Nat.reduceAdd] at hc
  go_enter Tryz.func46, Tryz.ntmps46
  go_wp2_with (first | ((first | (with_reducible refine wpl_seal S ?_) | (with_reducible refine cw_seal S ?_) | (with_reducible refine bp_seal S ?_) | (with_reducible refine ca_seal S ?_)); clear S; (try clear hc); intro w1 S; (try simp only [List.set_cons_zero, List.set_cons_succ, List.nil_append] at S); have hc := S.cells; simp only [Cells, cellsC, Im, Row, El, Nat.zero_add, Nat.reduceAdd] at hc) | (at_make; refine wpl_make (k := kI) S rfl _ _ rfl (z := .int .i64 0) (bytes := 8) (size := 1) Tryz.underlying41 (by kernel_rfl) rfl (by omega) .i64 .i64 c rfl rfl (by omega) 0 (fun _ => rfl) (by omega) ?_; clear S hc; intro g w1 S; have hc := S.cells; simp only [Cells, cellsC, Im, Row, El, Nat.zero_add, Nat.reduceAdd] at hc))
  obtain ⟨cs, hf, S1⟩ := S.rowCel 0 (xs := List.replicate c (0 : Int)) (by rw [List.length_replicate]; rfl)
  obtain rfl := Flat.int.1 hf
  clear S hc hf
  have S := S1
  clear S1
  simp only [List.set_cons_zero, List.set_cons_succ, List.nil_append] at S
  rw [upK_none (f := f)] at S
  obtain ⟨gf, egf⟩ := S.name 1 rfl; rw [← egf] at S ⊢; clear egf
  go_loopw [6] (fun iv w' => ∃ (k : Nat) (J : Fp), iv = .int .i64 k ∧ k ≤ c ∧ As (SH No I w [Cel g 3 ((upK c f (fun _ => 0) k).map (Value.int .i64)), Cel gf 31 [.int .i64 c, .int .i64 m], Im kI A l] w' J)) (fun iv _ => c - (intOf iv).toNat)
  case atStart => exact ⟨0, _, rfl, by omega, ⟨S⟩⟩
  case round =>
    clear S
    obtain ⟨k, J, rfl, hk, ⟨S⟩⟩ := hrel
    by_cases hlt : k < c
    · have hlt' : decide ((k : Int) < c) = true := decide_eq_true (by omega)
      have hk3' : decide ((k : Int) < 3) = true := decide_eq_true (by omega)
      have hkl : k < l.length := by omega
      have hln : k < (upK c f (fun _ => 0) k).length := by rw [upK_len]; exact hlt
      have hcy := S.cell 0 k rfl (u := .int .i64 (upK c f (fun _ => 0) k)[k]) (by rw [List.getElem?_map, List.getElem?_eq_getElem hln]; rfl)
      generalize (upK c f (fun _ => 0) k)[k] = y0 at hcy
      obtain ⟨b, o, rfl, hck⟩ := (S.im 2 rfl).num_at (List.getElem?_eq_getElem hkl)
      have HXI := As.mk (HI.out _ (List.getElem_mem hkl))
      have HA := As.mk (HFE.out k hkl)
      generalize l[k] = x at hck HXI HA
      have p1 := ClE.cell (w := wr.drew) hck
      have HAR := As.mk (fun w => around_c x (m + 1) w HXI.out (by omega) (by omega))
      rw [← HA.out] at HAR
      have hw1 : IntKind.i64.wrap (m + 1) = m + 1 := by rw [IntKind.wrap_i64]; omega
      clear hcy
      have hc := S.cells; simp only [Cells, cellsC, Im, Row, El, Nat.zero_add, Nat.reduceAdd] at hc
      have hq := S.cellsE; simp only [CellsE, cellsE, Im, Row, El, Nat.zero_add, Nat.reduceAdd] at hq
      go_wp2_with (first | ((first | (with_reducible refine wpl_seal S ?_) | (with_reducible refine cw_seal S ?_) | (with_reducible refine bp_seal S ?_) | (with_reducible refine ca_seal S ?_)); clear S; (try clear hc); intro w1 S; (try simp only [List.set_cons_zero, List.set_cons_succ, List.nil_append] at S); have hc := S.cells; simp only [Cells, cellsC, Im, Row, El, Nat.zero_add, Nat.reduceAdd] at hc))
      refine wp_region_ext [⟨[2, 3, 4, 5, 6, 7, 8], [0, 1], 9, false⟩, ⟨[10], [], 11, false⟩] [] (by kernel_rfl) (by kernel_rfl) ?_
      refine mix_cons rfl rfl rfl ?_
      simp only [opsAt, List.getD_cons_succ, List.getD_cons_zero]
      repeat (go_big_quiet_step ((intro hC; first | rfl | (go_simp; first | done | rfl))))
      refine wpQuiet_nil ?_
      repeat (go_big_quiet_step ((intro hC; first | rfl | (go_simp; first | done | rfl))))
      refine wpQuiet_nil ?_
      clear hc hq p1 hck
      replace S := S.drew
      generalize wr.drew = w2 at S ⊢
      have hcy := S.cell 0 k rfl (u := .int .i64 (upK c f (fun _ => 0) k)[k]) (by rw [List.getElem?_map, List.getElem?_eq_getElem hln]; rfl)
      have hfz := S.nfz 0 k rfl
      have hc := S.cells; simp only [Cells, cellsC, Im, Row, El, Nat.zero_add, Nat.reduceAdd] at hc
      go_wp2_with (first | ((first | (with_reducible refine mx_seal S ?_) | (with_reducible refine wpl_seal S ?_) | (with_reducible refine ca_seal S ?_)); clear S; (try clear hc); intro w1 S; (try simp only [List.set_cons_zero, List.set_cons_succ, List.nil_append] at S); have hc := S.cells; simp only [Cells, cellsC, Im, Row, El, Nat.zero_add, Nat.reduceAdd] at hc) | (go_at_call 14; refine (HAR.out _).mono ?_; rintro e w1 ⟨rfl, rfl⟩))
      refine ⟨fun _ => Ext.refl _, ?_⟩
      refine mix_cons rfl rfl rfl ?_
      simp only [opsAt, List.getD_cons_succ, List.getD_cons_zero]
      repeat (go_big_quiet_step ((intro hC; first | rfl | (go_simp; first | done | rfl))))
      refine wpQuiet_nil ?_
      repeat (go_big_quiet_step ((intro hC; first | rfl | (go_simp; first | done | rfl))))
      refine wpQuiet_nil ?_
      go_wp2_with (first | ((first | (with_reducible refine mx_seal S ?_) | (with_reducible refine wpl_seal S ?_) | (with_reducible refine ca_seal S ?_)); clear S; (try clear hc); intro w1 S; (try simp only [List.set_cons_zero, List.set_cons_succ, List.nil_append] at S); have hc := S.cells; simp only [Cells, cellsC, Im, Row, El, Nat.zero_add, Nat.reduceAdd] at hc))
      (first | refine ⟨(fun h => by cases h), ?_⟩ | skip); (first | ((first | (with_reducible refine mx_seal S ?_)); clear S; (try clear hc); intro w1 S; (try simp only [List.set_cons_zero, List.set_cons_succ, List.nil_append] at S); have hc := S.cells; simp only [Cells, cellsC, Im, Row, El, Nat.zero_add, Nat.reduceAdd] at hc) | skip); (try simp only [Act.put, List.setIfInBounds_toArray, List.set_cons_succ, List.set_cons_zero])
      refine mix_last rfl ?_
      simp only [opsAt, List.getD_cons_succ, List.getD_cons_zero]
      repeat (go_big_quiet_step ((intro hC; first | rfl | (go_simp; first | done | rfl))))
      refine wpQuiet_nil ?_
      simp only [calmQ]
      go_wp2_with (first | ((first | (with_reducible refine wpl_seal S ?_) | (with_reducible refine cw_seal S ?_) | (with_reducible refine bp_seal S ?_) | (with_reducible refine ca_seal S ?_)); clear S; (try clear hc); intro w1 S; (try simp only [List.set_cons_zero, List.set_cons_succ, List.nil_append] at S); have hc := S.cells; simp only [Cells, cellsC, Im, Row, El, Nat.zero_add, Nat.reduceAdd] at hc))
      rw [← List.map_set, upK_set] at S
      go_roundw
      case rel => exact ⟨k + 1, _, by go_num, by omega, ⟨S⟩⟩
      case measure => simp [intOf]; omega
    · have hlt' : decide ((k : Int) < c) = false := decide_eq_false (by omega)
      obtain rfl : k = c := by omega
      rw [upK_all] at S
      obtain ⟨fl, hfl⟩ : ∃ fl, (List.range k).map f = fl := ⟨_, rfl⟩
      have hfn : fl.length = k := by rw [← hfl, List.length_map, List.length_range]
      rw [hfl] at S HG HSM
      obtain ⟨J2, S2, -⟩ := S.lit 0 rfl (k := kI) (xs := fl) (Flat.int.2 rfl)
      clear S
      have S := S2
      clear S2
      simp only [List.set_cons_zero, List.set_cons_succ, List.nil_append] at S
      have hfn2 := hfn
      clear hfl
      have hc := S.cells; simp only [Cells, cellsC, Im, Row, El, Nat.zero_add, Nat.reduceAdd] at hc
      go_wp2_with (first | ((first | (with_reducible refine wpl_seal S ?_) | (with_reducible refine cw_seal S ?_) | (with_reducible refine bp_seal S ?_) | (with_reducible refine ca_seal S ?_)); clear S; (try clear hc); intro w1 S; (try simp only [List.set_cons_zero, List.set_cons_succ, List.nil_append] at S); have hc := S.cells; simp only [Cells, cellsC, Im, Row, El, Nat.zero_add, Nat.reduceAdd] at hc) | (go_at_call 67; rw [← hfn]; refine (pack_c fl (by omega) HSM.out _ _ _ _ S.bd (S.im 0 rfl) HG.out).mono ?_; rintro e w1 ⟨rfl, hx⟩; replace S := S.ext hx; clear hx; (try clear hc); have hc := S.cells; simp only [Cells, cellsC, Im, Row, El, Nat.zero_add, Nat.reduceAdd] at hc))
      go_ret
      exact ⟨rfl, S.out⟩
end Go.Proofs.YtnmlonicfncpfaaGreat
namespace Go.Proofs.YtnmlonicfncpfaaGreat.X
open Go.RowKit
/-- what an image is made of -/
structure Rg where
  three : Bool
  mv : Int
  w : Int
  h : Int
  l : List Int
deriving Inhabited
structure Rg.ok (x : Rg) : Prop where
  mv : I64 x.mv
  w : I64 x.w
  h : I64 x.h
  l : ∀ y ∈ x.l, I64 y
end Go.Proofs.YtnmlonicfncpfaaGreat.X
namespace Go.Proofs.YtnmlonicfncpfaaGreat
open Go.RowKit X
set_option maxHeartbeats 4000000
set_option maxRecDepth 8000
set_option linter.unusedSimpArgs false
set_option linter.unusedVariables false
abbrev rgV (x : Rg) (A : Option Addr) (n : Nat) : Value := .agg #[.bool x.three, .int .i64 x.mv, .int .i64 x.w, .int .i64 x.h, .slice A x.l.length n]
def formC (x : Rg) : Nat := if x.three then 3 else 1
def formM (x : Rg) : Int := if 0 ≤ x.mv ∧ x.mv < 5 then [1, 1, 2, 255, 300].getD x.mv.toNat 0 else 1 + aroundI x.mv 65535
theorem form_ok (x : Rg) : formP (formC x) (formM x) = true := by
  refine formP_iff.2 ⟨?_, ?_⟩
  · unfold formC; split <;> simp
  · unfold formM
    split
    · rename_i h
      obtain ⟨k, hk⟩ : ∃ k : Nat, x.mv = k := ⟨x.mv.toNat, by omega⟩
      rw [hk, Int.toNat_natCast]
      have : k < 5 := by omega
      obtain rfl | rfl | rfl | rfl | rfl : k = 0 ∨ k = 1 ∨ k = 2 ∨ k = 3 ∨ k = 4 := by omega
      all_goals simp
    · have := aroundI_range (n := x.mv) (m := 65535) (by decide)
      omega
theorem yform_c (x : Rg) (hx : x.ok) (A : Option Addr) (n : Nat) (w : World) (I : Fp) (hI : ∀ b, I b → b < w.heap.size) {c : Nat} {m : Int} (hc : formC x = c) (hm : formM x = m) :
    Calls Tryz.prog 45 #[rgV x A n] w fun e w' => e = .returned (.agg #[.int .i64 c, .int .i64 m]) ∧ Ext w w' := by
  have S := SH.start w I hI
  obtain ⟨b, mv, xw, xh, l⟩ := x
  obtain ⟨hmv, -, -, -⟩ := hx
  have HA := As.mk (fun w => around_c mv 65535 w hmv (by decide) (by decide))
  obtain ⟨ar1, ar2⟩ := aroundI_range (n := mv) (m := 65535) (by decide)
  have HM := As.mk hm
  unfold formM at HM
  dsimp only at *
  obtain ⟨ar, har⟩ : ∃ ar, aroundI mv 65535 = ar := ⟨_, rfl⟩
  rw [har] at HA HM ar1 ar2
  have HC : As ((.int .i64 (if b then 3 else 1) : Value) = .int .i64 c) := ⟨by rw [← hc]; unfold formC; cases b <;> rfl⟩
  have hw1 : IntKind.i64.wrap (1 + ar) = 1 + ar := by rw [IntKind.wrap_i64]; omega
  clear hm hc har hmv
  by_cases h05 : 0 ≤ mv ∧ mv < 5
  · have HM2 := As.mk ((if_pos h05).symm.trans HM.out)
    clear HM
    obtain rfl | rfl | rfl | rfl | rfl : mv = 0 ∨ mv = 1 ∨ mv = 2 ∨ mv = 3 ∨ mv = 4 := by omega
    all_goals
      obtain rfl := HM2.out
      clear HM2
      have hc := S.cells; simp only [Cells, cellsC, Im, Row, El, Im, Nat.zero_add, Nat.reduceAdd] at hc
      cases b
      all_goals
        go_enter Tryz.func45, Tryz.ntmps45
        go_wp2_with (first | ((first | (with_reducible refine wpl_seal S ?_) | (with_reducible refine cw_seal S ?_) | (with_reducible refine bp_seal S ?_) | (with_reducible refine ca_seal S ?_)); clear S; (try clear hc); intro w1 S; (try simp only [List.set_cons_zero, List.set_cons_succ, List.nil_append] at S); have hc := S.cells; simp only [Cells, cellsC, Im, Row, El, Im, Nat.zero_add, Nat.reduceAdd] at hc) | (go_at_call 14; refine (HA.out _).mono ?_; rintro e w1 ⟨rfl, rfl⟩))
        refine bodyPost_ret (results_cell_row rfl _ _ _ 31 _ (0, 0) _ rfl (S.cel 2 rfl) Tryz.underlying31 rfl (by kernel_rfl)) rfl ?_
        exact ⟨by rw [← HC.out]; rfl, S.out⟩
  · have HM2 := As.mk ((if_neg h05).symm.trans HM.out)
    obtain rfl := HM2.out
    clear HM HM2
    by_cases h0 : 0 ≤ mv
    · have h0' : decide (mv ≥ 0) = true := decide_eq_true h0
      have h5' : decide (mv < 5) = false := decide_eq_false (fun h => h05 ⟨h0, h⟩)
      have hc := S.cells; simp only [Cells, cellsC, Im, Row, El, Im, Nat.zero_add, Nat.reduceAdd] at hc
      clear h0 h05
      cases b
      all_goals
        go_enter Tryz.func45, Tryz.ntmps45
        go_wp2_with (first | ((first | (with_reducible refine wpl_seal S ?_) | (with_reducible refine cw_seal S ?_) | (with_reducible refine bp_seal S ?_) | (with_reducible refine ca_seal S ?_)); clear S; (try clear hc); intro w1 S; (try simp only [List.set_cons_zero, List.set_cons_succ, List.nil_append] at S); have hc := S.cells; simp only [Cells, cellsC, Im, Row, El, Im, Nat.zero_add, Nat.reduceAdd] at hc) | (go_at_call 14; refine (HA.out _).mono ?_; rintro e w1 ⟨rfl, rfl⟩))
        refine bodyPost_ret (results_cell_row rfl _ _ _ 31 _ (0, 0) _ rfl (S.cel 2 rfl) Tryz.underlying31 rfl (by kernel_rfl)) rfl ?_
        exact ⟨by rw [← HC.out]; rfl, S.out⟩
    · have h0' : decide (mv ≥ 0) = false := decide_eq_false h0
      have hc := S.cells; simp only [Cells, cellsC, Im, Row, El, Im, Nat.zero_add, Nat.reduceAdd] at hc
      clear h0 h05
      cases b
      all_goals
        go_enter Tryz.func45, Tryz.ntmps45
        go_wp2_with (first | ((first | (with_reducible refine wpl_seal S ?_) | (with_reducible refine cw_seal S ?_) | (with_reducible refine bp_seal S ?_) | (with_reducible refine ca_seal S ?_)); clear S; (try clear hc); intro w1 S; (try simp only [List.set_cons_zero, List.set_cons_succ, List.nil_append] at S); have hc := S.cells; simp only [Cells, cellsC, Im, Row, El, Im, Nat.zero_add, Nat.reduceAdd] at hc) | (go_at_call 14; refine (HA.out _).mono ?_; rintro e w1 ⟨rfl, rfl⟩))
        refine bodyPost_ret (results_cell_row rfl _ _ _ 31 _ (0, 0) _ rfl (S.cel 2 rfl) Tryz.underlying31 rfl (by kernel_rfl)) rfl ?_
        exact ⟨by rw [← HC.out]; rfl, S.out⟩
end Go.Proofs.YtnmlonicfncpfaaGreat
namespace Go.Proofs.YtnmlonicfncpfaaGreat.X
open Go.RowKit
/-- an int, of an argument -/
def Kd.io (ety : TypeId) : Kd Int where
  ety := ety
  size := 1
  rel := fun _ _ x cs => cs = [.int .i64 x] ∧ I64 x
  keep := fun h _ => h
  weak := fun h _ => h
  len := fun h => by obtain ⟨h, _⟩ := h; subst h; rfl
  one := fun h => by obtain ⟨h, _⟩ := h; subst h; simp [Value.oneCell']
theorem Sl.io {ety : TypeId} {w : World} {D : Nat → Prop} {A : Option Addr} {xs : List Int} (h : Sl (Kd.io ety) w D A xs) (ety' : TypeId) : Sl (Kd.int ety' .i64) w D A xs ∧ ∀ x ∈ xs, I64 x := by
  refine ⟨fun i hi => ?_, fun x hx => ?_⟩
  · obtain ⟨b, o, cs, e, hb, hd, hr, hl, hc⟩ := h i hi
    exact ⟨b, o, cs, e, hb, hd, hr.1, hl, hc⟩
  · obtain ⟨i, hi, rfl⟩ := List.mem_iff_getElem.1 hx
    obtain ⟨b, o, cs, e, hb, hd, hr, hl, hc⟩ := h i hi
    exact hr.2
/-- what an image is made of -/
def Kd.rg (ety ti : TypeId) : Kd Rg where
  ety := ety
  size := 5
  rel := fun w D x cs => ∃ A c, cs = [.bool x.three, .int .i64 x.mv, .int .i64 x.w, .int .i64 x.h, .slice A x.l.length c] ∧ (x.l.length ≤ c ∧ Sl (Kd.io ti) w D A x.l) ∧ I64 x.mv ∧ I64 x.w ∧ I64 x.h
  keep := fun ⟨A, c, e, ⟨l, h⟩, r⟩ hk => ⟨A, c, e, ⟨l, h.keep hk⟩, r⟩
  weak := fun ⟨A, c, e, ⟨l, h⟩, r⟩ hk => ⟨A, c, e, ⟨l, h.weak hk⟩, r⟩
  len := fun ⟨_, _, e, _⟩ => by subst e; rfl
  one := fun ⟨_, _, e, _⟩ => by subst e; simp [Value.oneCell']
end Go.Proofs.YtnmlonicfncpfaaGreat.X
