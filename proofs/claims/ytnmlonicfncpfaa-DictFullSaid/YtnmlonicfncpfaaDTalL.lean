/- DictTall: the law's walk. -/
import Derived.Test.YtnmlonicfncpfaaDTal
import Derived.Test.YtnmlonicfncpfaaDLiv
import Derived.Test.YtnmlonicfncpfaaCutX
namespace Go.Proofs.Ytnmlonicfncpfaa
open Go.RowKit X
set_option maxHeartbeats 8000000
set_option maxRecDepth 8000
set_option linter.unusedSimpArgs false
set_option linter.unusedVariables false
section
variable {F0 I0 I : Fp} {w0 w : World} {O : List Ob}
theorem add_n (b : Nat) (D D' : DS) (p : Pic) (ts : List Int) (A B : Option Addr) (n d N M : Nat) (S0 : SH F0 I0 w0 O w I) (i : Nat) (e : O[i]? = some (DicO b D.L D.V D.ar)) (hl : Sl kP w I A p.x.l) (hN : p.x.l.length = N) (hM : ts.length = M) (hn : N ≤ 1000000) (hu : ∀ q ∈ p.x.l, U64 q) (ht : Sl kI w I B ts) (hd : M ≤ d) (htn : M ≤ 1000) (hL : D.L.length ≤ 1000) (hV : D.V.length ≤ 100000) (har : 0 ≤ D.ar ∧ D.ar ≤ 1000000000) {k er : Int} (hr : addD D p ts = (D', k, er)) :
    Calls Try.prog 8 #[.pointer (some ⟨b, 0, none⟩), .agg #[.int .i64 p.c, .int .i64 p.m, .int .i64 p.x.w, .int .i64 p.x.h, .slice A N n], .slice B M d] w fun e w' => e = .returned (.tuple #[.int .i64 k, .int .i64 er]) ∧ ∃ J, SH F0 I0 w0 (O.set i (DicO b D'.L D'.V D'.ar)) w' J := by
  subst hN hM
  exact add_s b D D' p ts A B n d S0 i e hl hn hu ht hd htn hL hV har hr
end
theorem tall1 : addD ⟨[], [], 0⟩ (flatG 17 4097 69649) [0, 1] = (⟨[], [], 0⟩, -1, 4) := by
  have hp : ([0, 1] : List Int).Pairwise (· < ·) := by decide
  unfold addD
  rw [if_pos ⟨flatG_may (by decide), mayTs_rising hp (by decide) (by decide)⟩, rising_sort hp]
  have : (orbP (flatG 17 4097 69649).x [0, 1]).2 = [0, -1] := by
    unfold orbP
    rw [List.foldl_cons, List.foldl_cons, List.foldl_nil]
    have h0 : layOk (flatG 17 4097 69649).x (0 : Int).toNat = true := by show sizedP 17 4097 = true; decide
    have h1 : layOk (flatG 17 4097 69649).x (1 : Int).toNat = false := by show sizedP 4097 17 = false; decide
    unfold orbS
    rw [h0, h1]
    simp
  rw [this, if_pos (by simp)]
theorem tall2 : addD ⟨[], [], 0⟩ (flatG 17 4097 69649) [0] = (⟨[], [], 0⟩, -1, 8) := by
  rw [add_one_new (flatG_may (by decide)) (by decide) (by show sizedP 17 4097 = true; decide) (by simp), if_pos]
  right
  show 65536 < 0 + (((List.replicate 69649 px0).length : Nat) : Int)
  rw [List.length_replicate]
  decide
theorem tall3 (p : Pic) (g : Int) : addD ⟨[], [], 0⟩ p [g, 8] = (⟨[], [], 0⟩, -1, 1) := by
  unfold addD
  rw [if_neg]
  rintro ⟨-, h⟩
  have := (mayTs_in h).2.2 8 ((sortI_perm [g, 8]).mem_iff.2 (by simp))
  omega
theorem tall4 (h : Nat) (h1 : 4090 ≤ h) (h2 : h ≤ 4103) (g : Nat) (hg : g < 8) : (g % 2 = 1 ∧ 4096 < h ∧ addD ⟨[], [], 0⟩ (flatG 1 h h) [(g : Int)] = (⟨[], [], 0⟩, -1, 4)) ∨ (¬ (g % 2 = 1 ∧ 4096 < h) ∧ ∃ t v, addD ⟨[], [], 0⟩ (flatG 1 h h) [(g : Int)] = (⟨[t], [v], h⟩, 0, 0)) := by
  have hm : mayG (flatG 1 h h) = true := flatG_may ⟨by omega, by omega, by omega, by omega, by omega, by omega⟩
  by_cases hc : g % 2 = 1 ∧ 4096 < h
  · refine .inl ⟨hc.1, hc.2, add_one_no hm (by omega) ?_⟩
    show sizedP (sizeP 1 h (g : Int).toNat).1 (sizeP 1 h (g : Int).toNat).2 = false
    rw [Int.toNat_natCast]
    unfold sizeP
    rw [if_neg (by omega)]
    have : ¬ sizedP (h : Int) 1 = true := by rw [sizedP_iff]; omega
    simpa using this
  · refine .inr ⟨hc, ⟨flatG 1 h h, [(g : Int)], [0]⟩, ⟨1, 9, layP (flatG 1 h h).x g⟩, ?_⟩
    rw [add_one_new hm (by omega) ?_ (by simp), if_neg]
    · rw [show (flatG 1 h h).x.l.length = h from List.length_replicate ..]
      simp only [List.nil_append, List.length_nil, Int.toNat_natCast, Int.zero_add]
      rfl
    · rw [show (flatG 1 h h).x.l.length = h from List.length_replicate ..]
      simp
      omega
    · show sizedP (sizeP 1 h (g : Int).toNat).1 (sizeP 1 h (g : Int).toNat).2 = true
      rw [Int.toNat_natCast]
      unfold sizeP
      split
      · rw [sizedP_iff]; simp; omega
      · rw [sizedP_iff]; simp; omega
theorem flat_all {α : Type} {N : Nat} {x : α} : (List.range N).map (fun _ => x) = List.replicate N x := by
  apply List.ext_getElem
  · simp
  · intro i h1 h2; simp
theorem ltall_c (n r : Int) (hn : I64 n) (hr : I64 r) (w : World) (I : Fp) (hI : ∀ b, I b → b < w.heap.size) :
    Calls Try.prog 5 #[.int .i64 n, .int .i64 r] w fun e w' => e = .returned (.bool true) ∧ Ext w w' := by
  have S := SH.start w I hI
  have HN := As.mk hn
  have HR := As.mk hr
  clear hn hr
  obtain ⟨h, hh⟩ : ∃ h : Nat, (4090 : Int) + aroundI n 14 = h := ⟨(4090 + aroundI n 14).toNat, by have := (aroundI_range (n := n) (m := 14) (by omega)); omega⟩
  have hh1 : 4090 ≤ h := by have := (aroundI_range (n := n) (m := 14) (by omega)); omega
  have hh2 : h ≤ 4103 := by have := (aroundI_range (n := n) (m := 14) (by omega)); omega
  obtain ⟨a0, ha0⟩ : ∃ a, aroundI n 14 = a := ⟨_, rfl⟩
  have har := (aroundI_range (n := n) (m := 14) (by omega))
  rw [ha0] at hh har
  obtain ⟨g, hg⟩ : ∃ g : Nat, aroundI r 8 = g := ⟨(aroundI r 8).toNat, by have := (aroundI_range (n := r) (m := 8) (by omega)); omega⟩
  have hg8 : g < 8 := by have := (aroundI_range (n := r) (m := 8) (by omega)); omega
  have HA := As.mk ha0
  have HG := As.mk hg
  obtain ⟨har0, har1⟩ := har
  clear ha0 hg
  have HM1 : True := trivial
  obtain ⟨N, hN⟩ : ∃ N : Nat, 69649 = N := ⟨_, rfl⟩
  have HNN := As.mk hN
  have hN1 : N ≤ 1000000 := by omega
  have hN2 : 4103 ≤ N := by omega
  clear hN
  have hc := S.cells; simp only [Cells, cellsC, Im, Row, El, DicO, Nat.zero_add, Nat.reduceAdd] at hc
  go_enter Try.func5, Try.ntmps5
  go_wp2_with (first | ((first | (with_reducible refine wpl_seal S ?_) | (with_reducible refine cw_seal S ?_) | (with_reducible refine bp_seal S ?_) | (with_reducible refine ca_seal S ?_)); clear S; (try clear hc); intro w1 S; (try simp only [List.set_cons_zero, List.set_cons_succ, List.nil_append] at S); have hc := S.cells; simp only [Cells, cellsC, Im, Row, El, DicO, Nat.zero_add, Nat.reduceAdd] at hc) | (go_at_call 12; clear HM1; refine (around_c n 14 _ HN.out (by decide) (by decide)).mono ?_; rw [HA.out]; rintro e w1 ⟨rfl, rfl⟩) | (go_at_call 12; refine (around_c r 8 _ HR.out (by decide) (by decide)).mono ?_; rw [HG.out]; rintro e w1 ⟨rfl, rfl⟩) | (go_at_call 7; refine (newD_c _ _ S.bd).mono ?_; rintro e w1 ⟨gd, rfl, hu⟩; obtain ⟨I1, S1, hI1⟩ := S.new hu; clear S hu hI1; (try clear hc); have S := S1; clear S1; have hc := S.cells; simp only [Cells, cellsC, Im, Row, El, DicO, Nat.zero_add, Nat.reduceAdd] at hc; have hc := S.cells; simp only [Cells, cellsC, Im, Row, El, DicO, Nat.zero_add, Nat.reduceAdd] at hc) | (at_make; refine wpl_make (k := kP) S rfl _ _ rfl (z := .int .u64 0) (bytes := 8) (size := 1) Try.underlying27 (by kernel_rfl) rfl (by omega) .i64 .i64 N (by rw [← HNN.out]; rfl) (by rw [← HNN.out]; rfl) hN1 0 (fun _ => rfl) (by omega) ?_; clear S hc; intro gl w1 S; have hc := S.cells; simp only [Cells, cellsC, Im, Row, El, DicO, Nat.zero_add, Nat.reduceAdd] at hc))
  rw [upK_none (f := fun _ => px0)] at S
  obtain ⟨gf, egf⟩ := S.name 1 rfl; rw [← egf] at S ⊢; clear egf
  obtain ⟨f, hf⟩ : ∃ f : Nat → Int, (fun _ => px0) = f := ⟨_, rfl⟩
  have HF : As (∀ k, f k = 281474976710656) := ⟨fun k => by rw [← hf]; rfl⟩
  rw [hf] at S
  clear hc
  go_loopw [10] (fun iv w' => ∃ (k : Nat) (J : Fp), iv = .int .i64 k ∧ k ≤ N ∧ As (SH No I w [Row kP (.slice (some ⟨gl, 0, none⟩) N N) (upK N f (fun _ => 0) k), Cel gf 26 [.int .i64 1, .int .i64 9], DicO gd [] [] 0] w' J)) (fun iv _ => N - (intOf iv).toNat)
  case atStart => exact ⟨0, _, rfl, by omega, ⟨S⟩⟩
  case round =>
    clear S
    obtain ⟨k, J, rfl, hk, ⟨S⟩⟩ := hrel
    by_cases hlt : k < N
    · have hlt' : decide ((k : Int) < N) = true := decide_eq_true (by omega)
      have HJ : JLt k (upK N f (fun _ => 0) k).length := ⟨by rw [upK_len]; exact hlt⟩
      have hnf := S.nfzR 0 rfl k
      obtain ⟨Av, cv, e1, -, hs1⟩ := S.row 0 rfl
      rw [Value.slice.injEq] at e1
      obtain ⟨rfl, -, rfl⟩ := e1
      obtain ⟨b', o', e', hck⟩ := hs1.num_at (i := k) (List.getElem?_eq_getElem HJ.out)
      cases e'
      rw [Nat.zero_add] at hck
      have hc := S.cells; simp only [Cells, cellsC, Im, Row, El, DicO, Nat.zero_add, Nat.reduceAdd] at hc
      go_wp2_with (first | ((first | (with_reducible refine wpl_seal S ?_) | (with_reducible refine cw_seal S ?_) | (with_reducible refine bp_seal S ?_) | (with_reducible refine ca_seal S ?_)); clear S; (try clear hc); intro w1 S; (try simp only [List.set_cons_zero, List.set_cons_succ, List.nil_append] at S); have hc := S.cells; simp only [Cells, cellsC, Im, Row, El, DicO, Nat.zero_add, Nat.reduceAdd] at hc))
      rw [← HF.out k, upK_set] at S
      go_roundw
      case rel => exact ⟨k + 1, _, by go_num, by omega, ⟨S⟩⟩
      case measure => simp [intOf]; omega
    · have hlt' : decide ((k : Int) < N) = false := decide_eq_false (by omega)
      obtain rfl : N = k := by omega
      rw [upK_all, ← hf, flat_all] at S
      obtain ⟨Ar, cr, I2, e3, hcr, S2, -⟩ := S.frow 0 rfl
      rw [Value.slice.injEq] at e3
      obtain ⟨rfl, -, rfl⟩ := e3
      clear S hcr
      have S := S2
      clear S2
      simp only [List.set_cons_zero, List.set_cons_succ, List.nil_append] at S
      obtain ⟨l, hl⟩ : ∃ l, List.replicate N px0 = l := ⟨_, rfl⟩
      have hll : l.length = N := by rw [← hl, List.length_replicate]
      obtain ⟨A2, hcut, hs2⟩ := (S.im 0 rfl).cutR ty_pixs (l := h) (c := N) (by rw [List.length_replicate]; omega) (by rw [List.length_replicate]; exact Nat.le_refl _)
      have htk : (List.replicate N px0).take h = List.replicate h px0 := by rw [List.take_replicate, Nat.min_eq_left (by omega)]
      rw [htk] at hs2
      obtain ⟨l2, hl2⟩ : ∃ l2, List.replicate h px0 = l2 := ⟨_, rfl⟩
      have hll2 : l2.length = h := by rw [← hl2, List.length_replicate]
      rw [hl2] at hs2
      rw [List.length_replicate] at hcut
      rw [hl] at S
      replace S := S.know (h := Im kP A2 l2) hs2
      have HW : As (flatG 17 4097 69649 = ⟨1, 9, ⟨17, 4097, l⟩⟩) := ⟨by unfold flatG; rw [HNN.out, hl]; rfl⟩
      have HT : As (flatG 1 h h = ⟨1, 9, ⟨1, h, l2⟩⟩) := ⟨by unfold flatG; rw [hl2]; rfl⟩
      have HU1 := As.mk (flatG_u (a := 17) (b := 4097) (n := 69649))
      have HU2 := As.mk (flatG_u (a := 1) (b := h) (n := h))
      have T1 := As.mk tall1
      have T2 := As.mk tall2
      have T3 := As.mk (tall3 (flatG 1 h h) g)
      have T4 := As.mk (tall4 h hh1 hh2 g hg8)
      rw [HW.out] at HU1 T1 T2
      rw [HT.out] at HU2 T3 T4
      have HL1 := As.mk hll
      have HL2 := As.mk hll2
      clear hl hl2 htk hs2 hlt hlt' hf HF hll hll2
      have hc := S.cells; simp only [Cells, cellsC, Im, Row, El, DicO, Nat.zero_add, Nat.reduceAdd] at hc
      go_wp2_with (first | ((first | (with_reducible refine wpl_seal S ?_) | (with_reducible refine cw_seal S ?_) | (with_reducible refine bp_seal S ?_) | (with_reducible refine ca_seal S ?_)); clear S; (try clear hc); intro w1 S; (try simp only [List.set_cons_zero, List.set_cons_succ, List.nil_append] at S); have hc := S.cells; simp only [Cells, cellsC, Im, Row, El, DicO, Nat.zero_add, Nat.reduceAdd] at hc))
      have hq := S.cellsE; simp only [CellsE, cellsE, Im, Row, El, DicO, Nat.zero_add, Nat.reduceAdd] at hq
      refine wp_region_ext [⟨[0], [1, 2, 3, 4, 5, 6], 7, true⟩, ⟨[], [], 8, false⟩] [] (by kernel_rfl) (by kernel_rfl) ?_
      refine mix_cons rfl rfl rfl ?_
      simp only [opsAt, List.getD_cons_succ, List.getD_cons_zero]
      repeat (go_big_quiet_step ((intro hC; first | rfl | (go_simp; first | done | rfl))))
      refine wpQuiet_nil ?_
      repeat (go_big_quiet_step ((intro hC; first | rfl | (go_simp; first | done | rfl))))
      refine wpQuiet_nil ?_
      clear hc hq
      replace S := S.drew
      generalize w1.drew = w2 at S ⊢
      have hc := S.cells; simp only [Cells, cellsC, Im, Row, El, DicO, Nat.zero_add, Nat.reduceAdd] at hc
      go_wp2_with (first | ((first | (with_reducible refine mx_seal S ?_) | (with_reducible refine wpl_seal S ?_) | (with_reducible refine ca_seal S ?_)); clear S; (try clear hc); intro w1 S; (try simp only [List.set_cons_zero, List.set_cons_succ, List.nil_append] at S); have hc := S.cells; simp only [Cells, cellsC, Im, Row, El, DicO, Nat.zero_add, Nat.reduceAdd] at hc))
      refine ⟨fun _ => Ext.alloc _ _, ?_⟩
      (first | refine ⟨(fun h => by cases h), ?_⟩ | skip); (first | ((first | (with_reducible refine mx_seal S ?_)); clear S; (try clear hc); intro w1 S; (try simp only [List.set_cons_zero, List.set_cons_succ, List.nil_append] at S); have hc := S.cells; simp only [Cells, cellsC, Im, Row, El, DicO, Nat.zero_add, Nat.reduceAdd] at hc) | skip); (try simp only [Act.put, List.setIfInBounds_toArray, List.set_cons_succ, List.set_cons_zero])
      refine mix_cons rfl rfl rfl ?_
      simp only [opsAt, List.getD_cons_succ, List.getD_cons_zero]
      repeat (go_big_quiet_step ((intro hC; first | rfl | (go_simp; first | done | rfl))))
      refine wpQuiet_nil ?_
      repeat (go_big_quiet_step ((intro hC; first | rfl | (go_simp; first | done | rfl))))
      refine wpQuiet_nil ?_
      go_wp2_with (first | ((first | (with_reducible refine mx_seal S ?_) | (with_reducible refine wpl_seal S ?_) | (with_reducible refine ca_seal S ?_)); clear S; (try clear hc); intro w1 S; (try simp only [List.set_cons_zero, List.set_cons_succ, List.nil_append] at S); have hc := S.cells; simp only [Cells, cellsC, Im, Row, El, DicO, Nat.zero_add, Nat.reduceAdd] at hc))
      (first | refine ⟨(fun h => by cases h), ?_⟩ | skip); (first | ((first | (with_reducible refine mx_seal S ?_)); clear S; (try clear hc); intro w1 S; (try simp only [List.set_cons_zero, List.set_cons_succ, List.nil_append] at S); have hc := S.cells; simp only [Cells, cellsC, Im, Row, El, DicO, Nat.zero_add, Nat.reduceAdd] at hc) | skip); (try simp only [Act.put, List.setIfInBounds_toArray, List.set_cons_succ, List.set_cons_zero])
      refine mix_last rfl ?_
      simp only [opsAt, List.getD_cons_succ, List.getD_cons_zero]
      repeat (go_big_quiet_step ((intro hC; first | rfl | (go_simp; first | done | rfl))))
      refine wpQuiet_nil ?_
      simp only [calmQ]
      have m1 : True := trivial
      have m2 : True := trivial
      have m3 : True := trivial
      have m5 : True := trivial
      have hgm := hg8
      obtain ⟨hg1, hg2, HT5⟩ | ⟨hg1, tt, vv, HT5⟩ := T4.out
      · have T5 := As.mk HT5
        clear T4 HT5
        have hgo : ((g : Int).tmod 2 == 1) = true := by rw [Int.tmod_eq_emod_of_nonneg (by omega), beq_iff_eq]; omega
        have hgt : decide ((h : Int) > 4096) = true := decide_eq_true (by omega)
        go_wp2_with (first | ((first | (with_reducible refine wpl_seal S ?_) | (with_reducible refine cw_seal S ?_) | (with_reducible refine bp_seal S ?_) | (with_reducible refine ca_seal S ?_)); clear S; (try clear hc); intro w1 S; (try simp only [List.set_cons_zero, List.set_cons_succ, List.nil_append] at S); have hc := S.cells; simp only [Cells, cellsC, Im, Row, El, DicO, Nat.zero_add, Nat.reduceAdd] at hc) | (go_at_call 8; clear m1; obtain ⟨J1, S1, -⟩ := S.lit 0 rfl (k := kI) (xs := [0, 1]) (flat_int [0, 1]); clear S hc; refine (add_n _ ⟨[], [], 0⟩ _ ⟨1, 9, ⟨17, 4097, l⟩⟩ [0, 1] _ _ N 2 N 2 S1 6 rfl (S1.im 4 rfl) HL1.out rfl hN1 HU1.out (S1.im 0 rfl) (by decide) (by decide) (by decide) (by decide) (by decide) T1.out).mono ?_; rintro e w1 ⟨rfl, J3, S3⟩; clear S1; have S := S3; clear S3; simp only [List.set_cons_zero, List.set_cons_succ, List.nil_append] at S; have hc := S.cells; simp only [Cells, cellsC, Im, Row, El, DicO, Nat.zero_add, Nat.reduceAdd] at hc) | (go_at_call 8; clear m2; obtain ⟨J1, S1, -⟩ := S.lit 0 rfl (k := kI) (xs := [0]) (flat_int [0]); clear S hc; refine (add_n _ ⟨[], [], 0⟩ _ ⟨1, 9, ⟨17, 4097, l⟩⟩ [0] _ _ N 1 N 1 S1 7 rfl (S1.im 5 rfl) HL1.out rfl hN1 HU1.out (S1.im 0 rfl) (by decide) (by decide) (by decide) (by decide) (by decide) T2.out).mono ?_; rintro e w1 ⟨rfl, J3, S3⟩; clear S1; have S := S3; clear S3; simp only [List.set_cons_zero, List.set_cons_succ, List.nil_append] at S; have hc := S.cells; simp only [Cells, cellsC, Im, Row, El, DicO, Nat.zero_add, Nat.reduceAdd] at hc) | (go_at_call 8; clear m3; obtain ⟨J1, S1, -⟩ := S.lit 0 rfl (k := kI) (xs := [(g : Int), 8]) (flat_int [(g : Int), 8]); clear S hc; refine (add_n _ ⟨[], [], 0⟩ _ ⟨1, 9, ⟨1, h, l2⟩⟩ [(g : Int), 8] _ _ N 2 h 2 S1 8 rfl (S1.im 5 rfl) HL2.out rfl (by omega) HU2.out (S1.im 0 rfl) (by decide) (by decide) (by decide) (by decide) (by decide) T3.out).mono ?_; rintro e w1 ⟨rfl, J3, S3⟩; clear S1; have S := S3; clear S3; simp only [List.set_cons_zero, List.set_cons_succ, List.nil_append] at S; have hc := S.cells; simp only [Cells, cellsC, Im, Row, El, DicO, Nat.zero_add, Nat.reduceAdd] at hc) | (go_at_call 8; obtain ⟨J1, S1, -⟩ := S.lit 0 rfl (k := kI) (xs := [(g : Int)]) (flat_int [(g : Int)]); clear S hc; refine (add_n _ ⟨[], [], 0⟩ _ ⟨1, 9, ⟨1, h, l2⟩⟩ [(g : Int)] _ _ N 1 h 1 S1 9 rfl (S1.im 6 rfl) HL2.out rfl (by omega) HU2.out (S1.im 0 rfl) (by decide) (by decide) (by decide) (by decide) (by decide) T5.out).mono ?_; rintro e w1 ⟨rfl, J3, S3⟩; clear S1; have S := S3; clear S3; simp only [List.set_cons_zero, List.set_cons_succ, List.nil_append] at S; have hc := S.cells; simp only [Cells, cellsC, Im, Row, El, DicO, Nat.zero_add, Nat.reduceAdd] at hc) | (go_at_call 16; clear m5; refine (templates_c _ _ _ _ S 8 rfl).mono ?_; rintro e w1 ⟨rfl, rfl⟩) | (go_at_call 16; refine (templates_c _ _ _ _ S 9 rfl).mono ?_; rintro e w1 ⟨rfl, rfl⟩) | (go_at_call 10; refine (variants_c _ _ _ _ S 9 rfl).mono ?_; rintro e w1 ⟨rfl, rfl⟩) | (go_at_call 17; refine (area_c _ _ _ _ S 9 rfl).mono ?_; rintro e w1 ⟨rfl, rfl⟩) | (go_at_call 15; refine (dlives_c _ _ S.bd).mono ?_; rintro e w1 ⟨rfl, hx⟩; replace S := S.ext hx; clear hx; (try clear hc); have hc := S.cells; simp only [Cells, cellsC, Im, Row, El, DicO, Nat.zero_add, Nat.reduceAdd] at hc))
        go_ret
        exact ⟨rfl, S.out⟩
      · have T5 := As.mk HT5
        clear T4 HT5
        by_cases hgo : g % 2 = 1
        · have hgo2 : ((g : Int) % 2 == 1) = true := by rw [beq_iff_eq]; omega
          have hgo' : ((g : Int).tmod 2 == 1) = true := by rw [Int.tmod_eq_emod_of_nonneg (by omega), beq_iff_eq]; omega
          have hgt : decide ((h : Int) > 4096) = false := decide_eq_false (by omega)
          clear hg1 hgo
          go_wp2_with (first | ((first | (with_reducible refine wpl_seal S ?_) | (with_reducible refine cw_seal S ?_) | (with_reducible refine bp_seal S ?_) | (with_reducible refine ca_seal S ?_)); clear S; (try clear hc); intro w1 S; (try simp only [List.set_cons_zero, List.set_cons_succ, List.nil_append] at S); have hc := S.cells; simp only [Cells, cellsC, Im, Row, El, DicO, Nat.zero_add, Nat.reduceAdd] at hc) | (go_at_call 8; clear m1; obtain ⟨J1, S1, -⟩ := S.lit 0 rfl (k := kI) (xs := [0, 1]) (flat_int [0, 1]); clear S hc; refine (add_n _ ⟨[], [], 0⟩ _ ⟨1, 9, ⟨17, 4097, l⟩⟩ [0, 1] _ _ N 2 N 2 S1 6 rfl (S1.im 4 rfl) HL1.out rfl hN1 HU1.out (S1.im 0 rfl) (by decide) (by decide) (by decide) (by decide) (by decide) T1.out).mono ?_; rintro e w1 ⟨rfl, J3, S3⟩; clear S1; have S := S3; clear S3; simp only [List.set_cons_zero, List.set_cons_succ, List.nil_append] at S; have hc := S.cells; simp only [Cells, cellsC, Im, Row, El, DicO, Nat.zero_add, Nat.reduceAdd] at hc) | (go_at_call 8; clear m2; obtain ⟨J1, S1, -⟩ := S.lit 0 rfl (k := kI) (xs := [0]) (flat_int [0]); clear S hc; refine (add_n _ ⟨[], [], 0⟩ _ ⟨1, 9, ⟨17, 4097, l⟩⟩ [0] _ _ N 1 N 1 S1 7 rfl (S1.im 5 rfl) HL1.out rfl hN1 HU1.out (S1.im 0 rfl) (by decide) (by decide) (by decide) (by decide) (by decide) T2.out).mono ?_; rintro e w1 ⟨rfl, J3, S3⟩; clear S1; have S := S3; clear S3; simp only [List.set_cons_zero, List.set_cons_succ, List.nil_append] at S; have hc := S.cells; simp only [Cells, cellsC, Im, Row, El, DicO, Nat.zero_add, Nat.reduceAdd] at hc) | (go_at_call 8; clear m3; obtain ⟨J1, S1, -⟩ := S.lit 0 rfl (k := kI) (xs := [(g : Int), 8]) (flat_int [(g : Int), 8]); clear S hc; refine (add_n _ ⟨[], [], 0⟩ _ ⟨1, 9, ⟨1, h, l2⟩⟩ [(g : Int), 8] _ _ N 2 h 2 S1 8 rfl (S1.im 5 rfl) HL2.out rfl (by omega) HU2.out (S1.im 0 rfl) (by decide) (by decide) (by decide) (by decide) (by decide) T3.out).mono ?_; rintro e w1 ⟨rfl, J3, S3⟩; clear S1; have S := S3; clear S3; simp only [List.set_cons_zero, List.set_cons_succ, List.nil_append] at S; have hc := S.cells; simp only [Cells, cellsC, Im, Row, El, DicO, Nat.zero_add, Nat.reduceAdd] at hc) | (go_at_call 8; obtain ⟨J1, S1, -⟩ := S.lit 0 rfl (k := kI) (xs := [(g : Int)]) (flat_int [(g : Int)]); clear S hc; refine (add_n _ ⟨[], [], 0⟩ _ ⟨1, 9, ⟨1, h, l2⟩⟩ [(g : Int)] _ _ N 1 h 1 S1 9 rfl (S1.im 6 rfl) HL2.out rfl (by omega) HU2.out (S1.im 0 rfl) (by decide) (by decide) (by decide) (by decide) (by decide) T5.out).mono ?_; rintro e w1 ⟨rfl, J3, S3⟩; clear S1; have S := S3; clear S3; simp only [List.set_cons_zero, List.set_cons_succ, List.nil_append] at S; have hc := S.cells; simp only [Cells, cellsC, Im, Row, El, DicO, Nat.zero_add, Nat.reduceAdd] at hc) | (go_at_call 16; clear m5; refine (templates_c _ _ _ _ S 8 rfl).mono ?_; rintro e w1 ⟨rfl, rfl⟩) | (go_at_call 16; refine (templates_c _ _ _ _ S 9 rfl).mono ?_; rintro e w1 ⟨rfl, rfl⟩) | (go_at_call 10; refine (variants_c _ _ _ _ S 9 rfl).mono ?_; rintro e w1 ⟨rfl, rfl⟩) | (go_at_call 17; refine (area_c _ _ _ _ S 9 rfl).mono ?_; rintro e w1 ⟨rfl, rfl⟩) | (go_at_call 15; refine (dlives_c _ _ S.bd).mono ?_; rintro e w1 ⟨rfl, hx⟩; replace S := S.ext hx; clear hx; (try clear hc); have hc := S.cells; simp only [Cells, cellsC, Im, Row, El, DicO, Nat.zero_add, Nat.reduceAdd] at hc))
          all_goals (go_ret; exact ⟨by first | rfl | simp, S.out⟩)
        · have hgo2 : ((g : Int) % 2 == 1) = false := by rw [beq_eq_false_iff_ne]; omega
          have hgo' : ((g : Int).tmod 2 == 1) = false := by rw [Int.tmod_eq_emod_of_nonneg (by omega), beq_eq_false_iff_ne]; omega
          clear hg1 hgo
          go_wp2_with (first | ((first | (with_reducible refine wpl_seal S ?_) | (with_reducible refine cw_seal S ?_) | (with_reducible refine bp_seal S ?_) | (with_reducible refine ca_seal S ?_)); clear S; (try clear hc); intro w1 S; (try simp only [List.set_cons_zero, List.set_cons_succ, List.nil_append] at S); have hc := S.cells; simp only [Cells, cellsC, Im, Row, El, DicO, Nat.zero_add, Nat.reduceAdd] at hc) | (go_at_call 8; clear m1; obtain ⟨J1, S1, -⟩ := S.lit 0 rfl (k := kI) (xs := [0, 1]) (flat_int [0, 1]); clear S hc; refine (add_n _ ⟨[], [], 0⟩ _ ⟨1, 9, ⟨17, 4097, l⟩⟩ [0, 1] _ _ N 2 N 2 S1 6 rfl (S1.im 4 rfl) HL1.out rfl hN1 HU1.out (S1.im 0 rfl) (by decide) (by decide) (by decide) (by decide) (by decide) T1.out).mono ?_; rintro e w1 ⟨rfl, J3, S3⟩; clear S1; have S := S3; clear S3; simp only [List.set_cons_zero, List.set_cons_succ, List.nil_append] at S; have hc := S.cells; simp only [Cells, cellsC, Im, Row, El, DicO, Nat.zero_add, Nat.reduceAdd] at hc) | (go_at_call 8; clear m2; obtain ⟨J1, S1, -⟩ := S.lit 0 rfl (k := kI) (xs := [0]) (flat_int [0]); clear S hc; refine (add_n _ ⟨[], [], 0⟩ _ ⟨1, 9, ⟨17, 4097, l⟩⟩ [0] _ _ N 1 N 1 S1 7 rfl (S1.im 5 rfl) HL1.out rfl hN1 HU1.out (S1.im 0 rfl) (by decide) (by decide) (by decide) (by decide) (by decide) T2.out).mono ?_; rintro e w1 ⟨rfl, J3, S3⟩; clear S1; have S := S3; clear S3; simp only [List.set_cons_zero, List.set_cons_succ, List.nil_append] at S; have hc := S.cells; simp only [Cells, cellsC, Im, Row, El, DicO, Nat.zero_add, Nat.reduceAdd] at hc) | (go_at_call 8; clear m3; obtain ⟨J1, S1, -⟩ := S.lit 0 rfl (k := kI) (xs := [(g : Int), 8]) (flat_int [(g : Int), 8]); clear S hc; refine (add_n _ ⟨[], [], 0⟩ _ ⟨1, 9, ⟨1, h, l2⟩⟩ [(g : Int), 8] _ _ N 2 h 2 S1 8 rfl (S1.im 5 rfl) HL2.out rfl (by omega) HU2.out (S1.im 0 rfl) (by decide) (by decide) (by decide) (by decide) (by decide) T3.out).mono ?_; rintro e w1 ⟨rfl, J3, S3⟩; clear S1; have S := S3; clear S3; simp only [List.set_cons_zero, List.set_cons_succ, List.nil_append] at S; have hc := S.cells; simp only [Cells, cellsC, Im, Row, El, DicO, Nat.zero_add, Nat.reduceAdd] at hc) | (go_at_call 8; obtain ⟨J1, S1, -⟩ := S.lit 0 rfl (k := kI) (xs := [(g : Int)]) (flat_int [(g : Int)]); clear S hc; refine (add_n _ ⟨[], [], 0⟩ _ ⟨1, 9, ⟨1, h, l2⟩⟩ [(g : Int)] _ _ N 1 h 1 S1 9 rfl (S1.im 6 rfl) HL2.out rfl (by omega) HU2.out (S1.im 0 rfl) (by decide) (by decide) (by decide) (by decide) (by decide) T5.out).mono ?_; rintro e w1 ⟨rfl, J3, S3⟩; clear S1; have S := S3; clear S3; simp only [List.set_cons_zero, List.set_cons_succ, List.nil_append] at S; have hc := S.cells; simp only [Cells, cellsC, Im, Row, El, DicO, Nat.zero_add, Nat.reduceAdd] at hc) | (go_at_call 16; clear m5; refine (templates_c _ _ _ _ S 8 rfl).mono ?_; rintro e w1 ⟨rfl, rfl⟩) | (go_at_call 16; refine (templates_c _ _ _ _ S 9 rfl).mono ?_; rintro e w1 ⟨rfl, rfl⟩) | (go_at_call 10; refine (variants_c _ _ _ _ S 9 rfl).mono ?_; rintro e w1 ⟨rfl, rfl⟩) | (go_at_call 17; refine (area_c _ _ _ _ S 9 rfl).mono ?_; rintro e w1 ⟨rfl, rfl⟩) | (go_at_call 15; refine (dlives_c _ _ S.bd).mono ?_; rintro e w1 ⟨rfl, hx⟩; replace S := S.ext hx; clear hx; (try clear hc); have hc := S.cells; simp only [Cells, cellsC, Im, Row, El, DicO, Nat.zero_add, Nat.reduceAdd] at hc))
          all_goals (go_ret; exact ⟨by first | rfl | simp, S.out⟩)
end Go.Proofs.Ytnmlonicfncpfaa
