/- DictApart: what it returns. -/
import Derived.Test.YtnmlonicfncpfaaGreatZLike
import Derived.Test.YtnmlonicfncpfaaGreatZGoodT
import Derived.Test.YtnmlonicfncpfaaGreatDAddR
import Derived.Test.YtnmlonicfncpfaaGreatDPl
import Derived.Test.YtnmlonicfncpfaaGreatCutS
namespace Go.Proofs.YtnmlonicfncpfaaGreat
open Go.RowKit X
set_option maxHeartbeats 4000000
set_option maxRecDepth 8000
set_option linter.unusedSimpArgs false
set_option linter.unusedVariables false
theorem ty_ygts : TyOk Tryz.prog 22 kgt 80 := TyOk.mk' (size := 6) (z := .agg #[.bool false, .int .i64 0, .int .i64 0, .int .i64 0, .slice none 0 0, .slice none 0 0]) Tryz.underlying22 (by kernel_rfl) rfl rfl (by decide)
theorem small_pos {p : Pic} (h : Small p) : 0 < p.x.l.length := by
  obtain ⟨⟨h1, -⟩, ⟨h2, -⟩, h3⟩ := h.mx
  have := Int.mul_pos (show (0 : Int) < p.x.w by omega) (show (0 : Int) < p.x.h by omega)
  omega
section
variable {F0 I0 I : Fp} {w0 w : World} {O : List Ob}
theorem X.SH.rowA {k : Kd Int} {v : Value} {xs : List Int} (S : SH F0 I0 w0 O w I) (i : Nat) (e : O[i]? = some (Row k v xs)) (hx : 0 < xs.length) : ∃ g c, v = .slice (some ⟨g, 0, none⟩) xs.length c ∧ xs.length ≤ c := by
  obtain ⟨A, c, h1, h2, h3⟩ := (S.own i e).form
  obtain ⟨g, rfl, -⟩ := h3 (fun h => by rw [h] at hx; exact absurd hx (by decide))
  exact ⟨g, c, h1, h2⟩
theorem add_r (b : Nat) (D D' : DS) (p : Pic) (ts : List Int) (A B : Option Addr) (n d : Nat) (S0 : SH F0 I0 w0 O w I) (i j1 j2 : Nat) (e : O[i]? = some (DicO b D.L D.V D.ar)) (e1 : O[j1]? = some (Row kP (.slice A p.x.l.length n) p.x.l)) (e2 : O[j2]? = some (Row kI (.slice B ts.length d) ts)) (h1 : j1 ≠ i) (h2 : j2 ≠ i)
    (hn : p.x.l.length ≤ 1000000) (hu : ∀ q ∈ p.x.l, U64 q) (hd : ts.length ≤ d) (htn : ts.length ≤ 1000) (hL : D.L.length ≤ 1000) (hV : D.V.length ≤ 100000) (har : 0 ≤ D.ar ∧ D.ar ≤ 1000000000) {k er : Int} (hr : addD D p ts = (D', k, er)) :
    Calls Tryz.prog 8 #[.pointer (some ⟨b, 0, none⟩), picV p A n, .slice B ts.length d] w fun e w' => e = .returned (.tuple #[.int .i64 k, .int .i64 er]) ∧ ∃ J, SH F0 I0 w0 (O.set i (DicO b D'.L D'.V D'.ar)) w' J := by
  obtain ⟨F, hsat, hb, hoth, back⟩ := S0.updD i e
  obtain ⟨G1, ⟨ho1, hf1⟩, hg1⟩ := hoth j1 _ h1 e1
  obtain ⟨G2, ⟨ho2, hf2⟩, hg2⟩ := hoth j2 _ h2 e2
  obtain ⟨A', c', ev1, -, hs1⟩ := ho1.sl
  rw [Value.slice.injEq] at ev1
  obtain ⟨rfl, -, rfl⟩ := ev1
  obtain ⟨B', d', ev2, -, hs2⟩ := ho2.sl
  rw [Value.slice.injEq] at ev2
  obtain ⟨rfl, -, rfl⟩ := ev2
  refine (add_d b D D' p ts A B n d w F I (fun b => G1 b ∨ G2 b ∨ I b) S0.bd (SH.start1 hsat (fun b h => (hb b h).1) S0.bd (fun b h h' => (hb b h).2.2 h')) ?_ (hs1.weak fun b _ h => h.elim (fun h => .inr (.inr h)) fun h => .inl (hf1 b h)) hn hu (hs2.weak fun b _ h => h.elim (fun h => .inr (.inr h)) fun h => .inr (.inl (hf2 b h))) hd htn hL hV har hr).mono fun e w' ⟨h1, h2⟩ => ⟨h1, by obtain ⟨J, h, -⟩ := back _ _ h2; exact ⟨J, h⟩⟩
  rintro b (h | h | h)
  · exact hg1 b h
  · exact hg2 b h
  · exact ⟨S0.bd b h, fun hF => (hb b hF).2.2 h⟩
end
theorem lapart_c (gs : List Gt) (A : Option Addr) (n : Nat) (hgn : gs.length ≤ n) (w : World) (I : Fp) (hI : ∀ b, I b → b < w.heap.size) (hl : Sl kgt w I A gs) :
    Calls Tryz.prog 5 #[.slice A gs.length n] w fun e w' => e = .returned (.bool true) ∧ Ext w w' := by
  obtain ⟨m1, hmin1, hm1a, hm1b⟩ : ∃ m : Nat, min (gs.length : Int) 3 = m ∧ m ≤ gs.length ∧ m ≤ 3 := ⟨min gs.length 3, by omega, by omega, by omega⟩
  obtain ⟨A3, hcutA, hsA⟩ := hl.cutF (P := Tryz.prog) ty_ygts hm1a hgn
  obtain ⟨g3, hg3⟩ : ∃ g3, gs.take m1 = g3 := ⟨_, rfl⟩
  have hg3l : g3.length = m1 := by rw [← hg3, List.length_take]; omega
  rw [hg3] at hsA
  rw [← hg3l] at hcutA hmin1
  have S := (SH.start w I hI).know (h := Im kgt A3 g3) hsA
  obtain ⟨l, hgl⟩ : ∃ l, goodT g3 = l := ⟨_, rfl⟩
  have HG := As.mk (fun w I hI hl => ygoodT_c g3 A3 n w I hI hl hgl)
  obtain ⟨hs, -, hl3⟩ := goodT_ok g3
  rw [hgl] at hs hl3
  have hl3' : l.length ≤ 3 := by omega
  have HS := As.mk hs
  clear hl hgl hs hl3 hsA hg3 hg3l hm1a hm1b
  have hc := S.cells; simp only [Cells, cellsC, Im, Row, El, DicO, Nat.zero_add, Nat.reduceAdd] at hc
  go_enter Tryz.func5, Tryz.ntmps5
  go_wp2_with (first | ((first | (with_reducible refine wpl_seal S ?_) | (with_reducible refine cw_seal S ?_) | (with_reducible refine bp_seal S ?_) | (with_reducible refine ca_seal S ?_)); clear S; (try clear hc); intro w1 S; (try simp only [List.set_cons_zero, List.set_cons_succ, List.nil_append] at S); have hc := S.cells; simp only [Cells, cellsC, Im, Row, El, DicO, Nat.zero_add, Nat.reduceAdd] at hc) | (go_at_call 6; refine (HG.out _ _ S.bd (S.im 0 rfl)).mono ?_; rintro e w1 ⟨B, cB, rfl, hcB, hu⟩; obtain ⟨I1, S1, hI1⟩ := S.new hu; clear S hu hI1; (try clear hc); have S := S1; clear S1; have hc := S.cells; simp only [Cells, cellsC, Im, Row, El, DicO, Nat.zero_add, Nat.reduceAdd] at hc; have hc := S.cells; simp only [Cells, cellsC, Im, Row, El, DicO, Nat.zero_add, Nat.reduceAdd] at hc) | (go_at_call 7; refine (newD_c _ _ S.bd).mono ?_; rintro e w1 ⟨gd, rfl, hu⟩; obtain ⟨I1, S1, hI1⟩ := S.new hu; clear S hu hI1; (try clear hc); have S := S1; clear S1; have hc := S.cells; simp only [Cells, cellsC, Im, Row, El, DicO, Nat.zero_add, Nat.reduceAdd] at hc; have hc := S.cells; simp only [Cells, cellsC, Im, Row, El, DicO, Nat.zero_add, Nat.reduceAdd] at hc))
  replace S := ((S.sel [0, 1] (by decide) rfl (by simp) : SH _ _ _ [_, _] _ _) : SH _ _ _ [_, _] _ _)
  clear hc
  go_loopw [5] (fun iv w' => ∃ (i : Nat) (D : DS) (J : Fp), iv = .int .i64 i ∧ i ≤ l.length ∧ As (DOk D (l.take i)) ∧ As (SH No I w [DicO gd D.L D.V D.ar, Im kyT B l] w' J)) (fun iv _ => l.length - (intOf iv).toNat)
  case atStart => exact ⟨0, ⟨[], [], 0⟩, _, rfl, by omega, ⟨DOk.start⟩, ⟨S⟩⟩
  case round =>
    clear S
    obtain ⟨i, D, J, rfl, hi, HD, ⟨S⟩⟩ := hrel
    obtain ⟨o, ho⟩ : ∃ o, l.take i = o := ⟨_, rfl⟩
    rw [ho] at HD
    have HT := As.mk ho
    have HSO := As.mk (show ∀ t ∈ o, SmT t from fun t ht => HS.out t (by rw [← ho] at ht; exact List.mem_of_mem_take ht))
    have hos : o.length ≤ 3 := by rw [← ho, List.length_take]; omega
    clear ho
    by_cases hlt : i < l.length
    · have hlt' : decide ((i : Int) < l.length) = true := decide_eq_true (by omega)
      have HTI := As.mk (List.getElem?_eq_getElem hlt)
      have HSM := As.mk (HS.out _ (List.getElem_mem hlt))
      have HTN := As.mk (show l.take (i + 1) = o ++ [l[i]] by rw [List.take_succ_eq_append_getElem hlt, HT.out])
      generalize l[i] = y at HTI HSM HTN
      obtain ⟨D', hadd, hok⟩ := add_small HD.out HSO.out HSM.out (by omega)
      have HA := As.mk hadd
      have HD2 := As.mk hok
      obtain ⟨hDL, hDV, har0, har1⟩ := HD.out.small HSO.out (by omega)
      have hDL2 : D.L.length ≤ 1000 := by omega
      have hDV2 : D.V.length ≤ 100000 := by omega
      have har : 0 ≤ D.ar ∧ D.ar ≤ 1000000000 := ⟨har0, by omega⟩
      have HSP := As.mk HSM.out.p
      have hpl := HSM.out.p.len
      have hpp := small_pos HSM.out.p
      have htp := HSM.out.pos
      have htl := HSM.out.few
      clear hadd hok hDL
      obtain ⟨b1, o1, A2, c2, B2, d2, rfl, ⟨g0, g1, g2, g3', g4, g5⟩, ⟨hc2, hx2⟩, hd2, ht2⟩ := (S.im 1 rfl).tv_at HTI.out
      replace S := (S.know (h := Im kP A2 y.p.x.l) hx2).nilrow (k := kP)
      clear hx2 ht2
      obtain ⟨⟨yc, ym, ⟨yw, yh, yl⟩⟩, ys⟩ := y
      dsimp only [picV] at *
      have hc := S.cells; simp only [Cells, cellsC, Im, Row, El, DicO, Nat.zero_add, Nat.reduceAdd] at hc
      go_upto_region 11 with (first | ((first | (with_reducible refine wpl_seal S ?_) | (with_reducible refine cw_seal S ?_) | (with_reducible refine bp_seal S ?_) | (with_reducible refine ca_seal S ?_)); clear S; (try clear hc); intro w1 S; (try simp only [List.set_cons_zero, List.set_cons_succ, List.nil_append] at S); have hc := S.cells; simp only [Cells, cellsC, Im, Row, El, DicO, Nat.zero_add, Nat.reduceAdd] at hc) | (go_at_call 9; refine (zof_c ⟨yc, ym, ⟨yw, yh, yl⟩⟩ A2 c2 _ _ S.bd).mono ?_; rintro e w1 ⟨rfl, hx⟩; replace S := S.ext hx; clear hx; (try clear hc); have hc := S.cells; simp only [Cells, cellsC, Im, Row, El, DicO, Nat.zero_add, Nat.reduceAdd] at hc) | (at_builtin; refine wpl_app S 1 rfl rfl _ _ rfl ty_pixs rfl A2 c2 _ rfl _ (fun _ _ h => h) ((S.im 2 rfl)) (by (try simp only [maxLen, List.length_nil, List.length_append, List.length_cons]); omega) (by (try simp only [maxLen, List.length_nil, List.length_append, List.length_cons]); omega) ?_; clear S; (try clear hc); intro va w1 S; simp only [List.set_cons_zero, List.set_cons_succ, List.nil_append] at S; have hc := S.cells; simp only [Cells, cellsC, Im, Row, El, DicO, Nat.zero_add, Nat.reduceAdd] at hc))
      obtain ⟨gp, cp, rfl, hcp⟩ := S.rowA 1 rfl hpp
      obtain ⟨g6, eg6⟩ := S.name 0 rfl; rw [← eg6] at S ⊢; clear eg6
      clear hc
      have hc := S.cells; simp only [Cells, cellsC, Im, Row, El, DicO, Nat.zero_add, Nat.reduceAdd] at hc
      go_upto_region 13 with (first | ((first | (with_reducible refine wpl_seal S ?_) | (with_reducible refine cw_seal S ?_) | (with_reducible refine bp_seal S ?_) | (with_reducible refine ca_seal S ?_)); clear S; (try clear hc); intro w1 S; (try simp only [List.set_cons_zero, List.set_cons_succ, List.nil_append] at S); have hc := S.cells; simp only [Cells, cellsC, Im, Row, El, DicO, Nat.zero_add, Nat.reduceAdd] at hc))
      obtain ⟨b2, o2, A4, c4, B2, d2, e2, ⟨-, -, -, -, -, g5⟩, -, hd2, ht2⟩ := (S.im 4 rfl).tv_at HTI.out
      rw [Option.some.injEq, Addr.mk.injEq] at e2
      obtain ⟨rfl, rfl, -⟩ := e2
      replace S := (S.know (h := Im kI B2 ys) ht2).nilrow (k := kI)
      clear ht2 hc
      dsimp only at g5 hd2
      have hc := S.cells; simp only [Cells, cellsC, Im, Row, El, DicO, Nat.zero_add, Nat.reduceAdd] at hc
      go_upto_region 14 with (first | ((first | (with_reducible refine wpl_seal S ?_) | (with_reducible refine cw_seal S ?_) | (with_reducible refine bp_seal S ?_) | (with_reducible refine ca_seal S ?_)); clear S; (try clear hc); intro w1 S; (try simp only [List.set_cons_zero, List.set_cons_succ, List.nil_append] at S); have hc := S.cells; simp only [Cells, cellsC, Im, Row, El, DicO, Nat.zero_add, Nat.reduceAdd] at hc) | (at_builtin; refine wpl_app S 0 rfl rfl _ _ rfl ty_ints rfl B2 d2 _ rfl _ (fun _ _ h => h) ((S.im 1 rfl)) (by (try simp only [maxLen, List.length_nil, List.length_append, List.length_cons]); omega) (by (try simp only [maxLen, List.length_nil, List.length_append, List.length_cons]); omega) ?_; clear S; (try clear hc); intro va w1 S; simp only [List.set_cons_zero, List.set_cons_succ, List.nil_append] at S; have hc := S.cells; simp only [Cells, cellsC, Im, Row, El, DicO, Nat.zero_add, Nat.reduceAdd] at hc))
      clear g5
      obtain ⟨gt, ct, rfl, hct⟩ := S.rowA 0 rfl htp
      clear hc
      have hc := S.cells; simp only [Cells, cellsC, Im, Row, El, DicO, Nat.zero_add, Nat.reduceAdd] at hc
      go_upto_region 15 with (first | ((first | (with_reducible refine wpl_seal S ?_) | (with_reducible refine cw_seal S ?_) | (with_reducible refine bp_seal S ?_) | (with_reducible refine ca_seal S ?_)); clear S; (try clear hc); intro w1 S; (try simp only [List.set_cons_zero, List.set_cons_succ, List.nil_append] at S); have hc := S.cells; simp only [Cells, cellsC, Im, Row, El, DicO, Nat.zero_add, Nat.reduceAdd] at hc) | (go_at_call 8; refine (add_r gd D D' ⟨yc, ym, ⟨yw, yh, yl⟩⟩ ys _ _ cp ct S 5 3 0 rfl rfl rfl (by decide) (by decide) (by dsimp only; omega) HSP.out.u hct (by omega) hDL2 hDV2 har HA.out).mono ?_; rintro e w1 ⟨rfl, J3, S3⟩; clear S hc; have S := S3; clear S3; simp only [List.set_cons_zero, List.set_cons_succ, List.nil_append] at S; have hc := S.cells; simp only [Cells, cellsC, Im, Row, El, DicO, Nat.zero_add, Nat.reduceAdd] at hc))
      have HJ : JLt 0 yl.length := ⟨hpp⟩
      have hnf := S.nfzR 3 rfl 0
      obtain ⟨Av, cv, e1, -, hs1⟩ := S.row 3 rfl
      rw [Value.slice.injEq] at e1
      obtain ⟨rfl, -, rfl⟩ := e1
      obtain ⟨b', o9, e9, hck⟩ := hs1.num_at (i := 0) (List.getElem?_eq_getElem hpp)
      cases e9
      have hpp' : decide ((0 : Int) < yl.length) = true := decide_eq_true (by omega)
      go_upto_region 16 with (first | ((first | (with_reducible refine wpl_seal S ?_) | (with_reducible refine cw_seal S ?_) | (with_reducible refine bp_seal S ?_) | (with_reducible refine ca_seal S ?_)); clear S; (try clear hc); intro w1 S; (try simp only [List.set_cons_zero, List.set_cons_succ, List.nil_append] at S); have hc := S.cells; simp only [Cells, cellsC, Im, Row, El, DicO, Nat.zero_add, Nat.reduceAdd] at hc))
      clear hnf hck hs1 HJ
      have HJ : JLt 0 ys.length := ⟨htp⟩
      have hnf := S.nfzR 0 rfl 0
      obtain ⟨Av, cv, e1, -, hs1⟩ := S.row 0 rfl
      rw [Value.slice.injEq] at e1
      obtain ⟨rfl, -, rfl⟩ := e1
      obtain ⟨b', o9, e9, hck⟩ := hs1.num_at (i := 0) (List.getElem?_eq_getElem htp)
      cases e9
      have S2 := S.setN (b := gt) (j := 0) (z := 9) (ety := 3) (ik := .i64) inferInstance
      go_wp2_with (first | ((first | (with_reducible refine wpl_seal S ?_) | (with_reducible refine cw_seal S ?_) | (with_reducible refine bp_seal S ?_) | (with_reducible refine ca_seal S ?_)); clear S; (try clear hc); intro w1 S; (try simp only [List.set_cons_zero, List.set_cons_succ, List.nil_append] at S); have hc := S.cells; simp only [Cells, cellsC, Im, Row, El, DicO, Nat.zero_add, Nat.reduceAdd] at hc))
      go_roundw
      case rel => exact ⟨i + 1, D', _, by go_num, by omega, ⟨by rw [HTN.out]; exact HD2.out⟩, ⟨S2.sel [5, 6] (by decide) rfl (by simp)⟩⟩
      case measure => simp [intOf]; omega
    · have hlt' : decide ((i : Int) < l.length) = false := decide_eq_false (by omega)
      have HDL := As.mk (show DOk D l by rw [← show o = l by rw [← HT.out, List.take_of_length_le (by omega)]]; exact HD.out)
      obtain ⟨hDL, hDV, har0, har1⟩ := HDL.out.small HS.out (by omega)
      have HLD := As.mk HDL.out.t
      have HVS := As.mk (show ∀ p ∈ D.V, Small p by rw [HDL.out.v]; exact (vars_small l HS.out).1)
      clear HD HT HSO hos
      have hc := S.cells; simp only [Cells, cellsC, Im, Row, El, DicO, Nat.zero_add, Nat.reduceAdd] at hc
      go_wp2_with (first | ((first | (with_reducible refine wpl_seal S ?_) | (with_reducible refine cw_seal S ?_) | (with_reducible refine bp_seal S ?_) | (with_reducible refine ca_seal S ?_)); clear S; (try clear hc); intro w1 S; (try simp only [List.set_cons_zero, List.set_cons_succ, List.nil_append] at S); have hc := S.cells; simp only [Cells, cellsC, Im, Row, El, DicO, Nat.zero_add, Nat.reduceAdd] at hc))
      clear hc
      go_loopw [9] (fun iv w' => ∃ (i : Nat) (J : Fp), iv = .int .i64 i ∧ i ≤ l.length ∧ As (SH No I w [DicO gd D.L D.V D.ar, Im kyT B l] w' J)) (fun iv _ => l.length - (intOf iv).toNat)
      case atStart => exact ⟨0, _, rfl, by omega, ⟨S⟩⟩
      case round =>
        clear S
        obtain ⟨i, J, rfl, hi, ⟨S⟩⟩ := hrel
        by_cases hlt : i < l.length
        · have hlt' : decide ((i : Int) < l.length) = true := decide_eq_true (by omega)
          have HTI := As.mk (List.getElem?_eq_getElem hlt)
          have HLI : As (D.L[i]? = some (tmOf D.V l[i])) := ⟨by rw [HLD.out, List.getElem?_map, HTI.out]; rfl⟩
          have HSM := As.mk (HS.out _ (List.getElem_mem hlt))
          generalize l[i] = x at HTI HLI HSM
          have hpp := small_pos HSM.out.p
          have htp := HSM.out.pos
          have hx1 : x.p.x.l.length ≤ 1000000 := by have := HSM.out.p.len; omega
          have hx2 : x.turns.length ≤ 1000000 := by have := HSM.out.few; omega
          unfold tmOf at HLI
          obtain ⟨⟨xc, xm, ⟨xw, xh, xl⟩⟩, ts⟩ := x
          dsimp only at hx1 hx2 hpp htp
          obtain ⟨ws, hws⟩ : ∃ ws, (ts.map fun g => idxI D.V (layT ⟨⟨xc, xm, ⟨xw, xh, xl⟩⟩, ts⟩ g)) = ws := ⟨_, rfl⟩
          dsimp only at HLI
          rw [hws] at HLI
          clear hws
          have hz1 : ((xl.length : Int) == 0) = false := by rw [beq_eq_false_iff_ne]; omega
          have hz2 : ((ts.length : Int) == 0) = false := by rw [beq_eq_false_iff_ne]; omega
          have hc := S.cells; simp only [Cells, cellsC, Im, Row, El, DicO, Nat.zero_add, Nat.reduceAdd] at hc
          go_upto_region 23 with (first | ((first | (with_reducible refine wpl_seal S ?_) | (with_reducible refine cw_seal S ?_) | (with_reducible refine bp_seal S ?_) | (with_reducible refine ca_seal S ?_)); clear S; (try clear hc); intro w1 S; (try simp only [List.set_cons_zero, List.set_cons_succ, List.nil_append] at S); have hc := S.cells; simp only [Cells, cellsC, Im, Row, El, DicO, Nat.zero_add, Nat.reduceAdd] at hc) | (go_at_call 15; refine (template_s gd D.L D.V D.ar S 0 rfl i _ HLI.out hx1 hx2).mono ?_; rintro e w1 ⟨B1, c1, C1, d1, J1, rfl, S1⟩; clear S hc; have S := S1; clear S1; have hc := S.cells; simp only [Cells, cellsC, Im, Row, El, DicO, Nat.zero_add, Nat.reduceAdd] at hc))
          obtain ⟨gp, cp, e1, hcp⟩ := S.rowA 1 rfl hpp
          rw [Value.slice.injEq] at e1
          obtain ⟨rfl, -, rfl⟩ := e1
          obtain ⟨gt, ct, e1, hct⟩ := S.rowA 2 rfl htp
          rw [Value.slice.injEq] at e1
          obtain ⟨rfl, -, rfl⟩ := e1
          have HJ : JLt 0 xl.length := ⟨hpp⟩
          have hnf := S.nfzR 1 rfl 0
          obtain ⟨Av, cv, e1, -, hs1⟩ := S.row 1 rfl
          rw [Value.slice.injEq] at e1
          obtain ⟨rfl, -, rfl⟩ := e1
          obtain ⟨b', o9, e9, hck⟩ := hs1.num_at (i := 0) (List.getElem?_eq_getElem hpp)
          cases e9
          clear hc
          have hc := S.cells; simp only [Cells, cellsC, Im, Row, El, DicO, Nat.zero_add, Nat.reduceAdd] at hc
          go_upto_region 24 with (first | ((first | (with_reducible refine wpl_seal S ?_) | (with_reducible refine cw_seal S ?_) | (with_reducible refine bp_seal S ?_) | (with_reducible refine ca_seal S ?_)); clear S; (try clear hc); intro w1 S; (try simp only [List.set_cons_zero, List.set_cons_succ, List.nil_append] at S); have hc := S.cells; simp only [Cells, cellsC, Im, Row, El, DicO, Nat.zero_add, Nat.reduceAdd] at hc))
          clear hnf hck hs1 HJ
          have HJ : JLt 0 ts.length := ⟨htp⟩
          have hnf := S.nfzR 2 rfl 0
          obtain ⟨Av, cv, e1, -, hs1⟩ := S.row 2 rfl
          rw [Value.slice.injEq] at e1
          obtain ⟨rfl, -, rfl⟩ := e1
          obtain ⟨b', o9, e9, hck⟩ := hs1.num_at (i := 0) (List.getElem?_eq_getElem htp)
          cases e9
          have S2 := S.setN (b := gt) (j := 0) (z := 9) (ety := 3) (ik := .i64) inferInstance
          go_wp2_with (first | ((first | (with_reducible refine wpl_seal S ?_) | (with_reducible refine cw_seal S ?_) | (with_reducible refine bp_seal S ?_) | (with_reducible refine ca_seal S ?_)); clear S; (try clear hc); intro w1 S; (try simp only [List.set_cons_zero, List.set_cons_succ, List.nil_append] at S); have hc := S.cells; simp only [Cells, cellsC, Im, Row, El, DicO, Nat.zero_add, Nat.reduceAdd] at hc))
          go_roundw
          case rel => exact ⟨i + 1, _, by go_num, by omega, ⟨S2.sel [3, 4] (by decide) rfl (by simp)⟩⟩
          case measure => simp [intOf]; omega
        · have hlt' : decide ((i : Int) < l.length) = false := decide_eq_false (by omega)
          have hc := S.cells; simp only [Cells, cellsC, Im, Row, El, DicO, Nat.zero_add, Nat.reduceAdd] at hc
          go_wp2_with (first | ((first | (with_reducible refine wpl_seal S ?_) | (with_reducible refine cw_seal S ?_) | (with_reducible refine bp_seal S ?_) | (with_reducible refine ca_seal S ?_)); clear S; (try clear hc); intro w1 S; (try simp only [List.set_cons_zero, List.set_cons_succ, List.nil_append] at S); have hc := S.cells; simp only [Cells, cellsC, Im, Row, El, DicO, Nat.zero_add, Nat.reduceAdd] at hc))
          clear hc
          go_loopw [13] (fun iv w' => ∃ (i : Nat) (J : Fp), iv = .int .i64 i ∧ i ≤ D.V.length ∧ As (SH No I w [DicO gd D.L D.V D.ar, Im kyT B l] w' J)) (fun iv _ => D.V.length - (intOf iv).toNat)
          case atStart => exact ⟨0, _, rfl, by omega, ⟨S⟩⟩
          case round =>
            clear S
            obtain ⟨i, J, rfl, hi, ⟨S⟩⟩ := hrel
            by_cases hlt : i < D.V.length
            · have hlt' : decide ((i : Int) < D.V.length) = true := decide_eq_true (by omega)
              have HSM := As.mk (HVS.out _ (List.getElem_mem hlt))
              obtain ⟨q, hq⟩ : ∃ q, D.V[i] = q := ⟨_, rfl⟩
              have HQ := As.mk hq
              rw [hq] at HSM
              clear hq
              have hpp := small_pos HSM.out
              have hx1 : q.x.l.length ≤ 1000000 := by have := HSM.out.len; omega
              obtain ⟨xc, xm, ⟨xw, xh, xl⟩⟩ := q
              dsimp only at hx1 hpp
              have hz1 : ((xl.length : Int) == 0) = false := by rw [beq_eq_false_iff_ne]; omega
              have hc := S.cells; simp only [Cells, cellsC, Im, Row, El, DicO, Nat.zero_add, Nat.reduceAdd] at hc
              go_upto_region 31 with (first | ((first | (with_reducible refine wpl_seal S ?_) | (with_reducible refine cw_seal S ?_) | (with_reducible refine bp_seal S ?_) | (with_reducible refine ca_seal S ?_)); clear S; (try clear hc); intro w1 S; (try simp only [List.set_cons_zero, List.set_cons_succ, List.nil_append] at S); have hc := S.cells; simp only [Cells, cellsC, Im, Row, El, DicO, Nat.zero_add, Nat.reduceAdd] at hc) | (go_at_call 16; refine (variants_c gd D.L D.V D.ar S 0 rfl).mono ?_; rintro e w1 ⟨rfl, rfl⟩) | (go_at_call 17; refine (variant_s gd D.L D.V D.ar S 0 rfl i hlt (by rw [HQ.out]; exact hx1) HQ.out).mono ?_; rintro e w1 ⟨B1, c1, J1, rfl, S1⟩; clear S hc; have S := S1; clear S1; have hc := S.cells; simp only [Cells, cellsC, Im, Row, El, DicO, Nat.zero_add, Nat.reduceAdd] at hc))
              obtain ⟨gp, cp, e1, hcp⟩ := S.rowA 1 rfl hpp
              rw [Value.slice.injEq] at e1
              obtain ⟨rfl, -, rfl⟩ := e1
              have HJ : JLt 0 xl.length := ⟨hpp⟩
              have hnf := S.nfzR 1 rfl 0
              obtain ⟨Av, cv, e1, -, hs1⟩ := S.row 1 rfl
              rw [Value.slice.injEq] at e1
              obtain ⟨rfl, -, rfl⟩ := e1
              obtain ⟨b', o9, e9, hck⟩ := hs1.num_at (i := 0) (List.getElem?_eq_getElem hpp)
              cases e9
              clear hc
              have hc := S.cells; simp only [Cells, cellsC, Im, Row, El, DicO, Nat.zero_add, Nat.reduceAdd] at hc
              go_wp2_with (first | ((first | (with_reducible refine wpl_seal S ?_) | (with_reducible refine cw_seal S ?_) | (with_reducible refine bp_seal S ?_) | (with_reducible refine ca_seal S ?_)); clear S; (try clear hc); intro w1 S; (try simp only [List.set_cons_zero, List.set_cons_succ, List.nil_append] at S); have hc := S.cells; simp only [Cells, cellsC, Im, Row, El, DicO, Nat.zero_add, Nat.reduceAdd] at hc))
              go_roundw
              case rel => exact ⟨i + 1, _, by go_num, by omega, ⟨(S.sel [2, 3] (by decide) rfl (by simp) : SH _ _ _ [_, _] _ _)⟩⟩
              case measure => simp [intOf]; omega
            · have hlt' : decide ((i : Int) < D.V.length) = false := decide_eq_false (by omega)
              have hc := S.cells; simp only [Cells, cellsC, Im, Row, El, DicO, Nat.zero_add, Nat.reduceAdd] at hc
              go_wp2_with (first | ((first | (with_reducible refine wpl_seal S ?_) | (with_reducible refine cw_seal S ?_) | (with_reducible refine bp_seal S ?_) | (with_reducible refine ca_seal S ?_)); clear S; (try clear hc); intro w1 S; (try simp only [List.set_cons_zero, List.set_cons_succ, List.nil_append] at S); have hc := S.cells; simp only [Cells, cellsC, Im, Row, El, DicO, Nat.zero_add, Nat.reduceAdd] at hc) | (go_at_call 16; refine (variants_c gd D.L D.V D.ar S 0 rfl).mono ?_; rintro e w1 ⟨rfl, rfl⟩) | (go_at_call 11; refine (like_s gd D l S 0 rfl HDL.out HS.out (by omega) B cB (S.im 1 rfl)).mono ?_; rintro e w1 ⟨J1, rfl, S1⟩; clear S hc; have S := S1; clear S1; have hc := S.cells; simp only [Cells, cellsC, Im, Row, El, DicO, Nat.zero_add, Nat.reduceAdd] at hc) | (go_at_call 12; refine (dlives_c _ _ S.bd).mono ?_; rintro e w1 ⟨rfl, hx⟩; replace S := S.ext hx; clear hx; (try clear hc); have hc := S.cells; simp only [Cells, cellsC, Im, Row, El, DicO, Nat.zero_add, Nat.reduceAdd] at hc))
              go_ret
              exact ⟨rfl, S.out⟩
end Go.Proofs.YtnmlonicfncpfaaGreat
