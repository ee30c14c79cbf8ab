/- A matrix mirrored, turned by a quarter: the document's. To lay a matrix by mirrors and quarters: no program in sight. A matrix, laid: the document's. -/
import Derived.Test.YtnmlonicfncpfaaGreatDLayC
namespace Go.Proofs.YtnmlonicfncpfaaGreat
open Go.RowKit X
set_option maxHeartbeats 4000000
set_option maxRecDepth 8000
set_option linter.unusedSimpArgs false
set_option linter.unusedVariables false
abbrev kyM : Kd Mx := Kd.mx 38 kP
theorem ysized_c (a b : Int) (w : World) {r : Bool} (hr : sizedP a b = r) : Calls Tryz.prog 63 #[.int .i64 a, .int .i64 b] w fun e w' => e = .returned (.bool r) ∧ w' = w := by
  have F : As (∀ x : Bool, (x = true ↔ 1 ≤ a ∧ a ≤ 4096 ∧ 1 ≤ b ∧ b ≤ 65536 ∧ a * b ≤ 16777216) → x = r) := ⟨fun x h => by rw [← hr, Bool.eq_iff_iff, h, sizedP_iff]⟩
  clear hr
  by_cases h1 : a < 1
  · have h1' : decide (a < 1) = true := decide_eq_true h1
    go_enter Tryz.func63, Tryz.ntmps63
    go_wp2
    go_ret
    exact ⟨congrArg (fun b => Ending.returned (.bool b)) (F.out false (by simp; omega)), rfl⟩
  · have h1' : decide (a < 1) = false := decide_eq_false h1
    by_cases h2 : a > 4096
    · have h2' : decide (a > 4096) = true := decide_eq_true h2
      go_enter Tryz.func63, Tryz.ntmps63
      go_wp2
      go_ret
      exact ⟨congrArg (fun b => Ending.returned (.bool b)) (F.out false (by simp; omega)), rfl⟩
    · have h2' : decide (a > 4096) = false := decide_eq_false h2
      by_cases h3 : b < 1
      · have h3' : decide (b < 1) = true := decide_eq_true h3
        go_enter Tryz.func63, Tryz.ntmps63
        go_wp2
        go_ret
        exact ⟨congrArg (fun b => Ending.returned (.bool b)) (F.out false (by simp; omega)), rfl⟩
      · have h3' : decide (b < 1) = false := decide_eq_false h3
        by_cases h4 : b > 65536
        · have h4' : decide (b > 65536) = true := decide_eq_true h4
          go_enter Tryz.func63, Tryz.ntmps63
          go_wp2
          go_ret
          exact ⟨congrArg (fun b => Ending.returned (.bool b)) (F.out false (by simp; omega)), rfl⟩
        · have h4' : decide (b > 65536) = false := decide_eq_false h4
          obtain ⟨hm1, hm2⟩ := mul_in (a := a) (b := b) (by omega) (by omega) (by omega) (by omega)
          go_enter Tryz.func63, Tryz.ntmps63
          go_wp2
          go_ret
          exact ⟨congrArg (fun b => Ending.returned (.bool b)) (F.out _ (by simp; omega)), rfl⟩
theorem yat_c (x : Mx) (A : Option Addr) (n : Nat) (a b : Int) (k : Nat) (y : Int) (ha : 0 ≤ a ∧ a < x.w) (hb : 0 ≤ b ∧ b < x.h) (hk : b * x.w + a = k) (hs : k < 1000000) (hw : x.w ≤ 65536) (hy : x.l[k]? = some y) (w : World) (I : Fp) (hI : ∀ b, I b → b < w.heap.size) (hl : Sl kP w I A x.l) :
    Calls Tryz.prog 82 #[mxV x A n, .int .i64 a, .int .i64 b] w fun e w' => e = .returned (.tuple #[.int .u64 y, .bool true]) ∧ Ext w w' := by
  have S := (SH.start w I hI).know (h := Im kP A x.l) hl
  obtain ⟨c, d, l⟩ := x
  dsimp only [mxV] at *
  obtain ⟨bb, oo, rfl, -⟩ := hl.num_at hy
  have hkl := (List.getElem?_eq_some_iff.1 hy).1
  have e1 : decide (a < 0) = false := decide_eq_false (by omega)
  have e2 : decide (b < 0) = false := decide_eq_false (by omega)
  have e3 : decide (a ≥ c) = false := decide_eq_false (by omega)
  have e4 : decide (b ≥ d) = false := decide_eq_false (by omega)
  have hbc : 0 ≤ b * c := Int.mul_nonneg hb.1 (by omega)
  have hbc2 : b * c ≤ 1000000 := by omega
  have hix : b * c + a = k := hk
  have HY := As.mk hy
  clear hl hk hy
  have hc := S.cells; simp only [Cells, cellsC, Im, Row, El, Nat.zero_add, Nat.reduceAdd] at hc
  go_enter Tryz.func82, Tryz.ntmps82
  go_wp2_with (first | ((first | (with_reducible refine wpl_seal S ?_) | (with_reducible refine cw_seal S ?_) | (with_reducible refine bp_seal S ?_) | (with_reducible refine ca_seal S ?_)); clear S; (try clear hc); intro w1 S; (try simp only [List.set_cons_zero, List.set_cons_succ, List.nil_append] at S); have hc := S.cells; simp only [Cells, cellsC, Im, Row, El, Nat.zero_add, Nat.reduceAdd] at hc; obtain ⟨b', o', e', hcx2⟩ := (S.im 1 rfl).num_at HY.out; cases e'))
  go_ret2
  exact ⟨rfl, S.out⟩
theorem div_mod {y N k : Int} (h0 : 0 ≤ k) (h1 : k < N) : (y * N + k) / N = y ∧ (y * N + k) % N = k := by
  have hN : 0 < N := by omega
  constructor
  · rw [Int.add_comm, Int.add_mul_ediv_right _ _ (by omega), Int.ediv_eq_zero_of_lt h0 h1, Int.zero_add]
  · rw [Int.add_comm, Int.add_mul_emod_self_right, Int.emod_eq_of_lt h0 h1]
def atX (x : Mx) (a b : Int) : Int := x.l.getD (b * x.w + a).toNat 0
def mirP (x : Mx) : Mx := ⟨x.w, x.h, (List.range x.l.length).map fun (i : Nat) => atX x (x.w - 1 - (i : Int) % x.w) ((i : Int) / x.w)⟩
theorem mir_c (x : Mx) (A : Option Addr) (n : Nat) (w : World) (I : Fp) (hI : ∀ b, I b → b < w.heap.size) (hl : Sl kP w I A x.l) (hm : (1 ≤ x.w ∧ x.w ≤ 65536) ∧ (1 ≤ x.h ∧ x.h ≤ 65536) ∧ (x.l.length : Int) = x.w * x.h) (hn : x.l.length ≤ 999999) {z : Mx} (hz : mirP x = z) :
    Calls Tryz.prog 61 #[mxV x A n] w fun e w' => ∃ B c, e = .returned (mxV z B c) ∧ z.l.length ≤ c ∧ Upd w No I w' (Im kP B z.l) := by
  have S := ((SH.start w I hI).know (h := Im kP A x.l) hl).nilrow (k := kP)
  obtain ⟨⟨w1, w2⟩, ⟨h1, h2⟩, hwh⟩ := hm
  have HAT := As.mk (fun w' I' hI' a b k y ha hb hk hs hy hl' => yat_c x A n a b k y ha hb hk hs w2 hy w' I' hI' hl')
  have HZ := As.mk hz
  have HWH := As.mk hwh
  obtain ⟨f, hf⟩ : ∃ f : Nat → Int, (fun (i : Nat) => atX x (x.w - 1 - (i : Int) % x.w) ((i : Int) / x.w)) = f := ⟨_, rfl⟩
  have HF := As.mk (fun i : Nat => (congrFun hf i).symm)
  unfold mirP at HZ
  rw [hf] at HZ
  clear hl hz hf hwh
  unfold atX at HF
  obtain ⟨xw, xh, l⟩ := x
  dsimp only [mxV] at *
  have hc := S.cells; simp only [Cells, cellsC, Im, Row, El, Nat.zero_add, Nat.reduceAdd] at hc
  go_enter Tryz.func61, Tryz.ntmps61
  go_wp2_with (first | ((first | (with_reducible refine wpl_seal S ?_) | (with_reducible refine cw_seal S ?_) | (with_reducible refine bp_seal S ?_) | (with_reducible refine ca_seal S ?_)); clear S; (try clear hc); intro w1 S; (try simp only [List.set_cons_zero, List.set_cons_succ, List.nil_append] at S); have hc := S.cells; simp only [Cells, cellsC, Im, Row, El, Nat.zero_add, Nat.reduceAdd] at hc))
  obtain ⟨g3, eg3⟩ := S.name 0 rfl; rw [← eg3] at S ⊢; clear eg3
  obtain ⟨g2, eg2⟩ := S.name 1 rfl; rw [← eg2] at S ⊢; clear eg2
  obtain ⟨g1, eg1⟩ := S.name 2 rfl; rw [← eg1] at S ⊢; clear eg1
  clear hc
  have S1 : SH No I w [Row kP (.slice none 0 0) [], Cel g3 38 [.int .i64 xw, .int .i64 xh, .slice none 0 0], Cel g2 38 [.int .i64 0, .int .i64 0, .slice none 0 0], Cel g1 38 [.int .i64 xw, .int .i64 xh, .slice A l.length n], Im kP A l] _ _ := (S.sel [3, 0, 1, 2, 4] (by decide) rfl (by simp) : SH _ _ _ [_, _, _, _, _] _ _)
  clear S
  go_loopw [4] (fun ov w' => ∃ (o : Nat) (v : Value) (J : Fp), ov = .int .i64 o ∧ (o : Int) ≤ xh ∧ ∃ cnt : Nat, (cnt : Int) = o * xw ∧ As (SH No I w [Row kP v ((List.range cnt).map f), Cel g3 38 [.int .i64 xw, .int .i64 xh, v], Cel g2 38 [.int .i64 0, .int .i64 0, .slice none 0 0], Cel g1 38 [.int .i64 xw, .int .i64 xh, .slice A l.length n], Im kP A l] w' J)) (fun ov _ => xh.toNat - (intOf ov).toNat)
  case atStart => exact ⟨0, _, _, rfl, by omega, 0, by simp, ⟨S1⟩⟩
  case round =>
    clear S1
    obtain ⟨o, v, J, rfl, ho, cnt, hcnt, ⟨S⟩⟩ := hrel
    obtain ⟨Av, cv, ev, hcv, -⟩ := S.row 0 rfl
    subst ev
    by_cases hlt : (o : Int) < xh
    · have hlt' : decide ((o : Int) < xh) = true := decide_eq_true hlt
      rw [List.length_map, List.length_range] at S
      have HC0 := As.mk hcnt
      clear hcnt hcv
      have hc := S.cells; simp only [Cells, cellsC, Im, Row, El, Nat.zero_add, Nat.reduceAdd] at hc
      go_wp2_with (first | ((first | (with_reducible refine wpl_seal S ?_) | (with_reducible refine cw_seal S ?_) | (with_reducible refine bp_seal S ?_) | (with_reducible refine ca_seal S ?_)); clear S; (try clear hc); intro w1 S; (try simp only [List.set_cons_zero, List.set_cons_succ, List.nil_append] at S); have hc := S.cells; simp only [Cells, cellsC, Im, Row, El, Nat.zero_add, Nat.reduceAdd] at hc))
      clear hc
      go_loopw [5] (fun iv w' => ∃ (j : Int) (v : Value) (J : Fp), iv = .int .i64 j ∧ -1 ≤ j ∧ j < xw ∧ ∃ c2 : Nat, As ((c2 : Int) = o * xw + (xw - 1 - j)) ∧ As (SH No I w [Row kP v ((List.range c2).map f), Cel g3 38 [.int .i64 xw, .int .i64 xh, v], Cel g2 38 [.int .i64 0, .int .i64 0, .slice none 0 0], Cel g1 38 [.int .i64 xw, .int .i64 xh, .slice A l.length n], Im kP A l] w' J)) (fun iv _ => (intOf iv + 1).toNat)
      case atStart => exact ⟨xw - 1, _, _, by first | rfl | go_num, by omega, by omega, cnt, ⟨by rw [HC0.out]; omega⟩, ⟨S⟩⟩
      case round =>
        clear S
        obtain ⟨j, v, J2, rfl, hj1, hj2, c2, HC2, ⟨S⟩⟩ := hrel
        obtain ⟨Av2, cv2, ev2, hcv2, -⟩ := S.row 0 rfl
        subst ev2
        rw [List.length_map, List.length_range] at S
        by_cases hj : j ≥ 0
        · have hj' : decide (j ≥ 0) = true := decide_eq_true hj
          have hin : 0 ≤ ((o : Int) * xw + j) ∧ ((o : Int) * xw + j) < l.length := by have := idx_in (a := xw) (b := xh) (x := j) (y := (o : Int)) HWH.out ⟨hj, hj2⟩ ⟨by omega, hlt⟩; exact this
          obtain ⟨k, hk⟩ : ∃ k : Nat, ((o : Int) * xw + j) = k := ⟨(((o : Int) * xw + j)).toNat, by omega⟩
          rw [hk] at hin
          obtain ⟨y, hy⟩ : ∃ y, l[k]? = some y := ⟨_, List.getElem?_eq_getElem (by omega)⟩
          obtain ⟨d1, d2⟩ := div_mod (y := (o : Int)) (N := xw) (k := xw - 1 - j) (by omega) (by omega)
          have HFY : As (f c2 = y) := ⟨by rw [HF.out, HC2.out]; rw [d1, d2]; rw [show xw - 1 - (xw - 1 - j) = j by omega, hk, Int.toNat_natCast, List.getD_eq_getElem?_getD, hy]; rfl⟩
          have hcl : c2 < l.length := by have e1 := HC2.out; have e2 := HWH.out; have e3 : (o : Int) * xw + (xw - 1 - j) < xh * xw := by { have := Int.mul_le_mul_of_nonneg_right (show (o : Int) + 1 ≤ xh by omega) (show 0 ≤ xw by omega); rw [Int.add_mul, Int.one_mul] at this; omega }; have e4 := Int.mul_comm xh xw; omega
          have HY := As.mk hy
          have HK := As.mk hk
          have hkl : k < 1000000 := by omega
          have hlen : ((List.range c2).map f).length ≤ 999999 := by rw [List.length_map, List.length_range]; omega
          clear hy hk d1 d2 hin
          have hc := S.cells; simp only [Cells, cellsC, Im, Row, El, Nat.zero_add, Nat.reduceAdd] at hc
          go_wp2_with (first | ((first | (with_reducible refine wpl_seal S ?_) | (with_reducible refine cw_seal S ?_) | (with_reducible refine bp_seal S ?_) | (with_reducible refine ca_seal S ?_)); clear S; (try clear hc); intro w1 S; (try simp only [List.set_cons_zero, List.set_cons_succ, List.nil_append] at S); have hc := S.cells; simp only [Cells, cellsC, Im, Row, El, Nat.zero_add, Nat.reduceAdd] at hc) | (go_at_call 82; refine (HAT.out _ _ S.bd j o k y ⟨hj, hj2⟩ ⟨by omega, hlt⟩ HK.out hkl HY.out (S.im 4 rfl)).mono ?_; rintro e w3 ⟨rfl, hx⟩; replace S := S.ext hx; clear hx; (try clear hc); have hc := S.cells; simp only [Cells, cellsC, Im, Row, El, Nat.zero_add, Nat.reduceAdd] at hc) | (at_builtin; refine wpl_push S 1 rfl rfl _ _ rfl ty_pixs rfl y _ _ rfl [_] _ (S.cel 0 rfl) rfl (by (try simp only [maxLen, List.length_nil, List.length_append, List.length_cons]); omega) (by (try simp only [maxLen, List.length_nil, List.length_append, List.length_cons]); omega) ?_; clear S; (try clear hc); intro va w1 S; simp only [List.set_cons_zero, List.set_cons_succ, List.nil_append] at S; obtain ⟨Av, cv, eva, -, -⟩ := S.row 1 rfl; subst eva; have hc := S.cells; simp only [Cells, cellsC, Im, Row, El, Nat.zero_add, Nat.reduceAdd] at hc))
          have hs1 : (List.range c2).map f ++ [y] = (List.range (c2 + 1)).map f := by rw [List.range_succ, List.map_append, ← HFY.out]; rfl
          rw [show ((List.range c2).map f ++ [y]).length = c2 + 1 by simp, hs1] at S
          go_roundw
          case rel => exact ⟨j - 1, _, _, by go_num, by omega, by omega, c2 + 1, ⟨by have := HC2.out; omega⟩, ⟨(S.sel [1, 2, 3, 4, 5] (by decide) rfl (by simp) : SH _ _ _ [_, _, _, _, _] _ _)⟩⟩
          case measure => simp [intOf]; omega
        · have hj' : decide (j ≥ 0) = false := decide_eq_false hj
          have hc := S.cells; simp only [Cells, cellsC, Im, Row, El, Nat.zero_add, Nat.reduceAdd] at hc
          go_wp2_with (first | ((first | (with_reducible refine wpl_seal S ?_) | (with_reducible refine cw_seal S ?_) | (with_reducible refine bp_seal S ?_) | (with_reducible refine ca_seal S ?_)); clear S; (try clear hc); intro w1 S; (try simp only [List.set_cons_zero, List.set_cons_succ, List.nil_append] at S); have hc := S.cells; simp only [Cells, cellsC, Im, Row, El, Nat.zero_add, Nat.reduceAdd] at hc))
          go_roundw
          case rel => exact ⟨o + 1, _, _, by go_num, by omega, c2, by have := HC2.out; rw [Int.natCast_add, Int.natCast_one, Int.add_mul, Int.one_mul]; omega, ⟨S⟩⟩
          case measure => simp [intOf]; omega
    · have hlt' : decide ((o : Int) < xh) = false := decide_eq_false hlt
      have hoe : (o : Int) = xh := by omega
      have hcl : cnt = l.length := by have e1 := HWH.out; have e4 := Int.mul_comm xh xw; rw [hoe] at hcnt; omega
      rw [List.length_map, List.length_range] at S
      rw [hcl] at S
      have HZL : As (z.l = (List.range l.length).map f ∧ z.w = xw ∧ z.h = xh) := ⟨by rw [← HZ.out]; exact ⟨rfl, rfl, rfl⟩⟩
      clear hoe hcnt hcl hcv
      have hc := S.cells; simp only [Cells, cellsC, Im, Row, El, Nat.zero_add, Nat.reduceAdd] at hc
      go_wp2_with (first | ((first | (with_reducible refine wpl_seal S ?_) | (with_reducible refine cw_seal S ?_) | (with_reducible refine bp_seal S ?_) | (with_reducible refine ca_seal S ?_)); clear S; (try clear hc); intro w1 S; (try simp only [List.set_cons_zero, List.set_cons_succ, List.nil_append] at S); have hc := S.cells; simp only [Cells, cellsC, Im, Row, El, Nat.zero_add, Nat.reduceAdd] at hc))
      refine bodyPost_ret (results_cell_row rfl _ _ g2 38 _ (0, 0) _ rfl (S.cel 2 rfl) Tryz.underlying38 rfl (by kernel_rfl)) rfl ?_
      obtain ⟨Ar, cr, I2, e3, hcr, S2, -⟩ := S.frow 0 rfl
      rw [Value.slice.injEq] at e3
      obtain ⟨rfl, e4, rfl⟩ := e3
      obtain ⟨h1, h2, h3⟩ := HZL.out
      obtain ⟨zw, zh, zl⟩ := z
      dsimp only at h1 h2 h3
      subst h1 h2 h3
      exact ⟨_, _, by dsimp only [mxV]; rw [← e4], hcr, S2.ret 0 rfl⟩
def quaP (x : Mx) : Mx := ⟨x.h, x.w, (List.range x.l.length).map fun (i : Nat) => atX x ((i : Int) / x.h) (x.h - 1 - (i : Int) % x.h)⟩
theorem qua_c (x : Mx) (A : Option Addr) (n : Nat) (w : World) (I : Fp) (hI : ∀ b, I b → b < w.heap.size) (hl : Sl kP w I A x.l) (hm : (1 ≤ x.w ∧ x.w ≤ 65536) ∧ (1 ≤ x.h ∧ x.h ≤ 65536) ∧ (x.l.length : Int) = x.w * x.h) (hn : x.l.length ≤ 999999) {z : Mx} (hz : quaP x = z) :
    Calls Tryz.prog 62 #[mxV x A n] w fun e w' => ∃ B c, e = .returned (mxV z B c) ∧ z.l.length ≤ c ∧ Upd w No I w' (Im kP B z.l) := by
  have S := ((SH.start w I hI).know (h := Im kP A x.l) hl).nilrow (k := kP)
  obtain ⟨⟨w1, w2⟩, ⟨h1, h2⟩, hwh⟩ := hm
  have HAT := As.mk (fun w' I' hI' a b k y ha hb hk hs hy hl' => yat_c x A n a b k y ha hb hk hs w2 hy w' I' hI' hl')
  have HZ := As.mk hz
  have HWH := As.mk hwh
  obtain ⟨f, hf⟩ : ∃ f : Nat → Int, (fun (i : Nat) => atX x ((i : Int) / x.h) (x.h - 1 - (i : Int) % x.h)) = f := ⟨_, rfl⟩
  have HF := As.mk (fun i : Nat => (congrFun hf i).symm)
  unfold quaP at HZ
  rw [hf] at HZ
  clear hl hz hf hwh
  unfold atX at HF
  obtain ⟨xw, xh, l⟩ := x
  dsimp only [mxV] at *
  have hc := S.cells; simp only [Cells, cellsC, Im, Row, El, Nat.zero_add, Nat.reduceAdd] at hc
  go_enter Tryz.func62, Tryz.ntmps62
  go_wp2_with (first | ((first | (with_reducible refine wpl_seal S ?_) | (with_reducible refine cw_seal S ?_) | (with_reducible refine bp_seal S ?_) | (with_reducible refine ca_seal S ?_)); clear S; (try clear hc); intro w1 S; (try simp only [List.set_cons_zero, List.set_cons_succ, List.nil_append] at S); have hc := S.cells; simp only [Cells, cellsC, Im, Row, El, Nat.zero_add, Nat.reduceAdd] at hc))
  obtain ⟨g3, eg3⟩ := S.name 0 rfl; rw [← eg3] at S ⊢; clear eg3
  obtain ⟨g2, eg2⟩ := S.name 1 rfl; rw [← eg2] at S ⊢; clear eg2
  obtain ⟨g1, eg1⟩ := S.name 2 rfl; rw [← eg1] at S ⊢; clear eg1
  clear hc
  have S1 : SH No I w [Row kP (.slice none 0 0) [], Cel g3 38 [.int .i64 xh, .int .i64 xw, .slice none 0 0], Cel g2 38 [.int .i64 0, .int .i64 0, .slice none 0 0], Cel g1 38 [.int .i64 xw, .int .i64 xh, .slice A l.length n], Im kP A l] _ _ := (S.sel [3, 0, 1, 2, 4] (by decide) rfl (by simp) : SH _ _ _ [_, _, _, _, _] _ _)
  clear S
  go_loopw [4] (fun ov w' => ∃ (o : Nat) (v : Value) (J : Fp), ov = .int .i64 o ∧ (o : Int) ≤ xw ∧ ∃ cnt : Nat, (cnt : Int) = o * xh ∧ As (SH No I w [Row kP v ((List.range cnt).map f), Cel g3 38 [.int .i64 xh, .int .i64 xw, v], Cel g2 38 [.int .i64 0, .int .i64 0, .slice none 0 0], Cel g1 38 [.int .i64 xw, .int .i64 xh, .slice A l.length n], Im kP A l] w' J)) (fun ov _ => xw.toNat - (intOf ov).toNat)
  case atStart => exact ⟨0, _, _, rfl, by omega, 0, by simp, ⟨S1⟩⟩
  case round =>
    clear S1
    obtain ⟨o, v, J, rfl, ho, cnt, hcnt, ⟨S⟩⟩ := hrel
    obtain ⟨Av, cv, ev, hcv, -⟩ := S.row 0 rfl
    subst ev
    by_cases hlt : (o : Int) < xw
    · have hlt' : decide ((o : Int) < xw) = true := decide_eq_true hlt
      rw [List.length_map, List.length_range] at S
      have HC0 := As.mk hcnt
      clear hcnt hcv
      have hc := S.cells; simp only [Cells, cellsC, Im, Row, El, Nat.zero_add, Nat.reduceAdd] at hc
      go_wp2_with (first | ((first | (with_reducible refine wpl_seal S ?_) | (with_reducible refine cw_seal S ?_) | (with_reducible refine bp_seal S ?_) | (with_reducible refine ca_seal S ?_)); clear S; (try clear hc); intro w1 S; (try simp only [List.set_cons_zero, List.set_cons_succ, List.nil_append] at S); have hc := S.cells; simp only [Cells, cellsC, Im, Row, El, Nat.zero_add, Nat.reduceAdd] at hc))
      clear hc
      go_loopw [5] (fun iv w' => ∃ (j : Int) (v : Value) (J : Fp), iv = .int .i64 j ∧ -1 ≤ j ∧ j < xh ∧ ∃ c2 : Nat, As ((c2 : Int) = o * xh + (xh - 1 - j)) ∧ As (SH No I w [Row kP v ((List.range c2).map f), Cel g3 38 [.int .i64 xh, .int .i64 xw, v], Cel g2 38 [.int .i64 0, .int .i64 0, .slice none 0 0], Cel g1 38 [.int .i64 xw, .int .i64 xh, .slice A l.length n], Im kP A l] w' J)) (fun iv _ => (intOf iv + 1).toNat)
      case atStart => exact ⟨xh - 1, _, _, by first | rfl | go_num, by omega, by omega, cnt, ⟨by rw [HC0.out]; omega⟩, ⟨S⟩⟩
      case round =>
        clear S
        obtain ⟨j, v, J2, rfl, hj1, hj2, c2, HC2, ⟨S⟩⟩ := hrel
        obtain ⟨Av2, cv2, ev2, hcv2, -⟩ := S.row 0 rfl
        subst ev2
        rw [List.length_map, List.length_range] at S
        by_cases hj : j ≥ 0
        · have hj' : decide (j ≥ 0) = true := decide_eq_true hj
          have hin : 0 ≤ (j * xw + (o : Int)) ∧ (j * xw + (o : Int)) < l.length := by have := idx_in (a := xw) (b := xh) (x := (o : Int)) (y := j) HWH.out ⟨by omega, hlt⟩ ⟨hj, hj2⟩; exact this
          obtain ⟨k, hk⟩ : ∃ k : Nat, (j * xw + (o : Int)) = k := ⟨((j * xw + (o : Int))).toNat, by omega⟩
          rw [hk] at hin
          obtain ⟨y, hy⟩ : ∃ y, l[k]? = some y := ⟨_, List.getElem?_eq_getElem (by omega)⟩
          obtain ⟨d1, d2⟩ := div_mod (y := (o : Int)) (N := xh) (k := xh - 1 - j) (by omega) (by omega)
          have HFY : As (f c2 = y) := ⟨by rw [HF.out, HC2.out]; rw [d1, d2]; rw [show xh - 1 - (xh - 1 - j) = j by omega, hk, Int.toNat_natCast, List.getD_eq_getElem?_getD, hy]; rfl⟩
          have hcl : c2 < l.length := by have e1 := HC2.out; have e2 := HWH.out; have e3 : (o : Int) * xh + (xh - 1 - j) < xw * xh := by { have := Int.mul_le_mul_of_nonneg_right (show (o : Int) + 1 ≤ xw by omega) (show 0 ≤ xh by omega); rw [Int.add_mul, Int.one_mul] at this; omega }; omega
          have HY := As.mk hy
          have HK := As.mk hk
          have hkl : k < 1000000 := by omega
          have hlen : ((List.range c2).map f).length ≤ 999999 := by rw [List.length_map, List.length_range]; omega
          clear hy hk d1 d2 hin
          have hc := S.cells; simp only [Cells, cellsC, Im, Row, El, Nat.zero_add, Nat.reduceAdd] at hc
          go_wp2_with (first | ((first | (with_reducible refine wpl_seal S ?_) | (with_reducible refine cw_seal S ?_) | (with_reducible refine bp_seal S ?_) | (with_reducible refine ca_seal S ?_)); clear S; (try clear hc); intro w1 S; (try simp only [List.set_cons_zero, List.set_cons_succ, List.nil_append] at S); have hc := S.cells; simp only [Cells, cellsC, Im, Row, El, Nat.zero_add, Nat.reduceAdd] at hc) | (go_at_call 82; refine (HAT.out _ _ S.bd o j k y ⟨by omega, hlt⟩ ⟨hj, hj2⟩ HK.out hkl HY.out (S.im 4 rfl)).mono ?_; rintro e w3 ⟨rfl, hx⟩; replace S := S.ext hx; clear hx; (try clear hc); have hc := S.cells; simp only [Cells, cellsC, Im, Row, El, Nat.zero_add, Nat.reduceAdd] at hc) | (at_builtin; refine wpl_push S 1 rfl rfl _ _ rfl ty_pixs rfl y _ _ rfl [_] _ (S.cel 0 rfl) rfl (by (try simp only [maxLen, List.length_nil, List.length_append, List.length_cons]); omega) (by (try simp only [maxLen, List.length_nil, List.length_append, List.length_cons]); omega) ?_; clear S; (try clear hc); intro va w1 S; simp only [List.set_cons_zero, List.set_cons_succ, List.nil_append] at S; obtain ⟨Av, cv, eva, -, -⟩ := S.row 1 rfl; subst eva; have hc := S.cells; simp only [Cells, cellsC, Im, Row, El, Nat.zero_add, Nat.reduceAdd] at hc))
          have hs1 : (List.range c2).map f ++ [y] = (List.range (c2 + 1)).map f := by rw [List.range_succ, List.map_append, ← HFY.out]; rfl
          rw [show ((List.range c2).map f ++ [y]).length = c2 + 1 by simp, hs1] at S
          go_roundw
          case rel => exact ⟨j - 1, _, _, by go_num, by omega, by omega, c2 + 1, ⟨by have := HC2.out; omega⟩, ⟨(S.sel [1, 2, 3, 4, 5] (by decide) rfl (by simp) : SH _ _ _ [_, _, _, _, _] _ _)⟩⟩
          case measure => simp [intOf]; omega
        · have hj' : decide (j ≥ 0) = false := decide_eq_false hj
          have hc := S.cells; simp only [Cells, cellsC, Im, Row, El, Nat.zero_add, Nat.reduceAdd] at hc
          go_wp2_with (first | ((first | (with_reducible refine wpl_seal S ?_) | (with_reducible refine cw_seal S ?_) | (with_reducible refine bp_seal S ?_) | (with_reducible refine ca_seal S ?_)); clear S; (try clear hc); intro w1 S; (try simp only [List.set_cons_zero, List.set_cons_succ, List.nil_append] at S); have hc := S.cells; simp only [Cells, cellsC, Im, Row, El, Nat.zero_add, Nat.reduceAdd] at hc))
          go_roundw
          case rel => exact ⟨o + 1, _, _, by go_num, by omega, c2, by have := HC2.out; rw [Int.natCast_add, Int.natCast_one, Int.add_mul, Int.one_mul]; omega, ⟨S⟩⟩
          case measure => simp [intOf]; omega
    · have hlt' : decide ((o : Int) < xw) = false := decide_eq_false hlt
      have hoe : (o : Int) = xw := by omega
      have hcl : cnt = l.length := by have e1 := HWH.out; have e4 := Int.mul_comm xh xw; rw [hoe] at hcnt; omega
      rw [List.length_map, List.length_range] at S
      rw [hcl] at S
      have HZL : As (z.l = (List.range l.length).map f ∧ z.w = xh ∧ z.h = xw) := ⟨by rw [← HZ.out]; exact ⟨rfl, rfl, rfl⟩⟩
      clear hoe hcnt hcl hcv
      have hc := S.cells; simp only [Cells, cellsC, Im, Row, El, Nat.zero_add, Nat.reduceAdd] at hc
      go_wp2_with (first | ((first | (with_reducible refine wpl_seal S ?_) | (with_reducible refine cw_seal S ?_) | (with_reducible refine bp_seal S ?_) | (with_reducible refine ca_seal S ?_)); clear S; (try clear hc); intro w1 S; (try simp only [List.set_cons_zero, List.set_cons_succ, List.nil_append] at S); have hc := S.cells; simp only [Cells, cellsC, Im, Row, El, Nat.zero_add, Nat.reduceAdd] at hc))
      refine bodyPost_ret (results_cell_row rfl _ _ g2 38 _ (0, 0) _ rfl (S.cel 2 rfl) Tryz.underlying38 rfl (by kernel_rfl)) rfl ?_
      obtain ⟨Ar, cr, I2, e3, hcr, S2, -⟩ := S.frow 0 rfl
      rw [Value.slice.injEq] at e3
      obtain ⟨rfl, e4, rfl⟩ := e3
      obtain ⟨h1, h2, h3⟩ := HZL.out
      obtain ⟨zw, zh, zl⟩ := z
      dsimp only at h1 h2 h3
      subst h1 h2 h3
      exact ⟨_, _, by dsimp only [mxV]; rw [← e4], hcr, S2.ret 0 rfl⟩
end Go.Proofs.YtnmlonicfncpfaaGreat
namespace Go.Proofs.YtnmlonicfncpfaaGreat
open Go.RowKit X
set_option maxRecDepth 8000
/-- a matrix that may be, of small size -/
def MxOk (x : Mx) : Prop := (1 ≤ x.w ∧ x.w ≤ 65536) ∧ (1 ≤ x.h ∧ x.h ≤ 65536) ∧ (x.l.length : Int) = x.w * x.h
theorem mx_ext {x y : Mx} (hx : MxOk x) (hy : MxOk y) (hw : x.w = y.w) (hh : x.h = y.h) (h : ∀ a b, 0 ≤ a ∧ a < x.w → 0 ≤ b ∧ b < x.h → atX x a b = atX y a b) : x = y := by
  obtain ⟨xw, xh, xl⟩ := x
  obtain ⟨yw, yh, yl⟩ := y
  dsimp only at hw hh h
  subst hw hh
  congr 1
  obtain ⟨⟨h1, -⟩, -, h3⟩ := hx
  obtain ⟨-, -, h4⟩ := hy
  dsimp only at h1 h3 h4
  apply List.ext_getElem (by omega)
  intro i hi1 hi2
  obtain ⟨ha, hb⟩ := split_in h3 h1 hi1
  have := h _ _ ha hb
  unfold atX at this
  dsimp only at this
  rw [Int.mul_comm, Int.mul_ediv_add_emod, Int.toNat_natCast, List.getD_eq_getElem?_getD, List.getD_eq_getElem?_getD, List.getElem?_eq_getElem hi1, List.getElem?_eq_getElem hi2] at this
  exact this
theorem at_map {W : Int} {n : Nat} {H : Int} {f : Nat → Int} {h : Int} (hn : (n : Int) = W * H) {a b : Int} (ha : 0 ≤ a ∧ a < W) (hb : 0 ≤ b ∧ b < H) : atX ⟨W, h, (List.range n).map f⟩ a b = f (b * W + a).toNat := by
  obtain ⟨i1, i2⟩ := idx_in hn ha hb
  unfold atX
  dsimp only
  rw [List.getD_eq_getElem?_getD, List.getElem?_map, List.getElem?_range (by omega)]
  rfl
theorem lay_ok {x : Mx} (hx : MxOk x) (g : Nat) : MxOk (layP x g) := by
  obtain ⟨h1, h2, h3⟩ := hx
  unfold layP MxOk sizeP
  rw [List.length_map, List.length_range]
  split
  · exact ⟨h1, h2, h3⟩
  · exact ⟨h2, h1, by rw [h3]; exact Int.mul_comm _ _⟩
theorem lay_at {x : Mx} (hx : MxOk x) {g : Nat} {a b : Int} (ha : 0 ≤ a ∧ a < (sizeP x.w x.h g).1) (hb : 0 ≤ b ∧ b < (sizeP x.w x.h g).2) : atX (layP x g) a b = atX x (fromP x.w x.h a b g).1 (fromP x.w x.h a b g).2 := by
  obtain ⟨-, -, h3⟩ := hx
  have hn : (x.l.length : Int) = (sizeP x.w x.h g).1 * (sizeP x.w x.h g).2 := by
    rw [h3]; unfold sizeP; split
    · rfl
    · exact Int.mul_comm _ _
  obtain ⟨i1, i2⟩ := idx_in hn ha hb
  obtain ⟨d1, d2⟩ := div_mod (y := b) (N := (sizeP x.w x.h g).1) (k := a) ha.1 ha.2
  unfold layP
  rw [at_map hn ha hb]
  unfold layAt
  rw [Int.toNat_of_nonneg i1, d1, d2]
  rfl
theorem mir_ok {x : Mx} (hx : MxOk x) : MxOk (mirP x) := by
  obtain ⟨h1, h2, h3⟩ := hx
  unfold mirP MxOk
  rw [List.length_map, List.length_range]
  exact ⟨h1, h2, h3⟩
theorem qua_ok {x : Mx} (hx : MxOk x) : MxOk (quaP x) := by
  obtain ⟨h1, h2, h3⟩ := hx
  unfold quaP MxOk
  rw [List.length_map, List.length_range]
  exact ⟨h2, h1, by rw [h3]; exact Int.mul_comm _ _⟩
theorem mir_at {x : Mx} (hx : MxOk x) {a b : Int} (ha : 0 ≤ a ∧ a < x.w) (hb : 0 ≤ b ∧ b < x.h) : atX (mirP x) a b = atX x (x.w - 1 - a) b := by
  obtain ⟨-, -, h3⟩ := hx
  obtain ⟨i1, i2⟩ := idx_in h3 ha hb
  obtain ⟨d1, d2⟩ := div_mod (y := b) (N := x.w) (k := a) ha.1 ha.2
  unfold mirP
  rw [at_map h3 ha hb]
  rw [Int.toNat_of_nonneg i1, d1, d2]
theorem qua_at {x : Mx} (hx : MxOk x) {a b : Int} (ha : 0 ≤ a ∧ a < x.h) (hb : 0 ≤ b ∧ b < x.w) : atX (quaP x) a b = atX x b (x.h - 1 - a) := by
  obtain ⟨-, -, h3⟩ := hx
  have hn : (x.l.length : Int) = x.h * x.w := by rw [h3]; exact Int.mul_comm _ _
  obtain ⟨i1, i2⟩ := idx_in hn ha hb
  obtain ⟨d1, d2⟩ := div_mod (y := b) (N := x.h) (k := a) ha.1 ha.2
  unfold quaP
  rw [at_map hn ha hb]
  rw [Int.toNat_of_nonneg i1, d1, d2]
theorem lay_0 {x : Mx} (hx : MxOk x) : layP x 0 = x :=
  mx_ext (lay_ok hx 0) hx rfl rfl fun a b ha hb => by rw [lay_at hx ha hb]; rfl
theorem lay_4 {x : Mx} (hx : MxOk x) : mirP x = layP x 4 :=
  mx_ext (mir_ok hx) (lay_ok hx 4) rfl rfl fun a b ha hb => by rw [mir_at hx ha hb, lay_at hx ha hb]; rfl
theorem lay_next {x : Mx} (hx : MxOk x) {g : Nat} (hg : g < 7) (h3 : g ≠ 3) : quaP (layP x g) = layP x (g + 1) := by
  have ho := lay_ok hx g
  have key : ∀ (a : Int) (y : Mx), 0 ≤ a ∧ a < (quaP y).w → 0 ≤ y.h - 1 - a ∧ y.h - 1 - a < y.h := fun a y h => ⟨by have : a < y.h := h.2; omega, by have := h.1; omega⟩
  obtain rfl | rfl | rfl | rfl | rfl | rfl : g = 0 ∨ g = 1 ∨ g = 2 ∨ g = 4 ∨ g = 5 ∨ g = 6 := by omega
  all_goals
    refine mx_ext (qua_ok ho) (lay_ok hx _) rfl rfl fun a b ha hb => ?_
    rw [qua_at ho ha hb]
    have hh := key a _ ha
    rw [lay_at hx hb hh, lay_at hx ha hb]
    congr 1
    all_goals (simp only [fromP, from0, layP, sizeP]; simp; try omega)
end Go.Proofs.YtnmlonicfncpfaaGreat
namespace Go.Proofs.YtnmlonicfncpfaaGreat
open Go.RowKit X
set_option maxHeartbeats 4000000
set_option maxRecDepth 8000
set_option linter.unusedSimpArgs false
set_option linter.unusedVariables false
theorem ylay_c (x : Mx) (g : Nat) (hg : g < 8) (A : Option Addr) (n : Nat) (w : World) (I : Fp) (hI : ∀ b, I b → b < w.heap.size) (hl : Sl kP w I A x.l) (hx : MxOk x) (hn : x.l.length ≤ 999999) (hnc : x.l.length ≤ n) {z : Mx} (hz : layP x g = z) (ho : layOk x g = true) :
    Calls Tryz.prog 32 #[mxV x A n, .int .i64 g] w fun e w' => ∃ B c, e = .returned (.tuple #[mxV z B c, .int .i64 0]) ∧ z.l.length ≤ c ∧ Upd w No I w' (Im kP B z.l) := by
  have S := (SH.start w I hI).know (h := Im kP A x.l) hl
  have HX := As.mk hx
  have HZ := As.mk hz
  obtain ⟨q, hq⟩ : ∃ q, g % 4 = q := ⟨_, rfl⟩
  have hq1 : ((g : Int) % 4) = (q : Int) := by omega
  have hq2 : (Int.tmod (g : Int) 4) = (q : Int) := by rw [Int.tmod_eq_emod_of_nonneg (by omega)]; exact hq1
  have hq4 : q < 4 := by omega
  have hlt0 : decide ((g : Int) < 0) = false := decide_eq_false (by omega)
  have hgt7 : decide ((g : Int) > 7) = false := decide_eq_false (by omega)
  have HO := As.mk (show sizedP z.w z.h = true by rw [← hz]; exact ho)
  have HST := As.mk (fun (k : Nat) (y : Mx) (hy : layP x k = y) => (And.intro (by rw [← hy]; exact lay_ok hx k) (by rw [← hy]; unfold layP; rw [List.length_map, List.length_range]; exact hn) : MxOk y ∧ y.l.length ≤ 999999))
  have HNX := As.mk (fun (k : Nat) (hk : k < 7) (h3 : k ≠ 3) => lay_next hx hk h3)
  clear hl hx hz ho
  by_cases hg3 : 3 < g
  · have hg3' : decide ((g : Int) > 3) = true := decide_eq_true (by omega)
    have hsg : 4 + q = g := by omega
    have hs0 : 4 % 4 = 0 := rfl
    have H4 := As.mk (lay_4 HX.out)
    have hc := S.cells; simp only [Cells, cellsC, Im, Row, El, Im, Nat.zero_add, Nat.reduceAdd] at hc
    go_enter Tryz.func32, Tryz.ntmps32
    go_wp2_with (first | ((first | (with_reducible refine wpl_seal S ?_) | (with_reducible refine cw_seal S ?_) | (with_reducible refine bp_seal S ?_) | (with_reducible refine ca_seal S ?_)); clear S; (try clear hc); intro w1 S; (try simp only [List.set_cons_zero, List.set_cons_succ, List.nil_append] at S); have hc := S.cells; simp only [Cells, cellsC, Im, Row, El, Im, Nat.zero_add, Nat.reduceAdd] at hc) | (go_at_call 61; refine (mir_c x A n _ _ S.bd (S.im 2 rfl) HX.out hn H4.out).mono ?_; rintro e w1 ⟨B1, c1, rfl, hc1, hu⟩; obtain ⟨I1, S1, hI1⟩ := S.new hu; clear S hu hI1; (try clear hc); have S := S1; clear S1; have hc := S.cells; simp only [Cells, cellsC, Im, Row, El, Im, Nat.zero_add, Nat.reduceAdd] at hc; have hc := S.cells; simp only [Cells, cellsC, Im, Row, El, Im, Nat.zero_add, Nat.reduceAdd] at hc))
    obtain ⟨g4, eg4⟩ := S.name 1 rfl; rw [← eg4] at S ⊢; clear eg4
    obtain ⟨g1, eg1⟩ := S.name 2 rfl; rw [← eg1] at S ⊢; clear eg1
    replace S := ((S.sel [2, 1, 0] (by decide) rfl (by simp) : SH _ _ _ [_, _, _] _ _) : SH _ _ _ [_, _, _] _ _)
    obtain ⟨y0, hy0⟩ : ∃ y, layP x 4 = y := ⟨_, rfl⟩
    have HY0 := As.mk (show layP x (4 + 0) = y0 from hy0)
    rw [hy0] at S hc1
    (try rw [hy0])
    clear hc
    go_loopw [6] (fun iv w' => ∃ (k : Nat) (y : Mx) (B : Option Addr) (c : Nat) (J : Fp), iv = .int .i64 k ∧ k ≤ q ∧ y.l.length ≤ c ∧ As (layP x (4 + k) = y) ∧ As (SH No I w [Cel g1 38 [.int .i64 y.w, .int .i64 y.h, .slice B y.l.length c], Cel g4 38 [.int .i64 0, .int .i64 0, .slice none 0 0], Im kP B y.l] w' J)) (fun iv _ => q - (intOf iv).toNat)
    case atStart => exact ⟨0, y0, _, _, _, rfl, by omega, hc1, HY0, ⟨S⟩⟩
    case round =>
      clear S hc1
      obtain ⟨k, y, B, c, J, rfl, hk, hyc, HY, ⟨S⟩⟩ := hrel
      obtain ⟨hyo, hyl⟩ := HST.out _ y HY.out
      have HYO := As.mk hyo
      clear hyo
      by_cases hlt : k < q
      · have hlt' : decide ((k : Int) < q) = true := decide_eq_true (by omega)
        obtain ⟨y2, hy2⟩ : ∃ y2, quaP y = y2 := ⟨_, rfl⟩
        have HY2 : As (layP x (4 + (k + 1)) = y2) := ⟨by rw [← hy2, ← HY.out, HNX.out _ (by omega) (by omega)]; rfl⟩
        have HQ := As.mk hy2
        clear hy2
        have hc := S.cells; simp only [Cells, cellsC, Im, Row, El, Im, Nat.zero_add, Nat.reduceAdd] at hc
        go_wp2_with (first | ((first | (with_reducible refine wpl_seal S ?_) | (with_reducible refine cw_seal S ?_) | (with_reducible refine bp_seal S ?_) | (with_reducible refine ca_seal S ?_)); clear S; (try clear hc); intro w1 S; (try simp only [List.set_cons_zero, List.set_cons_succ, List.nil_append] at S); have hc := S.cells; simp only [Cells, cellsC, Im, Row, El, Im, Nat.zero_add, Nat.reduceAdd] at hc) | (go_at_call 62; refine (qua_c y B c _ _ S.bd (S.im 2 rfl) HYO.out hyl HQ.out).mono ?_; rintro e w1 ⟨B1, c1, rfl, hc1, hu⟩; obtain ⟨I1, S1, hI1⟩ := S.new hu; clear S hu hI1; (try clear hc); have S := S1; clear S1; have hc := S.cells; simp only [Cells, cellsC, Im, Row, El, Im, Nat.zero_add, Nat.reduceAdd] at hc; have hc := S.cells; simp only [Cells, cellsC, Im, Row, El, Im, Nat.zero_add, Nat.reduceAdd] at hc))
        go_roundw
        case rel => exact ⟨k + 1, y2, B1, c1, _, by go_num, by omega, hc1, HY2, ⟨(S.sel [1, 2, 0] (by decide) rfl (by simp) : SH _ _ _ [_, _, _] _ _)⟩⟩
        case measure => simp [intOf]; omega
      · have hlt' : decide ((k : Int) < q) = false := decide_eq_false (by omega)
        obtain rfl : k = q := by omega
        have HYZ : As (y = z) := ⟨by rw [← HY.out, ← HZ.out, hsg]⟩
        obtain rfl := HYZ.out
        have hc := S.cells; simp only [Cells, cellsC, Im, Row, El, Im, Nat.zero_add, Nat.reduceAdd] at hc
        go_wp2_with (first | ((first | (with_reducible refine wpl_seal S ?_) | (with_reducible refine cw_seal S ?_) | (with_reducible refine bp_seal S ?_) | (with_reducible refine ca_seal S ?_)); clear S; (try clear hc); intro w1 S; (try simp only [List.set_cons_zero, List.set_cons_succ, List.nil_append] at S); have hc := S.cells; simp only [Cells, cellsC, Im, Row, El, Im, Nat.zero_add, Nat.reduceAdd] at hc) | (go_at_call 63; refine (ysized_c _ _ _ HO.out).mono ?_; rintro e w1 ⟨rfl, rfl⟩))
        refine bodyPost_ret (results_cell_tmpR rfl _ _ g4 38 _ (0, 0) _ rfl (S.cel 1 rfl) Tryz.underlying38 rfl (by kernel_rfl)) rfl ?_
        exact ⟨B, c, rfl, hyc, S.ret 2 rfl⟩
  · have hg3' : decide ((g : Int) > 3) = false := decide_eq_false (by omega)
    have hsg : 0 + q = g := by omega
    have hs0 : 0 % 4 = 0 := rfl
    obtain ⟨y0, hy0⟩ : ∃ y, x = y := ⟨_, rfl⟩
    have HY0 := As.mk (show layP x (0 + 0) = y0 by rw [← hy0]; exact lay_0 HX.out)
    have hc1 : y0.l.length ≤ n := by rw [← hy0]; exact hnc
    rw [hy0] at S hn
    rw [hy0]
    have hc := S.cells; simp only [Cells, cellsC, Im, Row, El, Im, Nat.zero_add, Nat.reduceAdd] at hc
    go_enter Tryz.func32, Tryz.ntmps32
    go_wp2_with (first | ((first | (with_reducible refine wpl_seal S ?_) | (with_reducible refine cw_seal S ?_) | (with_reducible refine bp_seal S ?_) | (with_reducible refine ca_seal S ?_)); clear S; (try clear hc); intro w1 S; (try simp only [List.set_cons_zero, List.set_cons_succ, List.nil_append] at S); have hc := S.cells; simp only [Cells, cellsC, Im, Row, El, Im, Nat.zero_add, Nat.reduceAdd] at hc))
    obtain ⟨g4, eg4⟩ := S.name 0 rfl; rw [← eg4] at S ⊢; clear eg4
    obtain ⟨g1, eg1⟩ := S.name 1 rfl; rw [← eg1] at S ⊢; clear eg1
    replace S := ((S.sel [1, 0, 2] (by decide) rfl (by simp) : SH _ _ _ [_, _, _] _ _) : SH _ _ _ [_, _, _] _ _)
    clear hc
    go_loopw [6] (fun iv w' => ∃ (k : Nat) (y : Mx) (B : Option Addr) (c : Nat) (J : Fp), iv = .int .i64 k ∧ k ≤ q ∧ y.l.length ≤ c ∧ As (layP x (0 + k) = y) ∧ As (SH No I w [Cel g1 38 [.int .i64 y.w, .int .i64 y.h, .slice B y.l.length c], Cel g4 38 [.int .i64 0, .int .i64 0, .slice none 0 0], Im kP B y.l] w' J)) (fun iv _ => q - (intOf iv).toNat)
    case atStart => exact ⟨0, y0, _, _, _, rfl, by omega, hc1, HY0, ⟨S⟩⟩
    case round =>
      clear S hc1
      obtain ⟨k, y, B, c, J, rfl, hk, hyc, HY, ⟨S⟩⟩ := hrel
      obtain ⟨hyo, hyl⟩ := HST.out _ y HY.out
      have HYO := As.mk hyo
      clear hyo
      by_cases hlt : k < q
      · have hlt' : decide ((k : Int) < q) = true := decide_eq_true (by omega)
        obtain ⟨y2, hy2⟩ : ∃ y2, quaP y = y2 := ⟨_, rfl⟩
        have HY2 : As (layP x (0 + (k + 1)) = y2) := ⟨by rw [← hy2, ← HY.out, HNX.out _ (by omega) (by omega)]; rfl⟩
        have HQ := As.mk hy2
        clear hy2
        have hc := S.cells; simp only [Cells, cellsC, Im, Row, El, Im, Nat.zero_add, Nat.reduceAdd] at hc
        go_wp2_with (first | ((first | (with_reducible refine wpl_seal S ?_) | (with_reducible refine cw_seal S ?_) | (with_reducible refine bp_seal S ?_) | (with_reducible refine ca_seal S ?_)); clear S; (try clear hc); intro w1 S; (try simp only [List.set_cons_zero, List.set_cons_succ, List.nil_append] at S); have hc := S.cells; simp only [Cells, cellsC, Im, Row, El, Im, Nat.zero_add, Nat.reduceAdd] at hc) | (go_at_call 62; refine (qua_c y B c _ _ S.bd (S.im 2 rfl) HYO.out hyl HQ.out).mono ?_; rintro e w1 ⟨B1, c1, rfl, hc1, hu⟩; obtain ⟨I1, S1, hI1⟩ := S.new hu; clear S hu hI1; (try clear hc); have S := S1; clear S1; have hc := S.cells; simp only [Cells, cellsC, Im, Row, El, Im, Nat.zero_add, Nat.reduceAdd] at hc; have hc := S.cells; simp only [Cells, cellsC, Im, Row, El, Im, Nat.zero_add, Nat.reduceAdd] at hc))
        go_roundw
        case rel => exact ⟨k + 1, y2, B1, c1, _, by go_num, by omega, hc1, HY2, ⟨(S.sel [1, 2, 0] (by decide) rfl (by simp) : SH _ _ _ [_, _, _] _ _)⟩⟩
        case measure => simp [intOf]; omega
      · have hlt' : decide ((k : Int) < q) = false := decide_eq_false (by omega)
        obtain rfl : k = q := by omega
        have HYZ : As (y = z) := ⟨by rw [← HY.out, ← HZ.out, hsg]⟩
        obtain rfl := HYZ.out
        have hc := S.cells; simp only [Cells, cellsC, Im, Row, El, Im, Nat.zero_add, Nat.reduceAdd] at hc
        go_wp2_with (first | ((first | (with_reducible refine wpl_seal S ?_) | (with_reducible refine cw_seal S ?_) | (with_reducible refine bp_seal S ?_) | (with_reducible refine ca_seal S ?_)); clear S; (try clear hc); intro w1 S; (try simp only [List.set_cons_zero, List.set_cons_succ, List.nil_append] at S); have hc := S.cells; simp only [Cells, cellsC, Im, Row, El, Im, Nat.zero_add, Nat.reduceAdd] at hc) | (go_at_call 63; refine (ysized_c _ _ _ HO.out).mono ?_; rintro e w1 ⟨rfl, rfl⟩))
        refine bodyPost_ret (results_cell_tmpR rfl _ _ g4 38 _ (0, 0) _ rfl (S.cel 1 rfl) Tryz.underlying38 rfl (by kernel_rfl)) rfl ?_
        exact ⟨B, c, rfl, hyc, S.ret 2 rfl⟩
end Go.Proofs.YtnmlonicfncpfaaGreat
