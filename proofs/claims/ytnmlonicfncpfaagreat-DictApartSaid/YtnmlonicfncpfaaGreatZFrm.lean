/- The formats of a dictionary's variants, each once. -/
import Derived.Test.YtnmlonicfncpfaaGreatZTmp
import Derived.Test.YtnmlonicfncpfaaGreatMapB
import Derived.Maps.RangeRun
import Derived.WideKeyArr
namespace Go.Proofs.YtnmlonicfncpfaaGreat
open Go.RowKit Go.WideMaps X
set_option maxHeartbeats 2000000
set_option maxRecDepth 8000
set_option linter.unusedSimpArgs false
set_option linter.unusedVariables false
abbrev kF : Kd (Int × Int) := Kd.two 31
theorem ty_fms : TyOk Tryz.prog 95 kF 16 := TyOk.mk' (size := 2) (z := .agg #[.int .i64 0, .int .i64 0]) Tryz.underlying95 (by kernel_rfl) rfl rfl (by decide)
theorem fm_law : KeyLaw Tryz.prog 31 := deep_law (m := 2) (by omega) (by kernel_rfl) (by kernel_rfl) (by rw [Tryz.underlying31])
theorem wf_int {n : Int} (h : I64 n) : (Lit.int .i64 n).wf = true := by
  obtain ⟨h1, h2⟩ := h
  simp [Lit.wf, IntKind.signed, IntKind.bits, IntKind.min, IntKind.max]
  omega
theorem fm_keyOf (k : Pr) (h1 : I64 k.1) (h2 : I64 k.2) : ∃ l, keyOf Tryz.prog 31 (kv k) = some l := by
  have hkt : Tryz.prog.keyType 31 = true := by kernel_rfl
  have hf : (kv k).formed Tryz.prog 31 = true := by simp [Value.formed, kv, Tryz.underlying31, show Tryz.prog.cellsOf 31 = 2 by kernel_rfl]
  obtain ⟨m, hm⟩ : ∃ m, Tryz.prog.types.size = m + 1 := ⟨Tryz.prog.types.size - 1, by kernel_rfl⟩
  unfold keyOf
  simp only [Tryz.underlying31, hkt, hf, Bool.and_self, if_true, hm]
  unfold Program.keyLits
  simp [Tryz.underlying31, kv, Value.cells, show Tryz.prog.cellsOf 31 = 2 by kernel_rfl, show Tryz.prog.cellsOf 3 = 1 by kernel_rfl, Program.keyLits, Tryz.underlying3, wf_int h1, wf_int h2]
theorem zero_bool (w : World) : (zeroValue 4).run Tryz.prog w = .ok (.bool false) w := by go_simp
def frmL (V : List Pic) : List Pr := V.map fun p => (p.c, p.m)
section
variable {F0 I0 I : Fp} {w0 w : World} {O : List Ob}
theorem formats_s (b : Nat) (L : List Tm) (V : List Pic) (ar : Int) (S0 : SH F0 I0 w0 O w I) (i : Nat) (e : O[i]? = some (DicO b L V ar)) (hV : V.length ≤ 100000) (hf : ∀ p ∈ V, formP p.c p.m = true) {f : List Pr} (hfs : firsts (frmL V) = f) :
    Calls Tryz.prog 44 #[.pointer (some ⟨b, 0, none⟩)] w fun e w' => ∃ A c J, e = .returned (.slice A f.length c) ∧ SH F0 I0 w0 (Row kF (.slice A f.length c) f :: O) w' J := by
  obtain ⟨F, hI, S, back⟩ := S0.call1k i e
  refine Calls.mono (R := fun e w' => ∃ A c, e = .returned (.slice A f.length c) ∧ Upd w F I w' (Many [DicO b L V ar, Row kF (.slice A f.length c) f])) ?_ fun e w' ⟨A, c, h1, h2⟩ => by obtain ⟨J, h3⟩ := back _ _ h2; exact ⟨A, c, J, h1, h3⟩
  clear back S0 e
  obtain ⟨A, c, B, d, h1, h2, S⟩ := S.dOpen 0 rfl
  simp only [List.set_cons_zero, List.set_cons_succ, List.nil_append] at S
  have HF := As.mk hfs
  have HP := As.mk (show ∀ p ∈ V, I64 p.c ∧ I64 p.m from fun p hp => by
    obtain ⟨h1, h2, h3⟩ := formP_iff.1 (hf p hp)
    unfold I64
    omega)
  clear hf hfs
  have hmm := @run_makeMap Tryz.prog
  have hc := S.cells; simp only [Cells, cellsC, Im, Row, El, DicO, MapS, Nat.zero_add, Nat.reduceAdd] at hc
  go_enter Tryz.func44, Tryz.ntmps44
  go_wp2_with (first | ((first | (with_reducible refine wpl_seal S ?_) | (with_reducible refine cw_seal S ?_) | (with_reducible refine bp_seal S ?_) | (with_reducible refine ca_seal S ?_)); clear S; (try clear hc); intro w1 S; (try simp only [List.set_cons_zero, List.set_cons_succ, List.nil_append] at S); have hc := S.cells; simp only [Cells, cellsC, Im, Row, El, DicO, MapS, Nat.zero_add, Nat.reduceAdd] at hc))
  obtain ⟨g, hg⟩ : ∃ g, w.heap.size = g := ⟨_, rfl⟩
  rw [hg] at S ⊢
  clear hg hmm hc
  replace S := S.nilrow (k := kF)
  go_loopw [4, 13] (fun ov iv w' => ∃ (k : Nat) (J : Fp), iv = .int .i64 k ∧ k ≤ V.length ∧ As (SH F I w [Row kF ov (firsts (frmL (V.take k))), MapS g (frmL (V.take k)), Im kT A L, Im kG B V, Cel b 67 [.slice A L.length c, .slice B V.length d, .int .i64 ar]] w' J)) (fun _ iv _ => V.length - (intOf iv).toNat)
  case atStart => exact ⟨0, _, rfl, by omega, ⟨S⟩⟩
  case round =>
    clear S
    obtain ⟨k, J, rfl, hk, ⟨S⟩⟩ := hrel
    by_cases hlt : k < V.length
    · have hlt' : decide ((k : Int) < V.length) = true := decide_eq_true (by omega)
      have HT : As (frmL (V.take (k + 1)) = frmL (V.take k) ++ [(V[k].c, V[k].m)]) := ⟨by unfold frmL; rw [List.take_succ_eq_append_getElem hlt, List.map_append]; rfl⟩
      have HX := As.mk (HP.out V[k] (List.getElem_mem hlt))
      have HL : As (∀ x ∈ frmL (V.take k), ∃ l, keyOf Tryz.prog 31 (kv x) = some l) := ⟨fun x hx => by
        unfold frmL at hx
        rw [List.mem_map] at hx
        obtain ⟨y, hy, rfl⟩ := hx
        have := HP.out y (List.mem_of_mem_take hy)
        exact fm_keyOf _ this.1 this.2⟩
      have hll : (firsts (frmL (V.take k))).length ≤ 100000 := by
        have := firsts_len (frmL (V.take k))
        unfold frmL at this
        rw [List.length_map, List.length_take] at this
        unfold frmL
        omega
      obtain ⟨b2, o2, A2, c2, rfl, ⟨g0, g1, g2, g3, g4⟩, -, -⟩ := (S.im 3 rfl).pic_at (List.getElem?_eq_getElem hlt)
      generalize V[k] = x at g0 g1 g2 g3 g4 HT HX
      obtain ⟨xc, xm, ⟨xw, xh, xl⟩⟩ := x
      dsimp only at *
      have hkk := As.mk (fm_keyOf (xc, xm) HX.out.1 HX.out.2)
      generalize frmL (V.take k) = M at S HT HL hll
      have HFS := As.mk (firsts_snoc M (xc, xm))
      obtain ⟨Ar, cr, rfl, -, -⟩ := S.row 0 rfl
      have hc := S.cells; simp only [Cells, cellsC, Im, Row, El, DicO, MapS, Nat.zero_add, Nat.reduceAdd] at hc
      go_upto_region 6 with (first | ((first | (with_reducible refine wpl_seal S ?_) | (with_reducible refine cw_seal S ?_) | (with_reducible refine bp_seal S ?_) | (with_reducible refine ca_seal S ?_)); clear S; (try clear hc); intro w1 S; (try simp only [List.set_cons_zero, List.set_cons_succ, List.nil_append] at S); have hc := S.cells; simp only [Cells, cellsC, Im, Row, El, DicO, MapS, Nat.zero_add, Nat.reduceAdd] at hc))
      obtain ⟨g6, eg6⟩ := S.name 0 rfl; rw [← eg6] at S ⊢; clear eg6
      have hc := S.cells; simp only [Cells, cellsC, Im, Row, El, DicO, MapS, Nat.zero_add, Nat.reduceAdd] at hc
      have hlk : (Instr.lookup 122 (.map (some g)) (.agg #[.int .i64 xc, .int .i64 xm]) false).run Tryz.prog w1 = .ok (.bool (decide ((xc, xm) ∈ firsts M))) w1 := run_lookupB (k := (xc, xm)) fm_law Tryz.underlying122 zero_bool HL.out hkk.out (S.hasB 2 rfl)
      by_cases hm : (xc, xm) ∈ firsts M
      · have HF2 := As.mk (HFS.out.trans (if_pos hm))
        rw [decide_eq_true hm] at hlk
        clear hm HFS
        go_upto_region 8 with (first | ((first | (with_reducible refine wpl_seal S ?_) | (with_reducible refine cw_seal S ?_) | (with_reducible refine bp_seal S ?_) | (with_reducible refine ca_seal S ?_)); clear S; (try clear hc); intro w1 S; (try simp only [List.set_cons_zero, List.set_cons_succ, List.nil_append] at S); have hc := S.cells; simp only [Cells, cellsC, Im, Row, El, DicO, MapS, Nat.zero_add, Nat.reduceAdd] at hc))
        clear hlk
        have hadd := run_addB (k := (xc, xm)) fm_law Tryz.underlying122 HL.out hkk.out (S.hasB 2 rfl)
        change (Instr.mapUpdate 122 (.map (some g)) (.agg #[.int .i64 xc, .int .i64 xm]) (.bool true)).run Tryz.prog _ = _ at hadd
        have S2 := S.addB 2 rfl (xc, xm)
        simp only [List.set_cons_zero, List.set_cons_succ] at S2
        have S3 : SH F I w [_, _, _, _, _] _ _ := S2.sel [1, 2, 3, 4, 5] (by decide) rfl (by simp)
        have e1 : Row kF (.slice Ar (firsts M).length cr) (firsts M) = Row kF (.slice Ar (firsts M).length cr) (firsts (frmL (V.take (k + 1)))) := by rw [HT.out, HF2.out]
        rw [e1] at S3
        rw [← HT.out] at hadd S3
        have hc := S.cells; simp only [Cells, cellsC, Im, Row, El, DicO, MapS, Nat.zero_add, Nat.reduceAdd] at hc
        go_wp2_with (first | ((first | (with_reducible refine wpl_seal S ?_) | (with_reducible refine cw_seal S ?_) | (with_reducible refine bp_seal S ?_) | (with_reducible refine ca_seal S ?_)); clear S; (try clear hc); intro w1 S; (try simp only [List.set_cons_zero, List.set_cons_succ, List.nil_append] at S); have hc := S.cells; simp only [Cells, cellsC, Im, Row, El, DicO, MapS, Nat.zero_add, Nat.reduceAdd] at hc))
        go_roundw
        case rel => exact ⟨k + 1, _, by go_num, by omega, ⟨S3⟩⟩
        case measure => simp [intOf]; omega
      · have HF2 := As.mk (HFS.out.trans (if_neg hm))
        rw [decide_eq_false hm] at hlk
        clear hm HFS
        go_upto_region 8 with (first | ((first | (with_reducible refine wpl_seal S ?_) | (with_reducible refine cw_seal S ?_) | (with_reducible refine bp_seal S ?_) | (with_reducible refine ca_seal S ?_)); clear S; (try clear hc); intro w1 S; (try simp only [List.set_cons_zero, List.set_cons_succ, List.nil_append] at S); have hc := S.cells; simp only [Cells, cellsC, Im, Row, El, DicO, MapS, Nat.zero_add, Nat.reduceAdd] at hc) | (at_builtin; refine wpl_push S 2 rfl rfl _ _ rfl ty_fms rfl (xc, xm) _ _ rfl [.int .i64 xc, .int .i64 xm] _ (S.cel 0 rfl) rfl (by (try simp only [maxLen, List.length_nil, List.length_append, List.length_cons]); omega) (by (try simp only [maxLen, List.length_nil, List.length_append, List.length_cons]); omega) ?_; clear S; (try clear hc); intro va w1 S; simp only [List.set_cons_zero, List.set_cons_succ, List.nil_append] at S; have hc := S.cells; simp only [Cells, cellsC, Im, Row, El, DicO, MapS, Nat.zero_add, Nat.reduceAdd] at hc))
        clear hlk
        have hadd := run_addB (k := (xc, xm)) fm_law Tryz.underlying122 HL.out hkk.out (S.hasB 3 rfl)
        change (Instr.mapUpdate 122 (.map (some g)) (.agg #[.int .i64 xc, .int .i64 xm]) (.bool true)).run Tryz.prog _ = _ at hadd
        have S2 := S.addB 3 rfl (xc, xm)
        simp only [List.set_cons_zero, List.set_cons_succ] at S2
        rw [← HT.out] at hadd S2
        rw [← HF2.out, ← HT.out] at S2
        have hc := S.cells; simp only [Cells, cellsC, Im, Row, El, DicO, MapS, Nat.zero_add, Nat.reduceAdd] at hc
        go_wp2_with (first | ((first | (with_reducible refine wpl_seal S ?_) | (with_reducible refine cw_seal S ?_) | (with_reducible refine bp_seal S ?_) | (with_reducible refine ca_seal S ?_)); clear S; (try clear hc); intro w1 S; (try simp only [List.set_cons_zero, List.set_cons_succ, List.nil_append] at S); have hc := S.cells; simp only [Cells, cellsC, Im, Row, El, DicO, MapS, Nat.zero_add, Nat.reduceAdd] at hc))
        go_roundw
        case rel => exact ⟨k + 1, _, by go_num, by omega, ⟨S2.sel [2, 3, 4, 5, 6] (by decide) rfl (by simp)⟩⟩
        case measure => simp [intOf]; omega
    · have hlt' : decide ((k : Int) < V.length) = false := decide_eq_false (by omega)
      have HF2 := As.mk (show firsts (frmL (V.take k)) = f by rw [List.take_of_length_le (by omega)]; exact HF.out)
      rw [HF2.out] at S
      obtain ⟨Ar, cr, rfl, -, -⟩ := S.row 0 rfl
      have hc := S.cells; simp only [Cells, cellsC, Im, Row, El, DicO, MapS, Nat.zero_add, Nat.reduceAdd] at hc
      go_wp2_with (first | ((first | (with_reducible refine wpl_seal S ?_) | (with_reducible refine cw_seal S ?_) | (with_reducible refine bp_seal S ?_) | (with_reducible refine ca_seal S ?_)); clear S; (try clear hc); intro w1 S; (try simp only [List.set_cons_zero, List.set_cons_succ, List.nil_append] at S); have hc := S.cells; simp only [Cells, cellsC, Im, Row, El, DicO, MapS, Nat.zero_add, Nat.reduceAdd] at hc))
      go_ret
      exact ⟨Ar, cr, rfl, ((S.dClose 4 rfl h1 h2 (S.im 2 rfl) (S.im 3 rfl)).many [4, 0] (by decide) rfl (by simp)).retF 0 rfl⟩
end
end Go.Proofs.YtnmlonicfncpfaaGreat
