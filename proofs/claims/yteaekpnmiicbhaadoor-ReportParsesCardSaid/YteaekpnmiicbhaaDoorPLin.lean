/- A line's record: the document's. -/
import Derived.Test.YteaekpnmiicbhaaDoorPSpl
import Derived.Test.YteaekpnmiicbhaaDoorPCan
import Derived.Test.YteaekpnmiicbhaaDoorPGTx
namespace Go.Proofs.YteaekpnmiicbhaaDoor.X
open Go.RowKit
theorem results_cell_tmpR {P : Program} {fn : Func} {t p : Tmp} {ty : TypeId} (h : fn.results = #[.cell p ty, .tmp t]) (tmps : Array Value) (w : World) (g : Nat) (e : TypeId) (cs : Array Value) (fr : Nat × Nat) (d : TypeDesc)
    (hp : tmps.getD p undef = .pointer (some ⟨g, 0, none⟩)) (hg : w.heap[g]? = some (.cells cs e fr))
    (hu : P.underlying ty = some d) (hd : (match d with | .struct _ | .array _ _ => true | _ => false) = true) (hi : (P.info? ty).map (·.size) = some cs.size) :
    (results fn tmps).run P w = .ok (.tuple #[.agg cs, tmps.getD t undef]) w := by
  have hp' : tmps[p]?.getD undef = .pointer (some ⟨g, 0, none⟩) := by simpa using hp
  simp [results, h, hp', asAddr, run_loadVar_row w g e ty cs fr d hg hu hd hi]
end Go.Proofs.YteaekpnmiicbhaaDoor.X
namespace Go.Proofs.YteaekpnmiicbhaaDoor
open Go.RowKit X
set_option maxHeartbeats 2000000
set_option maxRecDepth 8000
set_option linter.unusedSimpArgs false
set_option linter.unusedVariables false
def zeroR5 : R5 := ⟨0, 0, 0, 0, 0⟩
def goL : List (List UInt8) → List Int → Int × List Int
  | [], ns => (0, ns)
  | w :: r, ns => if (parseR w).2 ≠ 0 then ((parseR w).2, []) else if decL (parseR w).1.toNat ≠ w then (3, []) else goL r (ns ++ [(parseR w).1])
def mkL : List Int → R5
  | [a, b, c, d, e] => ⟨a, b, c, d, e⟩
  | _ => zeroR5
def endL (p : Int × List Int) : R5 × Int := if p.1 ≠ 0 then (zeroR5, p.1) else if 7 < p.2.getD 4 0 then (zeroR5, 4) else (mkL p.2, 0)
def lineR (zs : List UInt8) : R5 × Int := if (spl 32 zs).length ≠ 5 then (zeroR5, 10) else endL (goL (spl 32 zs) [])
theorem mkL_list {l : List Int} (h : l.length = 5) : (mkL l).list = l := by
  obtain ⟨a, b, c, d, e, rfl⟩ : ∃ a b c d e, l = [a, b, c, d, e] := by
    rcases l with _ | ⟨a, _ | ⟨b, _ | ⟨c, _ | ⟨d, _ | ⟨e, _ | ⟨f, r⟩⟩⟩⟩⟩⟩ <;> simp at h
    exact ⟨a, b, c, d, e, rfl⟩
  rfl
theorem spl_mem_len (c : UInt8) : ∀ (l : List UInt8), ∀ x ∈ spl c l, x.length ≤ l.length
  | [], x, hx => by simp [spl] at hx; subst hx; simp
  | b :: r, x, hx => by
    have ih := spl_mem_len c r
    have hne := spl_ne c r
    unfold spl at hx
    split at hx
    · rcases List.mem_cons.1 hx with rfl | hx
      · simp
      · have := ih x hx; simp; omega
    · cases hs : spl c r with
      | nil => exact absurd hs hne
      | cons a t =>
        rw [hs] at hx ih
        rcases List.mem_cons.1 hx with rfl | hx
        · have := ih a List.mem_cons_self; simp; omega
        · have := ih x (List.mem_cons_of_mem _ hx); simp; omega
theorem goL_len : ∀ (ws : List (List UInt8)) (ns : List Int), (goL ws ns).1 = 0 → (goL ws ns).2.length = ns.length + ws.length
  | [], ns, _ => by simp [goL]
  | w :: r, ns, h => by
    simp only [goL] at h ⊢
    split
    · rename_i h0; rw [if_pos h0] at h; exact absurd h h0
    · rename_i h0
      rw [if_neg h0] at h
      split
      · rename_i h1; rw [if_pos h1] at h; cases h
      · rename_i h1
        rw [if_neg h1] at h
        rw [goL_len r _ h]
        simp
        omega
theorem gline_c (zs : List UInt8) (hz : zs.length ≤ 1000) (w : World) (I : Fp) (hI : ∀ b, I b → b < w.heap.size) {x : R5} {er : Int} (hr : lineR zs = (x, er)) :
    Calls Tryd.prog 34 #[strV zs] w fun e w' => e = .returned (.tuple #[x.v, .int .i64 er]) ∧ Ext w w' := by
  have S := SH.start w I hI
  have HR := As.mk hr
  clear hr
  obtain ⟨ws, hws⟩ : ∃ ws, spl 32 zs = ws := ⟨_, rfl⟩
  have HWS := As.mk hws
  have HWL : As (∀ x ∈ ws, x.length ≤ 1000) := ⟨fun x hx => by rw [← hws] at hx; have := spl_mem_len 32 zs x hx; omega⟩
  clear hws
  have hc := S.cells; simp only [Cells, cellsC, Im, Row, El, Nat.zero_add, Nat.reduceAdd] at hc
  go_enter Tryd.func34, Tryd.ntmps34
  go_upto_region 2 with (first | ((first | (with_reducible refine wpl_seal S ?_) | (with_reducible refine cw_seal S ?_) | (with_reducible refine bp_seal S ?_) | (with_reducible refine ca_seal S ?_)); clear S; (try clear hc); intro w1 S; (try simp only [List.set_cons_zero, List.set_cons_succ, List.nil_append] at S); have hc := S.cells; simp only [Cells, cellsC, Im, Row, El, Nat.zero_add, Nat.reduceAdd] at hc) | (go_at_call 33; refine (gsplit_c zs 32 _ _ S.bd (by omega)).mono ?_; rw [HWS.out]; rintro e w1 ⟨v, rfl, hu⟩; obtain ⟨I1, S1, hI1⟩ := S.new hu; clear S hu hI1; (try clear hc); have S := S1; clear S1; have hc := S.cells; simp only [Cells, cellsC, Im, Row, El, Nat.zero_add, Nat.reduceAdd] at hc; obtain ⟨A4, c4, I1, e1, hc4, S1, hI1⟩ := S.frow 0 rfl; subst e1; clear S hI1; have S := S1; clear S1; simp only [List.set_cons_zero, List.set_cons_succ, List.nil_append] at S; have hc := S.cells; simp only [Cells, cellsC, Im, Row, El, Nat.zero_add, Nat.reduceAdd] at hc))
  obtain ⟨gr, egr⟩ := S.name 1 rfl; rw [← egr] at S ⊢; clear egr
  by_cases h5 : ws.length = 5
  · have h5' : ((ws.length : Int) != 5) = false := by rw [h5]; rfl
    have HLR : As (lineR zs = endL (goL ws [])) := ⟨by unfold lineR; rw [HWS.out, if_neg (by omega)]⟩
    have HW5 := As.mk h5
    have hc := S.cells; simp only [Cells, cellsC, Im, Row, El, Nat.zero_add, Nat.reduceAdd] at hc
    go_wp2_with (first | ((first | (with_reducible refine wpl_seal S ?_) | (with_reducible refine cw_seal S ?_) | (with_reducible refine bp_seal S ?_) | (with_reducible refine ca_seal S ?_)); clear S; (try clear hc); intro w1 S; (try simp only [List.set_cons_zero, List.set_cons_succ, List.nil_append] at S); have hc := S.cells; simp only [Cells, cellsC, Im, Row, El, Nat.zero_add, Nat.reduceAdd] at hc))
    replace S := (S.nilrow (k := kI))
    replace S := ((S.sel [0, 1, 2] (by decide) rfl (by simp) : SH _ _ _ [_, _, _] _ _) : SH _ _ _ [_, _, _] _ _)
    clear hc h5 h5'
    go_loopw [5, 6] (fun ov iv w' => ∃ (k : Nat) (ns : List Int) (J : Fp), iv = .int .i64 k ∧ k ≤ 5 ∧ ns.length = k ∧ As (goL ws [] = goL (ws.drop k) ns) ∧ As (SH No I w [Row kI ov ns, Im kT A4 ws, Cel gr 41 [.int .i64 0, .int .i64 0, .int .i64 0, .int .i64 0, .int .i64 0]] w' J)) (fun _ iv _ => 5 - (intOf iv).toNat)
    case atStart => exact ⟨0, [], _, rfl, by omega, rfl, ⟨rfl⟩, ⟨S⟩⟩
    case round =>
      clear S
      obtain ⟨k, ns, J, rfl, hk, hnl, HG, ⟨S⟩⟩ := hrel
      have HNL := As.mk hnl
      have hnl5 : ns.length ≤ 5 := by omega
      clear hnl
      by_cases hk5 : k < 5
      · have hk5' : decide ((k : Int) < 5) = true := by simp; omega
        have hkw : k < ws.length := by rw [HW5.out]; exact hk5
        obtain ⟨b, o, rfl, hcx⟩ := (S.im 1 rfl).str_at hkw
        have HD : As (ws.drop k = ws[k] :: ws.drop (k + 1)) := ⟨List.drop_eq_getElem_cons hkw⟩
        have hwl := HWL.out _ (List.getElem_mem hkw)
        obtain ⟨y, hy⟩ : ∃ y, ws[k] = y := ⟨_, rfl⟩
        have HY := As.mk hy
        rw [hy] at hcx HD hwl
        clear hy
        obtain ⟨q, hq⟩ : ∃ q, parseR y = q := ⟨_, rfl⟩
        obtain ⟨qn, qe⟩ := q
        have HQ := As.mk hq
        have HG2 : As (goL ws [] = if qe ≠ 0 then (qe, []) else if decL qn.toNat ≠ y then (3, []) else goL (ws.drop (k + 1)) (ns ++ [qn])) := ⟨by rw [HG.out, HD.out]; simp only [goL]; rw [hq]⟩
        clear HG HD
        by_cases h0 : qe = 0
        · subst h0
          obtain ⟨c1, c2, -⟩ := decL_canon hq
          obtain ⟨qq, rfl⟩ : ∃ qq : Nat, qn = qq := ⟨qn.toNat, by omega⟩
          have hdl := decL_le (n := qq) (by omega)
          rw [if_neg (by simp), Int.toNat_natCast] at HG2
          clear hq
          have hc := S.cells; simp only [Cells, cellsC, Im, Row, El, Nat.zero_add, Nat.reduceAdd] at hc
          have hq := S.cellsE; simp only [CellsE, cellsE, Im, Row, El, Nat.zero_add, Nat.reduceAdd] at hq
          go_upto_if 28 with (first | ((first | (with_reducible refine wpl_seal S ?_) | (with_reducible refine cw_seal S ?_) | (with_reducible refine bp_seal S ?_) | (with_reducible refine ca_seal S ?_)); clear S; (try clear hc); intro w1 S; (try simp only [List.set_cons_zero, List.set_cons_succ, List.nil_append] at S); have hc := S.cells; simp only [Cells, cellsC, Im, Row, El, Nat.zero_add, Nat.reduceAdd] at hc) | (go_at_call 49; refine (gparse_c y (by omega) _).mono ?_; rw [HQ.out]; rintro e w1 ⟨rfl, rfl⟩))
          go_wp2_with (first | ((first | (with_reducible refine wpl_seal S ?_) | (with_reducible refine cw_seal S ?_) | (with_reducible refine bp_seal S ?_) | (with_reducible refine ca_seal S ?_)); clear S; (try clear hc); intro w1 S; (try simp only [List.set_cons_zero, List.set_cons_succ, List.nil_append] at S); have hc := S.cells; simp only [Cells, cellsC, Im, Row, El, Nat.zero_add, Nat.reduceAdd] at hc))
          have hqx := ClE.cell (w := wr.drew) hcx
          refine wp_region_ext [⟨[0, 2, 3, 4, 5], [], 1, true⟩] [6] (by kernel_rfl) (by kernel_rfl) ?_
          refine mix_cons rfl rfl rfl ?_
          simp only [opsAt, List.getD_cons_succ, List.getD_cons_zero]
          repeat (go_big_quiet_step ((intro hC; first | rfl | (go_simp; first | done | rfl))))
          refine wpQuiet_nil ?_
          repeat (go_big_quiet_step ((intro hC; first | rfl | (go_simp; first | done | rfl))))
          refine wpQuiet_nil ?_
          clear hqx hq hcx
          replace S := S.drew
          generalize wr.drew = w1 at S ⊢
          have hc := S.cells; simp only [Cells, cellsC, Im, Row, El, Nat.zero_add, Nat.reduceAdd] at hc
          go_wp2_with (first | ((first | (with_reducible refine mx_seal S ?_) | (with_reducible refine wpl_seal S ?_) | (with_reducible refine ca_seal S ?_)); clear S; (try clear hc); intro w1 S; (try simp only [List.set_cons_zero, List.set_cons_succ, List.nil_append] at S); have hc := S.cells; simp only [Cells, cellsC, Im, Row, El, Nat.zero_add, Nat.reduceAdd] at hc) | (go_at_call 28; refine (gdec_c (qq + 1) qq (by omega) (by omega) _ _ S.bd).mono ?_; rintro e w1 ⟨rfl, hx⟩; have hxe := hx; replace S := S.ext hx; clear hx; (try clear hc); have hc := S.cells; simp only [Cells, cellsC, Im, Row, El, Nat.zero_add, Nat.reduceAdd] at hc))
          refine ⟨fun _ => hxe, ?_⟩
          clear hxe
          refine mix_last rfl ?_
          simp only [opsAt, List.getD_cons_succ, List.getD_cons_zero]
          repeat (go_big_quiet_step ((intro hC; first | rfl | (go_simp; first | done | rfl))))
          refine wpQuiet_nil ?_
          simp only [calmQ]
          obtain ⟨bq, hbq⟩ : ∃ bq, (decL qq == y) = bq := ⟨_, rfl⟩
          rw [hbq]
          have HBQ := As.mk hbq
          clear hbq
          rcases bq with _ | _
          · have hne : decL qq ≠ y := fun e => by have h := HBQ.out; rw [e] at h; simp at h
            have HE : As (x = zeroR5 ∧ er = 3) := ⟨by
              have h := HR.out
              rw [HLR.out, HG2.out, if_pos hne] at h
              unfold endL at h
              rw [if_pos (by decide), Prod.mk.injEq] at h
              exact ⟨h.1.symm, h.2.symm⟩⟩
            obtain ⟨rfl, rfl⟩ := HE.out
            clear hne
            have hc := S.cells; simp only [Cells, cellsC, Im, Row, El, Nat.zero_add, Nat.reduceAdd] at hc
            go_wp2_with (first | ((first | (with_reducible refine wpl_seal S ?_) | (with_reducible refine cw_seal S ?_) | (with_reducible refine bp_seal S ?_) | (with_reducible refine ca_seal S ?_)); clear S; (try clear hc); intro w1 S; (try simp only [List.set_cons_zero, List.set_cons_succ, List.nil_append] at S); have hc := S.cells; simp only [Cells, cellsC, Im, Row, El, Nat.zero_add, Nat.reduceAdd] at hc))
            refine bodyPost_ret (results_cell_tmpR rfl _ _ gr 41 _ (0, 0) _ rfl (S.cel 2 rfl) Tryd.underlying41 rfl (by kernel_rfl)) rfl ?_
            exact ⟨rfl, S.out⟩
          · have hey : decL qq = y := eq_of_beq HBQ.out
            have HG3 := As.mk (HG2.out.trans (if_neg (fun h => h hey)))
            clear hey HG2
            have hc := S.cells; simp only [Cells, cellsC, Im, Row, El, Nat.zero_add, Nat.reduceAdd] at hc
            go_wp2_with (first | ((first | (with_reducible refine wpl_seal S ?_) | (with_reducible refine cw_seal S ?_) | (with_reducible refine bp_seal S ?_) | (with_reducible refine ca_seal S ?_)); clear S; (try clear hc); intro w1 S; (try simp only [List.set_cons_zero, List.set_cons_succ, List.nil_append] at S); have hc := S.cells; simp only [Cells, cellsC, Im, Row, El, Nat.zero_add, Nat.reduceAdd] at hc) | (at_builtin; refine wpl_push S 1 rfl rfl _ _ rfl ty_ints rfl (qq : Int) _ _ rfl [_] _ (S.cel 0 rfl) rfl (by (try simp only [maxLen, List.length_nil, List.length_append, List.length_cons]); omega) (by (try simp only [maxLen, List.length_nil, List.length_append, List.length_cons]); omega) ?_; clear S; (try clear hc); intro va w1 S; simp only [List.set_cons_zero, List.set_cons_succ, List.nil_append] at S; have hc := S.cells; simp only [Cells, cellsC, Im, Row, El, Nat.zero_add, Nat.reduceAdd] at hc))
            go_roundw
            case rel => exact ⟨k + 1, ns ++ [(qq : Int)], _, by go_num, by omega, by rw [List.length_append, HNL.out]; rfl, HG3, ⟨(S.sel [1, 2, 3] (by decide) rfl (by simp) : SH _ _ _ [_, _, _] _ _)⟩⟩
            case measure => simp [intOf]; omega
        · have h0' : (qe != 0) = true := by rw [bne_iff_ne]; exact h0
          have HE : As (x = zeroR5 ∧ er = qe) := ⟨by
            have h := HR.out
            rw [HLR.out, HG2.out, if_pos h0] at h
            unfold endL at h
            rw [if_pos h0, Prod.mk.injEq] at h
            exact ⟨h.1.symm, h.2.symm⟩⟩
          obtain ⟨rfl, rfl⟩ := HE.out
          clear h0 hq
          have hc := S.cells; simp only [Cells, cellsC, Im, Row, El, Nat.zero_add, Nat.reduceAdd] at hc
          go_wp2_with (first | ((first | (with_reducible refine wpl_seal S ?_) | (with_reducible refine cw_seal S ?_) | (with_reducible refine bp_seal S ?_) | (with_reducible refine ca_seal S ?_)); clear S; (try clear hc); intro w1 S; (try simp only [List.set_cons_zero, List.set_cons_succ, List.nil_append] at S); have hc := S.cells; simp only [Cells, cellsC, Im, Row, El, Nat.zero_add, Nat.reduceAdd] at hc) | (go_at_call 49; refine (gparse_c y (by omega) _).mono ?_; rw [HQ.out]; rintro e w1 ⟨rfl, rfl⟩))
          refine bodyPost_ret (results_cell_tmpR rfl _ _ gr 41 _ (0, 0) _ rfl (S.cel 2 rfl) Tryd.underlying41 rfl (by kernel_rfl)) rfl ?_
          exact ⟨rfl, S.out⟩
      · have hk5' : decide ((k : Int) < 5) = false := by simp; omega
        obtain rfl : k = 5 := by omega
        have HG2 : As (goL ws [] = (0, ns)) := ⟨by rw [HG.out, List.drop_of_length_le (by rw [HW5.out]; exact Nat.le_refl _)]; rfl⟩
        obtain ⟨Av, cv, eva, hcv, hs⟩ := S.row 0 rfl
        subst eva
        have h4 : 4 < ns.length := by rw [HNL.out]; omega
        obtain ⟨b, o, rfl, hcx⟩ := hs.int_at h4
        have HV : As (ns.getD 4 0 = ns[4]) := ⟨by rw [List.getD_eq_getElem?_getD, List.getElem?_eq_getElem h4]; rfl⟩
        have HX2 : As ((x, er) = if (7 : Int) < ns[4] then (zeroR5, 4) else (mkL ns, 0)) := ⟨by
          rw [← HR.out, HLR.out, HG2.out]
          unfold endL
          rw [if_neg (by simp)]
          show (if (7 : Int) < ns.getD 4 0 then _ else _) = _
          rw [HV.out]⟩
        generalize ns[4] = v at hcx HX2
        by_cases h7 : 7 < v
        · have h7' : decide (7 < v) = true := by simpa using h7
          have h8 := HX2.out
          rw [if_pos h7, Prod.mk.injEq] at h8
          obtain ⟨rfl, rfl⟩ := h8
          clear h7 hs
          have hc := S.cells; simp only [Cells, cellsC, Im, Row, El, Nat.zero_add, Nat.reduceAdd] at hc
          go_wp2_with (first | ((first | (with_reducible refine wpl_seal S ?_) | (with_reducible refine cw_seal S ?_) | (with_reducible refine bp_seal S ?_) | (with_reducible refine ca_seal S ?_)); clear S; (try clear hc); intro w1 S; (try simp only [List.set_cons_zero, List.set_cons_succ, List.nil_append] at S); have hc := S.cells; simp only [Cells, cellsC, Im, Row, El, Nat.zero_add, Nat.reduceAdd] at hc))
          refine bodyPost_ret (results_cell_tmpR rfl _ _ gr 41 _ (0, 0) _ rfl (S.cel 2 rfl) Tryd.underlying41 rfl (by kernel_rfl)) rfl ?_
          exact ⟨rfl, S.out⟩
        · have h7' : decide (7 < v) = false := by simpa using h7
          have h8 := HX2.out
          rw [if_neg h7, Prod.mk.injEq] at h8
          obtain ⟨hx1, rfl⟩ := h8
          have HML := As.mk (mkL_list HNL.out)
          have HMC : As (∀ w' D, Sl kI w' D (some ⟨b, o, none⟩) ns → Calls Tryd.prog 37 #[.slice (some ⟨b, o, none⟩) ns.length cv] w' fun e w'' => e = .returned x.v ∧ Ext w' w'') := ⟨fun w' D h => by
            rw [HNL.out, hx1]
            exact make_c (mkL ns) _ cv w' D (by rw [HML.out]; exact h)⟩
          clear hx1
          have HSL := As.mk hs
          clear h7 hs HX2 HML
          have hc := S.cells; simp only [Cells, cellsC, Im, Row, El, Nat.zero_add, Nat.reduceAdd] at hc
          go_wp2_with (first | ((first | (with_reducible refine wpl_seal S ?_) | (with_reducible refine cw_seal S ?_) | (with_reducible refine bp_seal S ?_) | (with_reducible refine ca_seal S ?_)); clear S; (try clear hc); intro w1 S; (try simp only [List.set_cons_zero, List.set_cons_succ, List.nil_append] at S); have hc := S.cells; simp only [Cells, cellsC, Im, Row, El, Nat.zero_add, Nat.reduceAdd] at hc) | (go_at_call 37; refine (HMC.out _ _ HSL.out).mono ?_; dsimp only [R5.v]; rintro e w1 ⟨rfl, hx⟩; clear hcx; replace S := S.ext hx; clear hx; (try clear hc); have hc := S.cells; simp only [Cells, cellsC, Im, Row, El, Nat.zero_add, Nat.reduceAdd] at hc))
          refine bodyPost_ret (results_cell_tmpR rfl _ _ gr 41 _ (0, 0) _ rfl (S.cel 2 rfl) Tryd.underlying41 rfl (by kernel_rfl)) rfl ?_
          exact ⟨rfl, S.out⟩
  · have h5' : ((ws.length : Int) != 5) = true := by rw [bne_iff_ne]; omega
    have HE : As (x = zeroR5 ∧ er = 10) := ⟨by
      have h := HR.out
      unfold lineR at h
      rw [HWS.out, if_pos h5, Prod.mk.injEq] at h
      exact ⟨h.1.symm, h.2.symm⟩⟩
    obtain ⟨rfl, rfl⟩ := HE.out
    clear h5
    have hc := S.cells; simp only [Cells, cellsC, Im, Row, El, Nat.zero_add, Nat.reduceAdd] at hc
    go_wp2_with (first | ((first | (with_reducible refine wpl_seal S ?_) | (with_reducible refine cw_seal S ?_) | (with_reducible refine bp_seal S ?_) | (with_reducible refine ca_seal S ?_)); clear S; (try clear hc); intro w1 S; (try simp only [List.set_cons_zero, List.set_cons_succ, List.nil_append] at S); have hc := S.cells; simp only [Cells, cellsC, Im, Row, El, Nat.zero_add, Nat.reduceAdd] at hc))
    refine bodyPost_ret (results_cell_tmpR rfl _ _ gr 41 _ (0, 0) _ rfl (S.cel 1 rfl) Tryd.underlying41 rfl (by kernel_rfl)) rfl ?_
    exact ⟨rfl, S.out⟩
end Go.Proofs.YteaekpnmiicbhaaDoor
