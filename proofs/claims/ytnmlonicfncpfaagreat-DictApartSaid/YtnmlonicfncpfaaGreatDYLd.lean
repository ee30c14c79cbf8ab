/- A template, laid; the variants of templates: the document's. -/
import Derived.Test.YtnmlonicfncpfaaGreatDYFi
import Derived.Test.YtnmlonicfncpfaaGreatDOrb
namespace Go.Proofs.YtnmlonicfncpfaaGreat
open Go.RowKit X
set_option maxHeartbeats 4000000
set_option maxRecDepth 8000
set_option linter.unusedSimpArgs false
set_option linter.unusedVariables false
abbrev tvV (t : Tv) (A : Option Addr) (c : Nat) (B : Option Addr) (d : Nat) : Value := .agg #[.int .i64 t.p.c, .int .i64 t.p.m, .int .i64 t.p.x.w, .int .i64 t.p.x.h, .slice A t.p.x.l.length c, .slice B t.turns.length d]
/-- a template that may be laid all its ways -/
structure TvOk (t : Tv) : Prop where
  mx : MxOk t.p.x
  len : t.p.x.l.length ≤ 999999
  few : t.turns.length ≤ 8
  may : ∀ g ∈ t.turns, 0 ≤ g ∧ g < 8 ∧ layOk t.p.x g.toNat = true
def layT (t : Tv) (g : Int) : Pic := ⟨t.p.c, t.p.m, layP t.p.x g.toNat⟩
def varS (o : List Pic) (p : Pic) : List Pic := if p ∈ o then o else o ++ [p]
def varT (o : List Pic) (t : Tv) : List Pic := (t.turns.map (layT t)).foldl varS o
def varsP (l : List Tv) : List Pic := l.foldl varT []
theorem varS_len (o : List Pic) (p : Pic) : (varS o p).length ≤ o.length + 1 := by
  unfold varS; split <;> simp
theorem ylaid_c (t : Tv) (g : Nat) (hg : g < 8) (A B : Option Addr) (n d : Nat) (w : World) (I : Fp) (hI : ∀ b, I b → b < w.heap.size) (hl : Sl kP w I A t.p.x.l) (hx : MxOk t.p.x) (hn : t.p.x.l.length ≤ 999999) (hnc : t.p.x.l.length ≤ n) {z : Mx} (hz : layP t.p.x g = z) (ho : layOk t.p.x g = true) :
    Calls Tryz.prog 64 #[tvV t A n B d, .int .i64 g] w fun e w' => ∃ B c, e = .returned (picV ⟨t.p.c, t.p.m, z⟩ B c) ∧ z.l.length ≤ c ∧ Upd w No I w' (Im kP B z.l) := by
  have S := (SH.start w I hI).know (h := Im kP A t.p.x.l) hl
  have HL := As.mk (fun w I hI hl => ylay_c t.p.x g hg A n w I hI hl hx hn hnc hz ho)
  clear hl hx hz ho
  obtain ⟨⟨c, m, ⟨a, b, l⟩⟩, turns⟩ := t
  dsimp only [tvV, picV, mxV] at *
  have hc := S.cells; simp only [Cells, cellsC, Im, Row, El, Nat.zero_add, Nat.reduceAdd] at hc
  go_enter Tryz.func64, Tryz.ntmps64
  go_wp2_with (first | ((first | (with_reducible refine wpl_seal S ?_) | (with_reducible refine cw_seal S ?_) | (with_reducible refine bp_seal S ?_) | (with_reducible refine ca_seal S ?_)); clear S; (try clear hc); intro w1 S; (try simp only [List.set_cons_zero, List.set_cons_succ, List.nil_append] at S); have hc := S.cells; simp only [Cells, cellsC, Im, Row, El, Nat.zero_add, Nat.reduceAdd] at hc) | (go_at_call 32; refine (HL.out _ _ S.bd (S.im 2 rfl)).mono ?_; rintro e w1 ⟨B1, c1, rfl, hc1, hu⟩; obtain ⟨I1, S1, hI1⟩ := S.new hu; clear S hu hI1; (try clear hc); have S := S1; clear S1; have hc := S.cells; simp only [Cells, cellsC, Im, Row, El, Nat.zero_add, Nat.reduceAdd] at hc; have hc := S.cells; simp only [Cells, cellsC, Im, Row, El, Nat.zero_add, Nat.reduceAdd] at hc))
  refine bodyPost_ret (results_cell_row rfl _ _ _ 40 _ (0, 0) _ rfl (S.cel 2 rfl) Tryz.underlying40 rfl (by kernel_rfl)) rfl ?_
  exact ⟨B1, c1, rfl, hc1, S.ret 1 rfl⟩
theorem yvars_c (l : List Tv) (A : Option Addr) (n : Nat) (w : World) (I : Fp) (hI : ∀ b, I b → b < w.heap.size) (hl : Sl kyT w I A l) (hln : l.length ≤ 1000) (ho : ∀ t ∈ l, TvOk t) {v : List Pic} (hv : varsP l = v) :
    Calls Tryz.prog 34 #[.slice A l.length n] w fun e w' => ∃ B c, e = .returned (.slice B v.length c) ∧ v.length ≤ c ∧ Upd w No I w' (Im kyG B v) := by
  have S := ((SH.start w I hI).know (h := Im kyT A l) hl).nilrow (k := kyG)
  have HO := As.mk ho
  have HV := As.mk hv
  clear hl hv ho
  have hc := S.cells; simp only [Cells, cellsC, Im, Row, El, Nat.zero_add, Nat.reduceAdd] at hc
  go_enter Tryz.func34, Tryz.ntmps34
  go_wp2_with (first | ((first | (with_reducible refine wpl_seal S ?_) | (with_reducible refine cw_seal S ?_) | (with_reducible refine bp_seal S ?_) | (with_reducible refine ca_seal S ?_)); clear S; (try clear hc); intro w1 S; (try simp only [List.set_cons_zero, List.set_cons_succ, List.nil_append] at S); have hc := S.cells; simp only [Cells, cellsC, Im, Row, El, Nat.zero_add, Nat.reduceAdd] at hc))
  clear hc
  go_loopw [3, 4] (fun ov iv w' => ∃ (i : Nat) (o : List Pic) (J : Fp), iv = .int .i64 i ∧ i ≤ l.length ∧ o.length ≤ i * 8 ∧ As ((l.take i).foldl varT [] = o) ∧ As (SH No I w [Row kyG ov o, Im kyT A l] w' J)) (fun _ iv _ => l.length - (intOf iv).toNat)
  case atStart => exact ⟨0, [], _, rfl, by omega, by simp, ⟨rfl⟩, ⟨S⟩⟩
  case round =>
    clear S
    obtain ⟨i, o, J, rfl, hi, hol, HS, ⟨S⟩⟩ := hrel
    by_cases hlt : i < l.length
    · have hlt' : decide ((i : Int) < l.length) = true := decide_eq_true (by omega)
      have HN := As.mk (show (l.take (i + 1)).foldl varT [] = varT o l[i] by rw [List.take_succ_eq_append_getElem hlt, List.foldl_append, HS.out]; rfl)
      have HT := As.mk (HO.out _ (List.getElem_mem hlt))
      have HTI := As.mk (List.getElem?_eq_getElem hlt)
      obtain ⟨tb, to, A2, c2, B2, d2, rfl, -⟩ := (S.im 1 rfl).tv_at HTI.out
      generalize l[i] = t at HN HT HTI
      have htn := HT.out.few
      have HLD := As.mk (fun g hg A B n d w I hI hl hnc z hz ho => ylaid_c t g hg A B n d w I hI hl HT.out.mx HT.out.len hnc (z := z) hz ho)
      have HML := As.mk HT.out.len
      have HMA := As.mk HT.out.may
      clear HT
      have hc := S.cells; simp only [Cells, cellsC, Im, Row, El, Nat.zero_add, Nat.reduceAdd] at hc
      have m1 : True := trivial
      go_wp2_with (first | ((first | (with_reducible refine wpl_seal S ?_) | (with_reducible refine cw_seal S ?_) | (with_reducible refine bp_seal S ?_) | (with_reducible refine ca_seal S ?_)); clear S; (try clear hc); intro w1 S; (try simp only [List.set_cons_zero, List.set_cons_succ, List.nil_append] at S); have hc := S.cells; simp only [Cells, cellsC, Im, Row, El, Nat.zero_add, Nat.reduceAdd] at hc))
      clear hc
      go_loopw [3, 5] (fun ov kv w' => ∃ (k : Nat) (o1 : List Pic) (J : Fp), kv = .int .i64 k ∧ k ≤ t.turns.length ∧ o1.length ≤ i * 8 + k ∧ As (((t.turns.take k).map (layT t)).foldl varS o = o1) ∧ As (SH No I w [Row kyG ov o1, Im kyT (some ⟨tb, to, none⟩) l] w' J)) (fun _ kv _ => t.turns.length - (intOf kv).toNat)
      case atStart => exact ⟨0, o, _, rfl, by omega, by omega, ⟨rfl⟩, ⟨S⟩⟩
      case round =>
        clear S
        obtain ⟨k, o1, J, rfl, hk, hol1, HS1, ⟨S⟩⟩ := hrel
        obtain ⟨tb1, to1, A2, c2, B2, d2, e1, ⟨g0, g1, g2, g3, g4, g5⟩, ⟨hc2, hx2⟩, hd2, ht2⟩ := (S.im 1 rfl).tv_at HTI.out
        rw [Option.some.injEq, Addr.mk.injEq] at e1
        obtain ⟨rfl, rfl, -⟩ := e1
        replace S := (S.know (h := Im kP A2 t.p.x.l) hx2).know (h := Im kI B2 t.turns) ht2
        clear hx2 ht2
        by_cases hkl : k < t.turns.length
        · have hkl' : decide ((k : Int) < t.turns.length) = true := decide_eq_true (by omega)
          have HN1 := As.mk (show ((t.turns.take (k + 1)).map (layT t)).foldl varS o = varS o1 (layT t t.turns[k]) by rw [List.take_succ_eq_append_getElem hkl, List.map_append, List.foldl_append, HS1.out]; rfl)
          obtain ⟨hg1, hg2, hlk⟩ := HMA.out _ (List.getElem_mem hkl)
          obtain ⟨gb, go, rfl, hct⟩ := (S.im 0 rfl).num_at (List.getElem?_eq_getElem hkl)
          generalize t.turns[k] = gg at HN1 hg1 hg2 hlk hct
          obtain ⟨g, rfl⟩ : ∃ g : Nat, gg = g := ⟨gg.toNat, by omega⟩
          rw [Int.toNat_natCast] at hlk
          have hg : g < 8 := by omega
          obtain ⟨z, hz⟩ : ∃ z, layP t.p.x g = z := ⟨_, rfl⟩
          have HZ := As.mk hz
          have HZL := As.mk (show z.l.length ≤ 1000000 by have := layP_len t.p.x g; rw [hz] at this; have := HML.out; omega)
          have HK := As.mk hlk
          have hzt : layT t (g : Int) = ⟨t.p.c, t.p.m, z⟩ := by unfold layT; rw [Int.toNat_natCast, hz]
          rw [hzt] at HN1
          clear hz hzt hlk hg1 hg2
          obtain ⟨⟨c, m, ⟨a, b, l9⟩⟩, turns⟩ := t
          dsimp only [tvV] at *
          have p0 := ClE.cell (w := wr.drew) g0
          have p1 := ClE.cell (w := wr.drew) g1
          have p2 := ClE.cell (w := wr.drew) g2
          have p3 := ClE.cell (w := wr.drew) g3
          have p4 := ClE.cell (w := wr.drew) g4
          have p5 := ClE.cell (w := wr.drew) g5
          have p6 := ClE.cell (w := wr.drew) hct
          have hc := S.cells; simp only [Cells, cellsC, Im, Row, El, Nat.zero_add, Nat.reduceAdd] at hc
          have hq := S.cellsE; simp only [CellsE, cellsE, Im, Row, El, Nat.zero_add, Nat.reduceAdd] at hq
          have m2 : True := trivial
          go_wp2_with (first | ((first | (with_reducible refine wpl_seal S ?_) | (with_reducible refine cw_seal S ?_) | (with_reducible refine bp_seal S ?_) | (with_reducible refine ca_seal S ?_)); clear S; (try clear hc); intro w1 S; (try simp only [List.set_cons_zero, List.set_cons_succ, List.nil_append] at S); have hc := S.cells; simp only [Cells, cellsC, Im, Row, El, Nat.zero_add, Nat.reduceAdd] at hc))
          refine wp_region_forkE [0, 1, 2, 3, 4, 5, 6, 7, 8, 9, 10, 11] [] 12 13 [⟨[], [], 13, true⟩, ⟨[], [], 14, false⟩] [] [⟨[], [], 12, true⟩, ⟨[], [], 14, false⟩] [] (by kernel_rfl) (by kernel_rfl) rfl rfl rfl rfl ?_
          (try simp only [opsAt, List.getD_cons_succ, List.getD_cons_zero])
          repeat (go_big_quiet_step ((intro hC; first | rfl | (go_simp; first | done | rfl))))
          refine wpQuiet_nil ?_
          (try simp only [opsAt, List.getD_cons_succ, List.getD_cons_zero])
          repeat (go_big_quiet_step ((intro hC; first | rfl | (go_simp; first | done | rfl))))
          refine wpQuiet_nil ?_
          clear hc hq p0 p1 p2 p3 p4 p5 p6 g0 g1 g2 g3 g4 g5 hct
          replace S := S.drew
          generalize wr.drew = w5 at S ⊢
          refine ⟨?_, ?_⟩
          · have hc := S.cells; simp only [Cells, cellsC, Im, Row, El, Nat.zero_add, Nat.reduceAdd] at hc
            go_wp2_with (first | ((first | (with_reducible refine mx_seal S ?_) | (with_reducible refine wpl_seal S ?_) | (with_reducible refine ca_seal S ?_)); clear S; (try clear hc); intro w1 S; (try simp only [List.set_cons_zero, List.set_cons_succ, List.nil_append] at S); have hc := S.cells; simp only [Cells, cellsC, Im, Row, El, Nat.zero_add, Nat.reduceAdd] at hc) | (go_at_call 64; refine (HLD.out g hg A2 (some ⟨gb, go, none⟩) c2 d2 _ _ S.bd (S.im 1 rfl) hc2 z HZ.out HK.out).mono ?_; rintro e w1 ⟨B1, c1, rfl, hc1, hu⟩; have hxf := hu.ext; obtain ⟨I1, S1, hI1⟩ := S.new hu; clear S hu hI1; (try clear hc); have S := S1; clear S1; have hc := S.cells; simp only [Cells, cellsC, Im, Row, El, Nat.zero_add, Nat.reduceAdd] at hc; have hc := S.cells; simp only [Cells, cellsC, Im, Row, El, Nat.zero_add, Nat.reduceAdd] at hc))
            refine ⟨hxf, ?_⟩
            refine mix_cons rfl rfl rfl ?_
            simp only [opsAt, List.getD_cons_succ, List.getD_cons_zero]
            repeat (go_big_quiet_step ((intro hC; first | rfl | (go_simp; first | done | rfl))))
            refine wpQuiet_nil ?_
            repeat (go_big_quiet_step ((intro hC; first | rfl | (go_simp; first | done | rfl))))
            refine wpQuiet_nil ?_
            go_wp2_with (first | ((first | (with_reducible refine mx_seal S ?_) | (with_reducible refine wpl_seal S ?_) | (with_reducible refine ca_seal S ?_)); clear S; (try clear hc); intro w1 S; (try simp only [List.set_cons_zero, List.set_cons_succ, List.nil_append] at S); have hc := S.cells; simp only [Cells, cellsC, Im, Row, El, Nat.zero_add, Nat.reduceAdd] at hc))
            refine ⟨fun _ => Ext.alloc _ _, ?_⟩
            (first | refine ⟨(fun h => by cases h), ?_⟩ | skip); (first | ((first | (with_reducible refine mx_seal S ?_)); clear S; (try clear hc); intro w1 S; (try simp only [List.set_cons_zero, List.set_cons_succ, List.nil_append] at S); have hc := S.cells; simp only [Cells, cellsC, Im, Row, El, Nat.zero_add, Nat.reduceAdd] at hc) | skip); (try simp only [Act.put, List.setIfInBounds_toArray, List.set_cons_succ, List.set_cons_zero])
            refine mix_cons rfl rfl rfl ?_
            simp only [opsAt, List.getD_cons_succ, List.getD_cons_zero]
            repeat (go_big_quiet_step ((intro hC; first | rfl | (go_simp; first | done | rfl))))
            refine wpQuiet_nil ?_
            repeat (go_big_quiet_step ((intro hC; first | rfl | (go_simp; first | done | rfl))))
            refine wpQuiet_nil ?_
            go_wp2_with (first | ((first | (with_reducible refine mx_seal S ?_) | (with_reducible refine wpl_seal S ?_) | (with_reducible refine ca_seal S ?_)); clear S; (try clear hc); intro w1 S; (try simp only [List.set_cons_zero, List.set_cons_succ, List.nil_append] at S); have hc := S.cells; simp only [Cells, cellsC, Im, Row, El, Nat.zero_add, Nat.reduceAdd] at hc))
            (first | refine ⟨(fun h => by cases h), ?_⟩ | skip); (first | ((first | (with_reducible refine mx_seal S ?_)); clear S; (try clear hc); intro w1 S; (try simp only [List.set_cons_zero, List.set_cons_succ, List.nil_append] at S); have hc := S.cells; simp only [Cells, cellsC, Im, Row, El, Nat.zero_add, Nat.reduceAdd] at hc) | skip); (try simp only [Act.put, List.setIfInBounds_toArray, List.set_cons_succ, List.set_cons_zero])
            refine mix_last rfl ?_
            simp only [opsAt, List.getD_cons_succ, List.getD_cons_zero]
            repeat (go_big_quiet_step ((intro hC; first | rfl | (go_simp; first | done | rfl))))
            refine wpQuiet_nil ?_
            simp only [calmQ]
            by_cases hm : (⟨c, m, z⟩ : Pic) ∈ o1
            · obtain ⟨hi1, hi2⟩ := idxI_in hm
              have HI := As.mk hi1
              obtain ⟨q, hq⟩ : ∃ q, o1.idxOf (⟨c, m, z⟩ : Pic) = q := ⟨_, rfl⟩
              rw [hq] at HI hi2
              have HN2 := As.mk (HN1.out.trans (by unfold varS; rw [if_pos hm] : _ = o1))
              have hq0 : decide ((q : Int) < 0) = false := decide_eq_false (by omega)
              clear hm hi1 hq HN1
              go_wp2_with (first | ((first | (with_reducible refine wpl_seal S ?_) | (with_reducible refine cw_seal S ?_) | (with_reducible refine bp_seal S ?_) | (with_reducible refine ca_seal S ?_)); clear S; (try clear hc); intro w1 S; (try simp only [List.set_cons_zero, List.set_cons_succ, List.nil_append] at S); have hc := S.cells; simp only [Cells, cellsC, Im, Row, El, Nat.zero_add, Nat.reduceAdd] at hc) | (go_at_call 65; obtain ⟨A6, c6, e6, hc6, hs6⟩ := S.row 4 rfl; subst e6; refine (find_c o1 ⟨c, m, z⟩ A6 B1 c6 c1 _ _ (S.rowD 4 rfl) hs6 ((S.im 1 rfl).weak fun _ _ h => .inl h) HZL.out (by omega) HI.out).mono ?_; rintro e w1 ⟨rfl, hx⟩; replace S := S.ext hx; clear hx; (try clear hc); have hc := S.cells; simp only [Cells, cellsC, Im, Row, El, Nat.zero_add, Nat.reduceAdd] at hc))
              go_roundw
              case rel => exact ⟨k + 1, o1, _, by go_num, by omega, by omega, HN2, ⟨(S.sel [4, 5] (by decide) rfl (by simp) : SH _ _ _ [_, _] _ _)⟩⟩
              case measure => simp [intOf]; omega
            · have HI := As.mk (idxI_out hm)
              have HN2 := As.mk (HN1.out.trans (by unfold varS; rw [if_neg hm] : _ = o1 ++ [(⟨c, m, z⟩ : Pic)]))
              clear hm HN1
              go_wp2_with (first | ((first | (with_reducible refine wpl_seal S ?_) | (with_reducible refine cw_seal S ?_) | (with_reducible refine bp_seal S ?_) | (with_reducible refine ca_seal S ?_)); clear S; (try clear hc); intro w1 S; (try simp only [List.set_cons_zero, List.set_cons_succ, List.nil_append] at S); have hc := S.cells; simp only [Cells, cellsC, Im, Row, El, Nat.zero_add, Nat.reduceAdd] at hc) | (go_at_call 65; obtain ⟨A6, c6, e6, hc6, hs6⟩ := S.row 4 rfl; subst e6; refine (find_c o1 ⟨c, m, z⟩ A6 B1 c6 c1 _ _ (S.rowD 4 rfl) hs6 ((S.im 1 rfl).weak fun _ _ h => .inl h) HZL.out (by omega) HI.out).mono ?_; rintro e w1 ⟨rfl, hx⟩; replace S := S.ext hx; clear hx; (try clear hc); have hc := S.cells; simp only [Cells, cellsC, Im, Row, El, Nat.zero_add, Nat.reduceAdd] at hc) | (at_builtin; refine wpl_push S 5 rfl rfl _ _ rfl ty_ypics rfl (⟨c, m, z⟩ : Pic) _ _ rfl [.int .i64 c, .int .i64 m, .int .i64 z.w, .int .i64 z.h, .slice B1 z.l.length c1] _ (S.cel 0 rfl) (⟨B1, c1, rfl, hc1, S.im 2 rfl⟩) (by (try simp only [maxLen, List.length_nil, List.length_append, List.length_cons]); omega) (by (try simp only [maxLen, List.length_nil, List.length_append, List.length_cons]); omega) ?_; clear S; (try clear hc); intro va w1 S; simp only [List.set_cons_zero, List.set_cons_succ, List.nil_append] at S; have hc := S.cells; simp only [Cells, cellsC, Im, Row, El, Nat.zero_add, Nat.reduceAdd] at hc))
              go_roundw
              case rel => exact ⟨k + 1, o1 ++ [⟨c, m, z⟩], _, by go_num, by omega, by rw [List.length_append]; simp; omega, HN2, ⟨(S.sel [5, 6] (by decide) rfl (by simp) : SH _ _ _ [_, _] _ _)⟩⟩
              case measure => simp [intOf]; omega
          · have hc := S.cells; simp only [Cells, cellsC, Im, Row, El, Nat.zero_add, Nat.reduceAdd] at hc
            go_wp2_with (first | ((first | (with_reducible refine mx_seal S ?_) | (with_reducible refine wpl_seal S ?_) | (with_reducible refine ca_seal S ?_)); clear S; (try clear hc); intro w1 S; (try simp only [List.set_cons_zero, List.set_cons_succ, List.nil_append] at S); have hc := S.cells; simp only [Cells, cellsC, Im, Row, El, Nat.zero_add, Nat.reduceAdd] at hc))
            refine ⟨Ext.alloc _ _, ?_⟩
            (first | refine ⟨(fun h => by cases h), ?_⟩ | skip); (first | ((first | (with_reducible refine mx_seal S ?_)); clear S; (try clear hc); intro w1 S; (try simp only [List.set_cons_zero, List.set_cons_succ, List.nil_append] at S); have hc := S.cells; simp only [Cells, cellsC, Im, Row, El, Nat.zero_add, Nat.reduceAdd] at hc) | skip); (try simp only [Act.put, List.setIfInBounds_toArray, List.set_cons_succ, List.set_cons_zero])
            refine mix_cons rfl rfl rfl ?_
            simp only [opsAt, List.getD_cons_succ, List.getD_cons_zero]
            repeat (go_big_quiet_step ((intro hC; first | rfl | (go_simp; first | done | rfl))))
            refine wpQuiet_nil ?_
            repeat (go_big_quiet_step ((intro hC; first | rfl | (go_simp; first | done | rfl))))
            refine wpQuiet_nil ?_
            go_wp2_with (first | ((first | (with_reducible refine mx_seal S ?_) | (with_reducible refine wpl_seal S ?_) | (with_reducible refine ca_seal S ?_)); clear S; (try clear hc); intro w1 S; (try simp only [List.set_cons_zero, List.set_cons_succ, List.nil_append] at S); have hc := S.cells; simp only [Cells, cellsC, Im, Row, El, Nat.zero_add, Nat.reduceAdd] at hc) | (go_at_call 64; refine (HLD.out g hg A2 (some ⟨gb, go, none⟩) c2 d2 _ _ S.bd (S.im 2 rfl) hc2 z HZ.out HK.out).mono ?_; rintro e w1 ⟨B1, c1, rfl, hc1, hu⟩; have hxf := hu.ext; obtain ⟨I1, S1, hI1⟩ := S.new hu; clear S hu hI1; (try clear hc); have S := S1; clear S1; have hc := S.cells; simp only [Cells, cellsC, Im, Row, El, Nat.zero_add, Nat.reduceAdd] at hc; have hc := S.cells; simp only [Cells, cellsC, Im, Row, El, Nat.zero_add, Nat.reduceAdd] at hc))
            refine ⟨fun _ => hxf, ?_⟩
            (first | refine ⟨(fun h => by cases h), ?_⟩ | skip); (first | ((first | (with_reducible refine mx_seal S ?_)); clear S; (try clear hc); intro w1 S; (try simp only [List.set_cons_zero, List.set_cons_succ, List.nil_append] at S); have hc := S.cells; simp only [Cells, cellsC, Im, Row, El, Nat.zero_add, Nat.reduceAdd] at hc) | skip); (try simp only [Act.put, List.setIfInBounds_toArray, List.set_cons_succ, List.set_cons_zero])
            refine mix_cons rfl rfl rfl ?_
            simp only [opsAt, List.getD_cons_succ, List.getD_cons_zero]
            repeat (go_big_quiet_step ((intro hC; first | rfl | (go_simp; first | done | rfl))))
            refine wpQuiet_nil ?_
            repeat (go_big_quiet_step ((intro hC; first | rfl | (go_simp; first | done | rfl))))
            refine wpQuiet_nil ?_
            go_wp2_with (first | ((first | (with_reducible refine mx_seal S ?_) | (with_reducible refine wpl_seal S ?_) | (with_reducible refine ca_seal S ?_)); clear S; (try clear hc); intro w1 S; (try simp only [List.set_cons_zero, List.set_cons_succ, List.nil_append] at S); have hc := S.cells; simp only [Cells, cellsC, Im, Row, El, Nat.zero_add, Nat.reduceAdd] at hc))
            (first | refine ⟨(fun h => by cases h), ?_⟩ | skip); (first | ((first | (with_reducible refine mx_seal S ?_)); clear S; (try clear hc); intro w1 S; (try simp only [List.set_cons_zero, List.set_cons_succ, List.nil_append] at S); have hc := S.cells; simp only [Cells, cellsC, Im, Row, El, Nat.zero_add, Nat.reduceAdd] at hc) | skip); (try simp only [Act.put, List.setIfInBounds_toArray, List.set_cons_succ, List.set_cons_zero])
            refine mix_last rfl ?_
            simp only [opsAt, List.getD_cons_succ, List.getD_cons_zero]
            repeat (go_big_quiet_step ((intro hC; first | rfl | (go_simp; first | done | rfl))))
            refine wpQuiet_nil ?_
            simp only [calmQ]
            replace S := ((S.sel [1, 0, 2, 3, 4, 5] (by decide) rfl (by simp) : SH _ _ _ [_, _, _, _, _, _] _ _) : SH _ _ _ [_, _, _, _, _, _] _ _)
            have hc := S.cells; simp only [Cells, cellsC, Im, Row, El, Nat.zero_add, Nat.reduceAdd] at hc
            by_cases hm : (⟨c, m, z⟩ : Pic) ∈ o1
            · obtain ⟨hi1, hi2⟩ := idxI_in hm
              have HI := As.mk hi1
              obtain ⟨q, hq⟩ : ∃ q, o1.idxOf (⟨c, m, z⟩ : Pic) = q := ⟨_, rfl⟩
              rw [hq] at HI hi2
              have HN2 := As.mk (HN1.out.trans (by unfold varS; rw [if_pos hm] : _ = o1))
              have hq0 : decide ((q : Int) < 0) = false := decide_eq_false (by omega)
              clear hm hi1 hq HN1
              go_wp2_with (first | ((first | (with_reducible refine wpl_seal S ?_) | (with_reducible refine cw_seal S ?_) | (with_reducible refine bp_seal S ?_) | (with_reducible refine ca_seal S ?_)); clear S; (try clear hc); intro w1 S; (try simp only [List.set_cons_zero, List.set_cons_succ, List.nil_append] at S); have hc := S.cells; simp only [Cells, cellsC, Im, Row, El, Nat.zero_add, Nat.reduceAdd] at hc) | (go_at_call 65; obtain ⟨A6, c6, e6, hc6, hs6⟩ := S.row 4 rfl; subst e6; refine (find_c o1 ⟨c, m, z⟩ A6 B1 c6 c1 _ _ (S.rowD 4 rfl) hs6 ((S.im 1 rfl).weak fun _ _ h => .inl h) HZL.out (by omega) HI.out).mono ?_; rintro e w1 ⟨rfl, hx⟩; replace S := S.ext hx; clear hx; (try clear hc); have hc := S.cells; simp only [Cells, cellsC, Im, Row, El, Nat.zero_add, Nat.reduceAdd] at hc))
              go_roundw
              case rel => exact ⟨k + 1, o1, _, by go_num, by omega, by omega, HN2, ⟨(S.sel [4, 5] (by decide) rfl (by simp) : SH _ _ _ [_, _] _ _)⟩⟩
              case measure => simp [intOf]; omega
            · have HI := As.mk (idxI_out hm)
              have HN2 := As.mk (HN1.out.trans (by unfold varS; rw [if_neg hm] : _ = o1 ++ [(⟨c, m, z⟩ : Pic)]))
              clear hm HN1
              go_wp2_with (first | ((first | (with_reducible refine wpl_seal S ?_) | (with_reducible refine cw_seal S ?_) | (with_reducible refine bp_seal S ?_) | (with_reducible refine ca_seal S ?_)); clear S; (try clear hc); intro w1 S; (try simp only [List.set_cons_zero, List.set_cons_succ, List.nil_append] at S); have hc := S.cells; simp only [Cells, cellsC, Im, Row, El, Nat.zero_add, Nat.reduceAdd] at hc) | (go_at_call 65; obtain ⟨A6, c6, e6, hc6, hs6⟩ := S.row 4 rfl; subst e6; refine (find_c o1 ⟨c, m, z⟩ A6 B1 c6 c1 _ _ (S.rowD 4 rfl) hs6 ((S.im 1 rfl).weak fun _ _ h => .inl h) HZL.out (by omega) HI.out).mono ?_; rintro e w1 ⟨rfl, hx⟩; replace S := S.ext hx; clear hx; (try clear hc); have hc := S.cells; simp only [Cells, cellsC, Im, Row, El, Nat.zero_add, Nat.reduceAdd] at hc) | (at_builtin; refine wpl_push S 5 rfl rfl _ _ rfl ty_ypics rfl (⟨c, m, z⟩ : Pic) _ _ rfl [.int .i64 c, .int .i64 m, .int .i64 z.w, .int .i64 z.h, .slice B1 z.l.length c1] _ (S.cel 0 rfl) (⟨B1, c1, rfl, hc1, S.im 2 rfl⟩) (by (try simp only [maxLen, List.length_nil, List.length_append, List.length_cons]); omega) (by (try simp only [maxLen, List.length_nil, List.length_append, List.length_cons]); omega) ?_; clear S; (try clear hc); intro va w1 S; simp only [List.set_cons_zero, List.set_cons_succ, List.nil_append] at S; have hc := S.cells; simp only [Cells, cellsC, Im, Row, El, Nat.zero_add, Nat.reduceAdd] at hc))
              go_roundw
              case rel => exact ⟨k + 1, o1 ++ [⟨c, m, z⟩], _, by go_num, by omega, by rw [List.length_append]; simp; omega, HN2, ⟨(S.sel [5, 6] (by decide) rfl (by simp) : SH _ _ _ [_, _] _ _)⟩⟩
              case measure => simp [intOf]; omega
        · have hkl' : decide ((k : Int) < t.turns.length) = false := decide_eq_false (by omega)
          obtain rfl : k = t.turns.length := by omega
          have HN2 := As.mk (show (l.take (i + 1)).foldl varT [] = o1 by rw [HN.out, ← HS1.out, List.take_length]; rfl)
          have hc := S.cells; simp only [Cells, cellsC, Im, Row, El, Nat.zero_add, Nat.reduceAdd] at hc
          go_wp2_with (first | ((first | (with_reducible refine wpl_seal S ?_) | (with_reducible refine cw_seal S ?_) | (with_reducible refine bp_seal S ?_) | (with_reducible refine ca_seal S ?_)); clear S; (try clear hc); intro w1 S; (try simp only [List.set_cons_zero, List.set_cons_succ, List.nil_append] at S); have hc := S.cells; simp only [Cells, cellsC, Im, Row, El, Nat.zero_add, Nat.reduceAdd] at hc))
          go_roundw
          case rel => exact ⟨i + 1, o1, _, by go_num, by omega, by omega, HN2, ⟨(S.sel [2, 3] (by decide) rfl (by simp) : SH _ _ _ [_, _] _ _)⟩⟩
          case measure => simp [intOf]; omega
    · have hlt' : decide ((i : Int) < l.length) = false := decide_eq_false (by omega)
      obtain rfl : i = l.length := by omega
      have HF := As.mk (show o = v by rw [← HS.out, ← HV.out, List.take_length]; rfl)
      obtain rfl := HF.out
      have hc := S.cells; simp only [Cells, cellsC, Im, Row, El, Nat.zero_add, Nat.reduceAdd] at hc
      go_wp2_with (first | ((first | (with_reducible refine wpl_seal S ?_) | (with_reducible refine cw_seal S ?_) | (with_reducible refine bp_seal S ?_) | (with_reducible refine ca_seal S ?_)); clear S; (try clear hc); intro w1 S; (try simp only [List.set_cons_zero, List.set_cons_succ, List.nil_append] at S); have hc := S.cells; simp only [Cells, cellsC, Im, Row, El, Nat.zero_add, Nat.reduceAdd] at hc))
      obtain ⟨A1, c1, I1, e1, hc1, S1, hI1⟩ := S.frow 0 rfl; subst e1; clear S hI1; have S := S1; clear S1; simp only [List.set_cons_zero, List.set_cons_succ, List.nil_append] at S
      go_ret
      exact ⟨A1, c1, rfl, hc1, S.ret 0 rfl⟩
end Go.Proofs.YtnmlonicfncpfaaGreat
