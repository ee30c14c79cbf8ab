/- All ways to lay a matrix that are not the same: the program's. -/
import Derived.Test.YtnmlonicfncpfaaGreatDSame
import Derived.Test.YtnmlonicfncpfaaGreatDLayC
namespace Go.Proofs.YtnmlonicfncpfaaGreat
open Go.RowKit X
set_option maxHeartbeats 4000000
set_option maxRecDepth 8000
set_option linter.unusedSimpArgs false
set_option linter.unusedVariables false
theorem idxI_in {α : Type} [DecidableEq α] {l : List α} {y : α} (h : y ∈ l) : idxI l y = (l.idxOf y : Int) ∧ l.idxOf y < l.length := by
  unfold idxI
  rw [if_pos h]
  exact ⟨rfl, List.idxOf_lt_length_iff.2 h⟩
theorem idxI_out {α : Type} [DecidableEq α] {l : List α} {y : α} (h : y ∉ l) : idxI l y = -1 := by
  unfold idxI
  rw [if_neg h]
def orbS (x : Mx) (s : List Mx × List Int) (g : Int) : List Mx × List Int :=
  if layOk x g.toNat then (if layP x g.toNat ∈ s.1 then (s.1, s.2 ++ [idxI s.1 (layP x g.toNat)]) else (s.1 ++ [layP x g.toNat], s.2 ++ [(s.1.length : Int)])) else (s.1, s.2 ++ [-1])
def orbP (x : Mx) (ts : List Int) : List Mx × List Int := ts.foldl (orbS x) ([], [])
theorem X.SH.rowD {F0 I0 I : Fp} {w0 w : World} {O : List Ob} {α : Type} {k : Kd α} {v : Value} {xs : List α} (s : SH F0 I0 w0 O w I) (i : Nat) (e : O[i]? = some (Row k v xs)) : ∀ b, (I b ∨ v.ownBlock = some b) → b < w.heap.size := by
  rintro b (h | h)
  · exact s.bd b h
  · exact ((s.own i e).lt h).2
theorem orbS_len (x : Mx) (s : List Mx × List Int) (g : Int) : (orbS x s g).1.length ≤ s.1.length + 1 ∧ (orbS x s g).2.length = s.2.length + 1 := by
  unfold orbS
  split
  · split <;> simp
  · simp
theorem layP_len (x : Mx) (g : Nat) : (layP x g).l.length = x.l.length := by simp [layP]
theorem orbit_c (x : Mx) (ts : List Int) (A B : Option Addr) (n d : Nat) (w : World) (I : Fp) (hI : ∀ b, I b → b < w.heap.size) (hl : Sl kP w I A x.l) (ht : Sl kI w I B ts) (hm : mayX x = true) (hn : x.l.length ≤ 1000000) (htn : ts.length ≤ 1000) (hts : ∀ t ∈ ts, 0 ≤ t ∧ t < 8) {out : List Mx} {whr : List Int} (ho : orbP x ts = (out, whr)) :
    Calls Tryz.prog 24 #[mxV x A n, .slice B ts.length d] w fun e w' => ∃ A1 c1 A2 c2 J, e = .returned (.tuple #[.slice A1 out.length c1, .slice A2 whr.length c2]) ∧ out.length ≤ c1 ∧ whr.length ≤ c2 ∧ SH No I w [Im kM A1 out, Im kI A2 whr] w' J := by
  have S := ((((SH.start w I hI).know (h := Im kI B ts) ht).know (h := Im kP A x.l) hl).nilrow (k := kI)).nilrow (k := kM)
  have HO := As.mk ho
  have HTS := As.mk hts
  have HM := As.mk hm
  clear hl ht ho hts hm
  obtain ⟨x0, hx0⟩ : ∃ x0 : Mx, x = x0 := ⟨x, rfl⟩
  have HLY := As.mk (fun g (hg : g < 8) (n : Nat) (w : World) (I : Fp) (hI : ∀ b, I b → b < w.heap.size) (hl : Sl kP w I A x.l) (ho : layOk x g = true) (z : Mx) (hz : layP x g = z) => layOk_c x g hg A n w I hI hl HM.out hn ho hz)
  have HLN := As.mk (fun g (hg : g < 8) (n : Nat) (w : World) (I : Fp) (hI : ∀ b, I b → b < w.heap.size) (ho : layOk x g = false) => layNo_c x g hg A n w I hI ho)
  have HPL := As.mk (layP_len x)
  rw [hx0] at HO
  obtain ⟨lk, hlk⟩ : ∃ lk, layOk x = lk := ⟨_, rfl⟩
  obtain ⟨lp, hlp⟩ : ∃ lp, layP x = lp := ⟨_, rfl⟩
  rw [hlk, hlp] at HLY
  rw [hlk] at HLN
  rw [hlp] at HPL
  have HST : As (∀ s g, orbS x0 s g = if lk g.toNat then (if lp g.toNat ∈ s.1 then (s.1, s.2 ++ [idxI s.1 (lp g.toNat)]) else (s.1 ++ [lp g.toNat], s.2 ++ [(s.1.length : Int)])) else (s.1, s.2 ++ [-1])) := ⟨fun s g => by rw [← hlk, ← hlp, hx0]; rfl⟩
  clear hlk hlp hx0
  obtain ⟨a, b, l⟩ := x
  dsimp only [mxV] at *
  have hc := S.cells; simp only [Cells, cellsC, Im, Row, El, Nat.zero_add, Nat.reduceAdd] at hc
  go_enter Tryz.func24, Tryz.ntmps24
  go_wp2_with (first | ((first | (with_reducible refine wpl_seal S ?_) | (with_reducible refine cw_seal S ?_) | (with_reducible refine bp_seal S ?_) | (with_reducible refine ca_seal S ?_)); clear S; (try clear hc); intro w1 S; (try simp only [List.set_cons_zero, List.set_cons_succ, List.nil_append] at S); have hc := S.cells; simp only [Cells, cellsC, Im, Row, El, Nat.zero_add, Nat.reduceAdd] at hc))
  obtain ⟨g2, eg2⟩ := S.name 0 rfl; rw [← eg2] at S ⊢; clear eg2
  clear hc
  go_loopw [6, 7, 15] (fun ov wv iv w' => ∃ (k : Nat) (o1 : List Mx) (o2 : List Int) (J : Fp), iv = .int .i64 k ∧ k ≤ ts.length ∧ o1.length ≤ k ∧ o2.length = k ∧ As ((ts.take k).foldl (orbS x0) ([], []) = (o1, o2)) ∧ As (SH No I w [Row kM ov o1, Row kI wv o2, Cel g2 34 [.int .i64 a, .int .i64 b, .slice A l.length n], Im kP A l, Im kI B ts] w' J)) (fun _ _ iv _ => ts.length - (intOf iv).toNat)
  case atStart => exact ⟨0, [], [], _, rfl, by omega, by simp, rfl, ⟨rfl⟩, ⟨(S.sel [1, 2, 0, 3, 4] (by decide) rfl (by simp) : SH _ _ _ [_, _, _, _, _] _ _)⟩⟩
  case round =>
    clear S
    obtain ⟨k, o1, o2, J, rfl, hk, ho1, ho2, HS, ⟨S⟩⟩ := hrel
    have HO2 := As.mk ho2
    have ho3 : o2.length ≤ 1000 := by omega
    clear ho2
    by_cases hlt : k < ts.length
    · have hlt' : decide ((k : Int) < ts.length) = true := decide_eq_true (by omega)
      obtain ⟨tb, to, rfl, hct⟩ := (S.im 4 rfl).num_at (List.getElem?_eq_getElem hlt)
      have hT := HTS.out _ (List.getElem_mem hlt)
      have HN := As.mk (show (ts.take (k + 1)).foldl (orbS x0) ([], []) = orbS x0 (o1, o2) ts[k] by rw [List.take_succ_eq_append_getElem hlt, List.foldl_append, HS.out]; rfl)
      generalize ts[k] = t at hct hT HN
      obtain ⟨g, rfl⟩ : ∃ g : Nat, t = g := ⟨t.toNat, by omega⟩
      rw [HST.out, Int.toNat_natCast] at HN
      have hg : g < 8 := by omega
      obtain ⟨z, hz⟩ : ∃ z, lp g = z := ⟨_, rfl⟩
      obtain ⟨q, hq⟩ : ∃ q, lk g = q := ⟨_, rfl⟩
      have HZ := As.mk hz
      have HQ := As.mk hq
      have HZL := As.mk (HPL.out g)
      rw [hz] at HN HZL
      rw [hq] at HN
      clear hz hq hT
      have hc := S.cells; simp only [Cells, cellsC, Im, Row, El, Nat.zero_add, Nat.reduceAdd] at hc
      rcases q with _ | _
      · go_wp2_with (first | ((first | (with_reducible refine wpl_seal S ?_) | (with_reducible refine cw_seal S ?_) | (with_reducible refine bp_seal S ?_) | (with_reducible refine ca_seal S ?_)); clear S; (try clear hc); intro w1 S; (try simp only [List.set_cons_zero, List.set_cons_succ, List.nil_append] at S); have hc := S.cells; simp only [Cells, cellsC, Im, Row, El, Nat.zero_add, Nat.reduceAdd] at hc) | (go_at_call 55; refine (HLN.out g hg n _ _ S.bd HQ.out).mono ?_; rintro e w1 ⟨rfl, hx⟩; replace S := S.ext hx; clear hx; (try clear hc); have hc := S.cells; simp only [Cells, cellsC, Im, Row, El, Nat.zero_add, Nat.reduceAdd] at hc) | (at_builtin; refine wpl_push S 3 rfl rfl _ _ rfl ty_ints rfl (-1) _ _ rfl [_] _ (S.cel 0 rfl) rfl (by (try simp only [maxLen, List.length_nil, List.length_append, List.length_cons]); omega) (by (try simp only [maxLen, List.length_nil, List.length_append, List.length_cons]); omega) ?_; clear S; (try clear hc); intro va w1 S; simp only [List.set_cons_zero, List.set_cons_succ, List.nil_append] at S; have hc := S.cells; simp only [Cells, cellsC, Im, Row, El, Nat.zero_add, Nat.reduceAdd] at hc))
        go_roundw
        case rel => exact ⟨k + 1, o1, o2 ++ [-1], _, by go_num, by omega, by omega, by rw [List.length_append, HO2.out]; rfl, HN, ⟨(S.sel [2, 3, 4, 5, 6] (by decide) rfl (by simp) : SH _ _ _ [_, _, _, _, _] _ _)⟩⟩
        case measure => simp [intOf]; omega
      · by_cases hm : z ∈ o1
        · obtain ⟨hi1, hi2⟩ := idxI_in hm
          have HI := As.mk hi1
          obtain ⟨m, hm2⟩ : ∃ m, o1.idxOf z = m := ⟨_, rfl⟩
          rw [hm2] at HI hi2
          have HN2 := As.mk (HN.out.trans (by rw [if_pos rfl, if_pos hm, HI.out] : _ = (o1, o2 ++ [(m : Int)])))
          clear hm hi1 hm2 HN
          go_wp2_with (first | ((first | (with_reducible refine wpl_seal S ?_) | (with_reducible refine cw_seal S ?_) | (with_reducible refine bp_seal S ?_) | (with_reducible refine ca_seal S ?_)); clear S; (try clear hc); intro w1 S; (try simp only [List.set_cons_zero, List.set_cons_succ, List.nil_append] at S); have hc := S.cells; simp only [Cells, cellsC, Im, Row, El, Nat.zero_add, Nat.reduceAdd] at hc) | (go_at_call 55; refine (HLY.out g hg n _ _ S.bd (S.im 3 rfl) HQ.out z HZ.out).mono ?_; rintro e w1 ⟨B1, c1, rfl, hc1, hu⟩; obtain ⟨I1, S1, hI1⟩ := S.new hu; clear S hu hI1; (try clear hc); have S := S1; clear S1; have hc := S.cells; simp only [Cells, cellsC, Im, Row, El, Nat.zero_add, Nat.reduceAdd] at hc; have hc := S.cells; simp only [Cells, cellsC, Im, Row, El, Nat.zero_add, Nat.reduceAdd] at hc) | (go_at_call 56; obtain ⟨A6, c6, e6, hc6, hs6⟩ := S.row 2 rfl; subst e6; refine (indexM_c o1 z A6 B1 c6 c1 _ _ _ (S.rowD 2 rfl) hs6 ((S.im 1 rfl).weak fun _ _ h => .inl h) (by rw [HZL.out]; exact hn) (by omega) (S.cell 0 0 rfl rfl) (S.cell 0 1 rfl rfl) (S.cell 0 2 rfl rfl) HI.out).mono ?_; rintro e w1 ⟨rfl, hx⟩; replace S := S.ext hx; clear hx; (try clear hc); have hc := S.cells; simp only [Cells, cellsC, Im, Row, El, Nat.zero_add, Nat.reduceAdd] at hc) | (at_builtin; refine wpl_push S 4 rfl rfl _ _ rfl ty_ints rfl (m : Int) _ _ rfl [_] _ (S.cel 0 rfl) rfl (by (try simp only [maxLen, List.length_nil, List.length_append, List.length_cons]); omega) (by (try simp only [maxLen, List.length_nil, List.length_append, List.length_cons]); omega) ?_; clear S; (try clear hc); intro va w1 S; simp only [List.set_cons_zero, List.set_cons_succ, List.nil_append] at S; have hc := S.cells; simp only [Cells, cellsC, Im, Row, El, Nat.zero_add, Nat.reduceAdd] at hc))
          go_roundw
          case rel => exact ⟨k + 1, o1, o2 ++ [(m : Int)], _, by go_num, by omega, by omega, by rw [List.length_append, HO2.out]; rfl, HN2, ⟨(S.sel [3, 4, 5, 6, 7] (by decide) rfl (by simp) : SH _ _ _ [_, _, _, _, _] _ _)⟩⟩
          case measure => simp [intOf]; omega
        · have HI := As.mk (idxI_out hm)
          have HN2 := As.mk (HN.out.trans (by rw [if_pos rfl, if_neg hm] : _ = (o1 ++ [z], o2 ++ [(o1.length : Int)])))
          clear hm HN
          go_wp2_with (first | ((first | (with_reducible refine wpl_seal S ?_) | (with_reducible refine cw_seal S ?_) | (with_reducible refine bp_seal S ?_) | (with_reducible refine ca_seal S ?_)); clear S; (try clear hc); intro w1 S; (try simp only [List.set_cons_zero, List.set_cons_succ, List.nil_append] at S); have hc := S.cells; simp only [Cells, cellsC, Im, Row, El, Nat.zero_add, Nat.reduceAdd] at hc) | (go_at_call 55; refine (HLY.out g hg n _ _ S.bd (S.im 3 rfl) HQ.out z HZ.out).mono ?_; rintro e w1 ⟨B1, c1, rfl, hc1, hu⟩; obtain ⟨I1, S1, hI1⟩ := S.new hu; clear S hu hI1; (try clear hc); have S := S1; clear S1; have hc := S.cells; simp only [Cells, cellsC, Im, Row, El, Nat.zero_add, Nat.reduceAdd] at hc; have hc := S.cells; simp only [Cells, cellsC, Im, Row, El, Nat.zero_add, Nat.reduceAdd] at hc) | (go_at_call 56; obtain ⟨A6, c6, e6, hc6, hs6⟩ := S.row 2 rfl; subst e6; refine (indexM_c o1 z A6 B1 c6 c1 _ _ _ (S.rowD 2 rfl) hs6 ((S.im 1 rfl).weak fun _ _ h => .inl h) (by rw [HZL.out]; exact hn) (by omega) (S.cell 0 0 rfl rfl) (S.cell 0 1 rfl rfl) (S.cell 0 2 rfl rfl) HI.out).mono ?_; rintro e w1 ⟨rfl, hx⟩; replace S := S.ext hx; clear hx; (try clear hc); have hc := S.cells; simp only [Cells, cellsC, Im, Row, El, Nat.zero_add, Nat.reduceAdd] at hc) | (at_builtin; refine wpl_push S 3 rfl rfl _ _ rfl ty_mxs rfl z _ _ rfl [.int .i64 z.w, .int .i64 z.h, .slice B1 z.l.length c1] _ (S.cel 0 rfl) (⟨B1, c1, rfl, hc1, S.im 2 rfl⟩) (by (try simp only [maxLen, List.length_nil, List.length_append, List.length_cons]); omega) (by (try simp only [maxLen, List.length_nil, List.length_append, List.length_cons]); omega) ?_; clear S; (try clear hc); intro va w1 S; simp only [List.set_cons_zero, List.set_cons_succ, List.nil_append] at S; have hc := S.cells; simp only [Cells, cellsC, Im, Row, El, Nat.zero_add, Nat.reduceAdd] at hc) | (at_builtin; refine wpl_push S 5 rfl rfl _ _ rfl ty_ints rfl (o1.length : Int) _ _ rfl [_] _ (S.cel 0 rfl) rfl (by (try simp only [maxLen, List.length_nil, List.length_append, List.length_cons]); omega) (by (try simp only [maxLen, List.length_nil, List.length_append, List.length_cons]); omega) ?_; clear S; (try clear hc); intro va w1 S; simp only [List.set_cons_zero, List.set_cons_succ, List.nil_append] at S; have hc := S.cells; simp only [Cells, cellsC, Im, Row, El, Nat.zero_add, Nat.reduceAdd] at hc))
          go_roundw
          case rel => exact ⟨k + 1, o1 ++ [z], o2 ++ [(o1.length : Int)], _, by go_num, by omega, by rw [List.length_append]; simp; omega, by rw [List.length_append, HO2.out]; rfl, HN2, ⟨(S.sel [4, 5, 6, 7, 8] (by decide) rfl (by simp) : SH _ _ _ [_, _, _, _, _] _ _)⟩⟩
          case measure => simp [intOf]; omega
    · have hlt' : decide ((k : Int) < ts.length) = false := decide_eq_false (by omega)
      obtain rfl : k = ts.length := by omega
      have HF := As.mk (show (o1, o2) = (out, whr) by rw [← HS.out, ← HO.out, List.take_length]; rfl)
      obtain ⟨rfl, rfl⟩ := Prod.mk.inj HF.out
      have hc := S.cells; simp only [Cells, cellsC, Im, Row, El, Nat.zero_add, Nat.reduceAdd] at hc
      go_wp2_with (first | ((first | (with_reducible refine wpl_seal S ?_) | (with_reducible refine cw_seal S ?_) | (with_reducible refine bp_seal S ?_) | (with_reducible refine ca_seal S ?_)); clear S; (try clear hc); intro w1 S; (try simp only [List.set_cons_zero, List.set_cons_succ, List.nil_append] at S); have hc := S.cells; simp only [Cells, cellsC, Im, Row, El, Nat.zero_add, Nat.reduceAdd] at hc))
      obtain ⟨A1, c1, I1, e1, hc1, S1, hI1⟩ := S.frow 0 rfl; subst e1; clear S hI1; have S := S1; clear S1; simp only [List.set_cons_zero, List.set_cons_succ, List.nil_append] at S
      obtain ⟨A2, c2, I1, e1, hc2, S1, hI1⟩ := S.frow 1 rfl; subst e1; clear S hI1; have S := S1; clear S1; simp only [List.set_cons_zero, List.set_cons_succ, List.nil_append] at S
      refine bodyPost_ret (results_tmp2 rfl _ _ _) rfl ?_
      exact ⟨A1, c1, A2, c2, rfl, hc1, hc2, _, (S.sel [0, 1] (by decide) rfl (by simp) : SH _ _ _ [_, _] _ _)⟩
end Go.Proofs.YtnmlonicfncpfaaGreat
