/- Templates, made of any: the document's. -/
import Derived.Test.YtnmlonicfncpfaaGreatZRsg
import Derived.Test.YtnmlonicfncpfaaGreatDGdA
import Derived.Test.YtnmlonicfncpfaaGreatDGdC
namespace Go.Proofs.YtnmlonicfncpfaaGreat.X
open Go.RowKit
/-- what a template is made of -/
structure Gt where
  g : Rg
  turns : List Int
deriving Inhabited
def Kd.gt (ety ti : TypeId) : Kd Gt where
  ety := ety
  size := 6
  rel := fun w D x cs => ∃ A c B d, cs = [.bool x.g.three, .int .i64 x.g.mv, .int .i64 x.g.w, .int .i64 x.g.h, .slice A x.g.l.length c, .slice B x.turns.length d] ∧ (x.g.l.length ≤ c ∧ Sl (Kd.io ti) w D A x.g.l) ∧ (x.turns.length ≤ d ∧ Sl (Kd.io ti) w D B x.turns) ∧ I64 x.g.mv ∧ I64 x.g.w ∧ I64 x.g.h
  keep := fun ⟨A, c, B, d, e, ⟨l, h⟩, ⟨l2, h2⟩, r⟩ hk => ⟨A, c, B, d, e, ⟨l, h.keep hk⟩, ⟨l2, h2.keep hk⟩, r⟩
  weak := fun ⟨A, c, B, d, e, ⟨l, h⟩, ⟨l2, h2⟩, r⟩ hk => ⟨A, c, B, d, e, ⟨l, h.weak hk⟩, ⟨l2, h2.weak hk⟩, r⟩
  len := fun ⟨_, _, _, _, e, _⟩ => by subst e; rfl
  one := fun ⟨_, _, _, _, e, _⟩ => by subst e; simp [Value.oneCell']
theorem Sl.gt_at {ety ti : TypeId} {w : World} {D : Nat → Prop} {A0 : Option Addr} {xs : List Gt} (h : Sl (Kd.gt ety ti) w D A0 xs) {i : Nat} {y : Gt} (hi : xs[i]? = some y) :
    ∃ b o A c B d, A0 = some ⟨b, o, none⟩ ∧ (w.cell? ⟨b, o + i * 6, none⟩ = some (.bool y.g.three) ∧ w.cell? ⟨b, o + i * 6 + 1, none⟩ = some (.int .i64 y.g.mv) ∧ w.cell? ⟨b, o + i * 6 + 2, none⟩ = some (.int .i64 y.g.w) ∧ w.cell? ⟨b, o + i * 6 + 3, none⟩ = some (.int .i64 y.g.h) ∧ w.cell? ⟨b, o + i * 6 + 4, none⟩ = some (.slice A y.g.l.length c) ∧ w.cell? ⟨b, o + i * 6 + 5, none⟩ = some (.slice B y.turns.length d)) ∧ (y.g.l.length ≤ c ∧ Sl (Kd.io ti) w D A y.g.l) ∧ (y.turns.length ≤ d ∧ Sl (Kd.io ti) w D B y.turns) ∧ I64 y.g.mv ∧ I64 y.g.w ∧ I64 y.g.h := by
  obtain ⟨hl, rfl⟩ := List.getElem?_eq_some_iff.1 hi
  obtain ⟨b, o, cs, rfl, hb, hd, ⟨A, c, B, d, rfl, h1, h2, h3⟩, hl, hc⟩ := h i hl
  exact ⟨b, o, A, c, B, d, rfl, ⟨hc 0 _ rfl, hc 1 _ rfl, hc 2 _ rfl, hc 3 _ rfl, hc 4 _ rfl, hc 5 _ rfl⟩, h1, h2, h3⟩
end Go.Proofs.YtnmlonicfncpfaaGreat.X
namespace Go.Proofs.YtnmlonicfncpfaaGreat
open Go.RowKit X
set_option maxHeartbeats 4000000
set_option maxRecDepth 8000
set_option linter.unusedSimpArgs false
set_option linter.unusedVariables false
abbrev kgt : Kd Gt := Kd.gt 62 3
def turnsA (ts : List Int) (k : Nat) : List Int := (ts.take k).map fun t => aroundI t 8
def turnsP (ts : List Int) : List Int := if risP (turnsA ts 8) = [] then exT else risP (turnsA ts 8)
def tvP (x : Gt) : Tv := ⟨goodI x.g 3, turnsP x.turns⟩
def goodT (gs : List Gt) : List Tv := (gs.take 5).map tvP
theorem turnsP_ok (ts : List Int) : 0 < (turnsP ts).length ∧ (turnsP ts).length ≤ 8 ∧ (∀ g ∈ turnsP ts, 0 ≤ g ∧ g < 8) ∧ (turnsP ts).Pairwise (· < ·) := by
  unfold turnsP
  split
  · exact ⟨by decide, by decide, exT_in, exT_rising⟩
  · rename_i h
    exact ⟨List.length_pos_iff.2 h, risK_len _ 8, fun g hg => (ris_mem.1 hg).1, ris_strict _⟩
theorem tvP_ok (x : Gt) : SmT (tvP x) := by
  obtain ⟨h1, h2, h3, h4⟩ := turnsP_ok x.turns
  exact ⟨good_small x.g (by decide) (by decide), h1, h2, h3, h4⟩
theorem goodT_ok (gs : List Gt) : (∀ t ∈ goodT gs, SmT t) ∧ (goodT gs).length ≤ 5 ∧ (goodT gs).length ≤ gs.length := by
  unfold goodT
  refine ⟨fun t ht => ?_, ?_⟩
  · obtain ⟨x, -, rfl⟩ := List.mem_map.1 ht
    exact tvP_ok x
  · rw [List.length_map, List.length_take]
    omega
theorem ygoodT_c (gs : List Gt) (A : Option Addr) (n : Nat) (w : World) (I : Fp) (hI : ∀ b, I b → b < w.heap.size) (hl : Sl kgt w I A gs) {l : List Tv} (hr : goodT gs = l) :
    Calls Tryz.prog 6 #[.slice A gs.length n] w fun e w' => ∃ B c, e = .returned (.slice B l.length c) ∧ l.length ≤ c ∧ Upd w No I w' (Im kyT B l) := by
  have S := ((SH.start w I hI).know (h := Im kgt A gs) hl).nilrow (k := kyT)
  have HR := As.mk hr
  clear hl hr
  have hc := S.cells; simp only [Cells, cellsC, Im, Row, El, Nat.zero_add, Nat.reduceAdd] at hc
  go_enter Tryz.func6, Tryz.ntmps6
  go_wp2_with (first | ((first | (with_reducible refine wpl_seal S ?_) | (with_reducible refine cw_seal S ?_) | (with_reducible refine bp_seal S ?_) | (with_reducible refine ca_seal S ?_)); clear S; (try clear hc); intro w1 S; (try simp only [List.set_cons_zero, List.set_cons_succ, List.nil_append] at S); have hc := S.cells; simp only [Cells, cellsC, Im, Row, El, Nat.zero_add, Nat.reduceAdd] at hc))
  clear hc
  go_loopw [3, 4] (fun ov iv w' => ∃ (i : Nat) (o : List Tv) (J : Fp), iv = .int .i64 i ∧ i ≤ gs.length ∧ i ≤ 5 ∧ o.length = i ∧ As ((gs.take i).map tvP = o) ∧ As (SH No I w [Row kyT ov o, Im kgt A gs] w' J)) (fun _ iv _ => 5 - (intOf iv).toNat)
  case atStart => exact ⟨0, [], _, rfl, by omega, by omega, rfl, ⟨rfl⟩, ⟨S⟩⟩
  case round =>
    clear S
    obtain ⟨i, o, J, rfl, hi, hi5, hol, HS, ⟨S⟩⟩ := hrel
    by_cases hlt : i < gs.length
    · have hlt' : decide ((i : Int) < gs.length) = true := decide_eq_true (by omega)
      by_cases h5 : i < 5
      · have h5' : decide ((i : Int) < 5) = true := decide_eq_true (by omega)
        have HN := As.mk (show (gs.take (i + 1)).map tvP = o ++ [tvP gs[i]] by rw [List.take_succ_eq_append_getElem hlt, List.map_append, HS.out]; rfl)
        have HTI := As.mk (List.getElem?_eq_getElem hlt)
        obtain ⟨bt, ot, A2, c2, B2, d2, rfl, ⟨g0, g1, g2, g3, g4, g5⟩, ⟨hc2, hx2⟩, ⟨hd2, ht2⟩, r1, r2, r3⟩ := (S.im 1 rfl).gt_at HTI.out
        generalize gs[i] = x at HN HTI g0 g1 g2 g3 g4 g5 hc2 hx2 hd2 ht2 r1 r2 r3
        have HGX := As.mk (fun (A2 : Option Addr) (c2 : Nat) p (hp : goodI x.g 3 = p) w I hI hl => ygoodI_c x.g ⟨r1, r2, r3, (hx2.io 3).2⟩ 3 (by decide) (by decide) A2 c2 w I hI hl hp)
        have HTO := As.mk (ht2.io 3).2
        replace S := (S.know (h := Im kI A2 x.g.l) (hx2.io 3).1).know (h := Im kI B2 x.turns) (ht2.io 3).1
        clear r1 r2 r3 hx2 ht2 g0 g1 g2 g3 g4 g5
        have HTP := As.mk (show turnsP x.turns = if risP (turnsA x.turns 8) = [] then exT else risP (turnsA x.turns 8) from rfl)
        have HTV := As.mk (show tvP x = ⟨goodI x.g 3, turnsP x.turns⟩ from rfl)
        obtain ⟨gi, hgi⟩ : ∃ gi, goodI x.g 3 = gi := ⟨_, rfl⟩
        rw [hgi] at HGX HTV
        clear hgi
        obtain ⟨At, ct, rfl, -, -⟩ := S.row 2 rfl
        rw [hol] at S ⊢
        have hc := S.cells; simp only [Cells, cellsC, Im, Row, El, Nat.zero_add, Nat.reduceAdd] at hc
        go_wp2_with (first | ((first | (with_reducible refine wpl_seal S ?_) | (with_reducible refine cw_seal S ?_) | (with_reducible refine bp_seal S ?_) | (with_reducible refine ca_seal S ?_)); clear S; (try clear hc); intro w1 S; (try simp only [List.set_cons_zero, List.set_cons_succ, List.nil_append] at S); have hc := S.cells; simp only [Cells, cellsC, Im, Row, El, Nat.zero_add, Nat.reduceAdd] at hc))
        clear hc
        go_loopw [5, 6] (fun ov kv w' => ∃ (k : Nat) (o1 : List Int) (J : Fp), kv = .int .i64 k ∧ k ≤ x.turns.length ∧ k ≤ 8 ∧ o1.length = k ∧ As (turnsA x.turns k = o1) ∧ As (SH No I w [Row kI ov o1, Im kI B2 x.turns, Im kI A2 x.g.l, Row kyT (.slice At i ct) o, Im kgt (some ⟨bt, ot, none⟩) gs] w' J)) (fun _ kv _ => 8 - (intOf kv).toNat)
        case atStart => exact ⟨0, [], _, rfl, by omega, by omega, rfl, ⟨rfl⟩, ⟨S.nilrow (k := kI)⟩⟩
        case round =>
          clear S
          obtain ⟨k, o1, J, rfl, hk, hk8, hol1, HS1, ⟨S⟩⟩ := hrel
          obtain ⟨bt1, ot1, A3, c3, B3, d3, e1, ⟨g0, g1, g2, g3, g4, g5⟩, ⟨hc3, hx3⟩, ⟨hd3, ht3⟩, -, -, -⟩ := (S.im 4 rfl).gt_at HTI.out
          rw [Option.some.injEq, Addr.mk.injEq] at e1
          obtain ⟨rfl, rfl, -⟩ := e1
          replace S := (S.know (h := Im kI A3 x.g.l) (hx3.io 3).1).know (h := Im kI B3 x.turns) (ht3.io 3).1
          clear hx3 ht3
          by_cases hkl : k < x.turns.length ∧ k < 8
          · obtain ⟨hkl, hkk⟩ := hkl
            have hkl' : decide ((k : Int) < x.turns.length) = true := decide_eq_true (by omega)
            have hkk' : decide ((k : Int) < 8) = true := decide_eq_true (by omega)
            have HN1 := As.mk (show turnsA x.turns (k + 1) = o1 ++ [aroundI x.turns[k] 8] by unfold turnsA; rw [List.take_succ_eq_append_getElem hkl, List.map_append]; have := HS1.out; unfold turnsA at this; rw [this]; rfl)
            obtain ⟨gb, go, rfl, hct⟩ := (S.im 0 rfl).num_at (List.getElem?_eq_getElem hkl)
            have HA := As.mk (fun w => around_c x.turns[k] 8 w (HTO.out _ (List.getElem_mem hkl)) (by decide) (by decide))
            generalize x.turns[k] = gg at HN1 hct HA
            obtain ⟨ar, har⟩ : ∃ ar, aroundI gg 8 = ar := ⟨_, rfl⟩
            rw [har] at HN1 HA
            clear har
            obtain ⟨Ar, cr, rfl, -, -⟩ := S.row 2 rfl
            rw [hol1] at S ⊢
            have hc := S.cells; simp only [Cells, cellsC, Im, Row, El, Nat.zero_add, Nat.reduceAdd] at hc
            go_wp2_with (first | ((first | (with_reducible refine wpl_seal S ?_) | (with_reducible refine cw_seal S ?_) | (with_reducible refine bp_seal S ?_) | (with_reducible refine ca_seal S ?_)); clear S; (try clear hc); intro w1 S; (try simp only [List.set_cons_zero, List.set_cons_succ, List.nil_append] at S); have hc := S.cells; simp only [Cells, cellsC, Im, Row, El, Nat.zero_add, Nat.reduceAdd] at hc) | (go_at_call 14; refine (HA.out _).mono ?_; rintro e w1 ⟨rfl, rfl⟩) | (at_builtin; refine wpl_push S 3 rfl rfl _ _ rfl ty_ints rfl ar _ _ rfl [_] _ (S.cel 0 rfl) rfl (by (try simp only [maxLen, List.length_nil, List.length_append, List.length_cons]); omega) (by (try simp only [maxLen, List.length_nil, List.length_append, List.length_cons]); omega) ?_; clear S; (try clear hc); intro va w1 S; simp only [List.set_cons_zero, List.set_cons_succ, List.nil_append] at S; obtain ⟨Av, cv, eva, -, -⟩ := S.row 3 rfl; subst eva; have hc := S.cells; simp only [Cells, cellsC, Im, Row, El, Nat.zero_add, Nat.reduceAdd] at hc))
            rw [show (o1 ++ [ar]).length = k + 1 by rw [List.length_append, hol1]; rfl] at S
            go_roundw
            case rel => exact ⟨k + 1, o1 ++ [ar], _, by go_num, by omega, by omega, by rw [List.length_append, hol1]; rfl, HN1, ⟨(S.sel [3, 4, 5, 6, 7] (by decide) rfl (by simp) : SH _ _ _ [_, _, _, _, _] _ _)⟩⟩
            case measure => simp [intOf]; omega
          · have HL := As.mk (show turnsA x.turns 8 = o1 by
              rw [← HS1.out]; unfold turnsA
              rcases Nat.lt_or_ge k x.turns.length with h | h
              · have : k = 8 := by omega
                rw [this]
              · rw [List.take_of_length_le (by omega), List.take_of_length_le (by omega)])
            have HKN := As.mk hkl
            clear HS1 hkl
            replace S := ((S.sel [2, 0, 1, 5, 6] (by decide) rfl (by simp) : SH _ _ _ [_, _, _, _, _] _ _) : SH _ _ _ [_, _, _, _, _] _ _)
            obtain ⟨Ar, cr, I1, e1, hcr, S1, hI1⟩ := S.frow 0 rfl; subst e1; clear S hI1; have S := S1; clear S1; simp only [List.set_cons_zero, List.set_cons_succ, List.nil_append] at S
            have hor : o1.length ≤ 1000000 := by omega
            clear hol1
            obtain ⟨r, hr⟩ : ∃ r, risP o1 = r := ⟨_, rfl⟩
            have HRI := As.mk (fun w I hI hl => yrising_c o1 Ar cr w I hI hl hor hr)
            have hr8 : r.length ≤ 8 := by rw [← hr]; exact risK_len _ _
            have HTP2 : As (turnsP x.turns = if r = [] then exT else r) := ⟨by rw [HTP.out, HL.out, hr]⟩
            clear hr HTP HL
            by_cases h0 : r = []
            · subst h0
              have HN2 := As.mk (show (gs.take (i + 1)).map tvP = o ++ [(⟨gi, exT⟩ : Tv)] by rw [HN.out, HTV.out, HTP2.out]; rfl)
              clear HTP2 HN
              obtain ⟨gc, gm, ⟨gw, gh, gl⟩⟩ := gi
              dsimp only [picV] at *
              have hc := S.cells; simp only [Cells, cellsC, Im, Row, El, Nat.zero_add, Nat.reduceAdd] at hc
              rcases Nat.lt_or_ge k x.turns.length with hkl2 | hkl2
              all_goals
                (try have hk1 : decide ((k : Int) < x.turns.length) = true := decide_eq_true (by omega))
                (try have hk2 : decide ((k : Int) < x.turns.length) = false := decide_eq_false (by omega))
                (try have hk3 : decide ((k : Int) < 8) = false := decide_eq_false (by have := HKN.out; omega))
                go_upto_region 13 with (first | ((first | (with_reducible refine wpl_seal S ?_) | (with_reducible refine cw_seal S ?_) | (with_reducible refine bp_seal S ?_) | (with_reducible refine ca_seal S ?_)); clear S; (try clear hc); intro w1 S; (try simp only [List.set_cons_zero, List.set_cons_succ, List.nil_append] at S); have hc := S.cells; simp only [Cells, cellsC, Im, Row, El, Nat.zero_add, Nat.reduceAdd] at hc) | (go_at_call 18; refine (HRI.out _ _ S.bd (S.im 0 rfl)).mono ?_; rintro e w1 ⟨B5, c5, rfl, hc5, hu⟩; obtain ⟨I1, S1, hI1⟩ := S.new hu; clear S hu hI1; (try clear hc); have S := S1; clear S1; have hc := S.cells; simp only [Cells, cellsC, Im, Row, El, Nat.zero_add, Nat.reduceAdd] at hc; have hc := S.cells; simp only [Cells, cellsC, Im, Row, El, Nat.zero_add, Nat.reduceAdd] at hc))
                obtain ⟨J1, S1, -⟩ := S.lit 0 rfl (k := kI) (xs := exT) (flat_int exT)
                clear S
                have S := S1
                clear S1
                simp only [List.set_cons_zero, List.set_cons_succ, List.nil_append] at S
                obtain ⟨b9, o9, A4, c4, B4, d4, e9, ⟨h0', h1', h2', h3', h4', h5'⟩, ⟨hc4, hx4⟩, -⟩ := (S.im 6 rfl).gt_at HTI.out
                rw [Option.some.injEq, Addr.mk.injEq] at e9
                obtain ⟨rfl, rfl, -⟩ := e9
                replace S := S.know (h := Im kI A4 x.g.l) (hx4.io 3).1
                clear hx4
                have hc := S.cells; simp only [Cells, cellsC, Im, Row, El, Nat.zero_add, Nat.reduceAdd] at hc
                go_wp2_with (first | ((first | (with_reducible refine wpl_seal S ?_) | (with_reducible refine cw_seal S ?_) | (with_reducible refine bp_seal S ?_) | (with_reducible refine ca_seal S ?_)); clear S; (try clear hc); intro w1 S; (try simp only [List.set_cons_zero, List.set_cons_succ, List.nil_append] at S); have hc := S.cells; simp only [Cells, cellsC, Im, Row, El, Nat.zero_add, Nat.reduceAdd] at hc) | (go_at_call 13; refine (HGX.out A4 c4 _ rfl _ _ S.bd (S.im 0 rfl)).mono ?_; rintro e w1 ⟨B6, c6, rfl, hc6, hu⟩; obtain ⟨I1, S1, hI1⟩ := S.new hu; clear S hu hI1; (try clear hc); have S := S1; clear S1; have hc := S.cells; simp only [Cells, cellsC, Im, Row, El, Nat.zero_add, Nat.reduceAdd] at hc; have hc := S.cells; simp only [Cells, cellsC, Im, Row, El, Nat.zero_add, Nat.reduceAdd] at hc) | (at_builtin; refine wpl_push S 8 rfl rfl _ _ rfl ty_ytvs rfl (⟨⟨gc, gm, ⟨gw, gh, gl⟩⟩, exT⟩ : Tv) _ _ rfl [.int .i64 gc, .int .i64 gm, .int .i64 gw, .int .i64 gh, .slice B6 gl.length c6, .slice _ 8 8] _ (S.cel 0 rfl) (⟨B6, c6, _, 8, rfl, ⟨hc6, S.im 1 rfl⟩, (by decide : exT.length ≤ 8), S.im 3 rfl⟩) (by (try simp only [maxLen, List.length_nil, List.length_append, List.length_cons]); omega) (by (try simp only [maxLen, List.length_nil, List.length_append, List.length_cons]); omega) ?_; clear S; (try clear hc); intro va w1 S; simp only [List.set_cons_zero, List.set_cons_succ, List.nil_append] at S; have hc := S.cells; simp only [Cells, cellsC, Im, Row, El, Nat.zero_add, Nat.reduceAdd] at hc))
                go_roundw
                case rel => exact ⟨i + 1, o ++ [⟨⟨gc, gm, ⟨gw, gh, gl⟩⟩, exT⟩], _, by go_num, by omega, by omega, by rw [List.length_append, hol]; rfl, HN2, ⟨(S.sel [8, 9] (by decide) rfl (by simp) : SH _ _ _ [_, _] _ _)⟩⟩
                case measure => simp [intOf]; omega
            · have HN2 := As.mk (show (gs.take (i + 1)).map tvP = o ++ [(⟨gi, r⟩ : Tv)] by rw [HN.out, HTV.out, HTP2.out, if_neg h0])
              have hr0 : ((r.length : Int) == 0) = false := by rw [beq_eq_false_iff_ne]; have := List.length_pos_iff.2 h0; omega
              clear HTP2 HN
              obtain ⟨gc, gm, ⟨gw, gh, gl⟩⟩ := gi
              dsimp only [picV] at *
              have hc := S.cells; simp only [Cells, cellsC, Im, Row, El, Nat.zero_add, Nat.reduceAdd] at hc
              rcases Nat.lt_or_ge k x.turns.length with hkl2 | hkl2
              all_goals
                (try have hk1 : decide ((k : Int) < x.turns.length) = true := decide_eq_true (by omega))
                (try have hk2 : decide ((k : Int) < x.turns.length) = false := decide_eq_false (by omega))
                (try have hk3 : decide ((k : Int) < 8) = false := decide_eq_false (by have := HKN.out; omega))
                go_upto_region 13 with (first | ((first | (with_reducible refine wpl_seal S ?_) | (with_reducible refine cw_seal S ?_) | (with_reducible refine bp_seal S ?_) | (with_reducible refine ca_seal S ?_)); clear S; (try clear hc); intro w1 S; (try simp only [List.set_cons_zero, List.set_cons_succ, List.nil_append] at S); have hc := S.cells; simp only [Cells, cellsC, Im, Row, El, Nat.zero_add, Nat.reduceAdd] at hc) | (go_at_call 18; refine (HRI.out _ _ S.bd (S.im 0 rfl)).mono ?_; rintro e w1 ⟨B5, c5, rfl, hc5, hu⟩; obtain ⟨I1, S1, hI1⟩ := S.new hu; clear S hu hI1; (try clear hc); have S := S1; clear S1; have hc := S.cells; simp only [Cells, cellsC, Im, Row, El, Nat.zero_add, Nat.reduceAdd] at hc; have hc := S.cells; simp only [Cells, cellsC, Im, Row, El, Nat.zero_add, Nat.reduceAdd] at hc))
                obtain ⟨b9, o9, A4, c4, B4, d4, e9, ⟨h0', h1', h2', h3', h4', h5'⟩, ⟨hc4, hx4⟩, -⟩ := (S.im 5 rfl).gt_at HTI.out
                rw [Option.some.injEq, Addr.mk.injEq] at e9
                obtain ⟨rfl, rfl, -⟩ := e9
                replace S := S.know (h := Im kI A4 x.g.l) (hx4.io 3).1
                clear hx4
                have hc := S.cells; simp only [Cells, cellsC, Im, Row, El, Nat.zero_add, Nat.reduceAdd] at hc
                go_wp2_with (first | ((first | (with_reducible refine wpl_seal S ?_) | (with_reducible refine cw_seal S ?_) | (with_reducible refine bp_seal S ?_) | (with_reducible refine ca_seal S ?_)); clear S; (try clear hc); intro w1 S; (try simp only [List.set_cons_zero, List.set_cons_succ, List.nil_append] at S); have hc := S.cells; simp only [Cells, cellsC, Im, Row, El, Nat.zero_add, Nat.reduceAdd] at hc) | (go_at_call 13; refine (HGX.out A4 c4 _ rfl _ _ S.bd (S.im 0 rfl)).mono ?_; rintro e w1 ⟨B6, c6, rfl, hc6, hu⟩; obtain ⟨I1, S1, hI1⟩ := S.new hu; clear S hu hI1; (try clear hc); have S := S1; clear S1; have hc := S.cells; simp only [Cells, cellsC, Im, Row, El, Nat.zero_add, Nat.reduceAdd] at hc; have hc := S.cells; simp only [Cells, cellsC, Im, Row, El, Nat.zero_add, Nat.reduceAdd] at hc) | (at_builtin; refine wpl_push S 7 rfl rfl _ _ rfl ty_ytvs rfl (⟨⟨gc, gm, ⟨gw, gh, gl⟩⟩, r⟩ : Tv) _ _ rfl [.int .i64 gc, .int .i64 gm, .int .i64 gw, .int .i64 gh, .slice B6 gl.length c6, .slice B5 r.length c5] _ (S.cel 0 rfl) (⟨B6, c6, B5, c5, rfl, ⟨hc6, S.im 1 rfl⟩, hc5, S.im 3 rfl⟩) (by (try simp only [maxLen, List.length_nil, List.length_append, List.length_cons]); omega) (by (try simp only [maxLen, List.length_nil, List.length_append, List.length_cons]); omega) ?_; clear S; (try clear hc); intro va w1 S; simp only [List.set_cons_zero, List.set_cons_succ, List.nil_append] at S; have hc := S.cells; simp only [Cells, cellsC, Im, Row, El, Nat.zero_add, Nat.reduceAdd] at hc))
                go_roundw
                case rel => exact ⟨i + 1, o ++ [⟨⟨gc, gm, ⟨gw, gh, gl⟩⟩, r⟩], _, by go_num, by omega, by omega, by rw [List.length_append, hol]; rfl, HN2, ⟨(S.sel [7, 8] (by decide) rfl (by simp) : SH _ _ _ [_, _] _ _)⟩⟩
                case measure => simp [intOf]; omega
      · have h5' : decide ((i : Int) < 5) = false := decide_eq_false (by omega)
        have HF := As.mk (show o = l by rw [← HS.out, ← HR.out]; unfold goodT; rw [show i = 5 by omega])
        clear hol
        obtain rfl := HF.out
        have hc := S.cells; simp only [Cells, cellsC, Im, Row, El, Nat.zero_add, Nat.reduceAdd] at hc
        go_wp2_with (first | ((first | (with_reducible refine wpl_seal S ?_) | (with_reducible refine cw_seal S ?_) | (with_reducible refine bp_seal S ?_) | (with_reducible refine ca_seal S ?_)); clear S; (try clear hc); intro w1 S; (try simp only [List.set_cons_zero, List.set_cons_succ, List.nil_append] at S); have hc := S.cells; simp only [Cells, cellsC, Im, Row, El, Nat.zero_add, Nat.reduceAdd] at hc))
        obtain ⟨A1, c1, I1, e1, hc1, S1, hI1⟩ := S.frow 0 rfl; subst e1; clear S hI1; have S := S1; clear S1; simp only [List.set_cons_zero, List.set_cons_succ, List.nil_append] at S
        go_ret
        exact ⟨A1, c1, rfl, hc1, S.ret 0 rfl⟩
    · have hlt' : decide ((i : Int) < gs.length) = false := decide_eq_false (by omega)
      have HF := As.mk (show o = l by rw [← HS.out, ← HR.out]; unfold goodT; rw [List.take_of_length_le (by omega), List.take_of_length_le (by omega)])
      clear hol
      obtain rfl := HF.out
      have hc := S.cells; simp only [Cells, cellsC, Im, Row, El, Nat.zero_add, Nat.reduceAdd] at hc
      go_wp2_with (first | ((first | (with_reducible refine wpl_seal S ?_) | (with_reducible refine cw_seal S ?_) | (with_reducible refine bp_seal S ?_) | (with_reducible refine ca_seal S ?_)); clear S; (try clear hc); intro w1 S; (try simp only [List.set_cons_zero, List.set_cons_succ, List.nil_append] at S); have hc := S.cells; simp only [Cells, cellsC, Im, Row, El, Nat.zero_add, Nat.reduceAdd] at hc))
      obtain ⟨A1, c1, I1, e1, hc1, S1, hI1⟩ := S.frow 0 rfl; subst e1; clear S hI1; have S := S1; clear S1; simp only [List.set_cons_zero, List.set_cons_succ, List.nil_append] at S
      go_ret
      exact ⟨A1, c1, rfl, hc1, S.ret 0 rfl⟩
end Go.Proofs.YtnmlonicfncpfaaGreat
