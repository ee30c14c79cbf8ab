/- Records read of bytes: the program's, the document's. -/
import Derived.Test.YteaekpnmiicbhaaPMay
import Derived.Test.YteaekpnmiicbhaaCut
namespace Go.Proofs.Yteaekpnmiicbhaa.X
open Go.RowKit
theorem Sl.cutL {P : Program} {t : TypeId} {bytes : Nat} {α : Type} {k : Kd α} {w : World} {D : Nat → Prop} {A : Option Addr} {xs : List α} (T : TyOk P t k bytes) (h : Sl k w D A xs) {l c : Nat} (hl : l ≤ xs.length) (hc : xs.length ≤ c) :
    ∃ A', (∀ W, (Instr.sliceAt t (.slice A xs.length c) (some (.int .i64 (l : Int))) none none).run P W = .ok (.slice A' (xs.drop l).length (c - l)) W) ∧ Sl k w D A' (xs.drop l) := by
  obtain ⟨i, z, h1, h2, h3, h4, h5⟩ := T.inf
  have he : P.elem t = k.ety := by simp [Program.elem, T.und]
  have hu : P.underlying t = some (.slice (P.elem t)) := by rw [he]; exact T.und
  have hS := h.cut (l := l) (hi := xs.length) (c := c) (Nat.le_refl _) hc
  rw [List.take_length] at hS
  refine ⟨_, fun W => ?_, hS⟩
  rw [run_sliceAt_slice W t _ _ _ _ hu, run_slice_l W t A xs.length c hu .i64 l (by omega) (by omega), List.length_drop]
  simp [sizeOf, typeInfo, he, h1, h3, sliced, Result.andThen]
theorem Sl.cutR {P : Program} {t : TypeId} {bytes : Nat} {α : Type} {k : Kd α} {w : World} {D : Nat → Prop} {A : Option Addr} {xs : List α} (T : TyOk P t k bytes) (h : Sl k w D A xs) {l c : Nat} (hl : l ≤ xs.length) (hc : xs.length ≤ c) :
    ∃ A', (∀ W, (Instr.sliceAt t (.slice A xs.length c) none (some (.int .i64 (l : Int))) none).run P W = .ok (.slice A' l c) W) ∧ Sl k w D A' (xs.take l) := by
  obtain ⟨i, z, h1, h2, h3, h4, h5⟩ := T.inf
  have he : P.elem t = k.ety := by simp [Program.elem, T.und]
  have hu : P.underlying t = some (.slice (P.elem t)) := by rw [he]; exact T.und
  have hS := h.cut (l := 0) (hi := l) (c := c) hl (by omega)
  rw [List.drop_zero] at hS
  refine ⟨_, fun W => ?_, hS⟩
  rw [run_sliceAt_slice W t _ _ _ _ hu, run_slice_h W t A xs.length c hu .i64 l (by omega) (by omega)]
  simp [sizeOf, typeInfo, he, h1, h3, sliced, Result.andThen]
end Go.Proofs.Yteaekpnmiicbhaa.X
namespace Go.Proofs.Yteaekpnmiicbhaa
open Go.RowKit X
set_option maxHeartbeats 1000000
set_option maxRecDepth 8000
set_option linter.unusedSimpArgs false
set_option linter.unusedVariables false
def lenOf : Value → Nat | .slice _ n _ => n | _ => 0
/-- j numbers that bytes begin with -/
def nums : Nat → List UInt8 → List Nat × Nat × List UInt8
  | 0, bs => ([], 0, bs)
  | j + 1, bs => if (getB bs).2.2 = 0 then ((getB bs).1 :: (nums j (bs.drop (getB bs).2.1)).1, (nums j (bs.drop (getB bs).2.1)).2) else ([], (getB bs).2.2, bs)
theorem nums_ok {j : Nat} {bs : List UInt8} (h : (getB bs).2.2 = 0) : nums (j + 1) bs = ((getB bs).1 :: (nums j (bs.drop (getB bs).2.1)).1, (nums j (bs.drop (getB bs).2.1)).2) := by rw [nums, if_pos h]
theorem nums_bad {j : Nat} {bs : List UInt8} (h : (getB bs).2.2 ≠ 0) : nums (j + 1) bs = ([], (getB bs).2.2, bs) := by rw [nums, if_neg h]
def mk5 (l : List Nat) : R5 := ⟨l.getD 0 0, l.getD 1 0, l.getD 2 0, l.getD 3 0, l.getD 4 0⟩
def readGo : Nat → List R5 → List UInt8 → List R5 × Nat × Nat
  | 0, out, _ => (out, 0, 0)
  | f + 1, out, bs => if bs.length = 0 then (out, 0, 0) else if (nums 5 bs).2.1 ≠ 0 then ([], out.length, (nums 5 bs).2.1) else if 8 ≤ (nums 5 bs).1.getD 4 0 then ([], out.length, 4)
    else readGo f (out ++ [mk5 (nums 5 bs).1]) (nums 5 bs).2.2
def readB (bs : List UInt8) : List R5 × Nat × Nat := readGo bs.length [] bs
theorem readGo_end {f : Nat} {out : List R5} {bs : List UInt8} (h : bs.length = 0) : readGo f out bs = (out, 0, 0) := by
  cases f with
  | zero => rfl
  | succ f => rw [readGo, if_pos h]
/-- numbers, the rest 0 -/
def pad5 (l : List Nat) : List Nat := l ++ List.replicate (5 - l.length) 0
theorem pad5_set {l : List Nat} {n : Nat} (h : l.length < 5) : (pad5 l).set l.length n = pad5 (l ++ [n]) := by
  unfold pad5
  rw [List.set_append_right _ _ (Nat.le_refl _), Nat.sub_self, show 5 - l.length = (5 - (l ++ [n]).length) + 1 by rw [List.length_append]; simp; omega, List.replicate_succ, List.set_cons_zero, List.append_assoc]
  rfl
def vI (n : Nat) : Value := .int .i64 n
theorem record_c (a b c d e : Nat) (w : World) : Calls Try.prog 29 #[.agg #[.int .i64 a, .int .i64 b, .int .i64 c, .int .i64 d, .int .i64 e]] w fun r w' => r = .returned (mk5 [a, b, c, d, e]).v ∧ Ext w w' := by
  have S := SH.start w No (fun _ h => h.elim)
  dsimp only [R5.v, mk5, List.getD_cons_zero, List.getD_cons_succ]
  have hc := S.cells; simp only [Cells, cellsC, Im, Row, El, Nat.zero_add, Nat.reduceAdd] at hc
  go_enter Try.func29, Try.ntmps29
  go_wp2_with (first | ((first | (with_reducible refine wpl_seal S ?_) | (with_reducible refine cw_seal S ?_) | (with_reducible refine bp_seal S ?_) | (with_reducible refine ca_seal S ?_)); clear S; (try clear hc); intro w1 S; (try simp only [List.set_cons_zero, List.set_cons_succ, List.nil_append] at S); have hc := S.cells; simp only [Cells, cellsC, Im, Row, El, Nat.zero_add, Nat.reduceAdd] at hc))
  refine bodyPost_ret (results_cell_row rfl _ _ _ 57 _ (0, 0) _ rfl (S.cel 0 rfl) Try.underlying57 rfl (by kernel_rfl)) rfl ?_
  exact ⟨rfl, S.out⟩
theorem nums_len : ∀ (j : Nat) (bs : List UInt8), (nums j bs).2.1 = 0 → (nums j bs).1.length = j ∧ (nums j bs).2.2.length + j ≤ bs.length
  | 0, bs, _ => ⟨rfl, Nat.le_refl _⟩
  | j + 1, bs, h => by
    by_cases he : (getB bs).2.2 = 0
    · rw [nums_ok he] at h ⊢
      have h1 := nums_len j _ h
      have h2 := getB_ok (bs := bs) (a := (getB bs).1) (b := (getB bs).2.1) (by rw [← he])
      rw [List.length_drop] at h1
      simp only [List.length_cons]
      omega
    · rw [nums_bad he] at h; exact absurd h he
theorem read_c (bs : List UInt8) (A : Option Addr) (c : Nat) (w : World) (I : Fp) (hI : ∀ b, I b → b < w.heap.size) (hb : Sl kB w I A bs) (hc0 : bs.length ≤ c) (hn : bs.length ≤ 1000) :
    Calls Try.prog 11 #[.slice A bs.length c] w fun e w' => ∃ v, e = .returned (.tuple #[v, .int .i64 (readB bs).2.1, .int .i64 (readB bs).2.2]) ∧ Upd w No I w' (Row kC v (readB bs).1) := by
  have S := ((SH.start w I hI).know (h := Im kB A bs) hb).nilrow (k := kC)
  clear hb
  have hc := S.cells; simp only [Cells, cellsC, Im, Row, El, Nat.zero_add, Nat.reduceAdd] at hc
  go_enter Try.func11, Try.ntmps11
  go_wp2_with (first | ((first | (with_reducible refine wpl_seal S ?_) | (with_reducible refine cw_seal S ?_) | (with_reducible refine bp_seal S ?_) | (with_reducible refine ca_seal S ?_)); clear S; (try clear hc); intro w1 S; (try simp only [List.set_cons_zero, List.set_cons_succ, List.nil_append] at S); have hc := S.cells; simp only [Cells, cellsC, Im, Row, El, Nat.zero_add, Nat.reduceAdd] at hc))
  have S1 := S
  clear S hc
  go_loopw [0, 5] (fun bv v w' => ∃ (f : Nat) (out : List R5) (bs2 : List UInt8) (A2 : Option Addr) (c2 : Nat), bs2.length ≤ f ∧ out.length + bs2.length ≤ bs.length ∧ bs2.length ≤ c2 ∧ bv = .slice A2 bs2.length c2 ∧ As (readGo f out bs2 = readB bs) ∧ ∃ I', As (SH No I w [Row kC v out, Im kB A2 bs2] w' I')) (fun bv _ _ => lenOf bv)
  case atStart => exact ⟨bs.length, [], bs, A, c, by omega, by simp, by omega, rfl, ⟨rfl⟩, _, ⟨S1⟩⟩
  case round =>
    clear S1
    obtain ⟨f, out, bs2, A2, c2, hf, hob, hc2, rfl, HR, I', ⟨S⟩⟩ := hrel
    obtain ⟨Av, cv, rfl, hcv, -⟩ := S.row 0 rfl
    by_cases hlt : 0 < bs2.length
    · have hlt' : decide (0 < bs2.length) = true := by simpa using hlt
      obtain ⟨f', rfl⟩ : ∃ f', f = f' + 1 := ⟨f - 1, by omega⟩
      have HR1 := HR.out
      rw [readGo, if_neg (by omega)] at HR1
      have HR2 := As.mk HR1
      clear HR1 HR
      have hc := S.cells; simp only [Cells, cellsC, Im, Row, El, Nat.zero_add, Nat.reduceAdd] at hc
      go_wp2_with (first | ((first | (with_reducible refine wpl_seal S ?_) | (with_reducible refine cw_seal S ?_) | (with_reducible refine bp_seal S ?_) | (with_reducible refine ca_seal S ?_)); clear S; (try clear hc); intro w1 S; (try simp only [List.set_cons_zero, List.set_cons_succ, List.nil_append] at S); have hc := S.cells; simp only [Cells, cellsC, Im, Row, El, Nat.zero_add, Nat.reduceAdd] at hc))
      obtain ⟨ga, ega⟩ := S.name 0 rfl; rw [← ega] at S ⊢; clear ega
      have S1 := S
      clear S hc
      go_loopw [0, 14] (fun bv iv w' => ∃ (pre : List Nat) (bs3 : List UInt8) (A3 : Option Addr) (c3 : Nat), pre.length ≤ 5 ∧ bs3.length + pre.length ≤ bs2.length ∧ bs3.length ≤ c3 ∧ bv = .slice A3 bs3.length c3 ∧ iv = .int .i64 pre.length ∧ As (nums 5 bs2 = (pre ++ (nums (5 - pre.length) bs3).1, (nums (5 - pre.length) bs3).2)) ∧ As (∀ p ∈ pre, p ≤ 4611686018427387903) ∧ ∃ I', As (SH No I w [Cel ga 66 ((pad5 pre).map vI), Row kC (.slice Av out.length cv) out, Im kB A3 bs3] w' I')) (fun _ iv _ => 5 - (intOf iv).toNat)
      case atStart => exact ⟨[], bs2, A2, c2, by simp, by simp, hc2, rfl, rfl, ⟨rfl⟩, ⟨by simp⟩, _, ⟨S1⟩⟩
      case round =>
        clear S1
        obtain ⟨pre, bs3, A3, c3, hp5, hb3, hc3, rfl, rfl, HN, HP, I', ⟨S⟩⟩ := hrel
        by_cases hl5 : pre.length < 5
        · have hl5' : decide ((pre.length : Int) < 5) = true := by simp; omega
          obtain ⟨j', hj'⟩ : ∃ j', 5 - pre.length = j' + 1 := ⟨4 - pre.length, by omega⟩
          obtain ⟨x, u, e, hg⟩ : ∃ x u e, getB bs3 = (x, u, e) := ⟨_, _, _, rfl⟩
          have HG := As.mk hg
          have HS := As.mk (pad5_set (n := x) hl5)
          have HL : As (pre.length < (pad5 pre).length) := ⟨by unfold pad5; rw [List.length_append, List.length_replicate]; omega⟩
          clear hg
          by_cases he : e = 0
          · subst he
            have hok := getB_ok HG.out
            obtain ⟨A4, hcut, hs4⟩ := (S.im 2 rfl).cutL ty_u8s (l := u) (c := c3) (by omega) hc3
            have hdl : (bs3.drop u).length = bs3.length - u := List.length_drop ..
            have HN2 : As (nums 5 bs2 = ((pre ++ [x]) ++ (nums (5 - (pre ++ [x]).length) (bs3.drop u)).1, (nums (5 - (pre ++ [x]).length) (bs3.drop u)).2)) := ⟨by
              have e1 : 5 - (pre ++ [x]).length = j' := by rw [List.length_append]; simp; omega
              have e2 : (getB bs3).2.2 = 0 := by rw [HG.out]
              rw [HN.out, hj', nums_ok e2, e1, HG.out]
              simp⟩
            have HP2 : As (∀ p ∈ pre ++ [x], p ≤ 4611686018427387903) := ⟨fun p hp => by
              rw [List.mem_append, List.mem_singleton] at hp
              rcases hp with hp | hp
              · exact HP.out p hp
              · subst hp; exact hok.1⟩
            replace S := S.know (h := Im kB A4 (bs3.drop u)) hs4
            clear hs4
            generalize bs3.drop u = bs4 at S HN2 hdl hcut
            have hc := S.cells; simp only [Cells, cellsC, Im, Row, El, Nat.zero_add, Nat.reduceAdd] at hc
            go_wp2_with (first | ((first | (with_reducible refine wpl_seal S ?_) | (with_reducible refine cw_seal S ?_) | (with_reducible refine bp_seal S ?_) | (with_reducible refine ca_seal S ?_)); clear S; (try clear hc); intro w1 S; (try simp only [List.set_cons_zero, List.set_cons_succ, List.nil_append] at S); have hc := S.cells; simp only [Cells, cellsC, Im, Row, El, Nat.zero_add, Nat.reduceAdd] at hc) | (go_at_call 28; refine (get_c bs3 _ _ _ _ (S.im 3 rfl) (by omega)).mono ?_; rw [HG.out]; rintro e w1 ⟨rfl, rfl⟩))
            refine wp_region_ext [⟨[0, 1, 5], [2, 3, 4], 6, false⟩] [7] (by kernel_rfl) (by kernel_rfl) ?_
            refine mix_cons rfl rfl rfl ?_
            simp only [opsAt, List.getD_cons_succ, List.getD_cons_zero]
            repeat (go_big_quiet_step ((intro hC; first | rfl | (go_simp; first | done | rfl))))
            refine wpQuiet_nil ?_
            repeat (go_big_quiet_step ((intro hC; first | rfl | (go_simp; first | done | rfl))))
            refine wpQuiet_nil ?_
            clear hc
            replace S := S.drew
            generalize wr.drew = w2 at S ⊢
            have hck := S.cell 1 pre.length (u := vI ((pad5 pre)[pre.length]'HL.out)) rfl (by rw [List.getElem?_map, List.getElem?_eq_getElem HL.out]; rfl)
            have hfz := S.nfz 1 pre.length rfl
            go_wp2_with (first | ((first | (with_reducible refine mx_seal S ?_) | (with_reducible refine wpl_seal S ?_) | (with_reducible refine ca_seal S ?_)); clear S; (try clear hc); intro w1 S; (try simp only [List.set_cons_zero, List.set_cons_succ, List.nil_append] at S); have hc := S.cells; simp only [Cells, cellsC, Im, Row, El, Nat.zero_add, Nat.reduceAdd] at hc))
            (first | refine ⟨(fun h => by cases h), ?_⟩ | skip); (first | ((first | (with_reducible refine mx_seal S ?_)); clear S; (try clear hc); intro w1 S; (try simp only [List.set_cons_zero, List.set_cons_succ, List.nil_append] at S); have hc := S.cells; simp only [Cells, cellsC, Im, Row, El, Nat.zero_add, Nat.reduceAdd] at hc) | skip); (try simp only [Act.put, List.setIfInBounds_toArray, List.set_cons_succ, List.set_cons_zero])
            refine mix_last rfl ?_
            simp only [opsAt, List.getD_cons_succ, List.getD_cons_zero]
            repeat (go_big_quiet_step ((intro hC; first | rfl | (go_simp; first | done | rfl))))
            refine wpQuiet_nil ?_
            simp only [calmQ]
            go_wp2_with (first | ((first | (with_reducible refine wpl_seal S ?_) | (with_reducible refine cw_seal S ?_) | (with_reducible refine bp_seal S ?_) | (with_reducible refine ca_seal S ?_)); clear S; (try clear hc); intro w1 S; (try simp only [List.set_cons_zero, List.set_cons_succ, List.nil_append] at S); have hc := S.cells; simp only [Cells, cellsC, Im, Row, El, Nat.zero_add, Nat.reduceAdd] at hc))
            go_roundw
            case rel => exact ⟨pre ++ [x], bs4, A4, c3 - u, by rw [List.length_append]; simp; omega, by rw [List.length_append]; simp; omega, by omega, by rw [hdl], by rw [List.length_append]; go_num, HN2, HP2, _, ⟨by
              rw [← HS.out, List.map_set]
              exact (S.sel [1, 2, 0] (by decide) rfl (by simp) : SH _ _ _ [_, _, _] _ _)⟩⟩
            case measure => simp [intOf]; omega
          · have HE : As (readB bs = ([], out.length, e)) := ⟨by
              have e2 : (getB bs3).2.2 = e := by rw [HG.out]
              have h2 : nums 5 bs2 = (pre ++ [], e, bs3) := by rw [HN.out, hj', nums_bad (by rw [e2]; exact he), e2]
              rw [← HR2.out, h2, if_pos he]⟩
            have he' : ((e : Int) != 0) = true := by rw [bne_iff_ne]; omega
            have hc := S.cells; simp only [Cells, cellsC, Im, Row, El, Nat.zero_add, Nat.reduceAdd] at hc
            go_wp2_with (first | ((first | (with_reducible refine wpl_seal S ?_) | (with_reducible refine cw_seal S ?_) | (with_reducible refine bp_seal S ?_) | (with_reducible refine ca_seal S ?_)); clear S; (try clear hc); intro w1 S; (try simp only [List.set_cons_zero, List.set_cons_succ, List.nil_append] at S); have hc := S.cells; simp only [Cells, cellsC, Im, Row, El, Nat.zero_add, Nat.reduceAdd] at hc) | (go_at_call 28; refine (get_c bs3 _ _ _ _ (S.im 2 rfl) (by omega)).mono ?_; rw [HG.out]; rintro e w1 ⟨rfl, rfl⟩))
            go_ret3
            rw [HE.out]
            exact ⟨_, rfl, S.nilrow.ret 0 rfl⟩
        · have hl5' : decide ((pre.length : Int) < 5) = false := by simp; omega
          have hp : pre.length = 5 := by omega
          have HN3 := HN.out
          rw [hp] at HN3
          replace HN3 : nums 5 bs2 = (pre, 0, bs3) := by rw [HN3]; simp [nums]
          obtain ⟨a, b, c', d, e, rfl⟩ : ∃ a b c d e, pre = [a, b, c, d, e] := by
            rcases pre with _ | ⟨a, _ | ⟨b, _ | ⟨c, _ | ⟨d, _ | ⟨e, _ | ⟨f, r⟩⟩⟩⟩⟩⟩ <;> simp at hp
            exact ⟨_, _, _, _, _, rfl⟩
          have HR3 := HR2.out
          rw [HN3, if_neg (by simp)] at HR3
          simp only [List.getD_cons_zero, List.getD_cons_succ] at HR3
          have hb5 := (nums_len 5 bs2 (by rw [HN3])).2
          rw [HN3] at hb5
          rw [show (pad5 [a, b, c', d, e]).map vI = [.int .i64 a, .int .i64 b, .int .i64 c', .int .i64 d, .int .i64 e] from rfl] at S
          have hok5 : out.length ≤ 1000 := by omega
          by_cases h8 : 8 ≤ e
          · rw [if_pos h8] at HR3
            have HE := As.mk HR3.symm
            have h8' : decide ((e : Int) ≥ 8) = true := by simp; omega
            clear HR3 HN3 HN hp
            have hc := S.cells; simp only [Cells, cellsC, Im, Row, El, Nat.zero_add, Nat.reduceAdd] at hc
            go_wp2_with (first | ((first | (with_reducible refine wpl_seal S ?_) | (with_reducible refine cw_seal S ?_) | (with_reducible refine bp_seal S ?_) | (with_reducible refine ca_seal S ?_)); clear S; (try clear hc); intro w1 S; (try simp only [List.set_cons_zero, List.set_cons_succ, List.nil_append] at S); have hc := S.cells; simp only [Cells, cellsC, Im, Row, El, Nat.zero_add, Nat.reduceAdd] at hc))
            go_ret3
            rw [HE.out]
            exact ⟨_, rfl, S.nilrow.ret 0 rfl⟩
          · rw [if_neg h8] at HR3
            have HE := As.mk HR3
            have h8' : decide ((e : Int) ≥ 8) = false := by simp; omega
            clear HR3 HN3 HN hp
            have hc := S.cells; simp only [Cells, cellsC, Im, Row, El, Nat.zero_add, Nat.reduceAdd] at hc
            go_wp2_with (first | ((first | (with_reducible refine wpl_seal S ?_) | (with_reducible refine cw_seal S ?_) | (with_reducible refine bp_seal S ?_) | (with_reducible refine ca_seal S ?_)); clear S; (try clear hc); intro w1 S; (try simp only [List.set_cons_zero, List.set_cons_succ, List.nil_append] at S); have hc := S.cells; simp only [Cells, cellsC, Im, Row, El, Nat.zero_add, Nat.reduceAdd] at hc) | (go_at_call 29; refine (record_c a b c' d e _).mono ?_; dsimp only [R5.v, mk5, List.getD_cons_zero, List.getD_cons_succ]; rintro r w1 ⟨rfl, hx⟩; replace S := S.ext hx; clear hx; (try clear hc); have hc := S.cells; simp only [Cells, cellsC, Im, Row, El, Nat.zero_add, Nat.reduceAdd] at hc) | (at_builtin; refine wpl_push S 2 rfl rfl _ _ rfl ty_recs rfl (mk5 [a, b, c', d, e]) _ _ rfl (mk5 [a, b, c', d, e]).cells _ (S.cel 0 rfl) rfl (by (try simp only [maxLen, List.length_nil, List.length_append, List.length_cons]); omega) (by (try simp only [maxLen, List.length_nil, List.length_append, List.length_cons]); omega) ?_; clear S; (try clear hc); intro va w1 S; simp only [List.set_cons_zero, List.set_cons_succ, List.nil_append] at S; have hc := S.cells; simp only [Cells, cellsC, Im, Row, El, Nat.zero_add, Nat.reduceAdd] at hc))
            go_roundw
            case rel => exact ⟨f', out ++ [mk5 [a, b, c', d, e]], bs3, A3, c3, by omega, by rw [List.length_append]; simp; omega, hc3, rfl, HE, _, ⟨(S.sel [2, 3] (by decide) rfl (by simp) : SH _ _ _ [_, _] _ _)⟩⟩
            case measure => simp [lenOf]; omega
    · have hlt' : decide (0 < bs2.length) = false := by simpa using hlt
      have HE := HR.out
      rw [readGo_end (by omega)] at HE
      have HE2 := As.mk HE.symm
      clear HE HR
      have hc := S.cells; simp only [Cells, cellsC, Im, Row, El, Nat.zero_add, Nat.reduceAdd] at hc
      go_wp2_with (first | ((first | (with_reducible refine wpl_seal S ?_) | (with_reducible refine cw_seal S ?_) | (with_reducible refine bp_seal S ?_) | (with_reducible refine ca_seal S ?_)); clear S; (try clear hc); intro w1 S; (try simp only [List.set_cons_zero, List.set_cons_succ, List.nil_append] at S); have hc := S.cells; simp only [Cells, cellsC, Im, Row, El, Nat.zero_add, Nat.reduceAdd] at hc))
      go_ret3
      rw [HE2.out]
      exact ⟨_, rfl, S.ret 0 rfl⟩
theorem rread_c (bs : List UInt8) (A : Option Addr) (c : Nat) (w : World) (I : Fp) (hI : ∀ b, I b → b < w.heap.size) (hb : Sl kB w I A bs) (hc0 : bs.length ≤ c) (hn : bs.length ≤ 1000) :
    Calls Try.prog 12 #[.slice A bs.length c] w fun e w' => ∃ v, e = .returned (.tuple #[v, .int .i64 (readB bs).2.1, .int .i64 (readB bs).2.2]) ∧ Upd w No I w' (Row kR v (readB bs).1) := by
  have S := ((SH.start w I hI).know (h := Im kB A bs) hb).nilrow (k := kR)
  clear hb
  have hc := S.cells; simp only [Cells, cellsC, Im, Row, El, Nat.zero_add, Nat.reduceAdd] at hc
  go_enter Try.func12, Try.ntmps12
  go_wp2_with (first | ((first | (with_reducible refine wpl_seal S ?_) | (with_reducible refine cw_seal S ?_) | (with_reducible refine bp_seal S ?_) | (with_reducible refine ca_seal S ?_)); clear S; (try clear hc); intro w1 S; (try simp only [List.set_cons_zero, List.set_cons_succ, List.nil_append] at S); have hc := S.cells; simp only [Cells, cellsC, Im, Row, El, Nat.zero_add, Nat.reduceAdd] at hc))
  have S1 := S
  clear S hc
  go_loopw [5, 6] (fun v pv w' => ∃ (f p : Nat) (out : List R5), (bs.drop p).length ≤ f ∧ p ≤ bs.length ∧ out.length ≤ p ∧ pv = .int .i64 p ∧ As (readGo f out (bs.drop p) = readB bs) ∧ ∃ I', As (SH No I w [Row kR v out, Im kB A bs] w' I')) (fun _ pv _ => bs.length - (intOf pv).toNat)
  case atStart => exact ⟨bs.length, 0, [], by simp, by omega, by simp, rfl, ⟨rfl⟩, _, ⟨S1⟩⟩
  case round =>
    clear S1
    obtain ⟨f, p, out, hf, hp, hop, rfl, HR, I', ⟨S⟩⟩ := hrel
    obtain ⟨Av, cv, rfl, hcv, -⟩ := S.row 0 rfl
    have hdl : (bs.drop p).length = bs.length - p := List.length_drop ..
    by_cases hlt : p < bs.length
    · have hlt' : decide ((p : Int) < bs.length) = true := by simpa using hlt
      obtain ⟨f', rfl⟩ : ∃ f', f = f' + 1 := ⟨f - 1, by omega⟩
      have HR1 := HR.out
      rw [readGo, if_neg (by omega)] at HR1
      have HR2 := As.mk HR1
      clear HR1 HR
      have hc := S.cells; simp only [Cells, cellsC, Im, Row, El, Nat.zero_add, Nat.reduceAdd] at hc
      go_wp2_with (first | ((first | (with_reducible refine wpl_seal S ?_) | (with_reducible refine cw_seal S ?_) | (with_reducible refine bp_seal S ?_) | (with_reducible refine ca_seal S ?_)); clear S; (try clear hc); intro w1 S; (try simp only [List.set_cons_zero, List.set_cons_succ, List.nil_append] at S); have hc := S.cells; simp only [Cells, cellsC, Im, Row, El, Nat.zero_add, Nat.reduceAdd] at hc))
      have S1 := S.nilrow (k := kI)
      clear S hc
      go_loopw [6, 7, 8] (fun pv nv iv w' => ∃ (pre : List Nat) (q : Nat), pre.length ≤ 5 ∧ q ≤ bs.length ∧ p + pre.length ≤ q ∧ pv = .int .i64 q ∧ iv = .int .i64 pre.length ∧ As (nums 5 (bs.drop p) = (pre ++ (nums (5 - pre.length) (bs.drop q)).1, (nums (5 - pre.length) (bs.drop q)).2)) ∧ As (∀ p ∈ pre, p ≤ 4611686018427387903) ∧ ∃ I', As (SH No I w [Row kI nv (pre.map fun n : Nat => (n : Int)), Row kR (.slice Av out.length cv) out, Im kB A bs] w' I')) (fun _ _ iv _ => 5 - (intOf iv).toNat)
      case atStart => exact ⟨[], p, by simp, by omega, by simp, rfl, rfl, ⟨rfl⟩, ⟨by simp⟩, _, ⟨S1⟩⟩
      case round =>
        clear S1
        obtain ⟨pre, q, hp5, hq, hpq, rfl, rfl, HN, HP, I', ⟨S⟩⟩ := hrel
        by_cases hl5 : pre.length < 5
        · have hl5' : decide ((pre.length : Int) < 5) = true := by simp; omega
          obtain ⟨j', hj'⟩ : ∃ j', 5 - pre.length = j' + 1 := ⟨4 - pre.length, by omega⟩
          obtain ⟨A4, hcut, hs4⟩ := (S.im 2 rfl).cutL ty_u8s hq hc0
          replace S := S.know (h := Im kB A4 (bs.drop q)) hs4
          clear hs4
          have hql : (bs.drop q).length = bs.length - q := List.length_drop ..
          have HDD : As (∀ u, (bs.drop q).drop u = bs.drop (q + u)) := ⟨fun u => by rw [List.drop_drop]⟩
          have hml : (pre.map fun n : Nat => (n : Int)).length = pre.length := List.length_map _
          obtain ⟨zs, hzs⟩ : ∃ zs, pre.map (fun n : Nat => (n : Int)) = zs := ⟨_, rfl⟩
          have HZ := As.mk hzs
          rw [hzs] at S hml
          obtain ⟨bs3, hbs3⟩ : ∃ bs3, bs.drop q = bs3 := ⟨_, rfl⟩
          rw [hbs3] at S HN hql hcut HDD
          clear hbs3 hzs
          have HQL := As.mk hql
          have HML := As.mk hml
          have hql2 : bs3.length ≤ 1000 := by omega
          have hml2 : zs.length ≤ 5 := by omega
          clear hql hml
          obtain ⟨x, u, e, hg⟩ : ∃ x u e, getB bs3 = (x, u, e) := ⟨_, _, _, rfl⟩
          have HG := As.mk hg
          clear hg
          by_cases he : e = 0
          · subst he
            have hok := getB_ok HG.out
            have hqu : q + u ≤ bs.length := by have := HQL.out; omega
            have HN2 : As (nums 5 (bs.drop p) = ((pre ++ [x]) ++ (nums (5 - (pre ++ [x]).length) (bs.drop (q + u))).1, (nums (5 - (pre ++ [x]).length) (bs.drop (q + u))).2)) := ⟨by
              have e1 : 5 - (pre ++ [x]).length = j' := by rw [List.length_append]; simp; omega
              have e2 : (getB bs3).2.2 = 0 := by rw [HG.out]
              rw [HN.out, hj', nums_ok e2, e1, HG.out, HDD.out]
              simp⟩
            have HP2 : As (∀ p ∈ pre ++ [x], p ≤ 4611686018427387903) := ⟨fun p hp => by
              rw [List.mem_append, List.mem_singleton] at hp
              rcases hp with hp | hp
              · exact HP.out p hp
              · subst hp; exact hok.1⟩
            have hc := S.cells; simp only [Cells, cellsC, Im, Row, El, Nat.zero_add, Nat.reduceAdd] at hc
            go_wp2_with (first | ((first | (with_reducible refine wpl_seal S ?_) | (with_reducible refine cw_seal S ?_) | (with_reducible refine bp_seal S ?_) | (with_reducible refine ca_seal S ?_)); clear S; (try clear hc); intro w1 S; (try simp only [List.set_cons_zero, List.set_cons_succ, List.nil_append] at S); have hc := S.cells; simp only [Cells, cellsC, Im, Row, El, Nat.zero_add, Nat.reduceAdd] at hc) | (go_at_call 30; refine (rget_c bs3 _ _ _ _ (S.im 0 rfl) (by omega)).mono ?_; rw [HG.out]; rintro e w1 ⟨rfl, rfl⟩) | (at_builtin; refine wpl_push S 2 rfl rfl _ _ rfl ty_ints rfl (x : Int) _ _ rfl [_] _ (S.cel 0 rfl) rfl (by (try simp only [maxLen, List.length_nil, List.length_append, List.length_cons]); omega) (by (try simp only [maxLen, List.length_nil, List.length_append, List.length_cons]); omega) ?_; clear S; (try clear hc); intro va w1 S; simp only [List.set_cons_zero, List.set_cons_succ, List.nil_append] at S; have hc := S.cells; simp only [Cells, cellsC, Im, Row, El, Nat.zero_add, Nat.reduceAdd] at hc))
            go_roundw
            case rel => exact ⟨pre ++ [x], q + u, by rw [List.length_append]; simp; omega, by omega, by rw [List.length_append]; simp; omega, by go_num, by rw [List.length_append]; go_num, HN2, HP2, _, ⟨by
              rw [List.map_append, HZ.out]
              exact (S.sel [2, 3, 4] (by decide) rfl (by simp) : SH _ _ _ [_, _, _] _ _)⟩⟩
            case measure => simp [intOf]; omega
          · have HE : As (readB bs = ([], out.length, e)) := ⟨by
              have e2 : (getB bs3).2.2 = e := by rw [HG.out]
              have h2 : nums 5 (bs.drop p) = (pre ++ [], e, bs3) := by rw [HN.out, hj', nums_bad (by rw [e2]; exact he), e2]
              rw [← HR2.out, h2, if_pos he]⟩
            have he' : ((e : Int) != 0) = true := by rw [bne_iff_ne]; omega
            have hc := S.cells; simp only [Cells, cellsC, Im, Row, El, Nat.zero_add, Nat.reduceAdd] at hc
            go_wp2_with (first | ((first | (with_reducible refine wpl_seal S ?_) | (with_reducible refine cw_seal S ?_) | (with_reducible refine bp_seal S ?_) | (with_reducible refine ca_seal S ?_)); clear S; (try clear hc); intro w1 S; (try simp only [List.set_cons_zero, List.set_cons_succ, List.nil_append] at S); have hc := S.cells; simp only [Cells, cellsC, Im, Row, El, Nat.zero_add, Nat.reduceAdd] at hc) | (go_at_call 30; refine (rget_c bs3 _ _ _ _ (S.im 0 rfl) (by omega)).mono ?_; rw [HG.out]; rintro e w1 ⟨rfl, rfl⟩))
            go_ret3
            rw [HE.out]
            exact ⟨_, rfl, S.nilrow.ret 0 rfl⟩
        · have hl5' : decide ((pre.length : Int) < 5) = false := by simp; omega
          obtain ⟨An, cn, rfl, hcn, hsn⟩ := S.row 0 rfl
          have hp : pre.length = 5 := by omega
          have HN3 := HN.out
          rw [hp] at HN3
          replace HN3 : nums 5 (bs.drop p) = (pre, 0, bs.drop q) := by rw [HN3]; simp [nums]
          obtain ⟨a, b, c', d, e, rfl⟩ : ∃ a b c d e, pre = [a, b, c, d, e] := by
            rcases pre with _ | ⟨a, _ | ⟨b, _ | ⟨c, _ | ⟨d, _ | ⟨e, _ | ⟨f, r⟩⟩⟩⟩⟩⟩ <;> simp at hp
            exact ⟨_, _, _, _, _, rfl⟩
          have HR3 := HR2.out
          rw [HN3, if_neg (by simp)] at HR3
          simp only [List.getD_cons_zero, List.getD_cons_succ] at HR3
          obtain ⟨nb, no, rfl, h4⟩ := hsn.int_at (i := 4) (by simp)
          replace h4 : wr.cell? ⟨nb, no + 4, none⟩ = some (.int .i64 (e : Int)) := h4
          have HSN : As (Sl kI wr (fun b => I' b ∨ (Value.slice (some ⟨nb, no, none⟩) 5 cn).ownBlock = some b) (some ⟨nb, no, none⟩) (mk5 [a, b, c', d, e]).list) := ⟨hsn⟩
          rw [show (List.map (fun n : Nat => (n : Int)) [a, b, c', d, e]).length = 5 from rfl] at *
          have hok5 : out.length ≤ 1000 := by omega
          by_cases h8 : 8 ≤ e
          · rw [if_pos h8] at HR3
            have HE := As.mk HR3.symm
            have h8' : decide ((e : Int) > 7) = true := by simp; omega
            clear HR3 HN3 HN hp hsn
            have hc := S.cells; simp only [Cells, cellsC, Im, Row, El, Nat.zero_add, Nat.reduceAdd] at hc
            go_wp2_with (first | ((first | (with_reducible refine wpl_seal S ?_) | (with_reducible refine cw_seal S ?_) | (with_reducible refine bp_seal S ?_) | (with_reducible refine ca_seal S ?_)); clear S; (try clear hc); intro w1 S; (try simp only [List.set_cons_zero, List.set_cons_succ, List.nil_append] at S); have hc := S.cells; simp only [Cells, cellsC, Im, Row, El, Nat.zero_add, Nat.reduceAdd] at hc))
            go_ret3
            rw [HE.out]
            exact ⟨_, rfl, S.nilrow.ret 0 rfl⟩
          · rw [if_neg h8] at HR3
            have HE := As.mk HR3
            have h8' : decide ((e : Int) > 7) = false := by simp; omega
            clear HR3 HN3 HN hp hsn
            have hc := S.cells; simp only [Cells, cellsC, Im, Row, El, Nat.zero_add, Nat.reduceAdd] at hc
            go_wp2_with (first | ((first | (with_reducible refine wpl_seal S ?_) | (with_reducible refine cw_seal S ?_) | (with_reducible refine bp_seal S ?_) | (with_reducible refine ca_seal S ?_)); clear S; (try clear hc); intro w1 S; (try simp only [List.set_cons_zero, List.set_cons_succ, List.nil_append] at S); have hc := S.cells; simp only [Cells, cellsC, Im, Row, El, Nat.zero_add, Nat.reduceAdd] at hc) | (go_at_call 31; refine (make_c (mk5 [a, b, c', d, e]) _ _ _ _ HSN.out).mono ?_; dsimp only [R5.v, mk5, List.getD_cons_zero, List.getD_cons_succ]; rintro r w1 ⟨rfl, hx⟩; replace S := S.ext hx; clear hx; (try clear hc); have hc := S.cells; simp only [Cells, cellsC, Im, Row, El, Nat.zero_add, Nat.reduceAdd] at hc) | (at_builtin; refine wpl_push S 2 rfl rfl _ _ rfl ty_r5s rfl (⟨a, b, c', d, e⟩ : R5) _ _ rfl [_, _, _, _, _] _ (S.cel 0 rfl) rfl (by (try simp only [maxLen, List.length_nil, List.length_append, List.length_cons]); omega) (by (try simp only [maxLen, List.length_nil, List.length_append, List.length_cons]); omega) ?_; clear S; (try clear hc); intro va w1 S; simp only [List.set_cons_zero, List.set_cons_succ, List.nil_append] at S; have hc := S.cells; simp only [Cells, cellsC, Im, Row, El, Nat.zero_add, Nat.reduceAdd] at hc))
            go_roundw
            case rel => exact ⟨f', q, out ++ [mk5 [a, b, c', d, e]], by rw [List.length_drop]; simp at hpq; omega, hq, by rw [List.length_append]; simp at hpq ⊢; omega, rfl, HE, _, ⟨S.sel [2, 3] (by decide) rfl (by simp)⟩⟩
            case measure => simp [intOf] at hpq ⊢; omega
    · have hlt' : decide ((p : Int) < bs.length) = false := by simpa using hlt
      have HE := HR.out
      rw [readGo_end (by omega)] at HE
      have HE2 := As.mk HE.symm
      clear HE HR
      have hc := S.cells; simp only [Cells, cellsC, Im, Row, El, Nat.zero_add, Nat.reduceAdd] at hc
      go_wp2_with (first | ((first | (with_reducible refine wpl_seal S ?_) | (with_reducible refine cw_seal S ?_) | (with_reducible refine bp_seal S ?_) | (with_reducible refine ca_seal S ?_)); clear S; (try clear hc); intro w1 S; (try simp only [List.set_cons_zero, List.set_cons_succ, List.nil_append] at S); have hc := S.cells; simp only [Cells, cellsC, Im, Row, El, Nat.zero_add, Nat.reduceAdd] at hc))
      go_ret3
      rw [HE2.out]
      exact ⟨_, rfl, S.ret 0 rfl⟩
end Go.Proofs.Yteaekpnmiicbhaa
