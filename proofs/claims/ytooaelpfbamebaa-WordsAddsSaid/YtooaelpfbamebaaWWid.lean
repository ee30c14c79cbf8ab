/- The program's widths. -/
import Derived.Test.YtooaelpfbamebaaWRow
import Derived.Test.YtooaelpfbamebaaMapI
namespace Go.Proofs.Ytooaelpfbamebaa
open Go.RowKit Go.WideMaps Go.ChangeMaps X
set_option maxHeartbeats 1000000
set_option maxRecDepth 8000
set_option linter.unusedSimpArgs false
set_option linter.unusedVariables false
theorem X.SH.retI {I0 I : Fp} {w0 w : World} {O : List Ob} {v : Value} {xs : List Int} (s : SH No I0 w0 O w I) (i : Nat) (e : O[i]? = some (Row kI v xs)) (I1 : Fp) : Upd w0 No I1 w (Row kI v xs) := by
  obtain ⟨F, ⟨⟨cells, ⟨h1, h2⟩, hf⟩, f⟩, hF⟩ := s.get i e
  exact ⟨fun b => v.ownBlock = some b, No, ⟨⟨cells, ⟨h1, fun _ _ h => h⟩, Flat.int.2 (Flat.int.1 hf)⟩, fun g e => e⟩, fun b hb => ⟨(hF b (f b hb)).1, (hF b (f b hb)).2.1⟩, fun b hb => hb.elim, fun b _ h => h, s.chg⟩
/-- one cell, which nobody changes -/
def CF (b j : Nat) (v : Value) : Ob := .of {
  sat := fun w _ I => w.cell? ⟨b, j, none⟩ = some v ∧ I b
  keep := fun ⟨h, f⟩ hk => ⟨(World.cell?_of_block (hk b (World.block_lt_of_cell? _ _ h) (.inr f))).trans h, f⟩
  weak := fun ⟨h, f⟩ _ hi _ => ⟨h, hi _ (World.block_lt_of_cell? _ _ h) f⟩ }
theorem X.SH.cf {F0 I0 I : Fp} {w0 w : World} {O : List Ob} {b j : Nat} {v : Value} (s : SH F0 I0 w0 O w I) (i : Nat) (e : O[i]? = some (CF b j v)) : w.cell? ⟨b, j, none⟩ = some v := by
  obtain ⟨F, h, _⟩ := s.get i e
  exact h.1
def lensW (W : List (List Int)) : List Int := W.map fun x => (x.length : Int)
theorem lensW_take {W : List (List Int)} {k : Nat} (h : k < W.length) : lensW (W.take (k + 1)) = lensW (W.take k) ++ [(W[k].length : Int)] := by
  unfold lensW; rw [List.take_succ_eq_append_getElem h, List.map_append]; rfl
def lenV : Value → Nat
  | .slice _ n _ => n
  | _ => 0
theorem sortI_eq {a b : List Int} (h : a.Perm b) : sortI a = sortI b := by
  refine List.Perm.eq_of_pairwise (le := fun x y => x ≤ y) (fun x y _ _ h1 h2 => Int.le_antisymm h1 h2) (sortI_srt a) (sortI_srt b) (((sortI_perm a).trans h).trans (sortI_perm b).symm)
theorem wwidths_c (gs : Nat) (W : List (List Int)) (w : World) (I1 : Fp) (h : SeR w gs W) (hWl : W.length ≤ 1000) :
    Calls Try.prog 22 #[.pointer (some ⟨gs, 0, none⟩)] w fun e w' => ∃ v, e = .returned v ∧ Upd w No I1 w' (Row kI v (sortI (fstI (lensW W)))) := by
  obtain ⟨A, c, D, h1, h2⟩ := h
  have S := ((SH.start w (fun b => b < w.heap.size) (fun _ h => h)).know (h := CF gs 1 (.slice A W.length c)) ⟨h1, World.block_lt_of_cell? _ _ h1⟩).know (h := Im kW A W) (h2.weak fun b hb _ => hb)
  clear h1 h2
  have hmm := @run_makeMap Try.prog
  have hc := S.cells; simp only [Cells, cellsC, Im, Row, El, RTH, TreeH, TR, AU, AL, OrNil, AuP, SetO, Many, ScO, MapN, ItN, CF, Nat.zero_add, Nat.reduceAdd] at hc
  go_enter Try.func22, Try.ntmps22
  go_wp2_with (first | ((first | (with_reducible refine wpl_seal S ?_) | (with_reducible refine cw_seal S ?_) | (with_reducible refine bp_seal S ?_) | (with_reducible refine ca_seal S ?_)); clear S; (try clear hc); intro w1 S; (try simp only [List.set_cons_zero, List.set_cons_succ, List.nil_append] at S); have hc := S.cells; simp only [Cells, cellsC, Im, Row, El, RTH, TreeH, TR, AU, AL, OrNil, AuP, SetO, Many, ScO, MapN, ItN, CF, Nat.zero_add, Nat.reduceAdd] at hc; (try have h3 := S.cf 2 rfl)))
  obtain ⟨g, hg⟩ : ∃ g, w.heap.size = g := ⟨_, rfl⟩
  rw [hg] at S ⊢
  clear hg hmm h3
  have S1 : SH No _ w [_, _] _ _ := S.sel [0, 1] (by decide) rfl (by simp)
  clear S hc
  go_loopw [14] (fun iv w' => ∃ (k : Nat), k ≤ W.length ∧ iv = .int .i64 k ∧ ∃ I', As (SH No _ w [MapN g (lensW (W.take k)), Im kW A W] w' I')) (fun iv _ => W.length - (intOf iv).toNat)
  case atStart => exact ⟨0, by omega, rfl, _, ⟨S1⟩⟩
  case round =>
    clear S1
    obtain ⟨k, hkl, rfl, I', ⟨S⟩⟩ := hrel
    by_cases hlt : k < W.length
    · have hlt' : decide ((k : Int) < W.length) = true := decide_eq_true (by omega)
      obtain ⟨b, o, A1, c1, rfl, hcx, hl1, hs1⟩ := (S.im 1 rfl).sl_at hlt
      have HT := As.mk (lensW_take hlt)
      have hadd := run_addI (P := Try.prog) (mt := 70) (k := (W[k].length : Int)) Try.underlying70 Try.underlying3 (S.hasSet 0 rfl)
      have S2 := S.addN 0 rfl (W[k].length : Int)
      rw [← HT.out] at hadd S2
      change SH No _ w _ (putJ wr _ _) I' at S2
      have hc := S.cells; simp only [Cells, cellsC, Im, Row, El, RTH, TreeH, TR, AU, AL, OrNil, AuP, SetO, Many, ScO, MapN, ItN, CF, Nat.zero_add, Nat.reduceAdd] at hc
      go_wp2_with (first | ((first | (with_reducible refine wpl_seal S ?_) | (with_reducible refine cw_seal S ?_) | (with_reducible refine bp_seal S ?_) | (with_reducible refine ca_seal S ?_)); clear S; (try clear hc); intro w1 S; (try simp only [List.set_cons_zero, List.set_cons_succ, List.nil_append] at S); have hc := S.cells; simp only [Cells, cellsC, Im, Row, El, RTH, TreeH, TR, AU, AL, OrNil, AuP, SetO, Many, ScO, MapN, ItN, CF, Nat.zero_add, Nat.reduceAdd] at hc))
      go_roundw
      case rel => exact ⟨k + 1, by omega, by go_num, _, ⟨S2⟩⟩
      case measure => simp [intOf] <;> omega
    · have hlt' : decide ((k : Int) < W.length) = false := decide_eq_false (by omega)
      have HE : As (lensW (W.take k) = lensW W) := ⟨by rw [List.take_of_length_le (by omega)]⟩
      rw [HE.out] at S
      replace S := S.nilrow (k := kI)
      have hrg := run_range_map (P := Try.prog) wr 70 3 4 g (entsI (lensW W)).toArray (fstI (lensW W)).length Try.underlying70 (S.hasSet 1 rfl)
      have hfl : As ((fstI (lensW W)).length ≤ 1000) := ⟨Nat.le_trans (fstI_len _) (by unfold lensW; rw [List.length_map]; exact hWl)⟩
      obtain ⟨L, hKL⟩ : ∃ L, lensW W = L := ⟨_, rfl⟩
      have HKL := As.mk hKL
      rw [hKL] at S hrg hfl
      clear hKL HE
      have hLl : (fstI L).length ≤ 1000 := hfl.out
      have hc := S.cells; simp only [Cells, cellsC, Im, Row, El, RTH, TreeH, TR, AU, AL, OrNil, AuP, SetO, Many, ScO, MapN, ItN, CF, Nat.zero_add, Nat.reduceAdd] at hc
      go_wp2_with (first | ((first | (with_reducible refine wpl_seal S ?_) | (with_reducible refine cw_seal S ?_) | (with_reducible refine bp_seal S ?_) | (with_reducible refine ca_seal S ?_)); clear S; (try clear hc); intro w1 S; (try simp only [List.set_cons_zero, List.set_cons_succ, List.nil_append] at S); have hc := S.cells; simp only [Cells, cellsC, Im, Row, El, RTH, TreeH, TR, AU, AL, OrNil, AuP, SetO, Many, ScO, MapN, ItN, CF, Nat.zero_add, Nat.reduceAdd] at hc))
      replace S := S.newItN g (fstI L).length
      have S1 : SH No _ w [_, _, _] _ _ := S.sel [0, 1, 2] (by decide) rfl (by simp)
      clear S hc hrg
      obtain ⟨r, hr⟩ : ∃ r, wr.heap.size = r := ⟨_, rfl⟩
      rw [hr] at S1 ⊢
      clear hr
      go_loopw [6] (fun v w' => ∃ (seen : Array Nat) (ks : List Int) (Av : Option Addr) (cv : Nat), v = .slice Av ks.length cv ∧ As (CameI L seen ks) ∧ ∃ I', As (SH No _ w [ItN r g (fstI L).length seen, Row kI (.slice Av ks.length cv) ks, MapN g L] w' I')) (fun v _ => (fstI L).length - lenV v)
      case atStart => exact ⟨#[], [], none, 0, rfl, ⟨CameI.none L⟩, _, ⟨S1⟩⟩
      case round =>
        clear S1
        obtain ⟨seen, ks, Av, cv, rfl, HC, I', ⟨S⟩⟩ := hrel
        have hkl := Nat.le_trans HC.out.len hLl
        rcases run_next_at (P := Try.prog) wr 0 r g (fstI L).length (fstI L).length seen (entsI L).toArray (fstI L).length (S.hasItN 0 rfl) (S.hasSet 2 rfl) (bornI_lt L) (Nat.le_refl _) with ⟨h0, hrun⟩ | ⟨e, he, w2, hw2, hrun⟩
        · have hnx : ∀ ty, (Instr.next (.pointer (some ⟨r, 0, none⟩)) false ty).run Try.prog wr = _ := fun _ => hrun
          have HP := As.mk (sortI_eq (HC.out.all h0))
          clear h0 hrun
          have hc := S.cells; simp only [Cells, cellsC, Im, Row, El, RTH, TreeH, TR, AU, AL, OrNil, AuP, SetO, Many, ScO, MapN, ItN, CF, Nat.zero_add, Nat.reduceAdd] at hc
          go_wp2_with (first | ((first | (with_reducible refine wpl_seal S ?_) | (with_reducible refine cw_seal S ?_) | (with_reducible refine bp_seal S ?_) | (with_reducible refine ca_seal S ?_)); clear S; (try clear hc); intro w1 S; (try simp only [List.set_cons_zero, List.set_cons_succ, List.nil_append] at S); have hc := S.cells; simp only [Cells, cellsC, Im, Row, El, RTH, TreeH, TR, AU, AL, OrNil, AuP, SetO, Many, ScO, MapN, ItN, CF, Nat.zero_add, Nat.reduceAdd] at hc) | (go_at_call 37; refine (sort_r S 1 rfl (by omega)).mono ?_; rintro e w1 ⟨rfl, S5⟩; clear S hc; have S := S5; clear S5; have hc := S.cells; simp only [Cells, cellsC, Im, Row, El, RTH, TreeH, TR, AU, AL, OrNil, AuP, SetO, Many, ScO, MapN, ItN, CF, Nat.zero_add, Nat.reduceAdd] at hc))
          go_ret
          refine ⟨_, rfl, ?_⟩
          rw [HKL.out, ← HP.out]
          exact S.retI 1 rfl I1
        · obtain ⟨x, hek, hev, hem, hC⟩ := HC.out.step he
          have hlen := hC.len
          rw [hek, hev] at hrun
          have S2 := S.stepItN 0 rfl hw2 e.born
          have hen := run_entry_at (P := Try.prog) _ r g (fstI L).length seen (entsI L).toArray (fstI L).length e (S2.hasItN 0 rfl) (S2.hasSet 2 rfl) hem (bornI_nodup L)
          rw [hek, hev] at hen
          have HC2 := As.mk hC
          clear he hek hev hem hC HC
          clear S
          have S := S2
          clear S2 hw2
          simp only [List.set_cons_zero] at S
          generalize seen.push e.born = seen2 at S hen hrun HC2
          generalize setBlock w2 r (.mapIter (some g) (fstI L).length seen2 (fstI L).length) = w3 at S hen hrun
          have hnx : ∀ ty, (Instr.next (.pointer (some ⟨r, 0, none⟩)) false ty).run Try.prog wr = _ := fun _ => hrun
          clear hrun
          have hc := S.cells; simp only [Cells, cellsC, Im, Row, El, RTH, TreeH, TR, AU, AL, OrNil, AuP, SetO, Many, ScO, MapN, ItN, CF, Nat.zero_add, Nat.reduceAdd] at hc
          go_wp2_with (first | ((first | (with_reducible refine wpl_seal S ?_) | (with_reducible refine cw_seal S ?_) | (with_reducible refine bp_seal S ?_) | (with_reducible refine ca_seal S ?_)); clear S; (try clear hc); intro w1 S; (try simp only [List.set_cons_zero, List.set_cons_succ, List.nil_append] at S); have hc := S.cells; simp only [Cells, cellsC, Im, Row, El, RTH, TreeH, TR, AU, AL, OrNil, AuP, SetO, Many, ScO, MapN, ItN, CF, Nat.zero_add, Nat.reduceAdd] at hc) | (at_builtin; refine wpl_push S 2 rfl rfl _ _ rfl ty_ints rfl x _ _ rfl [_] _ (S.cel 0 rfl) rfl (by (try simp only [maxLen, List.length_nil, List.length_append, List.length_cons]); omega) (by (try simp only [maxLen, List.length_nil, List.length_append, List.length_cons]); omega) ?_; clear S; (try clear hc); intro va w1 S; simp only [List.set_cons_zero, List.set_cons_succ, List.nil_append] at S; have hc := S.cells; simp only [Cells, cellsC, Im, Row, El, RTH, TreeH, TR, AU, AL, OrNil, AuP, SetO, Many, ScO, MapN, ItN, CF, Nat.zero_add, Nat.reduceAdd] at hc))
          obtain ⟨Av2, cv2, eva, -, -⟩ := S.row 2 rfl
          subst eva
          go_roundw
          case rel => exact ⟨seen2, ks ++ [x], Av2, cv2, rfl, HC2, _, ⟨(S.sel [1, 2, 3] (by decide) rfl (by simp) : SH _ _ _ [_, _, _] _ _)⟩⟩
          case measure =>
            show (fstI L).length - (ks ++ [x]).length < (fstI L).length - ks.length
            rw [List.length_append, List.length_singleton] at hlen ⊢
            omega
theorem foldl_max_le : ∀ (W : List (List Int)) (a : Nat), a ≤ W.foldl (fun m r => max m r.length) a ∧ ∀ r ∈ W, r.length ≤ W.foldl (fun m r => max m r.length) a
  | [], a => ⟨Nat.le_refl _, by simp⟩
  | x :: W, a => by
    obtain ⟨h1, h2⟩ := foldl_max_le W (max a x.length)
    rw [List.foldl_cons]
    refine ⟨by omega, fun r hr => ?_⟩
    rcases List.mem_cons.1 hr with rfl | hr
    · omega
    · exact h2 r hr
theorem widths_eq {W : List (List Int)} (hne : ∀ x ∈ W, x ≠ []) : sortI (fstI (lensW W)) = widN W (topK W W.length) := by
  have hs : (widN W (topK W W.length)).Pairwise (· < ·) := by
    unfold widN
    rw [List.pairwise_map]
    refine (List.Pairwise.filter _ List.pairwise_lt_range).imp fun {a b} h => ?_
    omega
  refine List.Perm.eq_of_pairwise (le := fun x y => x ≤ y) (fun x y _ _ h1 h2 => Int.le_antisymm h1 h2) (sortI_srt _) (hs.imp fun h => Int.le_of_lt h) ((sortI_perm _).trans ((List.perm_ext_iff_of_nodup (fstI_nodup _) (hs.imp fun h => Int.ne_of_lt h)).2 fun x => ?_))
  rw [fstI_mem]
  unfold lensW widN
  simp only [List.mem_map, List.mem_filter, List.mem_range]
  constructor
  · rintro ⟨r, hr, rfl⟩
    have h1 : r.length ≠ 0 := fun h => hne r hr (List.eq_nil_of_length_eq_zero h)
    have h2 := (foldl_max_le W 0).2 r hr
    refine ⟨r.length - 1, ⟨by unfold topK; rw [List.take_length]; omega, ?_⟩, by omega⟩
    unfold hasW
    rw [List.any_eq_true]
    exact ⟨r, hr, by rw [beq_iff_eq]; omega⟩
  · rintro ⟨q, ⟨-, hq⟩, rfl⟩
    unfold hasW at hq
    rw [List.any_eq_true] at hq
    obtain ⟨r, hr, h⟩ := hq
    rw [beq_iff_eq] at h
    exact ⟨r, hr, by rw [h]⟩
end Go.Proofs.Ytooaelpfbamebaa
