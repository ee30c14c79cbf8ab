/- Sums of records: the program's. -/
import Derived.Test.YteaekpnmiicbhaaPMap
import Derived.Laws.IdiomRangeMap
namespace Go.Proofs.Yteaekpnmiicbhaa
open Go.RowKit Go.WideMaps Go.ChangeMaps X
set_option maxHeartbeats 1000000
set_option maxRecDepth 8000
set_option linter.unusedSimpArgs false
set_option linter.unusedVariables false
def keyR (x : R5) : Pr := (x.i, x.t)
def keysR (xs : List R5) : List Pr := xs.map keyR
def lenV : Value → Nat
  | .slice _ n _ => n
  | _ => 0
theorem sortS_eq {a b : List Key} (h : a.Perm b) : sortS a = sortS b := by
  refine List.Perm.eq_of_pairwise (le := fun x y => cmpS x y ≤ 0) (fun x y _ _ h1 h2 => ?_) (sortS_srt a) (sortS_srt b) (((sortS_perm a).trans h).trans (sortS_perm b).symm)
  have := cmpS_swap x y
  exact cmpS_zero (by omega)
theorem sums_c (xs : List R5) (A : Option Addr) (c : Nat) (w : World) (I : Fp) (hI : ∀ b, I b → b < w.heap.size) (hl : Sl kC w I A xs) (hn : xs.length ≤ 1000) (hk : ∀ x ∈ xs, I64 x.i ∧ I64 x.t) :
    Calls Try.prog 18 #[.slice A xs.length c] w fun e w' => ∃ v, e = .returned v ∧ Upd w No I w' (Row (kSf fun k => ((keysR xs).count k : Nat)) v (sortS (firsts (keysR xs)))) := by
  have S := (SH.start w I hI).know (h := Im kC A xs) hl
  have HK := As.mk hk
  clear hl hk
  have hmm := @run_makeMap Try.prog
  have hc := S.cells; simp only [Cells, cellsC, Im, Row, El, Nat.zero_add, Nat.reduceAdd] at hc
  go_enter Try.func18, Try.ntmps18
  go_wp2_with (first | ((first | (with_reducible refine wpl_seal S ?_) | (with_reducible refine cw_seal S ?_) | (with_reducible refine bp_seal S ?_) | (with_reducible refine ca_seal S ?_)); clear S; (try clear hc); intro w1 S; (try simp only [List.set_cons_zero, List.set_cons_succ, List.nil_append] at S); have hc := S.cells; simp only [Cells, cellsC, Im, Row, El, Nat.zero_add, Nat.reduceAdd] at hc))
  obtain ⟨g, hg⟩ : ∃ g, w.heap.size = g := ⟨_, rfl⟩
  rw [hg] at S ⊢
  clear hg hmm
  have S1 := S
  clear S hc
  go_loopw [12] (fun iv w' => ∃ (k : Nat), k ≤ xs.length ∧ iv = .int .i64 k ∧ ∃ I', As (SH No I w [MapO g (keysR (xs.take k)), Im kC A xs] w' I')) (fun iv _ => xs.length - (intOf iv).toNat)
  case atStart => exact ⟨0, by omega, rfl, _, ⟨S1⟩⟩
  case round =>
    clear S1
    obtain ⟨k, hkl, rfl, I', ⟨S⟩⟩ := hrel
    by_cases hlt : k < xs.length
    · have hlt' : decide ((k : Int) < xs.length) = true := decide_eq_true (by omega)
      obtain ⟨b, o, rfl, g0, g1, g2, g3, g4⟩ := (S.im 1 rfl).r5_at hlt
      have HT : As (keysR (xs.take (k + 1)) = keysR (xs.take k) ++ [keyR xs[k]]) := ⟨by unfold keysR; rw [List.take_succ_eq_append_getElem hlt, List.map_append]; rfl⟩
      have HX := As.mk (HK.out xs[k] (List.getElem_mem hlt))
      have HL : As (∀ x ∈ keysR (xs.take k), ∃ l, keyOf Try.prog 76 (kv x) = some l) := ⟨fun x hx => by
        unfold keysR at hx
        rw [List.mem_map] at hx
        obtain ⟨y, hy, rfl⟩ := hx
        have := HK.out y (List.mem_of_mem_take hy)
        exact arr2_keyOf _ this.1 this.2⟩
      have hLn : (keysR (xs.take k)).length ≤ 1000 := by unfold keysR; rw [List.length_map, List.length_take]; omega
      generalize xs[k] = x at g0 g1 g2 g3 g4 HT HX
      generalize keysR (xs.take k) = L at S HT HL hLn
      have hcb : L.count (keyR x) ≤ 1000 := Nat.le_trans List.count_le_length hLn
      have hc := S.cells; simp only [Cells, cellsC, Im, Row, El, Nat.zero_add, Nat.reduceAdd] at hc
      go_wp2_with (first | ((first | (with_reducible refine wpl_seal S ?_) | (with_reducible refine cw_seal S ?_) | (with_reducible refine bp_seal S ?_) | (with_reducible refine ca_seal S ?_)); clear S; (try clear hc); intro w1 S; (try simp only [List.set_cons_zero, List.set_cons_succ, List.nil_append] at S); have hc := S.cells; simp only [Cells, cellsC, Im, Row, El, Nat.zero_add, Nat.reduceAdd] at hc))
      obtain ⟨ga, ega⟩ := S.name 0 rfl; rw [← ega] at S ⊢; clear ega
      have hmap := S.hasMap 1 rfl
      have hne : ga ≠ g := fun e => by
        have h1 := S.cel 0 rfl
        rw [e, hmap] at h1
        cases h1
      have hkk := arr2_keyOf (keyR x) HX.out.1 HX.out.2
      have hl0 : (Instr.lookup 75 (.map (some g)) (.agg #[.int .i64 x.i, .int .i64 x.t]) false).run Try.prog w1.drew = .ok (.int .i64 (L.count (keyR x) : Nat)) w1.drew := run_lookupP (w := w1.drew) (k := keyR x) arr2_law Try.underlying75 zero_int HL.out hkk hmap
      have hlk := ClG.look hl0
      have p0 := ClG.cell (P := Try.prog) (mt := 75) (key := .agg #[.int .i64 x.i, .int .i64 x.t]) (w := w1.drew) (a := ⟨ga, 0, none⟩) (v := .int .i64 x.i) (g := g) (S.drew.cell 0 0 rfl rfl) hne
      have p3 := ClG.cell (P := Try.prog) (mt := 75) (key := .agg #[.int .i64 x.i, .int .i64 x.t]) (w := w1.drew) (a := ⟨ga, 3, none⟩) (v := .int .i64 x.t) (g := g) (S.drew.cell 0 3 rfl rfl) hne
      clear hl0 hc
      refine wp_region_clg 75 g (.agg #[.int .i64 x.i, .int .i64 x.t]) [⟨[0, 1, 2, 3, 4, 5, 6, 7], [8], 9, true⟩, ⟨[10], [], 11, false⟩] [] (by kernel_rfl) (by kernel_rfl) ?_
      refine mix_cons rfl rfl rfl ?_
      simp only [opsAt, List.getD_cons_succ, List.getD_cons_zero]
      repeat (go_big_quiet_step ((intro hC; first | rfl | (go_simp; first | done | rfl))))
      refine wpQuiet_nil ?_
      repeat (go_big_quiet_step ((intro hC; first | rfl | (go_simp; first | done | rfl))))
      refine wpQuiet_nil ?_
      clear hlk p0 p3 hmap
      replace S := S.drew
      generalize w1.drew = w2 at S ⊢
      have hl2 : (Instr.lookup 75 (.map (some g)) (.agg #[.int .i64 x.i, .int .i64 x.t]) false).run Try.prog w2 = .ok (.int .i64 (L.count (keyR x) : Nat)) w2 := run_lookupP (w := w2) (k := keyR x) arr2_law Try.underlying75 zero_int HL.out hkk (S.hasMap 1 rfl)
      obtain ⟨o1, i, hme, hes, hlo⟩ := run_bump (k := keyR x) arr2_law Try.underlying75 zero_int HL.out hkk (S.hasMap 1 rfl)
      have hme' : (Instr.mapEntry 75 (.map (some g)) (.agg #[.int .i64 x.i, .int .i64 x.t])).run Try.prog w2 = .ok (.tuple #[.int .i64 (L.count (keyR x) : Nat), .int .i64 (i : Nat)]) (putO w2 g o1) := hme
      have hcl := As.mk (ClG.put hl2 hlo)
      have S2 := S.bump 1 rfl (keyR x)
      rw [← HT.out] at S2 hes
      clear hme hl2 hlo hne
      go_wp2_with (first | ((first | (with_reducible refine mx_seal S ?_) | (with_reducible refine wpl_seal S ?_) | (with_reducible refine ca_seal S ?_)); clear S; (try clear hc); intro w1 S; (try simp only [List.set_cons_zero, List.set_cons_succ, List.nil_append] at S); have hc := S.cells; simp only [Cells, cellsC, Im, Row, El, Nat.zero_add, Nat.reduceAdd] at hc))
      refine ⟨fun _ => hcl.out, ?_⟩
      refine mix_cons rfl rfl rfl ?_
      simp only [opsAt, List.getD_cons_succ, List.getD_cons_zero]
      repeat (go_big_quiet_step ((intro hC; first | rfl | (go_simp; first | done | rfl))))
      refine wpQuiet_nil ?_
      repeat (go_big_quiet_step ((intro hC; first | rfl | (go_simp; first | done | rfl))))
      refine wpQuiet_nil ?_
      go_wp2_with (first | ((first | (with_reducible refine mx_seal S ?_) | (with_reducible refine wpl_seal S ?_) | (with_reducible refine ca_seal S ?_)); clear S; (try clear hc); intro w1 S; (try simp only [List.set_cons_zero, List.set_cons_succ, List.nil_append] at S); have hc := S.cells; simp only [Cells, cellsC, Im, Row, El, Nat.zero_add, Nat.reduceAdd] at hc))
      (first | refine ⟨(fun h => by cases h), ?_⟩ | skip); (first | ((first | (with_reducible refine mx_seal S ?_)); clear S; (try clear hc); intro w1 S; (try simp only [List.set_cons_zero, List.set_cons_succ, List.nil_append] at S); have hc := S.cells; simp only [Cells, cellsC, Im, Row, El, Nat.zero_add, Nat.reduceAdd] at hc) | skip); (try simp only [Act.put, List.setIfInBounds_toArray, List.set_cons_succ, List.set_cons_zero])
      clear S
      have S := S2
      simp only [List.set_cons_zero, List.set_cons_succ] at S
      refine mix_last rfl ?_
      simp only [opsAt, List.getD_cons_succ, List.getD_cons_zero]
      repeat (go_big_quiet_step ((intro hC; first | rfl | (go_simp; first | done | rfl))))
      refine wpQuiet_nil ?_
      simp only [calmQ]
      generalize putO w2 g (.map (ents (keysR (xs.take (k + 1)))).toArray (firsts (keysR (xs.take (k + 1)))).length) = w3 at S ⊢
      have hc := S.cells; simp only [Cells, cellsC, Im, Row, El, Nat.zero_add, Nat.reduceAdd] at hc
      go_wp2_with (first | ((first | (with_reducible refine wpl_seal S ?_) | (with_reducible refine cw_seal S ?_) | (with_reducible refine bp_seal S ?_) | (with_reducible refine ca_seal S ?_)); clear S; (try clear hc); intro w1 S; (try simp only [List.set_cons_zero, List.set_cons_succ, List.nil_append] at S); have hc := S.cells; simp only [Cells, cellsC, Im, Row, El, Nat.zero_add, Nat.reduceAdd] at hc))
      go_roundw
      case rel => exact ⟨k + 1, by omega, by go_num, _, ⟨(S.sel [1, 2] (by decide) rfl (by simp) : SH _ _ _ [_, _] _ _)⟩⟩
      case measure => simp [intOf] <;> omega
    · have hlt' : decide ((k : Int) < xs.length) = false := decide_eq_false (by omega)
      have HE : As (keysR (xs.take k) = keysR xs) := ⟨by rw [List.take_of_length_le (by omega)]⟩
      rw [HE.out] at S
      replace S := S.nilrow (k := kSf fun k => ((keysR xs).count k : Nat))
      have hrg := run_range_map (P := Try.prog) wr 75 76 3 g (ents (keysR xs)).toArray (firsts (keysR xs)).length Try.underlying75 (S.hasMap 1 rfl)
      have hfl : As ((firsts (keysR xs)).length ≤ 1000) := ⟨Nat.le_trans (firsts_len _) (by unfold keysR; rw [List.length_map]; exact hn)⟩
      obtain ⟨L, hKL⟩ : ∃ L, keysR xs = L := ⟨_, rfl⟩
      have HKL := As.mk hKL
      rw [hKL] at S hrg hfl
      clear hKL HE
      have hLl : (firsts L).length ≤ 1000 := hfl.out
      have hc := S.cells; simp only [Cells, cellsC, Im, Row, El, Nat.zero_add, Nat.reduceAdd] at hc
      go_wp2_with (first | ((first | (with_reducible refine wpl_seal S ?_) | (with_reducible refine cw_seal S ?_) | (with_reducible refine bp_seal S ?_) | (with_reducible refine ca_seal S ?_)); clear S; (try clear hc); intro w1 S; (try simp only [List.set_cons_zero, List.set_cons_succ, List.nil_append] at S); have hc := S.cells; simp only [Cells, cellsC, Im, Row, El, Nat.zero_add, Nat.reduceAdd] at hc))
      replace S := S.newIt g (firsts L).length
      have S1 : SH No I w [_, _, _] _ _ := S.sel [0, 1, 2] (by decide) rfl (by simp)
      clear S hc hrg
      obtain ⟨r, hr⟩ : ∃ r, wr.heap.size = r := ⟨_, rfl⟩
      rw [hr] at S1 ⊢
      clear hr
      go_loopw [6] (fun v w' => ∃ (seen : Array Nat) (ks : List Pr) (Av : Option Addr) (cv : Nat), v = .slice Av ks.length cv ∧ As (Came L seen ks) ∧ ∃ I', As (SH No I w [ItO r g (firsts L).length seen, Row (kSf fun k => (L.count k : Nat)) (.slice Av ks.length cv) ks, MapO g L] w' I')) (fun v _ => (firsts L).length - lenV v)
      case atStart => exact ⟨#[], [], none, 0, rfl, ⟨Came.none L⟩, _, ⟨S1⟩⟩
      case round =>
        clear S1
        obtain ⟨seen, ks, Av, cv, rfl, HC, I', ⟨S⟩⟩ := hrel
        have hkl := Nat.le_trans HC.out.len hLl
        rcases run_next_at (P := Try.prog) wr 0 r g (firsts L).length (firsts L).length seen (ents L).toArray (firsts L).length (S.hasIt 0 rfl) (S.hasMap 2 rfl) (born_lt L) (Nat.le_refl _) with ⟨h0, hrun⟩ | ⟨e, he, w2, hw2, hrun⟩
        · have hnx : ∀ ty, (Instr.next (.pointer (some ⟨r, 0, none⟩)) false ty).run Try.prog wr = _ := fun _ => hrun
          have HP := As.mk (sortS_eq (HC.out.all h0))
          clear h0 hrun
          have hc := S.cells; simp only [Cells, cellsC, Im, Row, El, Nat.zero_add, Nat.reduceAdd] at hc
          go_wp2_with (first | ((first | (with_reducible refine wpl_seal S ?_) | (with_reducible refine cw_seal S ?_) | (with_reducible refine bp_seal S ?_) | (with_reducible refine ca_seal S ?_)); clear S; (try clear hc); intro w1 S; (try simp only [List.set_cons_zero, List.set_cons_succ, List.nil_append] at S); have hc := S.cells; simp only [Cells, cellsC, Im, Row, El, Nat.zero_add, Nat.reduceAdd] at hc) | (go_at_call 36; refine (sortS_s (fun k => (L.count k : Nat)) S 1 rfl (by omega)).mono ?_; rintro e w1 ⟨rfl, S5⟩; clear S hc; have S := S5; clear S5; have hc := S.cells; simp only [Cells, cellsC, Im, Row, El, Nat.zero_add, Nat.reduceAdd] at hc))
          go_ret
          refine ⟨_, rfl, ?_⟩
          rw [HKL.out, ← HP.out]
          exact S.ret 1 rfl
        · obtain ⟨x, hek, hev, hem, hC⟩ := HC.out.step he
          have hlen := hC.len
          rw [hek, hev] at hrun
          have S2 := S.stepIt 0 rfl hw2 e.born
          have hen := run_entry_at (P := Try.prog) _ r g (firsts L).length seen (ents L).toArray (firsts L).length e (S2.hasIt 0 rfl) (S2.hasMap 2 rfl) hem (born_nodup L)
          rw [hek, hev] at hen
          have HC2 := As.mk hC
          clear he hek hev hem hC HC
          clear S
          have S := S2
          clear S2 hw2
          simp only [List.set_cons_zero] at S
          generalize seen.push e.born = seen2 at S hen hrun HC2
          generalize setBlock w2 r (.mapIter (some g) (firsts L).length seen2 (firsts L).length) = w3 at S hen hrun
          have hnx : ∀ ty, (Instr.next (.pointer (some ⟨r, 0, none⟩)) false ty).run Try.prog wr = _ := fun _ => hrun
          clear hrun
          dsimp only [kv] at hnx hen
          have hc := S.cells; simp only [Cells, cellsC, Im, Row, El, Nat.zero_add, Nat.reduceAdd] at hc
          go_wp2_with (first | ((first | (with_reducible refine wpl_seal S ?_) | (with_reducible refine cw_seal S ?_) | (with_reducible refine bp_seal S ?_) | (with_reducible refine ca_seal S ?_)); clear S; (try clear hc); intro w1 S; (try simp only [List.set_cons_zero, List.set_cons_succ, List.nil_append] at S); have hc := S.cells; simp only [Cells, cellsC, Im, Row, El, Nat.zero_add, Nat.reduceAdd] at hc) | (at_builtin; refine wpl_push S 3 rfl rfl _ _ rfl (ty_sums _) rfl x _ _ rfl (encS (fun k => (L.count k : Nat)) x) _ (S.cel 0 rfl) rfl (by (try simp only [maxLen, List.length_nil, List.length_append, List.length_cons]); omega) (by (try simp only [maxLen, List.length_nil, List.length_append, List.length_cons]); omega) ?_; clear S; (try clear hc); intro va w1 S; simp only [List.set_cons_zero, List.set_cons_succ, List.nil_append] at S; have hc := S.cells; simp only [Cells, cellsC, Im, Row, El, Nat.zero_add, Nat.reduceAdd] at hc))
          obtain ⟨Av2, cv2, eva, -, -⟩ := S.row 3 rfl
          subst eva
          go_roundw
          case rel => exact ⟨seen2, ks ++ [x], Av2, cv2, rfl, HC2, _, ⟨(S.sel [2, 3, 4] (by decide) rfl (by simp) : SH _ _ _ [_, _, _] _ _)⟩⟩
          case measure =>
            show (firsts L).length - (ks ++ [x]).length < (firsts L).length - ks.length
            rw [List.length_append, List.length_singleton] at hlen ⊢
            omega
end Go.Proofs.Yteaekpnmiicbhaa
