/- A template is added: the program's. -/
import Derived.Test.YtnmlonicfncpfaaGreatDDic
import Derived.Test.YtnmlonicfncpfaaGreatFork
namespace Go.Proofs.YtnmlonicfncpfaaGreat
open Go.RowKit X
set_option maxHeartbeats 4000000
set_option maxRecDepth 8000
set_option linter.unusedSimpArgs false
set_option linter.unusedVariables false
def addV (c m : Int) (s : List Pic × List Int × Int) (x : Mx) : List Pic × List Int × Int :=
  if (⟨c, m, x⟩ : Pic) ∈ s.1 then (s.1, s.2.1 ++ [idxI s.1 ⟨c, m, x⟩], s.2.2) else (s.1 ++ [⟨c, m, x⟩], s.2.1 ++ [(s.1.length : Int)], s.2.2 + x.l.length)
structure DS where
  L : List Tm
  V : List Pic
  ar : Int
/-- the state behind a template is added, its number, the error -/
def addD (D : DS) (p : Pic) (ts : List Int) : DS × Int × Int :=
  if mayG p = true ∧ mayTs ts = true then
    (if (-1) ∈ (orbP p.x (sortI ts)).2 then (D, -1, 4)
    else if D.L.length = 64 ∨ 65536 < ((orbP p.x (sortI ts)).1.foldl (addV p.c p.m) (D.V, [], D.ar)).2.2 then (D, -1, 8)
    else (⟨D.L ++ [⟨p, sortI ts, (orbP p.x (sortI ts)).2.map fun i => ((orbP p.x (sortI ts)).1.foldl (addV p.c p.m) (D.V, [], D.ar)).2.1.getD i.toNat 0⟩], ((orbP p.x (sortI ts)).1.foldl (addV p.c p.m) (D.V, [], D.ar)).1, ((orbP p.x (sortI ts)).1.foldl (addV p.c p.m) (D.V, [], D.ar)).2.2⟩, D.L.length, 0))
  else (D, -1, 1)
theorem cell_congr {w w' : World} {a : Addr} (h : w'.heap[a.block]? = w.heap[a.block]?) : w'.cell? a = w.cell? a := by simp [World.cell?, h]
theorem ClA.alloc {L : List Addr} {w : World} (h : ∀ a ∈ L, a.block < w.heap.size) (o : Obj) : ClA L w (w.alloc o) := fun a ha => cell_congr (Below.heap_alloc w o _ (h a ha))
theorem compactUpTo_sub (d : Array Int) : ∀ m, m ≤ d.size → (Lib.compactUpTo d m).Sublist (d.toList.take m)
  | 0, _ => by simp [Lib.compactUpTo]
  | m + 1, h => by
    have hm : m < d.toList.length := by rw [Array.length_toList]; omega
    rw [Lib.compactUpTo_succ, List.take_succ_eq_append_getElem hm]
    refine (compactUpTo_sub d m (by omega)).append ?_
    split
    · rw [getElem!_pos d m (by omega)]
      simp
    · exact List.nil_sublist _
theorem compact_sub (xs : List Int) : (Lib.compact xs).Sublist xs := by
  have := compactUpTo_sub xs.toArray xs.length (by simp)
  simpa [Lib.compact] using this
theorem srt_ends {xs : List Int} (hs : xs.Pairwise (· ≤ ·)) {t : Int} (ht : t ∈ xs) : xs.headD 0 ≤ t ∧ t ≤ xs.getLastD 0 := by
  obtain ⟨i, hi, rfl⟩ := List.mem_iff_getElem.1 ht
  have key : ∀ (a b : Nat) (ha : a < xs.length) (hb : b < xs.length), a ≤ b → xs[a] ≤ xs[b] := fun a b ha hb hab => by
    rcases Nat.lt_or_eq_of_le hab with h | h
    · exact List.pairwise_iff_getElem.1 hs a b ha hb h
    · subst h; exact Int.le_refl _
  constructor
  · rw [List.headD_eq_head?_getD, List.head?_eq_getElem?, List.getElem?_eq_getElem (by omega : 0 < xs.length)]
    exact key 0 i (by omega) hi (by omega)
  · rw [List.getLastD_eq_getLast?, List.getLast?_eq_getElem?, List.getElem?_eq_getElem (by omega : xs.length - 1 < xs.length)]
    exact key i _ hi (by omega) (by omega)
theorem mayTs_in {ts : List Int} (h : mayTs ts = true) : Lib.compact (sortI ts) = sortI ts ∧ 0 < ts.length ∧ ∀ t ∈ sortI ts, 0 ≤ t ∧ t < 8 := by
  unfold mayTs at h
  simp only [Bool.and_eq_true, decide_eq_true_eq] at h
  obtain ⟨⟨⟨h1, h2⟩, h3, h4⟩, h5, h6⟩ := h
  have e : Lib.compact (sortI ts) = sortI ts := (compact_sub _).eq_of_length (by rw [h2, sortI_len])
  rw [e] at h1 h3 h4 h5 h6
  rw [sortI_len] at h1
  refine ⟨e, h1, fun t ht => ?_⟩
  obtain ⟨g1, g2⟩ := srt_ends (sortI_srt ts) ht
  omega
theorem orbP_len (x : Mx) (ts : List Int) : (orbP x ts).1.length ≤ ts.length ∧ (orbP x ts).2.length = ts.length := by
  have key : ∀ (ts : List Int) (s : List Mx × List Int), (ts.foldl (orbS x) s).1.length ≤ s.1.length + ts.length ∧ (ts.foldl (orbS x) s).2.length = s.2.length + ts.length := by
    intro ts
    induction ts with
    | nil => intro s; simp
    | cons t r ih =>
      intro s
      rw [List.foldl_cons]
      obtain ⟨h1, h2⟩ := ih (orbS x s t)
      obtain ⟨h3, h4⟩ := orbS_len x s t
      rw [List.length_cons]
      omega
  have := key ts ([], [])
  simpa [orbP] using this
theorem orbP_mem (x : Mx) (ts : List Int) : (∀ y ∈ (orbP x ts).1, y.l.length = x.l.length) ∧ ∀ i ∈ (orbP x ts).2, i = -1 ∨ (0 ≤ i ∧ i < (orbP x ts).1.length) := by
  have key : ∀ (ts : List Int) (s : List Mx × List Int), ((∀ y ∈ s.1, y.l.length = x.l.length) ∧ ∀ i ∈ s.2, i = -1 ∨ (0 ≤ i ∧ i < s.1.length)) → ((∀ y ∈ (ts.foldl (orbS x) s).1, y.l.length = x.l.length) ∧ ∀ i ∈ (ts.foldl (orbS x) s).2, i = -1 ∨ (0 ≤ i ∧ i < (ts.foldl (orbS x) s).1.length)) := by
    intro ts
    induction ts with
    | nil => intro s h; exact h
    | cons t r ih =>
      intro s h
      rw [List.foldl_cons]
      refine ih _ ?_
      unfold orbS
      split
      · split
        · rename_i hm
          refine ⟨h.1, fun i hi => ?_⟩
          rcases List.mem_append.1 hi with hi | hi
          · exact h.2 i hi
          · rw [List.mem_singleton] at hi
            subst hi
            obtain ⟨e1, e2⟩ := idxI_in hm
            exact .inr ⟨by rw [e1]; omega, by rw [e1]; show _ < ((s.1.length : Nat) : Int); omega⟩
        · refine ⟨fun y hy => ?_, fun i hi => ?_⟩
          · rcases List.mem_append.1 hy with hy | hy
            · exact h.1 y hy
            · rw [List.mem_singleton] at hy
              subst hy
              exact layP_len _ _
          · simp only [List.length_append, List.length_cons, List.length_nil]
            rcases List.mem_append.1 hi with hi | hi
            · rcases h.2 i hi with h1 | h1
              · exact .inl h1
              · exact .inr ⟨h1.1, by omega⟩
            · rw [List.mem_singleton] at hi
              subst hi
              exact .inr ⟨by omega, by omega⟩
      · refine ⟨h.1, fun i hi => ?_⟩
        rcases List.mem_append.1 hi with hi | hi
        · exact h.2 i hi
        · rw [List.mem_singleton] at hi
          exact .inl hi
  exact key ts ([], []) ⟨by simp, by simp⟩
theorem addV_len (c m : Int) (s : List Pic × List Int × Int) (x : Mx) : (addV c m s x).1.length ≤ s.1.length + 1 ∧ (addV c m s x).2.1.length = s.2.1.length + 1 ∧ s.2.2 ≤ (addV c m s x).2.2 ∧ (addV c m s x).2.2 ≤ s.2.2 + x.l.length := by
  unfold addV
  split
  · simp; omega
  · simp; omega
section
variable {F0 I0 I : Fp} {w0 w : World} {O : List Ob}
theorem mayG_x {p : Pic} (h : mayG p = true) : mayX p.x = true := by
  unfold mayG at h
  rw [Bool.and_eq_true] at h
  exact h.1
theorem add_s (b : Nat) (D D' : DS) (p : Pic) (ts : List Int) (A B : Option Addr) (n d : Nat) (S0 : SH F0 I0 w0 O w I) (i : Nat) (e : O[i]? = some (DicO b D.L D.V D.ar)) (hl : Sl kP w I A p.x.l) (hn : p.x.l.length ≤ 1000000) (hu : ∀ q ∈ p.x.l, U64 q) (ht : Sl kI w I B ts) (hd : ts.length ≤ d) (htn : ts.length ≤ 1000) (hL : D.L.length ≤ 1000) (hV : D.V.length ≤ 100000) (har : 0 ≤ D.ar ∧ D.ar ≤ 1000000000) {k er : Int} (hr : addD D p ts = (D', k, er)) :
    Calls Tryz.prog 8 #[.pointer (some ⟨b, 0, none⟩), picV p A n, .slice B ts.length d] w fun e w' => e = .returned (.tuple #[.int .i64 k, .int .i64 er]) ∧ ∃ J, SH F0 I0 w0 (O.set i (DicO b D'.L D'.V D'.ar)) w' J := by
  obtain ⟨F, hI, S, back⟩ := S0.call1 i e
  refine Calls.mono (R := fun e w' => e = .returned (.tuple #[.int .i64 k, .int .i64 er]) ∧ Upd w F I w' (DicO b D'.L D'.V D'.ar)) ?_ fun e w' ⟨h1, h2⟩ => ⟨h1, by obtain ⟨J, h, -⟩ := back _ _ h2; exact ⟨J, h⟩⟩
  clear back S0 e
  obtain ⟨A9, c9, B9, d9, h9, h8, S⟩ := ((S.know (h := Im kP A p.x.l) hl).know (h := Im kI B ts) ht).dOpen 2 rfl
  simp only [List.set_cons_zero, List.set_cons_succ, List.nil_append] at S
  have HU := As.mk hu
  clear hl hu ht
  obtain ⟨q1, hq1⟩ : ∃ q, mayG p = q := ⟨_, rfl⟩
  obtain ⟨q2, hq2⟩ : ∃ q, mayTs ts = q := ⟨_, rfl⟩
  have HR := As.mk hr
  unfold addD at HR
  rw [hq1, hq2] at HR
  have H1 := As.mk (fun n w I hI hl => mayI_c p A n w I hI hl hn HU.out hq1)
  have H2 := As.mk hq2
  have H3 := As.mk hq1
  obtain ⟨L, V, ar⟩ := D
  dsimp only at *
  clear hr hq1 hq2
  rcases q1 with _ | _
  · have HX : As (D' = ⟨L, V, ar⟩ ∧ k = -1 ∧ er = 1) := ⟨by
      have h := HR.out
      rw [if_neg (by simp)] at h
      obtain ⟨h1, h2⟩ := Prod.mk.inj h
      obtain ⟨h2, h3⟩ := Prod.mk.inj h2
      exact ⟨h1.symm, h2.symm, h3.symm⟩⟩
    obtain ⟨rfl, rfl, rfl⟩ := HX.out
    clear HR HX H2 H3
    obtain ⟨c, m, a, bb, l⟩ := p
    dsimp only [picV] at *
    have hc := S.cells; simp only [Cells, cellsC, Im, Row, El, Nat.zero_add, Nat.reduceAdd] at hc
    go_enter Tryz.func8, Tryz.ntmps8
    go_wp2_with (first | ((first | (with_reducible refine wpl_seal S ?_) | (with_reducible refine cw_seal S ?_) | (with_reducible refine bp_seal S ?_) | (with_reducible refine ca_seal S ?_)); clear S; (try clear hc); intro w1 S; (try simp only [List.set_cons_zero, List.set_cons_succ, List.nil_append] at S); have hc := S.cells; simp only [Cells, cellsC, Im, Row, El, Nat.zero_add, Nat.reduceAdd] at hc) | (go_at_call 19; refine (H1.out n _ _ S.bd (S.im 4 rfl)).mono ?_; rintro e w1 ⟨rfl, hx⟩; replace S := S.ext hx; clear hx; (try clear hc); have hc := S.cells; simp only [Cells, cellsC, Im, Row, El, Nat.zero_add, Nat.reduceAdd] at hc))
    refine bodyPost_ret (results_tmp2 rfl _ _ _) rfl ?_
    exact ⟨rfl, (S.dClose 5 rfl h9 h8 (S.im 1 rfl) (S.im 2 rfl)).retU 5 rfl⟩
  · rcases q2 with _ | _
    · have HX : As (D' = ⟨L, V, ar⟩ ∧ k = -1 ∧ er = 1) := ⟨by
        have h := HR.out
        rw [if_neg (by simp)] at h
        obtain ⟨h1, h2⟩ := Prod.mk.inj h
        obtain ⟨h2, h3⟩ := Prod.mk.inj h2
        exact ⟨h1.symm, h2.symm, h3.symm⟩⟩
      obtain ⟨rfl, rfl, rfl⟩ := HX.out
      clear HR HX H3
      obtain ⟨c, m, a, bb, l⟩ := p
      dsimp only [picV] at *
      have hc := S.cells; simp only [Cells, cellsC, Im, Row, El, Nat.zero_add, Nat.reduceAdd] at hc
      go_enter Tryz.func8, Tryz.ntmps8
      go_wp2_with (first | ((first | (with_reducible refine wpl_seal S ?_) | (with_reducible refine cw_seal S ?_) | (with_reducible refine bp_seal S ?_) | (with_reducible refine ca_seal S ?_)); clear S; (try clear hc); intro w1 S; (try simp only [List.set_cons_zero, List.set_cons_succ, List.nil_append] at S); have hc := S.cells; simp only [Cells, cellsC, Im, Row, El, Nat.zero_add, Nat.reduceAdd] at hc) | (go_at_call 19; refine (H1.out n _ _ S.bd (S.im 4 rfl)).mono ?_; rintro e w1 ⟨rfl, hx⟩; replace S := S.ext hx; clear hx; (try clear hc); have hc := S.cells; simp only [Cells, cellsC, Im, Row, El, Nat.zero_add, Nat.reduceAdd] at hc) | (go_at_call 20; refine (may_c ts B d _ _ S.bd (S.im 3 rfl) hd (by omega) H2.out).mono ?_; rintro e w1 ⟨rfl, hx⟩; replace S := S.ext hx; clear hx; (try clear hc); have hc := S.cells; simp only [Cells, cellsC, Im, Row, El, Nat.zero_add, Nat.reduceAdd] at hc))
      refine bodyPost_ret (results_tmp2 rfl _ _ _) rfl ?_
      exact ⟨rfl, (S.dClose 5 rfl h9 h8 (S.im 1 rfl) (S.im 2 rfl)).retU 5 rfl⟩
    · have HMX := As.mk (mayG_x H3.out)
      obtain ⟨-, hts0, hin⟩ := mayTs_in H2.out
      obtain ⟨st, hst⟩ : ∃ st, sortI ts = st := ⟨_, rfl⟩
      have hstl : st.length ≤ 1000 := by rw [← hst, sortI_len]; exact htn
      obtain ⟨⟨out, whr⟩, hor⟩ : ∃ o, orbP p.x st = o := ⟨_, rfl⟩
      have hol := orbP_len p.x st
      rw [hor] at hol
      dsimp only at hol
      have hwl : whr.length ≤ 1000000 := by omega
      have hou : out.length ≤ 1000 := by omega
      rw [hst] at HR hin
      rw [hor] at HR
      dsimp only at HR
      have HIN := As.mk hin
      have HST := As.mk hst
      have HOR := As.mk hor
      have HOL := As.mk hol
      clear hst hin hor hol
      obtain ⟨ng, hng⟩ : ∃ ng, decide ((-1) ∈ whr) = ng := ⟨_, rfl⟩
      have HNG := As.mk hng
      clear hng
      rcases ng with _ | _
      · obtain ⟨hmem, hidx⟩ := orbP_mem p.x st
        rw [HOR.out] at hmem hidx
        dsimp only at hmem hidx
        have HMEM := As.mk hmem
        have HIDX := As.mk hidx
        clear hmem hidx
        obtain ⟨c, m, a, bb, l⟩ := p
        obtain ⟨har0, har1⟩ := har
        have HFO := As.mk (fun j : Nat => (rfl : (out.take j).foldl (addV c m) (V, [], ar) = (out.take j).foldl (addV c m) (V, [], ar)))
        dsimp only [picV] at *
        have hc := S.cells; simp only [Cells, cellsC, Im, Row, El, Nat.zero_add, Nat.reduceAdd] at hc
        go_enter Tryz.func8, Tryz.ntmps8
        go_upto_region 7 with (first | ((first | (with_reducible refine wpl_seal S ?_) | (with_reducible refine cw_seal S ?_) | (with_reducible refine bp_seal S ?_) | (with_reducible refine ca_seal S ?_)); clear S; (try clear hc); intro w1 S; (try simp only [List.set_cons_zero, List.set_cons_succ, List.nil_append] at S); have hc := S.cells; simp only [Cells, cellsC, Im, Row, El, Nat.zero_add, Nat.reduceAdd] at hc) | (go_at_call 19; refine (H1.out n _ _ S.bd (S.im 4 rfl)).mono ?_; rintro e w1 ⟨rfl, hx⟩; replace S := S.ext hx; clear hx; (try clear hc); have hc := S.cells; simp only [Cells, cellsC, Im, Row, El, Nat.zero_add, Nat.reduceAdd] at hc) | (go_at_call 20; refine (may_c ts B d _ _ S.bd (S.im 3 rfl) hd (by omega) H2.out).mono ?_; rintro e w1 ⟨rfl, hx⟩; replace S := S.ext hx; clear hx; (try clear hc); have hc := S.cells; simp only [Cells, cellsC, Im, Row, El, Nat.zero_add, Nat.reduceAdd] at hc) | (go_at_call 21; refine (clone_c ⟨c, m, a, bb, l⟩ A n _ _ S.bd (S.im 4 rfl) hn).mono ?_; rintro e w1 ⟨Ac, cc, rfl, hcc, hu⟩; obtain ⟨I1, S1, hI1⟩ := S.new hu; clear S hu hI1; (try clear hc); have S := S1; clear S1; have hc := S.cells; simp only [Cells, cellsC, Im, Row, El, Nat.zero_add, Nat.reduceAdd] at hc; have hc := S.cells; simp only [Cells, cellsC, Im, Row, El, Nat.zero_add, Nat.reduceAdd] at hc) | (go_at_call 23; refine (values_c B ts.length d _ _ S.bd).mono ?_; rintro e w1 ⟨gv, rfl, hu⟩; obtain ⟨I1, S1, hI1⟩ := S.new hu; clear S hu hI1; (try clear hc); have S := S1; clear S1; have hc := S.cells; simp only [Cells, cellsC, Im, Row, El, Nat.zero_add, Nat.reduceAdd] at hc; obtain ⟨J, S9, -⟩ := S.lit 0 rfl (k := kII) (xs := [ts]) (Flat.single ⟨B, d, rfl, hd, S.im 5 rfl⟩); clear S hc; have S := S9; clear S9; simp only [List.set_cons_zero, List.set_cons_succ, List.nil_append] at S) | (go_at_call 22; refine (sorted_c ts gv _ _ S.bd (S.im 0 rfl) (by omega)).mono ?_; rw [HST.out]; rintro e w1 ⟨v, rfl, hu⟩; obtain ⟨I1, S1, hI1⟩ := S.new hu; clear S hu hI1; (try clear hc); have S := S1; clear S1; have hc := S.cells; simp only [Cells, cellsC, Im, Row, El, Nat.zero_add, Nat.reduceAdd] at hc; obtain ⟨Ast, cs, I1, e1, hcs, S1, hI1⟩ := S.frow 0 rfl; subst e1; clear S hI1; have S := S1; clear S1; simp only [List.set_cons_zero, List.set_cons_succ, List.nil_append] at S; have hc := S.cells; simp only [Cells, cellsC, Im, Row, El, Nat.zero_add, Nat.reduceAdd] at hc) | (go_at_call 24; refine (orbit_c ⟨a, bb, l⟩ st A Ast n cs _ _ S.bd (S.im 8 rfl) (S.im 1 rfl) HMX.out hn hstl HIN.out HOR.out).mono ?_; rintro e w1 ⟨A1, c1, A2, c2, J3, rfl, hc1, hc2, S3⟩; obtain ⟨J4, S4, -, -⟩ := S.comp S3; clear S S3; have S := S4; clear S4; simp only [List.cons_append, List.nil_append] at S; have hc := S.cells; simp only [Cells, cellsC, Im, Row, El, Nat.zero_add, Nat.reduceAdd] at hc) | (go_at_call 25; refine (contI_c whr (-1) A2 c2 _ _ (S.im 1 rfl) hwl HNG.out).mono ?_; rintro e w1 ⟨rfl, rfl⟩))
        obtain ⟨g8, eg8⟩ := S.name 2 rfl; rw [← eg8] at S ⊢; clear eg8
        obtain ⟨g4, eg4⟩ := S.name 6 rfl; rw [← eg4] at S ⊢; clear eg4
        replace S := ((S.sel [0, 1, 2, 3, 5, 6, 7, 8, 11] (by decide) rfl (by simp) : SH _ _ _ [_, _, _, _, _, _, _, _, _] _ _) : SH _ _ _ [_, _, _, _, _, _, _, _, _] _ _)
        have hc := S.cells; simp only [Cells, cellsC, Im, Row, El, Nat.zero_add, Nat.reduceAdd] at hc
        have hq := S.cellsE; simp only [CellsE, cellsE, Im, Row, El, Nat.zero_add, Nat.reduceAdd] at hq
        refine wp_region_ext [⟨[0, 1, 2, 3, 5, 6, 7, 8], [], 4, true⟩] [9, 10] (by kernel_rfl) (by kernel_rfl) ?_
        refine mix_cons rfl rfl rfl ?_
        simp only [opsAt, List.getD_cons_succ, List.getD_cons_zero]
        repeat (go_big_quiet_step ((intro hC; first | rfl | (go_simp; first | done | rfl))))
        refine wpQuiet_nil ?_
        repeat (go_big_quiet_step ((intro hC; first | rfl | (go_simp; first | done | rfl))))
        refine wpQuiet_nil ?_
        clear hc hq
        replace S := S.drew
        generalize w1.drew = w2 at S ⊢
        have hc := S.cells; simp only [Cells, cellsC, Im, Row, El, Nat.zero_add, Nat.reduceAdd] at hc
        go_wp2_with (first | ((first | (with_reducible refine mx_seal S ?_) | (with_reducible refine wpl_seal S ?_) | (with_reducible refine ca_seal S ?_)); clear S; (try clear hc); intro w1 S; (try simp only [List.set_cons_zero, List.set_cons_succ, List.nil_append] at S); have hc := S.cells; simp only [Cells, cellsC, Im, Row, El, Nat.zero_add, Nat.reduceAdd] at hc) | (go_at_call 26; refine (cloneG_c V B9 d9 _ _ S.bd (S.im 7 rfl) (by omega)).mono ?_; rintro e w1 ⟨v, rfl, hu⟩; have hxf := hu.ext; obtain ⟨I1, S1, hI1⟩ := S.new hu; clear S hu hI1; (try clear hc); have S := S1; clear S1; have hc := S.cells; simp only [Cells, cellsC, Im, Row, El, Nat.zero_add, Nat.reduceAdd] at hc; have hc := S.cells; simp only [Cells, cellsC, Im, Row, El, Nat.zero_add, Nat.reduceAdd] at hc))
        refine ⟨fun _ => hxf, ?_⟩
        refine mix_last rfl ?_
        simp only [opsAt, List.getD_cons_succ, List.getD_cons_zero]
        repeat (go_big_quiet_step ((intro hC; first | rfl | (go_simp; first | done | rfl))))
        refine wpQuiet_nil ?_
        simp only [calmQ]
        go_wp2_with (first | ((first | (with_reducible refine wpl_seal S ?_) | (with_reducible refine cw_seal S ?_) | (with_reducible refine bp_seal S ?_) | (with_reducible refine ca_seal S ?_)); clear S; (try clear hc); intro w1 S; (try simp only [List.set_cons_zero, List.set_cons_succ, List.nil_append] at S); have hc := S.cells; simp only [Cells, cellsC, Im, Row, El, Nat.zero_add, Nat.reduceAdd] at hc))
        replace S := (S.nilrow (k := kI))
        clear HFO hxf hc
        have HMX2 := HMEM
        go_loopw [11, 12, 13, 55] (fun vv av tv iv w' => ∃ (j : Nat) (V1 : List Pic) (at1 : List Int) (ar1 : Int) (J : Fp), iv = .int .i64 j ∧ av = .int .i64 ar1 ∧ j ≤ out.length ∧ V1.length ≤ V.length + j ∧ at1.length ≤ j ∧ (ar ≤ ar1 ∧ ar1 ≤ ar + j * 1000000) ∧ As (at1.length = j) ∧ As ((out.take j).foldl (addV c m) (V, [], ar) = (V1, at1, ar1)) ∧ As (SH F I w [Row kI tv at1, Row kG vv V1, Im kM A1 out, Im kI A2 whr, Cel g8 76 [.int .i64 c, .int .i64 m, .int .i64 a, .int .i64 bb, .slice Ac l.length cc, .slice Ast st.length cs, .slice none 0 0], Im kI Ast st, Im kP Ac l, Cel g4 36 [.int .i64 c, .int .i64 m, .int .i64 a, .int .i64 bb, .slice A l.length n], Im kT A9 L, Im kG B9 V, Cel b 67 [.slice A9 L.length c9, .slice B9 V.length d9, .int .i64 ar]] w' J)) (fun _ _ _ iv _ => out.length - (intOf iv).toNat)
        case atStart => exact ⟨0, V, [], ar, _, rfl, rfl, by omega, by omega, by simp, by omega, ⟨rfl⟩, ⟨rfl⟩, ⟨S⟩⟩
        case round =>
          clear S
          obtain ⟨j, V1, at1, ar1, J, rfl, rfl, hj, hV1, hat, ⟨hr1, hr2⟩, HAT, HS, ⟨S⟩⟩ := hrel
          by_cases hlt : j < out.length
          · have hlt' : decide ((j : Int) < out.length) = true := decide_eq_true (by omega)
            have hxm := HMEM.out _ (List.getElem_mem hlt)
            have HN := As.mk (show (out.take (j + 1)).foldl (addV c m) (V, [], ar) = addV c m (V1, at1, ar1) out[j] by rw [List.take_succ_eq_append_getElem hlt, List.foldl_append, HS.out]; rfl)
            obtain ⟨b1, o1, Ax, cx, rfl, g0, g1, g2, hcx, hx2⟩ := (S.im 2 rfl).mx_at (List.getElem?_eq_getElem hlt)
            replace S := S.know (h := Im kP Ax out[j].l) hx2
            generalize out[j] = x at g0 g1 g2 hcx hx2 hxm HN S
            clear hx2
            obtain ⟨xw, xh, xl⟩ := x
            dsimp only at *
            have hxl : xl.length ≤ 1000000 := by omega
            have HXM := As.mk hxm
            clear hxm
            have hc := S.cells; simp only [Cells, cellsC, Im, Row, El, Nat.zero_add, Nat.reduceAdd] at hc
            by_cases hm : (⟨c, m, ⟨xw, xh, xl⟩⟩ : Pic) ∈ V1
            · obtain ⟨hi1, hi2⟩ := idxI_in hm
              have HI := As.mk hi1
              obtain ⟨q, hq⟩ : ∃ q, V1.idxOf (⟨c, m, ⟨xw, xh, xl⟩⟩ : Pic) = q := ⟨_, rfl⟩
              rw [hq] at HI hi2
              have HN2 := As.mk (HN.out.trans (by unfold addV; dsimp only; rw [if_pos hm, HI.out] : _ = (V1, at1 ++ [(q : Int)], ar1)))
              clear hm hi1 hq HN
              go_wp2_with (first | ((first | (with_reducible refine wpl_seal S ?_) | (with_reducible refine cw_seal S ?_) | (with_reducible refine bp_seal S ?_) | (with_reducible refine ca_seal S ?_)); clear S; (try clear hc); intro w1 S; (try simp only [List.set_cons_zero, List.set_cons_succ, List.nil_append] at S); have hc := S.cells; simp only [Cells, cellsC, Im, Row, El, Nat.zero_add, Nat.reduceAdd] at hc) | (go_at_call 27; obtain ⟨A6, c6, e6, hc6, hs6⟩ := S.row 4 rfl; subst e6; refine (indexG_c V1 ⟨c, m, ⟨xw, xh, xl⟩⟩ A6 Ax c6 cx _ _ _ (S.rowD 4 rfl) hs6 ((S.im 2 rfl).weak fun _ _ h => .inl h) (by dsimp only; omega) (by omega) (S.cell 0 0 rfl rfl) (S.cell 0 1 rfl rfl) (S.cell 0 2 rfl rfl) (S.cell 0 3 rfl rfl) (S.cell 0 4 rfl rfl) HI.out).mono ?_; rintro e w1 ⟨rfl, hx⟩; replace S := S.ext hx; clear hx; (try clear hc); have hc := S.cells; simp only [Cells, cellsC, Im, Row, El, Nat.zero_add, Nat.reduceAdd] at hc) | (at_builtin; refine wpl_push S 4 rfl rfl _ _ rfl ty_ints rfl (q : Int) _ _ rfl [_] _ (S.cel 0 rfl) rfl (by (try simp only [maxLen, List.length_nil, List.length_append, List.length_cons]); omega) (by (try simp only [maxLen, List.length_nil, List.length_append, List.length_cons]); omega) ?_; clear S; (try clear hc); intro va w1 S; simp only [List.set_cons_zero, List.set_cons_succ, List.nil_append] at S; have hc := S.cells; simp only [Cells, cellsC, Im, Row, El, Nat.zero_add, Nat.reduceAdd] at hc))
              go_roundw
              case rel => exact ⟨j + 1, V1, at1 ++ [(q : Int)], ar1, _, by go_num, rfl, by omega, by omega, by rw [List.length_append]; simp; omega, by omega, ⟨by rw [List.length_append, HAT.out]; rfl⟩, HN2, ⟨(S.sel [4, 5, 6, 7, 8, 9, 10, 11, 12, 13, 14] (by decide) rfl (by simp) : SH _ _ _ [_, _, _, _, _, _, _, _, _, _, _] _ _)⟩⟩
              case measure => simp [intOf]; omega
            · have HI := As.mk (idxI_out hm)
              have HN2 := As.mk (HN.out.trans (by unfold addV; dsimp only; rw [if_neg hm] : _ = (V1 ++ [⟨c, m, ⟨xw, xh, xl⟩⟩], at1 ++ [(V1.length : Int)], ar1 + (xl.length : Int))))
              clear hm HN
              go_wp2_with (first | ((first | (with_reducible refine wpl_seal S ?_) | (with_reducible refine cw_seal S ?_) | (with_reducible refine bp_seal S ?_) | (with_reducible refine ca_seal S ?_)); clear S; (try clear hc); intro w1 S; (try simp only [List.set_cons_zero, List.set_cons_succ, List.nil_append] at S); have hc := S.cells; simp only [Cells, cellsC, Im, Row, El, Nat.zero_add, Nat.reduceAdd] at hc) | (go_at_call 27; obtain ⟨A6, c6, e6, hc6, hs6⟩ := S.row 4 rfl; subst e6; refine (indexG_c V1 ⟨c, m, ⟨xw, xh, xl⟩⟩ A6 Ax c6 cx _ _ _ (S.rowD 4 rfl) hs6 ((S.im 2 rfl).weak fun _ _ h => .inl h) (by dsimp only; omega) (by omega) (S.cell 0 0 rfl rfl) (S.cell 0 1 rfl rfl) (S.cell 0 2 rfl rfl) (S.cell 0 3 rfl rfl) (S.cell 0 4 rfl rfl) HI.out).mono ?_; rintro e w1 ⟨rfl, hx⟩; replace S := S.ext hx; clear hx; (try clear hc); have hc := S.cells; simp only [Cells, cellsC, Im, Row, El, Nat.zero_add, Nat.reduceAdd] at hc))
              obtain ⟨g16, eg16⟩ := S.name 0 rfl; rw [← eg16] at S ⊢; clear eg16
              obtain ⟨g15, eg15⟩ := S.name 1 rfl; rw [← eg15] at S ⊢; clear eg15
              have q0 := ClA.cell (L := [⟨g16, 0, none⟩, ⟨g16, 1, none⟩, ⟨g16, 2, none⟩, ⟨g16, 3, none⟩, ⟨g16, 4, none⟩, ⟨g15, 2, none⟩]) (w := w1.drew) (S.cell 0 0 rfl rfl) (by simp)
              have q1 := ClA.cell (L := [⟨g16, 0, none⟩, ⟨g16, 1, none⟩, ⟨g16, 2, none⟩, ⟨g16, 3, none⟩, ⟨g16, 4, none⟩, ⟨g15, 2, none⟩]) (w := w1.drew) (S.cell 0 1 rfl rfl) (by simp)
              have q2 := ClA.cell (L := [⟨g16, 0, none⟩, ⟨g16, 1, none⟩, ⟨g16, 2, none⟩, ⟨g16, 3, none⟩, ⟨g16, 4, none⟩, ⟨g15, 2, none⟩]) (w := w1.drew) (S.cell 0 2 rfl rfl) (by simp)
              have q3 := ClA.cell (L := [⟨g16, 0, none⟩, ⟨g16, 1, none⟩, ⟨g16, 2, none⟩, ⟨g16, 3, none⟩, ⟨g16, 4, none⟩, ⟨g15, 2, none⟩]) (w := w1.drew) (S.cell 0 3 rfl rfl) (by simp)
              have q4 := ClA.cell (L := [⟨g16, 0, none⟩, ⟨g16, 1, none⟩, ⟨g16, 2, none⟩, ⟨g16, 3, none⟩, ⟨g16, 4, none⟩, ⟨g15, 2, none⟩]) (w := w1.drew) (S.cell 0 4 rfl rfl) (by simp)
              have q5 := ClA.cell (L := [⟨g16, 0, none⟩, ⟨g16, 1, none⟩, ⟨g16, 2, none⟩, ⟨g16, 3, none⟩, ⟨g16, 4, none⟩, ⟨g15, 2, none⟩]) (w := w1.drew) (S.cell 1 2 rfl rfl) (by simp)
              refine wp_region_at [⟨g16, 0, none⟩, ⟨g16, 1, none⟩, ⟨g16, 2, none⟩, ⟨g16, 3, none⟩, ⟨g16, 4, none⟩, ⟨g15, 2, none⟩] [⟨[1, 5, 6, 7], [0, 4, 8], 2, true⟩, ⟨[], [], 3, true⟩] [9, 10] (by kernel_rfl) (by kernel_rfl) ?_
              refine mix_cons rfl rfl rfl ?_
              simp only [opsAt, List.getD_cons_succ, List.getD_cons_zero]
              repeat (go_big_quiet_step ((intro hC; first | rfl | (go_simp; first | done | rfl))))
              refine wpQuiet_nil ?_
              repeat (go_big_quiet_step ((intro hC; first | rfl | (go_simp; first | done | rfl))))
              refine wpQuiet_nil ?_
              clear hc q0 q1 q2 q3 q4 q5
              replace S := S.drew
              generalize w1.drew = w2 at S ⊢
              have hb16 := lt_of_heap (S.cel 0 rfl)
              have hb15 := lt_of_heap (S.cel 1 rfl)
              go_wp2_with (first | ((first | (with_reducible refine mx_seal S ?_) | (with_reducible refine wpl_seal S ?_) | (with_reducible refine ca_seal S ?_)); clear S; (try clear hc); intro w1 S; (try simp only [List.set_cons_zero, List.set_cons_succ, List.nil_append] at S); have hc := S.cells; simp only [Cells, cellsC, Im, Row, El, Nat.zero_add, Nat.reduceAdd] at hc))
              refine ⟨fun _ => ClA.alloc (fun a ha => ?_) _, ?_⟩
              · simp only [List.mem_cons, List.not_mem_nil, or_false] at ha
                rcases ha with rfl | rfl | rfl | rfl | rfl | rfl <;> first | exact hb16 | exact hb15
              (first | refine ⟨(fun h => by cases h), ?_⟩ | skip); (first | ((first | (with_reducible refine mx_seal S ?_)); clear S; (try clear hc); intro w1 S; (try simp only [List.set_cons_zero, List.set_cons_succ, List.nil_append] at S); have hc := S.cells; simp only [Cells, cellsC, Im, Row, El, Nat.zero_add, Nat.reduceAdd] at hc) | skip); (try simp only [Act.put, List.setIfInBounds_toArray, List.set_cons_succ, List.set_cons_zero])
              refine mix_cons rfl rfl rfl ?_
              simp only [opsAt, List.getD_cons_succ, List.getD_cons_zero]
              repeat (go_big_quiet_step ((intro hC; first | rfl | (go_simp; first | done | rfl))))
              refine wpQuiet_nil ?_
              repeat (go_big_quiet_step ((intro hC; first | rfl | (go_simp; first | done | rfl))))
              refine wpQuiet_nil ?_
              have OLD := As.mk (And.intro (S.cell 1 0 rfl rfl) (And.intro (S.cell 1 1 rfl rfl) (And.intro (S.cell 1 2 rfl rfl) (And.intro (S.cell 1 3 rfl rfl) (And.intro (S.cell 1 4 rfl rfl) (S.cell 2 2 rfl rfl))))))
              go_wp2_with (first | ((first | (with_reducible refine mx_seal S ?_) | (with_reducible refine wpl_seal S ?_) | (with_reducible refine ca_seal S ?_)); clear S; (try clear hc); intro w1 S; (try simp only [List.set_cons_zero, List.set_cons_succ, List.nil_append] at S); have hc := S.cells; simp only [Cells, cellsC, Im, Row, El, Nat.zero_add, Nat.reduceAdd] at hc) | (at_builtin; refine wpl_push S 5 rfl rfl _ _ rfl ty_pics rfl (⟨c, m, ⟨xw, xh, xl⟩⟩ : Pic) _ _ rfl [.int .i64 c, .int .i64 m, .int .i64 xw, .int .i64 xh, .slice Ax xl.length cx] _ (S.cel 0 rfl) (⟨Ax, cx, rfl, hcx, S.im 3 rfl⟩) (by (try simp only [maxLen, List.length_nil, List.length_append, List.length_cons]); omega) (by (try simp only [maxLen, List.length_nil, List.length_append, List.length_cons]); omega) ?_; clear S; (try clear hc); intro va w1 S; simp only [List.set_cons_zero, List.set_cons_succ, List.nil_append] at S; have hc := S.cells; simp only [Cells, cellsC, Im, Row, El, Nat.zero_add, Nat.reduceAdd] at hc))
              refine ⟨fun _ a ha => ?_, ?_⟩
              · simp only [List.mem_cons, List.not_mem_nil, or_false] at ha
                rcases ha with rfl | rfl | rfl | rfl | rfl | rfl
                · exact (S.cell 1 0 rfl rfl).trans OLD.out.1.symm
                · exact (S.cell 1 1 rfl rfl).trans OLD.out.2.1.symm
                · exact (S.cell 1 2 rfl rfl).trans OLD.out.2.2.1.symm
                · exact (S.cell 1 3 rfl rfl).trans OLD.out.2.2.2.1.symm
                · exact (S.cell 1 4 rfl rfl).trans OLD.out.2.2.2.2.1.symm
                · exact (S.cell 2 2 rfl rfl).trans OLD.out.2.2.2.2.2.symm
              clear OLD hb15 hb16
              (first | refine ⟨(fun h => by cases h), ?_⟩ | skip); (first | ((first | (with_reducible refine mx_seal S ?_)); clear S; (try clear hc); intro w1 S; (try simp only [List.set_cons_zero, List.set_cons_succ, List.nil_append] at S); have hc := S.cells; simp only [Cells, cellsC, Im, Row, El, Nat.zero_add, Nat.reduceAdd] at hc) | skip); (try simp only [Act.put, List.setIfInBounds_toArray, List.set_cons_succ, List.set_cons_zero])
              refine mix_last rfl ?_
              simp only [opsAt, List.getD_cons_succ, List.getD_cons_zero]
              repeat (go_big_quiet_step ((intro hC; first | rfl | (go_simp; first | done | rfl))))
              refine wpQuiet_nil ?_
              simp only [calmQ]
              go_wp2_with (first | ((first | (with_reducible refine wpl_seal S ?_) | (with_reducible refine cw_seal S ?_) | (with_reducible refine bp_seal S ?_) | (with_reducible refine ca_seal S ?_)); clear S; (try clear hc); intro w1 S; (try simp only [List.set_cons_zero, List.set_cons_succ, List.nil_append] at S); have hc := S.cells; simp only [Cells, cellsC, Im, Row, El, Nat.zero_add, Nat.reduceAdd] at hc) | (at_builtin; refine wpl_push S 5 rfl rfl _ _ rfl ty_ints rfl (V1.length : Int) _ _ rfl [_] _ (S.cel 0 rfl) rfl (by (try simp only [maxLen, List.length_nil, List.length_append, List.length_cons]); omega) (by (try simp only [maxLen, List.length_nil, List.length_append, List.length_cons]); omega) ?_; clear S; (try clear hc); intro va w1 S; simp only [List.set_cons_zero, List.set_cons_succ, List.nil_append] at S; have hc := S.cells; simp only [Cells, cellsC, Im, Row, El, Nat.zero_add, Nat.reduceAdd] at hc))
              go_roundw
              case rel => exact ⟨j + 1, V1 ++ [⟨c, m, ⟨xw, xh, xl⟩⟩], at1 ++ [(V1.length : Int)], ar1 + (xl.length : Int), _, by go_num, rfl, by omega, by rw [List.length_append]; simp; omega, by rw [List.length_append]; simp; omega, by omega, ⟨by rw [List.length_append, HAT.out]; rfl⟩, HN2, ⟨(S.sel [5, 6, 7, 8, 9, 10, 11, 12, 13, 14, 15] (by decide) rfl (by simp) : SH _ _ _ [_, _, _, _, _, _, _, _, _, _, _] _ _)⟩⟩
              case measure => simp [intOf]; omega
          · have hlt' : decide ((j : Int) < out.length) = false := decide_eq_false (by omega)
            obtain rfl : j = out.length := by omega
            rw [List.take_length] at HS
            rw [HS.out] at HR
            dsimp only at HR
            have HNG2 : As (¬ (-1) ∈ whr) := ⟨of_decide_eq_false HNG.out⟩
            by_cases hfull : L.length = 64 ∨ 65536 < ar1
            · have HX : As (D' = ⟨L, V, ar⟩ ∧ k = -1 ∧ er = 8) := ⟨by
                have h := HR.out
                rw [if_pos (by simp), if_neg HNG2.out, if_pos hfull] at h
                obtain ⟨h1, h2⟩ := Prod.mk.inj h
                obtain ⟨h2, h3⟩ := Prod.mk.inj h2
                exact ⟨h1.symm, h2.symm, h3.symm⟩⟩
              obtain ⟨rfl, rfl, rfl⟩ := HX.out
              clear HR HX H3
              have hc := S.cells; simp only [Cells, cellsC, Im, Row, El, Nat.zero_add, Nat.reduceAdd] at hc
              by_cases h64 : L.length = 64
              · have h64' : ((L.length : Int) == 64) = true := by rw [beq_iff_eq]; omega
                clear h64 hfull
                go_wp2_with (first | ((first | (with_reducible refine wpl_seal S ?_) | (with_reducible refine cw_seal S ?_) | (with_reducible refine bp_seal S ?_) | (with_reducible refine ca_seal S ?_)); clear S; (try clear hc); intro w1 S; (try simp only [List.set_cons_zero, List.set_cons_succ, List.nil_append] at S); have hc := S.cells; simp only [Cells, cellsC, Im, Row, El, Nat.zero_add, Nat.reduceAdd] at hc))
                refine bodyPost_ret (results_tmp2 rfl _ _ _) rfl ?_
                exact ⟨rfl, (S.dClose 10 rfl h9 h8 (S.im 8 rfl) (S.im 9 rfl)).retU 10 rfl⟩
              · have h64' : ((L.length : Int) == 64) = false := by rw [beq_eq_false_iff_ne]; omega
                have har' : decide (ar1 > 65536) = true := decide_eq_true (by omega)
                clear h64 hfull
                go_wp2_with (first | ((first | (with_reducible refine wpl_seal S ?_) | (with_reducible refine cw_seal S ?_) | (with_reducible refine bp_seal S ?_) | (with_reducible refine ca_seal S ?_)); clear S; (try clear hc); intro w1 S; (try simp only [List.set_cons_zero, List.set_cons_succ, List.nil_append] at S); have hc := S.cells; simp only [Cells, cellsC, Im, Row, El, Nat.zero_add, Nat.reduceAdd] at hc))
                refine bodyPost_ret (results_tmp2 rfl _ _ _) rfl ?_
                exact ⟨rfl, (S.dClose 10 rfl h9 h8 (S.im 8 rfl) (S.im 9 rfl)).retU 10 rfl⟩
            · obtain ⟨f, hf⟩ : ∃ f : Int → Int, (fun i => at1.getD i.toNat 0) = f := ⟨_, rfl⟩
              have HFI := As.mk (fun i => congrFun hf i)
              rw [hf] at HR
              clear hf
              have HX : As (D' = ⟨L ++ [⟨⟨c, m, ⟨a, bb, l⟩⟩, st, whr.map f⟩], V1, ar1⟩ ∧ k = L.length ∧ er = 0) := ⟨by
                have h := HR.out
                rw [if_pos (by simp), if_neg HNG2.out, if_neg hfull] at h
                obtain ⟨h1, h2⟩ := Prod.mk.inj h
                obtain ⟨h2, h3⟩ := Prod.mk.inj h2
                exact ⟨h1.symm, h2.symm, h3.symm⟩⟩
              have h64' : ((L.length : Int) == 64) = false := by rw [beq_eq_false_iff_ne]; omega
              have har' : decide (ar1 > 65536) = false := decide_eq_false (by omega)
              clear HR H3 hfull
              obtain ⟨A13, c13, I1, e1, hc13, S1, hI1⟩ := S.frow 0 rfl; subst e1; clear S hI1; have S := S1; clear S1; simp only [List.set_cons_zero, List.set_cons_succ, List.nil_append] at S
              obtain ⟨A11, c11, I1, e1, hc11, S1, hI1⟩ := S.frow 1 rfl; subst e1; clear S hI1; have S := S1; clear S1; simp only [List.set_cons_zero, List.set_cons_succ, List.nil_append] at S
              replace S := ((S.sel [0, 1, 3, 4, 5, 6, 8, 9, 10] (by decide) rfl (by simp) : SH _ _ _ [_, _, _, _, _, _, _, _, _] _ _) : SH _ _ _ [_, _, _, _, _, _, _, _, _] _ _)
              replace S := S.nilrow (k := kI)
              have hc := S.cells; simp only [Cells, cellsC, Im, Row, El, Nat.zero_add, Nat.reduceAdd] at hc
              go_wp2_with (first | ((first | (with_reducible refine wpl_seal S ?_) | (with_reducible refine cw_seal S ?_) | (with_reducible refine bp_seal S ?_) | (with_reducible refine ca_seal S ?_)); clear S; (try clear hc); intro w1 S; (try simp only [List.set_cons_zero, List.set_cons_succ, List.nil_append] at S); have hc := S.cells; simp only [Cells, cellsC, Im, Row, El, Nat.zero_add, Nat.reduceAdd] at hc))
              clear hc
              go_loopw [96] (fun iv w' => ∃ (j : Nat) (wv : Value) (ws : List Int) (J : Fp), iv = .int .i64 j ∧ j ≤ whr.length ∧ ws.length ≤ j ∧ As (ws = (whr.take j).map f) ∧ As (SH F I w [Row kI wv ws, Im kI A13 at1, Im kG A11 V1, Im kI A2 whr, Cel g8 76 [.int .i64 c, .int .i64 m, .int .i64 a, .int .i64 bb, .slice Ac l.length cc, .slice Ast st.length cs, wv], Im kI Ast st, Im kP Ac l, Im kT A9 L, Im kG B9 V, Cel b 67 [.slice A9 L.length c9, .slice B9 V.length d9, .int .i64 ar]] w' J)) (fun iv _ => whr.length - (intOf iv).toNat)
              case atStart => exact ⟨0, _, [], _, rfl, by omega, by simp, ⟨rfl⟩, ⟨S⟩⟩
              case round =>
                clear S
                obtain ⟨j, wv, ws, J2, rfl, hj, hws, HWS, ⟨S⟩⟩ := hrel
                obtain ⟨Aw, cw, ew, hcw, -⟩ := S.row 0 rfl
                subst ew
                by_cases hlt : j < whr.length
                · have hlt' : decide ((j : Int) < whr.length) = true := decide_eq_true (by omega)
                  obtain ⟨b2, o2, rfl, hcx⟩ := (S.im 3 rfl).num_at (List.getElem?_eq_getElem hlt)
                  have hi := HIDX.out _ (List.getElem_mem hlt)
                  have hi2 : whr[j] ≠ -1 := fun e => HNG2.out (e ▸ List.getElem_mem hlt)
                  have HN := As.mk (show (whr.take (j + 1)).map f = ws ++ [f whr[j]] by rw [List.take_succ_eq_append_getElem hlt, List.map_append, HWS.out]; rfl)
                  generalize whr[j] = y at hcx hi hi2 HN
                  obtain ⟨q, rfl⟩ : ∃ q : Nat, y = q := ⟨y.toNat, by omega⟩
                  have hql : q < at1.length := by have := HAT.out; omega
                  obtain ⟨z, hz⟩ : ∃ z, at1[q]? = some z := ⟨_, List.getElem?_eq_getElem hql⟩
                  have HFZ : As (f q = z) := ⟨by rw [← HFI.out, Int.toNat_natCast, List.getD_eq_getElem?_getD, hz]; rfl⟩
                  rw [HFZ.out] at HN
                  obtain ⟨b3, o3, rfl, hcz⟩ := (S.im 1 rfl).num_at hz
                  have qz := ClE.cell (w := wr.drew) hcz
                  clear hz hi hi2
                  have hc := S.cells; simp only [Cells, cellsC, Im, Row, El, Nat.zero_add, Nat.reduceAdd] at hc
                  have hq := S.cellsE; simp only [CellsE, cellsE, Im, Row, El, Nat.zero_add, Nat.reduceAdd] at hq
                  go_wp2_with (first | ((first | (with_reducible refine wpl_seal S ?_) | (with_reducible refine cw_seal S ?_) | (with_reducible refine bp_seal S ?_) | (with_reducible refine ca_seal S ?_)); clear S; (try clear hc); intro w1 S; (try simp only [List.set_cons_zero, List.set_cons_succ, List.nil_append] at S); have hc := S.cells; simp only [Cells, cellsC, Im, Row, El, Nat.zero_add, Nat.reduceAdd] at hc))
                  refine wp_region_ext [⟨[0, 1, 2, 3, 4, 5], [], 6, true⟩, ⟨[], [], 7, false⟩, ⟨[8], [], 9, false⟩] [] (by kernel_rfl) (by kernel_rfl) ?_
                  refine mix_cons rfl rfl rfl ?_
                  simp only [opsAt, List.getD_cons_succ, List.getD_cons_zero]
                  repeat (go_big_quiet_step ((intro hC; first | rfl | (go_simp; first | done | rfl))))
                  refine wpQuiet_nil ?_
                  repeat (go_big_quiet_step ((intro hC; first | rfl | (go_simp; first | done | rfl))))
                  refine wpQuiet_nil ?_
                  clear hc hq qz hcz hcx
                  replace S := S.drew
                  generalize wr.drew = w4 at S ⊢
                  have hc := S.cells; simp only [Cells, cellsC, Im, Row, El, Nat.zero_add, Nat.reduceAdd] at hc
                  go_wp2_with (first | ((first | (with_reducible refine mx_seal S ?_) | (with_reducible refine wpl_seal S ?_) | (with_reducible refine ca_seal S ?_)); clear S; (try clear hc); intro w1 S; (try simp only [List.set_cons_zero, List.set_cons_succ, List.nil_append] at S); have hc := S.cells; simp only [Cells, cellsC, Im, Row, El, Nat.zero_add, Nat.reduceAdd] at hc))
                  refine ⟨fun _ => Ext.alloc _ _, ?_⟩
                  (first | refine ⟨(fun h => by cases h), ?_⟩ | skip); (first | ((first | (with_reducible refine mx_seal S ?_)); clear S; (try clear hc); intro w1 S; (try simp only [List.set_cons_zero, List.set_cons_succ, List.nil_append] at S); have hc := S.cells; simp only [Cells, cellsC, Im, Row, El, Nat.zero_add, Nat.reduceAdd] at hc) | skip); (try simp only [Act.put, List.setIfInBounds_toArray, List.set_cons_succ, List.set_cons_zero])
                  refine mix_cons rfl rfl rfl ?_
                  simp only [opsAt, List.getD_cons_succ, List.getD_cons_zero]
                  repeat (go_big_quiet_step ((intro hC; first | rfl | (go_simp; first | done | rfl))))
                  refine wpQuiet_nil ?_
                  repeat (go_big_quiet_step ((intro hC; first | rfl | (go_simp; first | done | rfl))))
                  refine wpQuiet_nil ?_
                  go_wp2_with (first | ((first | (with_reducible refine mx_seal S ?_) | (with_reducible refine wpl_seal S ?_) | (with_reducible refine ca_seal S ?_)); clear S; (try clear hc); intro w1 S; (try simp only [List.set_cons_zero, List.set_cons_succ, List.nil_append] at S); have hc := S.cells; simp only [Cells, cellsC, Im, Row, El, Nat.zero_add, Nat.reduceAdd] at hc) | (at_builtin; refine wpl_push S 1 rfl rfl _ _ rfl ty_ints rfl z _ _ rfl [_] _ (S.cel 0 rfl) rfl (by (try simp only [maxLen, List.length_nil, List.length_append, List.length_cons]); omega) (by (try simp only [maxLen, List.length_nil, List.length_append, List.length_cons]); omega) ?_; clear S; (try clear hc); intro va w1 S; simp only [List.set_cons_zero, List.set_cons_succ, List.nil_append] at S; obtain ⟨Av, cv, eva, -, -⟩ := S.row 1 rfl; subst eva; have hc := S.cells; simp only [Cells, cellsC, Im, Row, El, Nat.zero_add, Nat.reduceAdd] at hc))
                  rw [show (ws ++ [z]).length = ws.length + 1 by simp] at S
                  (first | refine ⟨(fun h => by cases h), ?_⟩ | skip); (first | ((first | (with_reducible refine mx_seal S ?_)); clear S; (try clear hc); intro w1 S; (try simp only [List.set_cons_zero, List.set_cons_succ, List.nil_append] at S); have hc := S.cells; simp only [Cells, cellsC, Im, Row, El, Nat.zero_add, Nat.reduceAdd] at hc) | skip); (try simp only [Act.put, List.setIfInBounds_toArray, List.set_cons_succ, List.set_cons_zero])
                  refine mix_cons rfl rfl rfl ?_
                  simp only [opsAt, List.getD_cons_succ, List.getD_cons_zero]
                  repeat (go_big_quiet_step ((intro hC; first | rfl | (go_simp; first | done | rfl))))
                  refine wpQuiet_nil ?_
                  repeat (go_big_quiet_step ((intro hC; first | rfl | (go_simp; first | done | rfl))))
                  refine wpQuiet_nil ?_
                  go_wp2_with (first | ((first | (with_reducible refine mx_seal S ?_) | (with_reducible refine wpl_seal S ?_) | (with_reducible refine ca_seal S ?_)); clear S; (try clear hc); intro w1 S; (try simp only [List.set_cons_zero, List.set_cons_succ, List.nil_append] at S); have hc := S.cells; simp only [Cells, cellsC, Im, Row, El, Nat.zero_add, Nat.reduceAdd] at hc))
                  (first | refine ⟨(fun h => by cases h), ?_⟩ | skip); (first | ((first | (with_reducible refine mx_seal S ?_)); clear S; (try clear hc); intro w1 S; (try simp only [List.set_cons_zero, List.set_cons_succ, List.nil_append] at S); have hc := S.cells; simp only [Cells, cellsC, Im, Row, El, Nat.zero_add, Nat.reduceAdd] at hc) | skip); (try simp only [Act.put, List.setIfInBounds_toArray, List.set_cons_succ, List.set_cons_zero])
                  refine mix_last rfl ?_
                  simp only [opsAt, List.getD_cons_succ, List.getD_cons_zero]
                  repeat (go_big_quiet_step ((intro hC; first | rfl | (go_simp; first | done | rfl))))
                  refine wpQuiet_nil ?_
                  simp only [calmQ]
                  go_wp2_with (first | ((first | (with_reducible refine wpl_seal S ?_) | (with_reducible refine cw_seal S ?_) | (with_reducible refine bp_seal S ?_) | (with_reducible refine ca_seal S ?_)); clear S; (try clear hc); intro w1 S; (try simp only [List.set_cons_zero, List.set_cons_succ, List.nil_append] at S); have hc := S.cells; simp only [Cells, cellsC, Im, Row, El, Nat.zero_add, Nat.reduceAdd] at hc))
                  go_roundw
                  case rel => exact ⟨j + 1, _, ws ++ [z], _, by go_num, by omega, by rw [List.length_append]; simp; omega, ⟨HN.out.symm⟩, ⟨(S.sel [1, 2, 3, 4, 5, 6, 7, 8, 9, 10] (by decide) rfl (by simp) : SH _ _ _ [_, _, _, _, _, _, _, _, _, _] _ _)⟩⟩
                  case measure => simp [intOf]; omega
                · have hlt' : decide ((j : Int) < whr.length) = false := decide_eq_false (by omega)
                  obtain rfl : j = whr.length := by omega
                  rw [List.take_length] at HWS
                  rw [← HWS.out] at HX
                  clear HIDX HNG HNG2 HFI HS HAT HOR HOL HIN HMX HMEM HMX2 HU H1 H2 HST hwl hou
                  obtain ⟨Ar, cr, I2, e3, hcr, S2, -⟩ := S.frow 0 rfl
                  rw [Value.slice.injEq] at e3
                  obtain ⟨rfl, -, rfl⟩ := e3
                  clear S
                  have S := S2
                  clear S2
                  simp only [List.set_cons_zero, List.set_cons_succ, List.nil_append] at S
                  have hc := S.cells; simp only [Cells, cellsC, Im, Row, El, Nat.zero_add, Nat.reduceAdd] at hc
                  have hq := S.cellsE; simp only [CellsE, cellsE, Im, Row, El, Nat.zero_add, Nat.reduceAdd] at hq
                  go_wp2_with (first | ((first | (with_reducible refine wpl_seal S ?_) | (with_reducible refine cw_seal S ?_) | (with_reducible refine bp_seal S ?_) | (with_reducible refine ca_seal S ?_)); clear S; (try clear hc); intro w1 S; (try simp only [List.set_cons_zero, List.set_cons_succ, List.nil_append] at S); have hc := S.cells; simp only [Cells, cellsC, Im, Row, El, Nat.zero_add, Nat.reduceAdd] at hc))
                  refine wp_region_forkE [3, 4, 5, 6, 8] [0, 1, 2, 11, 12] 7 9 [⟨[], [], 9, true⟩, ⟨[], [], 10, false⟩, ⟨[13, 14], [], 15, false⟩, ⟨[16, 17], [], 18, false⟩, ⟨[19, 20], [], 21, false⟩] [] [⟨[], [], 7, true⟩, ⟨[], [], 10, false⟩, ⟨[13, 14], [], 15, false⟩, ⟨[16, 17], [], 18, false⟩, ⟨[19, 20], [], 21, false⟩] [] (by kernel_rfl) (by kernel_rfl) rfl rfl rfl rfl ?_
                  (try simp only [opsAt, List.getD_cons_succ, List.getD_cons_zero])
                  repeat (go_big_quiet_step ((intro hC; first | rfl | (go_simp; first | done | rfl))))
                  refine wpQuiet_nil ?_
                  (try simp only [opsAt, List.getD_cons_succ, List.getD_cons_zero])
                  repeat (go_big_quiet_step ((intro hC; first | rfl | (go_simp; first | done | rfl))))
                  refine wpQuiet_nil ?_
                  clear hc hq
                  replace S := S.drew
                  generalize wr.drew = w5 at S ⊢
                  refine ⟨?_, ?_⟩
                  · have hc := S.cells; simp only [Cells, cellsC, Im, Row, El, Nat.zero_add, Nat.reduceAdd] at hc
                    go_wp2_with (first | ((first | (with_reducible refine mx_seal S ?_) | (with_reducible refine wpl_seal S ?_) | (with_reducible refine ca_seal S ?_)); clear S; (try clear hc); intro w1 S; (try simp only [List.set_cons_zero, List.set_cons_succ, List.nil_append] at S); have hc := S.cells; simp only [Cells, cellsC, Im, Row, El, Nat.zero_add, Nat.reduceAdd] at hc) | (go_at_call 30; refine (cloneT_c L A9 c9 _ _ S.bd (S.im 7 rfl) (by omega)).mono ?_; rintro e w1 ⟨v, rfl, hu⟩; have hxf := hu.ext; obtain ⟨I1, S1, hI1⟩ := S.new hu; clear S hu hI1; (try clear hc); have S := S1; clear S1; have hc := S.cells; simp only [Cells, cellsC, Im, Row, El, Nat.zero_add, Nat.reduceAdd] at hc; have hc := S.cells; simp only [Cells, cellsC, Im, Row, El, Nat.zero_add, Nat.reduceAdd] at hc))
                    refine ⟨hxf, ?_⟩
                    refine mix_cons rfl rfl rfl ?_
                    simp only [opsAt, List.getD_cons_succ, List.getD_cons_zero]
                    repeat (go_big_quiet_step ((intro hC; first | rfl | (go_simp; first | done | rfl))))
                    refine wpQuiet_nil ?_
                    repeat (go_big_quiet_step ((intro hC; first | rfl | (go_simp; first | done | rfl))))
                    refine wpQuiet_nil ?_
                    go_wp2_with (first | ((first | (with_reducible refine mx_seal S ?_) | (with_reducible refine wpl_seal S ?_) | (with_reducible refine ca_seal S ?_)); clear S; (try clear hc); intro w1 S; (try simp only [List.set_cons_zero, List.set_cons_succ, List.nil_append] at S); have hc := S.cells; simp only [Cells, cellsC, Im, Row, El, Nat.zero_add, Nat.reduceAdd] at hc))
                    refine ⟨fun _ => Ext.alloc _ _, ?_⟩
                    (first | refine ⟨(fun h => by cases h), ?_⟩ | skip); (first | ((first | (with_reducible refine mx_seal S ?_)); clear S; (try clear hc); intro w1 S; (try simp only [List.set_cons_zero, List.set_cons_succ, List.nil_append] at S); have hc := S.cells; simp only [Cells, cellsC, Im, Row, El, Nat.zero_add, Nat.reduceAdd] at hc) | skip); (try simp only [Act.put, List.setIfInBounds_toArray, List.set_cons_succ, List.set_cons_zero])
                    refine mix_cons rfl rfl rfl ?_
                    simp only [opsAt, List.getD_cons_succ, List.getD_cons_zero]
                    repeat (go_big_quiet_step ((intro hC; first | rfl | (go_simp; first | done | rfl))))
                    refine wpQuiet_nil ?_
                    repeat (go_big_quiet_step ((intro hC; first | rfl | (go_simp; first | done | rfl))))
                    refine wpQuiet_nil ?_
                    go_wp2_with (first | ((first | (with_reducible refine mx_seal S ?_) | (with_reducible refine wpl_seal S ?_) | (with_reducible refine ca_seal S ?_)); clear S; (try clear hc); intro w1 S; (try simp only [List.set_cons_zero, List.set_cons_succ, List.nil_append] at S); have hc := S.cells; simp only [Cells, cellsC, Im, Row, El, Nat.zero_add, Nat.reduceAdd] at hc) | (at_builtin; refine wpl_push S 1 rfl rfl _ _ rfl ty_tmps rfl (⟨⟨c, m, ⟨a, bb, l⟩⟩, st, ws⟩ : Tm) _ _ rfl [.int .i64 c, .int .i64 m, .int .i64 a, .int .i64 bb, .slice Ac l.length cc, .slice Ast st.length cs, .slice Aw ws.length cw] _ (S.cel 0 rfl) (⟨Ac, cc, Ast, cs, Aw, cw, rfl, ⟨hcc, S.im 8 rfl⟩, ⟨hcs, S.im 7 rfl⟩, hcw, S.im 2 rfl⟩) (by (try simp only [maxLen, List.length_nil, List.length_append, List.length_cons]); omega) (by (try simp only [maxLen, List.length_nil, List.length_append, List.length_cons]); omega) ?_; clear S; (try clear hc); intro va w1 S; simp only [List.set_cons_zero, List.set_cons_succ, List.nil_append] at S; have hc := S.cells; simp only [Cells, cellsC, Im, Row, El, Nat.zero_add, Nat.reduceAdd] at hc))
                    obtain ⟨Av, cv, eva, hcv, -⟩ := S.row 1 rfl
                    subst eva
                    (first | refine ⟨(fun h => by cases h), ?_⟩ | skip); (first | ((first | (with_reducible refine mx_seal S ?_)); clear S; (try clear hc); intro w1 S; (try simp only [List.set_cons_zero, List.set_cons_succ, List.nil_append] at S); have hc := S.cells; simp only [Cells, cellsC, Im, Row, El, Nat.zero_add, Nat.reduceAdd] at hc) | skip); (try simp only [Act.put, List.setIfInBounds_toArray, List.set_cons_succ, List.set_cons_zero])
                    have hc := S.cells; simp only [Cells, cellsC, Im, Row, El, Nat.zero_add, Nat.reduceAdd] at hc
                    refine mix_cons rfl rfl rfl ?_
                    simp only [opsAt, List.getD_cons_succ, List.getD_cons_zero]
                    repeat (go_big_quiet_step ((intro hC; first | rfl | (go_simp; first | done | rfl))))
                    refine wpQuiet_nil ?_
                    repeat (go_big_quiet_step ((intro hC; first | rfl | (go_simp; first | done | rfl))))
                    refine wpQuiet_nil ?_
                    go_wp2_with (first | ((first | (with_reducible refine mx_seal S ?_) | (with_reducible refine wpl_seal S ?_) | (with_reducible refine ca_seal S ?_)); clear S; (try clear hc); intro w1 S; (try simp only [List.set_cons_zero, List.set_cons_succ, List.nil_append] at S); have hc := S.cells; simp only [Cells, cellsC, Im, Row, El, Nat.zero_add, Nat.reduceAdd] at hc))
                    (first | refine ⟨(fun h => by cases h), ?_⟩ | skip); (first | ((first | (with_reducible refine mx_seal S ?_)); clear S; (try clear hc); intro w1 S; (try simp only [List.set_cons_zero, List.set_cons_succ, List.nil_append] at S); have hc := S.cells; simp only [Cells, cellsC, Im, Row, El, Nat.zero_add, Nat.reduceAdd] at hc) | skip); (try simp only [Act.put, List.setIfInBounds_toArray, List.set_cons_succ, List.set_cons_zero])
                    refine mix_cons rfl rfl rfl ?_
                    simp only [opsAt, List.getD_cons_succ, List.getD_cons_zero]
                    repeat (go_big_quiet_step ((intro hC; first | rfl | (go_simp; first | done | rfl))))
                    refine wpQuiet_nil ?_
                    repeat (go_big_quiet_step ((intro hC; first | rfl | (go_simp; first | done | rfl))))
                    refine wpQuiet_nil ?_
                    go_wp2_with (first | ((first | (with_reducible refine mx_seal S ?_) | (with_reducible refine wpl_seal S ?_) | (with_reducible refine ca_seal S ?_)); clear S; (try clear hc); intro w1 S; (try simp only [List.set_cons_zero, List.set_cons_succ, List.nil_append] at S); have hc := S.cells; simp only [Cells, cellsC, Im, Row, El, Nat.zero_add, Nat.reduceAdd] at hc))
                    (first | refine ⟨(fun h => by cases h), ?_⟩ | skip); (first | ((first | (with_reducible refine mx_seal S ?_)); clear S; (try clear hc); intro w1 S; (try simp only [List.set_cons_zero, List.set_cons_succ, List.nil_append] at S); have hc := S.cells; simp only [Cells, cellsC, Im, Row, El, Nat.zero_add, Nat.reduceAdd] at hc) | skip); (try simp only [Act.put, List.setIfInBounds_toArray, List.set_cons_succ, List.set_cons_zero])
                    refine mix_cons rfl rfl rfl ?_
                    simp only [opsAt, List.getD_cons_succ, List.getD_cons_zero]
                    repeat (go_big_quiet_step ((intro hC; first | rfl | (go_simp; first | done | rfl))))
                    refine wpQuiet_nil ?_
                    repeat (go_big_quiet_step ((intro hC; first | rfl | (go_simp; first | done | rfl))))
                    refine wpQuiet_nil ?_
                    go_wp2_with (first | ((first | (with_reducible refine mx_seal S ?_) | (with_reducible refine wpl_seal S ?_) | (with_reducible refine ca_seal S ?_)); clear S; (try clear hc); intro w1 S; (try simp only [List.set_cons_zero, List.set_cons_succ, List.nil_append] at S); have hc := S.cells; simp only [Cells, cellsC, Im, Row, El, Nat.zero_add, Nat.reduceAdd] at hc))
                    (first | refine ⟨(fun h => by cases h), ?_⟩ | skip); (first | ((first | (with_reducible refine mx_seal S ?_)); clear S; (try clear hc); intro w1 S; (try simp only [List.set_cons_zero, List.set_cons_succ, List.nil_append] at S); have hc := S.cells; simp only [Cells, cellsC, Im, Row, El, Nat.zero_add, Nat.reduceAdd] at hc) | skip); (try simp only [Act.put, List.setIfInBounds_toArray, List.set_cons_succ, List.set_cons_zero])
                    refine mix_last rfl ?_
                    simp only [opsAt, List.getD_cons_succ, List.getD_cons_zero]
                    repeat (go_big_quiet_step ((intro hC; first | rfl | (go_simp; first | done | rfl))))
                    refine wpQuiet_nil ?_
                    simp only [calmQ]
                    obtain ⟨Ar, cr, I2, e3, hcr, S2, -⟩ := S.frow 1 rfl
                    rw [Value.slice.injEq] at e3
                    obtain ⟨rfl, -, rfl⟩ := e3
                    clear S
                    have S := S2
                    clear S2
                    simp only [List.set_cons_zero, List.set_cons_succ, List.nil_append] at S
                    have hc := S.cells; simp only [Cells, cellsC, Im, Row, El, Nat.zero_add, Nat.reduceAdd] at hc
                    go_wp2_with (first | ((first | (with_reducible refine wpl_seal S ?_) | (with_reducible refine cw_seal S ?_) | (with_reducible refine bp_seal S ?_) | (with_reducible refine ca_seal S ?_)); clear S; (try clear hc); intro w1 S; (try simp only [List.set_cons_zero, List.set_cons_succ, List.nil_append] at S); have hc := S.cells; simp only [Cells, cellsC, Im, Row, El, Nat.zero_add, Nat.reduceAdd] at hc))
                    obtain ⟨rfl, rfl, rfl⟩ := HX.out
                    refine bodyPost_ret (results_tmp2 rfl _ _ _) rfl ?_
                    have HLA : As (L.length + 1 = (L ++ [(⟨⟨c, m, ⟨a, bb, l⟩⟩, st, ws⟩ : Tm)]).length) := ⟨by simp⟩
                    rw [HLA.out] at S
                    exact ⟨by first | rfl | simp, (S.dClose 11 rfl hcr hc11 (S.im 1 rfl) (S.im 4 rfl)).retU 11 rfl⟩
                  · have hc := S.cells; simp only [Cells, cellsC, Im, Row, El, Nat.zero_add, Nat.reduceAdd] at hc
                    go_wp2_with (first | ((first | (with_reducible refine mx_seal S ?_) | (with_reducible refine wpl_seal S ?_) | (with_reducible refine ca_seal S ?_)); clear S; (try clear hc); intro w1 S; (try simp only [List.set_cons_zero, List.set_cons_succ, List.nil_append] at S); have hc := S.cells; simp only [Cells, cellsC, Im, Row, El, Nat.zero_add, Nat.reduceAdd] at hc))
                    refine ⟨Ext.alloc _ _, ?_⟩
                    (first | refine ⟨(fun h => by cases h), ?_⟩ | skip); (first | ((first | (with_reducible refine mx_seal S ?_)); clear S; (try clear hc); intro w1 S; (try simp only [List.set_cons_zero, List.set_cons_succ, List.nil_append] at S); have hc := S.cells; simp only [Cells, cellsC, Im, Row, El, Nat.zero_add, Nat.reduceAdd] at hc) | skip); (try simp only [Act.put, List.setIfInBounds_toArray, List.set_cons_succ, List.set_cons_zero])
                    refine mix_cons rfl rfl rfl ?_
                    simp only [opsAt, List.getD_cons_succ, List.getD_cons_zero]
                    repeat (go_big_quiet_step ((intro hC; first | rfl | (go_simp; first | done | rfl))))
                    refine wpQuiet_nil ?_
                    repeat (go_big_quiet_step ((intro hC; first | rfl | (go_simp; first | done | rfl))))
                    refine wpQuiet_nil ?_
                    go_wp2_with (first | ((first | (with_reducible refine mx_seal S ?_) | (with_reducible refine wpl_seal S ?_) | (with_reducible refine ca_seal S ?_)); clear S; (try clear hc); intro w1 S; (try simp only [List.set_cons_zero, List.set_cons_succ, List.nil_append] at S); have hc := S.cells; simp only [Cells, cellsC, Im, Row, El, Nat.zero_add, Nat.reduceAdd] at hc) | (go_at_call 30; refine (cloneT_c L A9 c9 _ _ S.bd (S.im 8 rfl) (by omega)).mono ?_; rintro e w1 ⟨v, rfl, hu⟩; have hxf := hu.ext; obtain ⟨I1, S1, hI1⟩ := S.new hu; clear S hu hI1; (try clear hc); have S := S1; clear S1; have hc := S.cells; simp only [Cells, cellsC, Im, Row, El, Nat.zero_add, Nat.reduceAdd] at hc; have hc := S.cells; simp only [Cells, cellsC, Im, Row, El, Nat.zero_add, Nat.reduceAdd] at hc))
                    refine ⟨fun _ => hxf, ?_⟩
                    replace S := ((S.sel [1, 0, 2, 3, 4, 5, 6, 7, 8, 9, 10, 11] (by decide) rfl (by simp) : SH _ _ _ [_, _, _, _, _, _, _, _, _, _, _, _] _ _) : SH _ _ _ [_, _, _, _, _, _, _, _, _, _, _, _] _ _)
                    refine mix_cons rfl rfl rfl ?_
                    simp only [opsAt, List.getD_cons_succ, List.getD_cons_zero]
                    repeat (go_big_quiet_step ((intro hC; first | rfl | (go_simp; first | done | rfl))))
                    refine wpQuiet_nil ?_
                    repeat (go_big_quiet_step ((intro hC; first | rfl | (go_simp; first | done | rfl))))
                    refine wpQuiet_nil ?_
                    go_wp2_with (first | ((first | (with_reducible refine mx_seal S ?_) | (with_reducible refine wpl_seal S ?_) | (with_reducible refine ca_seal S ?_)); clear S; (try clear hc); intro w1 S; (try simp only [List.set_cons_zero, List.set_cons_succ, List.nil_append] at S); have hc := S.cells; simp only [Cells, cellsC, Im, Row, El, Nat.zero_add, Nat.reduceAdd] at hc) | (at_builtin; refine wpl_push S 1 rfl rfl _ _ rfl ty_tmps rfl (⟨⟨c, m, ⟨a, bb, l⟩⟩, st, ws⟩ : Tm) _ _ rfl [.int .i64 c, .int .i64 m, .int .i64 a, .int .i64 bb, .slice Ac l.length cc, .slice Ast st.length cs, .slice Aw ws.length cw] _ (S.cel 0 rfl) (⟨Ac, cc, Ast, cs, Aw, cw, rfl, ⟨hcc, S.im 8 rfl⟩, ⟨hcs, S.im 7 rfl⟩, hcw, S.im 2 rfl⟩) (by (try simp only [maxLen, List.length_nil, List.length_append, List.length_cons]); omega) (by (try simp only [maxLen, List.length_nil, List.length_append, List.length_cons]); omega) ?_; clear S; (try clear hc); intro va w1 S; simp only [List.set_cons_zero, List.set_cons_succ, List.nil_append] at S; have hc := S.cells; simp only [Cells, cellsC, Im, Row, El, Nat.zero_add, Nat.reduceAdd] at hc))
                    obtain ⟨Av, cv, eva, hcv, -⟩ := S.row 1 rfl
                    subst eva
                    (first | refine ⟨(fun h => by cases h), ?_⟩ | skip); (first | ((first | (with_reducible refine mx_seal S ?_)); clear S; (try clear hc); intro w1 S; (try simp only [List.set_cons_zero, List.set_cons_succ, List.nil_append] at S); have hc := S.cells; simp only [Cells, cellsC, Im, Row, El, Nat.zero_add, Nat.reduceAdd] at hc) | skip); (try simp only [Act.put, List.setIfInBounds_toArray, List.set_cons_succ, List.set_cons_zero])
                    have hc := S.cells; simp only [Cells, cellsC, Im, Row, El, Nat.zero_add, Nat.reduceAdd] at hc
                    refine mix_cons rfl rfl rfl ?_
                    simp only [opsAt, List.getD_cons_succ, List.getD_cons_zero]
                    repeat (go_big_quiet_step ((intro hC; first | rfl | (go_simp; first | done | rfl))))
                    refine wpQuiet_nil ?_
                    repeat (go_big_quiet_step ((intro hC; first | rfl | (go_simp; first | done | rfl))))
                    refine wpQuiet_nil ?_
                    go_wp2_with (first | ((first | (with_reducible refine mx_seal S ?_) | (with_reducible refine wpl_seal S ?_) | (with_reducible refine ca_seal S ?_)); clear S; (try clear hc); intro w1 S; (try simp only [List.set_cons_zero, List.set_cons_succ, List.nil_append] at S); have hc := S.cells; simp only [Cells, cellsC, Im, Row, El, Nat.zero_add, Nat.reduceAdd] at hc))
                    (first | refine ⟨(fun h => by cases h), ?_⟩ | skip); (first | ((first | (with_reducible refine mx_seal S ?_)); clear S; (try clear hc); intro w1 S; (try simp only [List.set_cons_zero, List.set_cons_succ, List.nil_append] at S); have hc := S.cells; simp only [Cells, cellsC, Im, Row, El, Nat.zero_add, Nat.reduceAdd] at hc) | skip); (try simp only [Act.put, List.setIfInBounds_toArray, List.set_cons_succ, List.set_cons_zero])
                    refine mix_cons rfl rfl rfl ?_
                    simp only [opsAt, List.getD_cons_succ, List.getD_cons_zero]
                    repeat (go_big_quiet_step ((intro hC; first | rfl | (go_simp; first | done | rfl))))
                    refine wpQuiet_nil ?_
                    repeat (go_big_quiet_step ((intro hC; first | rfl | (go_simp; first | done | rfl))))
                    refine wpQuiet_nil ?_
                    go_wp2_with (first | ((first | (with_reducible refine mx_seal S ?_) | (with_reducible refine wpl_seal S ?_) | (with_reducible refine ca_seal S ?_)); clear S; (try clear hc); intro w1 S; (try simp only [List.set_cons_zero, List.set_cons_succ, List.nil_append] at S); have hc := S.cells; simp only [Cells, cellsC, Im, Row, El, Nat.zero_add, Nat.reduceAdd] at hc))
                    (first | refine ⟨(fun h => by cases h), ?_⟩ | skip); (first | ((first | (with_reducible refine mx_seal S ?_)); clear S; (try clear hc); intro w1 S; (try simp only [List.set_cons_zero, List.set_cons_succ, List.nil_append] at S); have hc := S.cells; simp only [Cells, cellsC, Im, Row, El, Nat.zero_add, Nat.reduceAdd] at hc) | skip); (try simp only [Act.put, List.setIfInBounds_toArray, List.set_cons_succ, List.set_cons_zero])
                    refine mix_cons rfl rfl rfl ?_
                    simp only [opsAt, List.getD_cons_succ, List.getD_cons_zero]
                    repeat (go_big_quiet_step ((intro hC; first | rfl | (go_simp; first | done | rfl))))
                    refine wpQuiet_nil ?_
                    repeat (go_big_quiet_step ((intro hC; first | rfl | (go_simp; first | done | rfl))))
                    refine wpQuiet_nil ?_
                    go_wp2_with (first | ((first | (with_reducible refine mx_seal S ?_) | (with_reducible refine wpl_seal S ?_) | (with_reducible refine ca_seal S ?_)); clear S; (try clear hc); intro w1 S; (try simp only [List.set_cons_zero, List.set_cons_succ, List.nil_append] at S); have hc := S.cells; simp only [Cells, cellsC, Im, Row, El, Nat.zero_add, Nat.reduceAdd] at hc))
                    (first | refine ⟨(fun h => by cases h), ?_⟩ | skip); (first | ((first | (with_reducible refine mx_seal S ?_)); clear S; (try clear hc); intro w1 S; (try simp only [List.set_cons_zero, List.set_cons_succ, List.nil_append] at S); have hc := S.cells; simp only [Cells, cellsC, Im, Row, El, Nat.zero_add, Nat.reduceAdd] at hc) | skip); (try simp only [Act.put, List.setIfInBounds_toArray, List.set_cons_succ, List.set_cons_zero])
                    refine mix_last rfl ?_
                    simp only [opsAt, List.getD_cons_succ, List.getD_cons_zero]
                    repeat (go_big_quiet_step ((intro hC; first | rfl | (go_simp; first | done | rfl))))
                    refine wpQuiet_nil ?_
                    simp only [calmQ]
                    obtain ⟨Ar, cr, I2, e3, hcr, S2, -⟩ := S.frow 1 rfl
                    rw [Value.slice.injEq] at e3
                    obtain ⟨rfl, -, rfl⟩ := e3
                    clear S
                    have S := S2
                    clear S2
                    simp only [List.set_cons_zero, List.set_cons_succ, List.nil_append] at S
                    have hc := S.cells; simp only [Cells, cellsC, Im, Row, El, Nat.zero_add, Nat.reduceAdd] at hc
                    go_wp2_with (first | ((first | (with_reducible refine wpl_seal S ?_) | (with_reducible refine cw_seal S ?_) | (with_reducible refine bp_seal S ?_) | (with_reducible refine ca_seal S ?_)); clear S; (try clear hc); intro w1 S; (try simp only [List.set_cons_zero, List.set_cons_succ, List.nil_append] at S); have hc := S.cells; simp only [Cells, cellsC, Im, Row, El, Nat.zero_add, Nat.reduceAdd] at hc))
                    obtain ⟨rfl, rfl, rfl⟩ := HX.out
                    refine bodyPost_ret (results_tmp2 rfl _ _ _) rfl ?_
                    have HLA : As (L.length + 1 = (L ++ [(⟨⟨c, m, ⟨a, bb, l⟩⟩, st, ws⟩ : Tm)]).length) := ⟨by simp⟩
                    rw [HLA.out] at S
                    exact ⟨by first | rfl | simp, (S.dClose 11 rfl hcr hc11 (S.im 1 rfl) (S.im 4 rfl)).retU 11 rfl⟩
      · have HX : As (D' = ⟨L, V, ar⟩ ∧ k = -1 ∧ er = 4) := ⟨by
          have h := HR.out
          rw [if_pos ⟨rfl, rfl⟩, if_pos (of_decide_eq_true HNG.out)] at h
          obtain ⟨h1, h2⟩ := Prod.mk.inj h
          obtain ⟨h2, h3⟩ := Prod.mk.inj h2
          exact ⟨h1.symm, h2.symm, h3.symm⟩⟩
        obtain ⟨rfl, rfl, rfl⟩ := HX.out
        clear HR HX H3
        obtain ⟨c, m, a, bb, l⟩ := p
        dsimp only [picV] at *
        have hc := S.cells; simp only [Cells, cellsC, Im, Row, El, Nat.zero_add, Nat.reduceAdd] at hc
        go_enter Tryz.func8, Tryz.ntmps8
        go_wp2_with (first | ((first | (with_reducible refine wpl_seal S ?_) | (with_reducible refine cw_seal S ?_) | (with_reducible refine bp_seal S ?_) | (with_reducible refine ca_seal S ?_)); clear S; (try clear hc); intro w1 S; (try simp only [List.set_cons_zero, List.set_cons_succ, List.nil_append] at S); have hc := S.cells; simp only [Cells, cellsC, Im, Row, El, Nat.zero_add, Nat.reduceAdd] at hc) | (go_at_call 19; refine (H1.out n _ _ S.bd (S.im 4 rfl)).mono ?_; rintro e w1 ⟨rfl, hx⟩; replace S := S.ext hx; clear hx; (try clear hc); have hc := S.cells; simp only [Cells, cellsC, Im, Row, El, Nat.zero_add, Nat.reduceAdd] at hc) | (go_at_call 20; refine (may_c ts B d _ _ S.bd (S.im 3 rfl) hd (by omega) H2.out).mono ?_; rintro e w1 ⟨rfl, hx⟩; replace S := S.ext hx; clear hx; (try clear hc); have hc := S.cells; simp only [Cells, cellsC, Im, Row, El, Nat.zero_add, Nat.reduceAdd] at hc) | (go_at_call 21; refine (clone_c ⟨c, m, a, bb, l⟩ A n _ _ S.bd (S.im 4 rfl) hn).mono ?_; rintro e w1 ⟨Ac, cc, rfl, hcc, hu⟩; obtain ⟨I1, S1, hI1⟩ := S.new hu; clear S hu hI1; (try clear hc); have S := S1; clear S1; have hc := S.cells; simp only [Cells, cellsC, Im, Row, El, Nat.zero_add, Nat.reduceAdd] at hc; have hc := S.cells; simp only [Cells, cellsC, Im, Row, El, Nat.zero_add, Nat.reduceAdd] at hc) | (go_at_call 23; refine (values_c B ts.length d _ _ S.bd).mono ?_; rintro e w1 ⟨gv, rfl, hu⟩; obtain ⟨I1, S1, hI1⟩ := S.new hu; clear S hu hI1; (try clear hc); have S := S1; clear S1; have hc := S.cells; simp only [Cells, cellsC, Im, Row, El, Nat.zero_add, Nat.reduceAdd] at hc; obtain ⟨J, S9, -⟩ := S.lit 0 rfl (k := kII) (xs := [ts]) (Flat.single ⟨B, d, rfl, hd, S.im 5 rfl⟩); clear S hc; have S := S9; clear S9; simp only [List.set_cons_zero, List.set_cons_succ, List.nil_append] at S) | (go_at_call 22; refine (sorted_c ts gv _ _ S.bd (S.im 0 rfl) (by omega)).mono ?_; rw [HST.out]; rintro e w1 ⟨v, rfl, hu⟩; obtain ⟨I1, S1, hI1⟩ := S.new hu; clear S hu hI1; (try clear hc); have S := S1; clear S1; have hc := S.cells; simp only [Cells, cellsC, Im, Row, El, Nat.zero_add, Nat.reduceAdd] at hc; obtain ⟨Ast, cs, I1, e1, hcs, S1, hI1⟩ := S.frow 0 rfl; subst e1; clear S hI1; have S := S1; clear S1; simp only [List.set_cons_zero, List.set_cons_succ, List.nil_append] at S; have hc := S.cells; simp only [Cells, cellsC, Im, Row, El, Nat.zero_add, Nat.reduceAdd] at hc) | (go_at_call 24; refine (orbit_c ⟨a, bb, l⟩ st A Ast n cs _ _ S.bd (S.im 8 rfl) (S.im 1 rfl) HMX.out hn hstl HIN.out HOR.out).mono ?_; rintro e w1 ⟨A1, c1, A2, c2, J3, rfl, hc1, hc2, S3⟩; obtain ⟨J4, S4, -, -⟩ := S.comp S3; clear S S3; have S := S4; clear S4; simp only [List.cons_append, List.nil_append] at S; have hc := S.cells; simp only [Cells, cellsC, Im, Row, El, Nat.zero_add, Nat.reduceAdd] at hc) | (go_at_call 25; refine (contI_c whr (-1) A2 c2 _ _ (S.im 1 rfl) hwl HNG.out).mono ?_; rintro e w1 ⟨rfl, rfl⟩))
        refine bodyPost_ret (results_tmp2 rfl _ _ _) rfl ?_
        exact ⟨rfl, (S.dClose 11 rfl h9 h8 (S.im 7 rfl) (S.im 8 rfl)).retU 11 rfl⟩
end
end Go.Proofs.YtnmlonicfncpfaaGreat
