/- ReportSums: the law's walk. -/
import Derived.Test.YteaekpnmiicbhaaPSumW
import Derived.Test.YteaekpnmiicbhaaPROf
import Derived.Test.YteaekpnmiicbhaaPOf
import Derived.Test.YteaekpnmiicbhaaPLiv
namespace Go.Proofs.Yteaekpnmiicbhaa
open Go.RowKit Go.WideMaps X
set_option maxHeartbeats 4000000
set_option maxRecDepth 8000
set_option linter.unusedSimpArgs false
set_option linter.unusedVariables false
theorem ks_at {f : Key → Int} {w : World} {D : Nat → Prop} {A : Option Addr} {xs : List Key} (h : Sl (kSf f) w D A xs) {i : Nat} (hi : i < xs.length) :
    ∃ b o, A = some ⟨b, o, none⟩ ∧ w.cell? ⟨b, o + i * 3, none⟩ = some (.int .i64 xs[i].1) ∧ w.cell? ⟨b, o + i * 3 + 1, none⟩ = some (.int .i64 xs[i].2) ∧ w.cell? ⟨b, o + i * 3 + 2, none⟩ = some (.int .i64 (f xs[i])) := by
  obtain ⟨b, o, cs, rfl, hb, hd, rfl, hl, hc⟩ := h i hi
  exact ⟨b, o, rfl, hc 0 _ rfl, hc 1 _ rfl, hc 2 _ rfl⟩
theorem ks_get {f : Key → Int} {w : World} {D : Nat → Prop} {b o : Nat} {xs : List Key} (h : Sl (kSf f) w D (some ⟨b, o, none⟩) xs) {i : Nat} {k : Key} (hi : xs[i]? = some k) :
    w.cell? ⟨b, o + i * 3, none⟩ = some (.int .i64 k.1) ∧ w.cell? ⟨b, o + i * 3 + 1, none⟩ = some (.int .i64 k.2) ∧ w.cell? ⟨b, o + i * 3 + 2, none⟩ = some (.int .i64 (f k)) := by
  obtain ⟨hl, rfl⟩ := List.getElem?_eq_some_iff.1 hi
  obtain ⟨b', o', e, g⟩ := ks_at h hl
  cases e
  exact g
/-- a key's records -/
theorem count_keys {raw : List R5} {j : Nat} (h : j < raw.length) (k : Key) : (keysR (raw.take (j + 1))).count k = (keysR (raw.take j)).count k + if keyR raw[j] = k then 1 else 0 := by
  unfold keysR
  rw [List.take_succ_eq_append_getElem h, List.map_append, List.count_append]
  simp only [List.map_cons, List.map_nil, List.count_singleton, beq_iff_eq]
theorem ss_mem {L : List Pr} {k : Key} (h : k ∈ sortS (firsts L)) : 0 < L.count k := List.count_pos_iff.2 ((firsts_mem L k).1 ((sortS_perm _).mem_iff.1 h))
theorem ss_strict (L : List Pr) : (sortS (firsts L)).Pairwise fun x y => cmpS x y < 0 := by
  have h1 := sortS_srt (firsts L)
  have h2 : (sortS (firsts L)).Nodup := (sortS_perm _).nodup_iff.2 (firsts_nodup L)
  refine (h1.and h2).imp fun {a b} h => ?_
  rcases Int.lt_or_eq_of_le h.1 with h3 | h3
  · exact h3
  · exact (h.2 (cmpS_zero h3)).elim
theorem ss_ord {L : List Pr} {i : Nat} {a b : Key} (h1 : (sortS (firsts L))[i]? = some a) (h2 : (sortS (firsts L))[i + 1]? = some b) : cmpS a b < 0 := by
  obtain ⟨g1, rfl⟩ := List.getElem?_eq_some_iff.1 h1
  obtain ⟨g2, rfl⟩ := List.getElem?_eq_some_iff.1 h2
  exact List.pairwise_iff_getElem.1 (ss_strict L) i (i + 1) g1 g2 (by omega)
theorem ord_a {a0 a1 b0 b1 : Int} (h : cmpS (a0, a1) (b0, b1) < 0) : ¬ b0 < a0 := by
  intro hlt
  simp only [cmpS, keyL, cmpL, Lib.compareInt] at h
  repeat' split at h
  all_goals omega
theorem ord_b {a0 a1 b0 b1 : Int} (h : cmpS (a0, a1) (b0, b1) < 0) (he : b0 = a0) : ¬ b1 ≤ a1 := by
  intro hle
  subst he
  simp only [cmpS, keyL, cmpL, Lib.compareInt] at h
  repeat' split at h
  all_goals omega
theorem tot_le {L : List Pr} {ss : List Key} (h : L.length ≤ 6) (hs : ss.length ≤ 6) (i : Nat) : ((ss.take i).map fun k => L.count k).sum ≤ 1000 := by
  have : ∀ (l : List Key), (l.map fun k => L.count k).sum ≤ l.length * 6 := fun l => by
    induction l with
    | nil => simp
    | cons a r ih =>
      have := Nat.le_trans (List.count_le_length (a := a) (l := L)) h
      rw [List.map_cons, List.sum_cons, List.length_cons]
      omega
  have h2 := this (ss.take i)
  rw [List.length_take] at h2
  omega
theorem ind_sum (a : Key) : ∀ (ks : List Key), (ks.map fun k => if a = k then 1 else 0).sum = ks.count a
  | [] => rfl
  | k :: r => by
    rw [List.map_cons, List.sum_cons, ind_sum a r, List.count_cons]
    by_cases h : a = k
    · subst h; simp; omega
    · simp [h, Ne.symm h]
theorem sum_add (f g : Key → Nat) : ∀ (ks : List Key), (ks.map fun k => f k + g k).sum = (ks.map f).sum + (ks.map g).sum
  | [] => rfl
  | k :: r => by
    simp only [List.map_cons, List.sum_cons, sum_add f g r]
    omega
theorem zero_sum : ∀ (ks : List Key), (ks.map fun k => ([] : List Pr).count k).sum = ([] : List Pr).length
  | [] => rfl
  | k :: r => by rw [List.map_cons, List.sum_cons, zero_sum r]; rfl
theorem tot_gen {ks : List Key} (hn : ks.Nodup) : ∀ (L : List Pr), (∀ x ∈ L, x ∈ ks) → (ks.map fun k => L.count k).sum = L.length
  | [], _ => zero_sum ks
  | a :: r, h => by
    have ih := tot_gen hn r fun x hx => h x (List.mem_cons_of_mem _ hx)
    have e : (fun k => (a :: r).count k) = fun k : Key => r.count k + if a = k then 1 else 0 := by
      funext k
      rw [List.count_cons]
      simp
    rw [e, sum_add (fun k => r.count k) (fun k => if a = k then 1 else 0), ih, ind_sum, List.length_cons]
    have h1 := List.nodup_iff_count.1 hn a
    have h2 := List.count_pos_iff.2 (h a (by simp))
    omega
theorem tot_all (L : List Pr) : ((sortS (firsts L)).map fun k => L.count k).sum = L.length :=
  tot_gen ((sortS_perm _).nodup_iff.2 (firsts_nodup L)) L fun x hx => (sortS_perm _).mem_iff.2 ((firsts_mem L x).2 hx)
theorem lsums_c (l : List R5) (lab : Int) (A : Option Addr) (c : Nat) (w : World) (I : Fp) (hI : ∀ b, I b → b < w.heap.size) (hl : Sl kR w I A l) (hc0 : l.length ≤ c) (hok : ∀ x ∈ l, x.ok) :
    Calls Try.prog 5 #[.slice A l.length c, .int .i64 lab] w fun e w' => e = .returned (.bool true) ∧ Ext w w' := by
  have S := ((SH.start w I hI).know (h := Im kR A (few6 l)) (hl.tk 6)).know (h := Im kR A l) hl
  have HOK := As.mk hok
  have hrl := few6_len l
  have HKK : As (∀ x ∈ few6 l, I64 x.i ∧ I64 x.t) := ⟨fun x hx => by
    obtain ⟨h1, -, -, h4, -⟩ := hok x (List.mem_of_mem_take hx)
    exact ⟨h1, h4⟩⟩
  clear hl hok
  obtain ⟨raw, hraw⟩ : ∃ raw, few6 l = raw := ⟨_, rfl⟩
  rw [hraw] at S hrl HKK
  have HRAW := As.mk hraw
  clear hraw
  obtain ⟨L, hL⟩ : ∃ L, keysR raw = L := ⟨_, rfl⟩
  have HL := As.mk hL
  have hLl : L.length ≤ 6 := by rw [← hL]; unfold keysR; rw [List.length_map]; exact hrl
  obtain ⟨ss, hss⟩ : ∃ ss, sortS (firsts L) = ss := ⟨_, rfl⟩
  have HSS := As.mk hss
  have hsl : ss.length ≤ 6 := by rw [← hss, sortS_len]; exact Nat.le_trans (firsts_len L) hLl
  clear hL hss
  have hm1 : True := trivial
  have hc := S.cells; simp only [Cells, cellsC, Im, Row, El, Nat.zero_add, Nat.reduceAdd] at hc
  go_enter Try.func5, Try.ntmps5
  go_wp2_with (first | ((first | (with_reducible refine wpl_seal S ?_) | (with_reducible refine cw_seal S ?_) | (with_reducible refine bp_seal S ?_) | (with_reducible refine ca_seal S ?_)); clear S; (try clear hc); intro w1 S; (try simp only [List.set_cons_zero, List.set_cons_succ, List.nil_append] at S); have hc := S.cells; simp only [Cells, cellsC, Im, Row, El, Nat.zero_add, Nat.reduceAdd] at hc) | (go_at_call 8; refine (few_c l A c _ _ S.bd (S.im 0 rfl) hc0 HOK.out).mono ?_; rw [HRAW.out]; rintro e w1 ⟨v, c', rfl, hc', hu⟩; obtain ⟨I1, S1, hI1⟩ := S.new hu; clear S hu hI1; (try clear hc); have S := S1; clear S1; have hc := S.cells; simp only [Cells, cellsC, Im, Row, El, Nat.zero_add, Nat.reduceAdd] at hc; replace S : SH No I w [_] _ _ := S.sel [2] (by decide) rfl (by simp); have hc := S.cells; simp only [Cells, cellsC, Im, Row, El, Nat.zero_add, Nat.reduceAdd] at hc) | (go_at_call 17; refine (of_c raw A c' _ _ S.bd (S.im 0 rfl) (by omega)).mono ?_; rintro e w1 ⟨v1, rfl, hu⟩; obtain ⟨I1, S1, hI1⟩ := S.new hu; clear S hu hI1; (try clear hc); have S := S1; clear S1; have hc := S.cells; simp only [Cells, cellsC, Im, Row, El, Nat.zero_add, Nat.reduceAdd] at hc; obtain ⟨Ao, co, I1, e1, hco, S1, hI1⟩ := S.frow 0 rfl; subst e1; clear S hI1; have S := S1; clear S1; simp only [List.set_cons_zero, List.set_cons_succ, List.nil_append] at S; have hc := S.cells; simp only [Cells, cellsC, Im, Row, El, Nat.zero_add, Nat.reduceAdd] at hc) | (go_at_call 18; refine (sums_c raw Ao co _ _ S.bd (S.im 0 rfl) (by omega) HKK.out).mono ?_; rw [HL.out, HSS.out]; rintro e w1 ⟨v2, rfl, hu⟩; obtain ⟨I1, S1, hI1⟩ := S.new hu; clear S hu hI1; (try clear hc); have S := S1; clear S1; have hc := S.cells; simp only [Cells, cellsC, Im, Row, El, Nat.zero_add, Nat.reduceAdd] at hc; obtain ⟨As1, cs1, I1, e1, hcs1, S1, hI1⟩ := S.frow 0 rfl; subst e1; clear S hI1; have S := S1; clear S1; simp only [List.set_cons_zero, List.set_cons_succ, List.nil_append] at S; have hc := S.cells; simp only [Cells, cellsC, Im, Row, El, Nat.zero_add, Nat.reduceAdd] at hc))
  have S1 : SH No I w [_, _] _ _ := S.sel [0, 2] (by decide) rfl (by simp)
  clear S hc
  go_loopw [8, 9] (fun tv iv w' => ∃ (i : Nat), i ≤ ss.length ∧ iv = .int .i64 i ∧ tv = .int .i64 (((ss.take i).map fun k => L.count k).sum : Nat) ∧ ∃ I', As (SH No I w [Im (kSf fun k => (L.count k : Nat)) As1 ss, Im kR A raw] w' I')) (fun _ iv _ => ss.length - (intOf iv).toNat)
  case atStart => exact ⟨0, by omega, rfl, rfl, _, ⟨S1⟩⟩
  case round =>
    clear S1
    obtain ⟨i, hi, rfl, rfl, I', ⟨S⟩⟩ := hrel
    by_cases hil : i < ss.length
    · have hil' : decide ((i : Int) < ss.length) = true := decide_eq_true (by omega)
      obtain ⟨b, o, rfl, -, -, -⟩ := ks_at (S.im 0 rfl) hil
      obtain ⟨k, hk⟩ : ∃ k, ss[i] = k := ⟨_, rfl⟩
      have HK : As (ss[i]? = some k) := ⟨by rw [List.getElem?_eq_getElem hil, hk]⟩
      clear hk
      have hc := S.cells; simp only [Cells, cellsC, Im, Row, El, Nat.zero_add, Nat.reduceAdd] at hc
      go_wp2_with (first | ((first | (with_reducible refine wpl_seal S ?_) | (with_reducible refine cw_seal S ?_) | (with_reducible refine bp_seal S ?_) | (with_reducible refine ca_seal S ?_)); clear S; (try clear hc); intro w1 S; (try simp only [List.set_cons_zero, List.set_cons_succ, List.nil_append] at S); have hc := S.cells; simp only [Cells, cellsC, Im, Row, El, Nat.zero_add, Nat.reduceAdd] at hc))
      have S1 := S
      clear S hc
      go_loopw [10, 11] (fun nv jv w' => ∃ (j : Nat), j ≤ raw.length ∧ jv = .int .i64 j ∧ nv = .int .i64 ((keysR (raw.take j)).count k : Nat) ∧ ∃ I', As (SH No I w [Im (kSf fun k => (L.count k : Nat)) (some ⟨b, o, none⟩) ss, Im kR A raw] w' I')) (fun _ jv _ => raw.length - (intOf jv).toNat)
      case atStart => exact ⟨0, by omega, rfl, rfl, _, ⟨S1⟩⟩
      case round =>
        clear S1
        obtain ⟨j, hj, rfl, rfl, I', ⟨S⟩⟩ := hrel
        by_cases hjl : j < raw.length
        · have hjl' : decide ((j : Int) < raw.length) = true := decide_eq_true (by omega)
          obtain ⟨b2, o2, rfl, e0, -, -, e3, -⟩ := (S.im 1 rfl).r5_at hjl
          obtain ⟨g0, g1, -⟩ := ks_get (S.im 0 rfl) HK.out
          have HC := As.mk (count_keys hjl k)
          have hcl : (keysR (raw.take j)).count k ≤ 6 := Nat.le_trans List.count_le_length (by unfold keysR; rw [List.length_map, List.length_take]; omega)
          generalize raw[j] = x at e0 e3 HC
          generalize (keysR (raw.take j)).count k = n at HC hcl ⊢
          obtain ⟨k0, k1⟩ := k
          dsimp only at g0 g1
          have q0 := ClE.cell (w := wr.drew) e0
          have q3 := ClE.cell (w := wr.drew) e3
          have p0 := ClE.cell (w := wr.drew) g0
          have p1 := ClE.cell (w := wr.drew) g1
          by_cases h1 : x.i = k0
          · have h1' : (x.i == k0) = true := by simpa using h1
            by_cases h2 : x.t = k1
            · have h2' : (x.t == k1) = true := by simpa using h2
              have HC2 : As ((keysR (raw.take (j + 1))).count (k0, k1) = n + 1) := ⟨by rw [HC.out, if_pos (by rw [keyR, h1, h2])]⟩
              clear h1 h2
              have hc := S.cells; simp only [Cells, cellsC, Im, Row, El, Nat.zero_add, Nat.reduceAdd] at hc
              go_wp2_with (first | ((first | (with_reducible refine wpl_seal S ?_) | (with_reducible refine cw_seal S ?_) | (with_reducible refine bp_seal S ?_) | (with_reducible refine ca_seal S ?_)); clear S; (try clear hc); intro w1 S; (try simp only [List.set_cons_zero, List.set_cons_succ, List.nil_append] at S); have hc := S.cells; simp only [Cells, cellsC, Im, Row, El, Nat.zero_add, Nat.reduceAdd] at hc))
              refine wp_region_ext [] [0, 1, 2, 3, 4, 5, 6, 7, 8, 9, 10, 11, 12, 13, 14, 15, 16, 17, 18, 19, 20, 21, 22, 23, 24] (by kernel_rfl) (by kernel_rfl) ?_
              refine mix_last rfl ?_
              simp only [opsAt, List.getD_cons_succ, List.getD_cons_zero]
              repeat (go_big_quiet_step ((intro hC; first | rfl | (go_simp; first | done | rfl))))
              refine wpQuiet_nil ?_
              simp only [calmQ]
              clear q0 q3 p0 p1 e0 e3 g0 g1 hc
              replace S := S.drew
              have hc := S.cells; simp only [Cells, cellsC, Im, Row, El, Nat.zero_add, Nat.reduceAdd] at hc
              go_wp2_with (first | ((first | (with_reducible refine wpl_seal S ?_) | (with_reducible refine cw_seal S ?_) | (with_reducible refine bp_seal S ?_) | (with_reducible refine ca_seal S ?_)); clear S; (try clear hc); intro w1 S; (try simp only [List.set_cons_zero, List.set_cons_succ, List.nil_append] at S); have hc := S.cells; simp only [Cells, cellsC, Im, Row, El, Nat.zero_add, Nat.reduceAdd] at hc))
              go_roundw
              case rel => exact ⟨j + 1, by omega, by go_num, by rw [HC2.out]; go_num, _, ⟨(S.sel [0, 1] (by decide) rfl (by simp) : SH _ _ _ [_, _] _ _)⟩⟩
              case measure => simp [intOf] <;> omega
            · have h2' : (x.t == k1) = false := by simpa using h2
              have HC2 : As ((keysR (raw.take (j + 1))).count (k0, k1) = n) := ⟨by rw [HC.out, if_neg (fun e => h2 (congrArg Prod.snd e)), Nat.add_zero]⟩
              clear h1 h2
              have hc := S.cells; simp only [Cells, cellsC, Im, Row, El, Nat.zero_add, Nat.reduceAdd] at hc
              go_wp2_with (first | ((first | (with_reducible refine wpl_seal S ?_) | (with_reducible refine cw_seal S ?_) | (with_reducible refine bp_seal S ?_) | (with_reducible refine ca_seal S ?_)); clear S; (try clear hc); intro w1 S; (try simp only [List.set_cons_zero, List.set_cons_succ, List.nil_append] at S); have hc := S.cells; simp only [Cells, cellsC, Im, Row, El, Nat.zero_add, Nat.reduceAdd] at hc))
              refine wp_region_ext [] [0, 1, 2, 3, 4, 5, 6, 7, 8, 9, 10, 11, 12, 13, 14, 15, 16, 17, 18, 19, 20, 21, 22, 23, 24] (by kernel_rfl) (by kernel_rfl) ?_
              refine mix_last rfl ?_
              simp only [opsAt, List.getD_cons_succ, List.getD_cons_zero]
              repeat (go_big_quiet_step ((intro hC; first | rfl | (go_simp; first | done | rfl))))
              refine wpQuiet_nil ?_
              simp only [calmQ]
              clear q0 q3 p0 p1 e0 e3 g0 g1 hc
              replace S := S.drew
              have hc := S.cells; simp only [Cells, cellsC, Im, Row, El, Nat.zero_add, Nat.reduceAdd] at hc
              go_wp2_with (first | ((first | (with_reducible refine wpl_seal S ?_) | (with_reducible refine cw_seal S ?_) | (with_reducible refine bp_seal S ?_) | (with_reducible refine ca_seal S ?_)); clear S; (try clear hc); intro w1 S; (try simp only [List.set_cons_zero, List.set_cons_succ, List.nil_append] at S); have hc := S.cells; simp only [Cells, cellsC, Im, Row, El, Nat.zero_add, Nat.reduceAdd] at hc))
              go_roundw
              case rel => exact ⟨j + 1, by omega, by go_num, by rw [HC2.out], _, ⟨(S.sel [0, 1] (by decide) rfl (by simp) : SH _ _ _ [_, _] _ _)⟩⟩
              case measure => simp [intOf] <;> omega
          · have h1' : (x.i == k0) = false := by simpa using h1
            have HC2 : As ((keysR (raw.take (j + 1))).count (k0, k1) = n) := ⟨by rw [HC.out, if_neg (fun e => h1 (congrArg Prod.fst e)), Nat.add_zero]⟩
            clear h1
            have hc := S.cells; simp only [Cells, cellsC, Im, Row, El, Nat.zero_add, Nat.reduceAdd] at hc
            go_wp2_with (first | ((first | (with_reducible refine wpl_seal S ?_) | (with_reducible refine cw_seal S ?_) | (with_reducible refine bp_seal S ?_) | (with_reducible refine ca_seal S ?_)); clear S; (try clear hc); intro w1 S; (try simp only [List.set_cons_zero, List.set_cons_succ, List.nil_append] at S); have hc := S.cells; simp only [Cells, cellsC, Im, Row, El, Nat.zero_add, Nat.reduceAdd] at hc))
            refine wp_region_ext [] [0, 1, 2, 3, 4, 5, 6, 7, 8, 9, 10, 11, 12, 13, 14, 15, 16, 17, 18, 19, 20, 21, 22, 23, 24] (by kernel_rfl) (by kernel_rfl) ?_
            refine mix_last rfl ?_
            simp only [opsAt, List.getD_cons_succ, List.getD_cons_zero]
            repeat (go_big_quiet_step ((intro hC; first | rfl | (go_simp; first | done | rfl))))
            refine wpQuiet_nil ?_
            simp only [calmQ]
            clear q0 q3 p0 p1 e0 e3 g0 g1 hc
            replace S := S.drew
            have hc := S.cells; simp only [Cells, cellsC, Im, Row, El, Nat.zero_add, Nat.reduceAdd] at hc
            go_wp2_with (first | ((first | (with_reducible refine wpl_seal S ?_) | (with_reducible refine cw_seal S ?_) | (with_reducible refine bp_seal S ?_) | (with_reducible refine ca_seal S ?_)); clear S; (try clear hc); intro w1 S; (try simp only [List.set_cons_zero, List.set_cons_succ, List.nil_append] at S); have hc := S.cells; simp only [Cells, cellsC, Im, Row, El, Nat.zero_add, Nat.reduceAdd] at hc))
            go_roundw
            case rel => exact ⟨j + 1, by omega, by go_num, by rw [HC2.out], _, ⟨(S.sel [0, 1] (by decide) rfl (by simp) : SH _ _ _ [_, _] _ _)⟩⟩
            case measure => simp [intOf] <;> omega
        · have hjl' : decide ((j : Int) < raw.length) = false := decide_eq_false (by omega)
          have hLj : keysR (raw.take j) = L := by rw [List.take_of_length_le (by omega)]; exact HL.out
          rw [hLj]
          have hcp : 0 < L.count k := ss_mem (by rw [HSS.out]; exact List.mem_of_getElem? HK.out)
          have hcl : L.count k ≤ 6 := Nat.le_trans List.count_le_length hLl
          have hts : ((ss.take i).map fun k => L.count k).sum ≤ 1000 := tot_le hLl hsl i
          have HT : As (((ss.take (i + 1)).map fun k => L.count k).sum = ((ss.take i).map fun k => L.count k).sum + L.count k) := ⟨by
            obtain ⟨h1, h2⟩ := List.getElem?_eq_some_iff.1 HK.out
            rw [List.take_succ_eq_append_getElem h1, h2, List.map_append, List.sum_append]; simp⟩
          obtain ⟨g0, g1, g2⟩ := ks_get (S.im 0 rfl) HK.out
          clear hLj
          obtain ⟨n, hn⟩ : ∃ n, L.count k = n := ⟨_, rfl⟩
          rw [hn] at hcp hcl HT g2 ⊢
          clear hn
          generalize ((ss.take i).map fun k => L.count k).sum = tot at hts HT ⊢
          have hn0 : (n == 0) = false := by simp; omega
          have hn1 : ¬ n = 0 := by omega
          by_cases hi0 : 0 < i
          · have hi0' : decide (0 < i) = true := decide_eq_true hi0
            obtain ⟨i', hi'⟩ : ∃ i', i = i' + 1 := ⟨i - 1, by omega⟩
            have hmax : max ((i : Int) - 1) 0 = (i' : Int) := by omega
            obtain ⟨k', hk'⟩ : ∃ k', ss[i']? = some k' := ⟨_, List.getElem?_eq_getElem (by omega)⟩
            have hord : cmpS k' k < 0 := ss_ord (by rw [HSS.out]; exact hk') (by rw [HSS.out, ← hi']; exact HK.out)
            obtain ⟨f0, f1, -⟩ := ks_get (S.im 0 rfl) hk'
            obtain ⟨k0, k1⟩ := k
            obtain ⟨j0, j1⟩ := k'
            dsimp only at g0 g1 f0 f1
            have hlt1 : decide (k0 < j0) = false := decide_eq_false (ord_a hord)
            have HI := As.mk hi'
            have q0 := ClE.cell (w := wr.drew) f0
            have q1 := ClE.cell (w := wr.drew) f1
            have p0 := ClE.cell (w := wr.drew) g0
            have p1 := ClE.cell (w := wr.drew) g1
            by_cases he : k0 = j0
            · have he' : (k0 == j0) = true := by simpa using he
              have hle : decide (k1 ≤ j1) = false := decide_eq_false (ord_b hord he)
              clear hord he hi' hk' hi0
              have hc := S.cells; simp only [Cells, cellsC, Im, Row, El, Nat.zero_add, Nat.reduceAdd] at hc
              go_wp2_with (first | ((first | (with_reducible refine wpl_seal S ?_) | (with_reducible refine cw_seal S ?_) | (with_reducible refine bp_seal S ?_) | (with_reducible refine ca_seal S ?_)); clear S; (try clear hc); intro w1 S; (try simp only [List.set_cons_zero, List.set_cons_succ, List.nil_append] at S); have hc := S.cells; simp only [Cells, cellsC, Im, Row, El, Nat.zero_add, Nat.reduceAdd] at hc))
              refine wp_region_ext [] [0, 1, 2, 3, 4, 5, 6, 7, 8, 9, 10, 11, 12, 13, 14, 15, 16, 17, 18, 19, 20, 21, 22, 23, 24, 25, 26, 27, 28, 29, 30, 31, 32, 33, 34, 35, 36, 37, 38, 39, 40, 41, 42, 43, 44, 45, 46] (by kernel_rfl) (by kernel_rfl) ?_
              refine mix_last rfl ?_
              simp only [opsAt, List.getD_cons_succ, List.getD_cons_zero]
              repeat (go_big_quiet_step ((intro hC; first | rfl | (go_simp; first | done | rfl))))
              refine wpQuiet_nil ?_
              simp only [calmQ]
              clear q0 q1 p0 p1 f0 f1 g0 g1 g2 hc
              replace S := S.drew
              have hc := S.cells; simp only [Cells, cellsC, Im, Row, El, Nat.zero_add, Nat.reduceAdd] at hc
              go_wp2_with (first | ((first | (with_reducible refine wpl_seal S ?_) | (with_reducible refine cw_seal S ?_) | (with_reducible refine bp_seal S ?_) | (with_reducible refine ca_seal S ?_)); clear S; (try clear hc); intro w1 S; (try simp only [List.set_cons_zero, List.set_cons_succ, List.nil_append] at S); have hc := S.cells; simp only [Cells, cellsC, Im, Row, El, Nat.zero_add, Nat.reduceAdd] at hc))
              go_roundw
              case rel => exact ⟨i + 1, by omega, by go_num, by rw [HT.out]; go_num, _, ⟨(S.sel [0, 1] (by decide) rfl (by simp) : SH _ _ _ [_, _] _ _)⟩⟩
              case measure => simp [intOf] <;> omega
            · have he' : (k0 == j0) = false := by simpa using he
              clear hord he hi' hk' hi0
              have hc := S.cells; simp only [Cells, cellsC, Im, Row, El, Nat.zero_add, Nat.reduceAdd] at hc
              go_wp2_with (first | ((first | (with_reducible refine wpl_seal S ?_) | (with_reducible refine cw_seal S ?_) | (with_reducible refine bp_seal S ?_) | (with_reducible refine ca_seal S ?_)); clear S; (try clear hc); intro w1 S; (try simp only [List.set_cons_zero, List.set_cons_succ, List.nil_append] at S); have hc := S.cells; simp only [Cells, cellsC, Im, Row, El, Nat.zero_add, Nat.reduceAdd] at hc))
              refine wp_region_ext [] [0, 1, 2, 3, 4, 5, 6, 7, 8, 9, 10, 11, 12, 13, 14, 15, 16, 17, 18, 19, 20, 21, 22, 23, 24, 25, 26, 27, 28, 29, 30, 31, 32, 33, 34, 35, 36, 37, 38, 39, 40, 41, 42, 43, 44, 45, 46] (by kernel_rfl) (by kernel_rfl) ?_
              refine mix_last rfl ?_
              simp only [opsAt, List.getD_cons_succ, List.getD_cons_zero]
              repeat (go_big_quiet_step ((intro hC; first | rfl | (go_simp; first | done | rfl))))
              refine wpQuiet_nil ?_
              simp only [calmQ]
              clear q0 q1 p0 p1 f0 f1 g0 g1 g2 hc
              replace S := S.drew
              have hc := S.cells; simp only [Cells, cellsC, Im, Row, El, Nat.zero_add, Nat.reduceAdd] at hc
              go_wp2_with (first | ((first | (with_reducible refine wpl_seal S ?_) | (with_reducible refine cw_seal S ?_) | (with_reducible refine bp_seal S ?_) | (with_reducible refine ca_seal S ?_)); clear S; (try clear hc); intro w1 S; (try simp only [List.set_cons_zero, List.set_cons_succ, List.nil_append] at S); have hc := S.cells; simp only [Cells, cellsC, Im, Row, El, Nat.zero_add, Nat.reduceAdd] at hc))
              go_roundw
              case rel => exact ⟨i + 1, by omega, by go_num, by rw [HT.out]; go_num, _, ⟨(S.sel [0, 1] (by decide) rfl (by simp) : SH _ _ _ [_, _] _ _)⟩⟩
              case measure => simp [intOf] <;> omega
          · have hi0' : decide (0 < i) = false := decide_eq_false hi0
            clear hi0
            have hc := S.cells; simp only [Cells, cellsC, Im, Row, El, Nat.zero_add, Nat.reduceAdd] at hc
            go_wp2_with (first | ((first | (with_reducible refine wpl_seal S ?_) | (with_reducible refine cw_seal S ?_) | (with_reducible refine bp_seal S ?_) | (with_reducible refine ca_seal S ?_)); clear S; (try clear hc); intro w1 S; (try simp only [List.set_cons_zero, List.set_cons_succ, List.nil_append] at S); have hc := S.cells; simp only [Cells, cellsC, Im, Row, El, Nat.zero_add, Nat.reduceAdd] at hc))
            refine wp_region_ext [] [0, 1, 2, 3, 4, 5, 6, 7, 8, 9, 10, 11, 12, 13, 14, 15, 16, 17, 18, 19, 20, 21, 22, 23, 24, 25, 26, 27, 28, 29, 30, 31, 32, 33, 34, 35, 36, 37, 38, 39, 40, 41, 42, 43, 44, 45, 46] (by kernel_rfl) (by kernel_rfl) ?_
            refine mix_last rfl ?_
            simp only [opsAt, List.getD_cons_succ, List.getD_cons_zero]
            repeat (go_big_quiet_step ((intro hC; first | rfl | (go_simp; first | done | rfl))))
            refine wpQuiet_nil ?_
            simp only [calmQ]
            clear g0 g1 g2 hc
            replace S := S.drew
            have hc := S.cells; simp only [Cells, cellsC, Im, Row, El, Nat.zero_add, Nat.reduceAdd] at hc
            go_wp2_with (first | ((first | (with_reducible refine wpl_seal S ?_) | (with_reducible refine cw_seal S ?_) | (with_reducible refine bp_seal S ?_) | (with_reducible refine ca_seal S ?_)); clear S; (try clear hc); intro w1 S; (try simp only [List.set_cons_zero, List.set_cons_succ, List.nil_append] at S); have hc := S.cells; simp only [Cells, cellsC, Im, Row, El, Nat.zero_add, Nat.reduceAdd] at hc))
            go_roundw
            case rel => exact ⟨i + 1, by omega, by go_num, by rw [HT.out]; go_num, _, ⟨(S.sel [0, 1] (by decide) rfl (by simp) : SH _ _ _ [_, _] _ _)⟩⟩
            case measure => simp [intOf] <;> omega
    · have hil' : decide ((i : Int) < ss.length) = false := decide_eq_false (by omega)
      have hre : L.length = raw.length := by rw [← HL.out]; unfold keysR; rw [List.length_map]
      have htot : ((ss.take i).map fun k => L.count k).sum = raw.length := by
        rw [List.take_of_length_le (by omega), ← HSS.out, ← hre]
        exact tot_all L
      rw [htot]
      clear htot hre
      replace S : SH No I w [_] _ _ := S.sel [1] (by decide) rfl (by simp)
      replace S := (S.nilrow (k := kR)).nilrow (k := kP4)
      have hc := S.cells; simp only [Cells, cellsC, Im, Row, El, Nat.zero_add, Nat.reduceAdd] at hc
      go_wp2_with (first | ((first | (with_reducible refine wpl_seal S ?_) | (with_reducible refine cw_seal S ?_) | (with_reducible refine bp_seal S ?_) | (with_reducible refine ca_seal S ?_)); clear S; (try clear hc); intro w1 S; (try simp only [List.set_cons_zero, List.set_cons_succ, List.nil_append] at S); have hc := S.cells; simp only [Cells, cellsC, Im, Row, El, Nat.zero_add, Nat.reduceAdd] at hc))
      have S1 := S
      clear S hc
      go_loopw [12, 13, 14] (fun pv rv jv w' => ∃ (j : Nat), j ≤ raw.length ∧ jv = .int .i64 j ∧ ∃ I', As (SH No I w [Row kP4 pv ((raw.take j).map R5.p4), Row kR rv ((raw.take j).map fun x => recP lab x.p4), Im kR A raw] w' I')) (fun _ _ jv _ => raw.length - (intOf jv).toNat)
      case atStart => exact ⟨0, by omega, rfl, _, ⟨S1⟩⟩
      case round =>
        clear S1
        obtain ⟨j, hj, rfl, I', ⟨S⟩⟩ := hrel
        by_cases hjl : j < raw.length
        · have hjl' : decide ((j : Int) < raw.length) = true := decide_eq_true (by omega)
          obtain ⟨b2, o2, rfl, e0, e1, e2, e3, e4⟩ := (S.im 2 rfl).r5_at hjl
          have HP : As ((raw.take (j + 1)).map R5.p4 = (raw.take j).map R5.p4 ++ [raw[j].p4]) := ⟨by rw [List.take_succ_eq_append_getElem hjl, List.map_append]; rfl⟩
          have HQ : As (((raw.take (j + 1)).map fun x => recP lab x.p4) = ((raw.take j).map fun x => recP lab x.p4) ++ [recP lab raw[j].p4]) := ⟨by rw [List.take_succ_eq_append_getElem hjl, List.map_append]; rfl⟩
          have hpl : ((raw.take j).map R5.p4).length ≤ 1000 := by rw [List.length_map, List.length_take]; omega
          have hql : ((raw.take j).map fun x => recP lab x.p4).length ≤ 1000 := by rw [List.length_map, List.length_take]; omega
          generalize raw[j] = x at e0 e1 e2 e3 e4 HP HQ
          generalize (raw.take j).map R5.p4 = ps at S HP hpl
          generalize ((raw.take j).map fun x => recP lab x.p4) = qs at S HQ hql
          have hm2 : True := trivial
          have hc := S.cells; simp only [Cells, cellsC, Im, Row, El, Nat.zero_add, Nat.reduceAdd] at hc
          go_wp2_with (first | ((first | (with_reducible refine wpl_seal S ?_) | (with_reducible refine cw_seal S ?_) | (with_reducible refine bp_seal S ?_) | (with_reducible refine ca_seal S ?_)); clear S; (try clear hc); intro w1 S; (try simp only [List.set_cons_zero, List.set_cons_succ, List.nil_append] at S); have hc := S.cells; simp only [Cells, cellsC, Im, Row, El, Nat.zero_add, Nat.reduceAdd] at hc) | (clear hm2; (at_builtin; refine wpl_push S 2 rfl rfl _ _ rfl ty_places rfl x.p4 _ _ rfl (P4.cells x.p4) _ (S.cel 0 rfl) rfl (by (try simp only [maxLen, List.length_nil, List.length_append, List.length_cons]); omega) (by (try simp only [maxLen, List.length_nil, List.length_append, List.length_cons]); omega) ?_; clear S; (try clear hc); intro va w1 S; simp only [List.set_cons_zero, List.set_cons_succ, List.nil_append] at S; have hc := S.cells; simp only [Cells, cellsC, Im, Row, El, Nat.zero_add, Nat.reduceAdd] at hc)) | (at_builtin; refine wpl_push S 4 rfl rfl _ _ rfl ty_r5s rfl (recP lab x.p4) _ _ rfl (recP lab x.p4).cells _ (S.cel 0 rfl) rfl (by (try simp only [maxLen, List.length_nil, List.length_append, List.length_cons]); omega) (by (try simp only [maxLen, List.length_nil, List.length_append, List.length_cons]); omega) ?_; clear S; (try clear hc); intro va w1 S; simp only [List.set_cons_zero, List.set_cons_succ, List.nil_append] at S; have hc := S.cells; simp only [Cells, cellsC, Im, Row, El, Nat.zero_add, Nat.reduceAdd] at hc))
          go_roundw
          case rel => exact ⟨j + 1, by omega, by go_num, _, ⟨by rw [HP.out, HQ.out]; exact (S.sel [3, 4, 5] (by decide) rfl (by simp) : SH _ _ _ [_, _, _] _ _)⟩⟩
          case measure => simp [intOf] <;> omega
        · have hjl' : decide ((j : Int) < raw.length) = false := decide_eq_false (by omega)
          rw [List.take_of_length_le (show raw.length ≤ j by omega)] at S
          have HM : As ((raw.map R5.p4).map (recP lab) = raw.map fun x => recP lab x.p4) := ⟨by rw [List.map_map]; rfl⟩
          have hpl : (raw.map R5.p4).length ≤ 6 := by rw [List.length_map]; exact hrl
          have hql : (raw.map fun x => recP lab x.p4).length ≤ 6 := by rw [List.length_map]; exact hrl
          generalize raw.map R5.p4 = ps at S HM hpl
          generalize (raw.map fun x => recP lab x.p4) = qs at S HM hql
          obtain ⟨Ap, cp, I1, e1, hcp, S1, hI1⟩ := S.frow 0 rfl; subst e1; clear S hI1; have S := S1; clear S1; simp only [List.set_cons_zero, List.set_cons_succ, List.nil_append] at S
          obtain ⟨Aq, cq, I1, e1, hcq, S1, hI1⟩ := S.frow 1 rfl; subst e1; clear S hI1; have S := S1; clear S1; simp only [List.set_cons_zero, List.set_cons_succ, List.nil_append] at S
          have hc := S.cells; simp only [Cells, cellsC, Im, Row, El, Nat.zero_add, Nat.reduceAdd] at hc
          go_wp2_with (first | ((first | (with_reducible refine wpl_seal S ?_) | (with_reducible refine cw_seal S ?_) | (with_reducible refine bp_seal S ?_) | (with_reducible refine ca_seal S ?_)); clear S; (try clear hc); intro w1 S; (try simp only [List.set_cons_zero, List.set_cons_succ, List.nil_append] at S); have hc := S.cells; simp only [Cells, cellsC, Im, Row, El, Nat.zero_add, Nat.reduceAdd] at hc) | (go_at_call 19; refine (rof_c lab ps Ap cp _ _ S.bd (S.im 0 rfl) (by omega)).mono ?_; rw [HM.out]; rintro e w1 ⟨v3, rfl, hu⟩; obtain ⟨I1, S1, hI1⟩ := S.new hu; clear S hu hI1; (try clear hc); have S := S1; clear S1; have hc := S.cells; simp only [Cells, cellsC, Im, Row, El, Nat.zero_add, Nat.reduceAdd] at hc; obtain ⟨A3, c3, I1, e1, hc3, S1, hI1⟩ := S.frow 0 rfl; subst e1; clear S hI1; have S := S1; clear S1; simp only [List.set_cons_zero, List.set_cons_succ, List.nil_append] at S; have hc := S.cells; simp only [Cells, cellsC, Im, Row, El, Nat.zero_add, Nat.reduceAdd] at hc) | (go_at_call 14; refine (as_c qs A3 c3 _ _ S.bd (S.im 0 rfl) (by omega)).mono ?_; rintro e w1 ⟨v4, rfl, hu⟩; obtain ⟨I1, S1, hI1⟩ := S.new hu; clear S hu hI1; (try clear hc); have S := S1; clear S1; have hc := S.cells; simp only [Cells, cellsC, Im, Row, El, Nat.zero_add, Nat.reduceAdd] at hc; obtain ⟨A4, c4, I1, e1, hc4, S1, hI1⟩ := S.frow 0 rfl; subst e1; clear S hI1; have S := S1; clear S1; simp only [List.set_cons_zero, List.set_cons_succ, List.nil_append] at S; have hc := S.cells; simp only [Cells, cellsC, Im, Row, El, Nat.zero_add, Nat.reduceAdd] at hc) | (go_at_call 13; refine (sameR_c qs qs A4 Aq c4 cq _ _ _ (S.im 0 rfl) (S.im 3 rfl) (by omega)).mono ?_; rw [decide_eq_true rfl]; rintro e w1 ⟨rfl, hx⟩; have hx := hx.ext; replace S := S.ext hx; clear hx; (try clear hc); have hc := S.cells; simp only [Cells, cellsC, Im, Row, El, Nat.zero_add, Nat.reduceAdd] at hc) | (go_at_call 15; refine (plives_c _ _ S.bd).mono ?_; rintro e w1 ⟨rfl, hx⟩; replace S := S.ext hx; clear hx; (try clear hc); have hc := S.cells; simp only [Cells, cellsC, Im, Row, El, Nat.zero_add, Nat.reduceAdd] at hc))
          go_ret
          exact ⟨rfl, S.out⟩
end Go.Proofs.Yteaekpnmiicbhaa
