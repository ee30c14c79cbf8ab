/- A dictionary is added to, its arguments of whatever memory: it keeps nothing of them. -/
import Derived.Test.YtnmlonicfncpfaaGreatDAdd
import Derived.Test.YtnmlonicfncpfaaGreatZTmp
namespace Go.Proofs.YtnmlonicfncpfaaGreat.X
open Go.RowKit
set_option linter.unusedVariables false
section
variable {F0 I0 I : Fp} {w0 w w' : World} {L : List Ob} {h : Ob}
theorem SH.updD (s : SH F0 I0 w0 L w I) (i : Nat) (e : L[i]? = some h) :
    ∃ F, h.sat w F I ∧ (∀ b, F b → b < w.heap.size ∧ (F0 b ∨ w0.heap.size ≤ b) ∧ ¬ I b) ∧ (∀ (j : Nat) (h9 : Ob), j ≠ i → L[j]? = some h9 → ∃ G, h9.sat w G I ∧ ∀ b, G b → b < w.heap.size ∧ ¬ F b) ∧ ∀ w' h', Upd w F I w' h' → ∃ I', SH F0 I0 w0 (L.set i h') w' I' ∧ (∀ b, I b → I' b) := by
  obtain ⟨c, bd, ini, Fs, h1, h2, h3⟩ := s
  refine ⟨Fs i, h1 i h e, h2 i, fun j h9 hji e9 => ⟨Fs j, h1 j h9 e9, fun b hb => ⟨(h2 j b hb).1, fun hb' => h3 j i b hji hb hb'⟩⟩, fun w' h' ⟨F', I', s', f1, f2, f3, g⟩ => ⟨fun b => I b ∨ I' b, ⟨?_, ?_, ?_, fun j => if j = i then F' else Fs j, ?_, ?_, ?_⟩, fun b hb => .inl hb⟩⟩
  · exact c.tr' g fun k hk hf => ((h2 i k hf).2.1.resolve_right (by omega))
  · rintro b (hb | hb)
    · exact Nat.lt_of_lt_of_le (bd b hb) g.size
    · exact (f2 b hb).1
  · rintro b (hb | hb)
    · exact ini b hb
    · rcases (f2 b hb).2 with h4 | h4 | h4
      · exact ini b h4
      · exact .inr (h2 i b h4).2.1
      · exact .inr (.inr (Nat.le_trans c.size h4))
  · intro j hj ej
    by_cases hij : j = i
    · subst hij
      have hl : j < L.length := by
        rcases Nat.lt_or_ge j L.length with hl | hl
        · exact hl
        · rw [List.getElem?_eq_none hl] at e; cases e
      rw [List.getElem?_set_self hl] at ej
      cases ej
      simp only [if_true]
      refine h'.weak s' (fun _ _ hb => hb) (fun _ _ hb => .inr hb) fun b hb hI => ?_
      rcases hI with hI | hI
      · rcases (f1 b hb).2 with hf | hf
        · exact (h2 j b hf).2.2 hI
        · exact absurd (bd b hI) (by omega)
      · exact f3 b hb hI
    · rw [List.getElem?_set_ne (fun e => hij e.symm)] at ej
      simp only [if_neg hij]
      refine hj.weak (hj.keep (h1 j hj ej) fun b hb hF => g.block b hb fun hf => ?_) (fun _ _ hb => hb) (fun _ _ hb => .inl hb) fun b hb hI => ?_
      · rcases hF with hF | hF
        · exact h3 j i b hij hF hf
        · exact (h2 i b hf).2.2 hF
      · rcases hI with hI | hI
        · exact (h2 j b hb).2.2 hI
        · rcases (f2 b hI).2 with h4 | h4 | h4
          · exact (h2 j b hb).2.2 h4
          · exact h3 j i b hij hb h4
          · exact absurd (h2 j b hb).1 (by omega)
  · intro j b
    have key : j ≠ i → ∀ b, (Fs j b → ¬ (I b ∨ I' b)) := fun hij b hb hI => by
      rcases hI with hI | hI
      · exact (h2 j b hb).2.2 hI
      · rcases (f2 b hI).2 with h4 | h4 | h4
        · exact (h2 j b hb).2.2 h4
        · exact h3 j i b hij hb h4
        · exact absurd (h2 j b hb).1 (by omega)
    by_cases hij : j = i
    · simp only [if_pos hij]
      intro hb
      refine ⟨(f1 b hb).1, ?_, ?_⟩
      · rcases (f1 b hb).2 with hf | hf
        · exact (h2 i b hf).2.1
        · exact .inr (Nat.le_trans c.size hf)
      · rintro (hI | hI)
        · rcases (f1 b hb).2 with hf | hf
          · exact (h2 i b hf).2.2 hI
          · exact absurd (bd b hI) (by omega)
        · exact f3 b hb hI
    · simp only [if_neg hij]
      intro hb
      exact ⟨Nat.lt_of_lt_of_le (h2 j b hb).1 g.size, (h2 j b hb).2.1, key hij b hb⟩
  · intro j k b hjk
    by_cases hj : j = i
    · have hk : k ≠ i := fun e => hjk (hj.trans e.symm)
      simp only [if_pos hj, if_neg hk]
      intro hb hb'
      rcases (f1 b hb).2 with hf | hf
      · exact h3 i k b (fun e => hk e.symm) hf hb'
      · exact absurd (h2 k b hb').1 (by omega)
    · by_cases hk : k = i
      · simp only [if_neg hj, if_pos hk]
        intro hb' hb
        rcases (f1 b hb).2 with hf | hf
        · exact h3 i j b (fun e => hj e.symm) hf hb'
        · exact absurd (h2 j b hb').1 (by omega)
      · simp only [if_neg hj, if_neg hk]
        exact h3 j k b hjk
end
/-- a row of numbers holds nothing of what it was made of -/
theorem Upd.flat {e : TypeId} {ik : IntKind} {w w' : World} {D I : Fp} {v : Value} {xs : List Int} (u : Upd w No D w' (Row (Kd.int e ik) v xs)) (hI : ∀ b, I b → b < w.heap.size) : Upd w No I w' (Row (Kd.int e ik) v xs) := by
  obtain ⟨F', I', ⟨⟨cells, ⟨ho, hn⟩, hf⟩, hF⟩, f1, f2, f3, g⟩ := u
  have new : ∀ b, F' b → I b → False := fun b hb hIb => by
    rcases (f1 b hb).2 with h | h
    · exact h
    · exact absurd (hI b hIb) (by omega)
  exact ⟨F', I, ⟨⟨cells, ⟨ho, fun g' hg hIg => new _ (hF _ hg) hIg⟩, hf.imp fun _ _ h => h⟩, hF⟩, f1, fun b hb => ⟨Nat.lt_of_lt_of_le (hI b hb) g.size, .inl hb⟩, new, g⟩
theorem Upd.frow' {α : Type} {k : Kd α} {w w' : World} {I : Fp} {v : Value} {xs : List α} (u : Upd w No I w' (Row k v xs)) (hI : ∀ b, I b → b < w.heap.size) : ∃ A c, v = .slice A xs.length c ∧ xs.length ≤ c ∧ Upd w No I w' (Im k A xs) := by
  obtain ⟨I1, S1, -⟩ := (SH.start w I hI).new u
  obtain ⟨A, c, I2, e, hc, S2, -⟩ := S1.frow 0 rfl
  exact ⟨A, c, e, hc, S2.ret 0 rfl⟩
theorem Sl.ofCel {α : Type} {k : Kd α} {w : World} {D : Fp} {b : Nat} {t : TypeId} {c : List Value} {xs : List α} (hh : w.heap[b]? = some (.cells c.toArray t (0, 0))) (hD : D b) (hf : Flat k w D xs c) : Sl k w D (some ⟨b, 0, none⟩) xs := fun j hj => by
  have hr := hf.2 j hj
  refine ⟨b, 0, _, rfl, lt_of_heap hh, hD, hr, k.len hr, fun m u hm => cell_of_heap hh ?_⟩
  rw [List.getElem?_take] at hm
  split at hm
  · rw [List.getElem?_drop] at hm
    simpa using hm
  · cases hm
end Go.Proofs.YtnmlonicfncpfaaGreat.X
namespace Go.Proofs.YtnmlonicfncpfaaGreat
open Go.RowKit X
set_option maxHeartbeats 4000000
set_option maxRecDepth 8000
set_option linter.unusedSimpArgs false
set_option linter.unusedVariables false
theorem layOk_r (x : Mx) (g : Nat) (hg : g < 8) (A : Option Addr) (n : Nat) (w : World) (I : Fp) (hI : ∀ b, I b → b < w.heap.size) (hl : Sl kP w I A x.l) (hm : mayX x = true) (hn : x.l.length ≤ 1000000) (ho : layOk x g = true) {z : Mx} (hz : layP x g = z) :
    Calls Tryz.prog 55 #[mxV x A n, .int .i64 g] w fun e w' => ∃ B c, e = .returned (.tuple #[mxV z B c, .int .i64 0]) ∧ Upd w No I w' (Row kP (.slice B z.l.length c) z.l) := by
  have S := (SH.start w I hI).know (h := Im kP A x.l) hl
  have HO := As.mk ho
  obtain ⟨⟨m1, m2, m3, m4, m5⟩, m6⟩ := mayX_iff.1 hm
  obtain ⟨o1, o2, o3, o4, o5⟩ := sizedP_iff.1 ho
  clear ho hl hm
  obtain ⟨a, b, l⟩ := x
  have HZ : As (z = ⟨(sizeP a b g).1, (sizeP a b g).2, (List.range l.length).map (layAt ⟨a, b, l⟩ g)⟩) := ⟨hz.symm⟩
  clear hz
  dsimp only [mxV, layOk] at *
  obtain ⟨f, hf⟩ : ∃ f, layAt ⟨a, b, l⟩ g = f := ⟨_, rfl⟩
  have HFi := fun i : Nat => congrFun hf i
  unfold layAt at HFi
  dsimp only at HFi
  rw [hf] at HZ
  have hin := fun (X Y : Int) (h1 : 0 ≤ X ∧ X < (sizeP a b g).1) (h2 : 0 ≤ Y ∧ Y < (sizeP a b g).2) => from_in hg h1 h2
  have hsz : (sizeP a b g).1 * (sizeP a b g).2 = l.length := by
    rw [m6]
    unfold sizeP
    split
    · rfl
    · exact Int.mul_comm _ _
  obtain ⟨s1, hs1⟩ : ∃ s, (sizeP a b g).1 = s := ⟨_, rfl⟩
  obtain ⟨s2, hs2⟩ : ∃ s, (sizeP a b g).2 = s := ⟨_, rfl⟩
  have HS := As.mk (And.intro hs1 hs2)
  rw [hs1, hs2] at HO HZ hsz
  simp only [hs1, hs2] at HFi hin o1 o2 o3 o4 o5
  have HIN := As.mk hin
  have HFI := As.mk HFi
  clear hs1 hs2 hf HFi hin
  have HSZ := As.mk hsz
  have HM6 := As.mk m6
  clear hsz m6
  have hc := S.cells; simp only [Cells, cellsC, Im, Row, El, Nat.zero_add, Nat.reduceAdd] at hc
  go_enter Tryz.func55, Tryz.ntmps55
  go_wp2_with (first | ((first | (with_reducible refine wpl_seal S ?_) | (with_reducible refine cw_seal S ?_) | (with_reducible refine bp_seal S ?_) | (with_reducible refine ca_seal S ?_)); clear S; (try clear hc); intro w1 S; (try simp only [List.set_cons_zero, List.set_cons_succ, List.nil_append] at S); have hc := S.cells; simp only [Cells, cellsC, Im, Row, El, Nat.zero_add, Nat.reduceAdd] at hc) | (go_at_call 50; refine (mayT_ok g hg _).mono ?_; rintro e w1 ⟨rfl, rfl⟩) | (go_at_call 76; refine (size_c a b g hg _).mono ?_; rw [HS.out.1, HS.out.2]; rintro e w1 ⟨rfl, rfl⟩) | (go_at_call 75; refine (newOk_c s1 s2 l.length _ _ S.bd HO.out HSZ.out hn).mono ?_; rintro e w1 ⟨gL, rfl, hu⟩; obtain ⟨I1, S1, hI1⟩ := S.new hu; clear S hu hI1; (try clear hc); have S := S1; clear S1; have hc := S.cells; simp only [Cells, cellsC, Im, Row, El, Nat.zero_add, Nat.reduceAdd] at hc))
  obtain ⟨g6, eg6⟩ := S.name 0 rfl; rw [← eg6] at S ⊢; clear eg6
  obtain ⟨g4, eg4⟩ := S.name 2 rfl; rw [← eg4] at S ⊢; clear eg4
  obtain ⟨g2, eg2⟩ := S.name 3 rfl; rw [← eg2] at S ⊢; clear eg2
  replace S := ((S.sel [0, 1, 2, 3, 4] (by decide) rfl (by simp) : SH _ _ _ [_, _, _, _, _] _ _) : SH _ _ _ [_, _, _, _, _] _ _)
  rw [upK_none (f := f)] at S
  have HN := As.mk hn
  clear hc
  go_loopw [33] (fun i w' => ∃ (k : Nat) (J : Fp), i = .int .i64 k ∧ k ≤ l.length ∧ As (SH No I w [Cel g6 34 [.int .i64 s1, .int .i64 s2, .slice (some ⟨gL, 0, none⟩) l.length l.length], Row kP (.slice (some ⟨gL, 0, none⟩) l.length l.length) (upK l.length f (fun _ => 0) k), Cel g4 34 [.int .i64 0, .int .i64 0, .slice none 0 0], Cel g2 34 [.int .i64 a, .int .i64 b, .slice A l.length n], Im kP A l] w' J)) (fun i _ => l.length - (intOf i).toNat)
  case atStart => exact ⟨0, _, rfl, by omega, ⟨S⟩⟩
  case round =>
    clear S
    obtain ⟨k, J, rfl, hk, ⟨S⟩⟩ := hrel
    by_cases hlt : k < l.length
    · have hlt' : decide ((k : Int) < l.length) = true := decide_eq_true (by omega)
      obtain ⟨⟨x1, x2⟩, y1, y2⟩ := split_in (a := s1) (b := s2) HSZ.out.symm o1 hlt
      obtain ⟨⟨p1, p2⟩, p3, p4⟩ := HIN.out _ _ ⟨x1, x2⟩ ⟨y1, y2⟩
      have HK := As.mk (HFI.out k)
      obtain ⟨X, hX⟩ : ∃ X, (k : Int) % s1 = X := ⟨_, rfl⟩
      obtain ⟨Y, hY⟩ : ∃ Y, (k : Int) / s1 = Y := ⟨_, rfl⟩
      rw [hX] at x1 x2 p1 p2 p3 p4 HK
      rw [hY] at y1 y2 p1 p2 p3 p4 HK
      obtain ⟨⟨qa, qb⟩, hq⟩ : ∃ q, fromP a b X Y g = q := ⟨_, rfl⟩
      have HQ := As.mk hq
      rw [hq] at p1 p2 p3 p4 HK
      dsimp only at p1 p2 p3 p4 HK
      obtain ⟨i1, i2⟩ := idx_in HM6.out ⟨p1, p2⟩ ⟨p3, p4⟩
      obtain ⟨m, hm⟩ : ∃ m : Nat, qb * a + qa = m := ⟨(qb * a + qa).toNat, by omega⟩
      rw [hm] at i1 i2 HK
      obtain ⟨y, hy⟩ : ∃ y, l[m]? = some y := ⟨_, List.getElem?_eq_getElem (by omega)⟩
      have HF : As (y = f k) := ⟨by rw [← HK.out, Int.toNat_natCast, List.getD_eq_getElem?_getD, hy]; rfl⟩
      have HM := As.mk hm
      have HY := As.mk hy
      have HJ : JLt k (upK l.length f (fun _ => 0) k).length := ⟨by rw [upK_len]; exact hlt⟩
      have sX : Sml X := ⟨by omega, by omega⟩
      have sY : Sml Y := ⟨by omega, by omega⟩
      have sA : Sml a := ⟨by omega, by omega⟩
      have sB : Sml b := ⟨by omega, by omega⟩
      have HXY := As.mk (And.intro hX hY)
      have hd0 : (s1 == 0) = false := by rw [beq_eq_false_iff_ne]; omega
      have hX1 : Int.tmod (k : Int) s1 = X := by rw [Int.tmod_eq_emod_of_nonneg (by omega)]; exact hX
      have hY1 : Int.tdiv (k : Int) s1 = Y := by rw [Int.tdiv_eq_ediv_of_nonneg (by omega)]; exact hY
      clear hq hm hy
      have hq := S.cellsE; simp only [CellsE, cellsE, Im, Row, El, Nat.zero_add, Nat.reduceAdd] at hq
      have hc := S.cells; simp only [Cells, cellsC, Im, Row, El, Nat.zero_add, Nat.reduceAdd] at hc
      go_wp2_with (first | ((first | (with_reducible refine wpl_seal S ?_) | (with_reducible refine cw_seal S ?_) | (with_reducible refine bp_seal S ?_) | (with_reducible refine ca_seal S ?_)); clear S; (try clear hc); intro w1 S; (try simp only [List.set_cons_zero, List.set_cons_succ, List.nil_append] at S); have hc := S.cells; simp only [Cells, cellsC, Im, Row, El, Nat.zero_add, Nat.reduceAdd] at hc))
      refine wp_region_ext [⟨[0, 1, 2, 3, 4, 5, 6, 7, 8, 9, 10, 11, 12], [], 13, false⟩] [14, 15, 16, 17, 18] (by kernel_rfl) (by kernel_rfl) ?_
      refine mix_cons rfl rfl rfl ?_
      simp only [opsAt, List.getD_cons_succ, List.getD_cons_zero]
      repeat (go_big_quiet_step ((intro hC; first | rfl | (go_simp; first | done | rfl))))
      refine wpQuiet_nil ?_
      repeat (go_big_quiet_step ((intro hC; first | rfl | (go_simp; first | done | rfl))))
      refine wpQuiet_nil ?_
      clear hc hq
      replace S := S.drew
      generalize wr.drew = w2 at S ⊢
      have hc := S.cells; simp only [Cells, cellsC, Im, Row, El, Nat.zero_add, Nat.reduceAdd] at hc
      go_wp2_with (first | ((first | (with_reducible refine mx_seal S ?_) | (with_reducible refine wpl_seal S ?_) | (with_reducible refine ca_seal S ?_)); clear S; (try clear hc); intro w1 S; (try simp only [List.set_cons_zero, List.set_cons_succ, List.nil_append] at S); have hc := S.cells; simp only [Cells, cellsC, Im, Row, El, Nat.zero_add, Nat.reduceAdd] at hc) | (go_at_call 77; refine (from_c a b X Y g hg sA sB sX sY _ _ S.bd HQ.out).mono ?_; dsimp only; rintro e w1 ⟨rfl, hx⟩; replace S := S.ext hx; clear hx; (try clear hc); have hc := S.cells; simp only [Cells, cellsC, Im, Row, El, Nat.zero_add, Nat.reduceAdd] at hc))
      (first | refine ⟨(fun h => by cases h), ?_⟩ | skip); (first | ((first | (with_reducible refine mx_seal S ?_)); clear S; (try clear hc); intro w1 S; (try simp only [List.set_cons_zero, List.set_cons_succ, List.nil_append] at S); have hc := S.cells; simp only [Cells, cellsC, Im, Row, El, Nat.zero_add, Nat.reduceAdd] at hc) | skip); (try simp only [Act.put, List.setIfInBounds_toArray, List.set_cons_succ, List.set_cons_zero])
      refine mix_last rfl ?_
      simp only [opsAt, List.getD_cons_succ, List.getD_cons_zero]
      repeat (go_big_quiet_step ((intro hC; first | rfl | (go_simp; first | done | rfl))))
      refine wpQuiet_nil ?_
      simp only [calmQ]
      go_wp2_with (first | ((first | (with_reducible refine wpl_seal S ?_) | (with_reducible refine cw_seal S ?_) | (with_reducible refine bp_seal S ?_) | (with_reducible refine ca_seal S ?_)); clear S; (try clear hc); intro w1 S; (try simp only [List.set_cons_zero, List.set_cons_succ, List.nil_append] at S); have hc := S.cells; simp only [Cells, cellsC, Im, Row, El, Nat.zero_add, Nat.reduceAdd] at hc))
      have hq := S.cellsE; simp only [CellsE, cellsE, Im, Row, El, Nat.zero_add, Nat.reduceAdd] at hq
      have hc := S.cells; simp only [Cells, cellsC, Im, Row, El, Nat.zero_add, Nat.reduceAdd] at hc
      refine wp_region_ext [⟨[0, 1, 3, 4, 5], [2], 6, true⟩, ⟨[7, 8, 10], [9], 11, false⟩] [] (by kernel_rfl) (by kernel_rfl) ?_
      refine mix_cons rfl rfl rfl ?_
      simp only [opsAt, List.getD_cons_succ, List.getD_cons_zero]
      repeat (go_big_quiet_step ((intro hC; first | rfl | (go_simp; first | done | rfl))))
      refine wpQuiet_nil ?_
      repeat (go_big_quiet_step ((intro hC; first | rfl | (go_simp; first | done | rfl))))
      refine wpQuiet_nil ?_
      clear hc hq
      replace S := S.drew
      generalize w1.drew = w3 at S ⊢
      have hc := S.cells; simp only [Cells, cellsC, Im, Row, El, Nat.zero_add, Nat.reduceAdd] at hc
      go_wp2_with (first | ((first | (with_reducible refine mx_seal S ?_) | (with_reducible refine wpl_seal S ?_) | (with_reducible refine ca_seal S ?_)); clear S; (try clear hc); intro w1 S; (try simp only [List.set_cons_zero, List.set_cons_succ, List.nil_append] at S); have hc := S.cells; simp only [Cells, cellsC, Im, Row, El, Nat.zero_add, Nat.reduceAdd] at hc) | (go_at_call 78; refine (at_c ⟨a, b, l⟩ A n qa qb m y ⟨p1, p2⟩ ⟨p3, p4⟩ HM.out (by omega) m2 HY.out _ _ S.bd (S.im 4 rfl)).mono ?_; rintro e w1 ⟨rfl, hx⟩; have hxe := hx; replace S := S.ext hx; clear hx; (try clear hc); have hc := S.cells; simp only [Cells, cellsC, Im, Row, El, Nat.zero_add, Nat.reduceAdd] at hc))
      refine ⟨fun _ => hxe, ?_⟩
      clear hxe
      refine mix_cons rfl rfl rfl ?_
      simp only [opsAt, List.getD_cons_succ, List.getD_cons_zero]
      repeat (go_big_quiet_step ((intro hC; first | rfl | (go_simp; first | done | rfl))))
      refine wpQuiet_nil ?_
      repeat (go_big_quiet_step ((intro hC; first | rfl | (go_simp; first | done | rfl))))
      refine wpQuiet_nil ?_
      have hnf := S.nfzR 1 rfl k
      obtain ⟨Av, cv, e1, -, hs1⟩ := S.row 1 rfl
      rw [Value.slice.injEq] at e1
      obtain ⟨rfl, -, rfl⟩ := e1
      obtain ⟨b', o', e', hck⟩ := hs1.num_at (i := k) (List.getElem?_eq_getElem HJ.out)
      cases e'
      rw [Nat.zero_add] at hck
      go_wp2_with (first | ((first | (with_reducible refine mx_seal S ?_) | (with_reducible refine wpl_seal S ?_) | (with_reducible refine ca_seal S ?_)); clear S; (try clear hc); intro w1 S; (try simp only [List.set_cons_zero, List.set_cons_succ, List.nil_append] at S); have hc := S.cells; simp only [Cells, cellsC, Im, Row, El, Nat.zero_add, Nat.reduceAdd] at hc))
      (first | refine ⟨(fun h => by cases h), ?_⟩ | skip); (first | ((first | (with_reducible refine mx_seal S ?_)); clear S; (try clear hc); intro w1 S; (try simp only [List.set_cons_zero, List.set_cons_succ, List.nil_append] at S); have hc := S.cells; simp only [Cells, cellsC, Im, Row, El, Nat.zero_add, Nat.reduceAdd] at hc) | skip); (try simp only [Act.put, List.setIfInBounds_toArray, List.set_cons_succ, List.set_cons_zero])
      refine mix_last rfl ?_
      simp only [opsAt, List.getD_cons_succ, List.getD_cons_zero]
      repeat (go_big_quiet_step ((intro hC; first | rfl | (go_simp; first | done | rfl))))
      refine wpQuiet_nil ?_
      simp only [calmQ]
      go_wp2_with (first | ((first | (with_reducible refine wpl_seal S ?_) | (with_reducible refine cw_seal S ?_) | (with_reducible refine bp_seal S ?_) | (with_reducible refine ca_seal S ?_)); clear S; (try clear hc); intro w1 S; (try simp only [List.set_cons_zero, List.set_cons_succ, List.nil_append] at S); have hc := S.cells; simp only [Cells, cellsC, Im, Row, El, Nat.zero_add, Nat.reduceAdd] at hc))
      rw [HF.out, upK_set] at S
      go_roundw
      case rel => exact ⟨k + 1, _, by go_num, by omega, ⟨S⟩⟩
      case measure => simp [intOf]; omega
    · have hlt' : decide ((k : Int) < l.length) = false := decide_eq_false (by omega)
      obtain rfl : k = l.length := by omega
      rw [upK_all] at S
      have HZL : As (z.l = (List.range l.length).map f ∧ z.w = s1 ∧ z.h = s2) := ⟨by rw [HZ.out]; exact ⟨rfl, rfl, rfl⟩⟩
      have hc := S.cells; simp only [Cells, cellsC, Im, Row, El, Nat.zero_add, Nat.reduceAdd] at hc
      go_wp2_with (first | ((first | (with_reducible refine wpl_seal S ?_) | (with_reducible refine cw_seal S ?_) | (with_reducible refine bp_seal S ?_) | (with_reducible refine ca_seal S ?_)); clear S; (try clear hc); intro w1 S; (try simp only [List.set_cons_zero, List.set_cons_succ, List.nil_append] at S); have hc := S.cells; simp only [Cells, cellsC, Im, Row, El, Nat.zero_add, Nat.reduceAdd] at hc))
      refine bodyPost_ret (results_cell_tmpR rfl _ _ g4 34 _ (0, 0) _ rfl (S.cel 2 rfl) Tryz.underlying34 rfl (by kernel_rfl)) rfl ?_
      obtain ⟨Ar, cr, e3, hcr, -⟩ := S.row 1 rfl
      rw [Value.slice.injEq] at e3
      obtain ⟨rfl, e4, rfl⟩ := e3
      obtain ⟨h1, h2, h3⟩ := HZL.out
      obtain ⟨zw, zh, zl⟩ := z
      dsimp only at h1 h2 h3
      subst h1 h2 h3
      exact ⟨some ⟨gL, 0, none⟩, l.length, by dsimp only [mxV]; rw [← e4]; rfl, by dsimp only; rw [← e4]; exact S.ret 1 rfl⟩
theorem layOk_d (x : Mx) (g : Nat) (hg : g < 8) (A : Option Addr) (n : Nat) (w : World) (D I : Fp) (hI : ∀ b, I b → b < w.heap.size) (hD : ∀ b, D b → b < w.heap.size) (hl : Sl kP w D A x.l) (hm : mayX x = true) (hn : x.l.length ≤ 1000000) (ho : layOk x g = true) {z : Mx} (hz : layP x g = z) :
    Calls Tryz.prog 55 #[mxV x A n, .int .i64 g] w fun e w' => ∃ B c, e = .returned (.tuple #[mxV z B c, .int .i64 0]) ∧ z.l.length ≤ c ∧ Upd w No I w' (Im kP B z.l) := by
  refine (layOk_r x g hg A n w D hD hl hm hn ho hz).mono ?_
  rintro e w' ⟨B, c, rfl, hu⟩
  obtain ⟨B', c', e', hc, hu'⟩ := (hu.flat hI).frow' hI
  cases e'
  exact ⟨B, c, rfl, hc, hu'⟩
theorem orbit_d (x : Mx) (ts : List Int) (A B : Option Addr) (n d : Nat) (w : World) (I : Fp) (hI : ∀ b, I b → b < w.heap.size) (D : Fp) (hD : ∀ b, D b → b < w.heap.size) (hl : Sl kP w D A x.l) (ht : Sl kI w I B ts) (hm : mayX x = true) (hn : x.l.length ≤ 1000000) (htn : ts.length ≤ 1000) (hts : ∀ t ∈ ts, 0 ≤ t ∧ t < 8) {out : List Mx} {whr : List Int} (ho : orbP x ts = (out, whr)) :
    Calls Tryz.prog 24 #[mxV x A n, .slice B ts.length d] w fun e w' => ∃ A1 c1 A2 c2 J, e = .returned (.tuple #[.slice A1 out.length c1, .slice A2 whr.length c2]) ∧ out.length ≤ c1 ∧ whr.length ≤ c2 ∧ SH No I w [Im kM A1 out, Im kI A2 whr] w' J := by
  have S := ((((SH.start w I hI).know (h := Im kI B ts) ht).know (h := Im kP none []) Sl.nil).nilrow (k := kI)).nilrow (k := kM)
  have HO := As.mk ho
  have HTS := As.mk hts
  have HM := As.mk hm
  have HK := As.mk (fun (w' : World) (h : Ext w w') => (And.intro (hl.keep fun b hb _ => h.block b hb) (fun b hb => Nat.lt_of_lt_of_le (hD b hb) h.size) : Sl kP w' D A x.l ∧ ∀ b, D b → b < w'.heap.size))
  clear hl ht ho hts hm hD
  obtain ⟨x0, hx0⟩ : ∃ x0 : Mx, x = x0 := ⟨x, rfl⟩
  have HLY := As.mk (fun g (hg : g < 8) (n : Nat) (w : World) (I : Fp) (hI : ∀ b, I b → b < w.heap.size) (hD : ∀ b, D b → b < w.heap.size) (hl : Sl kP w D A x.l) (ho : layOk x g = true) (z : Mx) (hz : layP x g = z) => layOk_d x g hg A n w D I hI hD hl HM.out hn ho hz)
  have HLN := As.mk (fun g (hg : g < 8) (n : Nat) (w : World) (I : Fp) (hI : ∀ b, I b → b < w.heap.size) (ho : layOk x g = false) => layNo_c x g hg A n w I hI ho)
  have HPL := As.mk (layP_len x)
  rw [hx0] at HO
  obtain ⟨lk, hlk⟩ : ∃ lk, layOk x = lk := ⟨_, rfl⟩
  obtain ⟨lp, hlp⟩ : ∃ lp, layP x = lp := ⟨_, rfl⟩
  rw [hlk, hlp] at HLY
  rw [hlk] at HLN
  rw [hlp] at HPL
  have HST : As (∀ s g, orbS x0 s g = if lk g.toNat then (if lp g.toNat ∈ s.1 then (s.1, s.2 ++ [idxI s.1 (lp g.toNat)]) else (s.1 ++ [lp g.toNat], s.2 ++ [(s.1.length : Int)])) else (s.1, s.2 ++ [-1])) := ⟨fun s g => by rw [← hlk, ← hlp, hx0]; rfl⟩
  clear hlk hlp hx0
  obtain ⟨a, b, l⟩ := x
  dsimp only [mxV] at *
  have hc := S.cells; simp only [Cells, cellsC, Im, Row, El, Nat.zero_add, Nat.reduceAdd] at hc
  go_enter Tryz.func24, Tryz.ntmps24
  go_wp2_with (first | ((first | (with_reducible refine wpl_seal S ?_) | (with_reducible refine cw_seal S ?_) | (with_reducible refine bp_seal S ?_) | (with_reducible refine ca_seal S ?_)); clear S; (try clear hc); intro w1 S; (try simp only [List.set_cons_zero, List.set_cons_succ, List.nil_append] at S); have hc := S.cells; simp only [Cells, cellsC, Im, Row, El, Nat.zero_add, Nat.reduceAdd] at hc))
  obtain ⟨g2, eg2⟩ := S.name 0 rfl; rw [← eg2] at S ⊢; clear eg2
  clear hc
  go_loopw [6, 7, 15] (fun ov wv iv w' => ∃ (k : Nat) (o1 : List Mx) (o2 : List Int) (J : Fp), iv = .int .i64 k ∧ k ≤ ts.length ∧ o1.length ≤ k ∧ o2.length = k ∧ As ((ts.take k).foldl (orbS x0) ([], []) = (o1, o2)) ∧ As (SH No I w [Row kM ov o1, Row kI wv o2, Cel g2 34 [.int .i64 a, .int .i64 b, .slice A l.length n], Im kP none [], Im kI B ts] w' J)) (fun _ _ iv _ => ts.length - (intOf iv).toNat)
  case atStart => exact ⟨0, [], [], _, rfl, by omega, by simp, rfl, ⟨rfl⟩, ⟨(S.sel [1, 2, 0, 3, 4] (by decide) rfl (by simp) : SH _ _ _ [_, _, _, _, _] _ _)⟩⟩
  case round =>
    clear S
    obtain ⟨k, o1, o2, J, rfl, hk, ho1, ho2, HS, ⟨S⟩⟩ := hrel
    have HO2 := As.mk ho2
    have ho3 : o2.length ≤ 1000 := by omega
    clear ho2
    by_cases hlt : k < ts.length
    · have hlt' : decide ((k : Int) < ts.length) = true := decide_eq_true (by omega)
      obtain ⟨tb, tq, rfl, hct⟩ := (S.im 4 rfl).num_at (List.getElem?_eq_getElem hlt)
      have hT := HTS.out _ (List.getElem_mem hlt)
      have HN := As.mk (show (ts.take (k + 1)).foldl (orbS x0) ([], []) = orbS x0 (o1, o2) ts[k] by rw [List.take_succ_eq_append_getElem hlt, List.foldl_append, HS.out]; rfl)
      generalize ts[k] = t at hct hT HN
      obtain ⟨g, rfl⟩ : ∃ g : Nat, t = g := ⟨t.toNat, by omega⟩
      rw [HST.out, Int.toNat_natCast] at HN
      have hg : g < 8 := by omega
      obtain ⟨z, hz⟩ : ∃ z, lp g = z := ⟨_, rfl⟩
      obtain ⟨q, hq⟩ : ∃ q, lk g = q := ⟨_, rfl⟩
      have HZ := As.mk hz
      have HQ := As.mk hq
      have HZL := As.mk (HPL.out g)
      rw [hz] at HN HZL
      rw [hq] at HN
      clear hz hq hT
      have hc := S.cells; simp only [Cells, cellsC, Im, Row, El, Nat.zero_add, Nat.reduceAdd] at hc
      rcases q with _ | _
      · go_wp2_with (first | ((first | (with_reducible refine wpl_seal S ?_) | (with_reducible refine cw_seal S ?_) | (with_reducible refine bp_seal S ?_) | (with_reducible refine ca_seal S ?_)); clear S; (try clear hc); intro w1 S; (try simp only [List.set_cons_zero, List.set_cons_succ, List.nil_append] at S); have hc := S.cells; simp only [Cells, cellsC, Im, Row, El, Nat.zero_add, Nat.reduceAdd] at hc) | (go_at_call 55; refine (HLN.out g hg n _ _ S.bd HQ.out).mono ?_; rintro e w1 ⟨rfl, hx⟩; replace S := S.ext hx; clear hx; (try clear hc); have hc := S.cells; simp only [Cells, cellsC, Im, Row, El, Nat.zero_add, Nat.reduceAdd] at hc) | (at_builtin; refine wpl_push S 3 rfl rfl _ _ rfl ty_ints rfl (-1) _ _ rfl [_] _ (S.cel 0 rfl) rfl (by (try simp only [maxLen, List.length_nil, List.length_append, List.length_cons]); omega) (by (try simp only [maxLen, List.length_nil, List.length_append, List.length_cons]); omega) ?_; clear S; (try clear hc); intro va w1 S; simp only [List.set_cons_zero, List.set_cons_succ, List.nil_append] at S; have hc := S.cells; simp only [Cells, cellsC, Im, Row, El, Nat.zero_add, Nat.reduceAdd] at hc))
        go_roundw
        case rel => exact ⟨k + 1, o1, o2 ++ [-1], _, by go_num, by omega, by omega, by rw [List.length_append, HO2.out]; rfl, HN, ⟨(S.sel [2, 3, 4, 5, 6] (by decide) rfl (by simp) : SH _ _ _ [_, _, _, _, _] _ _)⟩⟩
        case measure => simp [intOf]; omega
      · by_cases hm : z ∈ o1
        · obtain ⟨hi1, hi2⟩ := idxI_in hm
          have HI := As.mk hi1
          obtain ⟨m, hm2⟩ : ∃ m, o1.idxOf z = m := ⟨_, rfl⟩
          rw [hm2] at HI hi2
          have HN2 := As.mk (HN.out.trans (by rw [if_pos rfl, if_pos hm, HI.out] : _ = (o1, o2 ++ [(m : Int)])))
          clear hm hi1 hm2 HN
          go_wp2_with (first | ((first | (with_reducible refine wpl_seal S ?_) | (with_reducible refine cw_seal S ?_) | (with_reducible refine bp_seal S ?_) | (with_reducible refine ca_seal S ?_)); clear S; (try clear hc); intro w1 S; (try simp only [List.set_cons_zero, List.set_cons_succ, List.nil_append] at S); have hc := S.cells; simp only [Cells, cellsC, Im, Row, El, Nat.zero_add, Nat.reduceAdd] at hc) | (go_at_call 55; refine (HLY.out g hg n _ _ S.bd (HK.out _ S.out).2 (HK.out _ S.out).1 HQ.out z HZ.out).mono ?_; rintro e w1 ⟨B1, c1, rfl, hc1, hu⟩; obtain ⟨I1, S1, hI1⟩ := S.new hu; clear S hu hI1; (try clear hc); have S := S1; clear S1; have hc := S.cells; simp only [Cells, cellsC, Im, Row, El, Nat.zero_add, Nat.reduceAdd] at hc; have hc := S.cells; simp only [Cells, cellsC, Im, Row, El, Nat.zero_add, Nat.reduceAdd] at hc) | (go_at_call 56; obtain ⟨A6, c6, e6, hc6, hs6⟩ := S.row 2 rfl; subst e6; refine (indexM_c o1 z A6 B1 c6 c1 _ _ _ (S.rowD 2 rfl) hs6 ((S.im 1 rfl).weak fun _ _ h => .inl h) (by rw [HZL.out]; exact hn) (by omega) (S.cell 0 0 rfl rfl) (S.cell 0 1 rfl rfl) (S.cell 0 2 rfl rfl) HI.out).mono ?_; rintro e w1 ⟨rfl, hx⟩; replace S := S.ext hx; clear hx; (try clear hc); have hc := S.cells; simp only [Cells, cellsC, Im, Row, El, Nat.zero_add, Nat.reduceAdd] at hc) | (at_builtin; refine wpl_push S 4 rfl rfl _ _ rfl ty_ints rfl (m : Int) _ _ rfl [_] _ (S.cel 0 rfl) rfl (by (try simp only [maxLen, List.length_nil, List.length_append, List.length_cons]); omega) (by (try simp only [maxLen, List.length_nil, List.length_append, List.length_cons]); omega) ?_; clear S; (try clear hc); intro va w1 S; simp only [List.set_cons_zero, List.set_cons_succ, List.nil_append] at S; have hc := S.cells; simp only [Cells, cellsC, Im, Row, El, Nat.zero_add, Nat.reduceAdd] at hc))
          go_roundw
          case rel => exact ⟨k + 1, o1, o2 ++ [(m : Int)], _, by go_num, by omega, by omega, by rw [List.length_append, HO2.out]; rfl, HN2, ⟨(S.sel [3, 4, 5, 6, 7] (by decide) rfl (by simp) : SH _ _ _ [_, _, _, _, _] _ _)⟩⟩
          case measure => simp [intOf]; omega
        · have HI := As.mk (idxI_out hm)
          have HN2 := As.mk (HN.out.trans (by rw [if_pos rfl, if_neg hm] : _ = (o1 ++ [z], o2 ++ [(o1.length : Int)])))
          clear hm HN
          go_wp2_with (first | ((first | (with_reducible refine wpl_seal S ?_) | (with_reducible refine cw_seal S ?_) | (with_reducible refine bp_seal S ?_) | (with_reducible refine ca_seal S ?_)); clear S; (try clear hc); intro w1 S; (try simp only [List.set_cons_zero, List.set_cons_succ, List.nil_append] at S); have hc := S.cells; simp only [Cells, cellsC, Im, Row, El, Nat.zero_add, Nat.reduceAdd] at hc) | (go_at_call 55; refine (HLY.out g hg n _ _ S.bd (HK.out _ S.out).2 (HK.out _ S.out).1 HQ.out z HZ.out).mono ?_; rintro e w1 ⟨B1, c1, rfl, hc1, hu⟩; obtain ⟨I1, S1, hI1⟩ := S.new hu; clear S hu hI1; (try clear hc); have S := S1; clear S1; have hc := S.cells; simp only [Cells, cellsC, Im, Row, El, Nat.zero_add, Nat.reduceAdd] at hc; have hc := S.cells; simp only [Cells, cellsC, Im, Row, El, Nat.zero_add, Nat.reduceAdd] at hc) | (go_at_call 56; obtain ⟨A6, c6, e6, hc6, hs6⟩ := S.row 2 rfl; subst e6; refine (indexM_c o1 z A6 B1 c6 c1 _ _ _ (S.rowD 2 rfl) hs6 ((S.im 1 rfl).weak fun _ _ h => .inl h) (by rw [HZL.out]; exact hn) (by omega) (S.cell 0 0 rfl rfl) (S.cell 0 1 rfl rfl) (S.cell 0 2 rfl rfl) HI.out).mono ?_; rintro e w1 ⟨rfl, hx⟩; replace S := S.ext hx; clear hx; (try clear hc); have hc := S.cells; simp only [Cells, cellsC, Im, Row, El, Nat.zero_add, Nat.reduceAdd] at hc) | (at_builtin; refine wpl_push S 3 rfl rfl _ _ rfl ty_mxs rfl z _ _ rfl [.int .i64 z.w, .int .i64 z.h, .slice B1 z.l.length c1] _ (S.cel 0 rfl) (⟨B1, c1, rfl, hc1, S.im 2 rfl⟩) (by (try simp only [maxLen, List.length_nil, List.length_append, List.length_cons]); omega) (by (try simp only [maxLen, List.length_nil, List.length_append, List.length_cons]); omega) ?_; clear S; (try clear hc); intro va w1 S; simp only [List.set_cons_zero, List.set_cons_succ, List.nil_append] at S; have hc := S.cells; simp only [Cells, cellsC, Im, Row, El, Nat.zero_add, Nat.reduceAdd] at hc) | (at_builtin; refine wpl_push S 5 rfl rfl _ _ rfl ty_ints rfl (o1.length : Int) _ _ rfl [_] _ (S.cel 0 rfl) rfl (by (try simp only [maxLen, List.length_nil, List.length_append, List.length_cons]); omega) (by (try simp only [maxLen, List.length_nil, List.length_append, List.length_cons]); omega) ?_; clear S; (try clear hc); intro va w1 S; simp only [List.set_cons_zero, List.set_cons_succ, List.nil_append] at S; have hc := S.cells; simp only [Cells, cellsC, Im, Row, El, Nat.zero_add, Nat.reduceAdd] at hc))
          go_roundw
          case rel => exact ⟨k + 1, o1 ++ [z], o2 ++ [(o1.length : Int)], _, by go_num, by omega, by rw [List.length_append]; simp; omega, by rw [List.length_append, HO2.out]; rfl, HN2, ⟨(S.sel [4, 5, 6, 7, 8] (by decide) rfl (by simp) : SH _ _ _ [_, _, _, _, _] _ _)⟩⟩
          case measure => simp [intOf]; omega
    · have hlt' : decide ((k : Int) < ts.length) = false := decide_eq_false (by omega)
      obtain rfl : k = ts.length := by omega
      have HF := As.mk (show (o1, o2) = (out, whr) by rw [← HS.out, ← HO.out, List.take_length]; rfl)
      obtain ⟨rfl, rfl⟩ := Prod.mk.inj HF.out
      have hc := S.cells; simp only [Cells, cellsC, Im, Row, El, Nat.zero_add, Nat.reduceAdd] at hc
      go_wp2_with (first | ((first | (with_reducible refine wpl_seal S ?_) | (with_reducible refine cw_seal S ?_) | (with_reducible refine bp_seal S ?_) | (with_reducible refine ca_seal S ?_)); clear S; (try clear hc); intro w1 S; (try simp only [List.set_cons_zero, List.set_cons_succ, List.nil_append] at S); have hc := S.cells; simp only [Cells, cellsC, Im, Row, El, Nat.zero_add, Nat.reduceAdd] at hc))
      obtain ⟨A1, c1, I1, e1, hc1, S1, hI1⟩ := S.frow 0 rfl; subst e1; clear S hI1; have S := S1; clear S1; simp only [List.set_cons_zero, List.set_cons_succ, List.nil_append] at S
      obtain ⟨A2, c2, I1, e1, hc2, S1, hI1⟩ := S.frow 1 rfl; subst e1; clear S hI1; have S := S1; clear S1; simp only [List.set_cons_zero, List.set_cons_succ, List.nil_append] at S
      refine bodyPost_ret (results_tmp2 rfl _ _ _) rfl ?_
      exact ⟨A1, c1, A2, c2, rfl, hc1, hc2, _, (S.sel [0, 1] (by decide) rfl (by simp) : SH _ _ _ [_, _] _ _)⟩
theorem add_d (b : Nat) (D D' : DS) (p : Pic) (ts : List Int) (A B : Option Addr) (n d : Nat) (w : World) (F I R : Fp) (hI : ∀ b, I b → b < w.heap.size) (S : SH F I w [DicO b D.L D.V D.ar] w I) (hR : ∀ b, R b → b < w.heap.size ∧ ¬ F b) (hl : Sl kP w R A p.x.l) (hn : p.x.l.length ≤ 1000000) (hu : ∀ q ∈ p.x.l, U64 q) (ht : Sl kI w R B ts) (hd : ts.length ≤ d) (htn : ts.length ≤ 1000) (hL : D.L.length ≤ 1000) (hV : D.V.length ≤ 100000) (har : 0 ≤ D.ar ∧ D.ar ≤ 1000000000) {k er : Int} (hr : addD D p ts = (D', k, er)) :
    Calls Tryz.prog 8 #[.pointer (some ⟨b, 0, none⟩), picV p A n, .slice B ts.length d] w fun e w' => e = .returned (.tuple #[.int .i64 k, .int .i64 er]) ∧ Upd w F I w' (DicO b D'.L D'.V D'.ar) := by
  obtain ⟨A9, c9, B9, d9, h9, h8, S⟩ := ((S.know (h := Im kP none []) Sl.nil).know (h := Im kI none []) Sl.nil).dOpen 2 rfl
  simp only [List.set_cons_zero, List.set_cons_succ, List.nil_append] at S
  have HU := As.mk hu
  have HK := As.mk (fun (w' : World) (h : Chg F w w') => (⟨hl.chg h fun b _ hb => (hR b hb).2, ht.chg h fun b _ hb => (hR b hb).2, fun b hb => Nat.lt_of_lt_of_le (hR b hb).1 h.size⟩ : Sl kP w' R A p.x.l ∧ Sl kI w' R B ts ∧ ∀ b, R b → b < w'.heap.size))
  clear hl hu ht hR
  obtain ⟨q1, hq1⟩ : ∃ q, mayG p = q := ⟨_, rfl⟩
  obtain ⟨q2, hq2⟩ : ∃ q, mayTs ts = q := ⟨_, rfl⟩
  have HR := As.mk hr
  unfold addD at HR
  rw [hq1, hq2] at HR
  have H1 := As.mk (fun n w I hI hl => mayI_c p A n w I hI hl hn HU.out hq1)
  have H2 := As.mk hq2
  have H3 := As.mk hq1
  obtain ⟨L, V, ar⟩ := D
  dsimp only at *
  clear hr hq1 hq2
  rcases q1 with _ | _
  · have HX : As (D' = ⟨L, V, ar⟩ ∧ k = -1 ∧ er = 1) := ⟨by
      have h := HR.out
      rw [if_neg (by simp)] at h
      obtain ⟨h1, h2⟩ := Prod.mk.inj h
      obtain ⟨h2, h3⟩ := Prod.mk.inj h2
      exact ⟨h1.symm, h2.symm, h3.symm⟩⟩
    obtain ⟨rfl, rfl, rfl⟩ := HX.out
    clear HR HX H2 H3
    obtain ⟨c, m, a, bb, l⟩ := p
    dsimp only [picV] at *
    have hc := S.cells; simp only [Cells, cellsC, Im, Row, El, DicO, Nat.zero_add, Nat.reduceAdd] at hc
    go_enter Tryz.func8, Tryz.ntmps8
    go_wp2_with (first | ((first | (with_reducible refine wpl_seal S ?_) | (with_reducible refine cw_seal S ?_) | (with_reducible refine bp_seal S ?_) | (with_reducible refine ca_seal S ?_)); clear S; (try clear hc); intro w1 S; (try simp only [List.set_cons_zero, List.set_cons_succ, List.nil_append] at S); have hc := S.cells; simp only [Cells, cellsC, Im, Row, El, DicO, Nat.zero_add, Nat.reduceAdd] at hc) | (go_at_call 19; refine (H1.out n _ _ (HK.out _ S.chg).2.2 (HK.out _ S.chg).1).mono ?_; rintro e w1 ⟨rfl, hx⟩; replace S := S.ext hx; clear hx; (try clear hc); have hc := S.cells; simp only [Cells, cellsC, Im, Row, El, DicO, Nat.zero_add, Nat.reduceAdd] at hc))
    refine bodyPost_ret (results_tmp2 rfl _ _ _) rfl ?_
    exact ⟨rfl, (S.dClose 5 rfl h9 h8 (S.im 1 rfl) (S.im 2 rfl)).retU 5 rfl⟩
  · rcases q2 with _ | _
    · have HX : As (D' = ⟨L, V, ar⟩ ∧ k = -1 ∧ er = 1) := ⟨by
        have h := HR.out
        rw [if_neg (by simp)] at h
        obtain ⟨h1, h2⟩ := Prod.mk.inj h
        obtain ⟨h2, h3⟩ := Prod.mk.inj h2
        exact ⟨h1.symm, h2.symm, h3.symm⟩⟩
      obtain ⟨rfl, rfl, rfl⟩ := HX.out
      clear HR HX H3
      obtain ⟨c, m, a, bb, l⟩ := p
      dsimp only [picV] at *
      have hc := S.cells; simp only [Cells, cellsC, Im, Row, El, DicO, Nat.zero_add, Nat.reduceAdd] at hc
      go_enter Tryz.func8, Tryz.ntmps8
      go_wp2_with (first | ((first | (with_reducible refine wpl_seal S ?_) | (with_reducible refine cw_seal S ?_) | (with_reducible refine bp_seal S ?_) | (with_reducible refine ca_seal S ?_)); clear S; (try clear hc); intro w1 S; (try simp only [List.set_cons_zero, List.set_cons_succ, List.nil_append] at S); have hc := S.cells; simp only [Cells, cellsC, Im, Row, El, DicO, Nat.zero_add, Nat.reduceAdd] at hc) | (go_at_call 19; refine (H1.out n _ _ (HK.out _ S.chg).2.2 (HK.out _ S.chg).1).mono ?_; rintro e w1 ⟨rfl, hx⟩; replace S := S.ext hx; clear hx; (try clear hc); have hc := S.cells; simp only [Cells, cellsC, Im, Row, El, DicO, Nat.zero_add, Nat.reduceAdd] at hc) | (go_at_call 20; refine (may_c ts B d _ _ (HK.out _ S.chg).2.2 (HK.out _ S.chg).2.1 hd (by omega) H2.out).mono ?_; rintro e w1 ⟨rfl, hx⟩; replace S := S.ext hx; clear hx; (try clear hc); have hc := S.cells; simp only [Cells, cellsC, Im, Row, El, DicO, Nat.zero_add, Nat.reduceAdd] at hc))
      refine bodyPost_ret (results_tmp2 rfl _ _ _) rfl ?_
      exact ⟨rfl, (S.dClose 5 rfl h9 h8 (S.im 1 rfl) (S.im 2 rfl)).retU 5 rfl⟩
    · have HMX := As.mk (mayG_x H3.out)
      obtain ⟨-, hts0, hin⟩ := mayTs_in H2.out
      obtain ⟨st, hst⟩ : ∃ st, sortI ts = st := ⟨_, rfl⟩
      have hstl : st.length ≤ 1000 := by rw [← hst, sortI_len]; exact htn
      obtain ⟨⟨out, whr⟩, hor⟩ : ∃ o, orbP p.x st = o := ⟨_, rfl⟩
      have hol := orbP_len p.x st
      rw [hor] at hol
      dsimp only at hol
      have hwl : whr.length ≤ 1000000 := by omega
      have hou : out.length ≤ 1000 := by omega
      rw [hst] at HR hin
      rw [hor] at HR
      dsimp only at HR
      have HIN := As.mk hin
      have HST := As.mk hst
      have HOR := As.mk hor
      have HOL := As.mk hol
      clear hst hin hor hol
      obtain ⟨ng, hng⟩ : ∃ ng, decide ((-1) ∈ whr) = ng := ⟨_, rfl⟩
      have HNG := As.mk hng
      clear hng
      rcases ng with _ | _
      · obtain ⟨hmem, hidx⟩ := orbP_mem p.x st
        rw [HOR.out] at hmem hidx
        dsimp only at hmem hidx
        have HMEM := As.mk hmem
        have HIDX := As.mk hidx
        clear hmem hidx
        obtain ⟨c, m, a, bb, l⟩ := p
        obtain ⟨har0, har1⟩ := har
        have HFO := As.mk (fun j : Nat => (rfl : (out.take j).foldl (addV c m) (V, [], ar) = (out.take j).foldl (addV c m) (V, [], ar)))
        dsimp only [picV] at *
        have hc := S.cells; simp only [Cells, cellsC, Im, Row, El, DicO, Nat.zero_add, Nat.reduceAdd] at hc
        go_enter Tryz.func8, Tryz.ntmps8
        go_upto_region 7 with (first | ((first | (with_reducible refine wpl_seal S ?_) | (with_reducible refine cw_seal S ?_) | (with_reducible refine bp_seal S ?_) | (with_reducible refine ca_seal S ?_)); clear S; (try clear hc); intro w1 S; (try simp only [List.set_cons_zero, List.set_cons_succ, List.nil_append] at S); have hc := S.cells; simp only [Cells, cellsC, Im, Row, El, DicO, Nat.zero_add, Nat.reduceAdd] at hc) | (go_at_call 19; refine (H1.out n _ _ (HK.out _ S.chg).2.2 (HK.out _ S.chg).1).mono ?_; rintro e w1 ⟨rfl, hx⟩; replace S := S.ext hx; clear hx; (try clear hc); have hc := S.cells; simp only [Cells, cellsC, Im, Row, El, DicO, Nat.zero_add, Nat.reduceAdd] at hc) | (go_at_call 20; refine (may_c ts B d _ _ (HK.out _ S.chg).2.2 (HK.out _ S.chg).2.1 hd (by omega) H2.out).mono ?_; rintro e w1 ⟨rfl, hx⟩; replace S := S.ext hx; clear hx; (try clear hc); have hc := S.cells; simp only [Cells, cellsC, Im, Row, El, DicO, Nat.zero_add, Nat.reduceAdd] at hc) | (go_at_call 21; refine (clone_r ⟨c, m, a, bb, l⟩ A n _ _ (HK.out _ S.chg).2.2 (HK.out _ S.chg).1 hn).mono ?_; rintro e w1 ⟨Ac, cc, rfl, hu⟩; have hu := hu.flat S.bd; obtain ⟨I1, S1, hI1⟩ := S.new hu; clear S hu hI1; (try clear hc); have S := S1; clear S1; have hc := S.cells; simp only [Cells, cellsC, Im, Row, El, DicO, Nat.zero_add, Nat.reduceAdd] at hc; obtain ⟨_, _, I5, e5, hcc, S5, -⟩ := S.frow 0 rfl; cases e5; clear S; have S := S5; clear S5; simp only [List.set_cons_zero, List.set_cons_succ, List.nil_append] at S; have hc := S.cells; simp only [Cells, cellsC, Im, Row, El, DicO, Nat.zero_add, Nat.reduceAdd] at hc) | (go_at_call 23; refine (values_c B ts.length d _ _ S.bd).mono ?_; rintro e w1 ⟨gv, rfl, hu⟩; obtain ⟨I1, S1, hI1⟩ := S.new hu; clear S hu hI1; (try clear hc); have S := S1; clear S1; have hc := S.cells; simp only [Cells, cellsC, Im, Row, El, DicO, Nat.zero_add, Nat.reduceAdd] at hc; (try clear hc); have hc := S.cells; simp only [Cells, cellsC, Im, Row, El, DicO, Nat.zero_add, Nat.reduceAdd] at hc) | (go_at_call 22; refine (sorted_c ts gv _ (fun b => R b ∨ b = gv) (by rintro b (hb | rfl); exact (HK.out _ S.chg).2.2 b hb; exact lt_of_heap (S.cel 0 rfl)) (Sl.ofCel (S.cel 0 rfl) (.inr rfl) (Flat.single ⟨B, d, rfl, hd, (HK.out _ S.chg).2.1.weak fun _ _ h => .inl h⟩)) (by omega)).mono ?_; rw [HST.out]; rintro e w1 ⟨v, rfl, hu⟩; have hu := hu.flat S.bd; obtain ⟨I1, S1, hI1⟩ := S.new hu; clear S hu hI1; (try clear hc); have S := S1; clear S1; have hc := S.cells; simp only [Cells, cellsC, Im, Row, El, DicO, Nat.zero_add, Nat.reduceAdd] at hc; obtain ⟨Ast, cs, I1, e1, hcs, S1, hI1⟩ := S.frow 0 rfl; subst e1; clear S hI1; have S := S1; clear S1; simp only [List.set_cons_zero, List.set_cons_succ, List.nil_append] at S; have hc := S.cells; simp only [Cells, cellsC, Im, Row, El, DicO, Nat.zero_add, Nat.reduceAdd] at hc) | (go_at_call 24; refine (orbit_d ⟨a, bb, l⟩ st A Ast n cs _ _ S.bd R (HK.out _ S.chg).2.2 (HK.out _ S.chg).1 (S.im 1 rfl) HMX.out hn hstl HIN.out HOR.out).mono ?_; rintro e w1 ⟨A1, c1, A2, c2, J3, rfl, hc1, hc2, S3⟩; obtain ⟨J4, S4, -, -⟩ := S.comp S3; clear S S3; have S := S4; clear S4; simp only [List.cons_append, List.nil_append] at S; have hc := S.cells; simp only [Cells, cellsC, Im, Row, El, DicO, Nat.zero_add, Nat.reduceAdd] at hc) | (go_at_call 25; refine (contI_c whr (-1) A2 c2 _ _ (S.im 1 rfl) hwl HNG.out).mono ?_; rintro e w1 ⟨rfl, rfl⟩))
        obtain ⟨g8, eg8⟩ := S.name 2 rfl; rw [← eg8] at S ⊢; clear eg8
        obtain ⟨g4, eg4⟩ := S.name 6 rfl; rw [← eg4] at S ⊢; clear eg4
        replace S := ((S.sel [0, 1, 2, 3, 5, 6, 7, 8, 11] (by decide) rfl (by simp) : SH _ _ _ [_, _, _, _, _, _, _, _, _] _ _) : SH _ _ _ [_, _, _, _, _, _, _, _, _] _ _)
        have hc := S.cells; simp only [Cells, cellsC, Im, Row, El, DicO, Nat.zero_add, Nat.reduceAdd] at hc
        have hq := S.cellsE; simp only [CellsE, cellsE, Im, Row, El, DicO, Nat.zero_add, Nat.reduceAdd] at hq
        refine wp_region_ext [⟨[0, 1, 2, 3, 5, 6, 7, 8], [], 4, true⟩] [9, 10] (by kernel_rfl) (by kernel_rfl) ?_
        refine mix_cons rfl rfl rfl ?_
        simp only [opsAt, List.getD_cons_succ, List.getD_cons_zero]
        repeat (go_big_quiet_step ((intro hC; first | rfl | (go_simp; first | done | rfl))))
        refine wpQuiet_nil ?_
        repeat (go_big_quiet_step ((intro hC; first | rfl | (go_simp; first | done | rfl))))
        refine wpQuiet_nil ?_
        clear hc hq
        replace S := S.drew
        generalize w1.drew = w2 at S ⊢
        have hc := S.cells; simp only [Cells, cellsC, Im, Row, El, DicO, Nat.zero_add, Nat.reduceAdd] at hc
        go_wp2_with (first | ((first | (with_reducible refine mx_seal S ?_) | (with_reducible refine wpl_seal S ?_) | (with_reducible refine ca_seal S ?_)); clear S; (try clear hc); intro w1 S; (try simp only [List.set_cons_zero, List.set_cons_succ, List.nil_append] at S); have hc := S.cells; simp only [Cells, cellsC, Im, Row, El, DicO, Nat.zero_add, Nat.reduceAdd] at hc) | (go_at_call 26; refine (cloneG_c V B9 d9 _ _ S.bd (S.im 7 rfl) (by omega)).mono ?_; rintro e w1 ⟨v, rfl, hu⟩; have hxf := hu.ext; obtain ⟨I1, S1, hI1⟩ := S.new hu; clear S hu hI1; (try clear hc); have S := S1; clear S1; have hc := S.cells; simp only [Cells, cellsC, Im, Row, El, DicO, Nat.zero_add, Nat.reduceAdd] at hc; have hc := S.cells; simp only [Cells, cellsC, Im, Row, El, DicO, Nat.zero_add, Nat.reduceAdd] at hc))
        refine ⟨fun _ => hxf, ?_⟩
        refine mix_last rfl ?_
        simp only [opsAt, List.getD_cons_succ, List.getD_cons_zero]
        repeat (go_big_quiet_step ((intro hC; first | rfl | (go_simp; first | done | rfl))))
        refine wpQuiet_nil ?_
        simp only [calmQ]
        go_wp2_with (first | ((first | (with_reducible refine wpl_seal S ?_) | (with_reducible refine cw_seal S ?_) | (with_reducible refine bp_seal S ?_) | (with_reducible refine ca_seal S ?_)); clear S; (try clear hc); intro w1 S; (try simp only [List.set_cons_zero, List.set_cons_succ, List.nil_append] at S); have hc := S.cells; simp only [Cells, cellsC, Im, Row, El, DicO, Nat.zero_add, Nat.reduceAdd] at hc))
        replace S := (S.nilrow (k := kI))
        clear HFO hxf hc
        have HMX2 := HMEM
        go_loopw [11, 12, 13, 55] (fun vv av tv iv w' => ∃ (j : Nat) (V1 : List Pic) (at1 : List Int) (ar1 : Int) (J : Fp), iv = .int .i64 j ∧ av = .int .i64 ar1 ∧ j ≤ out.length ∧ V1.length ≤ V.length + j ∧ at1.length ≤ j ∧ (ar ≤ ar1 ∧ ar1 ≤ ar + j * 1000000) ∧ As (at1.length = j) ∧ As ((out.take j).foldl (addV c m) (V, [], ar) = (V1, at1, ar1)) ∧ As (SH F I w [Row kI tv at1, Row kG vv V1, Im kM A1 out, Im kI A2 whr, Cel g8 76 [.int .i64 c, .int .i64 m, .int .i64 a, .int .i64 bb, .slice Ac l.length cc, .slice Ast st.length cs, .slice none 0 0], Im kI Ast st, Im kP Ac l, Cel g4 36 [.int .i64 c, .int .i64 m, .int .i64 a, .int .i64 bb, .slice A l.length n], Im kT A9 L, Im kG B9 V, Cel b 67 [.slice A9 L.length c9, .slice B9 V.length d9, .int .i64 ar]] w' J)) (fun _ _ _ iv _ => out.length - (intOf iv).toNat)
        case atStart => exact ⟨0, V, [], ar, _, rfl, rfl, by omega, by omega, by simp, by omega, ⟨rfl⟩, ⟨rfl⟩, ⟨S⟩⟩
        case round =>
          clear S
          obtain ⟨j, V1, at1, ar1, J, rfl, rfl, hj, hV1, hat, ⟨hr1, hr2⟩, HAT, HS, ⟨S⟩⟩ := hrel
          by_cases hlt : j < out.length
          · have hlt' : decide ((j : Int) < out.length) = true := decide_eq_true (by omega)
            have hxm := HMEM.out _ (List.getElem_mem hlt)
            have HN := As.mk (show (out.take (j + 1)).foldl (addV c m) (V, [], ar) = addV c m (V1, at1, ar1) out[j] by rw [List.take_succ_eq_append_getElem hlt, List.foldl_append, HS.out]; rfl)
            obtain ⟨b1, o1, Ax, cx, rfl, g0, g1, g2, hcx, hx2⟩ := (S.im 2 rfl).mx_at (List.getElem?_eq_getElem hlt)
            replace S := S.know (h := Im kP Ax out[j].l) hx2
            generalize out[j] = x at g0 g1 g2 hcx hx2 hxm HN S
            clear hx2
            obtain ⟨xw, xh, xl⟩ := x
            dsimp only at *
            have hxl : xl.length ≤ 1000000 := by omega
            have HXM := As.mk hxm
            clear hxm
            have hc := S.cells; simp only [Cells, cellsC, Im, Row, El, DicO, Nat.zero_add, Nat.reduceAdd] at hc
            by_cases hm : (⟨c, m, ⟨xw, xh, xl⟩⟩ : Pic) ∈ V1
            · obtain ⟨hi1, hi2⟩ := idxI_in hm
              have HI := As.mk hi1
              obtain ⟨q, hq⟩ : ∃ q, V1.idxOf (⟨c, m, ⟨xw, xh, xl⟩⟩ : Pic) = q := ⟨_, rfl⟩
              rw [hq] at HI hi2
              have HN2 := As.mk (HN.out.trans (by unfold addV; dsimp only; rw [if_pos hm, HI.out] : _ = (V1, at1 ++ [(q : Int)], ar1)))
              clear hm hi1 hq HN
              go_wp2_with (first | ((first | (with_reducible refine wpl_seal S ?_) | (with_reducible refine cw_seal S ?_) | (with_reducible refine bp_seal S ?_) | (with_reducible refine ca_seal S ?_)); clear S; (try clear hc); intro w1 S; (try simp only [List.set_cons_zero, List.set_cons_succ, List.nil_append] at S); have hc := S.cells; simp only [Cells, cellsC, Im, Row, El, DicO, Nat.zero_add, Nat.reduceAdd] at hc) | (go_at_call 27; obtain ⟨A6, c6, e6, hc6, hs6⟩ := S.row 4 rfl; subst e6; refine (indexG_c V1 ⟨c, m, ⟨xw, xh, xl⟩⟩ A6 Ax c6 cx _ _ _ (S.rowD 4 rfl) hs6 ((S.im 2 rfl).weak fun _ _ h => .inl h) (by dsimp only; omega) (by omega) (S.cell 0 0 rfl rfl) (S.cell 0 1 rfl rfl) (S.cell 0 2 rfl rfl) (S.cell 0 3 rfl rfl) (S.cell 0 4 rfl rfl) HI.out).mono ?_; rintro e w1 ⟨rfl, hx⟩; replace S := S.ext hx; clear hx; (try clear hc); have hc := S.cells; simp only [Cells, cellsC, Im, Row, El, DicO, Nat.zero_add, Nat.reduceAdd] at hc) | (at_builtin; refine wpl_push S 4 rfl rfl _ _ rfl ty_ints rfl (q : Int) _ _ rfl [_] _ (S.cel 0 rfl) rfl (by (try simp only [maxLen, List.length_nil, List.length_append, List.length_cons]); omega) (by (try simp only [maxLen, List.length_nil, List.length_append, List.length_cons]); omega) ?_; clear S; (try clear hc); intro va w1 S; simp only [List.set_cons_zero, List.set_cons_succ, List.nil_append] at S; have hc := S.cells; simp only [Cells, cellsC, Im, Row, El, DicO, Nat.zero_add, Nat.reduceAdd] at hc))
              go_roundw
              case rel => exact ⟨j + 1, V1, at1 ++ [(q : Int)], ar1, _, by go_num, rfl, by omega, by omega, by rw [List.length_append]; simp; omega, by omega, ⟨by rw [List.length_append, HAT.out]; rfl⟩, HN2, ⟨(S.sel [4, 5, 6, 7, 8, 9, 10, 11, 12, 13, 14] (by decide) rfl (by simp) : SH _ _ _ [_, _, _, _, _, _, _, _, _, _, _] _ _)⟩⟩
              case measure => simp [intOf]; omega
            · have HI := As.mk (idxI_out hm)
              have HN2 := As.mk (HN.out.trans (by unfold addV; dsimp only; rw [if_neg hm] : _ = (V1 ++ [⟨c, m, ⟨xw, xh, xl⟩⟩], at1 ++ [(V1.length : Int)], ar1 + (xl.length : Int))))
              clear hm HN
              go_wp2_with (first | ((first | (with_reducible refine wpl_seal S ?_) | (with_reducible refine cw_seal S ?_) | (with_reducible refine bp_seal S ?_) | (with_reducible refine ca_seal S ?_)); clear S; (try clear hc); intro w1 S; (try simp only [List.set_cons_zero, List.set_cons_succ, List.nil_append] at S); have hc := S.cells; simp only [Cells, cellsC, Im, Row, El, DicO, Nat.zero_add, Nat.reduceAdd] at hc) | (go_at_call 27; obtain ⟨A6, c6, e6, hc6, hs6⟩ := S.row 4 rfl; subst e6; refine (indexG_c V1 ⟨c, m, ⟨xw, xh, xl⟩⟩ A6 Ax c6 cx _ _ _ (S.rowD 4 rfl) hs6 ((S.im 2 rfl).weak fun _ _ h => .inl h) (by dsimp only; omega) (by omega) (S.cell 0 0 rfl rfl) (S.cell 0 1 rfl rfl) (S.cell 0 2 rfl rfl) (S.cell 0 3 rfl rfl) (S.cell 0 4 rfl rfl) HI.out).mono ?_; rintro e w1 ⟨rfl, hx⟩; replace S := S.ext hx; clear hx; (try clear hc); have hc := S.cells; simp only [Cells, cellsC, Im, Row, El, DicO, Nat.zero_add, Nat.reduceAdd] at hc))
              obtain ⟨g16, eg16⟩ := S.name 0 rfl; rw [← eg16] at S ⊢; clear eg16
              obtain ⟨g15, eg15⟩ := S.name 1 rfl; rw [← eg15] at S ⊢; clear eg15
              have q0 := ClA.cell (L := [⟨g16, 0, none⟩, ⟨g16, 1, none⟩, ⟨g16, 2, none⟩, ⟨g16, 3, none⟩, ⟨g16, 4, none⟩, ⟨g15, 2, none⟩]) (w := w1.drew) (S.cell 0 0 rfl rfl) (by simp)
              have q1 := ClA.cell (L := [⟨g16, 0, none⟩, ⟨g16, 1, none⟩, ⟨g16, 2, none⟩, ⟨g16, 3, none⟩, ⟨g16, 4, none⟩, ⟨g15, 2, none⟩]) (w := w1.drew) (S.cell 0 1 rfl rfl) (by simp)
              have q2 := ClA.cell (L := [⟨g16, 0, none⟩, ⟨g16, 1, none⟩, ⟨g16, 2, none⟩, ⟨g16, 3, none⟩, ⟨g16, 4, none⟩, ⟨g15, 2, none⟩]) (w := w1.drew) (S.cell 0 2 rfl rfl) (by simp)
              have q3 := ClA.cell (L := [⟨g16, 0, none⟩, ⟨g16, 1, none⟩, ⟨g16, 2, none⟩, ⟨g16, 3, none⟩, ⟨g16, 4, none⟩, ⟨g15, 2, none⟩]) (w := w1.drew) (S.cell 0 3 rfl rfl) (by simp)
              have q4 := ClA.cell (L := [⟨g16, 0, none⟩, ⟨g16, 1, none⟩, ⟨g16, 2, none⟩, ⟨g16, 3, none⟩, ⟨g16, 4, none⟩, ⟨g15, 2, none⟩]) (w := w1.drew) (S.cell 0 4 rfl rfl) (by simp)
              have q5 := ClA.cell (L := [⟨g16, 0, none⟩, ⟨g16, 1, none⟩, ⟨g16, 2, none⟩, ⟨g16, 3, none⟩, ⟨g16, 4, none⟩, ⟨g15, 2, none⟩]) (w := w1.drew) (S.cell 1 2 rfl rfl) (by simp)
              refine wp_region_at [⟨g16, 0, none⟩, ⟨g16, 1, none⟩, ⟨g16, 2, none⟩, ⟨g16, 3, none⟩, ⟨g16, 4, none⟩, ⟨g15, 2, none⟩] [⟨[1, 5, 6, 7], [0, 4, 8], 2, true⟩, ⟨[], [], 3, true⟩] [9, 10] (by kernel_rfl) (by kernel_rfl) ?_
              refine mix_cons rfl rfl rfl ?_
              simp only [opsAt, List.getD_cons_succ, List.getD_cons_zero]
              repeat (go_big_quiet_step ((intro hC; first | rfl | (go_simp; first | done | rfl))))
              refine wpQuiet_nil ?_
              repeat (go_big_quiet_step ((intro hC; first | rfl | (go_simp; first | done | rfl))))
              refine wpQuiet_nil ?_
              clear hc q0 q1 q2 q3 q4 q5
              replace S := S.drew
              generalize w1.drew = w2 at S ⊢
              have hb16 := lt_of_heap (S.cel 0 rfl)
              have hb15 := lt_of_heap (S.cel 1 rfl)
              go_wp2_with (first | ((first | (with_reducible refine mx_seal S ?_) | (with_reducible refine wpl_seal S ?_) | (with_reducible refine ca_seal S ?_)); clear S; (try clear hc); intro w1 S; (try simp only [List.set_cons_zero, List.set_cons_succ, List.nil_append] at S); have hc := S.cells; simp only [Cells, cellsC, Im, Row, El, DicO, Nat.zero_add, Nat.reduceAdd] at hc))
              refine ⟨fun _ => ClA.alloc (fun a ha => ?_) _, ?_⟩
              · simp only [List.mem_cons, List.not_mem_nil, or_false] at ha
                rcases ha with rfl | rfl | rfl | rfl | rfl | rfl <;> first | exact hb16 | exact hb15
              (first | refine ⟨(fun h => by cases h), ?_⟩ | skip); (first | ((first | (with_reducible refine mx_seal S ?_)); clear S; (try clear hc); intro w1 S; (try simp only [List.set_cons_zero, List.set_cons_succ, List.nil_append] at S); have hc := S.cells; simp only [Cells, cellsC, Im, Row, El, DicO, Nat.zero_add, Nat.reduceAdd] at hc) | skip); (try simp only [Act.put, List.setIfInBounds_toArray, List.set_cons_succ, List.set_cons_zero])
              refine mix_cons rfl rfl rfl ?_
              simp only [opsAt, List.getD_cons_succ, List.getD_cons_zero]
              repeat (go_big_quiet_step ((intro hC; first | rfl | (go_simp; first | done | rfl))))
              refine wpQuiet_nil ?_
              repeat (go_big_quiet_step ((intro hC; first | rfl | (go_simp; first | done | rfl))))
              refine wpQuiet_nil ?_
              have OLD := As.mk (And.intro (S.cell 1 0 rfl rfl) (And.intro (S.cell 1 1 rfl rfl) (And.intro (S.cell 1 2 rfl rfl) (And.intro (S.cell 1 3 rfl rfl) (And.intro (S.cell 1 4 rfl rfl) (S.cell 2 2 rfl rfl))))))
              go_wp2_with (first | ((first | (with_reducible refine mx_seal S ?_) | (with_reducible refine wpl_seal S ?_) | (with_reducible refine ca_seal S ?_)); clear S; (try clear hc); intro w1 S; (try simp only [List.set_cons_zero, List.set_cons_succ, List.nil_append] at S); have hc := S.cells; simp only [Cells, cellsC, Im, Row, El, DicO, Nat.zero_add, Nat.reduceAdd] at hc) | (at_builtin; refine wpl_push S 5 rfl rfl _ _ rfl ty_pics rfl (⟨c, m, ⟨xw, xh, xl⟩⟩ : Pic) _ _ rfl [.int .i64 c, .int .i64 m, .int .i64 xw, .int .i64 xh, .slice Ax xl.length cx] _ (S.cel 0 rfl) (⟨Ax, cx, rfl, hcx, S.im 3 rfl⟩) (by (try simp only [maxLen, List.length_nil, List.length_append, List.length_cons]); omega) (by (try simp only [maxLen, List.length_nil, List.length_append, List.length_cons]); omega) ?_; clear S; (try clear hc); intro va w1 S; simp only [List.set_cons_zero, List.set_cons_succ, List.nil_append] at S; have hc := S.cells; simp only [Cells, cellsC, Im, Row, El, DicO, Nat.zero_add, Nat.reduceAdd] at hc))
              refine ⟨fun _ a ha => ?_, ?_⟩
              · simp only [List.mem_cons, List.not_mem_nil, or_false] at ha
                rcases ha with rfl | rfl | rfl | rfl | rfl | rfl
                · exact (S.cell 1 0 rfl rfl).trans OLD.out.1.symm
                · exact (S.cell 1 1 rfl rfl).trans OLD.out.2.1.symm
                · exact (S.cell 1 2 rfl rfl).trans OLD.out.2.2.1.symm
                · exact (S.cell 1 3 rfl rfl).trans OLD.out.2.2.2.1.symm
                · exact (S.cell 1 4 rfl rfl).trans OLD.out.2.2.2.2.1.symm
                · exact (S.cell 2 2 rfl rfl).trans OLD.out.2.2.2.2.2.symm
              clear OLD hb15 hb16
              (first | refine ⟨(fun h => by cases h), ?_⟩ | skip); (first | ((first | (with_reducible refine mx_seal S ?_)); clear S; (try clear hc); intro w1 S; (try simp only [List.set_cons_zero, List.set_cons_succ, List.nil_append] at S); have hc := S.cells; simp only [Cells, cellsC, Im, Row, El, DicO, Nat.zero_add, Nat.reduceAdd] at hc) | skip); (try simp only [Act.put, List.setIfInBounds_toArray, List.set_cons_succ, List.set_cons_zero])
              refine mix_last rfl ?_
              simp only [opsAt, List.getD_cons_succ, List.getD_cons_zero]
              repeat (go_big_quiet_step ((intro hC; first | rfl | (go_simp; first | done | rfl))))
              refine wpQuiet_nil ?_
              simp only [calmQ]
              go_wp2_with (first | ((first | (with_reducible refine wpl_seal S ?_) | (with_reducible refine cw_seal S ?_) | (with_reducible refine bp_seal S ?_) | (with_reducible refine ca_seal S ?_)); clear S; (try clear hc); intro w1 S; (try simp only [List.set_cons_zero, List.set_cons_succ, List.nil_append] at S); have hc := S.cells; simp only [Cells, cellsC, Im, Row, El, DicO, Nat.zero_add, Nat.reduceAdd] at hc) | (at_builtin; refine wpl_push S 5 rfl rfl _ _ rfl ty_ints rfl (V1.length : Int) _ _ rfl [_] _ (S.cel 0 rfl) rfl (by (try simp only [maxLen, List.length_nil, List.length_append, List.length_cons]); omega) (by (try simp only [maxLen, List.length_nil, List.length_append, List.length_cons]); omega) ?_; clear S; (try clear hc); intro va w1 S; simp only [List.set_cons_zero, List.set_cons_succ, List.nil_append] at S; have hc := S.cells; simp only [Cells, cellsC, Im, Row, El, DicO, Nat.zero_add, Nat.reduceAdd] at hc))
              go_roundw
              case rel => exact ⟨j + 1, V1 ++ [⟨c, m, ⟨xw, xh, xl⟩⟩], at1 ++ [(V1.length : Int)], ar1 + (xl.length : Int), _, by go_num, rfl, by omega, by rw [List.length_append]; simp; omega, by rw [List.length_append]; simp; omega, by omega, ⟨by rw [List.length_append, HAT.out]; rfl⟩, HN2, ⟨(S.sel [5, 6, 7, 8, 9, 10, 11, 12, 13, 14, 15] (by decide) rfl (by simp) : SH _ _ _ [_, _, _, _, _, _, _, _, _, _, _] _ _)⟩⟩
              case measure => simp [intOf]; omega
          · have hlt' : decide ((j : Int) < out.length) = false := decide_eq_false (by omega)
            obtain rfl : j = out.length := by omega
            rw [List.take_length] at HS
            rw [HS.out] at HR
            dsimp only at HR
            have HNG2 : As (¬ (-1) ∈ whr) := ⟨of_decide_eq_false HNG.out⟩
            by_cases hfull : L.length = 64 ∨ 65536 < ar1
            · have HX : As (D' = ⟨L, V, ar⟩ ∧ k = -1 ∧ er = 8) := ⟨by
                have h := HR.out
                rw [if_pos (by simp), if_neg HNG2.out, if_pos hfull] at h
                obtain ⟨h1, h2⟩ := Prod.mk.inj h
                obtain ⟨h2, h3⟩ := Prod.mk.inj h2
                exact ⟨h1.symm, h2.symm, h3.symm⟩⟩
              obtain ⟨rfl, rfl, rfl⟩ := HX.out
              clear HR HX H3
              have hc := S.cells; simp only [Cells, cellsC, Im, Row, El, DicO, Nat.zero_add, Nat.reduceAdd] at hc
              by_cases h64 : L.length = 64
              · have h64' : ((L.length : Int) == 64) = true := by rw [beq_iff_eq]; omega
                clear h64 hfull
                go_wp2_with (first | ((first | (with_reducible refine wpl_seal S ?_) | (with_reducible refine cw_seal S ?_) | (with_reducible refine bp_seal S ?_) | (with_reducible refine ca_seal S ?_)); clear S; (try clear hc); intro w1 S; (try simp only [List.set_cons_zero, List.set_cons_succ, List.nil_append] at S); have hc := S.cells; simp only [Cells, cellsC, Im, Row, El, DicO, Nat.zero_add, Nat.reduceAdd] at hc))
                refine bodyPost_ret (results_tmp2 rfl _ _ _) rfl ?_
                exact ⟨rfl, (S.dClose 10 rfl h9 h8 (S.im 8 rfl) (S.im 9 rfl)).retU 10 rfl⟩
              · have h64' : ((L.length : Int) == 64) = false := by rw [beq_eq_false_iff_ne]; omega
                have har' : decide (ar1 > 65536) = true := decide_eq_true (by omega)
                clear h64 hfull
                go_wp2_with (first | ((first | (with_reducible refine wpl_seal S ?_) | (with_reducible refine cw_seal S ?_) | (with_reducible refine bp_seal S ?_) | (with_reducible refine ca_seal S ?_)); clear S; (try clear hc); intro w1 S; (try simp only [List.set_cons_zero, List.set_cons_succ, List.nil_append] at S); have hc := S.cells; simp only [Cells, cellsC, Im, Row, El, DicO, Nat.zero_add, Nat.reduceAdd] at hc))
                refine bodyPost_ret (results_tmp2 rfl _ _ _) rfl ?_
                exact ⟨rfl, (S.dClose 10 rfl h9 h8 (S.im 8 rfl) (S.im 9 rfl)).retU 10 rfl⟩
            · obtain ⟨f, hf⟩ : ∃ f : Int → Int, (fun i => at1.getD i.toNat 0) = f := ⟨_, rfl⟩
              have HFI := As.mk (fun i => congrFun hf i)
              rw [hf] at HR
              clear hf
              have HX : As (D' = ⟨L ++ [⟨⟨c, m, ⟨a, bb, l⟩⟩, st, whr.map f⟩], V1, ar1⟩ ∧ k = L.length ∧ er = 0) := ⟨by
                have h := HR.out
                rw [if_pos (by simp), if_neg HNG2.out, if_neg hfull] at h
                obtain ⟨h1, h2⟩ := Prod.mk.inj h
                obtain ⟨h2, h3⟩ := Prod.mk.inj h2
                exact ⟨h1.symm, h2.symm, h3.symm⟩⟩
              have h64' : ((L.length : Int) == 64) = false := by rw [beq_eq_false_iff_ne]; omega
              have har' : decide (ar1 > 65536) = false := decide_eq_false (by omega)
              clear HR H3 hfull
              obtain ⟨A13, c13, I1, e1, hc13, S1, hI1⟩ := S.frow 0 rfl; subst e1; clear S hI1; have S := S1; clear S1; simp only [List.set_cons_zero, List.set_cons_succ, List.nil_append] at S
              obtain ⟨A11, c11, I1, e1, hc11, S1, hI1⟩ := S.frow 1 rfl; subst e1; clear S hI1; have S := S1; clear S1; simp only [List.set_cons_zero, List.set_cons_succ, List.nil_append] at S
              replace S := ((S.sel [0, 1, 3, 4, 5, 6, 8, 9, 10] (by decide) rfl (by simp) : SH _ _ _ [_, _, _, _, _, _, _, _, _] _ _) : SH _ _ _ [_, _, _, _, _, _, _, _, _] _ _)
              replace S := S.nilrow (k := kI)
              have hc := S.cells; simp only [Cells, cellsC, Im, Row, El, DicO, Nat.zero_add, Nat.reduceAdd] at hc
              go_wp2_with (first | ((first | (with_reducible refine wpl_seal S ?_) | (with_reducible refine cw_seal S ?_) | (with_reducible refine bp_seal S ?_) | (with_reducible refine ca_seal S ?_)); clear S; (try clear hc); intro w1 S; (try simp only [List.set_cons_zero, List.set_cons_succ, List.nil_append] at S); have hc := S.cells; simp only [Cells, cellsC, Im, Row, El, DicO, Nat.zero_add, Nat.reduceAdd] at hc))
              clear hc
              go_loopw [96] (fun iv w' => ∃ (j : Nat) (wv : Value) (ws : List Int) (J : Fp), iv = .int .i64 j ∧ j ≤ whr.length ∧ ws.length ≤ j ∧ As (ws = (whr.take j).map f) ∧ As (SH F I w [Row kI wv ws, Im kI A13 at1, Im kG A11 V1, Im kI A2 whr, Cel g8 76 [.int .i64 c, .int .i64 m, .int .i64 a, .int .i64 bb, .slice Ac l.length cc, .slice Ast st.length cs, wv], Im kI Ast st, Im kP Ac l, Im kT A9 L, Im kG B9 V, Cel b 67 [.slice A9 L.length c9, .slice B9 V.length d9, .int .i64 ar]] w' J)) (fun iv _ => whr.length - (intOf iv).toNat)
              case atStart => exact ⟨0, _, [], _, rfl, by omega, by simp, ⟨rfl⟩, ⟨S⟩⟩
              case round =>
                clear S
                obtain ⟨j, wv, ws, J2, rfl, hj, hws, HWS, ⟨S⟩⟩ := hrel
                obtain ⟨Aw, cw, ew, hcw, -⟩ := S.row 0 rfl
                subst ew
                by_cases hlt : j < whr.length
                · have hlt' : decide ((j : Int) < whr.length) = true := decide_eq_true (by omega)
                  obtain ⟨b2, o2, rfl, hcx⟩ := (S.im 3 rfl).num_at (List.getElem?_eq_getElem hlt)
                  have hi := HIDX.out _ (List.getElem_mem hlt)
                  have hi2 : whr[j] ≠ -1 := fun e => HNG2.out (e ▸ List.getElem_mem hlt)
                  have HN := As.mk (show (whr.take (j + 1)).map f = ws ++ [f whr[j]] by rw [List.take_succ_eq_append_getElem hlt, List.map_append, HWS.out]; rfl)
                  generalize whr[j] = y at hcx hi hi2 HN
                  obtain ⟨q, rfl⟩ : ∃ q : Nat, y = q := ⟨y.toNat, by omega⟩
                  have hql : q < at1.length := by have := HAT.out; omega
                  obtain ⟨z, hz⟩ : ∃ z, at1[q]? = some z := ⟨_, List.getElem?_eq_getElem hql⟩
                  have HFZ : As (f q = z) := ⟨by rw [← HFI.out, Int.toNat_natCast, List.getD_eq_getElem?_getD, hz]; rfl⟩
                  rw [HFZ.out] at HN
                  obtain ⟨b3, o3, rfl, hcz⟩ := (S.im 1 rfl).num_at hz
                  have qz := ClE.cell (w := wr.drew) hcz
                  clear hz hi hi2
                  have hc := S.cells; simp only [Cells, cellsC, Im, Row, El, DicO, Nat.zero_add, Nat.reduceAdd] at hc
                  have hq := S.cellsE; simp only [CellsE, cellsE, Im, Row, El, DicO, Nat.zero_add, Nat.reduceAdd] at hq
                  go_wp2_with (first | ((first | (with_reducible refine wpl_seal S ?_) | (with_reducible refine cw_seal S ?_) | (with_reducible refine bp_seal S ?_) | (with_reducible refine ca_seal S ?_)); clear S; (try clear hc); intro w1 S; (try simp only [List.set_cons_zero, List.set_cons_succ, List.nil_append] at S); have hc := S.cells; simp only [Cells, cellsC, Im, Row, El, DicO, Nat.zero_add, Nat.reduceAdd] at hc))
                  refine wp_region_ext [⟨[0, 1, 2, 3, 4, 5], [], 6, true⟩, ⟨[], [], 7, false⟩, ⟨[8], [], 9, false⟩] [] (by kernel_rfl) (by kernel_rfl) ?_
                  refine mix_cons rfl rfl rfl ?_
                  simp only [opsAt, List.getD_cons_succ, List.getD_cons_zero]
                  repeat (go_big_quiet_step ((intro hC; first | rfl | (go_simp; first | done | rfl))))
                  refine wpQuiet_nil ?_
                  repeat (go_big_quiet_step ((intro hC; first | rfl | (go_simp; first | done | rfl))))
                  refine wpQuiet_nil ?_
                  clear hc hq qz hcz hcx
                  replace S := S.drew
                  generalize wr.drew = w4 at S ⊢
                  have hc := S.cells; simp only [Cells, cellsC, Im, Row, El, DicO, Nat.zero_add, Nat.reduceAdd] at hc
                  go_wp2_with (first | ((first | (with_reducible refine mx_seal S ?_) | (with_reducible refine wpl_seal S ?_) | (with_reducible refine ca_seal S ?_)); clear S; (try clear hc); intro w1 S; (try simp only [List.set_cons_zero, List.set_cons_succ, List.nil_append] at S); have hc := S.cells; simp only [Cells, cellsC, Im, Row, El, DicO, Nat.zero_add, Nat.reduceAdd] at hc))
                  refine ⟨fun _ => Ext.alloc _ _, ?_⟩
                  (first | refine ⟨(fun h => by cases h), ?_⟩ | skip); (first | ((first | (with_reducible refine mx_seal S ?_)); clear S; (try clear hc); intro w1 S; (try simp only [List.set_cons_zero, List.set_cons_succ, List.nil_append] at S); have hc := S.cells; simp only [Cells, cellsC, Im, Row, El, DicO, Nat.zero_add, Nat.reduceAdd] at hc) | skip); (try simp only [Act.put, List.setIfInBounds_toArray, List.set_cons_succ, List.set_cons_zero])
                  refine mix_cons rfl rfl rfl ?_
                  simp only [opsAt, List.getD_cons_succ, List.getD_cons_zero]
                  repeat (go_big_quiet_step ((intro hC; first | rfl | (go_simp; first | done | rfl))))
                  refine wpQuiet_nil ?_
                  repeat (go_big_quiet_step ((intro hC; first | rfl | (go_simp; first | done | rfl))))
                  refine wpQuiet_nil ?_
                  go_wp2_with (first | ((first | (with_reducible refine mx_seal S ?_) | (with_reducible refine wpl_seal S ?_) | (with_reducible refine ca_seal S ?_)); clear S; (try clear hc); intro w1 S; (try simp only [List.set_cons_zero, List.set_cons_succ, List.nil_append] at S); have hc := S.cells; simp only [Cells, cellsC, Im, Row, El, DicO, Nat.zero_add, Nat.reduceAdd] at hc) | (at_builtin; refine wpl_push S 1 rfl rfl _ _ rfl ty_ints rfl z _ _ rfl [_] _ (S.cel 0 rfl) rfl (by (try simp only [maxLen, List.length_nil, List.length_append, List.length_cons]); omega) (by (try simp only [maxLen, List.length_nil, List.length_append, List.length_cons]); omega) ?_; clear S; (try clear hc); intro va w1 S; simp only [List.set_cons_zero, List.set_cons_succ, List.nil_append] at S; obtain ⟨Av, cv, eva, -, -⟩ := S.row 1 rfl; subst eva; have hc := S.cells; simp only [Cells, cellsC, Im, Row, El, DicO, Nat.zero_add, Nat.reduceAdd] at hc))
                  rw [show (ws ++ [z]).length = ws.length + 1 by simp] at S
                  (first | refine ⟨(fun h => by cases h), ?_⟩ | skip); (first | ((first | (with_reducible refine mx_seal S ?_)); clear S; (try clear hc); intro w1 S; (try simp only [List.set_cons_zero, List.set_cons_succ, List.nil_append] at S); have hc := S.cells; simp only [Cells, cellsC, Im, Row, El, DicO, Nat.zero_add, Nat.reduceAdd] at hc) | skip); (try simp only [Act.put, List.setIfInBounds_toArray, List.set_cons_succ, List.set_cons_zero])
                  refine mix_cons rfl rfl rfl ?_
                  simp only [opsAt, List.getD_cons_succ, List.getD_cons_zero]
                  repeat (go_big_quiet_step ((intro hC; first | rfl | (go_simp; first | done | rfl))))
                  refine wpQuiet_nil ?_
                  repeat (go_big_quiet_step ((intro hC; first | rfl | (go_simp; first | done | rfl))))
                  refine wpQuiet_nil ?_
                  go_wp2_with (first | ((first | (with_reducible refine mx_seal S ?_) | (with_reducible refine wpl_seal S ?_) | (with_reducible refine ca_seal S ?_)); clear S; (try clear hc); intro w1 S; (try simp only [List.set_cons_zero, List.set_cons_succ, List.nil_append] at S); have hc := S.cells; simp only [Cells, cellsC, Im, Row, El, DicO, Nat.zero_add, Nat.reduceAdd] at hc))
                  (first | refine ⟨(fun h => by cases h), ?_⟩ | skip); (first | ((first | (with_reducible refine mx_seal S ?_)); clear S; (try clear hc); intro w1 S; (try simp only [List.set_cons_zero, List.set_cons_succ, List.nil_append] at S); have hc := S.cells; simp only [Cells, cellsC, Im, Row, El, DicO, Nat.zero_add, Nat.reduceAdd] at hc) | skip); (try simp only [Act.put, List.setIfInBounds_toArray, List.set_cons_succ, List.set_cons_zero])
                  refine mix_last rfl ?_
                  simp only [opsAt, List.getD_cons_succ, List.getD_cons_zero]
                  repeat (go_big_quiet_step ((intro hC; first | rfl | (go_simp; first | done | rfl))))
                  refine wpQuiet_nil ?_
                  simp only [calmQ]
                  go_wp2_with (first | ((first | (with_reducible refine wpl_seal S ?_) | (with_reducible refine cw_seal S ?_) | (with_reducible refine bp_seal S ?_) | (with_reducible refine ca_seal S ?_)); clear S; (try clear hc); intro w1 S; (try simp only [List.set_cons_zero, List.set_cons_succ, List.nil_append] at S); have hc := S.cells; simp only [Cells, cellsC, Im, Row, El, DicO, Nat.zero_add, Nat.reduceAdd] at hc))
                  go_roundw
                  case rel => exact ⟨j + 1, _, ws ++ [z], _, by go_num, by omega, by rw [List.length_append]; simp; omega, ⟨HN.out.symm⟩, ⟨(S.sel [1, 2, 3, 4, 5, 6, 7, 8, 9, 10] (by decide) rfl (by simp) : SH _ _ _ [_, _, _, _, _, _, _, _, _, _] _ _)⟩⟩
                  case measure => simp [intOf]; omega
                · have hlt' : decide ((j : Int) < whr.length) = false := decide_eq_false (by omega)
                  obtain rfl : j = whr.length := by omega
                  rw [List.take_length] at HWS
                  rw [← HWS.out] at HX
                  clear HIDX HNG HNG2 HFI HS HAT HOR HOL HIN HMX HMEM HMX2 HU H1 H2 HST hwl hou
                  obtain ⟨Ar, cr, I2, e3, hcr, S2, -⟩ := S.frow 0 rfl
                  rw [Value.slice.injEq] at e3
                  obtain ⟨rfl, -, rfl⟩ := e3
                  clear S
                  have S := S2
                  clear S2
                  simp only [List.set_cons_zero, List.set_cons_succ, List.nil_append] at S
                  have hc := S.cells; simp only [Cells, cellsC, Im, Row, El, DicO, Nat.zero_add, Nat.reduceAdd] at hc
                  have hq := S.cellsE; simp only [CellsE, cellsE, Im, Row, El, DicO, Nat.zero_add, Nat.reduceAdd] at hq
                  go_wp2_with (first | ((first | (with_reducible refine wpl_seal S ?_) | (with_reducible refine cw_seal S ?_) | (with_reducible refine bp_seal S ?_) | (with_reducible refine ca_seal S ?_)); clear S; (try clear hc); intro w1 S; (try simp only [List.set_cons_zero, List.set_cons_succ, List.nil_append] at S); have hc := S.cells; simp only [Cells, cellsC, Im, Row, El, DicO, Nat.zero_add, Nat.reduceAdd] at hc))
                  refine wp_region_forkE [3, 4, 5, 6, 8] [0, 1, 2, 11, 12] 7 9 [⟨[], [], 9, true⟩, ⟨[], [], 10, false⟩, ⟨[13, 14], [], 15, false⟩, ⟨[16, 17], [], 18, false⟩, ⟨[19, 20], [], 21, false⟩] [] [⟨[], [], 7, true⟩, ⟨[], [], 10, false⟩, ⟨[13, 14], [], 15, false⟩, ⟨[16, 17], [], 18, false⟩, ⟨[19, 20], [], 21, false⟩] [] (by kernel_rfl) (by kernel_rfl) rfl rfl rfl rfl ?_
                  (try simp only [opsAt, List.getD_cons_succ, List.getD_cons_zero])
                  repeat (go_big_quiet_step ((intro hC; first | rfl | (go_simp; first | done | rfl))))
                  refine wpQuiet_nil ?_
                  (try simp only [opsAt, List.getD_cons_succ, List.getD_cons_zero])
                  repeat (go_big_quiet_step ((intro hC; first | rfl | (go_simp; first | done | rfl))))
                  refine wpQuiet_nil ?_
                  clear hc hq
                  replace S := S.drew
                  generalize wr.drew = w5 at S ⊢
                  refine ⟨?_, ?_⟩
                  · have hc := S.cells; simp only [Cells, cellsC, Im, Row, El, DicO, Nat.zero_add, Nat.reduceAdd] at hc
                    go_wp2_with (first | ((first | (with_reducible refine mx_seal S ?_) | (with_reducible refine wpl_seal S ?_) | (with_reducible refine ca_seal S ?_)); clear S; (try clear hc); intro w1 S; (try simp only [List.set_cons_zero, List.set_cons_succ, List.nil_append] at S); have hc := S.cells; simp only [Cells, cellsC, Im, Row, El, DicO, Nat.zero_add, Nat.reduceAdd] at hc) | (go_at_call 30; refine (cloneT_c L A9 c9 _ _ S.bd (S.im 7 rfl) (by omega)).mono ?_; rintro e w1 ⟨v, rfl, hu⟩; have hxf := hu.ext; obtain ⟨I1, S1, hI1⟩ := S.new hu; clear S hu hI1; (try clear hc); have S := S1; clear S1; have hc := S.cells; simp only [Cells, cellsC, Im, Row, El, DicO, Nat.zero_add, Nat.reduceAdd] at hc; have hc := S.cells; simp only [Cells, cellsC, Im, Row, El, DicO, Nat.zero_add, Nat.reduceAdd] at hc))
                    refine ⟨hxf, ?_⟩
                    refine mix_cons rfl rfl rfl ?_
                    simp only [opsAt, List.getD_cons_succ, List.getD_cons_zero]
                    repeat (go_big_quiet_step ((intro hC; first | rfl | (go_simp; first | done | rfl))))
                    refine wpQuiet_nil ?_
                    repeat (go_big_quiet_step ((intro hC; first | rfl | (go_simp; first | done | rfl))))
                    refine wpQuiet_nil ?_
                    go_wp2_with (first | ((first | (with_reducible refine mx_seal S ?_) | (with_reducible refine wpl_seal S ?_) | (with_reducible refine ca_seal S ?_)); clear S; (try clear hc); intro w1 S; (try simp only [List.set_cons_zero, List.set_cons_succ, List.nil_append] at S); have hc := S.cells; simp only [Cells, cellsC, Im, Row, El, DicO, Nat.zero_add, Nat.reduceAdd] at hc))
                    refine ⟨fun _ => Ext.alloc _ _, ?_⟩
                    (first | refine ⟨(fun h => by cases h), ?_⟩ | skip); (first | ((first | (with_reducible refine mx_seal S ?_)); clear S; (try clear hc); intro w1 S; (try simp only [List.set_cons_zero, List.set_cons_succ, List.nil_append] at S); have hc := S.cells; simp only [Cells, cellsC, Im, Row, El, DicO, Nat.zero_add, Nat.reduceAdd] at hc) | skip); (try simp only [Act.put, List.setIfInBounds_toArray, List.set_cons_succ, List.set_cons_zero])
                    refine mix_cons rfl rfl rfl ?_
                    simp only [opsAt, List.getD_cons_succ, List.getD_cons_zero]
                    repeat (go_big_quiet_step ((intro hC; first | rfl | (go_simp; first | done | rfl))))
                    refine wpQuiet_nil ?_
                    repeat (go_big_quiet_step ((intro hC; first | rfl | (go_simp; first | done | rfl))))
                    refine wpQuiet_nil ?_
                    go_wp2_with (first | ((first | (with_reducible refine mx_seal S ?_) | (with_reducible refine wpl_seal S ?_) | (with_reducible refine ca_seal S ?_)); clear S; (try clear hc); intro w1 S; (try simp only [List.set_cons_zero, List.set_cons_succ, List.nil_append] at S); have hc := S.cells; simp only [Cells, cellsC, Im, Row, El, DicO, Nat.zero_add, Nat.reduceAdd] at hc) | (at_builtin; refine wpl_push S 1 rfl rfl _ _ rfl ty_tmps rfl (⟨⟨c, m, ⟨a, bb, l⟩⟩, st, ws⟩ : Tm) _ _ rfl [.int .i64 c, .int .i64 m, .int .i64 a, .int .i64 bb, .slice Ac l.length cc, .slice Ast st.length cs, .slice Aw ws.length cw] _ (S.cel 0 rfl) (⟨Ac, cc, Ast, cs, Aw, cw, rfl, ⟨hcc, S.im 8 rfl⟩, ⟨hcs, S.im 7 rfl⟩, hcw, S.im 2 rfl⟩) (by (try simp only [maxLen, List.length_nil, List.length_append, List.length_cons]); omega) (by (try simp only [maxLen, List.length_nil, List.length_append, List.length_cons]); omega) ?_; clear S; (try clear hc); intro va w1 S; simp only [List.set_cons_zero, List.set_cons_succ, List.nil_append] at S; have hc := S.cells; simp only [Cells, cellsC, Im, Row, El, DicO, Nat.zero_add, Nat.reduceAdd] at hc))
                    obtain ⟨Av, cv, eva, hcv, -⟩ := S.row 1 rfl
                    subst eva
                    (first | refine ⟨(fun h => by cases h), ?_⟩ | skip); (first | ((first | (with_reducible refine mx_seal S ?_)); clear S; (try clear hc); intro w1 S; (try simp only [List.set_cons_zero, List.set_cons_succ, List.nil_append] at S); have hc := S.cells; simp only [Cells, cellsC, Im, Row, El, DicO, Nat.zero_add, Nat.reduceAdd] at hc) | skip); (try simp only [Act.put, List.setIfInBounds_toArray, List.set_cons_succ, List.set_cons_zero])
                    have hc := S.cells; simp only [Cells, cellsC, Im, Row, El, DicO, Nat.zero_add, Nat.reduceAdd] at hc
                    refine mix_cons rfl rfl rfl ?_
                    simp only [opsAt, List.getD_cons_succ, List.getD_cons_zero]
                    repeat (go_big_quiet_step ((intro hC; first | rfl | (go_simp; first | done | rfl))))
                    refine wpQuiet_nil ?_
                    repeat (go_big_quiet_step ((intro hC; first | rfl | (go_simp; first | done | rfl))))
                    refine wpQuiet_nil ?_
                    go_wp2_with (first | ((first | (with_reducible refine mx_seal S ?_) | (with_reducible refine wpl_seal S ?_) | (with_reducible refine ca_seal S ?_)); clear S; (try clear hc); intro w1 S; (try simp only [List.set_cons_zero, List.set_cons_succ, List.nil_append] at S); have hc := S.cells; simp only [Cells, cellsC, Im, Row, El, DicO, Nat.zero_add, Nat.reduceAdd] at hc))
                    (first | refine ⟨(fun h => by cases h), ?_⟩ | skip); (first | ((first | (with_reducible refine mx_seal S ?_)); clear S; (try clear hc); intro w1 S; (try simp only [List.set_cons_zero, List.set_cons_succ, List.nil_append] at S); have hc := S.cells; simp only [Cells, cellsC, Im, Row, El, DicO, Nat.zero_add, Nat.reduceAdd] at hc) | skip); (try simp only [Act.put, List.setIfInBounds_toArray, List.set_cons_succ, List.set_cons_zero])
                    refine mix_cons rfl rfl rfl ?_
                    simp only [opsAt, List.getD_cons_succ, List.getD_cons_zero]
                    repeat (go_big_quiet_step ((intro hC; first | rfl | (go_simp; first | done | rfl))))
                    refine wpQuiet_nil ?_
                    repeat (go_big_quiet_step ((intro hC; first | rfl | (go_simp; first | done | rfl))))
                    refine wpQuiet_nil ?_
                    go_wp2_with (first | ((first | (with_reducible refine mx_seal S ?_) | (with_reducible refine wpl_seal S ?_) | (with_reducible refine ca_seal S ?_)); clear S; (try clear hc); intro w1 S; (try simp only [List.set_cons_zero, List.set_cons_succ, List.nil_append] at S); have hc := S.cells; simp only [Cells, cellsC, Im, Row, El, DicO, Nat.zero_add, Nat.reduceAdd] at hc))
                    (first | refine ⟨(fun h => by cases h), ?_⟩ | skip); (first | ((first | (with_reducible refine mx_seal S ?_)); clear S; (try clear hc); intro w1 S; (try simp only [List.set_cons_zero, List.set_cons_succ, List.nil_append] at S); have hc := S.cells; simp only [Cells, cellsC, Im, Row, El, DicO, Nat.zero_add, Nat.reduceAdd] at hc) | skip); (try simp only [Act.put, List.setIfInBounds_toArray, List.set_cons_succ, List.set_cons_zero])
                    refine mix_cons rfl rfl rfl ?_
                    simp only [opsAt, List.getD_cons_succ, List.getD_cons_zero]
                    repeat (go_big_quiet_step ((intro hC; first | rfl | (go_simp; first | done | rfl))))
                    refine wpQuiet_nil ?_
                    repeat (go_big_quiet_step ((intro hC; first | rfl | (go_simp; first | done | rfl))))
                    refine wpQuiet_nil ?_
                    go_wp2_with (first | ((first | (with_reducible refine mx_seal S ?_) | (with_reducible refine wpl_seal S ?_) | (with_reducible refine ca_seal S ?_)); clear S; (try clear hc); intro w1 S; (try simp only [List.set_cons_zero, List.set_cons_succ, List.nil_append] at S); have hc := S.cells; simp only [Cells, cellsC, Im, Row, El, DicO, Nat.zero_add, Nat.reduceAdd] at hc))
                    (first | refine ⟨(fun h => by cases h), ?_⟩ | skip); (first | ((first | (with_reducible refine mx_seal S ?_)); clear S; (try clear hc); intro w1 S; (try simp only [List.set_cons_zero, List.set_cons_succ, List.nil_append] at S); have hc := S.cells; simp only [Cells, cellsC, Im, Row, El, DicO, Nat.zero_add, Nat.reduceAdd] at hc) | skip); (try simp only [Act.put, List.setIfInBounds_toArray, List.set_cons_succ, List.set_cons_zero])
                    refine mix_last rfl ?_
                    simp only [opsAt, List.getD_cons_succ, List.getD_cons_zero]
                    repeat (go_big_quiet_step ((intro hC; first | rfl | (go_simp; first | done | rfl))))
                    refine wpQuiet_nil ?_
                    simp only [calmQ]
                    obtain ⟨Ar, cr, I2, e3, hcr, S2, -⟩ := S.frow 1 rfl
                    rw [Value.slice.injEq] at e3
                    obtain ⟨rfl, -, rfl⟩ := e3
                    clear S
                    have S := S2
                    clear S2
                    simp only [List.set_cons_zero, List.set_cons_succ, List.nil_append] at S
                    have hc := S.cells; simp only [Cells, cellsC, Im, Row, El, DicO, Nat.zero_add, Nat.reduceAdd] at hc
                    go_wp2_with (first | ((first | (with_reducible refine wpl_seal S ?_) | (with_reducible refine cw_seal S ?_) | (with_reducible refine bp_seal S ?_) | (with_reducible refine ca_seal S ?_)); clear S; (try clear hc); intro w1 S; (try simp only [List.set_cons_zero, List.set_cons_succ, List.nil_append] at S); have hc := S.cells; simp only [Cells, cellsC, Im, Row, El, DicO, Nat.zero_add, Nat.reduceAdd] at hc))
                    obtain ⟨rfl, rfl, rfl⟩ := HX.out
                    refine bodyPost_ret (results_tmp2 rfl _ _ _) rfl ?_
                    have HLA : As (L.length + 1 = (L ++ [(⟨⟨c, m, ⟨a, bb, l⟩⟩, st, ws⟩ : Tm)]).length) := ⟨by simp⟩
                    rw [HLA.out] at S
                    exact ⟨by first | rfl | simp, (S.dClose 11 rfl hcr hc11 (S.im 1 rfl) (S.im 4 rfl)).retU 11 rfl⟩
                  · have hc := S.cells; simp only [Cells, cellsC, Im, Row, El, DicO, Nat.zero_add, Nat.reduceAdd] at hc
                    go_wp2_with (first | ((first | (with_reducible refine mx_seal S ?_) | (with_reducible refine wpl_seal S ?_) | (with_reducible refine ca_seal S ?_)); clear S; (try clear hc); intro w1 S; (try simp only [List.set_cons_zero, List.set_cons_succ, List.nil_append] at S); have hc := S.cells; simp only [Cells, cellsC, Im, Row, El, DicO, Nat.zero_add, Nat.reduceAdd] at hc))
                    refine ⟨Ext.alloc _ _, ?_⟩
                    (first | refine ⟨(fun h => by cases h), ?_⟩ | skip); (first | ((first | (with_reducible refine mx_seal S ?_)); clear S; (try clear hc); intro w1 S; (try simp only [List.set_cons_zero, List.set_cons_succ, List.nil_append] at S); have hc := S.cells; simp only [Cells, cellsC, Im, Row, El, DicO, Nat.zero_add, Nat.reduceAdd] at hc) | skip); (try simp only [Act.put, List.setIfInBounds_toArray, List.set_cons_succ, List.set_cons_zero])
                    refine mix_cons rfl rfl rfl ?_
                    simp only [opsAt, List.getD_cons_succ, List.getD_cons_zero]
                    repeat (go_big_quiet_step ((intro hC; first | rfl | (go_simp; first | done | rfl))))
                    refine wpQuiet_nil ?_
                    repeat (go_big_quiet_step ((intro hC; first | rfl | (go_simp; first | done | rfl))))
                    refine wpQuiet_nil ?_
                    go_wp2_with (first | ((first | (with_reducible refine mx_seal S ?_) | (with_reducible refine wpl_seal S ?_) | (with_reducible refine ca_seal S ?_)); clear S; (try clear hc); intro w1 S; (try simp only [List.set_cons_zero, List.set_cons_succ, List.nil_append] at S); have hc := S.cells; simp only [Cells, cellsC, Im, Row, El, DicO, Nat.zero_add, Nat.reduceAdd] at hc) | (go_at_call 30; refine (cloneT_c L A9 c9 _ _ S.bd (S.im 8 rfl) (by omega)).mono ?_; rintro e w1 ⟨v, rfl, hu⟩; have hxf := hu.ext; obtain ⟨I1, S1, hI1⟩ := S.new hu; clear S hu hI1; (try clear hc); have S := S1; clear S1; have hc := S.cells; simp only [Cells, cellsC, Im, Row, El, DicO, Nat.zero_add, Nat.reduceAdd] at hc; have hc := S.cells; simp only [Cells, cellsC, Im, Row, El, DicO, Nat.zero_add, Nat.reduceAdd] at hc))
                    refine ⟨fun _ => hxf, ?_⟩
                    replace S := ((S.sel [1, 0, 2, 3, 4, 5, 6, 7, 8, 9, 10, 11] (by decide) rfl (by simp) : SH _ _ _ [_, _, _, _, _, _, _, _, _, _, _, _] _ _) : SH _ _ _ [_, _, _, _, _, _, _, _, _, _, _, _] _ _)
                    refine mix_cons rfl rfl rfl ?_
                    simp only [opsAt, List.getD_cons_succ, List.getD_cons_zero]
                    repeat (go_big_quiet_step ((intro hC; first | rfl | (go_simp; first | done | rfl))))
                    refine wpQuiet_nil ?_
                    repeat (go_big_quiet_step ((intro hC; first | rfl | (go_simp; first | done | rfl))))
                    refine wpQuiet_nil ?_
                    go_wp2_with (first | ((first | (with_reducible refine mx_seal S ?_) | (with_reducible refine wpl_seal S ?_) | (with_reducible refine ca_seal S ?_)); clear S; (try clear hc); intro w1 S; (try simp only [List.set_cons_zero, List.set_cons_succ, List.nil_append] at S); have hc := S.cells; simp only [Cells, cellsC, Im, Row, El, DicO, Nat.zero_add, Nat.reduceAdd] at hc) | (at_builtin; refine wpl_push S 1 rfl rfl _ _ rfl ty_tmps rfl (⟨⟨c, m, ⟨a, bb, l⟩⟩, st, ws⟩ : Tm) _ _ rfl [.int .i64 c, .int .i64 m, .int .i64 a, .int .i64 bb, .slice Ac l.length cc, .slice Ast st.length cs, .slice Aw ws.length cw] _ (S.cel 0 rfl) (⟨Ac, cc, Ast, cs, Aw, cw, rfl, ⟨hcc, S.im 8 rfl⟩, ⟨hcs, S.im 7 rfl⟩, hcw, S.im 2 rfl⟩) (by (try simp only [maxLen, List.length_nil, List.length_append, List.length_cons]); omega) (by (try simp only [maxLen, List.length_nil, List.length_append, List.length_cons]); omega) ?_; clear S; (try clear hc); intro va w1 S; simp only [List.set_cons_zero, List.set_cons_succ, List.nil_append] at S; have hc := S.cells; simp only [Cells, cellsC, Im, Row, El, DicO, Nat.zero_add, Nat.reduceAdd] at hc))
                    obtain ⟨Av, cv, eva, hcv, -⟩ := S.row 1 rfl
                    subst eva
                    (first | refine ⟨(fun h => by cases h), ?_⟩ | skip); (first | ((first | (with_reducible refine mx_seal S ?_)); clear S; (try clear hc); intro w1 S; (try simp only [List.set_cons_zero, List.set_cons_succ, List.nil_append] at S); have hc := S.cells; simp only [Cells, cellsC, Im, Row, El, DicO, Nat.zero_add, Nat.reduceAdd] at hc) | skip); (try simp only [Act.put, List.setIfInBounds_toArray, List.set_cons_succ, List.set_cons_zero])
                    have hc := S.cells; simp only [Cells, cellsC, Im, Row, El, DicO, Nat.zero_add, Nat.reduceAdd] at hc
                    refine mix_cons rfl rfl rfl ?_
                    simp only [opsAt, List.getD_cons_succ, List.getD_cons_zero]
                    repeat (go_big_quiet_step ((intro hC; first | rfl | (go_simp; first | done | rfl))))
                    refine wpQuiet_nil ?_
                    repeat (go_big_quiet_step ((intro hC; first | rfl | (go_simp; first | done | rfl))))
                    refine wpQuiet_nil ?_
                    go_wp2_with (first | ((first | (with_reducible refine mx_seal S ?_) | (with_reducible refine wpl_seal S ?_) | (with_reducible refine ca_seal S ?_)); clear S; (try clear hc); intro w1 S; (try simp only [List.set_cons_zero, List.set_cons_succ, List.nil_append] at S); have hc := S.cells; simp only [Cells, cellsC, Im, Row, El, DicO, Nat.zero_add, Nat.reduceAdd] at hc))
                    (first | refine ⟨(fun h => by cases h), ?_⟩ | skip); (first | ((first | (with_reducible refine mx_seal S ?_)); clear S; (try clear hc); intro w1 S; (try simp only [List.set_cons_zero, List.set_cons_succ, List.nil_append] at S); have hc := S.cells; simp only [Cells, cellsC, Im, Row, El, DicO, Nat.zero_add, Nat.reduceAdd] at hc) | skip); (try simp only [Act.put, List.setIfInBounds_toArray, List.set_cons_succ, List.set_cons_zero])
                    refine mix_cons rfl rfl rfl ?_
                    simp only [opsAt, List.getD_cons_succ, List.getD_cons_zero]
                    repeat (go_big_quiet_step ((intro hC; first | rfl | (go_simp; first | done | rfl))))
                    refine wpQuiet_nil ?_
                    repeat (go_big_quiet_step ((intro hC; first | rfl | (go_simp; first | done | rfl))))
                    refine wpQuiet_nil ?_
                    go_wp2_with (first | ((first | (with_reducible refine mx_seal S ?_) | (with_reducible refine wpl_seal S ?_) | (with_reducible refine ca_seal S ?_)); clear S; (try clear hc); intro w1 S; (try simp only [List.set_cons_zero, List.set_cons_succ, List.nil_append] at S); have hc := S.cells; simp only [Cells, cellsC, Im, Row, El, DicO, Nat.zero_add, Nat.reduceAdd] at hc))
                    (first | refine ⟨(fun h => by cases h), ?_⟩ | skip); (first | ((first | (with_reducible refine mx_seal S ?_)); clear S; (try clear hc); intro w1 S; (try simp only [List.set_cons_zero, List.set_cons_succ, List.nil_append] at S); have hc := S.cells; simp only [Cells, cellsC, Im, Row, El, DicO, Nat.zero_add, Nat.reduceAdd] at hc) | skip); (try simp only [Act.put, List.setIfInBounds_toArray, List.set_cons_succ, List.set_cons_zero])
                    refine mix_cons rfl rfl rfl ?_
                    simp only [opsAt, List.getD_cons_succ, List.getD_cons_zero]
                    repeat (go_big_quiet_step ((intro hC; first | rfl | (go_simp; first | done | rfl))))
                    refine wpQuiet_nil ?_
                    repeat (go_big_quiet_step ((intro hC; first | rfl | (go_simp; first | done | rfl))))
                    refine wpQuiet_nil ?_
                    go_wp2_with (first | ((first | (with_reducible refine mx_seal S ?_) | (with_reducible refine wpl_seal S ?_) | (with_reducible refine ca_seal S ?_)); clear S; (try clear hc); intro w1 S; (try simp only [List.set_cons_zero, List.set_cons_succ, List.nil_append] at S); have hc := S.cells; simp only [Cells, cellsC, Im, Row, El, DicO, Nat.zero_add, Nat.reduceAdd] at hc))
                    (first | refine ⟨(fun h => by cases h), ?_⟩ | skip); (first | ((first | (with_reducible refine mx_seal S ?_)); clear S; (try clear hc); intro w1 S; (try simp only [List.set_cons_zero, List.set_cons_succ, List.nil_append] at S); have hc := S.cells; simp only [Cells, cellsC, Im, Row, El, DicO, Nat.zero_add, Nat.reduceAdd] at hc) | skip); (try simp only [Act.put, List.setIfInBounds_toArray, List.set_cons_succ, List.set_cons_zero])
                    refine mix_last rfl ?_
                    simp only [opsAt, List.getD_cons_succ, List.getD_cons_zero]
                    repeat (go_big_quiet_step ((intro hC; first | rfl | (go_simp; first | done | rfl))))
                    refine wpQuiet_nil ?_
                    simp only [calmQ]
                    obtain ⟨Ar, cr, I2, e3, hcr, S2, -⟩ := S.frow 1 rfl
                    rw [Value.slice.injEq] at e3
                    obtain ⟨rfl, -, rfl⟩ := e3
                    clear S
                    have S := S2
                    clear S2
                    simp only [List.set_cons_zero, List.set_cons_succ, List.nil_append] at S
                    have hc := S.cells; simp only [Cells, cellsC, Im, Row, El, DicO, Nat.zero_add, Nat.reduceAdd] at hc
                    go_wp2_with (first | ((first | (with_reducible refine wpl_seal S ?_) | (with_reducible refine cw_seal S ?_) | (with_reducible refine bp_seal S ?_) | (with_reducible refine ca_seal S ?_)); clear S; (try clear hc); intro w1 S; (try simp only [List.set_cons_zero, List.set_cons_succ, List.nil_append] at S); have hc := S.cells; simp only [Cells, cellsC, Im, Row, El, DicO, Nat.zero_add, Nat.reduceAdd] at hc))
                    obtain ⟨rfl, rfl, rfl⟩ := HX.out
                    refine bodyPost_ret (results_tmp2 rfl _ _ _) rfl ?_
                    have HLA : As (L.length + 1 = (L ++ [(⟨⟨c, m, ⟨a, bb, l⟩⟩, st, ws⟩ : Tm)]).length) := ⟨by simp⟩
                    rw [HLA.out] at S
                    exact ⟨by first | rfl | simp, (S.dClose 11 rfl hcr hc11 (S.im 1 rfl) (S.im 4 rfl)).retU 11 rfl⟩
      · have HX : As (D' = ⟨L, V, ar⟩ ∧ k = -1 ∧ er = 4) := ⟨by
          have h := HR.out
          rw [if_pos ⟨rfl, rfl⟩, if_pos (of_decide_eq_true HNG.out)] at h
          obtain ⟨h1, h2⟩ := Prod.mk.inj h
          obtain ⟨h2, h3⟩ := Prod.mk.inj h2
          exact ⟨h1.symm, h2.symm, h3.symm⟩⟩
        obtain ⟨rfl, rfl, rfl⟩ := HX.out
        clear HR HX H3
        obtain ⟨c, m, a, bb, l⟩ := p
        dsimp only [picV] at *
        have hc := S.cells; simp only [Cells, cellsC, Im, Row, El, DicO, Nat.zero_add, Nat.reduceAdd] at hc
        go_enter Tryz.func8, Tryz.ntmps8
        go_wp2_with (first | ((first | (with_reducible refine wpl_seal S ?_) | (with_reducible refine cw_seal S ?_) | (with_reducible refine bp_seal S ?_) | (with_reducible refine ca_seal S ?_)); clear S; (try clear hc); intro w1 S; (try simp only [List.set_cons_zero, List.set_cons_succ, List.nil_append] at S); have hc := S.cells; simp only [Cells, cellsC, Im, Row, El, DicO, Nat.zero_add, Nat.reduceAdd] at hc) | (go_at_call 19; refine (H1.out n _ _ (HK.out _ S.chg).2.2 (HK.out _ S.chg).1).mono ?_; rintro e w1 ⟨rfl, hx⟩; replace S := S.ext hx; clear hx; (try clear hc); have hc := S.cells; simp only [Cells, cellsC, Im, Row, El, DicO, Nat.zero_add, Nat.reduceAdd] at hc) | (go_at_call 20; refine (may_c ts B d _ _ (HK.out _ S.chg).2.2 (HK.out _ S.chg).2.1 hd (by omega) H2.out).mono ?_; rintro e w1 ⟨rfl, hx⟩; replace S := S.ext hx; clear hx; (try clear hc); have hc := S.cells; simp only [Cells, cellsC, Im, Row, El, DicO, Nat.zero_add, Nat.reduceAdd] at hc) | (go_at_call 21; refine (clone_r ⟨c, m, a, bb, l⟩ A n _ _ (HK.out _ S.chg).2.2 (HK.out _ S.chg).1 hn).mono ?_; rintro e w1 ⟨Ac, cc, rfl, hu⟩; have hu := hu.flat S.bd; obtain ⟨I1, S1, hI1⟩ := S.new hu; clear S hu hI1; (try clear hc); have S := S1; clear S1; have hc := S.cells; simp only [Cells, cellsC, Im, Row, El, DicO, Nat.zero_add, Nat.reduceAdd] at hc; obtain ⟨_, _, I5, e5, hcc, S5, -⟩ := S.frow 0 rfl; cases e5; clear S; have S := S5; clear S5; simp only [List.set_cons_zero, List.set_cons_succ, List.nil_append] at S; have hc := S.cells; simp only [Cells, cellsC, Im, Row, El, DicO, Nat.zero_add, Nat.reduceAdd] at hc) | (go_at_call 23; refine (values_c B ts.length d _ _ S.bd).mono ?_; rintro e w1 ⟨gv, rfl, hu⟩; obtain ⟨I1, S1, hI1⟩ := S.new hu; clear S hu hI1; (try clear hc); have S := S1; clear S1; have hc := S.cells; simp only [Cells, cellsC, Im, Row, El, DicO, Nat.zero_add, Nat.reduceAdd] at hc; (try clear hc); have hc := S.cells; simp only [Cells, cellsC, Im, Row, El, DicO, Nat.zero_add, Nat.reduceAdd] at hc) | (go_at_call 22; refine (sorted_c ts gv _ (fun b => R b ∨ b = gv) (by rintro b (hb | rfl); exact (HK.out _ S.chg).2.2 b hb; exact lt_of_heap (S.cel 0 rfl)) (Sl.ofCel (S.cel 0 rfl) (.inr rfl) (Flat.single ⟨B, d, rfl, hd, (HK.out _ S.chg).2.1.weak fun _ _ h => .inl h⟩)) (by omega)).mono ?_; rw [HST.out]; rintro e w1 ⟨v, rfl, hu⟩; have hu := hu.flat S.bd; obtain ⟨I1, S1, hI1⟩ := S.new hu; clear S hu hI1; (try clear hc); have S := S1; clear S1; have hc := S.cells; simp only [Cells, cellsC, Im, Row, El, DicO, Nat.zero_add, Nat.reduceAdd] at hc; obtain ⟨Ast, cs, I1, e1, hcs, S1, hI1⟩ := S.frow 0 rfl; subst e1; clear S hI1; have S := S1; clear S1; simp only [List.set_cons_zero, List.set_cons_succ, List.nil_append] at S; have hc := S.cells; simp only [Cells, cellsC, Im, Row, El, DicO, Nat.zero_add, Nat.reduceAdd] at hc) | (go_at_call 24; refine (orbit_d ⟨a, bb, l⟩ st A Ast n cs _ _ S.bd R (HK.out _ S.chg).2.2 (HK.out _ S.chg).1 (S.im 1 rfl) HMX.out hn hstl HIN.out HOR.out).mono ?_; rintro e w1 ⟨A1, c1, A2, c2, J3, rfl, hc1, hc2, S3⟩; obtain ⟨J4, S4, -, -⟩ := S.comp S3; clear S S3; have S := S4; clear S4; simp only [List.cons_append, List.nil_append] at S; have hc := S.cells; simp only [Cells, cellsC, Im, Row, El, DicO, Nat.zero_add, Nat.reduceAdd] at hc) | (go_at_call 25; refine (contI_c whr (-1) A2 c2 _ _ (S.im 1 rfl) hwl HNG.out).mono ?_; rintro e w1 ⟨rfl, rfl⟩))
        refine bodyPost_ret (results_tmp2 rfl _ _ _) rfl ?_
        exact ⟨rfl, (S.dClose 11 rfl h9 h8 (S.im 7 rfl) (S.im 8 rfl)).retU 11 rfl⟩
end Go.Proofs.YtnmlonicfncpfaaGreat
