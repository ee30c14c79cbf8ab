/- The machine set back. -/
import Derived.Test.YtpgphhkhjbhimaaCNew
import Derived.Test.YtpgphhkhjbhimaaFork
import Derived.Deep.DeepCutAuto
namespace Go.Proofs.Ytpgphhkhjbhimaa.X
open Go.RowKit
section
variable {F0 I0 : Fp} {w0 w : World} {L : List Ob} {I : Fp} {P : Program} {t ety : TypeId}
theorem SH.setC {g : Nat} {t : TypeId} {c : List Value} (s : SH F0 I0 w0 L w I) (i : Nat) (e : L[i]? = some (Cel g t c)) (c' : List Value) : SH F0 I0 w0 (L.set i (Cel g t c')) (w.setRow g c'.toArray) I :=
  s.updI i e fun F ⟨hh, hf⟩ hb => ⟨F, ⟨setRow_heap w g _ _ t (0, 0) hh, hf⟩, fun k hk => ⟨by simpa [World.setRow] using (hb k hk).1, .inl hk⟩, ⟨rfl, rfl, rfl, by simp [World.setRow], fun k _ hn => setRow_other w g k _ fun e => hn (e ▸ hf)⟩⟩
/-- an operation whose guard holds -/
theorem wpl_guard {ops : Array Oper} {Q : Exit → Act → World → Prop} {o : Oper} {rest : List Oper} {a : Act} (hw : Region.wanted o (yielded ops a.tmps) = true) (h : wpList P ops Q ({ o with guard := none } :: rest) a w) : wpList P ops Q (o :: rest) a w := by
  simp only [wpList] at h ⊢
  rw [if_pos hw]
  have h2 : Region.wanted { o with guard := none } (yielded ops a.tmps) = true := rfl
  rw [if_pos h2] at h
  exact h
/-- the run of 'clear(xs)', of a block's first cells -/
theorem run_clearC (hd : P.underlying t = some (.slice ety)) {z : Value} (hz : ∀ w, (zeroValue ety).run P w = .ok z w) (hzc : z.cells = #[z]) (hz1 : z.oneCell' = true) (ty : TypeId) {g p c' : Nat} {cs : List Value} (hh : w.heap[g]? = some (.cells cs.toArray ety (0, 0))) (hp : p ≤ cs.length) (h0 : 0 < p) :
    (Builtin.clear_ #[t] ty #[.slice (some ⟨g, 0, none⟩) p c']).run P w = .ok (.tuple #[]) (w.setRow g (List.replicate p z ++ cs.drop p).toArray) := by
  obtain ⟨q, rfl⟩ : ∃ q, p = q + 1 := ⟨p - 1, by omega⟩
  obtain ⟨Z, hZ⟩ : ∃ Z, (Builtin.zeroCells z.cells (q + 1)).toList = Z := ⟨_, rfl⟩
  have hZr : Z = List.replicate (q + 1) z := by
    rw [← hZ]
    apply List.ext_getElem
    · rw [Array.length_toList, size_zeroCells, hzc]; simp
    · intro i h1 h2
      rw [List.getElem_replicate]
      simp [Builtin.zeroCells, hzc, Nat.mod_one]
  have hst := run_storeCells_at (P := P) g 0 ety Z 0 cs.toArray w hh (by rw [hZr]; simp; omega) (fun v hv => by rw [hZr] at hv; rw [List.eq_of_mem_replicate hv]; exact hz1)
  simp only [Nat.add_zero, List.take_zero, List.nil_append, Nat.zero_add] at hst
  have hl : Z.length = q + 1 := by rw [hZr]; simp
  rw [hl, hZr] at hst
  rw [hZr] at hZ
  simp [Builtin.clear_, run_underlying hd, hz, hZ, hst]
end
end Go.Proofs.Ytpgphhkhjbhimaa.X
namespace Go.Proofs.Ytpgphhkhjbhimaa
open Go.RowKit X
set_option maxHeartbeats 4000000
set_option maxRecDepth 8000
set_option linter.unusedSimpArgs false
set_option linter.unusedVariables false
section
variable {F0 I0 F I : Fp} {w0 w w' : World} {O : List Ob} {L W : List (List Int)} {st r : List Int} {rows gm : Nat}
theorem creset_no (S0 : SH F0 I0 w0 O w I) (i : Nat) (e : O[i]? = some (MaO gm L W st rows)) (p : Int) (hp : (decide (0 ≤ p) && decide (p ≤ 4096)) = false) :
    Calls Try.prog 25 #[.pointer (some ⟨gm, 0, none⟩), .int .i64 p] w fun e w' => e = .returned (.int .i64 1) ∧ w = w' := by
  have HP := As.mk hp
  clear hp S0 e
  go_enter Try.func25, Try.ntmps25
  go_wp2_with (first | (go_at_call 26; refine (cmay_c p _).mono ?_; rw [HP.out]; rintro e w1 ⟨rfl, rfl⟩))
  go_ret
  exact ⟨rfl, rfl⟩
theorem creset_r (S0 : SH F0 I0 w0 O w I) (i : Nat) (e : O[i]? = some (MaO gm L W st rows)) (p : Nat) (hp : p ≤ 4096) (hst : st.length ≤ 4096) :
    Calls Try.prog 25 #[.pointer (some ⟨gm, 0, none⟩), .int .i64 p] w fun e w' => ∃ J, e = .returned (.int .i64 0) ∧ SH F0 I0 w0 (O.set i (MaO gm L W (List.replicate p 0) 0)) w' J := by
  obtain ⟨F, hI, S, back⟩ := S0.call1 i e
  have HB := As.mk back
  clear back S0 e
  obtain ⟨ga, g, junk, S⟩ := S.openMa
  unfold maM at S
  have HMP : As ((decide (0 ≤ (p : Int)) && decide ((p : Int) ≤ 4096)) = true) := ⟨by simp; omega⟩
  have hc := S.cells; simp only [Cells, cellsC, Im, Row, El, RTH, TreeH, TR, AU, AL, OrNil, Many, MaO, FlatO, Nat.zero_add, Nat.reduceAdd] at hc
  go_enter Try.func25, Try.ntmps25
  by_cases h : st.length < p
  · have h' : decide ((st.length : Int) < p) = true := by simpa using h
    go_wp2_with (first | ((first | (with_reducible refine wpl_seal S ?_) | (with_reducible refine cw_seal S ?_) | (with_reducible refine bp_seal S ?_) | (with_reducible refine ca_seal S ?_)); clear S; (try clear hc); intro w1 S; (try simp only [List.set_cons_zero, List.set_cons_succ, List.nil_append] at S); have hc := S.cells; simp only [Cells, cellsC, Im, Row, El, RTH, TreeH, TR, AU, AL, OrNil, Many, MaO, FlatO, Nat.zero_add, Nat.reduceAdd] at hc) | (go_at_call 26; refine (cmay_c p _).mono ?_; rw [HMP.out]; rintro e w1 ⟨rfl, rfl⟩) | (at_make; refine wpl_make (k := kI) S rfl _ _ rfl (z := .int .i64 0) (bytes := 8) (size := 1) Try.underlying30 (by kernel_rfl) rfl (by omega) .i64 .i64 p rfl rfl (by omega) 0 (fun _ => rfl) (by omega) ?_; clear S; (try clear hc); intro g2 w1 S; have hc := S.cells; simp only [Cells, cellsC, Im, Row, El, RTH, TreeH, TR, AU, AL, OrNil, Many, MaO, FlatO, Nat.zero_add, Nat.reduceAdd] at hc))
    go_ret
    obtain ⟨cs, hf, S1⟩ := S.rowCel 0 (xs := List.replicate p (0 : Int)) (by rw [List.length_replicate]; rfl)
    obtain rfl := Flat.int.1 hf
    clear S hf
    have S := S1
    clear S1
    simp only [List.set_cons_zero, List.set_cons_succ, List.nil_append] at S
    have S1 : SH F I w (maM gm ga g2 L W (List.replicate p 0) [] 0 ++ []) w1 I := by
      unfold maM
      rw [List.length_replicate]
      simp only [List.append_nil]
      exact (S.sel [1, 2, 0] (by decide) rfl (by simp) : SH _ _ _ [_, _, _] _ _)
    have S2 := (S1.pack (maM gm ga g2 L W _ [] _) (L := [])).asMa 0 rfl
    obtain ⟨I', S4, -⟩ := HB.out _ _ (S2.retU 0 rfl)
    exact ⟨I', rfl, S4⟩
  · have h' : decide ((st.length : Int) < p) = false := by simp; omega
    have hps : p ≤ st.length := by omega
    go_upto_region 8 with (first | ((first | (with_reducible refine wpl_seal S ?_) | (with_reducible refine cw_seal S ?_) | (with_reducible refine bp_seal S ?_) | (with_reducible refine ca_seal S ?_)); clear S; (try clear hc); intro w1 S; (try simp only [List.set_cons_zero, List.set_cons_succ, List.nil_append] at S); have hc := S.cells; simp only [Cells, cellsC, Im, Row, El, RTH, TreeH, TR, AU, AL, OrNil, Many, MaO, FlatO, Nat.zero_add, Nat.reduceAdd] at hc) | (go_at_call 26; refine (cmay_c p _).mono ?_; rw [HMP.out]; rintro e w1 ⟨rfl, rfl⟩))
    have HC : As (∃ w2, (Builtin.clear_ #[30] 0 #[.slice (some ⟨g, 0, none⟩) p p]).run Try.prog w1 = .ok (.tuple #[]) w2 ∧ SH F I w [Cel gm 64 [.pointer (some ⟨ga, 0, none⟩), .slice (some ⟨g, 0, none⟩) p p, .int .i64 0], AU ga L W, Cel g 3 ((List.replicate p 0 ++ (st ++ junk).drop p).map (Value.int .i64))] w2 I) := ⟨by
      rcases Nat.eq_zero_or_pos p with h0 | h0
      · subst h0
        exact ⟨w1, by simp [Builtin.clear_, run_underlying Try.underlying30], S⟩
      · refine ⟨_, run_clearC (P := Try.prog) Try.underlying30 (z := .int .i64 0) (fun _ => by kernel_rfl) rfl rfl 0 (S.cel 2 rfl) (by simp; omega) h0, ?_⟩
        have h5 := S.setC 2 rfl (List.replicate p (.int .i64 0) ++ ((st ++ junk).map (Value.int .i64)).drop p)
        rw [List.map_append, List.map_replicate, List.map_drop]
        exact h5⟩
    obtain ⟨w2, hrun, S2⟩ := HC.out
    clear HC
    go_wp2_with (first | ((first | (with_reducible refine wpl_seal S ?_) | (with_reducible refine cw_seal S ?_) | (with_reducible refine bp_seal S ?_) | (with_reducible refine ca_seal S ?_)); clear S; (try clear hc); intro w1 S; (try simp only [List.set_cons_zero, List.set_cons_succ, List.nil_append] at S); have hc := S.cells; simp only [Cells, cellsC, Im, Row, El, RTH, TreeH, TR, AU, AL, OrNil, Many, MaO, FlatO, Nat.zero_add, Nat.reduceAdd] at hc))
    go_ret
    have S1 : SH F I w (maM gm ga g L W (List.replicate p 0) ((st ++ junk).drop p) 0 ++ []) w2 I := by
      unfold maM
      rw [List.length_replicate]
      exact S2
    have S3 := (S1.pack (maM gm ga g L W _ _ _) (L := [])).asMa 0 rfl
    obtain ⟨I', S4, -⟩ := HB.out _ _ (S3.retU 0 rfl)
    exact ⟨I', rfl, S4⟩
end
end Go.Proofs.Ytpgphhkhjbhimaa
