/- A template is added: the document's. -/
import Derived.Test.YtnmlonicfncpfaaGreatZRis
import Derived.Test.YtnmlonicfncpfaaGreatZRef
import Derived.Test.YtnmlonicfncpfaaGreatFork
namespace Go.Proofs.YtnmlonicfncpfaaGreat
open Go.RowKit X
set_option maxHeartbeats 4000000
set_option maxRecDepth 8000
set_option linter.unusedSimpArgs false
set_option linter.unusedVariables false
def refAdd (l : List Tv) (p : Pic) (ts : List Int) : List Tv × Int := if mayG p = true ∧ mayTs ts = true then (l ++ [⟨p, risP ts⟩], 0) else (l, 1)
theorem small_tv {p : Pic} {ts : List Int} (hp : Small p) (ht : mayTs ts = true) : SmT ⟨p, risP ts⟩ :=
  ⟨hp, ((ris_may ts).1 ht).1, risK_len _ 8, fun g hg => (ris_mem.1 hg).1, ris_strict _⟩
theorem yadd_c (l : List Tv) (p : Pic) (ts : List Int) (A B C : Option Addr) (n b c : Nat) (w : World) (I : Fp) (hI : ∀ b, I b → b < w.heap.size) (hl : Sl kyT w I A l) (hnc : l.length ≤ n) (hln : l.length ≤ 20) (hs : ∀ t ∈ l, SmT t)
    (hp : Sl kP w I B p.x.l) (hpb : p.x.l.length ≤ b) (hpn : p.x.l.length ≤ 256) (hu : ∀ q ∈ p.x.l, U64 q) (hmx : mayX p.x = true) (hsm : mayG p = true → Small p) (ht : Sl kI w I C ts) (htn : ts.length ≤ 1000) {l' : List Tv} {er : Int} (hr : refAdd l p ts = (l', er)) :
    Calls Tryz.prog 10 #[.slice A l.length n, picV p B b, .slice C ts.length c] w fun e w' => ∃ D d, e = .returned (.tuple #[.slice D l'.length d, .int .i64 er]) ∧ l'.length ≤ d ∧ Upd w No I w' (Im kyT D l') := by
  have S := (((SH.start w I hI).know (h := Im kyT A l) hl).know (h := Im kP B p.x.l) hp).know (h := Im kI C ts) ht
  obtain ⟨r, hrr⟩ : ∃ r, risP ts = r := ⟨_, rfl⟩
  obtain ⟨q, hq⟩ : ∃ q, mayG p = q := ⟨_, rfl⟩
  have HRI := As.mk (fun w I hI hl => yrising_c ts C c w I hI hl (by omega) hrr)
  have HMY := As.mk (fun w I hI hl => ymayG_c p B b w I hI hl (by omega) hu hmx hq)
  have hr8 : r.length ≤ 8 := by rw [← hrr]; exact risK_len _ _
  have HR : As ((if q = true ∧ (0 < r.length ∧ r.length = ts.length) then (l ++ [(⟨p, r⟩ : Tv)], (0 : Int)) else (l, 1)) = (l', er)) := ⟨by
    rw [← hr]; unfold refAdd
    rw [hq, hrr]
    have := ris_may ts
    rw [hrr] at this
    simp only [this]⟩
  have HSM : As (q = true → 0 < r.length → Small p ∧ SmT ⟨p, r⟩ ∧ ∀ g ∈ r, 0 ≤ g ∧ g < 8) := ⟨fun h0 h1 => by
    have hsp := hsm (by rw [hq, h0])
    refine ⟨hsp, ⟨hsp, h1, hr8, fun g hg => ?_, ?_⟩, fun g hg => ?_⟩
    · rw [← hrr] at hg; exact (ris_mem.1 hg).1
    · rw [← hrr]; exact ris_strict _
    · rw [← hrr] at hg; exact (ris_mem.1 hg).1⟩
  have HS := As.mk hs
  clear hl hp ht hr hrr hq hu hmx hsm hs
  by_cases hok : q = true ∧ (0 < r.length ∧ r.length = ts.length)
  · have HO := As.mk ((if_pos hok).symm.trans HR.out)
    obtain ⟨rfl, hr0, hrt⟩ := hok
    obtain ⟨hsp, hst, hgs⟩ := HSM.out rfl hr0
    have HSP := As.mk hsp
    have HST := As.mk hst
    have HGS := As.mk hgs
    have HRT := As.mk hrt
    have hz : ((r.length : Int) == 0) = false := by rw [beq_eq_false_iff_ne]; omega
    have hne : ((r.length : Int) != (ts.length : Int)) = false := by rw [hrt]; simp
    have HLY := As.mk (fun g hg z hz w I hI hl => ylay_c p.x g hg B b w I hI hl hsp.mx (by omega) hpb (z := z) hz (hsp.lay g))
    clear HR HSM hsp hst hgs hrt
    obtain ⟨pc, pm, ⟨pw, ph, pl⟩⟩ := p
    dsimp only [picV] at *
    have hc := S.cells; simp only [Cells, cellsC, Im, Row, El, Nat.zero_add, Nat.reduceAdd] at hc
    go_enter Tryz.func10, Tryz.ntmps10
    go_wp2_with (first | ((first | (with_reducible refine wpl_seal S ?_) | (with_reducible refine cw_seal S ?_) | (with_reducible refine bp_seal S ?_) | (with_reducible refine ca_seal S ?_)); clear S; (try clear hc); intro w1 S; (try simp only [List.set_cons_zero, List.set_cons_succ, List.nil_append] at S); have hc := S.cells; simp only [Cells, cellsC, Im, Row, El, Nat.zero_add, Nat.reduceAdd] at hc) | (go_at_call 18; refine (HRI.out _ _ S.bd (S.im 1 rfl)).mono ?_; rintro e w1 ⟨R, cr, rfl, hcr, hu⟩; obtain ⟨I1, S1, hI1⟩ := S.new hu; clear S hu hI1; (try clear hc); have S := S1; clear S1; have hc := S.cells; simp only [Cells, cellsC, Im, Row, El, Nat.zero_add, Nat.reduceAdd] at hc; have hc := S.cells; simp only [Cells, cellsC, Im, Row, El, Nat.zero_add, Nat.reduceAdd] at hc) | (go_at_call 31; refine (HMY.out _ _ S.bd (S.im 3 rfl)).mono ?_; rintro e w1 ⟨rfl, hx⟩; replace S := S.ext hx; clear hx; (try clear hc); have hc := S.cells; simp only [Cells, cellsC, Im, Row, El, Nat.zero_add, Nat.reduceAdd] at hc))
    obtain ⟨g4, eg4⟩ := S.name 1 rfl; rw [← eg4] at S ⊢; clear eg4
    clear hc
    go_loopw [10] (fun iv w' => ∃ (i : Nat) (J : Fp), iv = .int .i64 i ∧ i ≤ r.length ∧ As (SH No I w [Cel g4 40 [.int .i64 pc, .int .i64 pm, .int .i64 pw, .int .i64 ph, .slice B pl.length b], Im kI R r, Im kP B pl, Im kyT A l] w' J)) (fun iv _ => r.length - (intOf iv).toNat)
    case atStart => exact ⟨0, _, rfl, by omega, ⟨(S.sel [1, 0, 3, 4] (by decide) rfl (by simp) : SH _ _ _ [_, _, _, _] _ _)⟩⟩
    case round =>
      clear S
      obtain ⟨i, J, rfl, hi, ⟨S⟩⟩ := hrel
      by_cases hlt : i < r.length
      · have hlt' : decide ((i : Int) < r.length) = true := decide_eq_true (by omega)
        obtain ⟨gb, go, rfl, hct⟩ := (S.im 1 rfl).num_at (List.getElem?_eq_getElem hlt)
        obtain ⟨hg0, hg8⟩ := HGS.out _ (List.getElem_mem hlt)
        generalize r[i] = gg at hct hg0 hg8
        obtain ⟨g, rfl⟩ : ∃ g : Nat, gg = g := ⟨gg.toNat, by omega⟩
        have hg : g < 8 := by omega
        obtain ⟨z, hzz⟩ : ∃ z, layP (⟨pw, ph, pl⟩ : Mx) g = z := ⟨_, rfl⟩
        have HZ := As.mk hzz
        clear hzz hg0 hg8
        have p6 := ClE.cell (w := wr.drew) hct
        have hc := S.cells; simp only [Cells, cellsC, Im, Row, El, Nat.zero_add, Nat.reduceAdd] at hc
        have hq := S.cellsE; simp only [CellsE, cellsE, Im, Row, El, Nat.zero_add, Nat.reduceAdd] at hq
        go_wp2_with (first | ((first | (with_reducible refine wpl_seal S ?_) | (with_reducible refine cw_seal S ?_) | (with_reducible refine bp_seal S ?_) | (with_reducible refine ca_seal S ?_)); clear S; (try clear hc); intro w1 S; (try simp only [List.set_cons_zero, List.set_cons_succ, List.nil_append] at S); have hc := S.cells; simp only [Cells, cellsC, Im, Row, El, Nat.zero_add, Nat.reduceAdd] at hc))
        refine wp_region_forkF [0, 1, 2, 3, 4, 5] [] [9] 6 10 [⟨[7, 8], [9], 10, true⟩, ⟨[], [], 11, false⟩] [12] [⟨[], [], 6, true⟩, ⟨[7, 8], [9], 11, false⟩] [12] (by kernel_rfl) (by kernel_rfl) rfl rfl rfl rfl ?_
        (try simp only [opsAt, List.getD_cons_succ, List.getD_cons_zero])
        repeat (go_big_quiet_step ((intro hC; first | rfl | (go_simp; first | done | rfl))))
        refine wpQuiet_nil ?_
        (try simp only [opsAt, List.getD_cons_succ, List.getD_cons_zero])
        repeat (go_big_quiet_step ((intro hC; first | rfl | (go_simp; first | done | rfl))))
        refine wpQuiet_nil ?_
        clear hc hq p6 hct
        replace S := S.drew
        generalize wr.drew = w5 at S ⊢
        refine ⟨?_, ?_⟩
        · have hc := S.cells; simp only [Cells, cellsC, Im, Row, El, Nat.zero_add, Nat.reduceAdd] at hc
          go_wp2_with (first | ((first | (with_reducible refine mx_seal S ?_) | (with_reducible refine wpl_seal S ?_) | (with_reducible refine ca_seal S ?_)); clear S; (try clear hc); intro w1 S; (try simp only [List.set_cons_zero, List.set_cons_succ, List.nil_append] at S); have hc := S.cells; simp only [Cells, cellsC, Im, Row, El, Nat.zero_add, Nat.reduceAdd] at hc) | (go_at_call 32; refine (HLY.out g hg z HZ.out _ _ S.bd (S.im 2 rfl)).mono ?_; rintro e w1 ⟨B1, c1, rfl, hc1, hu⟩; have hxf := hu.ext; obtain ⟨I1, S1, hI1⟩ := S.new hu; clear S hu hI1; (try clear hc); have S := S1; clear S1; have hc := S.cells; simp only [Cells, cellsC, Im, Row, El, Nat.zero_add, Nat.reduceAdd] at hc; have hc := S.cells; simp only [Cells, cellsC, Im, Row, El, Nat.zero_add, Nat.reduceAdd] at hc))
          refine ⟨hxf, ?_⟩
          refine mix_cons rfl rfl rfl ?_
          simp only [opsAt, List.getD_cons_succ, List.getD_cons_zero]
          repeat (go_big_quiet_step ((intro hC; first | rfl | (go_simp; first | done | rfl))))
          refine wpQuiet_nil ?_
          repeat (go_big_quiet_step ((intro hC; first | rfl | (go_simp; first | done | rfl))))
          refine wpQuiet_nil ?_
          go_wp2_with (first | ((first | (with_reducible refine mx_seal S ?_) | (with_reducible refine wpl_seal S ?_) | (with_reducible refine ca_seal S ?_)); clear S; (try clear hc); intro w1 S; (try simp only [List.set_cons_zero, List.set_cons_succ, List.nil_append] at S); have hc := S.cells; simp only [Cells, cellsC, Im, Row, El, Nat.zero_add, Nat.reduceAdd] at hc))
          refine ⟨fun _ => Ext.alloc _ _, ?_⟩
          (first | refine ⟨(fun h => by cases h), ?_⟩ | skip); (first | ((first | (with_reducible refine mx_seal S ?_)); clear S; (try clear hc); intro w1 S; (try simp only [List.set_cons_zero, List.set_cons_succ, List.nil_append] at S); have hc := S.cells; simp only [Cells, cellsC, Im, Row, El, Nat.zero_add, Nat.reduceAdd] at hc) | skip); (try simp only [Act.put, List.setIfInBounds_toArray, List.set_cons_succ, List.set_cons_zero])
          refine mix_cons rfl rfl rfl ?_
          simp only [opsAt, List.getD_cons_succ, List.getD_cons_zero]
          repeat (go_big_quiet_step ((intro hC; first | rfl | (go_simp; first | done | rfl))))
          refine wpQuiet_nil ?_
          repeat (go_big_quiet_step ((intro hC; first | rfl | (go_simp; first | done | rfl))))
          refine wpQuiet_nil ?_
          go_wp2_with (first | ((first | (with_reducible refine mx_seal S ?_) | (with_reducible refine wpl_seal S ?_) | (with_reducible refine ca_seal S ?_)); clear S; (try clear hc); intro w1 S; (try simp only [List.set_cons_zero, List.set_cons_succ, List.nil_append] at S); have hc := S.cells; simp only [Cells, cellsC, Im, Row, El, Nat.zero_add, Nat.reduceAdd] at hc))
          (first | refine ⟨(fun h => by cases h), ?_⟩ | skip); (first | ((first | (with_reducible refine mx_seal S ?_)); clear S; (try clear hc); intro w1 S; (try simp only [List.set_cons_zero, List.set_cons_succ, List.nil_append] at S); have hc := S.cells; simp only [Cells, cellsC, Im, Row, El, Nat.zero_add, Nat.reduceAdd] at hc) | skip); (try simp only [Act.put, List.setIfInBounds_toArray, List.set_cons_succ, List.set_cons_zero])
          refine mix_last rfl ?_
          simp only [opsAt, List.getD_cons_succ, List.getD_cons_zero]
          repeat (go_big_quiet_step ((intro hC; first | rfl | (go_simp; first | done | rfl))))
          refine wpQuiet_nil ?_
          simp only [calmQ]
          go_wp2_with (first | ((first | (with_reducible refine wpl_seal S ?_) | (with_reducible refine cw_seal S ?_) | (with_reducible refine bp_seal S ?_) | (with_reducible refine ca_seal S ?_)); clear S; (try clear hc); intro w1 S; (try simp only [List.set_cons_zero, List.set_cons_succ, List.nil_append] at S); have hc := S.cells; simp only [Cells, cellsC, Im, Row, El, Nat.zero_add, Nat.reduceAdd] at hc))
          go_roundw
          case rel => exact ⟨i + 1, _, by go_num, by omega, ⟨(S.sel [2, 3, 4, 5] (by decide) rfl (by simp) : SH _ _ _ [_, _, _, _] _ _)⟩⟩
          case measure => simp [intOf]; omega
        · have hc := S.cells; simp only [Cells, cellsC, Im, Row, El, Nat.zero_add, Nat.reduceAdd] at hc
          go_wp2_with (first | ((first | (with_reducible refine mx_seal S ?_) | (with_reducible refine wpl_seal S ?_) | (with_reducible refine ca_seal S ?_)); clear S; (try clear hc); intro w1 S; (try simp only [List.set_cons_zero, List.set_cons_succ, List.nil_append] at S); have hc := S.cells; simp only [Cells, cellsC, Im, Row, El, Nat.zero_add, Nat.reduceAdd] at hc))
          refine ⟨Ext.alloc _ _, ?_⟩
          (first | refine ⟨(fun h => by cases h), ?_⟩ | skip); (first | ((first | (with_reducible refine mx_seal S ?_)); clear S; (try clear hc); intro w1 S; (try simp only [List.set_cons_zero, List.set_cons_succ, List.nil_append] at S); have hc := S.cells; simp only [Cells, cellsC, Im, Row, El, Nat.zero_add, Nat.reduceAdd] at hc) | skip); (try simp only [Act.put, List.setIfInBounds_toArray, List.set_cons_succ, List.set_cons_zero])
          refine mix_cons rfl rfl rfl ?_
          simp only [opsAt, List.getD_cons_succ, List.getD_cons_zero]
          repeat (go_big_quiet_step ((intro hC; first | rfl | (go_simp; first | done | rfl))))
          refine wpQuiet_nil ?_
          repeat (go_big_quiet_step ((intro hC; first | rfl | (go_simp; first | done | rfl))))
          refine wpQuiet_nil ?_
          go_wp2_with (first | ((first | (with_reducible refine mx_seal S ?_) | (with_reducible refine wpl_seal S ?_) | (with_reducible refine ca_seal S ?_)); clear S; (try clear hc); intro w1 S; (try simp only [List.set_cons_zero, List.set_cons_succ, List.nil_append] at S); have hc := S.cells; simp only [Cells, cellsC, Im, Row, El, Nat.zero_add, Nat.reduceAdd] at hc) | (go_at_call 32; refine (HLY.out g hg z HZ.out _ _ S.bd (S.im 3 rfl)).mono ?_; rintro e w1 ⟨B1, c1, rfl, hc1, hu⟩; have hxf := hu.ext; obtain ⟨I1, S1, hI1⟩ := S.new hu; clear S hu hI1; (try clear hc); have S := S1; clear S1; have hc := S.cells; simp only [Cells, cellsC, Im, Row, El, Nat.zero_add, Nat.reduceAdd] at hc; have hc := S.cells; simp only [Cells, cellsC, Im, Row, El, Nat.zero_add, Nat.reduceAdd] at hc))
          refine ⟨fun _ => hxf, ?_⟩
          (first | refine ⟨(fun h => by cases h), ?_⟩ | skip); (first | ((first | (with_reducible refine mx_seal S ?_)); clear S; (try clear hc); intro w1 S; (try simp only [List.set_cons_zero, List.set_cons_succ, List.nil_append] at S); have hc := S.cells; simp only [Cells, cellsC, Im, Row, El, Nat.zero_add, Nat.reduceAdd] at hc) | skip); (try simp only [Act.put, List.setIfInBounds_toArray, List.set_cons_succ, List.set_cons_zero])
          refine mix_cons rfl rfl rfl ?_
          simp only [opsAt, List.getD_cons_succ, List.getD_cons_zero]
          repeat (go_big_quiet_step ((intro hC; first | rfl | (go_simp; first | done | rfl))))
          refine wpQuiet_nil ?_
          repeat (go_big_quiet_step ((intro hC; first | rfl | (go_simp; first | done | rfl))))
          refine wpQuiet_nil ?_
          go_wp2_with (first | ((first | (with_reducible refine mx_seal S ?_) | (with_reducible refine wpl_seal S ?_) | (with_reducible refine ca_seal S ?_)); clear S; (try clear hc); intro w1 S; (try simp only [List.set_cons_zero, List.set_cons_succ, List.nil_append] at S); have hc := S.cells; simp only [Cells, cellsC, Im, Row, El, Nat.zero_add, Nat.reduceAdd] at hc))
          (first | refine ⟨(fun h => by cases h), ?_⟩ | skip); (first | ((first | (with_reducible refine mx_seal S ?_)); clear S; (try clear hc); intro w1 S; (try simp only [List.set_cons_zero, List.set_cons_succ, List.nil_append] at S); have hc := S.cells; simp only [Cells, cellsC, Im, Row, El, Nat.zero_add, Nat.reduceAdd] at hc) | skip); (try simp only [Act.put, List.setIfInBounds_toArray, List.set_cons_succ, List.set_cons_zero])
          refine mix_last rfl ?_
          simp only [opsAt, List.getD_cons_succ, List.getD_cons_zero]
          repeat (go_big_quiet_step ((intro hC; first | rfl | (go_simp; first | done | rfl))))
          refine wpQuiet_nil ?_
          simp only [calmQ]
          go_wp2_with (first | ((first | (with_reducible refine wpl_seal S ?_) | (with_reducible refine cw_seal S ?_) | (with_reducible refine bp_seal S ?_) | (with_reducible refine ca_seal S ?_)); clear S; (try clear hc); intro w1 S; (try simp only [List.set_cons_zero, List.set_cons_succ, List.nil_append] at S); have hc := S.cells; simp only [Cells, cellsC, Im, Row, El, Nat.zero_add, Nat.reduceAdd] at hc))
          go_roundw
          case rel => exact ⟨i + 1, _, by go_num, by omega, ⟨(S.sel [2, 3, 4, 5] (by decide) rfl (by simp) : SH _ _ _ [_, _, _, _] _ _)⟩⟩
          case measure => simp [intOf]; omega
      · have hlt' : decide ((i : Int) < r.length) = false := decide_eq_false (by omega)
        obtain ⟨rfl, rfl⟩ := Prod.mk.inj HO.out
        have HLL : As ((l ++ [(⟨⟨pc, pm, ⟨pw, ph, pl⟩⟩, r⟩ : Tv)]).length = l.length + 1) := ⟨by simp⟩
        have HSA := As.mk (show ∀ t ∈ l ++ [(⟨⟨pc, pm, ⟨pw, ph, pl⟩⟩, r⟩ : Tv)], SmT t from fun t ht => by
          rcases List.mem_append.1 ht with h | h
          · exact HS.out t h
          · rw [List.mem_singleton] at h; subst h; exact HST.out)
        obtain ⟨V, hV⟩ : ∃ V, varsP (l ++ [(⟨⟨pc, pm, ⟨pw, ph, pl⟩⟩, r⟩ : Tv)]) = V := ⟨_, rfl⟩
        obtain ⟨ar, har⟩ : ∃ ar, areaP V = ar := ⟨_, rfl⟩
        have HVB := As.mk (show (∀ p ∈ V, p.x.l.length ≤ 1000000) ∧ V.length ≤ 1000000 by
          obtain ⟨h1, h2, -⟩ := vars_small _ HSA.out
          rw [hV] at h1 h2
          rw [HLL.out] at h2
          exact ⟨fun p hp => by have := (h1 p hp).len; omega, by omega⟩)
        have har2 : ar ≤ 65536 := by
          have := (area_small _ HSA.out).1
          rw [hV, har, HLL.out] at this
          omega
        have HV := As.mk hV
        have HAR := As.mk har
        have ha' : decide (ar > 65536) = false := decide_eq_false (by omega)
        have hl' : decide (((l.length + 1 : Nat) : Int) > 64) = false := decide_eq_false (by omega)
        clear hV har
        replace S := S.nilrow (k := kyT)
        have hc := S.cells; simp only [Cells, cellsC, Im, Row, El, Nat.zero_add, Nat.reduceAdd] at hc
        go_upto_region 14 with (first | ((first | (with_reducible refine wpl_seal S ?_) | (with_reducible refine cw_seal S ?_) | (with_reducible refine bp_seal S ?_) | (with_reducible refine ca_seal S ?_)); clear S; (try clear hc); intro w1 S; (try simp only [List.set_cons_zero, List.set_cons_succ, List.nil_append] at S); have hc := S.cells; simp only [Cells, cellsC, Im, Row, El, Nat.zero_add, Nat.reduceAdd] at hc) | (at_builtin; refine wpl_app S 0 rfl rfl _ _ rfl ty_ytvs rfl A n _ rfl _ (fun _ _ h => h) ((S.im 4 rfl)) (by (try simp only [maxLen, List.length_nil, List.length_append, List.length_cons]); omega) (by (try simp only [maxLen, List.length_nil, List.length_append, List.length_cons]); omega) ?_; clear S; (try clear hc); intro va w1 S; simp only [List.set_cons_zero, List.set_cons_succ, List.nil_append] at S; have hc := S.cells; simp only [Cells, cellsC, Im, Row, El, Nat.zero_add, Nat.reduceAdd] at hc) | (at_builtin; refine wpl_push S 1 rfl rfl _ _ rfl ty_ytvs rfl (⟨⟨pc, pm, ⟨pw, ph, pl⟩⟩, r⟩ : Tv) _ _ rfl [.int .i64 pc, .int .i64 pm, .int .i64 pw, .int .i64 ph, .slice B pl.length b, .slice R r.length cr] _ (S.cel 0 rfl) (⟨B, b, R, cr, rfl, ⟨hpb, S.im 4 rfl⟩, hcr, S.im 3 rfl⟩) (by (try simp only [maxLen, List.length_nil, List.length_append, List.length_cons]); omega) (by (try simp only [maxLen, List.length_nil, List.length_append, List.length_cons]); omega) ?_; clear S; (try clear hc); intro va w1 S; simp only [List.set_cons_zero, List.set_cons_succ, List.nil_append] at S; have hc := S.cells; simp only [Cells, cellsC, Im, Row, El, Nat.zero_add, Nat.reduceAdd] at hc))
        obtain ⟨AO, cO, I1, e1, hcO, S1, hI1⟩ := S.frow 1 rfl; subst e1; clear S hI1; have S := S1; clear S1; simp only [List.set_cons_zero, List.set_cons_succ, List.nil_append] at S
        obtain ⟨lo, hlo⟩ : ∃ lo, l ++ [(⟨⟨pc, pm, ⟨pw, ph, pl⟩⟩, r⟩ : Tv)] = lo := ⟨_, rfl⟩
        rw [hlo] at S hcO HV HSA HLL ⊢
        have HLO := As.mk hlo
        clear hlo
        have hl2 : decide ((lo.length : Int) > 64) = false := decide_eq_false (by have := HLL.out; omega)
        have HL2 := As.mk (show lo.length ≤ 1000 by have := HLL.out; omega)
        clear ha' hl' HLL
        have ha' : decide (ar > 65536) = false := decide_eq_false (by omega)
        have hc := S.cells; simp only [Cells, cellsC, Im, Row, El, Nat.zero_add, Nat.reduceAdd] at hc
        go_wp2_with (first | ((first | (with_reducible refine wpl_seal S ?_) | (with_reducible refine cw_seal S ?_) | (with_reducible refine bp_seal S ?_) | (with_reducible refine ca_seal S ?_)); clear S; (try clear hc); intro w1 S; (try simp only [List.set_cons_zero, List.set_cons_succ, List.nil_append] at S); have hc := S.cells; simp only [Cells, cellsC, Im, Row, El, Nat.zero_add, Nat.reduceAdd] at hc) | (go_at_call 34; refine (yvars_c lo AO cO _ _ S.bd (S.im 1 rfl) HL2.out (fun t ht => (HSA.out t ht).ok) HV.out).mono ?_; rintro e w1 ⟨BV, cV, rfl, -, hu⟩; obtain ⟨I1, S1, hI1⟩ := S.new hu; clear S hu hI1; (try clear hc); have S := S1; clear S1; have hc := S.cells; simp only [Cells, cellsC, Im, Row, El, Nat.zero_add, Nat.reduceAdd] at hc; have hc := S.cells; simp only [Cells, cellsC, Im, Row, El, Nat.zero_add, Nat.reduceAdd] at hc) | (go_at_call 33; refine (yarea_c V BV cV _ _ S.bd (S.im 0 rfl) HVB.out.2 HVB.out.1 HAR.out).mono ?_; rintro e w1 ⟨rfl, hx⟩; replace S := S.ext hx; clear hx; (try clear hc); have hc := S.cells; simp only [Cells, cellsC, Im, Row, El, Nat.zero_add, Nat.reduceAdd] at hc))
        refine bodyPost_ret (results_tmp2 rfl _ _ _) rfl ?_
        rw [HLO.out]
        exact ⟨AO, cO, rfl, hcO, S.ret 2 rfl⟩
  · have HO := As.mk ((if_neg hok).symm.trans HR.out)
    obtain ⟨rfl, rfl⟩ := Prod.mk.inj HO.out
    have HQ := As.mk hok
    clear HR HSM HO hok
    obtain ⟨pc, pm, ⟨pw, ph, pl⟩⟩ := p
    dsimp only [picV] at *
    have hc := S.cells; simp only [Cells, cellsC, Im, Row, El, Nat.zero_add, Nat.reduceAdd] at hc
    rcases q with _ | _
    · go_enter Tryz.func10, Tryz.ntmps10
      go_wp2_with (first | ((first | (with_reducible refine wpl_seal S ?_) | (with_reducible refine cw_seal S ?_) | (with_reducible refine bp_seal S ?_) | (with_reducible refine ca_seal S ?_)); clear S; (try clear hc); intro w1 S; (try simp only [List.set_cons_zero, List.set_cons_succ, List.nil_append] at S); have hc := S.cells; simp only [Cells, cellsC, Im, Row, El, Nat.zero_add, Nat.reduceAdd] at hc) | (go_at_call 18; refine (HRI.out _ _ S.bd (S.im 1 rfl)).mono ?_; rintro e w1 ⟨R, cr, rfl, hcr, hu⟩; obtain ⟨I1, S1, hI1⟩ := S.new hu; clear S hu hI1; (try clear hc); have S := S1; clear S1; have hc := S.cells; simp only [Cells, cellsC, Im, Row, El, Nat.zero_add, Nat.reduceAdd] at hc; have hc := S.cells; simp only [Cells, cellsC, Im, Row, El, Nat.zero_add, Nat.reduceAdd] at hc) | (go_at_call 31; refine (HMY.out _ _ S.bd (S.im 3 rfl)).mono ?_; rintro e w1 ⟨rfl, hx⟩; replace S := S.ext hx; clear hx; (try clear hc); have hc := S.cells; simp only [Cells, cellsC, Im, Row, El, Nat.zero_add, Nat.reduceAdd] at hc))
      refine bodyPost_ret (results_tmp2 rfl _ _ _) rfl ?_
      exact ⟨A, n, rfl, hnc, S.ret 4 rfl⟩
    · by_cases h0 : r.length = 0
      · have hz : ((r.length : Int) == 0) = true := by rw [h0]; rfl
        clear h0
        go_enter Tryz.func10, Tryz.ntmps10
        go_wp2_with (first | ((first | (with_reducible refine wpl_seal S ?_) | (with_reducible refine cw_seal S ?_) | (with_reducible refine bp_seal S ?_) | (with_reducible refine ca_seal S ?_)); clear S; (try clear hc); intro w1 S; (try simp only [List.set_cons_zero, List.set_cons_succ, List.nil_append] at S); have hc := S.cells; simp only [Cells, cellsC, Im, Row, El, Nat.zero_add, Nat.reduceAdd] at hc) | (go_at_call 18; refine (HRI.out _ _ S.bd (S.im 1 rfl)).mono ?_; rintro e w1 ⟨R, cr, rfl, hcr, hu⟩; obtain ⟨I1, S1, hI1⟩ := S.new hu; clear S hu hI1; (try clear hc); have S := S1; clear S1; have hc := S.cells; simp only [Cells, cellsC, Im, Row, El, Nat.zero_add, Nat.reduceAdd] at hc; have hc := S.cells; simp only [Cells, cellsC, Im, Row, El, Nat.zero_add, Nat.reduceAdd] at hc) | (go_at_call 31; refine (HMY.out _ _ S.bd (S.im 3 rfl)).mono ?_; rintro e w1 ⟨rfl, hx⟩; replace S := S.ext hx; clear hx; (try clear hc); have hc := S.cells; simp only [Cells, cellsC, Im, Row, El, Nat.zero_add, Nat.reduceAdd] at hc))
        refine bodyPost_ret (results_tmp2 rfl _ _ _) rfl ?_
        exact ⟨A, n, rfl, hnc, S.ret 4 rfl⟩
      · have hz : ((r.length : Int) == 0) = false := by rw [beq_eq_false_iff_ne]; omega
        have hne : ((r.length : Int) != (ts.length : Int)) = true := by rw [bne_iff_ne]; intro e; exact HQ.out ⟨rfl, by omega, by omega⟩
        clear h0
        go_enter Tryz.func10, Tryz.ntmps10
        go_wp2_with (first | ((first | (with_reducible refine wpl_seal S ?_) | (with_reducible refine cw_seal S ?_) | (with_reducible refine bp_seal S ?_) | (with_reducible refine ca_seal S ?_)); clear S; (try clear hc); intro w1 S; (try simp only [List.set_cons_zero, List.set_cons_succ, List.nil_append] at S); have hc := S.cells; simp only [Cells, cellsC, Im, Row, El, Nat.zero_add, Nat.reduceAdd] at hc) | (go_at_call 18; refine (HRI.out _ _ S.bd (S.im 1 rfl)).mono ?_; rintro e w1 ⟨R, cr, rfl, hcr, hu⟩; obtain ⟨I1, S1, hI1⟩ := S.new hu; clear S hu hI1; (try clear hc); have S := S1; clear S1; have hc := S.cells; simp only [Cells, cellsC, Im, Row, El, Nat.zero_add, Nat.reduceAdd] at hc; have hc := S.cells; simp only [Cells, cellsC, Im, Row, El, Nat.zero_add, Nat.reduceAdd] at hc) | (go_at_call 31; refine (HMY.out _ _ S.bd (S.im 3 rfl)).mono ?_; rintro e w1 ⟨rfl, hx⟩; replace S := S.ext hx; clear hx; (try clear hc); have hc := S.cells; simp only [Cells, cellsC, Im, Row, El, Nat.zero_add, Nat.reduceAdd] at hc))
        refine bodyPost_ret (results_tmp2 rfl _ _ _) rfl ?_
        exact ⟨A, n, rfl, hnc, S.ret 4 rfl⟩
end Go.Proofs.YtnmlonicfncpfaaGreat
