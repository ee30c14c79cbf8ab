/- The reference's parent; all nodes by their depth. -/
import Derived.Test.YthmcefalaieigaaLvlP
namespace Go.Proofs.Ythmcefalaieigaa
open Go.RowKit X
set_option maxHeartbeats 2000000
set_option maxRecDepth 8000
set_option linter.unusedSimpArgs false
set_option linter.unusedVariables false
theorem rparent_c (L W : List (List Int)) (n : Int) (v : Value) (w : World) (I : Fp) (hI : ∀ b, I b → b < w.heap.size) (hR : RT w I v L W) (hL : L.length ≤ 1000000) (hs : ShortW L) (hne : ∀ i, 0 < i → i < L.length → pa L i ≠ []) :
    Calls Try.prog 22 #[v, .int .i64 n] w fun e w' => e = .returned (.int .i64 (prR L n)) ∧ Ext w w' := by
  obtain ⟨A, c, A', c', rfl, hc0, hc', hLs, hWs⟩ := hR
  have S := (SH.start w I hI).know (h := Im kW A L) hLs
  have HS := As.mk hs
  have hc := S.cells; simp only [Cells, cellsC, Im, Row, El, RTH, TreeH, TR, Nat.zero_add, Nat.reduceAdd] at hc
  by_cases h1 : 1 ≤ n
  · by_cases h2 : n < L.length
    · obtain ⟨k, rfl⟩ : ∃ k : Nat, n = k := ⟨n.toNat, by omega⟩
      have hk : k < L.length := by omega
      have hne' := hne k (by omega) hk
      rw [pa_eq hk] at hne'
      have hlen : 0 < L[k].length := List.length_pos_iff.2 hne'
      have h6 := hs _ (List.getElem_mem hk)
      have HE : As (prR L k = findT L (L[k].take (L[k].length - 1))) := ⟨by unfold prR; rw [if_pos ⟨h1, h2⟩, Int.toNat_natCast, pa_eq hk, List.dropLast_eq_take]⟩
      have hlk : (L[k].take (L[k].length - 1)).length = L[k].length - 1 := by rw [List.length_take]; omega
      obtain ⟨b, o, A1, c1, rfl, hcx, hc1, hs1⟩ := hLs.sl_at hk
      have hF : ∀ w', Ext w w' → Calls Try.prog 32 #[rtV (some ⟨b, o, none⟩) L.length c A' W.length c', .slice A1 (L[k].length - 1 : Nat) c1] w' fun e w2 => e = .returned (.int .i64 (findT L (L[k].take (L[k].length - 1)))) ∧ Ext w' w2 := fun w' hx => by
        have := find_c L W (L[k].take (L[k].length - 1)) (some ⟨b, o, none⟩) A' A1 c c' c1 w' _ _ (hLs.below hx) ((hs1.below hx).take _) hL HS.out (by omega)
        rwa [hlk] at this
      have HF := As.mk hF
      obtain ⟨A2, rfl⟩ : ∃ A2, A1 = some A2 := by
        obtain ⟨xb, xo, rfl, -⟩ := hs1.int_at (i := 0) hlen
        exact ⟨_, rfl⟩
      clear hF hlk hs1 hne' hne hs hLs hWs
      have HX := As.mk (Ext.refl w)
      go_enter Try.func22, Try.ntmps22
      go_upto_if 1 with (first | ((first | (with_reducible refine wpl_seal S ?_) | (with_reducible refine cw_seal S ?_) | (with_reducible refine bp_seal S ?_) | (with_reducible refine ca_seal S ?_)); clear S hc; intro w1 S; (try simp only [List.set_cons_zero, List.set_cons_succ, List.nil_append] at S); have hc := S.cells; simp only [Cells, cellsC, Im, Row, El, RTH, TreeH, TR, Nat.zero_add, Nat.reduceAdd] at hc))
      have hcx := S.out.cell hcx
      have hq := S.cellsE; simp only [CellsE, cellsE, Im, Row, El, RTH, TreeH, TR, Nat.zero_add, Nat.reduceAdd] at hq
      have hqx := ClE.cell (w := w1.drew) hcx
      go_wp2_with (first | ((first | (with_reducible refine wpl_seal S ?_) | (with_reducible refine cw_seal S ?_) | (with_reducible refine bp_seal S ?_) | (with_reducible refine ca_seal S ?_)); clear S hc; intro w1 S; (try simp only [List.set_cons_zero, List.set_cons_succ, List.nil_append] at S); have hc := S.cells; simp only [Cells, cellsC, Im, Row, El, RTH, TreeH, TR, Nat.zero_add, Nat.reduceAdd] at hc))
      refine wp_region_ext [⟨[0, 1, 2, 3, 4, 5, 6, 7, 8, 9, 10, 11, 12, 13], [], 14, false⟩] [15] (by kernel_rfl) (by kernel_rfl) ?_
      refine mix_cons rfl rfl rfl ?_
      simp only [opsAt, List.getD_cons_succ, List.getD_cons_zero]
      repeat (go_big_quiet_step ((intro hC; first | rfl | (go_simp; first | done | rfl))))
      refine wpQuiet_nil ?_
      repeat (go_big_quiet_step ((intro hC; first | rfl | (go_simp; first | done | rfl))))
      refine wpQuiet_nil ?_
      clear hq hqx hcx hc
      replace S := S.drew
      go_wp2_with (first | ((first | (with_reducible refine wpl_seal S ?_) | (with_reducible refine cw_seal S ?_) | (with_reducible refine bp_seal S ?_) | (with_reducible refine ca_seal S ?_)); clear S hc; intro w1 S; (try simp only [List.set_cons_zero, List.set_cons_succ, List.nil_append] at S); have hc := S.cells; simp only [Cells, cellsC, Im, Row, El, RTH, TreeH, TR, Nat.zero_add, Nat.reduceAdd] at hc) | (go_at_call 32; refine (HF.out _ S.out).mono ?_; rintro e w1 ⟨rfl, hx⟩; replace S := S.ext hx; clear hx))
      refine ⟨(fun h => by cases h), ?_⟩
      refine mix_last rfl ?_
      simp only [opsAt, List.getD_cons_succ, List.getD_cons_zero]
      repeat (go_big_quiet_step ((intro hC; first | rfl | (go_simp; first | done | rfl))))
      refine wpQuiet_nil ?_
      simp only [calmQ]
      have hc := S.cells; simp only [Cells, cellsC, Im, Row, El, RTH, TreeH, TR, Nat.zero_add, Nat.reduceAdd] at hc
      go_wp2_with (first | ((first | (with_reducible refine wpl_seal S ?_) | (with_reducible refine cw_seal S ?_) | (with_reducible refine bp_seal S ?_) | (with_reducible refine ca_seal S ?_)); clear S hc; intro w1 S; (try simp only [List.set_cons_zero, List.set_cons_succ, List.nil_append] at S); have hc := S.cells; simp only [Cells, cellsC, Im, Row, El, RTH, TreeH, TR, Nat.zero_add, Nat.reduceAdd] at hc))
      go_ret
      exact ⟨ret_int HE.out.symm, S.out⟩
    · go_enter Try.func22, Try.ntmps22
      go_wp2_with (first | ((first | (with_reducible refine wpl_seal S ?_) | (with_reducible refine cw_seal S ?_) | (with_reducible refine bp_seal S ?_) | (with_reducible refine ca_seal S ?_)); clear S hc; intro w1 S; (try simp only [List.set_cons_zero, List.set_cons_succ, List.nil_append] at S); have hc := S.cells; simp only [Cells, cellsC, Im, Row, El, RTH, TreeH, TR, Nat.zero_add, Nat.reduceAdd] at hc))
      go_ret
      refine ⟨ret_int ?_, S.out⟩
      unfold prR; rw [if_neg (by omega)]
  · go_enter Try.func22, Try.ntmps22
    go_wp2_with (first | ((first | (with_reducible refine wpl_seal S ?_) | (with_reducible refine cw_seal S ?_) | (with_reducible refine bp_seal S ?_) | (with_reducible refine ca_seal S ?_)); clear S hc; intro w1 S; (try simp only [List.set_cons_zero, List.set_cons_succ, List.nil_append] at S); have hc := S.cells; simp only [Cells, cellsC, Im, Row, El, RTH, TreeH, TR, Nat.zero_add, Nat.reduceAdd] at hc))
    go_ret
    refine ⟨ret_int ?_, S.out⟩
    unfold prR; rw [if_neg (by omega)]
theorem rlevels_c (L W : List (List Int)) (B : Nat) (v : Value) (w : World) (I : Fp) (hI : ∀ b, I b → b < w.heap.size) (hR : RT w I v L W) (hL : L.length ≤ 1000000) (hp : 0 < L.length) (h0 : dpN L 0 = 0) (h1 : ∀ i, 0 < i → i < L.length → 1 ≤ dpN L i ∧ dpN L i ≤ B) (hB : B ≤ 1000000) :
    Calls Try.prog 20 #[v] w fun e w' => ∃ v, e = .returned v ∧ Upd w No I w' (Row kI v ((lvL L B).map (fun k : Nat => (k : Int)))) := by
  obtain ⟨A, c, A', c', rfl, hc0, hc', hLs, hWs⟩ := hR
  have S := ((SH.start w I hI).know (h := Im kW A L) hLs).nilrow (k := kI)
  have H0 := As.mk h0
  have H1 := As.mk h1
  clear hLs hWs h1
  have hc := S.cells; simp only [Cells, cellsC, Im, Row, El, RTH, TreeH, TR, Nat.zero_add, Nat.reduceAdd] at hc
  go_enter Try.func20, Try.ntmps20
  go_upto_if 3 with (first | ((first | (with_reducible refine wpl_seal S ?_) | (with_reducible refine cw_seal S ?_) | (with_reducible refine bp_seal S ?_) | (with_reducible refine ca_seal S ?_)); clear S hc; intro w1 S; (try simp only [List.set_cons_zero, List.set_cons_succ, List.nil_append] at S); have hc := S.cells; simp only [Cells, cellsC, Im, Row, El, RTH, TreeH, TR, Nat.zero_add, Nat.reduceAdd] at hc))
  obtain ⟨gB, egB⟩ := S.name 0 rfl; rw [← egB] at S ⊢; clear egB
  have hc := S.cells; simp only [Cells, cellsC, Im, Row, El, RTH, TreeH, TR, Nat.zero_add, Nat.reduceAdd] at hc
  go_wp2_with (first | ((first | (with_reducible refine wpl_seal S ?_) | (with_reducible refine cw_seal S ?_) | (with_reducible refine bp_seal S ?_) | (with_reducible refine ca_seal S ?_)); clear S hc; intro w1 S; (try simp only [List.set_cons_zero, List.set_cons_succ, List.nil_append] at S); have hc := S.cells; simp only [Cells, cellsC, Im, Row, El, RTH, TreeH, TR, Nat.zero_add, Nat.reduceAdd] at hc))
  clear hc
  go_loopw [3, 4] (fun o d w' => ∃ (e : Nat) (out : List Int), As (out = (lvU (dpN L) L.length e).map (fun k : Nat => (k : Int))) ∧ e ≤ B ∧ d = .int .i64 ((e : Int) + 1) ∧ As (SH No I w [Cel gB 27 [.slice A L.length c, .slice A' W.length c'], Row kI o out, Im kW A L] w' I)) (fun _ d _ => B + 1 - (intOf d).toNat)
  case atStart => exact ⟨0, [], ⟨rfl⟩, Nat.zero_le _, rfl, ⟨S⟩⟩
  case round =>
    clear S
    obtain ⟨e, out, HO, he, rfl, ⟨S⟩⟩ := hrel
    have hle := lvU_le (N := L.length) H0.out e
    have hol : out.length = (lvU (dpN L) L.length e).length := by rw [HO.out, List.length_map]
    obtain ⟨Ao, co, rfl, hco, -⟩ := S.row 1 rfl
    have hc := S.cells; simp only [Cells, cellsC, Im, Row, El, RTH, TreeH, TR, Nat.zero_add, Nat.reduceAdd] at hc
    by_cases hm : (lvU (dpN L) L.length e).length < L.length - 1
    · have hm' : decide ((out.length : Int) < (L.length : Int) - 1) = true := by rw [hol]; simp; omega
      have hlt := lvU_more H0.out H1.out he hm
      have hob : out.length < 1000001 := by omega
      clear hm hle hol
      go_wp2_with (first | ((first | (with_reducible refine wpl_seal S ?_) | (with_reducible refine cw_seal S ?_) | (with_reducible refine bp_seal S ?_) | (with_reducible refine ca_seal S ?_)); clear S hc; intro w1 S; (try simp only [List.set_cons_zero, List.set_cons_succ, List.nil_append] at S); have hc := S.cells; simp only [Cells, cellsC, Im, Row, El, RTH, TreeH, TR, Nat.zero_add, Nat.reduceAdd] at hc))
      clear hc hm' hco
      go_loopw [3, 5] (fun o i w' => ∃ (k : Nat) (ou : List Int), As (ou = (lvU (dpN L) L.length e ++ lvk (dpN L) (e + 1) k).map (fun k : Nat => (k : Int))) ∧ k ≤ L.length ∧ i = .int .i64 k ∧ As (SH No I w [Cel gB 27 [.slice A L.length c, .slice A' W.length c'], Row kI o ou, Im kW A L] w' I)) (fun _ i _ => L.length - (intOf i).toNat)
      case atStart => exact ⟨0, out, ⟨by rw [show lvk (dpN L) (e + 1) 0 = [] from rfl, List.append_nil]; exact HO.out⟩, Nat.zero_le _, rfl, ⟨S⟩⟩
      case round =>
        clear S
        obtain ⟨k, ou, HU, hk, rfl, ⟨S⟩⟩ := hrel
        have hc := S.cells; simp only [Cells, cellsC, Im, Row, El, RTH, TreeH, TR, Nat.zero_add, Nat.reduceAdd] at hc
        by_cases hkt : k < L.length
        · have hkt' : decide ((k : Int) < L.length) = true := by simpa using hkt
          obtain ⟨b, o, A1, c1, rfl, hcx, -, -⟩ := (S.im 2 rfl).sl_at hkt
          by_cases hd : dpN L k = e + 1
          · have hd' : (((L[k].length : Nat) : Int) == (e : Int) + 1) = true := by unfold dpN at hd; rw [pa_eq hkt] at hd; rw [beq_iff_eq]; omega
            have hl3 : ou.length ≤ 2000000 := by
              have := lvU_le (N := L.length) H0.out e
              have := lvk_le (f := dpN L) (d := e + 1) (k := k)
              rw [HU.out]; simp; omega
            have HE : As (ou ++ [(k : Int)] = (lvU (dpN L) L.length e ++ lvk (dpN L) (e + 1) (k + 1)).map (fun k : Nat => (k : Int))) := ⟨by rw [HU.out, lvk_yes hd]; simp⟩
            clear hd
            go_wp2_with (first | ((first | (with_reducible refine wpl_seal S ?_) | (with_reducible refine cw_seal S ?_) | (with_reducible refine bp_seal S ?_) | (with_reducible refine ca_seal S ?_)); clear S hc; intro w1 S; (try simp only [List.set_cons_zero, List.set_cons_succ, List.nil_append] at S); have hc := S.cells; simp only [Cells, cellsC, Im, Row, El, RTH, TreeH, TR, Nat.zero_add, Nat.reduceAdd] at hc) | (at_builtin; refine wpl_push S 2 rfl rfl _ _ rfl ty_ints rfl (k : Int) _ _ rfl [_] _ (S.cel 0 rfl) rfl (by (try simp only [maxLen, List.length_nil, List.length_append, List.length_cons]); omega) (by (try simp only [maxLen, List.length_nil, List.length_append, List.length_cons]); omega) ?_; clear S hc; intro va w1 S; simp only [List.set_cons_zero, List.set_cons_succ, List.nil_append] at S; have hc := S.cells; simp only [Cells, cellsC, Im, Row, El, RTH, TreeH, TR, Nat.zero_add, Nat.reduceAdd] at hc))
            go_roundw
            case rel =>
              exact ⟨k + 1, _, HE, by omega, by go_num, ⟨(S.sel [1, 2, 3] (by decide) rfl (by simp) : SH _ _ _ [_, _, _] _ _)⟩⟩
            case measure => simp [intOf] <;> omega
          · have hd' : (((L[k].length : Nat) : Int) == (e : Int) + 1) = false := by unfold dpN at hd; rw [pa_eq hkt] at hd; rw [beq_eq_false_iff_ne]; omega
            have HE : As (ou = (lvU (dpN L) L.length e ++ lvk (dpN L) (e + 1) (k + 1)).map (fun k : Nat => (k : Int))) := ⟨by rw [HU.out, lvk_no hd]⟩
            clear hd
            go_wp2_with (first | ((first | (with_reducible refine wpl_seal S ?_) | (with_reducible refine cw_seal S ?_) | (with_reducible refine bp_seal S ?_) | (with_reducible refine ca_seal S ?_)); clear S hc; intro w1 S; (try simp only [List.set_cons_zero, List.set_cons_succ, List.nil_append] at S); have hc := S.cells; simp only [Cells, cellsC, Im, Row, El, RTH, TreeH, TR, Nat.zero_add, Nat.reduceAdd] at hc))
            go_roundw
            case rel =>
              exact ⟨k + 1, _, HE, by omega, by go_num, ⟨S⟩⟩
            case measure => simp [intOf] <;> omega
        · have hkt' : decide ((k : Int) < L.length) = false := by simpa using hkt
          obtain rfl : k = L.length := by omega
          go_wp2_with (first | ((first | (with_reducible refine wpl_seal S ?_) | (with_reducible refine cw_seal S ?_) | (with_reducible refine bp_seal S ?_) | (with_reducible refine ca_seal S ?_)); clear S hc; intro w1 S; (try simp only [List.set_cons_zero, List.set_cons_succ, List.nil_append] at S); have hc := S.cells; simp only [Cells, cellsC, Im, Row, El, RTH, TreeH, TR, Nat.zero_add, Nat.reduceAdd] at hc))
          go_roundw
          case rel => exact ⟨e + 1, ou, HU, by omega, by go_num, ⟨S⟩⟩
          case measure => simp [intOf] <;> omega
    · have hm' : decide ((out.length : Int) < (L.length : Int) - 1) = false := by rw [hol]; simp; omega
      have HE := As.mk (lvU_full H0.out H1.out he hm)
      have hob : out.length < 1000001 := by omega
      clear hm hle hol
      go_wp2_with (first | ((first | (with_reducible refine wpl_seal S ?_) | (with_reducible refine cw_seal S ?_) | (with_reducible refine bp_seal S ?_) | (with_reducible refine ca_seal S ?_)); clear S hc; intro w1 S; (try simp only [List.set_cons_zero, List.set_cons_succ, List.nil_append] at S); have hc := S.cells; simp only [Cells, cellsC, Im, Row, El, RTH, TreeH, TR, Nat.zero_add, Nat.reduceAdd] at hc))
      go_ret
      refine ⟨_, rfl, ?_⟩
      unfold lvL
      rw [← HE.out, ← HO.out]
      exact S.ret 1 rfl
end Go.Proofs.Ythmcefalaieigaa
