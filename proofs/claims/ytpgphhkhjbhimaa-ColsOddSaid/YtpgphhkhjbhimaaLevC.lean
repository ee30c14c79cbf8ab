/- The tree's iterator over all its nodes. -/
import Derived.Test.YtpgphhkhjbhimaaRLev
import Derived.Test.YtpgphhkhjbhimaaRF
namespace Go.Proofs.Ytpgphhkhjbhimaa
open Go.RowKit X
set_option maxHeartbeats 2000000
set_option maxRecDepth 8000
set_option linter.unusedSimpArgs false
set_option linter.unusedVariables false
attribute [local go_sem] Oper.semAt_some
/-- a tree that nobody changes, its nodes' row -/
def RdA (w : World) (D : Fp) (b : Nat) (A : Option Addr) (c : Nat) (l : List Nd) : Prop := (∃ v, w.heap[b]? = some (.cells #[.slice A l.length c, v] 81 (0, 0))) ∧ D b ∧ Sl kN w D A l
def TI (b : Nat) (A : Option Addr) (c : Nat) (l : List Nd) : Ob := .of {
  sat := fun w _ I => RdA w I b A c l
  keep := fun ⟨⟨v, h1⟩, h2, h3⟩ hk => ⟨⟨v, (hk b (lt_of_heap h1) (.inr h2)).trans h1⟩, h2, h3.keep fun b hb hd => hk b hb (.inr hd)⟩
  weak := fun ⟨⟨v, h1⟩, h2, h3⟩ _ hi _ => ⟨⟨v, h1⟩, hi b (lt_of_heap h1) h2, h3.weak hi⟩ }
theorem RdA.ext {w w' : World} {D : Fp} {b : Nat} {A : Option Addr} {c : Nat} {l : List Nd} (h : RdA w D b A c l) (hx : Ext w w') : RdA w' D b A c l := by
  obtain ⟨⟨v, h1⟩, h2, h3⟩ := h
  exact ⟨⟨v, hx.heap h1⟩, h2, h3.below hx⟩
def TIx (b : Nat) (L W : List (List Int)) : Ob := .of {
  sat := fun w _ I => ∃ A c l ws, RdA w I b A c l ∧ St l ws L W
  keep := fun ⟨A, c, l, ws, h, s⟩ hk => ⟨A, c, l, ws, (TI b A c l).keep (F := No) h (fun b hb hd => hk b hb (hd.elim False.elim .inr)), s⟩
  weak := fun ⟨A, c, l, ws, ⟨⟨v, h1⟩, h2, h3⟩, s⟩ _ hi _ => ⟨A, c, l, ws, ⟨⟨v, h1⟩, hi b (lt_of_heap h1) h2, h3.weak hi⟩, s⟩ }
/-- the tree is not changed any more -/
theorem X.SH.frzT {F0 I0 I : Fp} {w0 w : World} {O : List Ob} {L W : List (List Int)} {b : Nat} (S : SH F0 I0 w0 O w I) (i : Nat) (e : O[i]? = some (TR b L W)) :
    ∃ A c l ws I', St l ws L W ∧ SH F0 I0 w0 (O.set i (TI b A c l)) w I' ∧ (∀ b, I b → I' b) := by
  obtain ⟨I', S', hI⟩ := S.frz (h' := TIx b L W) i e fun F hF => by
    obtain ⟨l, ws, ⟨vn, vw, ns, h⟩, s⟩ := hF
    obtain ⟨A, c, A', c', hh, hb, hlc, hs, _, _⟩ := h.rdF
    exact ⟨A, c, l, ws, ⟨⟨_, hh⟩, .inr hb, hs.weak fun b _ hb => .inr hb⟩, s⟩
  obtain ⟨F, ⟨A, c, l, ws, hr, s⟩, _⟩ := S'.get i (by rw [List.getElem?_set_self (lt_of_get e)])
  have S2 := S'.know (h := TI b A c l) hr
  refine ⟨A, c, l, ws, I', s, ?_, hI⟩
  exact S2.tl.updI i (by rw [List.getElem?_set_self (lt_of_get e)]) (h' := TI b A c l) (fun F _ hF => ⟨No, hr, fun _ h => h.elim, Chg.refl _ _⟩) |> fun t => by rw [List.set_set] at t; exact t
theorem lclo_c (l : List Nd) (ws : List Int) (L W : List (List Int)) (B gt bt : Nat) (A : Option Addr) (c : Nat) (hst : St l ws L W) (hL : L.length ≤ 1000000) (h1 : ∀ i, 0 < i → i < L.length → 1 ≤ dpN L i ∧ dpN L i ≤ B) (hB : B ≤ 1000000) :
    Gives Try.prog 66 #[.pointer (some ⟨gt, 0, none⟩)] (fun n : Nat => #[.int .i64 n, .int .i64 (prR L n)]) Ext (fun _ W' => RdA W' Any bt A c l ∧ W'.cell? ⟨gt, 0, none⟩ = some (.pointer (some ⟨bt, 0, none⟩))) (fun W' => RdA W' Any bt A c l ∧ W'.cell? ⟨gt, 0, none⟩ = some (.pointer (some ⟨bt, 0, none⟩))) (lvL L B) := by
  intro lo J Jx hJ hJx hY w hw hJ0
  have HY := As.mk hY
  have HJ := As.mk hJ
  have HJX := As.mk hJx
  have HW := As.mk hw.1
  have HJ0 := As.mk hJ0
  have hcg := hw.2
  have hlen : (l.length : Int) = L.length := by rw [hst.tie.len]
  obtain ⟨v, hh⟩ := hw.1.1
  have hct := cell_of_heap (j := 0) hh rfl
  clear hh hY hJ hJx hJ0 hw
  refine callsIn_of_wp Try.func66 rfl trivial ?_ rfl; simp only [Try.ntmps66, List.size_toArray, List.length_cons, List.length_nil, Nat.reduceAdd, Nat.reduceSub, Array.replicate_succ, Array.replicate_zero, List.push_toArray, List.append_toArray, List.nil_append, List.cons_append]
  gi_wp2_with fail
  refine wpIn_wide.2 ?_
  go_quiet (fail)
  gi_wp2_with fail
  gi_loopw [3, 4] (fun d m w' => ∃ (e : Nat), e ≤ B ∧ d = .int .i64 ((e : Int) + 1) ∧ m = .int .i64 ((L.length : Int) - 1 - (lvU (dpN L) L.length e).length) ∧ As (RdA w' Any bt A c l) ∧ w'.cell? ⟨gt, 0, none⟩ = some (.pointer (some ⟨bt, 0, none⟩)) ∧ As (J (lvU (dpN L) L.length e) w')) (fun d _ _ => B + 1 - (intOf d).toNat)
  case atStart => exact ⟨0, Nat.zero_le _, rfl, by simp [lvU, hlen], ⟨HW.out.ext ((Ext.refl w).drewN _)⟩, hcg, ⟨HJ.out _ _ _ HJ0.out ((Ext.refl w).drewN _)⟩⟩
  case round =>
    clear hct hcg HW HJ0
    obtain ⟨e, he, rfl, rfl, HW, hcg, HJ0⟩ := hrel
    have hle := lvU_le (N := L.length) hst.goodR.dp0 e
    by_cases hm : (lvU (dpN L) L.length e).length < L.length - 1
    · have hm' : decide (((lvU (dpN L) L.length e).length : Int) < (L.length : Int) - 1) = true := by simp; omega
      have hlt := lvU_more hst.goodR.dp0 h1 he hm
      obtain ⟨⟨v, hh⟩, _, hs⟩ := HW.out
      have hct := cell_of_heap (j := 0) hh rfl
      clear hh hs
      gi_wp2_with fail
      gi_loopw [22, 4] (fun i m w' => ∃ (k : Nat), k ≤ L.length ∧ i = .int .i64 k ∧ m = .int .i64 ((L.length : Int) - 1 - (lvU (dpN L) L.length e ++ lvk (dpN L) (e + 1) k).length) ∧ As (RdA w' Any bt A c l) ∧ w'.cell? ⟨gt, 0, none⟩ = some (.pointer (some ⟨bt, 0, none⟩)) ∧ As (J (lvU (dpN L) L.length e ++ lvk (dpN L) (e + 1) k) w')) (fun i _ _ => L.length - (intOf i).toNat)
      case atStart => exact ⟨0, Nat.zero_le _, rfl, by simp [lvk], HW, hcg, ⟨by simpa [lvk] using HJ0.out⟩⟩
      case round =>
        clear hct hcg HW HJ0 hm' hm hle
        obtain ⟨k, hk, rfl, rfl, HW, hcg, HJ0⟩ := hrel
        by_cases hkt : k < L.length
        · have hkt' : decide ((k : Int) < l.length) = true := by rw [hlen]; simpa using hkt
          obtain ⟨⟨v, hh⟩, _, hs⟩ := HW.out
          obtain ⟨nb, o, A1, c1, A2, c2, rfl, g0, g1, g2, g3, g4, -, -⟩ := kN_at hs (i := k) (by rw [hst.tie.len]; exact hkt)
          have S := SH.start wr No (fun _ h => h.elim)
          clear hh hs
          have hup : l[k].up = prR L k := by
            rw [← hst.tie.parentR hst.rup]
            unfold parentT
            rw [if_pos (inB_nat (by rw [hst.tie.len]; exact hkt)), Int.toNat_natCast, List.getD_eq_getElem?_getD, List.getElem?_eq_getElem (by rw [hst.tie.len]; exact hkt)]; rfl
          have hdp : l[k].depth = dpN L k := by
            have := hst.tie.depth k (by rw [hst.tie.len]; exact hkt)
            unfold nd at this
            rw [List.getD_eq_getElem?_getD, List.getElem?_eq_getElem (by rw [hst.tie.len]; exact hkt)] at this
            exact this
          rw [hup] at g0
          have hc := S.cells; simp only [Cells, cellsC, Im, Row, El, RTH, TreeH, TR, Nat.zero_add, Nat.reduceAdd] at hc
          by_cases hd : dpN L k = e + 1
          · have hd' : (l[k].depth != (e : Int) + 1) = false := by rw [hdp, hd]; simp
            have HE := As.mk (lvk_yes hd)
            have HPR : As ((lvU (dpN L) L.length e ++ lvk (dpN L) (e + 1) k) ++ [k] <+: lvL L B) := ⟨by
              rw [List.append_assoc, ← lvk_yes hd]
              refine List.IsPrefix.trans ?_ (lvU_pre (d := e + 1) (by omega))
              exact (List.prefix_append_right_inj _).2 (lvk_pre (by omega))⟩
            have HUP := As.mk hup
            clear hd hdp hup
            gi_wp2_with (first | ((first | (with_reducible refine wlI_seal S ?_) | (with_reducible refine cwI_seal S ?_) | (with_reducible refine bpM_seal S ?_) | (with_reducible refine bp_seal S ?_) | (with_reducible refine caI_seal S ?_)); clear S; (try clear hc); intro w1 S; (try simp only [List.set_cons_zero, List.set_cons_succ, List.nil_append] at S); have hc := S.cells; simp only [Cells, cellsC, Im, Row, El, RTH, TreeH, TR, Nat.zero_add, Nat.reduceAdd] at hc))
            have HW1 := HW.out.ext S.out
            have hcg1 := S.out.cell hcg
            obtain ⟨fn, tmps, assign, body, hy, hR⟩ := HY.out _ k _ HPR.out (HJ.out _ _ _ HJ0.out S.out)
            rw [hy]
            clear hy
            gi_wp2_with fail
            refine hR.mono ?_
            clear hR S hc
            rintro e1 W3 (⟨rfl, hJ3, hi3, hcg3⟩ | ⟨rfl, hJx3⟩)
            · have HI3 := As.mk hi3
              have HJ3 := As.mk hJ3
              clear hi3 hJ3
              have hb1 := lvU_le (N := L.length) hst.goodR.dp0 e
              have hb2 := lvk_le (f := dpN L) (d := e + 1) (k := k)
              gi_wp2_with fail
              go_roundw
              case rel => exact ⟨k + 1, by omega, by go_num, by rw [HE.out]; simp only [List.length_append, List.length_cons, List.length_nil]; go_num, HI3, hcg3, ⟨by rw [HE.out, ← List.append_assoc]; exact HJ3.out⟩⟩
              case measure => simp [intOf] <;> omega
            · have HJ3 := As.mk hJx3
              clear hJx3
              gi_wp2_with fail
              refine bodyPost_ret (results_none rfl _ _ _) rfl ?_
              exact ⟨⟨_, rfl⟩, .inr ⟨_, HPR.out, HJ3.out⟩⟩
          · have hd' : (l[k].depth != (e : Int) + 1) = true := by rw [hdp]; rw [bne_iff_ne]; omega
            have HE := As.mk (lvk_no hd)
            clear hd hdp hup
            gi_wp2_with (first | ((first | (with_reducible refine wlI_seal S ?_) | (with_reducible refine cwI_seal S ?_) | (with_reducible refine bpM_seal S ?_) | (with_reducible refine bp_seal S ?_) | (with_reducible refine caI_seal S ?_)); clear S; (try clear hc); intro w1 S; (try simp only [List.set_cons_zero, List.set_cons_succ, List.nil_append] at S); have hc := S.cells; simp only [Cells, cellsC, Im, Row, El, RTH, TreeH, TR, Nat.zero_add, Nat.reduceAdd] at hc))
            go_roundw
            case rel => exact ⟨k + 1, by omega, by go_num, by rw [HE.out], ⟨HW.out.ext S.out⟩, S.out.cell hcg, ⟨by rw [HE.out]; exact HJ.out _ _ _ HJ0.out S.out⟩⟩
            case measure => simp [intOf] <;> omega
        · have hkt' : decide ((k : Int) < l.length) = false := by rw [hlen]; simpa using hkt
          obtain rfl : k = L.length := by omega
          gi_wp2_with fail
          go_roundw
          case rel => exact ⟨e + 1, by omega, by go_num, rfl, HW, hcg, HJ0⟩
          case measure => simp [intOf] <;> omega
    · have hm' : decide (((lvU (dpN L) L.length e).length : Int) < (L.length : Int) - 1) = false := by simp; omega
      have HE := As.mk (lvU_full hst.goodR.dp0 h1 he hm)
      clear hm hle
      gi_wp2_with fail
      go_end0
      exact ⟨⟨_, rfl⟩, .inl (by unfold lvL; rw [← HE.out]; exact HJ0.out)⟩
theorem levels_c (b : Nat) (w : World) (I : Fp) (hI : ∀ b, I b → b < w.heap.size) :
    Calls Try.prog 53 #[.pointer (some ⟨b, 0, none⟩)] w fun e w' => ∃ g, e = .returned (.func (.func 66) #[] #[.pointer (some ⟨g, 0, none⟩)]) ∧ Upd w No I w' (Cel g 54 [.pointer (some ⟨b, 0, none⟩)]) := by
  have S := SH.start w I hI
  have hc := S.cells; simp only [Cells, cellsC, Im, Row, El, RTH, TreeH, TR, Nat.zero_add, Nat.reduceAdd] at hc
  go_enter Try.func53, Try.ntmps53
  go_wp2_with (first | ((first | (with_reducible refine wpl_seal S ?_) | (with_reducible refine cw_seal S ?_) | (with_reducible refine bp_seal S ?_) | (with_reducible refine ca_seal S ?_)); clear S; (try clear hc); intro w1 S; (try simp only [List.set_cons_zero, List.set_cons_succ, List.nil_append] at S); have hc := S.cells; simp only [Cells, cellsC, Im, Row, El, RTH, TreeH, TR, Nat.zero_add, Nat.reduceAdd] at hc))
  obtain ⟨g, eg⟩ := S.name 0 rfl; rw [← eg] at S ⊢; clear eg
  go_ret
  exact ⟨g, rfl, S.ret 0 rfl⟩
end Go.Proofs.Ytpgphhkhjbhimaa
