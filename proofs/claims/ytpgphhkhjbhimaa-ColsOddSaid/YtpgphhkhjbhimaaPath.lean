/- A node's path. -/
import Derived.Test.YtpgphhkhjbhimaaRev
namespace Go.Proofs.Ytpgphhkhjbhimaa
open Go.RowKit X
set_option maxHeartbeats 400000

/-- the numbers from a node up to the root -/
def upT (l : List Nd) : Nat → Int → List Int
  | 0, _ => []
  | f + 1, n => if inB l n = true ∧ 0 < n then (l.getD n.toNat default).p :: upT l f (l.getD n.toNat default).up else []
/-- a node's path -/
def pathT (l : List Nd) (n : Int) : List Int := (upT l (n.toNat + 1) n).reverse

theorem upT_fuel {l : List Nd} (hG : GoodT l) : ∀ (f : Nat) (n : Int), n < f → upT l (n.toNat + 1) n = upT l f n
  | 0, n, h => by
    have : ¬ (inB l n = true ∧ 0 < n) := by rintro ⟨_, h2⟩; omega
    simp only [upT, if_neg this]
  | f + 1, n, h => by
    simp only [upT]
    by_cases hn : inB l n = true ∧ 0 < n
    · rw [if_pos hn, if_pos hn]
      obtain ⟨k, rfl, hk⟩ := inB_true hn.1
      have e : l.getD k default = l[k] := by simp [List.getD_eq_getElem?_getD, hk]
      have hu := hG.up k hk (by omega)
      rw [Int.toNat_natCast, e, ← upT_fuel hG k _ (by omega), ← upT_fuel hG f _ (by omega)]
    · rw [if_neg hn, if_neg hn]
theorem upT_step {l : List Nd} (hG : GoodT l) {k : Nat} (hk : k < l.length) (h0 : 0 < k) : upT l (k + 1) k = l[k].p :: upT l ((l[k].up).toNat + 1) l[k].up := by
  have e : l.getD k default = l[k] := by simp [List.getD_eq_getElem?_getD, hk]
  have hu := hG.up k hk h0
  simp only [upT]
  rw [if_pos ⟨inB_nat hk, by omega⟩, Int.toNat_natCast, e, ← upT_fuel hG k _ (by omega)]
  simp only [upT]

theorem path_c (l : List Nd) (ws : List Int) (n : Int) (b : Nat) (w : World) (D : Nat → Prop) (hT : RdT w D b l ws) (hG : GoodT l) :
    Calls Try.prog 54 #[.pointer (some ⟨b, 0, none⟩), .int .i64 n] w fun e w' => ∃ v, e = .returned v ∧ Own (Kd.int 58 .u64) w' w.heap.size No v (pathT l n) ∧ Ext w w' := by
  have HT := As.mk hT
  have HG := As.mk hG
  have hsm := hG.small
  clear hT hG
  go_enter Try.func54, Try.ntmps54
  go_wp2_with fail
  go_loopw [1, 5] (fun i v w' => ∃ (m : Int) (out : List Int), i = .int .i64 m ∧ out.length ≤ 1048576 ∧ As (out ++ upT l (m.toNat + 1) m = upT l (n.toNat + 1) n ∧ (inB l m = true → out.length + m.toNat ≤ 1048576)) ∧ As (Own (Kd.int 58 .u64) w' w.heap.size No v out) ∧ As (Ext w w'))
    (fun i _ _ => (intOf i).toNat)
  case atStart => exact ⟨n, [], rfl, by simp, ⟨rfl, fun h => by obtain ⟨k, rfl, hk⟩ := inB_true h; simp; omega⟩, ⟨Own.nil⟩, ⟨Ext.refl _⟩⟩
  case round =>
    obtain ⟨m, out, rfl, hol, HU, HO, HX⟩ := hrel
    by_cases hin : inB l m = true
    · obtain ⟨k, rfl, hk⟩ := inB_true hin
      by_cases h0 : 0 < k
      · have h0' : decide ((k : Int) > 0) = true := by simpa using h0
        have hlen := HU.out.2 hin
        have hL : out.length + k ≤ 1048576 := by simpa using hlen
        clear hlen
        have HU' := As.mk (HG.out.up k hk h0)
        obtain ⟨A, c, A', c', hh, _, _, hl, _, _⟩ := HT.out.below HX.out
        have hc := cell_of_heap (j := 0) hh rfl
        obtain ⟨nb, o, A1, c1, A2, c2, rfl, g0, g1, _, _, _, _, _⟩ := kN_at hl hk
        clear hh hl
        have HXa := As.mk (HX.out.tr (Ext.alloc wr (.cells #[.int .u64 l[k].p] 58)))
        have HOa := As.mk (HO.out.ext (Ext.alloc wr (.cells #[.int .u64 l[k].p] 58)))
        go_wp2_with (first | (go_at_call 64; refine (in_c l ws _ _ _ D (HT.out.below HX.out)).mono ?_; rintro e w' ⟨rfl, rfl⟩) | (at_builtin; refine wpList_push rfl _ _ rfl ty_pixs w HXa No _ out rfl HOa l[k].p wr.heap.size 1 rfl [.int .u64 l[k].p] 58 (0, 0) (heap_alloc_new _ _) rfl (by simp only [maxLen]; omega) (by omega) (fun _ h => h.elim) ?_; intro v1 w1 HO1 HX1 _; obtain ⟨A, c, A', c', hh, _, _, hl, _, _⟩ := HT.out.below HX1.out; have hc := cell_of_heap (j := 0) hh rfl; obtain ⟨nb, o, A1, c1, A2, c2, rfl, g0, g1, _, _, _, _, _⟩ := kN_at hl hk; clear hh hl))
        go_roundw
        case rel =>
          refine ⟨l[k].up, out ++ [l[k].p], rfl, by simp; omega, ⟨?_, fun hi => ?_⟩, HO1, HX1⟩
          · rw [← HU.out.1, Int.toNat_natCast, upT_step HG.out hk h0, List.append_assoc]; rfl
          · rw [List.length_append]; have := HU'.out; simp only [List.length_cons, List.length_nil]; omega
        case measure => have := HU'.out; simp [intOf]; omega
      · have h0' : decide ((k : Int) > 0) = false := by simpa using h0
        have HE : As (out = upT l (n.toNat + 1) n) := ⟨by rw [← HU.out.1]; simp only [upT]; rw [if_neg (by omega), List.append_nil]⟩
        go_wp2_with (first | (go_at_call 64; refine (in_c l ws _ _ _ D (HT.out.below HX.out)).mono ?_; rintro e w' ⟨rfl, rfl⟩) | (go_at_call 67; refine (revP_c out _ w.heap.size No _ HO.out hol).mono ?_; rintro e w1 ⟨rfl, ho1, hg1⟩; have HO1 := As.mk ho1; have HX1 : As (Ext w w1) := ⟨HX.out.grown hg1 HX.out.size fun g hg => (HO.out.lt hg).1⟩; clear ho1 hg1))
        go_ret
        exact ⟨_, rfl, by unfold pathT; rw [← HE.out]; exact HO1.out, HX1.out⟩
    · have hin' : inB l m = false := by simpa using hin
      have HE : As (out = upT l (n.toNat + 1) n) := ⟨by rw [← HU.out.1]; simp only [upT]; rw [if_neg (fun h => hin h.1), List.append_nil]⟩
      go_wp2_with (first | (go_at_call 64; refine (in_c l ws _ _ _ D (HT.out.below HX.out)).mono ?_; rintro e w' ⟨rfl, rfl⟩) | (go_at_call 67; refine (revP_c out _ w.heap.size No _ HO.out hol).mono ?_; rintro e w1 ⟨rfl, ho1, hg1⟩; have HO1 := As.mk ho1; have HX1 : As (Ext w w1) := ⟨HX.out.grown hg1 HX.out.size fun g hg => (HO.out.lt hg).1⟩; clear ho1 hg1))
      go_ret
      exact ⟨_, rfl, by unfold pathT; rw [← HE.out]; exact HO1.out, HX1.out⟩
end Go.Proofs.Ytpgphhkhjbhimaa
