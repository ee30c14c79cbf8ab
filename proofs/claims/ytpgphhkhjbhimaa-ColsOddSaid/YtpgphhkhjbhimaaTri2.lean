/- The tree's functions that tell of a node. -/
import Derived.Test.YtpgphhkhjbhimaaProg
import Derived.Test.YtpgphhkhjbhimaaTri
import Derived.WalkSpells
namespace Go.Proofs.Ytpgphhkhjbhimaa
open Go.RowKit X
set_option maxHeartbeats 400000

theorem ty_ints : TyOk Try.prog 30 (Kd.int 3 .i64) 8 := TyOk.mk' Try.underlying30 (z := .int .i64 0) (size := 1) (by kernel_rfl) rfl rfl (by omega)
theorem ty_pixs : TyOk Try.prog 56 (Kd.int 58 .u64) 8 := TyOk.mk' Try.underlying56 (z := .int .u64 0) (size := 1) (by kernel_rfl) rfl rfl (by omega)
theorem ty_edges : TyOk Try.prog 76 kE 16 := TyOk.mk' Try.underlying76 (z := .agg #[.int .u64 0, .int .i64 0]) (size := 2) (by kernel_rfl) rfl rfl (by omega)
theorem ty_nodes : TyOk Try.prog 79 kN 72 := TyOk.mk' Try.underlying79 (z := .agg #[.int .i64 0, .int .u64 0, .int .i64 0, .slice none 0 0, .slice none 0 0]) (size := 5) (by kernel_rfl) rfl rfl (by omega)

theorem eqn_ints (w : World) (a : Option Addr) (n c n' c' : Nat) : (binOp .eql 30 (.slice a n c) (.slice none n' c')).run Try.prog w = .ok (.bool a.isNone) w := Lib.run_eql_slice_nil w 30 _ a n c n' c' Try.underlying30

theorem cloneI_c (xs : List Int) (A : Option Addr) (c : Nat) (w : World) (D : Nat → Prop) (hx : Sl (Kd.int 3 .i64) w D A xs) (hn : xs.length ≤ 1000000) :
    Calls Try.prog 40 #[.slice A xs.length c] w fun e w' => ∃ v, e = .returned v ∧ Own (Kd.int 3 .i64) w' w.heap.size No v xs ∧ Ext w w' := by
  have q := eqn_ints
  rcases A with _ | ad
  · have h0 : xs = [] := by
      rcases xs with _ | ⟨x, r⟩
      · rfl
      · obtain ⟨b, o, e, _⟩ := hx.int_at (i := 0) (by simp)
        cases e
    subst h0
    clear hx
    go_enter Try.func40, Try.ntmps40
    go_wp2_with fail
    go_ret
    exact ⟨_, rfl, Own.nil, Ext.refl _⟩
  · have HS := As.mk hx
    clear hx
    have HO := As.mk (Own.empty (k := Kd.int 3 .i64) (D := No) (Nat.le_refl w.heap.size) (fun _ h => h.elim))
    have HX := As.mk (Ext.alloc w (.cells #[] 3))
    go_enter Try.func40, Try.ntmps40
    go_wp2_with (first | (at_builtin; refine wpList_app rfl _ _ rfl ty_ints w HX No _ [] xs rfl HO (some ad) c rfl D (fun _ _ h => h) (HS.out.below HX.out) (by simp [maxLen]; omega) (by simp; omega) (fun _ h => h.elim) ?_; intro v1 w1 HO1 HX1 _))
    go_ret
    exact ⟨_, rfl, by simpa using HO1.out, HX1.out⟩

/-- the words that end at a node -/
def wordsT (l : List Nd) (n : Int) : List Int := if inB l n then (l.getD n.toNat default).words else []
theorem words_c (l : List Nd) (ws : List Int) (n : Int) (b : Nat) (w : World) (D : Nat → Prop) (hT : RdT w D b l ws) (hw : ∀ x ∈ l, x.words.length ≤ 1000000) :
    Calls Try.prog 50 #[.pointer (some ⟨b, 0, none⟩), .int .i64 n] w fun e w' => ∃ v, e = .returned v ∧ Own (Kd.int 3 .i64) w' w.heap.size No v (wordsT l n) ∧ Ext w w' := by
  have HT := As.mk hT
  by_cases hin : inB l n = true
  · obtain ⟨k, rfl, hk⟩ := inB_true hin
    have HE : As (wordsT l k = l[k].words) := ⟨by unfold wordsT; rw [if_pos hin, Int.toNat_natCast, List.getD_eq_getElem?_getD, List.getElem?_eq_getElem hk]; rfl⟩
    have hwk := hw _ (List.getElem_mem hk)
    obtain ⟨A, c, A', c', hh, _, _, hl, _, _⟩ := hT
    have hc := cell_of_heap (j := 0) hh rfl
    obtain ⟨nb, o, A1, c1, A2, c2, rfl, _, _, _, _, hc4, _, hws⟩ := kN_at hl hk
    clear hh hl hw
    go_enter Try.func50, Try.ntmps50
    go_wp2_with (first | (go_at_call 64; refine (in_c l ws _ _ _ D HT.out).mono ?_; rintro e w' ⟨rfl, rfl⟩) | (go_at_call 40; refine (cloneI_c _ _ _ _ D hws hwk).mono ?_; rintro e w1 ⟨v, rfl, ho, hx⟩; have HO := As.mk ho; have HX := As.mk hx; clear ho hx))
    go_ret
    exact ⟨v, rfl, by rw [HE.out]; exact HO.out, HX.out⟩
  · have hin' : inB l n = false := by simpa using hin
    have HE : As (wordsT l n = []) := ⟨by unfold wordsT; rw [if_neg hin]⟩
    clear hT hw
    go_enter Try.func50, Try.ntmps50
    go_wp2_with (first | (go_at_call 64; refine (in_c l ws _ _ _ D HT.out).mono ?_; rintro e w' ⟨rfl, rfl⟩))
    go_ret
    exact ⟨_, rfl, by rw [HE.out]; exact Own.nil, Ext.refl _⟩
end Go.Proofs.Ytpgphhkhjbhimaa
