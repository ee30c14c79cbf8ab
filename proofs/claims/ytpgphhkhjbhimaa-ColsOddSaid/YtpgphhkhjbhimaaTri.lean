/- The tree's functions that only read. -/
import Derived.Test.YtpgphhkhjbhimaaProg
import Derived.Test.YtpgphhkhjbhimaaLib
import Derived.Test.YtpgphhkhjbhimaaTriS
namespace Go.Proofs.Ytpgphhkhjbhimaa
open Go.RowKit X
set_option maxHeartbeats 400000

/-- nodes -/
def kN : Kd Nd where
  ety := 78
  size := 5
  rel := fun w D x cs => ∃ A c A' c', cs = [.int .i64 x.up, .int .u64 x.p, .int .i64 x.depth, .slice A x.kids.length c, .slice A' x.words.length c'] ∧ x.kids.length ≤ c ∧ Sl kE w D A x.kids ∧ x.words.length ≤ c' ∧ Sl (Kd.int 3 .i64) w D A' x.words
  keep := fun ⟨A, c, A', c', e, l, h, l', h'⟩ hk => ⟨A, c, A', c', e, l, h.keep hk, l', h'.keep hk⟩
  weak := fun ⟨A, c, A', c', e, l, h, l', h'⟩ hk => ⟨A, c, A', c', e, l, h.weak hk, l', h'.weak hk⟩
  len := fun ⟨_, _, _, _, e, _⟩ => by subst e; rfl
  one := fun ⟨_, _, _, _, e, _⟩ => by subst e; simp [Value.oneCell']
/-- block b is a tree of nodes l and words ws -/
def RdT (w : World) (D : Nat → Prop) (b : Nat) (l : List Nd) (ws : List Int) : Prop :=
  ∃ A c A' c', w.heap[b]? = some (.cells #[.slice A l.length c, .slice A' ws.length c'] 81 (0, 0)) ∧ D b ∧ l.length ≤ c ∧ Sl kN w D A l ∧ ws.length ≤ c' ∧ Sl (Kd.int 3 .i64) w D A' ws
theorem RdT.keep {w w' : World} {D : Nat → Prop} {b : Nat} {l : List Nd} {ws : List Int} (h : RdT w D b l ws) (hk : ∀ b, b < w.heap.size → D b → w'.heap[b]? = w.heap[b]?) : RdT w' D b l ws := by
  obtain ⟨A, c, A', c', hh, hd, h1, h2, h3, h4⟩ := h
  exact ⟨A, c, A', c', (hk b (lt_of_heap hh) hd).trans hh, hd, h1, h2.keep hk, h3, h4.keep hk⟩
theorem RdT.below {w w' : World} {D : Nat → Prop} {b : Nat} {l : List Nd} {ws : List Int} (h : RdT w D b l ws) (hb : Ext w w') : RdT w' D b l ws := h.keep fun b hlt _ => hb.block b hlt

/-- what holds of the nodes of a tree -/
structure GoodT (l : List Nd) : Prop where
  small : l.length ≤ 1048576
  kids : ∀ x ∈ l, x.kids.length ≤ 1048576
  srt : ∀ x ∈ l, Srt x.kids
  up : ∀ (i : Nat) (h : i < l.length), 0 < i → 0 ≤ (l[i]).up ∧ (l[i]).up < i

def inB (l : List Nd) (n : Int) : Bool := decide (0 ≤ n) && decide (n < l.length)
theorem inB_true {l : List Nd} {n : Int} (h : inB l n = true) : ∃ k : Nat, n = k ∧ k < l.length := by
  simp only [inB, Bool.and_eq_true, decide_eq_true_eq] at h
  exact ⟨n.toNat, by omega, by omega⟩
theorem inB_nat {l : List Nd} {k : Nat} (h : k < l.length) : inB l k = true := by
  simp only [inB, Bool.and_eq_true, decide_eq_true_eq]; omega
theorem inB_mk {l : List Nd} {n : Int} (h : 0 ≤ n) (h' : n < l.length) : inB l n = true := by
  simp only [inB, Bool.and_eq_true, decide_eq_true_eq]; exact ⟨h, h'⟩
theorem inB_not {l : List Nd} {n : Int} (h : ¬ (0 ≤ n ∧ n < l.length)) : inB l n = false := by
  rw [Bool.eq_false_iff]; intro g; obtain ⟨k, rfl, hk⟩ := inB_true g; omega

theorem in_c (l : List Nd) (ws : List Int) (n : Int) (b : Nat) (w : World) (D : Nat → Prop) (hT : RdT w D b l ws) :
    Calls Try.prog 64 #[.pointer (some ⟨b, 0, none⟩), .int .i64 n] w fun e w' => e = .returned (.bool (inB l n)) ∧ w = w' := by
  obtain ⟨A, c, A', c', hh, _, _, _, _, _⟩ := hT
  have hc : w.cell? ⟨b, 0, none⟩ = some (.slice A l.length c) := cell_of_heap hh rfl
  clear hh
  by_cases h0 : 0 ≤ n
  · by_cases h1 : n < l.length
    · go_enter Try.func64, Try.ntmps64
      go_wp2
      go_ret
      exact ⟨ret_bool (inB_mk h0 h1).symm, rfl⟩
    · go_enter Try.func64, Try.ntmps64
      go_wp2
      go_ret
      exact ⟨ret_bool (inB_not (by omega)).symm, rfl⟩
  · go_enter Try.func64, Try.ntmps64
    go_wp2
    go_ret
    exact ⟨ret_bool (inB_not (by omega)).symm, rfl⟩

theorem kN_at {w : World} {D : Nat → Prop} {A : Option Addr} {xs : List Nd} (h : Sl kN w D A xs) {i : Nat} (hi : i < xs.length) :
    ∃ b o A1 c1 A2 c2, A = some ⟨b, o, none⟩ ∧ w.cell? ⟨b, o + i * 5, none⟩ = some (.int .i64 xs[i].up) ∧ w.cell? ⟨b, o + i * 5 + 1, none⟩ = some (.int .u64 xs[i].p) ∧
      w.cell? ⟨b, o + i * 5 + 2, none⟩ = some (.int .i64 xs[i].depth) ∧ w.cell? ⟨b, o + i * 5 + 3, none⟩ = some (.slice A1 xs[i].kids.length c1) ∧
      w.cell? ⟨b, o + i * 5 + 4, none⟩ = some (.slice A2 xs[i].words.length c2) ∧ Sl kE w D A1 xs[i].kids ∧ Sl (Kd.int 3 .i64) w D A2 xs[i].words := by
  obtain ⟨b, o, cs, rfl, hb, hd, ⟨A1, c1, A2, c2, rfl, l1, h1, l2, h2⟩, hl, hc⟩ := h i hi
  exact ⟨b, o, A1, c1, A2, c2, rfl, hc 0 _ rfl, hc 1 _ rfl, hc 2 _ rfl, hc 3 _ rfl, hc 4 _ rfl, h1, h2⟩

theorem at_c (l : List Nd) (ws : List Int) (n : Nat) (p : Int) (b : Nat) (w : World) (D : Nat → Prop) (hT : RdT w D b l ws) (hG : GoodT l) (hn : n < l.length) :
    Calls Try.prog 47 #[.pointer (some ⟨b, 0, none⟩), .int .i64 n, .int .u64 p] w fun e w' => e = .returned (.tuple #[.int .i64 (posE l[n].kids p), .bool (hasE l[n].kids p)]) ∧ Ext w w' := by
  obtain ⟨A, c, A', c', hh, _, _, hl, _, _⟩ := hT
  have hc : w.cell? ⟨b, 0, none⟩ = some (.slice A l.length c) := cell_of_heap hh rfl
  obtain ⟨nb, o, A1, c1, A2, c2, rfl, _, _, _, hc3, _, hk, _⟩ := kN_at hl hn
  have HK := As.mk hk
  have HG := As.mk hG
  clear hh hl hk hG
  go_enter Try.func47, Try.ntmps47
  go_wp2_with (first | (go_at_call 60; refine (seek_c _ _ _ _ _ D HK.out (HG.out.srt _ (List.getElem_mem _)) (HG.out.kids _ (List.getElem_mem _))).mono ?_; rintro e w1 ⟨rfl, hx⟩))
  go_ret2
  exact ⟨rfl, hx⟩

/-- a node's child of a number, or -1 -/
def childT (l : List Nd) (n p : Int) : Int :=
  if inB l n then (if hasE (l.getD n.toNat default).kids p then ((l.getD n.toNat default).kids.getD (posE (l.getD n.toNat default).kids p) (0, 0)).2 else -1) else -1
theorem hasE_pos {l : List (Int × Int)} {p : Int} (hs : Srt l) (h : hasE l p = true) : ∃ hlt : posE l p < l.length, (l[posE l p]).1 = p := by
  unfold hasE at h
  simp only [List.any_eq_true, beq_iff_eq] at h
  obtain ⟨e, he, rfl⟩ := h
  obtain ⟨t, ht, rfl⟩ := List.mem_iff_getElem.1 he
  have e : posE l (l[t]).1 = t := posE_of (by omega) (fun u hu hut => hs.lt hut ht) (fun u hu htu => by
    rcases Nat.lt_or_eq_of_le htu with h | h
    · have := hs.lt h hu; omega
    · subst h; omega)
  rw [e]
  exact ⟨ht, rfl⟩

theorem child_c (l : List Nd) (ws : List Int) (n p : Int) (b : Nat) (w : World) (D : Nat → Prop) (hT : RdT w D b l ws) (hG : GoodT l) :
    Calls Try.prog 52 #[.pointer (some ⟨b, 0, none⟩), .int .i64 n, .int .u64 p] w fun e w' => e = .returned (.int .i64 (childT l n p)) ∧ Ext w w' := by
  have HT := As.mk hT
  have HG := As.mk hG
  clear hT hG
  by_cases hin : inB l n = true
  · obtain ⟨k, rfl, hk⟩ := inB_true hin
    have e1 : l.getD k default = l[k] := by simp [List.getD_eq_getElem?_getD, hk]
    by_cases hhas : hasE l[k].kids p = true
    · obtain ⟨hlt, hp⟩ := hasE_pos (HG.out.srt _ (List.getElem_mem hk)) hhas
      have HE : As (childT l k p = (l[k].kids[posE l[k].kids p]).2) := ⟨by
        unfold childT; rw [if_pos hin, Int.toNat_natCast, e1, if_pos hhas, List.getD_eq_getElem?_getD, List.getElem?_eq_getElem hlt]; rfl⟩
      clear hp e1
      go_enter Try.func52, Try.ntmps52
      go_wp2_with (first | (go_at_call 64; refine (in_c l ws _ _ _ D HT.out).mono ?_; rintro e w' ⟨rfl, rfl⟩) | (go_at_call 47; refine (at_c l ws k p _ _ D HT.out HG.out hk).mono ?_; rintro e w1 ⟨rfl, hx⟩; have HX := As.mk hx; clear hx; obtain ⟨A, c, A', c', hh, _, _, hl, _, _⟩ := HT.out.below HX.out; obtain ⟨nb, o, A1, c1, A2, c2, rfl, _, _, _, hc3, _, hk1, _⟩ := kN_at hl hk; obtain ⟨eb, eo, rfl, he1, he2⟩ := kE_at hk1 hlt; have hc := cell_of_heap (j := 0) hh rfl; clear hh hl hk1))
      go_ret
      exact ⟨ret_int HE.out.symm, HX.out⟩
    · have hhas' : hasE l[k].kids p = false := by simpa using hhas
      have HE : As (childT l k p = -1) := ⟨by unfold childT; rw [if_pos hin, Int.toNat_natCast, e1, if_neg hhas]⟩
      clear e1
      go_enter Try.func52, Try.ntmps52
      go_wp2_with (first | (go_at_call 64; refine (in_c l ws _ _ _ D HT.out).mono ?_; rintro e w' ⟨rfl, rfl⟩) | (go_at_call 47; refine (at_c l ws k p _ _ D HT.out HG.out hk).mono ?_; rintro e w1 ⟨rfl, hx⟩; have HX := As.mk hx; clear hx))
      go_ret
      exact ⟨ret_int HE.out.symm, HX.out⟩
  · have hin' : inB l n = false := by simpa using hin
    have HE : As (childT l n p = -1) := ⟨by unfold childT; rw [if_neg hin]⟩
    go_enter Try.func52, Try.ntmps52
    go_wp2_with (first | (go_at_call 64; refine (in_c l ws _ _ _ D HT.out).mono ?_; rintro e w' ⟨rfl, rfl⟩))
    go_ret
    exact ⟨ret_int HE.out.symm, Ext.refl _⟩

theorem len_c (l : List Nd) (ws : List Int) (b : Nat) (w : World) (D : Nat → Prop) (hT : RdT w D b l ws) :
    Calls Try.prog 49 #[.pointer (some ⟨b, 0, none⟩)] w fun e w' => e = .returned (.int .i64 l.length) ∧ w = w' := by
  obtain ⟨A, c, A', c', hh, _, _, _, _, _⟩ := hT
  have hc : w.cell? ⟨b, 0, none⟩ = some (.slice A l.length c) := cell_of_heap hh rfl
  clear hh
  go_enter Try.func49, Try.ntmps49
  go_wp2
  go_ret
  exact ⟨rfl, rfl⟩

/-- the node at which a word ends, or -1 -/
def wordT (ws : List Int) (i : Int) : Int := if 0 ≤ i ∧ i < ws.length then ws.getD i.toNat 0 else -1
/-- how deep a node is, its parent: -1 where there is none -/
def depthT (l : List Nd) (n : Int) : Int := if inB l n then (l.getD n.toNat default).depth else -1
def parentT (l : List Nd) (n : Int) : Int := if inB l n then (l.getD n.toNat default).up else -1
/-- the deepest node of first numbers, and how many these are -/
def walkT (l : List Nd) : Int → List Int → Int × Nat
  | n, [] => (n, 0)
  | n, p :: r => if childT l n p = -1 then (n, 0) else ((walkT l (childT l n p) r).1, (walkT l (childT l n p) r).2 + 1)

theorem walk_c (l : List Nd) (ws : List Int) (xs : List Int) (A : Option Addr) (c : Nat) (b : Nat) (w : World) (D E : Nat → Prop) (hT : RdT w D b l ws) (hG : GoodT l)
    (hx : Sl (Kd.int 58 .u64) w E A xs) (hn : xs.length ≤ 1000000) :
    Calls Try.prog 46 #[.pointer (some ⟨b, 0, none⟩), .slice A xs.length c] w fun e w' => e = .returned (.tuple #[.int .i64 (walkT l 0 xs).1, .int .i64 (walkT l 0 xs).2]) ∧ Ext w w' := by
  have HT := As.mk hT
  have HG := As.mk hG
  have HS := As.mk hx
  clear hT hG hx
  go_enter Try.func46, Try.ntmps46
  go_wp2
  go_loopw [6, 12] (fun n i w' => ∃ (a : Int) (k : Nat), k ≤ xs.length ∧ n = .int .i64 a ∧ i = .int .i64 k ∧ As ((walkT l 0 xs).1 = (walkT l a (xs.drop k)).1 ∧ (walkT l 0 xs).2 = (walkT l a (xs.drop k)).2 + k) ∧ As (Ext w w'))
    (fun _ i _ => xs.length - (intOf i).toNat)
  case atStart => exact ⟨0, 0, Nat.zero_le _, rfl, rfl, ⟨rfl, rfl⟩, ⟨Ext.refl _⟩⟩
  case round =>
    obtain ⟨a, k, hk, rfl, rfl, HW, HX⟩ := hrel
    by_cases hlt : k < xs.length
    · have hlt' : decide ((k : Int) < xs.length) = true := by simpa using hlt
      obtain ⟨xb, o, rfl, hc⟩ := (HS.out.below HX.out).int_at hlt
      have hd : xs.drop k = xs[k] :: xs.drop (k + 1) := List.drop_eq_getElem_cons hlt
      by_cases he : childT l a xs[k] = -1
      · have HE : As ((walkT l 0 xs).1 = a ∧ (walkT l 0 xs).2 = k) := ⟨by have := HW.out; rw [hd] at this; simp only [walkT, if_pos he] at this; omega⟩
        have hq : (childT l a xs[k] == -1) = true := by simpa using he
        clear hd he
        go_wp2_with (first | (go_at_call 52; refine (child_c l ws _ _ _ _ D (HT.out.below HX.out) HG.out).mono ?_; rintro e w' ⟨rfl, hx⟩; have HX' := As.mk (HX.out.tr hx); clear hx))
        go_ret2
        exact ⟨ret_ii HE.out.1.symm (by rw [HE.out.2]), HX'.out⟩
      · have HE : As ((walkT l 0 xs).1 = (walkT l (childT l a xs[k]) (xs.drop (k + 1))).1 ∧ (walkT l 0 xs).2 = (walkT l (childT l a xs[k]) (xs.drop (k + 1))).2 + (k + 1)) :=
          ⟨by have := HW.out; rw [hd] at this; simp only [walkT, if_neg he] at this; omega⟩
        have hq : (childT l a xs[k] == -1) = false := by simpa using he
        clear hd he
        go_wp2_with (first | (go_at_call 52; refine (child_c l ws _ _ _ _ D (HT.out.below HX.out) HG.out).mono ?_; rintro e w' ⟨rfl, hx⟩; have HX' := As.mk (HX.out.tr hx); clear hx))
        go_roundw
        case rel => exact ⟨_, k + 1, by omega, rfl, by go_num, HE, HX'⟩
        case measure => simp [intOf]; omega
    · have hlt' : decide ((k : Int) < xs.length) = false := by simpa using hlt
      have HE : As ((walkT l 0 xs).1 = a ∧ (walkT l 0 xs).2 = xs.length) := ⟨by have := HW.out; rw [List.drop_of_length_le (by omega)] at this; simp only [walkT] at this; omega⟩
      go_wp2
      go_ret2
      exact ⟨ret_ii HE.out.1.symm (by rw [HE.out.2]), HX.out⟩
end Go.Proofs.Ytpgphhkhjbhimaa
