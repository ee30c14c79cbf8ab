/- The automaton as one object. -/
import Derived.Test.YtpgphhkhjbhimaaAutR
import Derived.Test.YtpgphhkhjbhimaaSrt
namespace Go.Proofs.Ytpgphhkhjbhimaa
open Go.RowKit X
set_option maxHeartbeats 2000000
set_option maxRecDepth 8000
set_option linter.unusedSimpArgs false
set_option linter.unusedVariables false
structure AK (l : List Sn) (L W : List (List Int)) : Prop where
  ok : AOk l L W (fun _ => True)
  good : GoodR L W
  ne : NeW W
/-- the automaton of a tree of paths L and words W; nobody changes it -/
def AU (b : Nat) (L W : List (List Int)) : Ob := .of {
  sat := fun w _ I => ∃ l, RdS w I b l ∧ AK l L W
  keep := fun ⟨l, h, k⟩ hk => ⟨l, h.keep fun b hb hd => hk b hb (.inr hd), k⟩
  weak := fun ⟨l, h, k⟩ _ hi _ => ⟨l, h.weak hi, k⟩ }
def runR (L : List (List Int)) : Int → List Int → List Int
  | _, [] => []
  | n, p :: r => nextR L n p :: runR L (nextR L n p) r
def runA (L : List (List Int)) (n : Int) (xs : List Int) : List Int := if 0 ≤ n ∧ n < L.length then runR L n xs else []
def sameR (L W : List (List Int)) (n m : Int) : Bool := decide (0 ≤ n ∧ n < L.length) && (decide (0 ≤ m ∧ m < L.length) && decide (endsR L W n = endsR L W m))
section
variable {F0 I0 I : Fp} {w0 w : World} {O : List Ob} {L W : List (List Int)} {A : Option Addr} {c b : Nat}
theorem X.SH.au (S : SH F0 I0 w0 O w I) (i : Nat) (e : O[i]? = some (AU b L W)) : ∃ l, RdS w I b l ∧ AK l L W := by
  obtain ⟨F, h, _⟩ := S.get i e
  exact h
theorem X.SH.auG (S : SH F0 I0 w0 O w I) (i : Nat) (e : O[i]? = some (AU b L W)) : GoodR L W ∧ NeW W := by
  obtain ⟨l, _, k⟩ := S.au i e
  exact ⟨k.good, k.ne⟩
theorem alen_r (S : SH F0 I0 w0 O w I) (i : Nat) (e : O[i]? = some (AU b L W)) :
    Calls Try.prog 41 #[.pointer (some ⟨b, 0, none⟩)] w fun e w' => e = .returned (.int .i64 L.length) ∧ w = w' := by
  obtain ⟨l, h, k⟩ := S.au i e
  rw [← k.ok.len]
  exact alen_c l b w _ h
theorem next_r (S : SH F0 I0 w0 O w I) (i : Nat) (e : O[i]? = some (AU b L W)) (hL : L.length ≤ 1000000) (n p : Int) :
    Calls Try.prog 35 #[.pointer (some ⟨b, 0, none⟩), .int .i64 n, .int .u64 p] w fun e w' => e = .returned (.int .i64 (nextR L n p)) ∧ Ext w w' := by
  obtain ⟨l, h, k⟩ := S.au i e
  exact next_s l L W _ n p b w _ h k.ok k.good hL fun _ _ _ _ _ => trivial
theorem linkR_out {n : Int} (h : ¬ (0 ≤ n ∧ n < L.length)) : linkR L W n = -1 := by
  unfold linkR fallR
  rw [if_neg (by omega)]
  cases (pa L n.toNat).length <;> simp only [linkF]
  rw [if_neg (by omega)]
end
/-- its states, under one name -/
def AL (b : Nat) (l : List Sn) : Ob := .of {
  sat := fun w _ I => RdS w I b l
  keep := fun h hk => h.keep fun b hb hd => hk b hb (.inr hd)
  weak := fun h _ hi _ => h.weak hi }
theorem X.SH.al {F0 I0 I : Fp} {w0 w : World} {O : List Ob} {b : Nat} {l : List Sn} (S : SH F0 I0 w0 O w I) (i : Nat) (e : O[i]? = some (AL b l)) : RdS w I b l := by
  obtain ⟨F, h, _⟩ := S.get i e
  exact h
def gathN (L W : List (List Int)) (z : Int) : List Int := gath L W (dpN L z.toNat + 1) z
section
variable {F0 I0 I : Fp} {w0 w : World} {O : List Ob} {L W : List (List Int)} {A : Option Addr} {c b : Nat}
theorem gathN_out {z : Int} (h : ¬ (0 ≤ z ∧ z < L.length)) : gathN L W z = [] := by
  unfold gathN; simp only [gath]; rw [if_neg h]
theorem gathN_step (h : GoodR L W) {k : Nat} (hk : k < L.length) : gathN L W k = wsR L W k ++ gathN L W (linkR L W k) := by
  unfold gathN
  rw [Int.toNat_natCast]
  rw [show gath L W (dpN L k + 1) k = if 0 ≤ (k : Int) ∧ (k : Int) < L.length then wsR L W k ++ gath L W (dpN L k) (linkR L W k) else [] from rfl, if_pos (by omega)]
  congr 1
  rcases linkR_lt h hk with e | ⟨j, e, _, j1, j2, _⟩
  · rw [e]
    cases dpN L k <;> simp only [gath] <;> (repeat rw [if_neg (by omega)])
  · rw [e, Int.toNat_natCast]
    exact gath_fuel h _ _ j j1 j2 (by unfold dpN; omega)
theorem gathN_sorted (h : GoodR L W) (hw : NeW W) (z : Int) : sortI (gathN L W z) = endsR L W z := by
  by_cases hz : 0 ≤ z ∧ z < L.length
  · obtain ⟨k, rfl⟩ : ∃ k : Nat, z = k := ⟨z.toNat, by omega⟩
    unfold gathN
    rw [Int.toNat_natCast]
    exact gath_sorted h hw (by omega) (f := dpN L k + 1) (by unfold dpN; omega) (sortI_perm _) (sortI_srt _)
  · rw [gathN_out hz]
    unfold endsR
    rw [if_neg hz]
    exact List.eq_nil_of_length_eq_zero (by rw [sortI_len]; rfl)
theorem endsR_len {z : Int} : (endsR L W z).length ≤ W.length := by
  unfold endsR endsL
  split
  · rw [List.length_map]
    exact Nat.le_trans (List.length_filter_le _ _) (by simp)
  · simp
theorem gathN_len (h : GoodR L W) (hw : NeW W) (z : Int) : (gathN L W z).length ≤ W.length := by
  have := endsR_len (L := L) (W := W) (z := z)
  rw [← gathN_sorted h hw, sortI_len] at this
  exact this
theorem ends_r (S : SH F0 I0 w0 O w I) (i : Nat) (e : O[i]? = some (AU b L W)) (hW : W.length ≤ 1000000) (n : Int) :
    Calls Try.prog 36 #[.pointer (some ⟨b, 0, none⟩), .int .i64 n] w fun e w' => ∃ v, e = .returned v ∧ Upd w No I w' (Row kI v (endsR L W n)) := by
  obtain ⟨l, hT, hk⟩ := S.au i e
  have S := ((SH.start w I S.bd).know (h := AL b l) hT).nilrow (k := kI)
  have HK := As.mk hk
  have hlen := hk.ok.len
  have HS := As.mk (gathN_sorted hk.good hk.ne n)
  have hgl := gathN_len hk.good hk.ne n
  clear hT hk e
  have hc := S.cells; simp only [Cells, cellsC, Im, Row, El, RTH, TreeH, TR, AU, AL, Nat.zero_add, Nat.reduceAdd] at hc
  go_enter Try.func36, Try.ntmps36
  go_wp2_with (first | ((first | (with_reducible refine wpl_seal S ?_) | (with_reducible refine cw_seal S ?_) | (with_reducible refine bp_seal S ?_) | (with_reducible refine ca_seal S ?_)); clear S; (try clear hc); intro w1 S; (try simp only [List.set_cons_zero, List.set_cons_succ, List.nil_append] at S); have hc := S.cells; simp only [Cells, cellsC, Im, Row, El, RTH, TreeH, TR, AU, AL, Nat.zero_add, Nat.reduceAdd] at hc))
  clear hc
  go_loopw [5, 1] (fun o v w' => ∃ (z : Int) (out : List Int), v = .int .i64 z ∧ As (out ++ gathN L W z = gathN L W n) ∧ As (SH No I w [Row kI o out, AL b l] w' I)) (fun _ v _ => msN L v)
  case atStart => exact ⟨n, [], rfl, ⟨rfl⟩, ⟨S⟩⟩
  case round =>
    clear S
    obtain ⟨z, out, rfl, HO, ⟨S⟩⟩ := hrel
    have hol : out.length + (gathN L W z).length ≤ 1000000 := by rw [← List.length_append, HO.out]; omega
    have HT := As.mk (S.al 1 rfl)
    have hc := S.cells; simp only [Cells, cellsC, Im, Row, El, RTH, TreeH, TR, AU, AL, Nat.zero_add, Nat.reduceAdd] at hc
    by_cases hin : 0 ≤ z ∧ z < l.length
    · obtain ⟨k, rfl⟩ : ∃ k : Nat, z = k := ⟨z.toNat, by omega⟩
      have hkl : k < l.length := by omega
      have hi' := inS_iff.2 hin
      obtain ⟨sb, o, c, A1, c1, A2, c2, h0, -, -, h3, h4, -, h6⟩ := HT.out.at hkl
      have HWS := As.mk h6
      have HST := As.mk (gathN_step HK.out.good (k := k) (by omega))
      have HLK := As.mk (HK.out.ok.link k hkl trivial)
      have HO2 : As ((out ++ l[k].words) ++ gathN L W l[k].link = gathN L W n) := ⟨by rw [HK.out.ok.words k hkl, HLK.out, List.append_assoc, ← HST.out]; exact HO.out⟩
      have hwl : out.length + l[k].words.length ≤ 1000000 := by
        have := HST.out
        rw [this, List.length_append, ← HK.out.ok.words k hkl] at hol
        omega
      have HMS : As (msN L (.int .i64 l[k].link) < msN L (.int .i64 k)) := ⟨by
        rw [HLK.out, msN_nat]
        rcases linkR_lt HK.out.good (n := k) (by omega) with e | ⟨j, e, _, j1, j2, _⟩
        · rw [e, msN_neg]; omega
        · rw [e, msN_nat]; have : dpN L j < dpN L k := j2; omega⟩
      generalize l[k].words = ws at h4 HWS HO2 hwl
      clear hin h6
      go_wp2_with (first | ((first | (with_reducible refine wpl_seal S ?_) | (with_reducible refine cw_seal S ?_) | (with_reducible refine bp_seal S ?_) | (with_reducible refine ca_seal S ?_)); clear S; (try clear hc); intro w1 S; (try simp only [List.set_cons_zero, List.set_cons_succ, List.nil_append] at S); have hc := S.cells; simp only [Cells, cellsC, Im, Row, El, RTH, TreeH, TR, AU, AL, Nat.zero_add, Nat.reduceAdd] at hc) | (go_at_call 56; refine (ain_c l _ _ _ _ HT.out).mono ?_; rintro e w' ⟨rfl, rfl⟩) | ((at_builtin; refine wpl_app S 0 rfl rfl _ _ rfl ty_ints rfl A2 c2 _ rfl I (fun _ _ h => h) (HWS.out) (by (try simp only [maxLen, List.length_nil, List.length_append, List.length_cons]); omega) (by (try simp only [maxLen, List.length_nil, List.length_append, List.length_cons]); omega) ?_; clear S; (try clear hc); intro va w1 S; simp only [List.set_cons_zero, List.set_cons_succ, List.nil_append] at S; have hc := S.cells; simp only [Cells, cellsC, Im, Row, El, RTH, TreeH, TR, AU, AL, Nat.zero_add, Nat.reduceAdd] at hc); obtain ⟨sb', o', c', A1', c1', A2', c2', h0', -, -, h3', -, -, -⟩ := (S.al 1 rfl).at hkl))
      go_roundw
      case rel => exact ⟨l[k].link, _, rfl, HO2, ⟨S⟩⟩
      case measure => exact HMS.out
    · have hi' := inS_no hin
      have hg0 : gathN L W z = [] := gathN_out (by omega)
      have HOE : As (out = gathN L W n) := ⟨by rw [← HO.out, hg0, List.append_nil]⟩
      clear hin hg0
      go_wp2_with (first | ((first | (with_reducible refine wpl_seal S ?_) | (with_reducible refine cw_seal S ?_) | (with_reducible refine bp_seal S ?_) | (with_reducible refine ca_seal S ?_)); clear S; (try clear hc); intro w1 S; (try simp only [List.set_cons_zero, List.set_cons_succ, List.nil_append] at S); have hc := S.cells; simp only [Cells, cellsC, Im, Row, El, RTH, TreeH, TR, AU, AL, Nat.zero_add, Nat.reduceAdd] at hc) | (go_at_call 56; refine (ain_c l _ _ _ _ HT.out).mono ?_; rintro e w' ⟨rfl, rfl⟩) | (go_at_call 57; refine (sort_r S 0 rfl (by rw [HOE.out]; omega)).mono ?_; clear hc; rintro e w1 ⟨rfl, S1⟩; clear S; have S := S1; clear S1; simp only [List.set_cons_zero, List.set_cons_succ, List.nil_append] at S; have hc := S.cells; simp only [Cells, cellsC, Im, Row, El, RTH, TreeH, TR, AU, AL, Nat.zero_add, Nat.reduceAdd] at hc))
      go_ret
      refine ⟨_, rfl, ?_⟩
      rw [← HS.out, ← HOE.out]
      exact S.ret 0 rfl
theorem runR_len : ∀ (xs : List Int) (n : Int), (runR L n xs).length = xs.length
  | [], _ => rfl
  | p :: r, n => by simp only [runR, List.length_cons, runR_len r]
end
end Go.Proofs.Ytpgphhkhjbhimaa
