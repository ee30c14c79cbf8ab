/- The automaton as one object. -/
import Derived.Test.YtiemglijfdaliaaAutR
import Derived.Test.YtiemglijfdaliaaSrt
namespace Go.Proofs.Ytiemglijfdaliaa
open Go.RowKit X
set_option maxHeartbeats 2000000
set_option maxRecDepth 8000
set_option linter.unusedSimpArgs false
set_option linter.unusedVariables false
structure AK (l : List Sn) (L W : List (List Int)) : Prop where
  ok : AOk l L W (fun _ => True)
  good : GoodR L W
  ne : NeW W
/-- the automaton of a tree of paths L and words W; nobody changes it -/
def AU (b : Nat) (L W : List (List Int)) : Ob := .of {
  sat := fun w _ I => ∃ l, RdS w I b l ∧ AK l L W
  keep := fun ⟨l, h, k⟩ hk => ⟨l, h.keep fun b hb hd => hk b hb (.inr hd), k⟩
  weak := fun ⟨l, h, k⟩ _ hi _ => ⟨l, h.weak hi, k⟩ }
def runR (L : List (List Int)) : Int → List Int → List Int
  | _, [] => []
  | n, p :: r => nextR L n p :: runR L (nextR L n p) r
def runA (L : List (List Int)) (n : Int) (xs : List Int) : List Int := if 0 ≤ n ∧ n < L.length then runR L n xs else []
def sameR (L W : List (List Int)) (n m : Int) : Bool := decide (0 ≤ n ∧ n < L.length) && (decide (0 ≤ m ∧ m < L.length) && decide (endsR L W n = endsR L W m))
section
variable {F0 I0 I : Fp} {w0 w : World} {O : List Ob} {L W : List (List Int)} {A : Option Addr} {c b : Nat}
theorem X.SH.au (S : SH F0 I0 w0 O w I) (i : Nat) (e : O[i]? = some (AU b L W)) : ∃ l, RdS w I b l ∧ AK l L W := by
  obtain ⟨F, h, _⟩ := S.get i e
  exact h
theorem X.SH.auG (S : SH F0 I0 w0 O w I) (i : Nat) (e : O[i]? = some (AU b L W)) : GoodR L W ∧ NeW W := by
  obtain ⟨l, _, k⟩ := S.au i e
  exact ⟨k.good, k.ne⟩
theorem alen_r (S : SH F0 I0 w0 O w I) (i : Nat) (e : O[i]? = some (AU b L W)) :
    Calls Try.prog 30 #[.pointer (some ⟨b, 0, none⟩)] w fun e w' => e = .returned (.int .i64 L.length) ∧ w = w' := by
  obtain ⟨l, h, k⟩ := S.au i e
  rw [← k.ok.len]
  exact alen_c l b w _ h
theorem next_r (S : SH F0 I0 w0 O w I) (i : Nat) (e : O[i]? = some (AU b L W)) (hL : L.length ≤ 1000000) (n p : Int) :
    Calls Try.prog 10 #[.pointer (some ⟨b, 0, none⟩), .int .i64 n, .int .u64 p] w fun e w' => e = .returned (.int .i64 (nextR L n p)) ∧ Ext w w' := by
  obtain ⟨l, h, k⟩ := S.au i e
  exact next_s l L W _ n p b w _ h k.ok k.good hL fun _ _ _ _ _ => trivial
theorem fall_r (S : SH F0 I0 w0 O w I) (i : Nat) (e : O[i]? = some (AU b L W)) (n : Int) :
    Calls Try.prog 26 #[.pointer (some ⟨b, 0, none⟩), .int .i64 n] w fun e w' => e = .returned (.int .i64 (fallR L n)) ∧ w = w' := by
  obtain ⟨l, hT, hk⟩ := S.au i e
  have HT := As.mk hT
  have hlen := hk.ok.len
  by_cases hin : 0 ≤ n ∧ n < l.length
  · obtain ⟨k, rfl⟩ : ∃ k : Nat, n = k := ⟨n.toNat, by omega⟩
    have hkl : k < l.length := by omega
    have hi' := inS_iff.2 hin
    obtain ⟨sb, o, c, A1, c1, A2, c2, h0, -, h2, -, -, -, -⟩ := hT.at hkl
    have HE := As.mk (hk.ok.fall k hkl trivial)
    clear hT hk hin S e
    go_enter Try.func26, Try.ntmps26
    go_wp2_with (first | (go_at_call 36; refine (ain_c l _ _ _ _ HT.out).mono ?_; rintro e w' ⟨rfl, rfl⟩))
    go_ret
    exact ⟨ret_int HE.out, rfl⟩
  · have hi' := inS_no hin
    have HE : As (fallR L n = -1) := ⟨by unfold fallR; rw [if_neg (by omega)]⟩
    clear hT hk hin S e
    go_enter Try.func26, Try.ntmps26
    go_wp2_with (first | (go_at_call 36; refine (ain_c l _ _ _ _ HT.out).mono ?_; rintro e w' ⟨rfl, rfl⟩))
    go_ret
    exact ⟨ret_int HE.out.symm, rfl⟩
theorem linkR_out {n : Int} (h : ¬ (0 ≤ n ∧ n < L.length)) : linkR L W n = -1 := by
  unfold linkR fallR
  rw [if_neg (by omega)]
  cases (pa L n.toNat).length <;> simp only [linkF]
  rw [if_neg (by omega)]
theorem link_r (S : SH F0 I0 w0 O w I) (i : Nat) (e : O[i]? = some (AU b L W)) (n : Int) :
    Calls Try.prog 31 #[.pointer (some ⟨b, 0, none⟩), .int .i64 n] w fun e w' => e = .returned (.int .i64 (linkR L W n)) ∧ w = w' := by
  obtain ⟨l, hT, hk⟩ := S.au i e
  have HT := As.mk hT
  have hlen := hk.ok.len
  by_cases hin : 0 ≤ n ∧ n < l.length
  · obtain ⟨k, rfl⟩ : ∃ k : Nat, n = k := ⟨n.toNat, by omega⟩
    have hkl : k < l.length := by omega
    have hi' := inS_iff.2 hin
    obtain ⟨sb, o, c, A1, c1, A2, c2, h0, -, -, h2, -, -, -⟩ := hT.at hkl
    have HE := As.mk (hk.ok.link k hkl trivial)
    clear hT hk hin S e
    go_enter Try.func31, Try.ntmps31
    go_wp2_with (first | (go_at_call 36; refine (ain_c l _ _ _ _ HT.out).mono ?_; rintro e w' ⟨rfl, rfl⟩))
    go_ret
    exact ⟨ret_int HE.out, rfl⟩
  · have hi' := inS_no hin
    have HE : As (linkR L W n = -1) := ⟨linkR_out (by omega)⟩
    clear hT hk hin S e
    go_enter Try.func31, Try.ntmps31
    go_wp2_with (first | (go_at_call 36; refine (ain_c l _ _ _ _ HT.out).mono ?_; rintro e w' ⟨rfl, rfl⟩))
    go_ret
    exact ⟨ret_int HE.out.symm, rfl⟩
theorem any_r (S : SH F0 I0 w0 O w I) (i : Nat) (e : O[i]? = some (AU b L W)) (n : Int) :
    Calls Try.prog 35 #[.pointer (some ⟨b, 0, none⟩), .int .i64 n] w fun e w' => e = .returned (.bool (anyR L W n)) ∧ w = w' := by
  obtain ⟨l, hT, hk⟩ := S.au i e
  have HT := As.mk hT
  have hlen := hk.ok.len
  by_cases hin : 0 ≤ n ∧ n < l.length
  · obtain ⟨k, rfl⟩ : ∃ k : Nat, n = k := ⟨n.toNat, by omega⟩
    have hkl : k < l.length := by omega
    have hi' := inS_iff.2 hin
    obtain ⟨sb, o, c, A1, c1, A2, c2, h0, -, -, h2, h3, -, -⟩ := hT.at hkl
    have HE : As (anyR L W k = (decide (l[k].words ≠ []) || decide (l[k].link ≠ -1))) := ⟨by
      rw [anyR_eq hk.good hk.ne (by omega), hk.ok.words k hkl, hk.ok.link k hkl trivial]⟩
    have hz : l[k].words.length = 0 ↔ l[k].words = [] := List.length_eq_zero_iff
    generalize l[k].link = lk at h2 HE
    generalize l[k].words = ws at h3 HE hz
    generalize ws.length = m at h3 hz
    clear hT hk hin S e
    by_cases hw : m = 0
    · have hw1 : ¬ 0 < m := by omega
      have hw2 : ¬ 0 < (m : Int) := by omega
      have HE2 : As ((lk != -1) = anyR L W k) := ⟨by rw [HE.out, hz.1 hw]; simp [bne]; rfl⟩
      clear hw hz
      go_enter Try.func35, Try.ntmps35
      go_wp2_with (first | (go_at_call 36; refine (ain_c l _ _ _ _ HT.out).mono ?_; rintro e w' ⟨rfl, rfl⟩))
      go_ret
      exact ⟨ret_bool HE2.out, rfl⟩
    · have hw1 : 0 < m := by omega
      have hw2 : 0 < (m : Int) := by omega
      have HE2 : As (true = anyR L W k) := ⟨by have h0 : ws ≠ [] := fun h => hw (hz.2 h); rw [HE.out]; simp [h0]⟩
      clear hw hz
      go_enter Try.func35, Try.ntmps35
      go_wp2_with (first | (go_at_call 36; refine (ain_c l _ _ _ _ HT.out).mono ?_; rintro e w' ⟨rfl, rfl⟩))
      go_ret
      exact ⟨ret_bool HE2.out, rfl⟩
  · have hi' := inS_no hin
    have HE : As (anyR L W n = false) := ⟨by unfold anyR endsR; rw [if_neg (by omega)]; simp⟩
    clear hT hk hin S e
    go_enter Try.func35, Try.ntmps35
    go_wp2_with (first | (go_at_call 36; refine (ain_c l _ _ _ _ HT.out).mono ?_; rintro e w' ⟨rfl, rfl⟩))
    go_ret
    exact ⟨ret_bool HE.out.symm, rfl⟩
end
/-- its states, under one name -/
def AL (b : Nat) (l : List Sn) : Ob := .of {
  sat := fun w _ I => RdS w I b l
  keep := fun h hk => h.keep fun b hb hd => hk b hb (.inr hd)
  weak := fun h _ hi _ => h.weak hi }
theorem X.SH.al {F0 I0 I : Fp} {w0 w : World} {O : List Ob} {b : Nat} {l : List Sn} (S : SH F0 I0 w0 O w I) (i : Nat) (e : O[i]? = some (AL b l)) : RdS w I b l := by
  obtain ⟨F, h, _⟩ := S.get i e
  exact h
def gathN (L W : List (List Int)) (z : Int) : List Int := gath L W (dpN L z.toNat + 1) z
section
variable {F0 I0 I : Fp} {w0 w : World} {O : List Ob} {L W : List (List Int)} {A : Option Addr} {c b : Nat}
theorem gathN_out {z : Int} (h : ¬ (0 ≤ z ∧ z < L.length)) : gathN L W z = [] := by
  unfold gathN; simp only [gath]; rw [if_neg h]
theorem gathN_step (h : GoodR L W) {k : Nat} (hk : k < L.length) : gathN L W k = wsR L W k ++ gathN L W (linkR L W k) := by
  unfold gathN
  rw [Int.toNat_natCast]
  rw [show gath L W (dpN L k + 1) k = if 0 ≤ (k : Int) ∧ (k : Int) < L.length then wsR L W k ++ gath L W (dpN L k) (linkR L W k) else [] from rfl, if_pos (by omega)]
  congr 1
  rcases linkR_lt h hk with e | ⟨j, e, _, j1, j2, _⟩
  · rw [e]
    cases dpN L k <;> simp only [gath] <;> (repeat rw [if_neg (by omega)])
  · rw [e, Int.toNat_natCast]
    exact gath_fuel h _ _ j j1 j2 (by unfold dpN; omega)
theorem gathN_sorted (h : GoodR L W) (hw : NeW W) (z : Int) : sortI (gathN L W z) = endsR L W z := by
  by_cases hz : 0 ≤ z ∧ z < L.length
  · obtain ⟨k, rfl⟩ : ∃ k : Nat, z = k := ⟨z.toNat, by omega⟩
    unfold gathN
    rw [Int.toNat_natCast]
    exact gath_sorted h hw (by omega) (f := dpN L k + 1) (by unfold dpN; omega) (sortI_perm _) (sortI_srt _)
  · rw [gathN_out hz]
    unfold endsR
    rw [if_neg hz]
    exact List.eq_nil_of_length_eq_zero (by rw [sortI_len]; rfl)
theorem endsR_len {z : Int} : (endsR L W z).length ≤ W.length := by
  unfold endsR endsL
  split
  · rw [List.length_map]
    exact Nat.le_trans (List.length_filter_le _ _) (by simp)
  · simp
theorem gathN_len (h : GoodR L W) (hw : NeW W) (z : Int) : (gathN L W z).length ≤ W.length := by
  have := endsR_len (L := L) (W := W) (z := z)
  rw [← gathN_sorted h hw, sortI_len] at this
  exact this
theorem ends_r (S : SH F0 I0 w0 O w I) (i : Nat) (e : O[i]? = some (AU b L W)) (hW : W.length ≤ 1000000) (n : Int) :
    Calls Try.prog 16 #[.pointer (some ⟨b, 0, none⟩), .int .i64 n] w fun e w' => ∃ v, e = .returned v ∧ Upd w No I w' (Row kI v (endsR L W n)) := by
  obtain ⟨l, hT, hk⟩ := S.au i e
  have S := ((SH.start w I S.bd).know (h := AL b l) hT).nilrow (k := kI)
  have HK := As.mk hk
  have hlen := hk.ok.len
  have HS := As.mk (gathN_sorted hk.good hk.ne n)
  have hgl := gathN_len hk.good hk.ne n
  clear hT hk e
  have hc := S.cells; simp only [Cells, cellsC, Im, Row, El, RTH, TreeH, TR, AU, AL, Nat.zero_add, Nat.reduceAdd] at hc
  go_enter Try.func16, Try.ntmps16
  go_wp2_with (first | ((first | (with_reducible refine wpl_seal S ?_) | (with_reducible refine cw_seal S ?_) | (with_reducible refine bp_seal S ?_) | (with_reducible refine ca_seal S ?_)); clear S; (try clear hc); intro w1 S; (try simp only [List.set_cons_zero, List.set_cons_succ, List.nil_append] at S); have hc := S.cells; simp only [Cells, cellsC, Im, Row, El, RTH, TreeH, TR, AU, AL, Nat.zero_add, Nat.reduceAdd] at hc))
  clear hc
  go_loopw [5, 1] (fun o v w' => ∃ (z : Int) (out : List Int), v = .int .i64 z ∧ As (out ++ gathN L W z = gathN L W n) ∧ As (SH No I w [Row kI o out, AL b l] w' I)) (fun _ v _ => msN L v)
  case atStart => exact ⟨n, [], rfl, ⟨rfl⟩, ⟨S⟩⟩
  case round =>
    clear S
    obtain ⟨z, out, rfl, HO, ⟨S⟩⟩ := hrel
    have hol : out.length + (gathN L W z).length ≤ 1000000 := by rw [← List.length_append, HO.out]; omega
    have HT := As.mk (S.al 1 rfl)
    have hc := S.cells; simp only [Cells, cellsC, Im, Row, El, RTH, TreeH, TR, AU, AL, Nat.zero_add, Nat.reduceAdd] at hc
    by_cases hin : 0 ≤ z ∧ z < l.length
    · obtain ⟨k, rfl⟩ : ∃ k : Nat, z = k := ⟨z.toNat, by omega⟩
      have hkl : k < l.length := by omega
      have hi' := inS_iff.2 hin
      obtain ⟨sb, o, c, A1, c1, A2, c2, h0, -, -, h3, h4, -, h6⟩ := HT.out.at hkl
      have HWS := As.mk h6
      have HST := As.mk (gathN_step HK.out.good (k := k) (by omega))
      have HLK := As.mk (HK.out.ok.link k hkl trivial)
      have HO2 : As ((out ++ l[k].words) ++ gathN L W l[k].link = gathN L W n) := ⟨by rw [HK.out.ok.words k hkl, HLK.out, List.append_assoc, ← HST.out]; exact HO.out⟩
      have hwl : out.length + l[k].words.length ≤ 1000000 := by
        have := HST.out
        rw [this, List.length_append, ← HK.out.ok.words k hkl] at hol
        omega
      have HMS : As (msN L (.int .i64 l[k].link) < msN L (.int .i64 k)) := ⟨by
        rw [HLK.out, msN_nat]
        rcases linkR_lt HK.out.good (n := k) (by omega) with e | ⟨j, e, _, j1, j2, _⟩
        · rw [e, msN_neg]; omega
        · rw [e, msN_nat]; have : dpN L j < dpN L k := j2; omega⟩
      generalize l[k].words = ws at h4 HWS HO2 hwl
      clear hin h6
      go_wp2_with (first | ((first | (with_reducible refine wpl_seal S ?_) | (with_reducible refine cw_seal S ?_) | (with_reducible refine bp_seal S ?_) | (with_reducible refine ca_seal S ?_)); clear S; (try clear hc); intro w1 S; (try simp only [List.set_cons_zero, List.set_cons_succ, List.nil_append] at S); have hc := S.cells; simp only [Cells, cellsC, Im, Row, El, RTH, TreeH, TR, AU, AL, Nat.zero_add, Nat.reduceAdd] at hc) | (go_at_call 36; refine (ain_c l _ _ _ _ HT.out).mono ?_; rintro e w' ⟨rfl, rfl⟩) | ((at_builtin; refine wpl_app S 0 rfl rfl _ _ rfl ty_ints rfl A2 c2 _ rfl I (fun _ _ h => h) HWS.out (by (try simp only [maxLen, List.length_nil, List.length_append, List.length_cons]); omega) (by (try simp only [maxLen, List.length_nil, List.length_append, List.length_cons]); omega) ?_; clear S; (try clear hc); intro va w1 S; simp only [List.set_cons_zero, List.set_cons_succ, List.nil_append] at S; have hc := S.cells; simp only [Cells, cellsC, Im, Row, El, RTH, TreeH, TR, AU, AL, Nat.zero_add, Nat.reduceAdd] at hc); obtain ⟨sb', o', c', A1', c1', A2', c2', h0', -, -, h3', -, -, -⟩ := (S.al 1 rfl).at hkl))
      go_roundw
      case rel => exact ⟨l[k].link, _, rfl, HO2, ⟨S⟩⟩
      case measure => exact HMS.out
    · have hi' := inS_no hin
      have hg0 : gathN L W z = [] := gathN_out (by omega)
      have HOE : As (out = gathN L W n) := ⟨by rw [← HO.out, hg0, List.append_nil]⟩
      clear hin hg0
      go_wp2_with (first | ((first | (with_reducible refine wpl_seal S ?_) | (with_reducible refine cw_seal S ?_) | (with_reducible refine bp_seal S ?_) | (with_reducible refine ca_seal S ?_)); clear S; (try clear hc); intro w1 S; (try simp only [List.set_cons_zero, List.set_cons_succ, List.nil_append] at S); have hc := S.cells; simp only [Cells, cellsC, Im, Row, El, RTH, TreeH, TR, AU, AL, Nat.zero_add, Nat.reduceAdd] at hc) | (go_at_call 36; refine (ain_c l _ _ _ _ HT.out).mono ?_; rintro e w' ⟨rfl, rfl⟩) | (go_at_call 39; refine (sort_r S 0 rfl (by rw [HOE.out]; omega)).mono ?_; clear hc; rintro e w1 ⟨rfl, S1⟩; clear S; have S := S1; clear S1; simp only [List.set_cons_zero, List.set_cons_succ, List.nil_append] at S; have hc := S.cells; simp only [Cells, cellsC, Im, Row, El, RTH, TreeH, TR, AU, AL, Nat.zero_add, Nat.reduceAdd] at hc))
      go_ret
      refine ⟨_, rfl, ?_⟩
      rw [← HS.out, ← HOE.out]
      exact S.ret 0 rfl
theorem runR_len : ∀ (xs : List Int) (n : Int), (runR L n xs).length = xs.length
  | [], _ => rfl
  | p :: r, n => by simp only [runR, List.length_cons, runR_len r]
theorem run_r (S : SH F0 I0 w0 O w I) (i : Nat) (e : O[i]? = some (AU b L W)) (hL : L.length ≤ 1000000) (n : Int) (xs : List Int) {D : Fp} (hx : Sl kP w D A xs) (hn : xs.length ≤ 1000000) :
    Calls Try.prog 14 #[.pointer (some ⟨b, 0, none⟩), .int .i64 n, .slice A xs.length c] w fun e w' => ∃ v, e = .returned v ∧ Upd w No I w' (Row kI v (runA L n xs)) := by
  have hG := (S.auG i e).1
  obtain ⟨l, hT, hk⟩ := S.au i e
  have S := ((SH.start w I S.bd).know (h := AU b L W) ⟨l, hT, hk⟩).nilrow (k := kI)
  have HG := As.mk hG
  have HX := As.mk hx
  clear hT hk e hx hG
  have hc := S.cells; simp only [Cells, cellsC, Im, Row, El, RTH, TreeH, TR, AU, AL, Nat.zero_add, Nat.reduceAdd] at hc
  by_cases hin : 0 ≤ n ∧ n < L.length
  · have HE : As (runA L n xs = runR L n xs) := ⟨by unfold runA; rw [if_pos hin]⟩
    go_enter Try.func14, Try.ntmps14
    go_wp2_with (first | ((first | (with_reducible refine wpl_seal S ?_) | (with_reducible refine cw_seal S ?_) | (with_reducible refine bp_seal S ?_) | (with_reducible refine ca_seal S ?_)); clear S; (try clear hc); intro w1 S; (try simp only [List.set_cons_zero, List.set_cons_succ, List.nil_append] at S); have hc := S.cells; simp only [Cells, cellsC, Im, Row, El, RTH, TreeH, TR, AU, AL, Nat.zero_add, Nat.reduceAdd] at hc))
    clear hc
    go_loopw [7, 1, 12] (fun o v i w' => ∃ (k : Nat) (z : Int) (out : List Int), k ≤ xs.length ∧ i = .int .i64 k ∧ v = .int .i64 z ∧ (0 ≤ z ∧ z < L.length) ∧ As (out ++ runR L z (xs.drop k) = runR L n xs) ∧ As (SH No I w [Row kI o out, AU b L W] w' I)) (fun _ _ i _ => xs.length - (intOf i).toNat)
    case atStart => exact ⟨0, n, [], Nat.zero_le _, rfl, rfl, hin, ⟨rfl⟩, ⟨S⟩⟩
    case round =>
      clear S
      obtain ⟨k, z, out, hk, rfl, rfl, hz, HO, ⟨S⟩⟩ := hrel
      have hol : out.length + (xs.length - k) = xs.length := by
        have := congrArg List.length HO.out
        rw [List.length_append, runR_len, runR_len, List.length_drop] at this
        exact this
      have hc := S.cells; simp only [Cells, cellsC, Im, Row, El, RTH, TreeH, TR, AU, AL, Nat.zero_add, Nat.reduceAdd] at hc
      by_cases hkt : k < xs.length
      · have hkt' : decide ((k : Int) < xs.length) = true := by simpa using hkt
        obtain ⟨xb, xo, rfl, hcx⟩ := (HX.out.below S.out).int_at hkt
        have HD : As (xs.drop k = xs[k] :: xs.drop (k + 1)) := ⟨List.drop_eq_getElem_cons hkt⟩
        obtain ⟨z', hz', hd⟩ : ∃ j : Nat, nextR L z xs[k] = j ∧ j < L.length := by
          obtain ⟨q, rfl⟩ : ∃ q : Nat, z = q := ⟨z.toNat, by omega⟩
          obtain ⟨j, e, hj⟩ := nextR_lt HG.out (n := q) (by omega) xs[k]
          exact ⟨j, e, hj.lt⟩
        have HO2 : As ((out ++ [(z' : Int)]) ++ runR L z' (xs.drop (k + 1)) = runR L n xs) := ⟨by rw [← HO.out, HD.out]; simp only [runR, hz']; simp⟩
        have hneg : ((z' : Int) == -1) = false := by rw [beq_eq_false_iff_ne]; omega
        have HZ := As.mk hz'
        generalize xs[k] = x at hcx HZ
        clear hz' HD
        go_wp2_with (first | ((first | (with_reducible refine wpl_seal S ?_) | (with_reducible refine cw_seal S ?_) | (with_reducible refine bp_seal S ?_) | (with_reducible refine ca_seal S ?_)); clear S; (try clear hc); intro w1 S; (try simp only [List.set_cons_zero, List.set_cons_succ, List.nil_append] at S); have hc := S.cells; simp only [Cells, cellsC, Im, Row, El, RTH, TreeH, TR, AU, AL, Nat.zero_add, Nat.reduceAdd] at hc) | (go_at_call 10; refine (next_r S 1 rfl hL z x).mono ?_; rw [HZ.out]; rintro e w1 ⟨rfl, hx⟩; replace S := S.ext hx; clear hx; (try clear hc); have hc := S.cells; simp only [Cells, cellsC, Im, Row, El, RTH, TreeH, TR, AU, AL, Nat.zero_add, Nat.reduceAdd] at hc) | (at_builtin; refine wpl_push S 1 rfl rfl _ _ rfl ty_ints rfl (z' : Int) _ _ rfl [_] _ (S.cel 0 rfl) rfl (by (try simp only [maxLen, List.length_nil, List.length_append, List.length_cons]); omega) (by (try simp only [maxLen, List.length_nil, List.length_append, List.length_cons]); omega) ?_; clear S; (try clear hc); intro va w1 S; simp only [List.set_cons_zero, List.set_cons_succ, List.nil_append] at S; have hc := S.cells; simp only [Cells, cellsC, Im, Row, El, RTH, TreeH, TR, AU, AL, Nat.zero_add, Nat.reduceAdd] at hc))
        go_roundw
        case rel => exact ⟨k + 1, z', _, by omega, by go_num, rfl, by omega, HO2, ⟨(S.sel [1, 2] (by decide) rfl (by simp) : SH _ _ _ [_, _] _ _)⟩⟩
        case measure => simp [intOf] <;> omega
      · have hkt' : decide ((k : Int) < xs.length) = false := by simpa using hkt
        obtain rfl : k = xs.length := by omega
        have HO3 : As (out = runR L n xs) := ⟨by rw [← HO.out, List.drop_length]; simp [runR]⟩
        go_wp2_with (first | ((first | (with_reducible refine wpl_seal S ?_) | (with_reducible refine cw_seal S ?_) | (with_reducible refine bp_seal S ?_) | (with_reducible refine ca_seal S ?_)); clear S; (try clear hc); intro w1 S; (try simp only [List.set_cons_zero, List.set_cons_succ, List.nil_append] at S); have hc := S.cells; simp only [Cells, cellsC, Im, Row, El, RTH, TreeH, TR, AU, AL, Nat.zero_add, Nat.reduceAdd] at hc))
        go_ret
        refine ⟨_, rfl, ?_⟩
        rw [HE.out, ← HO3.out]
        exact S.ret 0 rfl
  · have HE : As (runA L n xs = []) := ⟨by unfold runA; rw [if_neg hin]⟩
    have HN : As (∀ p, nextR L n p = -1) := ⟨fun p => by unfold nextR; rw [if_neg hin]⟩
    go_enter Try.func14, Try.ntmps14
    go_wp2_with (first | ((first | (with_reducible refine wpl_seal S ?_) | (with_reducible refine cw_seal S ?_) | (with_reducible refine bp_seal S ?_) | (with_reducible refine ca_seal S ?_)); clear S; (try clear hc); intro w1 S; (try simp only [List.set_cons_zero, List.set_cons_succ, List.nil_append] at S); have hc := S.cells; simp only [Cells, cellsC, Im, Row, El, RTH, TreeH, TR, AU, AL, Nat.zero_add, Nat.reduceAdd] at hc))
    clear hc
    go_loopw [7, 1, 12] (fun o v i w' => o = .slice none 0 0 ∧ i = .int .i64 0 ∧ v = .int .i64 n ∧ As (SH No I w [Row kI (.slice none 0 0) [], AU b L W] w' I)) (fun _ _ i _ => xs.length - (intOf i).toNat)
    case atStart => exact ⟨rfl, rfl, rfl, ⟨S⟩⟩
    case round =>
      clear S
      obtain ⟨rfl, rfl, rfl, ⟨S⟩⟩ := hrel
      have hc := S.cells; simp only [Cells, cellsC, Im, Row, El, RTH, TreeH, TR, AU, AL, Nat.zero_add, Nat.reduceAdd] at hc
      by_cases hkt : 0 < xs.length
      · have hkt' : decide ((0 : Int) < xs.length) = true := by simp; omega
        have hkt2 : xs ≠ [] := fun e => by rw [e] at hkt; exact absurd hkt (Nat.lt_irrefl _)
        obtain ⟨xb, xo, rfl, hcx⟩ := (HX.out.below S.out).int_at hkt
        have HNX := As.mk (HN.out xs[0])
        rw [Nat.add_zero] at hcx
        generalize xs[0] = x at hcx HNX
        go_wp2_with (first | ((first | (with_reducible refine wpl_seal S ?_) | (with_reducible refine cw_seal S ?_) | (with_reducible refine bp_seal S ?_) | (with_reducible refine ca_seal S ?_)); clear S; (try clear hc); intro w1 S; (try simp only [List.set_cons_zero, List.set_cons_succ, List.nil_append] at S); have hc := S.cells; simp only [Cells, cellsC, Im, Row, El, RTH, TreeH, TR, AU, AL, Nat.zero_add, Nat.reduceAdd] at hc) | (go_at_call 10; refine (next_r S 1 rfl hL n x).mono ?_; rw [HNX.out]; rintro e w1 ⟨rfl, hx⟩; replace S := S.ext hx; clear hx; (try clear hc); have hc := S.cells; simp only [Cells, cellsC, Im, Row, El, RTH, TreeH, TR, AU, AL, Nat.zero_add, Nat.reduceAdd] at hc))
        go_ret
        refine ⟨_, rfl, ?_⟩
        rw [HE.out]
        exact S.ret 0 rfl
      · obtain rfl : xs = [] := List.eq_nil_of_length_eq_zero (by omega)
        have hkt' : decide ((0 : Int) < ([] : List Int).length) = false := by simp
        go_wp2_with (first | ((first | (with_reducible refine wpl_seal S ?_) | (with_reducible refine cw_seal S ?_) | (with_reducible refine bp_seal S ?_) | (with_reducible refine ca_seal S ?_)); clear S; (try clear hc); intro w1 S; (try simp only [List.set_cons_zero, List.set_cons_succ, List.nil_append] at S); have hc := S.cells; simp only [Cells, cellsC, Im, Row, El, RTH, TreeH, TR, AU, AL, Nat.zero_add, Nat.reduceAdd] at hc))
        go_ret
        refine ⟨_, rfl, ?_⟩
        rw [HE.out]
        exact S.ret 0 rfl
theorem same_r (S : SH F0 I0 w0 O w I) (i : Nat) (e : O[i]? = some (AU b L W)) (hW : W.length ≤ 1000000) (n m : Int) :
    Calls Try.prog 33 #[.pointer (some ⟨b, 0, none⟩), .int .i64 n, .int .i64 m] w fun e w' => e = .returned (.bool (sameR L W n m)) ∧ Ext w w' := by
  obtain ⟨l, hT, hk⟩ := S.au i e
  have hlen := hk.ok.len
  have S := ((SH.start w I S.bd).know (h := AU b L W) ⟨l, hT, hk⟩).know (h := AL b l) hT
  have hHT := S.al 0 rfl
  have HT := As.mk hHT
  clear hT hk e hHT
  by_cases h1 : 0 ≤ n ∧ n < l.length
  · have hi1 := inS_iff.2 h1
    by_cases h2 : 0 ≤ m ∧ m < l.length
    · have hi2 := inS_iff.2 h2
      have HE : As (sameR L W n m = decide (endsR L W n = endsR L W m)) := ⟨by unfold sameR; rw [decide_eq_true (show 0 ≤ n ∧ n < (L.length : Int) by omega), decide_eq_true (show 0 ≤ m ∧ m < (L.length : Int) by omega)]; simp⟩
      clear h1 h2
      have hl1 := endsR_len (L := L) (W := W) (z := n)
      have hl2 := endsR_len (L := L) (W := W) (z := m)
      generalize hE1 : endsR L W n = E1 at HE hl1
      generalize hE2 : endsR L W m = E2 at HE hl2
      have HE1 := As.mk hE1
      have HE2 := As.mk hE2
      clear hE1 hE2
      have hc := S.cells; simp only [Cells, cellsC, Im, Row, El, RTH, TreeH, TR, AU, AL, Nat.zero_add, Nat.reduceAdd] at hc
      go_enter Try.func33, Try.ntmps33
      go_wp2_with (first | ((first | (with_reducible refine wpl_seal S ?_) | (with_reducible refine cw_seal S ?_) | (with_reducible refine bp_seal S ?_) | (with_reducible refine ca_seal S ?_)); clear S; (try clear hc); intro w1 S; (try simp only [List.set_cons_zero, List.set_cons_succ, List.nil_append] at S); have hc := S.cells; simp only [Cells, cellsC, Im, Row, El, RTH, TreeH, TR, AU, AL, Nat.zero_add, Nat.reduceAdd] at hc) | (go_at_call 36; with_reducible refine (ain_c l n _ _ _ HT.out).mono ?_; rintro e w' ⟨rfl, rfl⟩) | (go_at_call 36; with_reducible refine (ain_c l m _ _ _ HT.out).mono ?_; rintro e w' ⟨rfl, rfl⟩) | (go_at_call 16; with_reducible refine (ends_r S 1 rfl hW n).mono ?_; rw [HE1.out]; rintro e w1 ⟨v, rfl, hu⟩; obtain ⟨I1, S1, hI1⟩ := S.new hu; clear S hu hI1; (try clear hc); have S := S1; clear S1; have hc := S.cells; simp only [Cells, cellsC, Im, Row, El, RTH, TreeH, TR, AU, AL, Nat.zero_add, Nat.reduceAdd] at hc; obtain ⟨A1, c1, I1, e1, hc1, S1, hI1⟩ := S.frow 0 rfl; subst e1; clear S hI1; have S := S1; clear S1; simp only [List.set_cons_zero, List.set_cons_succ, List.nil_append] at S; have hc := S.cells; simp only [Cells, cellsC, Im, Row, El, RTH, TreeH, TR, AU, AL, Nat.zero_add, Nat.reduceAdd] at hc) | (go_at_call 16; with_reducible refine (ends_r S 2 rfl hW m).mono ?_; rw [HE2.out]; rintro e w1 ⟨v, rfl, hu⟩; obtain ⟨I1, S1, hI1⟩ := S.new hu; clear S hu hI1; (try clear hc); have S := S1; clear S1; have hc := S.cells; simp only [Cells, cellsC, Im, Row, El, RTH, TreeH, TR, AU, AL, Nat.zero_add, Nat.reduceAdd] at hc; obtain ⟨A2, c2, I1, e1, hc2, S1, hI1⟩ := S.frow 0 rfl; subst e1; clear S hI1; have S := S1; clear S1; simp only [List.set_cons_zero, List.set_cons_succ, List.nil_append] at S; have hc := S.cells; simp only [Cells, cellsC, Im, Row, El, RTH, TreeH, TR, AU, AL, Nat.zero_add, Nat.reduceAdd] at hc) | (go_at_call 49; refine (equalI_c E1 E2 A1 A2 c1 c2 _ _ _ (S.im 1 rfl) (S.im 0 rfl) (by omega) (by omega)).mono ?_; rintro e w1 ⟨rfl, hx⟩; replace S := S.ext hx; clear hx; (try clear hc); have hc := S.cells; simp only [Cells, cellsC, Im, Row, El, RTH, TreeH, TR, AU, AL, Nat.zero_add, Nat.reduceAdd] at hc))
      go_ret
      exact ⟨ret_bool HE.out.symm, S.out⟩
    · have hi2 := inS_no h2
      have HE : As (sameR L W n m = false) := ⟨by unfold sameR; rw [decide_eq_false (p := 0 ≤ m ∧ m < (L.length : Int)) (by omega)]; simp⟩
      clear h1 h2
      have hc := S.cells; simp only [Cells, cellsC, Im, Row, El, RTH, TreeH, TR, AU, AL, Nat.zero_add, Nat.reduceAdd] at hc
      go_enter Try.func33, Try.ntmps33
      go_wp2_with (first | ((first | (with_reducible refine wpl_seal S ?_) | (with_reducible refine cw_seal S ?_) | (with_reducible refine bp_seal S ?_) | (with_reducible refine ca_seal S ?_)); clear S; (try clear hc); intro w1 S; (try simp only [List.set_cons_zero, List.set_cons_succ, List.nil_append] at S); have hc := S.cells; simp only [Cells, cellsC, Im, Row, El, RTH, TreeH, TR, AU, AL, Nat.zero_add, Nat.reduceAdd] at hc) | (go_at_call 36; with_reducible refine (ain_c l n _ _ _ HT.out).mono ?_; rintro e w' ⟨rfl, rfl⟩) | (go_at_call 36; with_reducible refine (ain_c l m _ _ _ HT.out).mono ?_; rintro e w' ⟨rfl, rfl⟩))
      go_ret
      exact ⟨ret_bool HE.out.symm, S.out⟩
  · have hi1 := inS_no h1
    have HE : As (sameR L W n m = false) := ⟨by unfold sameR; rw [decide_eq_false (p := 0 ≤ n ∧ n < (L.length : Int)) (by omega)]; simp⟩
    clear h1
    have hc := S.cells; simp only [Cells, cellsC, Im, Row, El, RTH, TreeH, TR, AU, AL, Nat.zero_add, Nat.reduceAdd] at hc
    go_enter Try.func33, Try.ntmps33
    go_wp2_with (first | ((first | (with_reducible refine wpl_seal S ?_) | (with_reducible refine cw_seal S ?_) | (with_reducible refine bp_seal S ?_) | (with_reducible refine ca_seal S ?_)); clear S; (try clear hc); intro w1 S; (try simp only [List.set_cons_zero, List.set_cons_succ, List.nil_append] at S); have hc := S.cells; simp only [Cells, cellsC, Im, Row, El, RTH, TreeH, TR, AU, AL, Nat.zero_add, Nat.reduceAdd] at hc) | (go_at_call 36; with_reducible refine (ain_c l n _ _ _ HT.out).mono ?_; rintro e w' ⟨rfl, rfl⟩))
    go_ret
    exact ⟨ret_bool HE.out.symm, S.out⟩
end
end Go.Proofs.Ytiemglijfdaliaa
