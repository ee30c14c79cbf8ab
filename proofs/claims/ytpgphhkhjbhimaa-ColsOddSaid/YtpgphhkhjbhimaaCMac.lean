/- The machine of columns: an object; what is asked of it; a row told. -/
import Derived.Test.YtpgphhkhjbhimaaAutN
import Derived.Test.YtpgphhkhjbhimaaOwn4
import Derived.Test.YtpgphhkhjbhimaaCRef
namespace Go.Proofs.Ytpgphhkhjbhimaa
open Go.RowKit X
set_option maxHeartbeats 1000000
set_option maxRecDepth 8000
set_option linter.unusedSimpArgs false
set_option linter.unusedVariables false
def maM (gm ga g : Nat) (L W : List (List Int)) (st junk : List Int) (rows : Nat) : List Ob := [Cel gm 64 [.pointer (some ⟨ga, 0, none⟩), .slice (some ⟨g, 0, none⟩) st.length st.length, .int .i64 rows], AU ga L W, Cel g 3 ((st ++ junk).map (Value.int .i64))]
/-- a machine: its tree's paths, its words, its places' states, how many rows it was told -/
def MaO (gm : Nat) (L W : List (List Int)) (st : List Int) (rows : Nat) : Ob := .of {
  sat := fun w F I => ∃ ga g junk, (Many (maM gm ga g L W st junk rows)).sat w F I
  keep := fun ⟨ga, g, junk, h⟩ hk => ⟨ga, g, junk, (Many _).keep h hk⟩
  weak := fun ⟨ga, g, junk, h⟩ hf hi hn => ⟨ga, g, junk, (Many _).weak h hf hi hn⟩ }
section
variable {F0 I0 F I : Fp} {w0 w w' : World} {O : List Ob} {L W : List (List Int)} {st : List Int} {rows gm : Nat}
theorem X.SH.openMa (S : SH F I w [MaO gm L W st rows] w I) : ∃ ga g junk, SH F I w (maM gm ga g L W st junk rows) w I := by
  obtain ⟨⟨ga, g, junk⟩, S1⟩ := S.pick (h' := fun x : Nat × Nat × List Int => Many (maM gm x.1 x.2.1 L W st x.2.2 rows)) 0 rfl (fun F ⟨ga, g, junk, h⟩ => ⟨(ga, g, junk), h⟩)
  have S2 := SH.openM (L := []) S1
  rw [List.append_nil] at S2
  exact ⟨ga, g, junk, S2⟩
theorem X.SH.asMa {ga g : Nat} {junk : List Int} (S : SH F0 I0 w0 O w I) (i : Nat) (e : O[i]? = some (Many (maM gm ga g L W st junk rows))) : SH F0 I0 w0 (O.set i (MaO gm L W st rows)) w I :=
  S.updI i e (h' := MaO gm L W st rows) fun F h hb => ⟨F, ⟨ga, g, junk, h⟩, fun k hk => ⟨(hb k hk).1, .inl hk⟩, Chg.refl _ _⟩
theorem cel_sl {g : Nat} {st junk : List Int} (i : Nat) (S : SH F0 I0 w0 O w I) (e : O[i]? = some (Cel g 3 ((st ++ junk).map (Value.int .i64)))) : Sl kI w (fun b => b = g) (some ⟨g, 0, none⟩) st := by
  intro j hj
  refine ⟨g, 0, [.int .i64 st[j]], rfl, lt_of_heap (S.cel i e), rfl, rfl, rfl, fun t u ht => ?_⟩
  rcases t with _ | t
  · cases ht
    have := S.cell i j e (u := .int .i64 st[j]) (by rw [List.getElem?_map, List.getElem?_append_left hj, List.getElem?_eq_getElem hj]; rfl)
    rw [show 0 + j * kI.size + 0 = j by simp [kI, Kd.int]]
    exact this
  · cases ht
theorem cplaces_r (S0 : SH F0 I0 w0 O w I) (i : Nat) (e : O[i]? = some (MaO gm L W st rows)) :
    Calls Try.prog 22 #[.pointer (some ⟨gm, 0, none⟩)] w fun e w' => e = .returned (.int .i64 st.length) ∧ w = w' := by
  obtain ⟨F, hI, S, back⟩ := S0.call1 i e
  clear back S0 e
  obtain ⟨ga, g, junk, S⟩ := S.openMa
  unfold maM at S
  have hc := S.cells; simp only [Cells, cellsC, Im, Row, El, RTH, TreeH, TR, AU, AL, OrNil, Many, MaO, FlatO, Nat.zero_add, Nat.reduceAdd] at hc
  go_enter Try.func22, Try.ntmps22
  go_wp2_with (first | ((first | (with_reducible refine wpl_seal S ?_) | (with_reducible refine cw_seal S ?_) | (with_reducible refine bp_seal S ?_) | (with_reducible refine ca_seal S ?_)); clear S; (try clear hc); intro w1 S; (try simp only [List.set_cons_zero, List.set_cons_succ, List.nil_append] at S); have hc := S.cells; simp only [Cells, cellsC, Im, Row, El, RTH, TreeH, TR, AU, AL, OrNil, Many, MaO, FlatO, Nat.zero_add, Nat.reduceAdd] at hc))
  go_ret
  exact ⟨rfl, rfl⟩
theorem croom_r (S0 : SH F0 I0 w0 O w I) (i : Nat) (e : O[i]? = some (MaO gm L W st rows)) :
    Calls Try.prog 20 #[.pointer (some ⟨gm, 0, none⟩)] w fun e w' => e = .returned (.int .i64 st.length) ∧ w = w' := by
  obtain ⟨F, hI, S, back⟩ := S0.call1 i e
  clear back S0 e
  obtain ⟨ga, g, junk, S⟩ := S.openMa
  unfold maM at S
  have hc := S.cells; simp only [Cells, cellsC, Im, Row, El, RTH, TreeH, TR, AU, AL, OrNil, Many, MaO, FlatO, Nat.zero_add, Nat.reduceAdd] at hc
  go_enter Try.func20, Try.ntmps20
  go_wp2_with (first | ((first | (with_reducible refine wpl_seal S ?_) | (with_reducible refine cw_seal S ?_) | (with_reducible refine bp_seal S ?_) | (with_reducible refine ca_seal S ?_)); clear S; (try clear hc); intro w1 S; (try simp only [List.set_cons_zero, List.set_cons_succ, List.nil_append] at S); have hc := S.cells; simp only [Cells, cellsC, Im, Row, El, RTH, TreeH, TR, AU, AL, OrNil, Many, MaO, FlatO, Nat.zero_add, Nat.reduceAdd] at hc))
  go_ret
  exact ⟨rfl, rfl⟩
theorem crows_r (S0 : SH F0 I0 w0 O w I) (i : Nat) (e : O[i]? = some (MaO gm L W st rows)) :
    Calls Try.prog 17 #[.pointer (some ⟨gm, 0, none⟩)] w fun e w' => e = .returned (.int .i64 rows) ∧ w = w' := by
  obtain ⟨F, hI, S, back⟩ := S0.call1 i e
  clear back S0 e
  obtain ⟨ga, g, junk, S⟩ := S.openMa
  unfold maM at S
  have hc := S.cells; simp only [Cells, cellsC, Im, Row, El, RTH, TreeH, TR, AU, AL, OrNil, Many, MaO, FlatO, Nat.zero_add, Nat.reduceAdd] at hc
  go_enter Try.func17, Try.ntmps17
  go_wp2_with (first | ((first | (with_reducible refine wpl_seal S ?_) | (with_reducible refine cw_seal S ?_) | (with_reducible refine bp_seal S ?_) | (with_reducible refine ca_seal S ?_)); clear S; (try clear hc); intro w1 S; (try simp only [List.set_cons_zero, List.set_cons_succ, List.nil_append] at S); have hc := S.cells; simp only [Cells, cellsC, Im, Row, El, RTH, TreeH, TR, AU, AL, OrNil, Many, MaO, FlatO, Nat.zero_add, Nat.reduceAdd] at hc))
  go_ret
  exact ⟨rfl, rfl⟩
theorem csize_r (S0 : SH F0 I0 w0 O w I) (i : Nat) (e : O[i]? = some (MaO gm L W st rows)) :
    Calls Try.prog 21 #[.pointer (some ⟨gm, 0, none⟩)] w fun e w' => e = .returned (.int .i64 L.length) ∧ w = w' := by
  obtain ⟨F, hI, S, back⟩ := S0.call1 i e
  clear back S0 e
  obtain ⟨ga, g, junk, S⟩ := S.openMa
  unfold maM at S
  have hc := S.cells; simp only [Cells, cellsC, Im, Row, El, RTH, TreeH, TR, AU, AL, OrNil, Many, MaO, FlatO, Nat.zero_add, Nat.reduceAdd] at hc
  go_enter Try.func21, Try.ntmps21
  go_wp2_with (first | ((first | (with_reducible refine wpl_seal S ?_) | (with_reducible refine cw_seal S ?_) | (with_reducible refine bp_seal S ?_) | (with_reducible refine ca_seal S ?_)); clear S; (try clear hc); intro w1 S; (try simp only [List.set_cons_zero, List.set_cons_succ, List.nil_append] at S); have hc := S.cells; simp only [Cells, cellsC, Im, Row, El, RTH, TreeH, TR, AU, AL, OrNil, Many, MaO, FlatO, Nat.zero_add, Nat.reduceAdd] at hc) | (go_at_call 41; refine (alen_r S 1 rfl).mono ?_; rintro e w1 ⟨rfl, rfl⟩))
  go_ret
  exact ⟨rfl, rfl⟩
theorem cstates_r (S0 : SH F0 I0 w0 O w I) (i : Nat) (e : O[i]? = some (MaO gm L W st rows)) (hn : st.length ≤ 10000) :
    Calls Try.prog 18 #[.pointer (some ⟨gm, 0, none⟩)] w fun e w' => ∃ v, e = .returned v ∧ Upd w No I w' (Row kI v st) := by
  obtain ⟨F, hI, S, back⟩ := S0.call1 i e
  clear back S0 e
  obtain ⟨ga, g, junk, S⟩ := S.openMa
  unfold maM at S
  have HS := As.mk (cel_sl 2 S rfl)
  have hc := S.cells; simp only [Cells, cellsC, Im, Row, El, RTH, TreeH, TR, AU, AL, OrNil, Many, MaO, FlatO, Nat.zero_add, Nat.reduceAdd] at hc
  go_enter Try.func18, Try.ntmps18
  go_wp2_with (first | ((first | (with_reducible refine wpl_seal S ?_) | (with_reducible refine cw_seal S ?_) | (with_reducible refine bp_seal S ?_) | (with_reducible refine ca_seal S ?_)); clear S; (try clear hc); intro w1 S; (try simp only [List.set_cons_zero, List.set_cons_succ, List.nil_append] at S); have hc := S.cells; simp only [Cells, cellsC, Im, Row, El, RTH, TreeH, TR, AU, AL, OrNil, Many, MaO, FlatO, Nat.zero_add, Nat.reduceAdd] at hc) | (go_at_call 40; refine (cloneI_c st _ _ _ _ HS.out (by omega)).mono ?_; rintro e w1 ⟨v8, rfl, ho8, hx8⟩))
  go_ret
  exact ⟨_, rfl, ho8.upd hx8 _⟩
theorem cmay_c (p : Int) (w : World) : Calls Try.prog 26 #[.int .i64 p] w fun e w' => e = .returned (.bool (decide (0 ≤ p) && decide (p ≤ 4096))) ∧ w = w' := by
  go_enter Try.func26, Try.ntmps26
  by_cases h : 0 ≤ p
  · have h' : decide (0 ≤ p) = true := by simpa using h
    go_wp2
    go_ret
    exact ⟨ret_bool (by first | rfl | simp [h]), rfl⟩
  · have h' : decide (0 ≤ p) = false := by simpa using h
    go_wp2
    go_ret
    exact ⟨ret_bool (by first | rfl | simp [h]), rfl⟩
end
end Go.Proofs.Ytpgphhkhjbhimaa
namespace Go.Proofs.Ytpgphhkhjbhimaa
open Go.RowKit X
set_option maxHeartbeats 1000000
set_option maxRecDepth 8000
set_option linter.unusedSimpArgs false
set_option linter.unusedVariables false
/-- f up to k, g from there on -/
def upK {α : Type} (n : Nat) (f g : Nat → α) (k : Nat) : List α := (List.range n).map fun i => if i < k then f i else g i
section
variable {α : Type} {n k : Nat} {f g : Nat → α}
theorem upK_len : (upK n f g k).length = n := by simp [upK]
theorem upK_at {i : Nat} (h : i < (upK n f g k).length) : (upK n f g k)[i] = if i < k then f i else g i := by simp [upK]
theorem upK_set : (upK n f g k).set k (f k) = upK n f g (k + 1) := by
  apply List.ext_getElem
  · simp [upK]
  · intro i h1 h2
    rw [List.getElem_set, upK_at, upK_at]
    by_cases hik : k = i
    · subst hik; rw [if_pos rfl, if_pos (Nat.lt_succ_self _)]
    · rw [if_neg hik]
      by_cases h : i < k
      · rw [if_pos h, if_pos (by omega)]
      · rw [if_neg h, if_neg (by omega)]
theorem upK_skip (h : f k = g k) : upK n f g (k + 1) = upK n f g k := by
  apply List.ext_getElem
  · simp [upK]
  · intro i h1 h2
    rw [upK_at, upK_at]
    by_cases hik : i < k
    · rw [if_pos hik, if_pos (by omega)]
    · rw [if_neg hik]
      split
      · rw [show i = k by omega]; exact h
      · rfl
theorem upK_all : upK n f g n = (List.range n).map f := by
  apply List.ext_getElem
  · simp [upK]
  · intro i h1 h2
    rw [upK_at, if_pos (by simpa [upK] using h1)]
    simp
end
def stepM (L : List (List Int)) (z n : Int) : Int := if n = -1 then 0 else nextR L z n
def outM (L W : List (List Int)) (z n : Int) : List Int := if n = -1 then [] else endsR L W (nextR L z n)
def stepS (L : List (List Int)) (st r : List Int) : List Int := (List.range st.length).map fun i => stepM L (st.getD i 0) (r.getD i 0)
def outS (L W : List (List Int)) (st r : List Int) : List (List Int) := (List.range st.length).map fun i => outM L W (st.getD i 0) (r.getD i 0)
theorem range_getD (st : List Int) : (List.range st.length).map (fun i => st.getD i 0) = st := by
  apply List.ext_getElem
  · simp
  · intro i h1 h2
    rw [List.getElem_map, List.getElem_range, getD_at h2]
theorem rowClo_c (n : Int) (w : World) : Calls Try.prog 34 #[.int .i64 n] w fun e w' => e = .returned (.bool (decide (n < -1))) ∧ w = w' := by
  go_enter Try.func34, Try.ntmps34
  go_wp2
  go_ret
  exact ⟨rfl, rfl⟩
def lowR (r : List Int) : Bool := r.any fun n => decide (n < -1)
theorem indexLow_c (l : List Int) (A : Option Addr) (c : Nat) (w : World) (D : Fp) (hl : Sl kI w D A l) (hn : l.length ≤ 10000) :
    Calls Try.prog 55 #[.slice A l.length c, .func (.func 34) #[] #[]] w fun e w' => ∃ q : Int, e = .returned (.int .i64 q) ∧ decide (0 ≤ q) = lowR l ∧ w = w' := by
  have HS := As.mk hl
  clear hl
  go_enter Try.func55, Try.ntmps55
  go_wp2
  go_loopw [8] (fun i w' => w' = w ∧ ∃ (k : Nat), k ≤ l.length ∧ i = .int .i64 k ∧ As (∀ (j : Nat) (h : j < l.length), j < k → decide (l[j] < -1) = false)) (fun i _ => l.length - (intOf i).toNat)
  case atStart => exact ⟨rfl, 0, by omega, rfl, ⟨fun j _ h => absurd h (Nat.not_lt_zero j)⟩⟩
  case round =>
    obtain ⟨rfl, k, hk, rfl, HK⟩ := hrel
    by_cases hlt : k < l.length
    · have hlt' : decide ((k : Int) < l.length) = true := by simp; omega
      obtain ⟨b, o, rfl, hcx⟩ := HS.out.int_at hlt
      obtain ⟨q, hq⟩ : ∃ q, decide (l[k] < -1) = q := ⟨_, rfl⟩
      have HQ := As.mk hq
      have HT : As (q = false → ∀ (j : Nat) (h : j < l.length), j < k + 1 → decide (l[j] < -1) = false) := ⟨fun hq1 j hj h => by
        rcases Nat.lt_or_eq_of_le (Nat.le_of_lt_succ h) with h1 | h1
        · exact HK.out j hj h1
        · subst h1; rw [hq, hq1]⟩
      have HF : As (q = true → lowR l = true) := ⟨fun hq1 => by
        unfold lowR
        rw [List.any_eq_true]
        exact ⟨_, List.getElem_mem hlt, by rw [hq, hq1]⟩⟩
      clear hq
      generalize l[k] = y at hcx HQ
      cases q
      · go_wp2_with (first | (go_at_call 34; refine (rowClo_c y _).mono ?_; rw [HQ.out]; rintro e w1 ⟨rfl, rfl⟩))
        go_roundw
        case rel => exact ⟨by first | rfl | trivial, k + 1, by omega, by go_num, ⟨HT.out (by first | rfl | trivial)⟩⟩
        case measure => simp [intOf]; omega
      · go_wp2_with (first | (go_at_call 34; refine (rowClo_c y _).mono ?_; rw [HQ.out]; rintro e w1 ⟨rfl, rfl⟩))
        go_ret
        exact ⟨_, rfl, by rw [HF.out (by first | rfl | trivial)]; simp, rfl⟩
    · have hlt' : decide ((k : Int) < l.length) = false := by simp; omega
      go_wp2
      go_ret
      refine ⟨_, rfl, ?_, rfl⟩
      have : lowR l = false := by
        unfold lowR
        rw [List.any_eq_false]
        intro x hx
        obtain ⟨j, hj, rfl⟩ := List.mem_iff_getElem.1 hx
        rw [HK.out j hj (by omega)]
        decide
      rw [this]
      rfl
theorem contLow_c (l : List Int) (A : Option Addr) (c : Nat) (w : World) (D : Fp) (hl : Sl kI w D A l) (hn : l.length ≤ 10000) :
    Calls Try.prog 33 #[.slice A l.length c, .func (.func 34) #[] #[]] w fun e w' => e = .returned (.bool (lowR l)) ∧ w = w' := by
  have HS := As.mk hl
  clear hl
  go_enter Try.func33, Try.ntmps33
  go_wp2_with (first | (go_at_call 55; refine (indexLow_c l A c _ _ HS.out hn).mono ?_; rintro e w1 ⟨q, rfl, hq, rfl⟩))
  go_ret
  exact ⟨ret_bool (by first | rfl | exact hq), rfl⟩
end Go.Proofs.Ytpgphhkhjbhimaa
namespace Go.Proofs.Ytpgphhkhjbhimaa
open Go.RowKit X
set_option maxHeartbeats 4000000
set_option maxRecDepth 8000
set_option linter.unusedSimpArgs false
set_option linter.unusedVariables false
theorem upK_zero {α : Type} {n : Nat} {f g : Nat → α} : upK n f g 0 = (List.range n).map g := by
  apply List.ext_getElem
  · simp [upK]
  · intro i h1 h2
    rw [upK_at, if_neg (Nat.not_lt_zero _)]
    simp
theorem app_set {l m : List Int} {k : Nat} {y : Int} (h : k < l.length) : (l ++ m).set k y = l.set k y ++ m := List.set_append_left _ _ h
theorem flat_set1 {w : World} {D : Fp} {xs : List (List Int)} {cells : List Value} (hf : Flat kII w D xs cells) {i : Nat} (hi : i < xs.length) (y : List Int) (A : Option Addr) (c : Nat) (hc : y.length ≤ c) (hs : Sl kI w D A y) : Flat kII w D (xs.set i y) (cells.set i (.slice A y.length c)) := by
  have := hf.set hi (j := 0) (show 0 < kII.size by decide) (.slice A y.length c) y fun cs h => by
    obtain ⟨A', c', e, _, _⟩ := h
    subst e
    exact ⟨A, c, rfl, hc, hs⟩
  simpa [kII, Kd.sl] using this
section
variable {F0 I0 F I : Fp} {w0 w w' : World} {O : List Ob} {L W : List (List Int)} {st r : List Int} {rows gm : Nat}
theorem crow_r (S0 : SH F0 I0 w0 O w I) (i : Nat) (e : O[i]? = some (MaO gm L W st rows)) (A : Option Addr) (c : Nat) (hx : Sl kI w I A r) (hr : r.length = st.length) (hlow : ∀ y ∈ r, -1 ≤ y ∧ y ≤ 9223372036854775807) (hst : st.length ≤ 5000) (hL : L.length ≤ 1000000) (hW : W.length ≤ 1000000) (hrows : rows ≤ 1000000) :
    Calls Try.prog 11 #[.pointer (some ⟨gm, 0, none⟩), .slice A st.length c] w fun e w' => ∃ g2 J, e = .returned (.tuple #[.slice (some ⟨g2, 0, none⟩) st.length st.length, .int .i64 0]) ∧ SH F0 I0 w0 (Im kII (some ⟨g2, 0, none⟩) (outS L W st r) :: O.set i (MaO gm L W (stepS L st r) (rows + 1))) w' J := by
  obtain ⟨F, hI, S, back⟩ := S0.call2 i e
  have HB := As.mk back
  clear back S0 e
  obtain ⟨ga, g, junk, S⟩ := S.openMa
  unfold maM at S
  have S := S.know (h := Im kI A r) hx
  have HLOW := As.mk hlow
  have HLO : As (lowR r = false) := ⟨by
    unfold lowR
    rw [List.any_eq_false]
    intro x hx
    have := hlow x hx
    simp; omega⟩
  have HST : As (upK st.length (fun i => stepM L (st.getD i 0) (r.getD i 0)) (fun i => st.getD i 0) 0 = st) := ⟨by rw [upK_zero]; exact range_getD st⟩
  have HRES : As (stepS L st r = upK st.length (fun i => stepM L (st.getD i 0) (r.getD i 0)) (fun i => st.getD i 0) st.length) := ⟨by rw [upK_all]; rfl⟩
  have HREO : As (outS L W st r = upK st.length (fun i => outM L W (st.getD i 0) (r.getD i 0)) (fun _ => []) st.length) := ⟨by rw [upK_all]; rfl⟩
  rw [HRES.out, HREO.out]
  rw [← HST.out] at S
  obtain ⟨n, hn⟩ : ∃ n, st.length = n := ⟨_, rfl⟩
  have hrn : r.length = n := hr.trans hn
  have HRN := As.mk hrn
  rw [upK_len, hn] at S
  rw [hn] at hst ⊢
  clear hx hlow HST HRES HREO hr hn hrn
  obtain ⟨sf, hsf⟩ : ∃ sf, (fun i => stepM L (st.getD i 0) (r.getD i 0)) = sf := ⟨_, rfl⟩
  obtain ⟨of, hof⟩ : ∃ of, (fun i => outM L W (st.getD i 0) (r.getD i 0)) = of := ⟨_, rfl⟩
  obtain ⟨ol, hol⟩ : ∃ ol : Nat → Int, (fun i => st.getD i 0) = ol := ⟨_, rfl⟩
  rw [hsf, hol] at S
  rw [hsf, hof, hol]
  have HSF : As (∀ k (h : k < r.length), sf k = stepM L (ol k) r[k]) := ⟨fun k h => by rw [← getD_at h, ← hsf, ← hol]⟩
  have HOF : As (∀ k (h : k < r.length), of k = outM L W (ol k) r[k]) := ⟨fun k h => by rw [← getD_at h, ← hof, ← hol]⟩
  clear hsf hof hol
  have HR0 := HRN.out
  have HCF : As (∀ w' D, Sl kI w' D A r → Calls Try.prog 33 #[.slice A n c, .func (.func 34) #[] #[]] w' fun e w'' => e = .returned (.bool false) ∧ w' = w'') := ⟨fun w' D h => by
    have := contLow_c r A c w' D h (by omega)
    rwa [HLO.out, HRN.out] at this⟩
  have hc := S.cells; simp only [Cells, cellsC, Im, Row, El, RTH, TreeH, TR, AU, AL, OrNil, Many, MaO, FlatO, Nat.zero_add, Nat.reduceAdd] at hc
  go_enter Try.func11, Try.ntmps11
  go_wp2_with (first | ((first | (with_reducible refine wpl_seal S ?_) | (with_reducible refine cw_seal S ?_) | (with_reducible refine bp_seal S ?_) | (with_reducible refine ca_seal S ?_)); clear S; (try clear hc); intro w1 S; (try simp only [List.set_cons_zero, List.set_cons_succ, List.nil_append] at S); have hc := S.cells; simp only [Cells, cellsC, Im, Row, El, RTH, TreeH, TR, AU, AL, OrNil, Many, MaO, FlatO, Nat.zero_add, Nat.reduceAdd] at hc) | (go_at_call 33; refine (HCF.out _ _ (S.im 0 rfl)).mono ?_; rintro e w1 ⟨rfl, rfl⟩) | (at_make; refine wpl_make (k := kII) S rfl _ _ rfl (z := .slice none 0 0) (bytes := 24) (size := 1) Try.underlying22 (by kernel_rfl) rfl (by omega) .i64 .i64 n rfl rfl (by omega) [] (fun _ => ⟨_, _, rfl, Nat.le_refl _, Sl.nil⟩) (by omega) ?_; clear S hc; intro g2 w1 S; have hc := S.cells; simp only [Cells, cellsC, Im, Row, El, RTH, TreeH, TR, AU, AL, OrNil, Many, MaO, FlatO, Nat.zero_add, Nat.reduceAdd] at hc))
  obtain ⟨cs0, hf, S1⟩ := S.rowCel 0 (xs := List.replicate n ([] : List Int)) (by rw [List.length_replicate]; rfl)
  clear S hc
  have S := S1.know (h := FlatO kII (List.replicate n []) cs0) hf
  clear S1 hf
  have h0 : List.replicate n ([] : List Int) = upK n of (fun _ => []) 0 := List.ext_getElem (by simp [upK]) fun i h1 h2 => by rw [upK_at, List.getElem_replicate]; rfl
  rw [h0] at S
  clear h0
  simp only [List.set_cons_zero, List.set_cons_succ] at S
  go_loopw [26] (fun iv w' => ∃ (k : Nat) (cells : List Value) (J : Fp), k ≤ n ∧ iv = .int .i64 k ∧ As (SH F I w [Cel g2 30 cells, FlatO kII (upK n of (fun _ => []) k) cells, Im kI A r, Cel gm 64 [.pointer (some ⟨ga, 0, none⟩), .slice (some ⟨g, 0, none⟩) n n, .int .i64 rows], AU ga L W, Cel g 3 ((upK n sf ol k ++ junk).map (Value.int .i64))] w' J)) (fun iv _ => n - (intOf iv).toNat)
  case atStart => exact ⟨0, cs0, _, Nat.zero_le _, rfl, ⟨S.sel [1, 0, 2, 3, 4, 5] (by decide) rfl (by simp)⟩⟩
  case round =>
    clear S
    obtain ⟨k, cells, J, hk, rfl, ⟨S⟩⟩ := hrel
    by_cases hkn : k < n
    · have hkn' : decide ((k : Int) < n) = true := by simpa using hkn
      have hkr : k < r.length := by omega
      have HSK := As.mk (HSF.out k hkr)
      have HOK := As.mk (HOF.out k hkr)
      have HSS := As.mk (upK_set (n := n) (k := k) (f := sf) (g := ol))
      have HOS := As.mk (upK_set (n := n) (k := k) (f := of) (g := fun _ => []))
      have hkl : k < (upK n sf ol k).length := by rw [upK_len]; exact hkn
      have hkl2 : k < (upK n of (fun _ => []) k).length := by rw [upK_len]; exact hkn
      have hcl : cells.length = n := by have := (S.flat 1 rfl).1; rw [upK_len] at this; simpa [kII, Kd.sl] using this
      have HGZ : As (((upK n sf ol k ++ junk).map (Value.int .i64))[k]? = some (.int .i64 (ol k))) := ⟨by rw [List.getElem?_map, List.getElem?_append_left hkl, List.getElem?_eq_getElem hkl, upK_at, if_neg (Nat.lt_irrefl _)]; rfl⟩
      have HGC : As (cells[k]? = some (cells[k]'(by omega))) := ⟨List.getElem?_eq_getElem _⟩
      obtain ⟨b, o, rfl, hcy⟩ := (S.im 2 rfl).int_at hkr
      have hlo := HLOW.out _ (List.getElem_mem hkr)
      generalize cells[k]'(by omega) = cv at HGC
      generalize r[k] = y at hcy HSK HOK hlo
      have hcz := S.cell 5 k rfl HGZ.out
      have hfz := S.nfz 5 k rfl
      have HUP : As (∀ z, (upK n sf ol k ++ junk).set k z = (upK n sf ol k).set k z ++ junk) := ⟨fun z => app_set hkl⟩
      clear hkl
      by_cases hy : y = -1
      · have hy' : (y == -1) = true := by rw [beq_iff_eq]; exact hy
        have HSK2 : As (sf k = 0) := ⟨by rw [HSK.out]; unfold stepM; rw [if_pos hy]⟩
        have HOK2 : As (of k = []) := ⟨by rw [HOK.out]; unfold outM; rw [if_pos hy]⟩
        have HOS2 : As (upK n of (fun _ => []) (k + 1) = upK n of (fun _ => []) k) := ⟨upK_skip HOK2.out⟩
        clear hy
        have hc := S.cells; simp only [Cells, cellsC, Im, Row, El, RTH, TreeH, TR, AU, AL, OrNil, Many, MaO, FlatO, Nat.zero_add, Nat.reduceAdd] at hc
        go_wp2_with (first | ((first | (with_reducible refine wpl_seal S ?_) | (with_reducible refine cw_seal S ?_) | (with_reducible refine bp_seal S ?_) | (with_reducible refine ca_seal S ?_)); clear S; (try clear hc); intro w1 S; (try simp only [List.set_cons_zero, List.set_cons_succ, List.nil_append] at S); have hc := S.cells; simp only [Cells, cellsC, Im, Row, El, RTH, TreeH, TR, AU, AL, OrNil, Many, MaO, FlatO, Nat.zero_add, Nat.reduceAdd] at hc))
        go_roundw
        case rel =>
          rw [map_set_int, HUP.out, ← HSK2.out, HSS.out] at S
          exact ⟨k + 1, cells, _, by omega, by go_num, ⟨by rw [HOS2.out]; exact S⟩⟩
        case measure => simp [intOf]; omega
      · have hy' : (y == -1) = false := by rw [beq_eq_false_iff_ne]; exact hy
        have hy0 : 0 ≤ y := by omega
        have hy1 : y ≤ 9223372036854775807 := hlo.2
        have HSK2 : As (sf k = nextR L (ol k) y) := ⟨by rw [HSK.out]; unfold stepM; rw [if_neg hy]⟩
        have HOK2 : As (of k = endsR L W (nextR L (ol k) y)) := ⟨by rw [HOK.out]; unfold outM; rw [if_neg hy]⟩
        clear hy hlo HSK HOK
        generalize ol k = z at HGZ HSK2 HOK2 hcz
        obtain ⟨z2, hz2⟩ : ∃ z2, nextR L z y = z2 := ⟨_, rfl⟩
        have HZ2 := As.mk hz2
        rw [hz2] at HSK2 HOK2
        clear hz2
        obtain ⟨ES, hES⟩ : ∃ ES, endsR L W z2 = ES := ⟨_, rfl⟩
        have HES := As.mk hES
        rw [hES] at HOK2
        clear hES
        have hc := S.cells; simp only [Cells, cellsC, Im, Row, El, RTH, TreeH, TR, AU, AL, OrNil, Many, MaO, FlatO, Nat.zero_add, Nat.reduceAdd] at hc
        have hq := S.cellsE; simp only [CellsE, cellsE, Im, Row, El, RTH, TreeH, TR, AU, AL, OrNil, Many, MaO, FlatO, Nat.zero_add, Nat.reduceAdd] at hq
        have hqz := ClE.cell (w := wr.drew) hcz
        go_wp2_with (first | ((first | (with_reducible refine wpl_seal S ?_) | (with_reducible refine cw_seal S ?_) | (with_reducible refine bp_seal S ?_) | (with_reducible refine ca_seal S ?_)); clear S; (try clear hc); intro w1 S; (try simp only [List.set_cons_zero, List.set_cons_succ, List.nil_append] at S); have hc := S.cells; simp only [Cells, cellsC, Im, Row, El, RTH, TreeH, TR, AU, AL, OrNil, Many, MaO, FlatO, Nat.zero_add, Nat.reduceAdd] at hc))
        refine wp_region_ext [⟨[0, 1, 2, 3, 5, 6, 7, 8, 9, 10, 11, 12, 13, 14, 15, 16, 17], [4], 18, true⟩, ⟨[19], [], 20, false⟩] [] (by kernel_rfl) (by kernel_rfl) ?_
        refine mix_cons rfl rfl rfl ?_
        simp only [opsAt, List.getD_cons_succ, List.getD_cons_zero]
        repeat (go_big_quiet_step ((intro hC; first | rfl | (go_simp; first | done | rfl))))
        refine wpQuiet_nil ?_
        repeat (go_big_quiet_step ((intro hC; first | rfl | (go_simp; first | done | rfl))))
        refine wpQuiet_nil ?_
        clear hq hqz hc hcz hfz
        replace S := S.drew
        generalize wr.drew = w1 at S ⊢
        have hc := S.cells; simp only [Cells, cellsC, Im, Row, El, RTH, TreeH, TR, AU, AL, OrNil, Many, MaO, FlatO, Nat.zero_add, Nat.reduceAdd] at hc
        have hcz := S.cell 5 k rfl HGZ.out
        have hfz := S.nfz 5 k rfl
        go_wp2_with (first | ((first | (with_reducible refine mx_seal S ?_) | (with_reducible refine wpl_seal S ?_) | (with_reducible refine ca_seal S ?_)); clear S; (try clear hc); intro w1 S; (try simp only [List.set_cons_zero, List.set_cons_succ, List.nil_append] at S); have hc := S.cells; simp only [Cells, cellsC, Im, Row, El, RTH, TreeH, TR, AU, AL, OrNil, Many, MaO, FlatO, Nat.zero_add, Nat.reduceAdd] at hc) | (go_at_call 35; refine (next_r S 4 rfl hL z y).mono ?_; rw [HZ2.out]; rintro e w1 ⟨rfl, hx⟩; have hxe := hx; clear hcz hfz; replace S := S.ext hx; clear hx; (try clear hc); have hc := S.cells; simp only [Cells, cellsC, Im, Row, El, RTH, TreeH, TR, AU, AL, OrNil, Many, MaO, FlatO, Nat.zero_add, Nat.reduceAdd] at hc; have hcz := S.cell 5 k rfl HGZ.out; have hfz := S.nfz 5 k rfl))
        refine ⟨fun _ => hxe, ?_⟩
        clear hxe
        refine mix_cons rfl rfl rfl ?_
        simp only [opsAt, List.getD_cons_succ, List.getD_cons_zero]
        repeat (go_big_quiet_step ((intro hC; first | rfl | (go_simp; first | done | rfl))))
        refine wpQuiet_nil ?_
        repeat (go_big_quiet_step ((intro hC; first | rfl | (go_simp; first | done | rfl))))
        refine wpQuiet_nil ?_
        go_wp2_with (first | ((first | (with_reducible refine mx_seal S ?_) | (with_reducible refine wpl_seal S ?_) | (with_reducible refine ca_seal S ?_)); clear S; (try clear hc); intro w1 S; (try simp only [List.set_cons_zero, List.set_cons_succ, List.nil_append] at S); have hc := S.cells; simp only [Cells, cellsC, Im, Row, El, RTH, TreeH, TR, AU, AL, OrNil, Many, MaO, FlatO, Nat.zero_add, Nat.reduceAdd] at hc))
        (first | refine ⟨(fun h => by cases h), ?_⟩ | skip); (first | ((first | (with_reducible refine mx_seal S ?_)); clear S; (try clear hc); intro w1 S; (try simp only [List.set_cons_zero, List.set_cons_succ, List.nil_append] at S); have hc := S.cells; simp only [Cells, cellsC, Im, Row, El, RTH, TreeH, TR, AU, AL, OrNil, Many, MaO, FlatO, Nat.zero_add, Nat.reduceAdd] at hc) | skip); (try simp only [Act.put, List.setIfInBounds_toArray, List.set_cons_succ, List.set_cons_zero])
        refine mix_last rfl ?_
        simp only [opsAt, List.getD_cons_succ, List.getD_cons_zero]
        repeat (go_big_quiet_step ((intro hC; first | rfl | (go_simp; first | done | rfl))))
        refine wpQuiet_nil ?_
        simp only [calmQ]
        rw [map_set_int, HUP.out, ← HSK2.out, HSS.out] at S
        have HGZ3 : As (((upK n sf ol (k + 1) ++ junk).map (Value.int .i64))[k]? = some (.int .i64 z2)) := ⟨by
          have hkl : k < (upK n sf ol (k + 1)).length := by rw [upK_len]; exact hkn
          rw [List.getElem?_map, List.getElem?_append_left hkl, List.getElem?_eq_getElem hkl, upK_at, if_pos (Nat.lt_succ_self _), HSK2.out]; rfl⟩
        clear hcz hfz
        have hc := S.cells; simp only [Cells, cellsC, Im, Row, El, RTH, TreeH, TR, AU, AL, OrNil, Many, MaO, FlatO, Nat.zero_add, Nat.reduceAdd] at hc
        go_wp2_with (first | ((first | (with_reducible refine wpl_seal S ?_) | (with_reducible refine cw_seal S ?_) | (with_reducible refine bp_seal S ?_) | (with_reducible refine ca_seal S ?_)); clear S; (try clear hc); intro w1 S; (try simp only [List.set_cons_zero, List.set_cons_succ, List.nil_append] at S); have hc := S.cells; simp only [Cells, cellsC, Im, Row, El, RTH, TreeH, TR, AU, AL, OrNil, Many, MaO, FlatO, Nat.zero_add, Nat.reduceAdd] at hc))
        have hcz := S.cell 5 k rfl HGZ3.out
        have hc := S.cells; simp only [Cells, cellsC, Im, Row, El, RTH, TreeH, TR, AU, AL, OrNil, Many, MaO, FlatO, Nat.zero_add, Nat.reduceAdd] at hc
        have hq := S.cellsE; simp only [CellsE, cellsE, Im, Row, El, RTH, TreeH, TR, AU, AL, OrNil, Many, MaO, FlatO, Nat.zero_add, Nat.reduceAdd] at hq
        have hqz := ClE.cell (w := w1.drew) hcz
        refine wp_region_ext [⟨[2, 3, 4, 5, 6, 7, 8, 9, 10, 11, 12], [0, 1], 13, false⟩, ⟨[14], [], 15, false⟩] [] (by kernel_rfl) (by kernel_rfl) ?_
        refine mix_cons rfl rfl rfl ?_
        simp only [opsAt, List.getD_cons_succ, List.getD_cons_zero]
        repeat (go_big_quiet_step ((intro hC; first | rfl | (go_simp; first | done | rfl))))
        refine wpQuiet_nil ?_
        repeat (go_big_quiet_step ((intro hC; first | rfl | (go_simp; first | done | rfl))))
        refine wpQuiet_nil ?_
        clear hq hqz hc hcz
        replace S := S.drew
        generalize w1.drew = w1 at S ⊢
        have hc := S.cells; simp only [Cells, cellsC, Im, Row, El, RTH, TreeH, TR, AU, AL, OrNil, Many, MaO, FlatO, Nat.zero_add, Nat.reduceAdd] at hc
        go_wp2_with (first | ((first | (with_reducible refine mx_seal S ?_) | (with_reducible refine wpl_seal S ?_) | (with_reducible refine ca_seal S ?_)); clear S; (try clear hc); intro w1 S; (try simp only [List.set_cons_zero, List.set_cons_succ, List.nil_append] at S); have hc := S.cells; simp only [Cells, cellsC, Im, Row, El, RTH, TreeH, TR, AU, AL, OrNil, Many, MaO, FlatO, Nat.zero_add, Nat.reduceAdd] at hc) | (go_at_call 36; refine (ends_r S 4 rfl hW z2).mono ?_; rw [HES.out]; rintro e w1 ⟨v9, rfl, hu⟩; obtain ⟨I1, S1, hI1⟩ := S.new hu; clear S hu hI1; (try clear hc); have S := S1; clear S1; have hc := S.cells; simp only [Cells, cellsC, Im, Row, El, RTH, TreeH, TR, AU, AL, OrNil, Many, MaO, FlatO, Nat.zero_add, Nat.reduceAdd] at hc; obtain ⟨A9, c9, I1, e1, hc9, S1, hI1⟩ := S.frow 0 rfl; subst e1; clear S hI1; have S := S1; clear S1; simp only [List.set_cons_zero, List.set_cons_succ, List.nil_append] at S; have hc := S.cells; simp only [Cells, cellsC, Im, Row, El, RTH, TreeH, TR, AU, AL, OrNil, Many, MaO, FlatO, Nat.zero_add, Nat.reduceAdd] at hc))
        (first | refine ⟨(fun h => by cases h), ?_⟩ | skip); (first | ((first | (with_reducible refine mx_seal S ?_)); clear S; (try clear hc); intro w1 S; (try simp only [List.set_cons_zero, List.set_cons_succ, List.nil_append] at S); have hc := S.cells; simp only [Cells, cellsC, Im, Row, El, RTH, TreeH, TR, AU, AL, OrNil, Many, MaO, FlatO, Nat.zero_add, Nat.reduceAdd] at hc) | skip); (try simp only [Act.put, List.setIfInBounds_toArray, List.set_cons_succ, List.set_cons_zero])
        have hcz := S.cell 1 k rfl HGC.out
        have hfz := S.nfz 1 k rfl
        refine mix_cons rfl rfl rfl ?_
        simp only [opsAt, List.getD_cons_succ, List.getD_cons_zero]
        repeat (go_big_quiet_step ((intro hC; first | rfl | (go_simp; first | done | rfl))))
        refine wpQuiet_nil ?_
        repeat (go_big_quiet_step ((intro hC; first | rfl | (go_simp; first | done | rfl))))
        refine wpQuiet_nil ?_
        go_wp2_with (first | ((first | (with_reducible refine mx_seal S ?_) | (with_reducible refine wpl_seal S ?_) | (with_reducible refine ca_seal S ?_)); clear S; (try clear hc); intro w1 S; (try simp only [List.set_cons_zero, List.set_cons_succ, List.nil_append] at S); have hc := S.cells; simp only [Cells, cellsC, Im, Row, El, RTH, TreeH, TR, AU, AL, OrNil, Many, MaO, FlatO, Nat.zero_add, Nat.reduceAdd] at hc))
        (first | refine ⟨(fun h => by cases h), ?_⟩ | skip); (first | ((first | (with_reducible refine mx_seal S ?_)); clear S; (try clear hc); intro w1 S; (try simp only [List.set_cons_zero, List.set_cons_succ, List.nil_append] at S); have hc := S.cells; simp only [Cells, cellsC, Im, Row, El, RTH, TreeH, TR, AU, AL, OrNil, Many, MaO, FlatO, Nat.zero_add, Nat.reduceAdd] at hc) | skip); (try simp only [Act.put, List.setIfInBounds_toArray, List.set_cons_succ, List.set_cons_zero])
        refine mix_last rfl ?_
        simp only [opsAt, List.getD_cons_succ, List.getD_cons_zero]
        repeat (go_big_quiet_step ((intro hC; first | rfl | (go_simp; first | done | rfl))))
        refine wpQuiet_nil ?_
        simp only [calmQ]
        have hfl : Flat kII w1 I1 (upK n of (fun _ => []) (k + 1)) (cells.set k (.slice A9 ES.length c9)) := by
          rw [← HOS.out, HOK2.out]
          exact flat_set1 (S.flat 2 rfl) hkl2 ES A9 c9 hc9 (S.im 0 rfl)
        replace S := S.know (h := FlatO kII (upK n of (fun _ => []) (k + 1)) (cells.set k (.slice A9 ES.length c9))) hfl
        replace S := (S.sel [2, 0, 4, 5, 6, 7] (by decide) rfl (by simp) : SH _ _ _ [_, _, _, _, _, _] _ _)
        clear hfl hcz hfz
        have hc := S.cells; simp only [Cells, cellsC, Im, Row, El, RTH, TreeH, TR, AU, AL, OrNil, Many, MaO, FlatO, Nat.zero_add, Nat.reduceAdd] at hc
        go_wp2_with (first | ((first | (with_reducible refine wpl_seal S ?_) | (with_reducible refine cw_seal S ?_) | (with_reducible refine bp_seal S ?_) | (with_reducible refine ca_seal S ?_)); clear S; (try clear hc); intro w1 S; (try simp only [List.set_cons_zero, List.set_cons_succ, List.nil_append] at S); have hc := S.cells; simp only [Cells, cellsC, Im, Row, El, RTH, TreeH, TR, AU, AL, OrNil, Many, MaO, FlatO, Nat.zero_add, Nat.reduceAdd] at hc))
        go_roundw
        case rel => exact ⟨k + 1, _, _, by omega, by go_num, ⟨by first | exact S | trivial⟩⟩
        case measure => simp [intOf]; omega
    · have hkn' : decide ((k : Int) < n) = false := by simpa using hkn
      obtain rfl : k = n := by omega
      obtain ⟨J1, S1, -⟩ := S.lit 0 rfl (k := kII) (xs := upK k of (fun _ => []) k) (S.flat 1 rfl)
      clear S
      have S := S1
      clear S1
      simp only [List.set_cons_zero, List.set_cons_succ, List.nil_append] at S
      have hc := S.cells; simp only [Cells, cellsC, Im, Row, El, RTH, TreeH, TR, AU, AL, OrNil, Many, MaO, FlatO, Nat.zero_add, Nat.reduceAdd] at hc
      go_wp2_with (first | ((first | (with_reducible refine wpl_seal S ?_) | (with_reducible refine cw_seal S ?_) | (with_reducible refine bp_seal S ?_) | (with_reducible refine ca_seal S ?_)); clear S; (try clear hc); intro w1 S; (try simp only [List.set_cons_zero, List.set_cons_succ, List.nil_append] at S); have hc := S.cells; simp only [Cells, cellsC, Im, Row, El, RTH, TreeH, TR, AU, AL, OrNil, Many, MaO, FlatO, Nat.zero_add, Nat.reduceAdd] at hc))
      go_ret2
      have S1 : SH F I w (maM gm ga g L W (upK k sf ol k) junk (rows + 1) ++ [Im kII (some ⟨g2, 0, none⟩) (upK k of (fun _ => []) k)]) w1 J1 := by
        unfold maM
        rw [upK_len, show ((rows + 1 : Nat) : Int) = rows + 1 by omega]
        exact (S.sel [3, 4, 5, 0] (by decide) rfl (by simp) : SH _ _ _ [_, _, _, _] _ _)
      have S2 := (S1.pack (maM gm ga g L W _ junk _) (L := [_])).asMa 0 rfl
      have u := S2.ret2 0 1 (by omega) rfl rfl
      obtain ⟨I', S4, -⟩ := HB.out _ _ _ u
      exact ⟨_, I', rfl, S4⟩
end
end Go.Proofs.Ytpgphhkhjbhimaa
