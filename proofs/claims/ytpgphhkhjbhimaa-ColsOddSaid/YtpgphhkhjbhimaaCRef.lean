/- The document's columns, as it has them. -/
import Derived.Test.YtpgphhkhjbhimaaXRef
import Derived.Test.YtpgphhkhjbhimaaOwn2
import Derived.Test.YtpgphhkhjbhimaaMix2
import Derived.Test.YtpgphhkhjbhimaaBeg
namespace Go.Proofs.Ytpgphhkhjbhimaa
open Go.RowKit X
set_option maxHeartbeats 1000000
set_option maxRecDepth 8000
set_option linter.unusedSimpArgs false
set_option linter.unusedVariables false
def kII : Kd (List Int) := Kd.sl 30 kI
theorem ty_intss : TyOk Try.prog 22 kII 24 := TyOk.mk' Try.underlying22 (z := .slice none 0 0) (size := 1) (by kernel_rfl) rfl rfl (by omega)
def Pos (xs : List Int) : Prop := ∀ x ∈ xs, 0 ≤ x ∧ x ≤ 9223372036854775807
theorem zword_c (xs : List Int) (A : Option Addr) (c : Nat) (w : World) (I : Fp) (hI : ∀ b, I b → b < w.heap.size) (hx : Sl kI w I A xs) (hn : xs.length ≤ 1000) (hp : Pos xs) :
    Calls Try.prog 37 #[.slice A xs.length c] w fun e w' => ∃ v, e = .returned v ∧ Upd w No I w' (Row kP v xs) := by
  have S := ((SH.start w I hI).know (h := Im kI A xs) hx).nilrow (k := kP)
  have HP := As.mk hp
  clear hx hp
  have hc := S.cells; simp only [Cells, cellsC, Im, Row, El, Nat.zero_add, Nat.reduceAdd] at hc
  go_enter Try.func37, Try.ntmps37
  go_wp2_with (first | ((first | (with_reducible refine wpl_seal S ?_) | (with_reducible refine cw_seal S ?_) | (with_reducible refine bp_seal S ?_) | (with_reducible refine ca_seal S ?_)); clear S; (try clear hc); intro w1 S; (try simp only [List.set_cons_zero, List.set_cons_succ, List.nil_append] at S); have hc := S.cells; simp only [Cells, cellsC, Im, Row, El, Nat.zero_add, Nat.reduceAdd] at hc))
  have S1 := S
  clear S hc
  go_loopw [3, 4] (fun o i w' => ∃ (k : Nat), k ≤ xs.length ∧ i = .int .i64 k ∧ As (SH No I w [Row kP o (xs.take k), Im kI A xs] w' I)) (fun _ i _ => xs.length - (intOf i).toNat)
  case atStart => exact ⟨0, Nat.zero_le _, rfl, ⟨S1⟩⟩
  case round =>
    clear S1
    obtain ⟨k, hk, rfl, ⟨S⟩⟩ := hrel
    have hol : (xs.take k).length ≤ 1000 := by rw [List.length_take]; omega
    have hc := S.cells; simp only [Cells, cellsC, Im, Row, El, Nat.zero_add, Nat.reduceAdd] at hc
    by_cases hlt : k < xs.length
    · have hlt' : decide ((k : Int) < xs.length) = true := by simpa using hlt
      obtain ⟨b, o, rfl, hcx⟩ := (S.im 1 rfl).int_at hlt
      have hpx := HP.out _ (List.getElem_mem hlt)
      have HT : As (xs.take (k + 1) = xs.take k ++ [xs[k]]) := ⟨List.take_succ_eq_append_getElem hlt⟩
      generalize xs[k] = x at hcx hpx HT
      generalize xs.take k = ys at S hol HT
      obtain ⟨hp1, hp2⟩ := hpx
      go_wp2_with (first | ((first | (with_reducible refine wpl_seal S ?_) | (with_reducible refine cw_seal S ?_) | (with_reducible refine bp_seal S ?_) | (with_reducible refine ca_seal S ?_)); clear S; (try clear hc); intro w1 S; (try simp only [List.set_cons_zero, List.set_cons_succ, List.nil_append] at S); have hc := S.cells; simp only [Cells, cellsC, Im, Row, El, Nat.zero_add, Nat.reduceAdd] at hc) | (at_builtin; refine wpl_push S 1 rfl rfl _ _ rfl ty_pixs rfl x _ _ rfl [_] _ (S.cel 0 rfl) rfl (by (try simp only [maxLen, List.length_nil, List.length_append, List.length_cons]); omega) (by (try simp only [maxLen, List.length_nil, List.length_append, List.length_cons]); omega) ?_; clear S; (try clear hc); intro va w1 S; simp only [List.set_cons_zero, List.set_cons_succ, List.nil_append] at S; have hc := S.cells; simp only [Cells, cellsC, Im, Row, El, Nat.zero_add, Nat.reduceAdd] at hc))
      go_roundw
      case rel => exact ⟨k + 1, by omega, by go_num, ⟨by rw [HT.out]; exact (S.sel [1, 2] (by decide) rfl (by simp) : SH _ _ _ [_, _] _ _)⟩⟩
      case measure => simp [intOf]; omega
    · have hlt' : decide ((k : Int) < xs.length) = false := by simpa using hlt
      have HT : As (xs.take k = xs) := ⟨List.take_of_length_le (by omega)⟩
      rw [HT.out] at S
      go_wp2_with (first | ((first | (with_reducible refine wpl_seal S ?_) | (with_reducible refine cw_seal S ?_) | (with_reducible refine bp_seal S ?_) | (with_reducible refine ca_seal S ?_)); clear S; (try clear hc); intro w1 S; (try simp only [List.set_cons_zero, List.set_cons_succ, List.nil_append] at S); have hc := S.cells; simp only [Cells, cellsC, Im, Row, El, Nat.zero_add, Nat.reduceAdd] at hc))
      go_ret
      exact ⟨_, rfl, S.ret 0 rfl⟩
def sinceL (told : List (List Int)) (x : Nat) : List Int := told.foldl (fun acc r => if r.getD x 0 < 0 then [] else acc ++ [r.getD x 0]) []
theorem getD_at {l : List Int} {x : Nat} (h : x < l.length) : l.getD x 0 = l[x] := by rw [List.getD_eq_getElem?_getD, List.getElem?_eq_getElem h]; rfl
theorem getD_out {l : List Int} {x : Nat} (h : l.length ≤ x) : l.getD x 0 = 0 := by rw [List.getD_eq_getElem?_getD, List.getElem?_eq_none h]; rfl
theorem sinceL_succ {told : List (List Int)} {x k : Nat} (hk : k < told.length) (hx : x < told[k].length) : sinceL (told.take (k + 1)) x = if told[k][x] < 0 then [] else sinceL (told.take k) x ++ [told[k][x]] := by
  unfold sinceL
  rw [List.take_succ_eq_append_getElem hk, List.foldl_append]
  simp only [List.foldl_cons, List.foldl_nil]
  rw [getD_at hx]
theorem sinceL_snoc {told : List (List Int)} {r : List Int} {x : Nat} (hx : x < r.length) : sinceL (told ++ [r]) x = if r[x] < 0 then [] else sinceL told x ++ [r[x]] := by
  have := sinceL_succ (told := told ++ [r]) (x := x) (k := told.length) (by simp) (by simpa using hx)
  rw [List.take_of_length_le (by simp), List.take_left] at this
  simpa using this
theorem sinceL_ind (P : List Int → Prop) (h0 : P []) {x : Nat} {told : List (List Int)} (hs : ∀ acc, P acc → ∀ r ∈ told, 0 ≤ r.getD x 0 → P (acc ++ [r.getD x 0])) : P (sinceL told x) := by
  unfold sinceL
  suffices ∀ (l : List (List Int)) acc, (∀ r ∈ l, r ∈ told) → P acc → P (l.foldl (fun acc r => if r.getD x 0 < 0 then [] else acc ++ [r.getD x 0]) acc) from this told [] (fun _ h => h) h0
  intro l
  induction l with
  | nil => intro acc _ h; exact h
  | cons r l ih =>
    intro acc hl h
    rw [List.foldl_cons]
    refine ih _ (fun y hy => hl y (List.mem_cons_of_mem _ hy)) ?_
    split
    · exact h0
    · exact hs acc h r (hl r (by simp)) (by omega)
theorem sinceL_len (told : List (List Int)) (x : Nat) : (sinceL told x).length ≤ told.length := by
  unfold sinceL
  suffices ∀ (l : List (List Int)) (acc : List Int), (l.foldl (fun acc r => if r.getD x 0 < 0 then [] else acc ++ [r.getD x 0]) acc).length ≤ acc.length + l.length by simpa using this told []
  intro l
  induction l with
  | nil => intro acc; simp
  | cons r l ih =>
    intro acc
    rw [List.foldl_cons]
    refine Nat.le_trans (ih _) ?_
    split <;> simp <;> omega
/-- rows of numbers that may be told -/
def Told (told : List (List Int)) (n : Nat) : Prop := ∀ r ∈ told, r.length = n ∧ ∀ y ∈ r, -1 ≤ y ∧ y ≤ 9223372036854775807
theorem sinceL_pos {told : List (List Int)} {n x : Nat} (h : Told told n) : Pos (sinceL told x) :=
  sinceL_ind Pos (fun _ h => by cases h) fun acc ha r hr h0 y hy => by
    rcases List.mem_append.1 hy with hy | hy
    · exact ha y hy
    · rw [List.mem_singleton] at hy
      subst hy
      refine ⟨h0, ?_⟩
      rcases Nat.lt_or_ge x r.length with hx | hx
      · rw [getD_at hx]; exact ((h r hr).2 _ (List.getElem_mem hx)).2
      · rw [getD_out hx]; decide
theorem zsince_c (told : List (List Int)) (n x : Nat) (A : Option Addr) (c : Nat) (w : World) (I : Fp) (hI : ∀ b, I b → b < w.heap.size) (hW : Sl kII w I A told) (ht : Told told n) (hx : x < n) (hn : told.length ≤ 1000) :
    Calls Try.prog 38 #[.slice A told.length c, .int .i64 x] w fun e w' => ∃ v, e = .returned v ∧ Upd w No I w' (Row kI v (sinceL told x)) := by
  have S := ((SH.start w I hI).know (h := Im kII A told) hW).nilrow (k := kI)
  have HT := As.mk ht
  clear hW ht
  have hc := S.cells; simp only [Cells, cellsC, Im, Row, El, Nat.zero_add, Nat.reduceAdd] at hc
  go_enter Try.func38, Try.ntmps38
  go_wp2_with (first | ((first | (with_reducible refine wpl_seal S ?_) | (with_reducible refine cw_seal S ?_) | (with_reducible refine bp_seal S ?_) | (with_reducible refine ca_seal S ?_)); clear S; (try clear hc); intro w1 S; (try simp only [List.set_cons_zero, List.set_cons_succ, List.nil_append] at S); have hc := S.cells; simp only [Cells, cellsC, Im, Row, El, Nat.zero_add, Nat.reduceAdd] at hc))
  have S1 := S
  clear S hc
  go_loopw [5, 6] (fun o i w' => ∃ (k : Nat), k ≤ told.length ∧ i = .int .i64 k ∧ As (SH No I w [Row kI o (sinceL (told.take k) x), Im kII A told] w' I)) (fun _ i _ => told.length - (intOf i).toNat)
  case atStart => exact ⟨0, Nat.zero_le _, rfl, ⟨S1⟩⟩
  case round =>
    clear S1
    obtain ⟨k, hk, rfl, ⟨S⟩⟩ := hrel
    have hol : (sinceL (told.take k) x).length ≤ 1000 := by have := sinceL_len (told.take k) x; rw [List.length_take] at this; omega
    have hc := S.cells; simp only [Cells, cellsC, Im, Row, El, Nat.zero_add, Nat.reduceAdd] at hc
    by_cases hlt : k < told.length
    · have hlt' : decide ((k : Int) < told.length) = true := by simpa using hlt
      obtain ⟨b, o, A1, c1, rfl, hcx, hc1, hs1⟩ := (S.im 1 rfl).sl_at hlt
      have htk := HT.out _ (List.getElem_mem hlt)
      have hxl : x < told[k].length := by omega
      obtain ⟨b2, o2, rfl, hcy⟩ := hs1.int_at hxl
      have HS := As.mk (sinceL_succ hlt hxl)
      have hln : told[k].length = n := htk.1
      generalize told[k][x] = y at hcy HS
      rw [hln] at hcx
      generalize sinceL (told.take k) x = ys at S hol HS
      by_cases hy : y < 0
      · have hy' : decide (y < 0) = true := by simpa using hy
        have HS2 := As.mk (HS.out.trans (if_pos hy))
        clear hln hxl htk hs1 HS
        go_wp2_with (first | ((first | (with_reducible refine wpl_seal S ?_) | (with_reducible refine cw_seal S ?_) | (with_reducible refine bp_seal S ?_) | (with_reducible refine ca_seal S ?_)); clear S; (try clear hc); intro w1 S; (try simp only [List.set_cons_zero, List.set_cons_succ, List.nil_append] at S); have hc := S.cells; simp only [Cells, cellsC, Im, Row, El, Nat.zero_add, Nat.reduceAdd] at hc))
        go_roundw
        case rel => exact ⟨k + 1, by omega, by go_num, ⟨by rw [HS2.out]; exact ((S.sel [1] (by decide) rfl (by simp) : SH _ _ _ [_] _ _) : SH _ _ _ [_] _ _).nilrow⟩⟩
        case measure => simp [intOf]; omega
      · have hy' : decide (y < 0) = false := by simpa using hy
        have HS2 := As.mk (HS.out.trans (if_neg hy))
        clear hln hxl htk hs1 HS
        go_wp2_with (first | ((first | (with_reducible refine wpl_seal S ?_) | (with_reducible refine cw_seal S ?_) | (with_reducible refine bp_seal S ?_) | (with_reducible refine ca_seal S ?_)); clear S; (try clear hc); intro w1 S; (try simp only [List.set_cons_zero, List.set_cons_succ, List.nil_append] at S); have hc := S.cells; simp only [Cells, cellsC, Im, Row, El, Nat.zero_add, Nat.reduceAdd] at hc) | (at_builtin; refine wpl_push S 1 rfl rfl _ _ rfl ty_ints rfl y _ _ rfl [_] _ (S.cel 0 rfl) rfl (by (try simp only [maxLen, List.length_nil, List.length_append, List.length_cons]); omega) (by (try simp only [maxLen, List.length_nil, List.length_append, List.length_cons]); omega) ?_; clear S; (try clear hc); intro va w1 S; simp only [List.set_cons_zero, List.set_cons_succ, List.nil_append] at S; have hc := S.cells; simp only [Cells, cellsC, Im, Row, El, Nat.zero_add, Nat.reduceAdd] at hc))
        go_roundw
        case rel => exact ⟨k + 1, by omega, by go_num, ⟨by rw [HS2.out]; exact (S.sel [1, 2] (by decide) rfl (by simp) : SH _ _ _ [_, _] _ _)⟩⟩
        case measure => simp [intOf]; omega
    · have hlt' : decide ((k : Int) < told.length) = false := by simpa using hlt
      have HT2 : As (told.take k = told) := ⟨List.take_of_length_le (by omega)⟩
      rw [HT2.out] at S
      go_wp2_with (first | ((first | (with_reducible refine wpl_seal S ?_) | (with_reducible refine cw_seal S ?_) | (with_reducible refine bp_seal S ?_) | (with_reducible refine ca_seal S ?_)); clear S; (try clear hc); intro w1 S; (try simp only [List.set_cons_zero, List.set_cons_succ, List.nil_append] at S); have hc := S.cells; simp only [Cells, cellsC, Im, Row, El, Nat.zero_add, Nat.reduceAdd] at hc))
      go_ret
      exact ⟨_, rfl, S.ret 0 rfl⟩
def Colz (own : List (List Int)) : Prop := ∀ l ∈ own, l.length ≤ 1000 ∧ Pos l
theorem zends_c (own told : List (List Int)) (n x : Nat) (A B : Option Addr) (c d : Nat) (w : World) (I : Fp) (hI : ∀ b, I b → b < w.heap.size) (hO : Sl kII w I A own) (hW : Sl kII w I B told) (ho : Colz own) (hol : own.length ≤ 1000) (ht : Told told n) (hx : x < n) (hn : told.length ≤ 1000) :
    Calls Try.prog 16 #[.slice A own.length c, .slice B told.length d, .int .i64 x] w fun e w' => ∃ v, e = .returned v ∧ Upd w No I w' (Row kI v (endsL own (sinceL told x))) := by
  have S := ((SH.start w I hI).know (h := Im kII A own) hO).know (h := Im kII B told) hW
  have HO := As.mk ho
  have HTD := As.mk ht
  have hsl := sinceL_len told x
  have hps := As.mk (sinceL_pos (x := x) ht)
  have HZ := As.mk (rfl : sinceL told x = sinceL told x)
  clear hO hW ho ht
  obtain ⟨zs, hzs⟩ : ∃ zs, sinceL told x = zs := ⟨_, rfl⟩
  have HZS := As.mk hzs
  rw [hzs] at hsl hps ⊢
  clear hzs HZ
  have HE : As (endsL own zs = endK own zs own.length) := ⟨rfl⟩
  have hm1 : As (1 = 1) := ⟨rfl⟩
  have hc := S.cells; simp only [Cells, cellsC, Im, Row, El, Nat.zero_add, Nat.reduceAdd] at hc
  go_enter Try.func16, Try.ntmps16
  go_wp2_with (first | ((first | (with_reducible refine wpl_seal S ?_) | (with_reducible refine cw_seal S ?_) | (with_reducible refine bp_seal S ?_) | (with_reducible refine ca_seal S ?_)); clear S; (try clear hc); intro w1 S; (try simp only [List.set_cons_zero, List.set_cons_succ, List.nil_append] at S); have hc := S.cells; simp only [Cells, cellsC, Im, Row, El, Nat.zero_add, Nat.reduceAdd] at hc) | (go_at_call 38; clear hm1; refine (zsince_c told n x B d _ _ S.bd (S.im 0 rfl) HTD.out hx hn).mono ?_; rw [HZS.out]; rintro e w1 ⟨v, rfl, hu⟩; obtain ⟨I1, S1, hI1⟩ := S.new hu; clear S hu hI1; (try clear hc); have S := S1; clear S1; have hc := S.cells; simp only [Cells, cellsC, Im, Row, El, Nat.zero_add, Nat.reduceAdd] at hc; obtain ⟨A5, c5, I1, e1, hc5, S1, hI1⟩ := S.frow 0 rfl; subst e1; clear S hI1; have S := S1; clear S1; simp only [List.set_cons_zero, List.set_cons_succ, List.nil_append] at S; have hc := S.cells; simp only [Cells, cellsC, Im, Row, El, Nat.zero_add, Nat.reduceAdd] at hc) | (go_at_call 37; refine (zword_c zs A5 c5 _ _ S.bd (S.im 0 rfl) (by omega) hps.out).mono ?_; rintro e w1 ⟨v, rfl, hu⟩; obtain ⟨I1, S1, hI1⟩ := S.new hu; clear S hu hI1; (try clear hc); have S := S1; clear S1; have hc := S.cells; simp only [Cells, cellsC, Im, Row, El, Nat.zero_add, Nat.reduceAdd] at hc; obtain ⟨A6, c6, I1, e1, hc6, S1, hI1⟩ := S.frow 0 rfl; subst e1; clear S hI1; have S := S1; clear S1; simp only [List.set_cons_zero, List.set_cons_succ, List.nil_append] at S; have hc := S.cells; simp only [Cells, cellsC, Im, Row, El, Nat.zero_add, Nat.reduceAdd] at hc))
  replace S := ((S.sel [0, 3] (by decide) rfl (by simp) : SH _ _ _ [_, _] _ _) : SH _ _ _ [_, _] _ _).nilrow (k := kI)
  clear hc
  go_loopw [8, 9] (fun o i w' => ∃ (t : Nat) (out : List Int), As (out = endK own zs t) ∧ t ≤ own.length ∧ i = .int .i64 t ∧ ∃ I', As (SH No I w [Row kI o out, Im kP A6 zs, Im kII A own] w' I')) (fun _ i _ => own.length - (intOf i).toNat)
  case atStart => exact ⟨0, [], ⟨rfl⟩, Nat.zero_le _, rfl, _, ⟨S⟩⟩
  case round =>
    clear S
    obtain ⟨t, out, HOK, ht, rfl, I', ⟨S⟩⟩ := hrel
    have hol : out.length ≤ 1000000 := by rw [HOK.out]; have := endK_le (W := own) (x := zs) (m := t); omega
    have hc := S.cells; simp only [Cells, cellsC, Im, Row, El, Nat.zero_add, Nat.reduceAdd] at hc
    by_cases htk : t < own.length
    · have htk' : decide ((t : Int) < own.length) = true := by simpa using htk
      have hpw : pa own t = own[t] := pa_eq htk
      have hly := HO.out _ (List.getElem_mem htk)
      obtain ⟨b', o', A2, c2, rfl, hcy, hc2, hs2⟩ := (S.im 2 rfl).sl_at htk
      have HYS : As (decide (pa own t <:+ zs) = true → endK own zs (t + 1) = out ++ [(t : Int)]) := ⟨fun h => by rw [endK_yes h, HOK.out]⟩
      have HNO : As (decide (pa own t <:+ zs) = false → endK own zs (t + 1) = out) := ⟨fun h => by rw [endK_no h, HOK.out]⟩
      rw [hpw] at HYS HNO
      generalize own[t] = ys at hcy hc2 hs2 hly HYS HNO
      replace S := (S.know (h := Im kI A2 ys) hs2)
      clear hs2 hpw
      generalize hbv : decide (ys <:+ zs) = bv at HYS HNO
      have HBV := As.mk hbv
      have HLY := As.mk hly.2
      have hly1 : ys.length ≤ 1000 := hly.1
      clear hbv hly
      have hc := S.cells; simp only [Cells, cellsC, Im, Row, El, Nat.zero_add, Nat.reduceAdd] at hc
      cases bv
      · go_wp2_with (first | ((first | (with_reducible refine wpl_seal S ?_) | (with_reducible refine cw_seal S ?_) | (with_reducible refine bp_seal S ?_) | (with_reducible refine ca_seal S ?_)); clear S; (try clear hc); intro w1 S; (try simp only [List.set_cons_zero, List.set_cons_succ, List.nil_append] at S); have hc := S.cells; simp only [Cells, cellsC, Im, Row, El, Nat.zero_add, Nat.reduceAdd] at hc) | (go_at_call 37; refine (zword_c ys A2 c2 _ _ S.bd (S.im 0 rfl) hly1 HLY.out).mono ?_; rintro e w1 ⟨v, rfl, hu⟩; obtain ⟨I1, S1, hI1⟩ := S.new hu; clear S hu hI1; (try clear hc); have S := S1; clear S1; have hc := S.cells; simp only [Cells, cellsC, Im, Row, El, Nat.zero_add, Nat.reduceAdd] at hc; obtain ⟨A7, c7, I1, e1, hc7, S1, hI1⟩ := S.frow 0 rfl; subst e1; clear S hI1; have S := S1; clear S1; simp only [List.set_cons_zero, List.set_cons_succ, List.nil_append] at S; have hc := S.cells; simp only [Cells, cellsC, Im, Row, El, Nat.zero_add, Nat.reduceAdd] at hc) | (go_at_call 39; refine (xlast_c zs ys A6 A7 c6 c7 _ _ _ (S.im 3 rfl) (S.im 0 rfl) hc6 hc7 (by omega) (by omega)).mono ?_; rw [HBV.out]; rintro e w3 ⟨rfl, hx⟩; replace S := S.ext hx; clear hx; (try clear hc); have hc := S.cells; simp only [Cells, cellsC, Im, Row, El, Nat.zero_add, Nat.reduceAdd] at hc))
        go_roundw
        case rel => exact ⟨t + 1, out, ⟨(HNO.out (by first | rfl | trivial)).symm⟩, by omega, by go_num, _, ⟨(S.sel [2, 3, 4] (by decide) rfl (by simp) : SH _ _ _ [_, _, _] _ _)⟩⟩
        case measure => simp [intOf] <;> omega
      · go_wp2_with (first | ((first | (with_reducible refine wpl_seal S ?_) | (with_reducible refine cw_seal S ?_) | (with_reducible refine bp_seal S ?_) | (with_reducible refine ca_seal S ?_)); clear S; (try clear hc); intro w1 S; (try simp only [List.set_cons_zero, List.set_cons_succ, List.nil_append] at S); have hc := S.cells; simp only [Cells, cellsC, Im, Row, El, Nat.zero_add, Nat.reduceAdd] at hc) | (go_at_call 37; refine (zword_c ys A2 c2 _ _ S.bd (S.im 0 rfl) hly1 HLY.out).mono ?_; rintro e w1 ⟨v, rfl, hu⟩; obtain ⟨I1, S1, hI1⟩ := S.new hu; clear S hu hI1; (try clear hc); have S := S1; clear S1; have hc := S.cells; simp only [Cells, cellsC, Im, Row, El, Nat.zero_add, Nat.reduceAdd] at hc; obtain ⟨A7, c7, I1, e1, hc7, S1, hI1⟩ := S.frow 0 rfl; subst e1; clear S hI1; have S := S1; clear S1; simp only [List.set_cons_zero, List.set_cons_succ, List.nil_append] at S; have hc := S.cells; simp only [Cells, cellsC, Im, Row, El, Nat.zero_add, Nat.reduceAdd] at hc) | (go_at_call 39; refine (xlast_c zs ys A6 A7 c6 c7 _ _ _ (S.im 3 rfl) (S.im 0 rfl) hc6 hc7 (by omega) (by omega)).mono ?_; rw [HBV.out]; rintro e w3 ⟨rfl, hx⟩; replace S := S.ext hx; clear hx; (try clear hc); have hc := S.cells; simp only [Cells, cellsC, Im, Row, El, Nat.zero_add, Nat.reduceAdd] at hc) | (at_builtin; refine wpl_push S 3 rfl rfl _ _ rfl ty_ints rfl (t : Int) _ _ rfl [_] _ (S.cel 0 rfl) rfl (by (try simp only [maxLen, List.length_nil, List.length_append, List.length_cons]); omega) (by (try simp only [maxLen, List.length_nil, List.length_append, List.length_cons]); omega) ?_; clear S; (try clear hc); intro va w1 S; simp only [List.set_cons_zero, List.set_cons_succ, List.nil_append] at S; have hc := S.cells; simp only [Cells, cellsC, Im, Row, El, Nat.zero_add, Nat.reduceAdd] at hc))
        go_roundw
        case rel => exact ⟨t + 1, _, ⟨(HYS.out (by first | rfl | trivial)).symm⟩, by omega, by go_num, _, ⟨(S.sel [3, 4, 5] (by decide) rfl (by simp) : SH _ _ _ [_, _, _] _ _)⟩⟩
        case measure => simp [intOf] <;> omega
    · have htk' : decide ((t : Int) < own.length) = false := by simpa using htk
      obtain rfl : t = own.length := by omega
      go_wp2_with (first | ((first | (with_reducible refine wpl_seal S ?_) | (with_reducible refine cw_seal S ?_) | (with_reducible refine bp_seal S ?_) | (with_reducible refine ca_seal S ?_)); clear S; (try clear hc); intro w1 S; (try simp only [List.set_cons_zero, List.set_cons_succ, List.nil_append] at S); have hc := S.cells; simp only [Cells, cellsC, Im, Row, El, Nat.zero_add, Nat.reduceAdd] at hc))
      go_ret
      refine ⟨_, rfl, ?_⟩
      rw [HE.out, ← HOK.out]
      exact S.ret 0 rfl
end Go.Proofs.Ytpgphhkhjbhimaa
namespace Go.Proofs.Ytpgphhkhjbhimaa
open Go.RowKit X
set_option maxHeartbeats 1000000
set_option maxRecDepth 8000
set_option linter.unusedSimpArgs false
set_option linter.unusedVariables false
def md3 (y : Int) : Int := max (y.tmod 3) (-(y.tmod 3))
theorem tmod_rng (y : Int) {m : Int} (h : 0 < m) : -m < y.tmod m ∧ y.tmod m < m := by
  have h1 := Int.tmod_lt_of_pos y h
  have h2 := Int.lt_tmod_of_pos y h
  omega
theorem md3_rng (y : Int) : 0 ≤ md3 y ∧ md3 y ≤ 2 := by have := tmod_rng y (m := 3) (by omega); unfold md3; omega
def smallZ (ls : List (List Int)) : List (List Int) := (ls.map fun l => (l.take 4).map md3).filter fun x => decide (0 < x.length)
theorem smallZ_succ {ls : List (List Int)} {k : Nat} (h : k < ls.length) : smallZ (ls.take (k + 1)) = smallZ (ls.take k) ++ if 0 < ((ls[k].take 4).map md3).length then [(ls[k].take 4).map md3] else [] := by
  unfold smallZ
  rw [List.take_succ_eq_append_getElem h, List.map_append, List.filter_append]
  congr 1
  simp only [List.map_cons, List.map_nil, List.filter_cons, List.filter_nil]
  split <;> simp_all
theorem smallZ_le (ls : List (List Int)) : (smallZ ls).length ≤ ls.length := by
  unfold smallZ
  exact Nat.le_trans (List.length_filter_le _ _) (by simp)
theorem smallZ_mem {ls : List (List Int)} {x : List Int} (h : x ∈ smallZ ls) : x ≠ [] ∧ x.length ≤ 4 ∧ ∀ y ∈ x, 0 ≤ y ∧ y ≤ 2 := by
  unfold smallZ at h
  rw [List.mem_filter, List.mem_map] at h
  obtain ⟨⟨l, hl, rfl⟩, h2⟩ := h
  refine ⟨fun e => by rw [e] at h2; simp at h2, by rw [List.length_map, List.length_take]; omega, fun y hy => ?_⟩
  rw [List.mem_map] at hy
  obtain ⟨z, _, rfl⟩ := hy
  exact md3_rng z
theorem smallC_cut {l : List Int} {k : Nat} (h : k = l.length ∧ k ≤ 4 ∨ k = 4) : l.take 4 = l.take k := by
  rcases h with ⟨rfl, h⟩ | rfl
  · rw [List.take_of_length_le h, List.take_of_length_le (Nat.le_refl _)]
  · rfl
theorem zsmall_c (ls : List (List Int)) (A : Option Addr) (c : Nat) (w : World) (I : Fp) (hI : ∀ b, I b → b < w.heap.size) (hx : Sl kII w I A ls) :
    Calls Try.prog 9 #[.slice A ls.length c] w fun e w' => ∃ v, e = .returned v ∧ Upd w No I w' (Row kII v (smallZ (ls.take 6))) := by
  have S := ((SH.start w I hI).know (h := Im kII A ls) hx).nilrow (k := kII)
  clear hx
  have hc := S.cells; simp only [Cells, cellsC, Im, Row, El, Nat.zero_add, Nat.reduceAdd] at hc
  go_enter Try.func9, Try.ntmps9
  go_wp2_with (first | ((first | (with_reducible refine wpl_seal S ?_) | (with_reducible refine cw_seal S ?_) | (with_reducible refine bp_seal S ?_) | (with_reducible refine ca_seal S ?_)); clear S; (try clear hc); intro w1 S; (try simp only [List.set_cons_zero, List.set_cons_succ, List.nil_append] at S); have hc := S.cells; simp only [Cells, cellsC, Im, Row, El, Nat.zero_add, Nat.reduceAdd] at hc))
  have S1 := S
  clear S hc
  go_loopw [3, 4] (fun o i w' => ∃ (t : Nat), t ≤ ls.length ∧ t ≤ 6 ∧ i = .int .i64 t ∧ ∃ J, As (SH No I w [Row kII o (smallZ (ls.take t)), Im kII A ls] w' J)) (fun _ i _ => ls.length - (intOf i).toNat)
  case atStart => exact ⟨0, Nat.zero_le _, Nat.zero_le _, rfl, _, ⟨S1⟩⟩
  case round =>
    clear S1
    obtain ⟨t, ht, ht6, rfl, J, ⟨S⟩⟩ := hrel
    have hc := S.cells; simp only [Cells, cellsC, Im, Row, El, Nat.zero_add, Nat.reduceAdd] at hc
    by_cases htl : t < ls.length
    · have htl' : decide ((t : Int) < ls.length) = true := by simpa using htl
      by_cases htm : t < 6
      · have htm' : decide ((t : Int) < 6) = true := by simp; omega
        obtain ⟨b, o, A1, c1, rfl, hcx, hc1, hs1⟩ := (S.im 1 rfl).sl_at htl
        obtain ⟨l, hl⟩ : ∃ l, ls[t] = l := ⟨_, rfl⟩
        rw [hl] at hcx hc1 hs1
        have HLK := As.mk hl
        clear hl
        replace S := (S.know (h := Im kI A1 l) hs1).nilrow (k := kI)
        clear hs1
        have hc := S.cells; simp only [Cells, cellsC, Im, Row, El, Nat.zero_add, Nat.reduceAdd] at hc
        go_wp2_with (first | ((first | (with_reducible refine wpl_seal S ?_) | (with_reducible refine cw_seal S ?_) | (with_reducible refine bp_seal S ?_) | (with_reducible refine ca_seal S ?_)); clear S; (try clear hc); intro w1 S; (try simp only [List.set_cons_zero, List.set_cons_succ, List.nil_append] at S); have hc := S.cells; simp only [Cells, cellsC, Im, Row, El, Nat.zero_add, Nat.reduceAdd] at hc))
        have S1 : SH No I w [_, _, _] _ _ := S.sel [0, 2, 3] (by decide) rfl (by simp)
        clear S hc
        go_loopw [5, 6] (fun o9 i w' => ∃ (k : Nat), k ≤ l.length ∧ k ≤ 4 ∧ i = .int .i64 k ∧ ∃ J, As (SH No I w [Row kI o9 ((l.take k).map md3), Row kII u3 (smallZ (ls.take t)), Im kII (some ⟨b, o, none⟩) ls] w' J)) (fun _ i _ => l.length - (intOf i).toNat)
        case atStart => exact ⟨0, Nat.zero_le _, Nat.zero_le _, rfl, _, ⟨S1⟩⟩
        case round =>
          clear S1
          obtain ⟨k, hk, hk5, rfl, J, ⟨S⟩⟩ := hrel
          obtain ⟨b', oo, A1', c1', e1', hcx, hc1, hs1⟩ := (S.im 2 rfl).sl_at htl
          cases e1'
          rw [HLK.out] at hcx hc1 hs1
          have hc := S.cells; simp only [Cells, cellsC, Im, Row, El, Nat.zero_add, Nat.reduceAdd] at hc
          by_cases hkl : k < l.length
          · have hkl' : decide ((k : Int) < l.length) = true := by simpa using hkl
            by_cases hkm : k < 4
            · have hkm' : decide ((k : Int) < 4) = true := by simp; omega
              obtain ⟨b2, o2, rfl, hcy⟩ := hs1.int_at hkl
              clear hs1
              have HM : As ((l.take (k + 1)).map md3 = (l.take k).map md3 ++ [md3 l[k]]) := ⟨by rw [List.take_succ_eq_append_getElem hkl, List.map_append]; rfl⟩
              have hrg := tmod_rng l[k] (m := 3) (by omega)
              have hol : ((l.take k).map md3).length ≤ 6 := by rw [List.length_map, List.length_take]; omega
              generalize (l.take k).map md3 = ys at S HM hol
              generalize l[k] = y at hcy HM hrg
              obtain ⟨hr1, hr2⟩ := hrg
              by_cases hs : y.tmod 3 < -y.tmod 3
              · have HM2 := As.mk (HM.out.trans (by rw [show md3 y = -y.tmod 3 from Int.max_eq_right (Int.le_of_lt hs)]))
                go_wp2_with (first | ((first | (with_reducible refine wpl_seal S ?_) | (with_reducible refine cw_seal S ?_) | (with_reducible refine bp_seal S ?_) | (with_reducible refine ca_seal S ?_)); clear S; (try clear hc); intro w1 S; (try simp only [List.set_cons_zero, List.set_cons_succ, List.nil_append] at S); have hc := S.cells; simp only [Cells, cellsC, Im, Row, El, Nat.zero_add, Nat.reduceAdd] at hc) | (at_builtin; refine wpl_push S 1 rfl rfl _ _ rfl ty_ints rfl (-y.tmod 3) _ _ rfl [_] _ (S.cel 0 rfl) rfl (by (try simp only [maxLen, List.length_nil, List.length_append, List.length_cons]); omega) (by (try simp only [maxLen, List.length_nil, List.length_append, List.length_cons]); omega) ?_; clear S; (try clear hc); intro va w1 S; simp only [List.set_cons_zero, List.set_cons_succ, List.nil_append] at S; have hc := S.cells; simp only [Cells, cellsC, Im, Row, El, Nat.zero_add, Nat.reduceAdd] at hc))
                go_roundw
                case rel => exact ⟨k + 1, by omega, by omega, by go_num, _, ⟨by rw [HM2.out]; exact (S.sel [1, 2, 3] (by decide) rfl (by simp) : SH _ _ _ [_, _, _] _ _)⟩⟩
                case measure => simp [intOf]; omega
              · have hs2 : -y.tmod 3 ≤ y.tmod 3 := by omega
                have HM2 := As.mk (HM.out.trans (by rw [show md3 y = y.tmod 3 from Int.max_eq_left hs2]))
                go_wp2_with (first | ((first | (with_reducible refine wpl_seal S ?_) | (with_reducible refine cw_seal S ?_) | (with_reducible refine bp_seal S ?_) | (with_reducible refine ca_seal S ?_)); clear S; (try clear hc); intro w1 S; (try simp only [List.set_cons_zero, List.set_cons_succ, List.nil_append] at S); have hc := S.cells; simp only [Cells, cellsC, Im, Row, El, Nat.zero_add, Nat.reduceAdd] at hc) | (at_builtin; refine wpl_push S 1 rfl rfl _ _ rfl ty_ints rfl (y.tmod 3) _ _ rfl [_] _ (S.cel 0 rfl) rfl (by (try simp only [maxLen, List.length_nil, List.length_append, List.length_cons]); omega) (by (try simp only [maxLen, List.length_nil, List.length_append, List.length_cons]); omega) ?_; clear S; (try clear hc); intro va w1 S; simp only [List.set_cons_zero, List.set_cons_succ, List.nil_append] at S; have hc := S.cells; simp only [Cells, cellsC, Im, Row, El, Nat.zero_add, Nat.reduceAdd] at hc))
                go_roundw
                case rel => exact ⟨k + 1, by omega, by omega, by go_num, _, ⟨by rw [HM2.out]; exact (S.sel [1, 2, 3] (by decide) rfl (by simp) : SH _ _ _ [_, _, _] _ _)⟩⟩
                case measure => simp [intOf]; omega
            · have hkm' : decide ((k : Int) < 4) = false := by simp; omega
              have hk4 : k = l.length ∧ k ≤ 4 ∨ k = 4 := by omega
              clear hs1 hc1
              obtain ⟨zs, hzs⟩ : ∃ zs, (l.take k).map md3 = zs := ⟨_, rfl⟩
              have hzl : zs.length ≤ 4 := by rw [← hzs, List.length_map, List.length_take]; omega
              have HSU : As (smallZ (ls.take (t + 1)) = smallZ (ls.take t) ++ if 0 < zs.length then [zs] else []) := ⟨by rw [smallZ_succ htl, HLK.out, smallC_cut hk4, hzs]⟩
              rw [hzs] at S
              clear hzs
              have hol : (smallZ (ls.take t)).length ≤ 6 := by have := smallZ_le (ls.take t); rw [List.length_take] at this; omega
              generalize smallZ (ls.take t) = out at S HSU hol
              obtain ⟨A2, c2, I1, e1, hc2, S1, hI1⟩ := S.frow 0 rfl; subst e1; clear S hI1; have S := S1; clear S1; simp only [List.set_cons_zero, List.set_cons_succ, List.nil_append] at S
              by_cases h0 : 0 < zs.length
              · have h0' : decide ((zs.length : Int) > 0) = true := by simp; omega
                have HSV := As.mk (HSU.out.trans (by rw [if_pos h0]))
                have hc := S.cells; simp only [Cells, cellsC, Im, Row, El, Nat.zero_add, Nat.reduceAdd] at hc
                go_wp2_with (first | ((first | (with_reducible refine wpl_seal S ?_) | (with_reducible refine cw_seal S ?_) | (with_reducible refine bp_seal S ?_) | (with_reducible refine ca_seal S ?_)); clear S; (try clear hc); intro w1 S; (try simp only [List.set_cons_zero, List.set_cons_succ, List.nil_append] at S); have hc := S.cells; simp only [Cells, cellsC, Im, Row, El, Nat.zero_add, Nat.reduceAdd] at hc) | (at_builtin; refine wpl_push S 2 rfl rfl _ _ rfl ty_intss rfl zs _ _ rfl [_] _ (S.cel 0 rfl) ⟨_, _, rfl, hc2, S.im 1 rfl⟩ (by (try simp only [maxLen, List.length_nil, List.length_append, List.length_cons]); omega) (by (try simp only [maxLen, List.length_nil, List.length_append, List.length_cons]); omega) ?_; clear S; (try clear hc); intro va w1 S; simp only [List.set_cons_zero, List.set_cons_succ, List.nil_append] at S; have hc := S.cells; simp only [Cells, cellsC, Im, Row, El, Nat.zero_add, Nat.reduceAdd] at hc))
                go_roundw
                case rel => exact ⟨t + 1, by omega, by omega, by go_num, _, ⟨by rw [HSV.out]; exact (S.sel [2, 3] (by decide) rfl (by simp) : SH _ _ _ [_, _] _ _)⟩⟩
                case measure => simp [intOf]; omega
              · have h0' : decide ((zs.length : Int) > 0) = false := by rw [decide_eq_false_iff_not]; omega
                have HSV := As.mk (HSU.out.trans (by rw [if_neg h0, List.append_nil]))
                have hc := S.cells; simp only [Cells, cellsC, Im, Row, El, Nat.zero_add, Nat.reduceAdd] at hc
                go_wp2_with (first | ((first | (with_reducible refine wpl_seal S ?_) | (with_reducible refine cw_seal S ?_) | (with_reducible refine bp_seal S ?_) | (with_reducible refine ca_seal S ?_)); clear S; (try clear hc); intro w1 S; (try simp only [List.set_cons_zero, List.set_cons_succ, List.nil_append] at S); have hc := S.cells; simp only [Cells, cellsC, Im, Row, El, Nat.zero_add, Nat.reduceAdd] at hc))
                go_roundw
                case rel => exact ⟨t + 1, by omega, by omega, by go_num, _, ⟨by rw [HSV.out]; exact (S.sel [1, 2] (by decide) rfl (by simp) : SH _ _ _ [_, _] _ _)⟩⟩
                case measure => simp [intOf]; omega
          · have hkl' : decide ((k : Int) < l.length) = false := by simpa using hkl
            have hk4 : k = l.length ∧ k ≤ 4 ∨ k = 4 := by omega
            clear hs1 hc1
            obtain ⟨zs, hzs⟩ : ∃ zs, (l.take k).map md3 = zs := ⟨_, rfl⟩
            have hzl : zs.length ≤ 4 := by rw [← hzs, List.length_map, List.length_take]; omega
            have HSU : As (smallZ (ls.take (t + 1)) = smallZ (ls.take t) ++ if 0 < zs.length then [zs] else []) := ⟨by rw [smallZ_succ htl, HLK.out, smallC_cut hk4, hzs]⟩
            rw [hzs] at S
            clear hzs
            have hol : (smallZ (ls.take t)).length ≤ 6 := by have := smallZ_le (ls.take t); rw [List.length_take] at this; omega
            generalize smallZ (ls.take t) = out at S HSU hol
            obtain ⟨A2, c2, I1, e1, hc2, S1, hI1⟩ := S.frow 0 rfl; subst e1; clear S hI1; have S := S1; clear S1; simp only [List.set_cons_zero, List.set_cons_succ, List.nil_append] at S
            by_cases h0 : 0 < zs.length
            · have h0' : decide ((zs.length : Int) > 0) = true := by simp; omega
              have HSV := As.mk (HSU.out.trans (by rw [if_pos h0]))
              have hc := S.cells; simp only [Cells, cellsC, Im, Row, El, Nat.zero_add, Nat.reduceAdd] at hc
              go_wp2_with (first | ((first | (with_reducible refine wpl_seal S ?_) | (with_reducible refine cw_seal S ?_) | (with_reducible refine bp_seal S ?_) | (with_reducible refine ca_seal S ?_)); clear S; (try clear hc); intro w1 S; (try simp only [List.set_cons_zero, List.set_cons_succ, List.nil_append] at S); have hc := S.cells; simp only [Cells, cellsC, Im, Row, El, Nat.zero_add, Nat.reduceAdd] at hc) | (at_builtin; refine wpl_push S 2 rfl rfl _ _ rfl ty_intss rfl zs _ _ rfl [_] _ (S.cel 0 rfl) ⟨_, _, rfl, hc2, S.im 1 rfl⟩ (by (try simp only [maxLen, List.length_nil, List.length_append, List.length_cons]); omega) (by (try simp only [maxLen, List.length_nil, List.length_append, List.length_cons]); omega) ?_; clear S; (try clear hc); intro va w1 S; simp only [List.set_cons_zero, List.set_cons_succ, List.nil_append] at S; have hc := S.cells; simp only [Cells, cellsC, Im, Row, El, Nat.zero_add, Nat.reduceAdd] at hc))
              go_roundw
              case rel => exact ⟨t + 1, by omega, by omega, by go_num, _, ⟨by rw [HSV.out]; exact (S.sel [2, 3] (by decide) rfl (by simp) : SH _ _ _ [_, _] _ _)⟩⟩
              case measure => simp [intOf]; omega
            · have h0' : decide ((zs.length : Int) > 0) = false := by rw [decide_eq_false_iff_not]; omega
              have HSV := As.mk (HSU.out.trans (by rw [if_neg h0, List.append_nil]))
              have hc := S.cells; simp only [Cells, cellsC, Im, Row, El, Nat.zero_add, Nat.reduceAdd] at hc
              go_wp2_with (first | ((first | (with_reducible refine wpl_seal S ?_) | (with_reducible refine cw_seal S ?_) | (with_reducible refine bp_seal S ?_) | (with_reducible refine ca_seal S ?_)); clear S; (try clear hc); intro w1 S; (try simp only [List.set_cons_zero, List.set_cons_succ, List.nil_append] at S); have hc := S.cells; simp only [Cells, cellsC, Im, Row, El, Nat.zero_add, Nat.reduceAdd] at hc))
              go_roundw
              case rel => exact ⟨t + 1, by omega, by omega, by go_num, _, ⟨by rw [HSV.out]; exact (S.sel [1, 2] (by decide) rfl (by simp) : SH _ _ _ [_, _] _ _)⟩⟩
              case measure => simp [intOf]; omega
      · have htm' : decide ((t : Int) < 6) = false := by simp; omega
        obtain rfl : t = 6 := by omega
        go_wp2_with (first | ((first | (with_reducible refine wpl_seal S ?_) | (with_reducible refine cw_seal S ?_) | (with_reducible refine bp_seal S ?_) | (with_reducible refine ca_seal S ?_)); clear S; (try clear hc); intro w1 S; (try simp only [List.set_cons_zero, List.set_cons_succ, List.nil_append] at S); have hc := S.cells; simp only [Cells, cellsC, Im, Row, El, Nat.zero_add, Nat.reduceAdd] at hc))
        go_ret
        exact ⟨_, rfl, S.ret 0 rfl⟩
    · have htl' : decide ((t : Int) < ls.length) = false := by simpa using htl
      have HT : As (ls.take t = ls.take 6) := ⟨by rw [List.take_of_length_le (by omega), List.take_of_length_le (by omega)]⟩
      rw [HT.out] at S
      go_wp2_with (first | ((first | (with_reducible refine wpl_seal S ?_) | (with_reducible refine cw_seal S ?_) | (with_reducible refine bp_seal S ?_) | (with_reducible refine ca_seal S ?_)); clear S; (try clear hc); intro w1 S; (try simp only [List.set_cons_zero, List.set_cons_succ, List.nil_append] at S); have hc := S.cells; simp only [Cells, cellsC, Im, Row, El, Nat.zero_add, Nat.reduceAdd] at hc))
      go_ret
      exact ⟨_, rfl, S.ret 0 rfl⟩
end Go.Proofs.Ytpgphhkhjbhimaa
namespace Go.Proofs.Ytpgphhkhjbhimaa
open Go.RowKit X
set_option maxHeartbeats 1000000
set_option maxRecDepth 8000
set_option linter.unusedSimpArgs false
set_option linter.unusedVariables false
def md4 (y : Int) : Int := max (y.tmod 4) (-(y.tmod 4))
theorem md4_rng (y : Int) : 0 ≤ md4 y ∧ md4 y ≤ 3 := by have := tmod_rng y (m := 4) (by omega); unfold md4; omega
def rowZ1 (xs : List Int) (i : Nat) : Int := if i < xs.length then md4 (xs.getD i 0) - 1 else 0
theorem rowZ1_rng (xs : List Int) (i : Nat) : -1 ≤ rowZ1 xs i ∧ rowZ1 xs i ≤ 2 := by
  unfold rowZ1
  split
  · have := md4_rng (xs.getD i 0); omega
  · omega
def rowZk (xs : List Int) (n k : Nat) : List Int := (List.range n).map fun i => if i < k then rowZ1 xs i else 0
def rowZ (xs : List Int) (n : Nat) : List Int := rowZk xs n n
theorem rowZk_len (xs : List Int) (n k : Nat) : (rowZk xs n k).length = n := by simp [rowZk]
theorem rowZ_len (xs : List Int) (n : Nat) : (rowZ xs n).length = n := rowZk_len xs n n
theorem rowZk_at {xs : List Int} {n k i : Nat} (h : i < (rowZk xs n k).length) : (rowZk xs n k)[i] = if i < k then rowZ1 xs i else 0 := by
  simp [rowZk]
theorem rowZ_mem {xs : List Int} {n : Nat} {y : Int} (h : y ∈ rowZ xs n) : -1 ≤ y ∧ y ≤ 2 := by
  unfold rowZ rowZk at h
  rw [List.mem_map] at h
  obtain ⟨i, hi, rfl⟩ := h
  rw [List.mem_range] at hi
  rw [if_pos hi]
  exact rowZ1_rng xs i
theorem rowZ_at {xs : List Int} {n i : Nat} (h : i < (rowZ xs n).length) : (rowZ xs n)[i] = rowZ1 xs i := by
  have hi : i < n := by rw [rowZ_len] at h; exact h
  exact (rowZk_at _).trans (if_pos hi)
theorem rowZ_told {ls : List (List Int)} {n : Nat} : Told (ls.map fun l => rowZ l n) n := fun r hr => by
  rw [List.mem_map] at hr
  obtain ⟨l, _, rfl⟩ := hr
  exact ⟨rowZ_len l n, fun y hy => by have := rowZ_mem hy; omega⟩
theorem rowZk_set (xs : List Int) (n k : Nat) : (rowZk xs n k).set k (rowZ1 xs k) = rowZk xs n (k + 1) := by
  apply List.ext_getElem
  · simp [rowZk]
  · intro i h1 h2
    rw [List.getElem_set]
    rw [rowZk_at, rowZk_at]
    by_cases hik : k = i
    · subst hik; rw [if_pos rfl, if_pos (Nat.lt_succ_self _)]
    · rw [if_neg hik]
      by_cases h : i < k
      · rw [if_pos h, if_pos (by omega)]
      · rw [if_neg h, if_neg (by omega)]
theorem rowZk_skip {xs : List Int} {n k : Nat} (h : xs.length ≤ k) : rowZk xs n (k + 1) = rowZk xs n k := by
  unfold rowZk
  refine List.map_congr_left fun i _ => ?_
  by_cases hik : i < k
  · rw [if_pos hik, if_pos (by omega)]
  · rw [if_neg hik]
    split
    · unfold rowZ1; rw [if_neg (by omega)]
    · rfl
theorem map_set_int (l : List Int) (k : Nat) (y : Int) : (l.map (Value.int .i64)).set k (.int .i64 y) = (l.set k y).map (Value.int .i64) := (List.map_set ..).symm
theorem zrow_c (xs : List Int) (n : Nat) (hn : n ≤ 1000) (A : Option Addr) (c : Nat) (w : World) (I : Fp) (hI : ∀ b, I b → b < w.heap.size) (hx : Sl kI w I A xs) :
    Calls Try.prog 12 #[.slice A xs.length c, .int .i64 n] w fun e w' => ∃ g, e = .returned (.slice (some ⟨g, 0, none⟩) n n) ∧ Upd w No I w' (Im kI (some ⟨g, 0, none⟩) (rowZ xs n)) := by
  have S := (SH.start w I hI).know (h := Im kI A xs) hx
  clear hx
  have hc := S.cells; simp only [Cells, cellsC, Im, Row, El, Nat.zero_add, Nat.reduceAdd] at hc
  go_enter Try.func12, Try.ntmps12
  go_wp2_with (first | ((first | (with_reducible refine wpl_seal S ?_) | (with_reducible refine cw_seal S ?_) | (with_reducible refine bp_seal S ?_) | (with_reducible refine ca_seal S ?_)); clear S; (try clear hc); intro w1 S; (try simp only [List.set_cons_zero, List.set_cons_succ, List.nil_append] at S); have hc := S.cells; simp only [Cells, cellsC, Im, Row, El, Nat.zero_add, Nat.reduceAdd] at hc) | (at_make; refine wpl_make (k := kI) S rfl _ _ rfl (z := .int .i64 0) (bytes := 8) (size := 1) Try.underlying30 (by kernel_rfl) rfl (by omega) .i64 .i64 n rfl rfl (by omega) 0 (fun _ => rfl) (by omega) ?_; clear S hc; intro g w1 S; have hc := S.cells; simp only [Cells, cellsC, Im, Row, El, Nat.zero_add, Nat.reduceAdd] at hc))
  obtain ⟨cs, hf, S1⟩ := S.rowCel 0 (xs := List.replicate n (0 : Int)) (by rw [List.length_replicate]; rfl)
  obtain rfl := Flat.int.1 hf
  clear S hc hf
  have S := S1
  clear S1
  simp only [List.set_cons_zero, List.set_cons_succ, List.nil_append] at S
  have h0 : List.replicate n (0 : Int) = rowZk xs n 0 := List.ext_getElem (by simp [rowZk]) fun i h1 h2 => by rw [rowZk_at, List.getElem_replicate]; rfl
  rw [h0] at S
  clear h0
  go_loopw [6] (fun i w' => ∃ (k : Nat), k ≤ n ∧ i = .int .i64 k ∧ ∃ J, As (SH No I w [Cel g 3 ((rowZk xs n k).map (Value.int .i64)), Im kI A xs] w' J)) (fun i _ => n - (intOf i).toNat)
  case atStart => exact ⟨0, Nat.zero_le _, rfl, _, ⟨S⟩⟩
  case round =>
    clear S
    obtain ⟨k, hk, rfl, J, ⟨S⟩⟩ := hrel
    by_cases hkn : k < n
    · have hkn' : decide ((k : Int) < n) = true := by simpa using hkn
      have hln : k < (rowZk xs n k).length := by rw [rowZk_len]; exact hkn
      have hcy := S.cell 0 k rfl (u := .int .i64 (rowZk xs n k)[k]) (by rw [List.getElem?_map, List.getElem?_eq_getElem hln]; rfl)
      have hfz := S.nfz 0 k rfl
      have HZ := As.mk (rowZk_set xs n k)
      by_cases hkx : k < xs.length
      · have hkx' : decide ((k : Int) < xs.length) = true := by simpa using hkx
        obtain ⟨b2, o2, rfl, hcx⟩ := (S.im 1 rfl).int_at hkx
        have HR : As (rowZ1 xs k = md4 xs[k] - 1) := ⟨by unfold rowZ1; rw [if_pos hkx, getD_at hkx]⟩
        have hrg := tmod_rng xs[k] (m := 4) (by omega)
        generalize (rowZk xs n k)[k] = y0 at hcy
        generalize xs[k] = y at hcx HR hrg
        obtain ⟨hr1, hr2⟩ := hrg
        by_cases hs : y.tmod 4 < -y.tmod 4
        · have HM := As.mk (HR.out.trans (by rw [show md4 y = -y.tmod 4 from Int.max_eq_right (Int.le_of_lt hs)]))
          have hc := S.cells; simp only [Cells, cellsC, Im, Row, El, Nat.zero_add, Nat.reduceAdd] at hc
          go_wp2_with (first | ((first | (with_reducible refine wpl_seal S ?_) | (with_reducible refine cw_seal S ?_) | (with_reducible refine bp_seal S ?_) | (with_reducible refine ca_seal S ?_)); clear S; (try clear hc); intro w1 S; (try simp only [List.set_cons_zero, List.set_cons_succ, List.nil_append] at S); have hc := S.cells; simp only [Cells, cellsC, Im, Row, El, Nat.zero_add, Nat.reduceAdd] at hc))
          go_roundw
          case rel =>
            rw [← HM.out, map_set_int, HZ.out] at S
            exact ⟨k + 1, by omega, by go_num, _, ⟨by first | exact S | trivial⟩⟩
          case measure => simp [intOf]; omega
        · have hs2 : -y.tmod 4 ≤ y.tmod 4 := by omega
          have HM := As.mk (HR.out.trans (by rw [show md4 y = y.tmod 4 from Int.max_eq_left hs2]))
          have hc := S.cells; simp only [Cells, cellsC, Im, Row, El, Nat.zero_add, Nat.reduceAdd] at hc
          go_wp2_with (first | ((first | (with_reducible refine wpl_seal S ?_) | (with_reducible refine cw_seal S ?_) | (with_reducible refine bp_seal S ?_) | (with_reducible refine ca_seal S ?_)); clear S; (try clear hc); intro w1 S; (try simp only [List.set_cons_zero, List.set_cons_succ, List.nil_append] at S); have hc := S.cells; simp only [Cells, cellsC, Im, Row, El, Nat.zero_add, Nat.reduceAdd] at hc))
          go_roundw
          case rel =>
            rw [← HM.out, map_set_int, HZ.out] at S
            exact ⟨k + 1, by omega, by go_num, _, ⟨by first | exact S | trivial⟩⟩
          case measure => simp [intOf]; omega
      · have hkx' : decide ((k : Int) < xs.length) = false := by simpa using hkx
        have HK := As.mk (rowZk_skip (xs := xs) (n := n) (k := k) (by omega))
        clear hcy hfz
        have hc := S.cells; simp only [Cells, cellsC, Im, Row, El, Nat.zero_add, Nat.reduceAdd] at hc
        go_wp2_with (first | ((first | (with_reducible refine wpl_seal S ?_) | (with_reducible refine cw_seal S ?_) | (with_reducible refine bp_seal S ?_) | (with_reducible refine ca_seal S ?_)); clear S; (try clear hc); intro w1 S; (try simp only [List.set_cons_zero, List.set_cons_succ, List.nil_append] at S); have hc := S.cells; simp only [Cells, cellsC, Im, Row, El, Nat.zero_add, Nat.reduceAdd] at hc))
        go_roundw
        case rel => exact ⟨k + 1, by omega, by go_num, _, ⟨by rw [HK.out]; exact S⟩⟩
        case measure => simp [intOf]; omega
    · have hkn' : decide ((k : Int) < n) = false := by simpa using hkn
      obtain rfl : k = n := by omega
      obtain ⟨J1, S1, -⟩ := S.lit 0 rfl (k := kI) (xs := rowZk xs k k) (Flat.int.2 rfl)
      clear S
      have S := S1
      clear S1
      simp only [List.set_cons_zero, List.set_cons_succ, List.nil_append] at S
      have hc := S.cells; simp only [Cells, cellsC, Im, Row, El, Nat.zero_add, Nat.reduceAdd] at hc
      go_wp2_with (first | ((first | (with_reducible refine wpl_seal S ?_) | (with_reducible refine cw_seal S ?_) | (with_reducible refine bp_seal S ?_) | (with_reducible refine ca_seal S ?_)); clear S; (try clear hc); intro w1 S; (try simp only [List.set_cons_zero, List.set_cons_succ, List.nil_append] at S); have hc := S.cells; simp only [Cells, cellsC, Im, Row, El, Nat.zero_add, Nat.reduceAdd] at hc))
      go_ret
      exact ⟨_, rfl, S.ret 0 rfl⟩
end Go.Proofs.Ytpgphhkhjbhimaa
namespace Go.Proofs.Ytpgphhkhjbhimaa
open Go.RowKit X
set_option maxHeartbeats 1000000
set_option maxRecDepth 8000
set_option linter.unusedSimpArgs false
set_option linter.unusedVariables false
def treeL (own : List (List Int)) : List (List Int) := own.foldl (fun L x => putL L x x.length) [[]]
theorem treeL_succ {own : List (List Int)} {k : Nat} (h : k < own.length) : treeL (own.take (k + 1)) = putL (treeL (own.take k)) own[k] own[k].length := by
  unfold treeL
  rw [List.take_succ_eq_append_getElem h, List.foldl_append]
  rfl
/-- columns that may be: few, short, none without -/
structure Few (own : List (List Int)) : Prop where
  len : own.length ≤ 6
  each : ∀ l ∈ own, l ≠ [] ∧ l.length ≤ 4 ∧ Pos l
theorem Few.colz {own : List (List Int)} (h : Few own) : Colz own := fun l hl => ⟨by have := (h.each l hl).2.1; omega, (h.each l hl).2.2⟩
theorem smallZ_few (ls : List (List Int)) : Few (smallZ (ls.take 6)) where
  len := by have := smallZ_le (ls.take 6); rw [List.length_take] at this; omega
  each := fun l hl => by
    obtain ⟨h1, h2, h3⟩ := smallZ_mem hl
    exact ⟨h1, h2, fun y hy => by have := h3 y hy; omega⟩
theorem treeL_small {own : List (List Int)} (h : Few own) : ∀ k, k ≤ own.length → (treeL (own.take k)).length ≤ 1 + 4 * k ∧ ∀ x ∈ treeL (own.take k), x.length ≤ 4
  | 0, _ => by unfold treeL; simp
  | k + 1, hk => by
    obtain ⟨h1, h2⟩ := treeL_small h k (by omega)
    have he := (h.each _ (List.getElem_mem (show k < own.length by omega))).2.1
    rw [treeL_succ (by omega)]
    have := putL_len (treeL (own.take k)) own[k] own[k].length
    exact ⟨by omega, putL_mem h2 he _⟩
theorem ztree_c (own : List (List Int)) (A : Option Addr) (c : Nat) (w : World) (I : Fp) (hI : ∀ b, I b → b < w.heap.size) (hO : Sl kII w I A own) (hF : Few own) :
    Calls Try.prog 24 #[.slice A own.length c] w fun e w' => ∃ v, e = .returned v ∧ Upd w No I w' (RTH v (treeL own) own) := by
  have S := (SH.start w I hI).know (h := Im kII A own) hO
  have HF := As.mk hF
  have hlen := hF.len
  clear hO hF
  have hc := S.cells; simp only [Cells, cellsC, Im, Row, El, RTH, Nat.zero_add, Nat.reduceAdd] at hc
  go_enter Try.func24, Try.ntmps24
  go_wp2_with (first | ((first | (with_reducible refine wpl_seal S ?_) | (with_reducible refine cw_seal S ?_) | (with_reducible refine bp_seal S ?_) | (with_reducible refine ca_seal S ?_)); clear S; (try clear hc); intro w1 S; (try simp only [List.set_cons_zero, List.set_cons_succ, List.nil_append] at S); have hc := S.cells; simp only [Cells, cellsC, Im, Row, El, RTH, Nat.zero_add, Nat.reduceAdd] at hc) | (go_at_call 43; refine (rnew_c _).mono ?_; rintro e w1 ⟨v, rfl, hu⟩; obtain ⟨I1, S1, hI1⟩ := S.new (hu.any _); clear S hu hI1; (try clear hc); have S := S1; clear S1; have hc := S.cells; simp only [Cells, cellsC, Im, Row, El, RTH, Nat.zero_add, Nat.reduceAdd] at hc; obtain ⟨A1, c1, A2, c2, rfl, hl1, hl2, hs1, hs2⟩ := S.rt 0 rfl; replace S := (S.know (h := Im kW A1 [[]]) hs1).know (h := Im kW A2 ([] : List (List Int))) hs2; clear hs1 hs2; have hc := S.cells; simp only [Cells, cellsC, Im, Row, El, RTH, Nat.zero_add, Nat.reduceAdd] at hc))
  obtain ⟨gT, egT⟩ := S.name 0 rfl; rw [← egT] at S ⊢; clear egT
  obtain ⟨gR, egR⟩ := S.name 4 rfl; rw [← egR] at S ⊢; clear egR
  replace S := ((S.sel [0, 2, 1, 4, 5] (by decide) rfl (by simp) : SH _ _ _ [_, _, _, _, _] _ _) : SH _ _ _ [_, _, _, _, _] _ _)
  clear hc
  go_loopw [4] (fun i w' => ∃ (k : Nat) (L W : List (List Int)) (a1 : Option Addr) (d1 : Nat) (a2 : Option Addr) (d2 : Nat) (J : Fp), k ≤ own.length ∧ i = .int .i64 k ∧ As (L = treeL (own.take k)) ∧ As (W = own.take k) ∧
      L.length ≤ d1 ∧ W.length ≤ d2 ∧ As (SH No I w [Cel gT 46 [.slice a1 L.length d1, .slice a2 W.length d2], Im kW a1 L, Im kW a2 W, Cel gR 46 [.slice none 0 0, .slice none 0 0], Im kII A own] w' J)) (fun i _ => own.length - (intOf i).toNat)
  case atStart => exact ⟨0, [[]], [], A1, c1, A2, c2, _, Nat.zero_le _, rfl, ⟨rfl⟩, ⟨rfl⟩, hl1, hl2, ⟨S⟩⟩
  case round =>
    clear S hl1 hl2
    obtain ⟨k, L, W, a1, d1, a2, d2, J, hk, rfl, HL, HW, hd1, hd2, ⟨S⟩⟩ := hrel
    have hb := treeL_small HF.out k hk
    rw [← HL.out] at hb
    have hLk : L.length ≤ 25 := by omega
    have hWk : W.length ≤ 6 := by rw [HW.out, List.length_take]; omega
    have HLs : As (ShortW L) := ⟨fun x hx => by have := hb.2 x hx; omega⟩
    clear hb
    have hc := S.cells; simp only [Cells, cellsC, Im, Row, El, RTH, Nat.zero_add, Nat.reduceAdd] at hc
    by_cases hlt : k < own.length
    · have hlt' : decide ((k : Int) < own.length) = true := by simpa using hlt
      obtain ⟨b, o, A3, c3, rfl, hcx, hc3, hs3⟩ := (S.im 4 rfl).sl_at hlt
      have he := HF.out.each _ (List.getElem_mem hlt)
      have HL2 : As (treeL (own.take (k + 1)) = putL L own[k] own[k].length) := ⟨by rw [treeL_succ hlt, ← HL.out]⟩
      have HW2 : As (own.take (k + 1) = W ++ [own[k]]) := ⟨by rw [List.take_succ_eq_append_getElem hlt, ← HW.out]⟩
      have HPO := As.mk he.2.2
      have hl4 : own[k].length ≤ 4 := he.2.1
      have hpl := putL_len L own[k] own[k].length
      clear he
      replace S := S.know (h := Im kI A3 own[k]) hs3
      clear hs3
      generalize own[k] = xs at S HL2 HW2 HPO hl4 hpl hcx hc3
      have hqx := ClE.cell (w := wr.drew) hcx
      have hq := S.cellsE; simp only [CellsE, cellsE, Im, Row, El, RTH, Nat.zero_add, Nat.reduceAdd] at hq
      go_wp2_with (first | ((first | (with_reducible refine wpl_seal S ?_) | (with_reducible refine cw_seal S ?_) | (with_reducible refine bp_seal S ?_) | (with_reducible refine ca_seal S ?_)); clear S; (try clear hc); intro w1 S; (try simp only [List.set_cons_zero, List.set_cons_succ, List.nil_append] at S); have hc := S.cells; simp only [Cells, cellsC, Im, Row, El, RTH, Nat.zero_add, Nat.reduceAdd] at hc))
      refine wp_region_ext [⟨[0, 1, 2, 3, 4], [], 5, true⟩, ⟨[], [], 6, false⟩, ⟨[], [], 7, false⟩] [] (by kernel_rfl) (by kernel_rfl) ?_
      refine mix_cons rfl rfl rfl ?_
      simp only [opsAt, List.getD_cons_succ, List.getD_cons_zero]
      repeat (go_big_quiet_step ((intro hC; first | rfl | (go_simp; first | done | rfl))))
      refine wpQuiet_nil ?_
      repeat (go_big_quiet_step ((intro hC; first | rfl | (go_simp; first | done | rfl))))
      refine wpQuiet_nil ?_
      clear hq hqx hc hcx
      replace S := S.drew
      generalize wr.drew = w1 at S ⊢
      have hc := S.cells; simp only [Cells, cellsC, Im, Row, El, RTH, Nat.zero_add, Nat.reduceAdd] at hc
      go_wp2_with (first | ((first | (with_reducible refine mx_seal S ?_) | (with_reducible refine wpl_seal S ?_) | (with_reducible refine ca_seal S ?_)); clear S; (try clear hc); intro w1 S; (try simp only [List.set_cons_zero, List.set_cons_succ, List.nil_append] at S); have hc := S.cells; simp only [Cells, cellsC, Im, Row, El, RTH, Nat.zero_add, Nat.reduceAdd] at hc) | (go_at_call 37; refine (zword_c xs A3 c3 _ _ S.bd (S.im 0 rfl) (by omega) HPO.out).mono ?_; rintro e w1 ⟨v, rfl, hu⟩; have hxe := hu.ext; obtain ⟨I1, S1, hI1⟩ := S.new hu; clear S hu hI1; (try clear hc); have S := S1; clear S1; have hc := S.cells; simp only [Cells, cellsC, Im, Row, El, RTH, Nat.zero_add, Nat.reduceAdd] at hc; obtain ⟨A6, c6, I1, e1, hc6, S1, hI1⟩ := S.frow 0 rfl; subst e1; clear S hI1; have S := S1; clear S1; simp only [List.set_cons_zero, List.set_cons_succ, List.nil_append] at S; have hc := S.cells; simp only [Cells, cellsC, Im, Row, El, RTH, Nat.zero_add, Nat.reduceAdd] at hc))
      refine ⟨fun _ => hxe, ?_⟩
      clear hxe
      refine mix_cons rfl rfl rfl ?_
      simp only [opsAt, List.getD_cons_succ, List.getD_cons_zero]
      repeat (go_big_quiet_step ((intro hC; first | rfl | (go_simp; first | done | rfl))))
      refine wpQuiet_nil ?_
      repeat (go_big_quiet_step ((intro hC; first | rfl | (go_simp; first | done | rfl))))
      refine wpQuiet_nil ?_
      go_wp2_with (first | ((first | (with_reducible refine mx_seal S ?_) | (with_reducible refine wpl_seal S ?_) | (with_reducible refine ca_seal S ?_)); clear S; (try clear hc); intro w1 S; (try simp only [List.set_cons_zero, List.set_cons_succ, List.nil_append] at S); have hc := S.cells; simp only [Cells, cellsC, Im, Row, El, RTH, Nat.zero_add, Nat.reduceAdd] at hc) | (go_at_call 44; refine (rput_c L W xs _ A6 c6 _ _ S.bd ⟨a1, d1, a2, d2, rfl, hd1, hd2, S.im 3 rfl, S.im 4 rfl⟩ (S.im 0 rfl) hc6 (by omega) (by omega) HLs.out).mono ?_; rintro e w1 ⟨v, rfl, hu⟩; obtain ⟨I1, S1, hI1⟩ := S.new hu; clear S hu hI1; (try clear hc); have S := S1; clear S1; have hc := S.cells; simp only [Cells, cellsC, Im, Row, El, RTH, Nat.zero_add, Nat.reduceAdd] at hc; obtain ⟨a5, d5, a6, d6, rfl, hd5, hd6, hs5, hs6⟩ := S.rt 0 rfl; replace S := (S.know (h := Im kW a6 _) hs6).know (h := Im kW a5 _) hs5; clear hc hs5 hs6; have hc := S.cells; simp only [Cells, cellsC, Im, Row, El, RTH, Nat.zero_add, Nat.reduceAdd] at hc))
      (first | refine ⟨(fun h => by cases h), ?_⟩ | skip); (first | ((first | (with_reducible refine mx_seal S ?_)); clear S; (try clear hc); intro w1 S; (try simp only [List.set_cons_zero, List.set_cons_succ, List.nil_append] at S); have hc := S.cells; simp only [Cells, cellsC, Im, Row, El, RTH, Nat.zero_add, Nat.reduceAdd] at hc) | skip); (try simp only [Act.put, List.setIfInBounds_toArray, List.set_cons_succ, List.set_cons_zero])
      refine mix_cons rfl rfl rfl ?_
      simp only [opsAt, List.getD_cons_succ, List.getD_cons_zero]
      repeat (go_big_quiet_step ((intro hC; first | rfl | (go_simp; first | done | rfl))))
      refine wpQuiet_nil ?_
      repeat (go_big_quiet_step ((intro hC; first | rfl | (go_simp; first | done | rfl))))
      refine wpQuiet_nil ?_
      go_wp2_with (first | ((first | (with_reducible refine mx_seal S ?_) | (with_reducible refine wpl_seal S ?_) | (with_reducible refine ca_seal S ?_)); clear S; (try clear hc); intro w1 S; (try simp only [List.set_cons_zero, List.set_cons_succ, List.nil_append] at S); have hc := S.cells; simp only [Cells, cellsC, Im, Row, El, RTH, Nat.zero_add, Nat.reduceAdd] at hc))
      (first | refine ⟨(fun h => by cases h), ?_⟩ | skip); (first | ((first | (with_reducible refine mx_seal S ?_)); clear S; (try clear hc); intro w1 S; (try simp only [List.set_cons_zero, List.set_cons_succ, List.nil_append] at S); have hc := S.cells; simp only [Cells, cellsC, Im, Row, El, RTH, Nat.zero_add, Nat.reduceAdd] at hc) | skip); (try simp only [Act.put, List.setIfInBounds_toArray, List.set_cons_succ, List.set_cons_zero])
      refine mix_done ?_
      simp only [calmQ]
      go_wp2_with (first | ((first | (with_reducible refine wpl_seal S ?_) | (with_reducible refine cw_seal S ?_) | (with_reducible refine bp_seal S ?_) | (with_reducible refine ca_seal S ?_)); clear S; (try clear hc); intro w1 S; (try simp only [List.set_cons_zero, List.set_cons_succ, List.nil_append] at S); have hc := S.cells; simp only [Cells, cellsC, Im, Row, El, RTH, Nat.zero_add, Nat.reduceAdd] at hc))
      go_roundw
      case rel =>
        have S1 := (S.sel [5, 0, 1, 8, 9] (by decide) rfl (by simp) : SH _ _ _ [_, _, _, _, _] _ _)
        exact ⟨k + 1, _, _, a5, d5, a6, d6, _, by omega, by go_num, ⟨HL2.out.symm⟩, ⟨HW2.out.symm⟩, hd5, hd6, ⟨by simpa only [List.length_append, List.length_cons, List.length_nil, Nat.zero_add, List.nil_append] using S1⟩⟩
      case measure => simp [intOf]; omega
    · have hlt' : decide ((k : Int) < own.length) = false := by simpa using hlt
      have hke : own.take k = own := List.take_of_length_le (by omega)
      rw [hke] at HL HW
      clear hke
      go_wp2_with (first | ((first | (with_reducible refine wpl_seal S ?_) | (with_reducible refine cw_seal S ?_) | (with_reducible refine bp_seal S ?_) | (with_reducible refine ca_seal S ?_)); clear S; (try clear hc); intro w1 S; (try simp only [List.set_cons_zero, List.set_cons_succ, List.nil_append] at S); have hc := S.cells; simp only [Cells, cellsC, Im, Row, El, RTH, Nat.zero_add, Nat.reduceAdd] at hc))
      refine bodyPost_ret (results_cell_row rfl _ _ _ 46 _ (0, 0) _ rfl (S.cel 3 rfl) Try.underlying46 rfl (by kernel_rfl)) rfl ?_
      rw [← HL.out]
      have S1 := (S.know (h := RTH _ L W) ⟨a1, d1, a2, d2, rfl, hd1, hd2, S.im 1 rfl, S.im 2 rfl⟩)
      rw [← HW.out]
      exact ⟨_, rfl, S1.ret 0 rfl⟩
theorem zstate_c (own told : List (List Int)) (n x : Nat) (A B : Option Addr) (c d : Nat) (w : World) (I : Fp) (hI : ∀ b, I b → b < w.heap.size) (hO : Sl kII w I A own) (hF : Few own) (hW : Sl kII w I B told) (ht : Told told n) (hx : x < n) (hn : told.length ≤ 1000) :
    Calls Try.prog 23 #[.slice A own.length c, .slice B told.length d, .int .i64 x] w fun e w' => e = .returned (.int .i64 (dpst (treeL own) (sinceL told x) (sinceL told x).length)) ∧ Ext w w' := by
  have S := ((SH.start w I hI).know (h := Im kII A own) hO).know (h := Im kII B told) hW
  have HF := As.mk hF
  have HTD := As.mk ht
  have hsl := sinceL_len told x
  have hps := As.mk (sinceL_pos (x := x) ht)
  have hb := treeL_small hF own.length (Nat.le_refl _)
  rw [List.take_length] at hb
  have hfl := hF.len
  have HLs : As (ShortW (treeL own)) := ⟨fun x hx => by have := hb.2 x hx; omega⟩
  have hbl : (treeL own).length ≤ 25 := by omega
  clear hO hW hF ht hb
  obtain ⟨zs, hzs⟩ : ∃ zs, sinceL told x = zs := ⟨_, rfl⟩
  have HZS := As.mk hzs
  rw [hzs] at hsl hps ⊢
  clear hzs
  have hc := S.cells; simp only [Cells, cellsC, Im, Row, El, RTH, Nat.zero_add, Nat.reduceAdd] at hc
  go_enter Try.func23, Try.ntmps23
  go_wp2_with (first | ((first | (with_reducible refine wpl_seal S ?_) | (with_reducible refine cw_seal S ?_) | (with_reducible refine bp_seal S ?_) | (with_reducible refine ca_seal S ?_)); clear S; (try clear hc); intro w1 S; (try simp only [List.set_cons_zero, List.set_cons_succ, List.nil_append] at S); have hc := S.cells; simp only [Cells, cellsC, Im, Row, El, RTH, Nat.zero_add, Nat.reduceAdd] at hc) | (go_at_call 38; refine (zsince_c told n x B d _ _ S.bd (S.im 0 rfl) HTD.out hx hn).mono ?_; rw [HZS.out]; rintro e w1 ⟨v, rfl, hu⟩; obtain ⟨I1, S1, hI1⟩ := S.new hu; clear S hu hI1; (try clear hc); have S := S1; clear S1; have hc := S.cells; simp only [Cells, cellsC, Im, Row, El, RTH, Nat.zero_add, Nat.reduceAdd] at hc; obtain ⟨A5, c5, I1, e1, hc5, S1, hI1⟩ := S.frow 0 rfl; subst e1; clear S hI1; have S := S1; clear S1; simp only [List.set_cons_zero, List.set_cons_succ, List.nil_append] at S; have hc := S.cells; simp only [Cells, cellsC, Im, Row, El, RTH, Nat.zero_add, Nat.reduceAdd] at hc) | (go_at_call 37; refine (zword_c zs A5 c5 _ _ S.bd (S.im 0 rfl) (by omega) hps.out).mono ?_; rintro e w1 ⟨v, rfl, hu⟩; obtain ⟨I1, S1, hI1⟩ := S.new hu; clear S hu hI1; (try clear hc); have S := S1; clear S1; have hc := S.cells; simp only [Cells, cellsC, Im, Row, El, RTH, Nat.zero_add, Nat.reduceAdd] at hc; obtain ⟨A6, c6, I1, e1, hc6, S1, hI1⟩ := S.frow 0 rfl; subst e1; clear S hI1; have S := S1; clear S1; simp only [List.set_cons_zero, List.set_cons_succ, List.nil_append] at S; have hc := S.cells; simp only [Cells, cellsC, Im, Row, El, RTH, Nat.zero_add, Nat.reduceAdd] at hc) | (go_at_call 24; refine (ztree_c own A c _ _ S.bd (S.im 3 rfl) HF.out).mono ?_; rintro e w1 ⟨v, rfl, hu⟩; obtain ⟨I1, S1, hI1⟩ := S.new hu; clear S hu hI1; (try clear hc); have S := S1; clear S1; have hc := S.cells; simp only [Cells, cellsC, Im, Row, El, RTH, Nat.zero_add, Nat.reduceAdd] at hc; obtain ⟨a5, d5, a6, d6, rfl, hd5, hd6, hs5, hs6⟩ := S.rt 0 rfl; replace S := S.know (h := Im kW a5 _) hs5; clear hc hs5 hs6; have hc := S.cells; simp only [Cells, cellsC, Im, Row, El, RTH, Nat.zero_add, Nat.reduceAdd] at hc) | (go_at_call 42; refine (deepest_c (treeL own) own zs zs.length a5 a6 A6 d5 d6 c6 _ _ _ (S.im 0 rfl) (S.im 2 rfl) hc6 (Nat.le_refl _) (by omega) HLs.out (by omega)).mono ?_; rintro e w1 ⟨rfl, hx⟩; replace S := S.ext hx; clear hx; (try clear hc); have hc := S.cells; simp only [Cells, cellsC, Im, Row, El, RTH, Nat.zero_add, Nat.reduceAdd] at hc))
  go_ret
  exact ⟨rfl, S.out⟩
end Go.Proofs.Ytpgphhkhjbhimaa
