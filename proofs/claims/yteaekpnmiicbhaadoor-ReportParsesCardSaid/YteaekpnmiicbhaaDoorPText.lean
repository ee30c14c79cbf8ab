/- Records' text, whole; the document's example. -/
import Derived.Test.YteaekpnmiicbhaaDoorPTxt2
namespace Go.Proofs.YteaekpnmiicbhaaDoor.X
open Go.RowKit
/-- texts -/
def Kd.str (ety : TypeId) : Kd (List UInt8) where
  ety := ety
  size := 1
  rel := fun _ _ x cs => cs = [strV x]
  keep := fun h _ => h
  weak := fun h _ => h
  len := fun h => by subst h; rfl
  one := fun h => by subst h; simp [strV, Value.oneCell']
theorem Sl.str_at {ety : TypeId} {w : World} {D : Nat → Prop} {A : Option Addr} {xs : List (List UInt8)} (h : Sl (Kd.str ety) w D A xs) {i : Nat} (hi : i < xs.length) :
    ∃ b o, A = some ⟨b, o, none⟩ ∧ w.cell? ⟨b, o + i, none⟩ = some (strV xs[i]) := by
  obtain ⟨b, o, cs, rfl, hb, hd, rfl, hl, hc⟩ := h i hi
  exact ⟨b, o, rfl, by simpa [Kd.str] using hc 0 _ rfl⟩
end Go.Proofs.YteaekpnmiicbhaaDoor.X
namespace Go.Proofs.YteaekpnmiicbhaaDoor
open Go.RowKit X
set_option maxHeartbeats 2000000
set_option maxRecDepth 8000
set_option linter.unusedSimpArgs false
set_option linter.unusedVariables false
abbrev kT : Kd (List UInt8) := Kd.str 9
theorem ty_strs : TyOk Tryd.prog 48 kT 16 := TyOk.mk' (size := 1) (z := .string ⟨#[]⟩) Tryd.underlying48 (by kernel_rfl) rfl rfl (by decide)
/-- a record's line -/
def line1 (x : R5) : List UInt8 := Lib.join (x.list.map fun v => decL v.toNat) [32] ++ [10]
def textR (l : List R5) : List UInt8 := l.flatMap line1
theorem decL_le {n : Nat} (h : n ≤ 4611686018427387903) : (decL n).length ≤ 19 := by
  unfold decL
  rw [List.length_reverse, List.length_map]
  exact digs_len 10 (by decide) 18 n (Nat.lt_of_le_of_lt h (by decide))
theorem join_s (ws : List (List UInt8)) (sep : List UInt8) (A : Option Addr) (c : Nat) (w : World) (D : Fp) (h : Sl kT w D A ws) (hc : ws.length ≤ c) (hne : ws ≠ []) (hn : ws.length ≤ 1000) (hlen : (Lib.join ws sep).length ≤ 1000000) :
    Calls Tryd.prog 25 #[.slice A ws.length c, strV sep] w fun e w' => e = .returned (strV (Lib.join ws sep)) ∧ Ext w w' := by
  obtain ⟨b, o, rfl, h0⟩ := h.str_at (i := 0) (List.length_pos_iff.2 hne)
  have e1 : (ws.map fun l => (⟨l.toArray⟩ : ByteArray)).length = ws.length := List.length_map _
  have e2 : ((ws.map fun l => (⟨l.toArray⟩ : ByteArray)).map (·.data.toList)) = ws := by
    rw [List.map_map]
    conv => rhs; rw [← List.map_id ws]
    exact List.map_congr_left fun x _ => by simp
  have := Tryd.strings_Join b o c (ws.map fun l => ⟨l.toArray⟩) ⟨sep.toArray⟩ w (fun j x hx => by
    rw [List.getElem?_map, Option.map_eq_some_iff] at hx
    obtain ⟨y, hy, rfl⟩ := hx
    obtain ⟨hj, rfl⟩ := List.getElem?_eq_some_iff.1 hy
    obtain ⟨b', o', e, hcell⟩ := h.str_at hj
    cases e
    exact hcell) (World.block_lt_of_cell? w _ h0) (by rw [e1]; omega) (by rw [e1]; exact hc) (by rw [e2]; simp; omega)
  rw [e1, e2] at this
  simpa using this
theorem join_le (ws : List (List UInt8)) (sep : List UInt8) (n : Nat) (h : ∀ x ∈ ws, x.length ≤ n) : (Lib.join ws sep).length ≤ ws.length * (n + sep.length) := by
  unfold Lib.join List.intercalate
  induction ws with
  | nil => simp
  | cons x r ih =>
    have hx := h x List.mem_cons_self
    have hr := ih fun y hy => h y (List.mem_cons_of_mem _ hy)
    cases r with
    | nil => simp; omega
    | cons y r' =>
      simp only [List.intersperse_cons_cons, List.flatten_cons, List.length_append, List.length_cons] at hr ⊢
      rw [Nat.add_mul, Nat.one_mul]
      omega
theorem line1_le {x : R5} (h : ∀ v ∈ x.list, okN v) : (line1 x).length ≤ 101 := by
  unfold line1
  have h5 : ∀ v ∈ x.list, (decL v.toNat).length ≤ 19 := fun v hv => decL_le (by have := h v hv; unfold okN at this; omega)
  have := join_le (x.list.map fun v => decL v.toNat) [32] 19 (by intro y hy; rw [List.mem_map] at hy; obtain ⟨v, hv, rfl⟩ := hy; exact h5 v hv)
  rw [List.length_map] at this
  have h7 : (Lib.join (x.list.map fun v => decL v.toNat) [32]).length ≤ 5 * 20 := this
  rw [List.length_append]
  simp only [List.length_cons, List.length_nil]
  omega
theorem str_app (a b : List UInt8) : (⟨a.toArray⟩ ++ ⟨b.toArray⟩ : ByteArray) = ⟨(a ++ b).toArray⟩ := by
  apply ByteArray.ext
  simp
theorem idx5 (y : R5) (m : Nat) (hm : m < 5) (q : Int) (hq : y.list[m]? = some q) (w : World) : (Instr.index 60 (.agg #[.int .i64 y.i, .int .i64 y.b, .int .i64 y.r, .int .i64 y.t, .int .i64 y.u]) (.int .i64 (m : Int))).run Tryd.prog w = .ok (.int .i64 q) w := by
  rcases m with _ | _ | _ | _ | _ | m
  · cases hq; rfl
  · cases hq; rfl
  · cases hq; rfl
  · cases hq; rfl
  · cases hq; rfl
  · omega
theorem builder_of {I0 I : Fp} {w0 w : World} {O : List Ob} {gb : Nat} {p v : Value} {xs : List UInt8} (S : SH No I0 w0 O w I) (i k : Nat) (hik : i ≠ k) (e : O[i]? = some (Cel gb 59 [p, v])) (hp : p = .pointer none ∨ p = .pointer (some ⟨gb, 0, none⟩)) (ek : O[k]? = some (Row kB v xs)) :
    Lib.IsBuilder 59 5 w0.heap.size gb (Lib.byteCells xs) w := by
  obtain ⟨c, bd, ini, Fs, h1, h2, h3⟩ := S
  obtain ⟨hh, hF⟩ := h1 i _ e
  obtain ⟨⟨cells, ⟨ho, hn⟩, hf⟩, hF2⟩ := h1 k _ ek
  rw [Flat.u8] at hf
  subst hf
  have hB : w0.heap.size ≤ gb := (h2 i gb hF).2.1.resolve_left id
  have hrow : w.ownsRow w0.heap.size 5 1 v (Lib.byteCells xs).length (Lib.byteCells xs) := by
    rw [Lib.byteCells_length]
    refine ⟨ho.1, ?_⟩
    rcases ho.2 with h | ⟨g, cap, cur, rfl, _, r⟩
    · exact .inl h
    · exact .inr ⟨g, cap, cur, rfl, (h2 k g (hF2 g rfl)).2.1.resolve_left id, r⟩
  have hne : v.ownBlock ≠ some gb := fun hv => h3 i k gb hik hF (hF2 gb hv)
  rcases hp with rfl | rfl
  · exact .inl ⟨hB, v, hh, hrow, hne⟩
  · exact .inr ⟨hB, v, hh, hrow, hne⟩
theorem text_c (l : List R5) (A : Option Addr) (c : Nat) (w : World) (I : Fp) (hI : ∀ b, I b → b < w.heap.size) (hl : Sl kC w I A l) (hn : l.length ≤ 1000) :
    Calls Tryd.prog 7 #[.slice A l.length c] w fun e w' => e = .returned (.tuple #[strV (if oddR l then [] else textR l), .int .i64 (if oddR l then 1 else 0)]) ∧ Ext w w' := by
  have S := (SH.start w I hI).know (h := Im kC A l) hl
  clear hl
  by_cases ho : oddR l = true
  · have HO := As.mk ho
    rw [if_pos ho, if_pos ho]
    clear ho
    have hc := S.cells; simp only [Cells, cellsC, Im, Row, El, Nat.zero_add, Nat.reduceAdd] at hc
    go_enter Tryd.func7, Tryd.ntmps7
    go_wp2_with (first | ((first | (with_reducible refine wpl_seal S ?_) | (with_reducible refine cw_seal S ?_) | (with_reducible refine bp_seal S ?_) | (with_reducible refine ca_seal S ?_)); clear S; (try clear hc); intro w1 S; (try simp only [List.set_cons_zero, List.set_cons_succ, List.nil_append] at S); have hc := S.cells; simp only [Cells, cellsC, Im, Row, El, Nat.zero_add, Nat.reduceAdd] at hc) | (go_at_call 21; refine (odd_c l A c _ _ S.bd (S.im 0 rfl) hn).mono ?_; rw [HO.out]; rintro e w1 ⟨rfl, hx⟩; replace S := S.ext hx; clear hx; (try clear hc); have hc := S.cells; simp only [Cells, cellsC, Im, Row, El, Nat.zero_add, Nat.reduceAdd] at hc))
    go_ret2
    exact ⟨rfl, S.out⟩
  · have hof : oddR l = false := by simpa using ho
    have HO := As.mk hof
    have HM : As (∀ x ∈ l, mayR x = true) := ⟨fun x hx => by
      unfold oddR at hof
      rw [List.any_eq_false] at hof
      simpa using hof x hx⟩
    rw [if_neg ho, if_neg ho]
    clear ho hof
    have hc := S.cells; simp only [Cells, cellsC, Im, Row, El, Nat.zero_add, Nat.reduceAdd] at hc
    go_enter Tryd.func7, Tryd.ntmps7
    go_wp2_with (first | ((first | (with_reducible refine wpl_seal S ?_) | (with_reducible refine cw_seal S ?_) | (with_reducible refine bp_seal S ?_) | (with_reducible refine ca_seal S ?_)); clear S; (try clear hc); intro w1 S; (try simp only [List.set_cons_zero, List.set_cons_succ, List.nil_append] at S); have hc := S.cells; simp only [Cells, cellsC, Im, Row, El, Nat.zero_add, Nat.reduceAdd] at hc) | (go_at_call 21; refine (odd_c l A c _ _ S.bd (S.im 0 rfl) hn).mono ?_; rw [HO.out]; rintro e w1 ⟨rfl, hx⟩; replace S := S.ext hx; clear hx; (try clear hc); have hc := S.cells; simp only [Cells, cellsC, Im, Row, El, Nat.zero_add, Nat.reduceAdd] at hc))
    obtain ⟨gb, egb⟩ := S.name 0 rfl; rw [← egb] at S ⊢; clear egb
    have S1 := S.nilrow (k := kB)
    clear S hc
    go_loopw [14] (fun i w' => ∃ (k : Nat) (p v : Value), k ≤ l.length ∧ i = .int .i64 k ∧ (p = .pointer none ∨ p = .pointer (some ⟨gb, 0, none⟩)) ∧ ∃ I', As (SH No I w [Cel gb 59 [p, v], Row kB v (textR (l.take k)), Im kC A l] w' I')) (fun i _ => l.length - (intOf i).toNat)
    case atStart => exact ⟨0, _, _, by omega, rfl, .inl rfl, _, ⟨S1.sel [1, 0, 2] (by decide) rfl (by simp)⟩⟩
    case round =>
      clear S1
      obtain ⟨k, p, v, hk, rfl, hp, I', ⟨S⟩⟩ := hrel
      by_cases hlt : k < l.length
      · have hlt' : decide ((k : Int) < l.length) = true := by simp; omega
        obtain ⟨b, o, rfl, g0, g1, g2, g3, g4⟩ := (S.im 2 rfl).r5_at hlt
        have HP := As.mk hp
        have HOK : As (∀ v ∈ (l[k]).list, okN v) := ⟨mayR_ok (HM.out _ (List.getElem_mem hlt))⟩
        have HT : As (textR (l.take (k + 1)) = textR (l.take k) ++ line1 l[k]) := ⟨by rw [List.take_succ_eq_append_getElem hlt]; unfold textR; rw [List.flatMap_append]; simp⟩
        generalize l[k] = y at g0 g1 g2 g3 g4 HT HOK
        have hyl : (textR (l.take k)).length ≤ 101000 := by
          have := flat_le (f := line1) (b := 101) (l.take k) fun x hx => line1_le (mayR_ok (HM.out x (List.mem_of_mem_take hx)))
          rw [List.length_take] at this
          unfold textR
          omega
        generalize textR (l.take k) = ys at S HT hyl
        clear hp
        have hc := S.cells; simp only [Cells, cellsC, Im, Row, El, Nat.zero_add, Nat.reduceAdd] at hc
        go_wp2_with (first | ((first | (with_reducible refine wpl_seal S ?_) | (with_reducible refine cw_seal S ?_) | (with_reducible refine bp_seal S ?_) | (with_reducible refine ca_seal S ?_)); clear S; (try clear hc); intro w1 S; (try simp only [List.set_cons_zero, List.set_cons_succ, List.nil_append] at S); have hc := S.cells; simp only [Cells, cellsC, Im, Row, El, Nat.zero_add, Nat.reduceAdd] at hc) | (go_at_call 22; refine (pnumb_c y _).mono ?_; dsimp only [R5.v]; rintro e w1 ⟨rfl, hx⟩; replace S := S.ext hx; clear hx; (try clear hc); have hc := S.cells; simp only [Cells, cellsC, Im, Row, El, Nat.zero_add, Nat.reduceAdd] at hc))
        have S1 := S.nilrow (k := kT)
        clear S hc g0 g1 g2 g3 g4
        go_loopw [7, 20] (fun ws j w' => ∃ (m : Nat), m ≤ 5 ∧ j = .int .i64 m ∧ ∃ I', As (SH No I w [Row kT ws ((y.list.take m).map fun v => decL v.toNat), Cel gb 59 [p, v], Row kB v ys, Im kC (some ⟨b, o, none⟩) l] w' I')) (fun _ j _ => 5 - (intOf j).toNat)
        case atStart => exact ⟨0, by omega, rfl, _, ⟨S1.sel [0, 2, 3, 4] (by decide) rfl (by simp)⟩⟩
        case round =>
          clear S1
          obtain ⟨m, hm, rfl, I', ⟨S⟩⟩ := hrel
          by_cases hm5 : m < 5
          · have hm5' : decide ((m : Int) < 5) = true := by simp; omega
            have hml : m < y.list.length := hm5
            obtain ⟨q, hq⟩ : ∃ q : Nat, y.list[m] = q := ⟨y.list[m].toNat, by have := (HOK.out _ (List.getElem_mem hml)).1; omega⟩
            have hq2 : q ≤ 4611686018427387903 := by have := (HOK.out _ (List.getElem_mem hml)).2; omega
            have HT2 : As ((y.list.take (m + 1)).map (fun v => decL v.toNat) = (y.list.take m).map (fun v => decL v.toNat) ++ [decL q]) := ⟨by rw [List.take_succ_eq_append_getElem hml, List.map_append, hq]; rfl⟩
            have hix := idx5 y m hm5 q (by rw [List.getElem?_eq_getElem hml, hq])
            have hl2 : ((y.list.take m).map fun v => decL v.toNat).length ≤ 5 := by rw [List.length_map, List.length_take]; omega
            generalize (y.list.take m).map (fun v => decL v.toNat) = us at S HT2 hl2
            clear hq
            have hc := S.cells; simp only [Cells, cellsC, Im, Row, El, Nat.zero_add, Nat.reduceAdd] at hc
            go_wp2_with (first | ((first | (with_reducible refine wpl_seal S ?_) | (with_reducible refine cw_seal S ?_) | (with_reducible refine bp_seal S ?_) | (with_reducible refine ca_seal S ?_)); clear S; (try clear hc); intro w1 S; (try simp only [List.set_cons_zero, List.set_cons_succ, List.nil_append] at S); have hc := S.cells; simp only [Cells, cellsC, Im, Row, El, Nat.zero_add, Nat.reduceAdd] at hc) | (go_at_call 23; refine (decimal_c q (by omega) _ _ S.bd).mono ?_; generalize decL q = dq at HT2; rintro e w1 ⟨rfl, hx⟩; replace S := S.ext hx; clear hx; (try clear hc); have hc := S.cells; simp only [Cells, cellsC, Im, Row, El, Nat.zero_add, Nat.reduceAdd] at hc) | (at_builtin; refine wpl_push S 1 rfl rfl _ _ rfl ty_strs rfl dq _ _ rfl [_] _ (S.cel 0 rfl) rfl (by (try simp only [maxLen, List.length_nil, List.length_append, List.length_cons]); omega) (by (try simp only [maxLen, List.length_nil, List.length_append, List.length_cons]); omega) ?_; clear S; (try clear hc); intro va w1 S; simp only [List.set_cons_zero, List.set_cons_succ, List.nil_append] at S; have hc := S.cells; simp only [Cells, cellsC, Im, Row, El, Nat.zero_add, Nat.reduceAdd] at hc))
            go_roundw
            case rel => exact ⟨m + 1, by omega, by go_num, _, ⟨by rw [HT2.out]; exact (S.sel [1, 2, 3, 4] (by decide) rfl (by simp) : SH _ _ _ [_, _, _, _] _ _)⟩⟩
            case measure => simp [intOf]; omega
          · have hm5' : decide ((m : Int) < 5) = false := by simp; omega
            obtain rfl : m = 5 := by omega
            rw [show y.list.take 5 = y.list from rfl] at S
            obtain ⟨us, hus⟩ : ∃ us, y.list.map (fun v => decL v.toNat) = us := ⟨_, rfl⟩
            have hul : us.length = 5 := by rw [← hus]; rfl
            obtain ⟨js, hjs⟩ : ∃ js, Lib.join us [32] = js := ⟨_, rfl⟩
            have HJ := As.mk hjs
            have HL : As (line1 y = js ++ [10]) := ⟨by unfold line1; rw [hus, hjs]⟩
            have hjl : js.length ≤ 5 * 20 := by
              rw [← hjs, ← hus]
              have h5 : ∀ v ∈ y.list, (decL v.toNat).length ≤ 19 := fun v hv => decL_le (by have := HOK.out v hv; unfold okN at this; omega)
              have := join_le (y.list.map fun v => decL v.toNat) [32] 19 (by intro x hx; rw [List.mem_map] at hx; obtain ⟨v, hv, rfl⟩ := hx; exact h5 v hv)
              rw [List.length_map] at this
              exact this
            rw [hus] at S
            clear hus hjs
            have HUL := As.mk hul
            obtain ⟨Aw, cw, rfl, hcw, hsw⟩ := S.row 0 rfl
            have HSW := As.mk hsw
            have hne : us ≠ [] := by rintro rfl; simp at hul
            clear hul hsw
            have hc := S.cells; simp only [Cells, cellsC, Im, Row, El, Nat.zero_add, Nat.reduceAdd] at hc
            go_wp2_with (first | ((first | (with_reducible refine wpl_seal S ?_) | (with_reducible refine cw_seal S ?_) | (with_reducible refine bp_seal S ?_) | (with_reducible refine ca_seal S ?_)); clear S; (try clear hc); intro w1 S; (try simp only [List.set_cons_zero, List.set_cons_succ, List.nil_append] at S); have hc := S.cells; simp only [Cells, cellsC, Im, Row, El, Nat.zero_add, Nat.reduceAdd] at hc) | (go_at_call 25; refine (join_s us [32] Aw cw _ _ HSW.out hcw hne (by rw [HUL.out]; decide) (by rw [HJ.out]; omega)).mono ?_; rw [HJ.out]; rintro e w1 ⟨rfl, hx⟩; replace S := S.ext hx; clear hx; (try clear hc); have hc := S.cells; simp only [Cells, cellsC, Im, Row, El, Nat.zero_add, Nat.reduceAdd] at hc) | (go_at_call 24; rw [show (⟨js.toArray⟩ ++ ⟨#[10]⟩ : ByteArray) = ⟨(js ++ [10]).toArray⟩ from str_app js [10]]; refine (writeS_s S 1 2 (by decide) rfl HP.out rfl (js ++ [10]) (by rw [List.length_append]; simp only [List.length_cons, List.length_nil]; omega)).mono ?_; clear S hc; rintro e w1 ⟨v2, rfl, S⟩; simp only [List.set_cons_zero, List.set_cons_succ, List.nil_append] at S; have hc := S.cells; simp only [Cells, cellsC, Im, Row, El, Nat.zero_add, Nat.reduceAdd] at hc))
            go_roundw
            case rel => exact ⟨k + 1, .pointer (some ⟨gb, 0, none⟩), v2, by omega, by go_num, .inr rfl, _, ⟨by rw [HT.out, HL.out]; exact (S.sel [1, 2, 3] (by decide) rfl (by simp) : SH _ _ _ [_, _, _] _ _)⟩⟩
            case measure => simp [intOf]; omega
      · have hlt' : decide ((k : Int) < l.length) = false := by simp; omega
        obtain rfl : k = l.length := by omega
        rw [List.take_length] at S
        have hc := S.cells; simp only [Cells, cellsC, Im, Row, El, Nat.zero_add, Nat.reduceAdd] at hc
        have hbi := builder_of S 0 1 (by decide) rfl hp rfl
        go_wp2_with (first | ((first | (with_reducible refine wpl_seal S ?_) | (with_reducible refine cw_seal S ?_) | (with_reducible refine bp_seal S ?_) | (with_reducible refine ca_seal S ?_)); clear S; (try clear hc); intro w1 S; (try simp only [List.set_cons_zero, List.set_cons_succ, List.nil_append] at S); have hc := S.cells; simp only [Cells, cellsC, Im, Row, El, Nat.zero_add, Nat.reduceAdd] at hc) | (go_at_call 26; refine (Tryd.Builder_String_any _ gb (textR l) _ hbi S.size).mono ?_; have hx0 := S.out; clear S hc hbi; rintro e w1 ⟨rfl, hx⟩))
        go_ret2
        exact ⟨rfl, hx0.trans hx⟩
end Go.Proofs.YteaekpnmiicbhaaDoor
