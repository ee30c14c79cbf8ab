/- The automaton of a tree, made. -/
import Derived.Test.YtpgphhkhjbhimaaAutC
import Derived.Test.YtpgphhkhjbhimaaOwn3
import Derived.Shelf.Abstract
namespace Go.Proofs.Ytpgphhkhjbhimaa
open Go.RowKit Go.Shelf X
set_option maxHeartbeats 4000000
set_option maxRecDepth 8000
set_option linter.unusedSimpArgs false
set_option linter.unusedVariables false
attribute [local go_sem] Oper.semAt_some
abbrev zero4 : S4 := ⟨.slice none 0 0, .int .i64 0, .int .i64 0, .slice none 0 0⟩
theorem ty_aedges : TyOk Try.prog 93 kAE 16 := TyOk.mk' Try.underlying93 (z := .agg #[.int .u64 0, .int .i64 0]) (size := 2) (by kernel_rfl) rfl rfl (by omega)
/-- the cells of states xs read as l -/
def Kn (xs : List S4) (l : List Sn) : Ob := .of {
  sat := fun w _ I => xs.length = l.length ∧ ∀ (i : Nat) (h : i < xs.length) (h' : i < l.length), kS.rel w I l[i] (enc4 xs[i])
  keep := fun ⟨e, h⟩ hk => ⟨e, fun i a b => kS.keep (h i a b) fun b hb hd => hk b hb (.inr hd)⟩
  weak := fun ⟨e, h⟩ _ hi _ => ⟨e, fun i a b => kS.weak (h i a b) hi⟩ }
/-- a tree that the call owns, its nodes at a fixed place -/
def TRx (b : Nat) (A : Option Addr) (c : Nat) (l : List Nd) (L W : List (List Int)) : Ob := .of {
  sat := fun w F _ => ∃ ws vw ns, OwnR w F b (.slice A l.length c) vw ns l ws ∧ St l ws L W
  keep := fun ⟨ws, vw, ns, h, s⟩ hk => ⟨ws, vw, ns, h.keep fun b hb hf => hk b hb (.inl hf), s⟩
  weak := fun ⟨ws, vw, ns, h, s⟩ hf _ _ => ⟨ws, vw, ns, h.weak hf, s⟩ }
section
variable {F0 I0 I : Fp} {w0 w : World} {O : List Ob} {L W : List (List Int)} {b : Nat}
theorem X.SH.toTRx (S : SH F0 I0 w0 O w I) (i : Nat) (e : O[i]? = some (TR b L W)) : ∃ x : Option Addr × Nat × List Nd, SH F0 I0 w0 (O.set i (TRx b x.1 x.2.1 x.2.2 L W)) w I := by
  refine S.pick i e fun F ⟨l, ws, ⟨vn, vw, ns, h⟩, s⟩ => ?_
  obtain ⟨A, c, hv, _, _⟩ := h.row.sl
  subst hv
  rw [h.len] at h
  exact ⟨⟨A, c, l⟩, ws, vw, ns, h, s⟩
theorem X.SH.ofTRx {A : Option Addr} {c : Nat} {l : List Nd} (S : SH F0 I0 w0 O w I) (i : Nat) (e : O[i]? = some (TRx b A c l L W)) : SH F0 I0 w0 (O.set i (TR b L W)) w I :=
  S.updI i e fun F ⟨ws, vw, ns, h, s⟩ hb => ⟨F, ⟨l, ws, ⟨_, vw, ns, h⟩, s⟩, fun k hk => ⟨(hb k hk).1, .inl hk⟩, Chg.refl _ _⟩
theorem X.SH.rdx {A : Option Addr} {c : Nat} {l : List Nd} (S : SH F0 I0 w0 O w I) (i : Nat) (e : O[i]? = some (TRx b A c l L W)) : RdA w Any b A c l ∧ ∃ ws, St l ws L W := by
  obtain ⟨F, ⟨ws, vw, ns, h, s⟩, _⟩ := S.get i e
  obtain ⟨A1, c1, A2, c2, hh, hb, hc, hs, _, _⟩ := h.rdF
  have e1 := h.at_.symm.trans hh
  injection e1 with e1
  injection e1 with e1 _ _
  have e2 : Value.slice A l.length c = .slice A1 l.length c1 := by
    have := congrArg (fun x : Array Value => x[0]?) e1
    simpa using this
  cases e2
  exact ⟨⟨⟨_, h.at_⟩, trivial, hs.any⟩, ws, s⟩
/-- the states are those that are read -/
theorem X.SH.close4 {v : Value} {xs : List S4} {l : List Sn} (S : SH F0 I0 w0 O w I) (i j : Nat) (e : O[i]? = some (Row (k4 95) v xs)) (ej : O[j]? = some (Kn xs l)) : SH F0 I0 w0 (O.set i (Row kS v l)) w I := by
  obtain ⟨_, ⟨h1, h2⟩, _⟩ := S.get j ej
  refine S.updI i e fun F ⟨⟨cells, ⟨ho, hnd⟩, hf⟩, hF⟩ hb => ⟨F, ⟨⟨cells, ⟨by rw [← h1]; exact ho, hnd⟩, ⟨by rw [← h1]; exact hf.1, fun m hm => ?_⟩⟩, hF⟩, fun k' hk => ⟨(hb k' hk).1, .inl hk⟩, Chg.refl _ _⟩
  have hm' : m < xs.length := by rw [h1]; exact hm
  have h4 := h2 m hm' hm
  show kS.rel w I l[m] ((cells.drop (m * 4)).take 4)
  have h5 : (cells.drop (m * 4)).take 4 = enc4 xs[m] := (hf.2 m hm').1
  rw [h5]
  exact h4
theorem X.SH.rdS {A : Option Addr} {n c g : Nat} {l : List Sn} (S : SH F0 I0 w0 O w I) (i j : Nat) (hn : l.length = n) (e : O[i]? = some (Cel g 91 [.slice A n c])) (ej : O[j]? = some (Row kS (.slice A n c) l)) : RdS w Any g l := by
  obtain ⟨A1, c1, e1, h1, h2⟩ := S.row j ej
  injection e1 with e1 e2 e3
  subst e1 e3
  exact ⟨A, c, by rw [hn]; exact S.cel i e, trivial, h1, h2.any⟩
end
/-! ### a state's fall and link are written -/
instance (k n : Nat) (l : List Sn) (y : Sn) [h : KLt k l.length] : KLt k (l.set n y).length := ⟨by rw [List.length_set]; exact h.out⟩
class SetS (L : List Ob) (b k j : Nat) (z : Int) (L' : outParam (List Ob)) : Prop where
  out : ∃ m n c xs, L[m]? = some (Row kS (.slice (some ⟨b, 0, none⟩) n c) xs) ∧ ∃ h : k < xs.length, L' = L.set m (Row kS (.slice (some ⟨b, 0, none⟩) n c) (xs.set k (if j = 1 then { xs[k] with fall := z } else { xs[k] with link := z })))
instance (b n c k : Nat) (z : Int) (xs : List Sn) (L : List Ob) [h : KLt k xs.length] : SetS (Row kS (.slice (some ⟨b, 0, none⟩) n c) xs :: L) b k 1 z (Row kS (.slice (some ⟨b, 0, none⟩) n c) (xs.set k { (xs[k]'h.out) with fall := z }) :: L) := ⟨0, n, c, xs, rfl, h.out, rfl⟩
instance (b n c k : Nat) (z : Int) (xs : List Sn) (L : List Ob) [h : KLt k xs.length] : SetS (Row kS (.slice (some ⟨b, 0, none⟩) n c) xs :: L) b k 2 z (Row kS (.slice (some ⟨b, 0, none⟩) n c) (xs.set k { (xs[k]'h.out) with link := z }) :: L) := ⟨0, n, c, xs, rfl, h.out, rfl⟩
instance (priority := 500) (b k j : Nat) (z : Int) (o : Ob) (L L' : List Ob) [h : SetS L b k j z L'] : SetS (o :: L) b k j z (o :: L') := by
  obtain ⟨m, n, c, xs, h1, h2, h4⟩ := h.out
  exact ⟨m + 1, n, c, xs, by simpa using h1, h2, by rw [h4]; rfl⟩
theorem X.SH.setS {F0 I0 I : Fp} {w0 w : World} {O L' : List Ob} {b k j : Nat} {z : Int} (s : SH F0 I0 w0 O w I) [h : SetS O b k j z L'] (hj : j = 1 ∨ j = 2) : SH F0 I0 w0 L' (w.setCell ⟨b, k * 4 + j, none⟩ (.int .i64 z)) I := by
  obtain ⟨m, n, c, xs, h1, h2, rfl⟩ := h.out
  refine s.putK m h1 k j h2 (by show j < 4; omega) _ _ ?_
  rintro cs ⟨A, c1, A', c2, rfl, a1, a2, a3, a4⟩
  rcases hj with rfl | rfl
  · rw [if_pos rfl]; exact ⟨A, c1, A', c2, rfl, a1, a2, a3, a4⟩
  · rw [if_neg (by omega)]; exact ⟨A, c1, A', c2, rfl, a1, a2, a3, a4⟩
instance (w : World) (L : List Ob) (b k : Nat) (z : Int) (W : World) (L' L2 : List Ob) [h : Built w L W L'] [g : SetS L' b k 1 z L2] : Built1 w L (W.setCell ⟨b, k * 4 + 1, none⟩ (.int .i64 z)) L2 := ⟨fun s => (h.out s).setS (j := 1) (.inl rfl)⟩
instance (w : World) (L : List Ob) (b k : Nat) (z : Int) (W : World) (L' L2 : List Ob) [h : Built w L W L'] [g : SetS L' b k 2 z L2] : Built1 w L (W.setCell ⟨b, k * 4 + 2, none⟩ (.int .i64 z)) L2 := ⟨fun s => (h.out s).setS (j := 2) (.inr rfl)⟩
class HasS (L : List Ob) (g n c : outParam Nat) (xs : outParam (List Sn)) : Prop where
  out : ∃ m : Nat, L[m]? = some (Row kS (.slice (some ⟨g, 0, none⟩) n c) xs)
instance (g n c : Nat) (xs : List Sn) (L : List Ob) : HasS (Row kS (.slice (some ⟨g, 0, none⟩) n c) xs :: L) g n c xs := ⟨0, rfl⟩
instance (priority := 500) (g n c : Nat) (xs : List Sn) (o : Ob) (L : List Ob) [h : HasS L g n c xs] : HasS (o :: L) g n c xs := ⟨by obtain ⟨m, e⟩ := h.out; exact ⟨m + 1, by simpa using e⟩⟩
theorem X.SH.atS {F0 I0 I : Fp} {w0 w : World} {O : List Ob} {g n c : Nat} {xs : List Sn} (s : SH F0 I0 w0 O w I) [h : HasS O g n c xs] (i : Nat) (hi : i < xs.length) :
    w.cell? ⟨g, i * 4 + 1, none⟩ = some (.int .i64 xs[i].fall) ∧ w.cell? ⟨g, i * 4 + 2, none⟩ = some (.int .i64 xs[i].link) ∧ (∃ A2 c2, w.cell? ⟨g, i * 4 + 3, none⟩ = some (.slice A2 xs[i].words.length c2)) ∧ ∀ j, w.frozen? ⟨g, j, none⟩ = false := by
  obtain ⟨m, e⟩ := h.out
  have ho := s.own m e
  obtain ⟨A, c', e, _, hs⟩ := ho.sl
  obtain ⟨b, o, A1, c1, A2, c2, hA, -, h2, h3, h4, -, -⟩ := kS_at hs hi
  cases e
  cases hA
  simp only [Nat.zero_add] at h2 h3 h4
  exact ⟨h2, h3, ⟨A2, c2, h4⟩, fun j => ho.not_frozen j⟩
theorem X.SH.knSet {F0 I0 I : Fp} {w0 w : World} {O : List Ob} {xs : List S4} {l : List Sn} (S : SH F0 I0 w0 O w I) (i : Nat) (e : O[i]? = some (Kn xs l)) (k : Nat) (y : S4) (s : Sn) (hr : kS.rel w I s (enc4 y)) : SH F0 I0 w0 (Kn (xs.set k y) (l.set k s) :: O) w I := by
  obtain ⟨F, ⟨h1, h2⟩, _⟩ := S.get i e
  refine S.know ⟨by rw [List.length_set, List.length_set, h1], fun j h h' => ?_⟩
  by_cases hjk : k = j
  · subst hjk; rw [List.getElem_set_self, List.getElem_set_self]; exact hr
  · rw [List.getElem_set_ne hjk, List.getElem_set_ne hjk]; exact h2 j (by simpa using h) (by simpa using h')
/-- the root, and what has been told -/
def inPre (pre : List Nat) (i : Nat) : Prop := i = 0 ∨ i ∈ pre
theorem AOk.put {l : List Sn} {L W : List (List Int)} {pre : List Nat} (h : AOk l L W (inPre pre)) {x : Nat} (hx : x < l.length) : AOk (l.set x ⟨l[x].kids, fallR L x, linkR L W x, l[x].words⟩) L W (inPre (pre ++ [x])) := by
  have key : ∀ i, i ≠ x → (i = 0 ∨ i ∈ pre ++ [x]) → (i = 0 ∨ i ∈ pre) := fun i hix hF => by
    rcases hF with e | e
    · exact .inl e
    · rcases List.mem_append.1 e with e | e
      · exact .inr e
      · exact absurd (List.mem_singleton.1 e) hix
  refine ⟨by rw [List.length_set]; exact h.len, fun i hi => ?_, fun i hi => ?_, fun i hi hF => ?_, fun i hi hF => ?_, h.srt⟩ <;> rw [List.length_set] at hi <;> by_cases hix : i = x
  · subst hix; rw [List.getElem_set_self]; exact h.kids i hx
  · rw [List.getElem_set_ne (fun e => hix e.symm)]; exact h.kids i hi
  · subst hix; rw [List.getElem_set_self]; exact h.words i hx
  · rw [List.getElem_set_ne (fun e => hix e.symm)]; exact h.words i hi
  · subst hix; rw [List.getElem_set_self]
  · rw [List.getElem_set_ne (fun e => hix e.symm)]; exact h.fall i hi (key i hix hF)
  · subst hix; rw [List.getElem_set_self]
  · rw [List.getElem_set_ne (fun e => hix e.symm)]; exact h.link i hi (key i hix hF)
theorem AOk.all {l : List Sn} {L W : List (List Int)} {B : Nat} (h : AOk l L W (inPre (lvL L B))) (hG : GoodR L W) (hB : ∀ x ∈ L, x.length ≤ B) : AOk l L W (fun _ => True) := by
  have key : ∀ i, i < l.length → i = 0 ∨ i ∈ lvL L B := fun i hi => by
    rw [h.len] at hi
    rcases Nat.eq_zero_or_pos i with e | e
    · exact .inl e
    · have := hG.dp1 hB i e hi
      exact .inr (lvU_in hi this.1 this.2)
  exact ⟨h.len, h.kids, h.words, fun i hi _ => h.fall i hi (key i hi), fun i hi _ => h.link i hi (key i hi), h.srt⟩
theorem AOk.one {l : List Sn} {L W : List (List Int)} {pre : List Nat} (h : AOk l L W (inPre pre)) {x : Nat} (hx : x < l.length) (z : Int) : AOk (l.set x { l[x] with fall := z }) L W (fun i => inPre pre i ∧ i ≠ x) := by
  refine ⟨by rw [List.length_set]; exact h.len, fun i hi => ?_, fun i hi => ?_, fun i hi hF => ?_, fun i hi hF => ?_, h.srt⟩ <;> rw [List.length_set] at hi
  · by_cases hix : i = x
    · subst hix; rw [List.getElem_set_self]; exact h.kids i hx
    · rw [List.getElem_set_ne (fun e => hix e.symm)]; exact h.kids i hi
  · by_cases hix : i = x
    · subst hix; rw [List.getElem_set_self]; exact h.words i hx
    · rw [List.getElem_set_ne (fun e => hix e.symm)]; exact h.words i hi
  · rw [List.getElem_set_ne (fun e => hF.2 e.symm)]; exact h.fall i hi hF.1
  · rw [List.getElem_set_ne (fun e => hF.2 e.symm)]; exact h.link i hi hF.1
def MN (b gt gA gS g gT : Nat) (At : Option Addr) (ct : Nat) (lt : List Nd) (L W : List (List Int)) (pre : List Nat) (L' : List Ob) (I' : Fp) : Prop :=
  ∃ l, As (AOk l L W (inPre pre)) ∧ L' = [Cel gt 54 [.pointer (some ⟨b, 0, none⟩)], Cel gA 61 [.pointer (some ⟨gS, 0, none⟩)], Cel gS 91 [.slice (some ⟨g, 0, none⟩) L.length L.length], Row kS (.slice (some ⟨g, 0, none⟩) L.length L.length) l, Cel gT 54 [.pointer (some ⟨b, 0, none⟩)], TRx b At ct lt L W]
theorem anew_c (b : Nat) (L W : List (List Int)) (w : World) (F I : Fp) (hI : ∀ b, I b → b < w.heap.size) (S : SH F I w [TR b L W] w I) (hL : L.length ≤ 100000) (hW : W.length ≤ 1000000) (hNE : NeW W) (B : Nat) (hB : ∀ x ∈ L, x.length ≤ B) (hB1 : B ≤ 1000) :
    Calls Try.prog 32 #[.pointer (some ⟨b, 0, none⟩)] w fun e w' => ∃ a, e = .returned (.pointer (some ⟨a, 0, none⟩)) ∧ Upd w F I w' (Two (TR b L W) (AU a L W)) := by
  have hc := S.cells; simp only [Cells, cellsC, Im, Row, El, RTH, TreeH, TR, AU, AL, Kn, TRx, Rec, Two, Nat.zero_add, Nat.reduceAdd] at hc
  refine (callsIn_wide (n := 9)).1 (callsIn_of_wp_marks Try.func32 rfl trivial (wpIn_wide.2 ?_)); simp only [Try.ntmps32, List.size_toArray, List.length_cons, List.length_nil, Nat.reduceAdd, Nat.reduceSub, Array.replicate_succ, Array.replicate_zero, List.push_toArray, List.append_toArray, List.nil_append, List.cons_append]
  go_wp2_with (first | ((first | (with_reducible refine wpl_seal S ?_) | (with_reducible refine cw_seal S ?_) | (with_reducible refine bp_seal S ?_) | (with_reducible refine ca_seal S ?_)); clear S; (try clear hc); intro w1 S; (try simp only [List.set_cons_zero, List.set_cons_succ, List.nil_append] at S); have hc := S.cells; simp only [Cells, cellsC, Im, Row, El, RTH, TreeH, TR, AU, AL, Kn, TRx, Rec, Two, Nat.zero_add, Nat.reduceAdd] at hc) | (go_at_call 49; refine (len_r S 1 rfl).mono ?_; rintro e w1 ⟨rfl, rfl⟩) | (at_make; refine wpl_make (k := k4 95) S rfl _ _ rfl (z := .agg #[.slice none 0 0, .int .i64 0, .int .i64 0, .slice none 0 0]) (bytes := 64) (size := 4) Try.underlying89 (by kernel_rfl) rfl (by omega) .i64 .i64 L.length rfl rfl (by omega) zero4 (fun _ => ⟨rfl, by simp [One4, Value.oneCell']⟩) (by omega) ?_; clear S hc; intro g w1 S; have hc := S.cells; simp only [Cells, cellsC, Im, Row, El, RTH, TreeH, TR, AU, AL, Kn, TRx, Rec, Two, Nat.zero_add, Nat.reduceAdd] at hc))
  clear hc
  obtain ⟨gA, egA⟩ := S.name 0 rfl; rw [← egA] at S ⊢; clear egA
  obtain ⟨gS, egS⟩ := S.name 1 rfl; rw [← egS] at S ⊢; clear egS
  obtain ⟨gT, egT⟩ := S.name 3 rfl; rw [← egT] at S ⊢; clear egT
  have S1 := S.know (h := Kn (List.replicate L.length zero4) (List.replicate L.length ⟨[], 0, 0, []⟩)) ⟨by simp, fun i h h' => by rw [List.getElem_replicate, List.getElem_replicate]; exact ⟨none, 0, none, 0, rfl, Nat.le_refl _, Sl.nil, Nat.le_refl _, Sl.nil⟩⟩
  clear S
  go_loopw [22] (fun i w' => ∃ (k : Nat) (xs : List S4) (l : List Sn) (J : Fp), k ≤ L.length ∧ i = .int .i64 k ∧ xs.length = L.length ∧ As (l.length = L.length ∧ (∀ (i : Nat) (h : i < xs.length), k ≤ i → xs[i] = zero4) ∧ (∀ (i : Nat) (h : i < l.length), i < k → l[i] = ⟨kdR L i, -1, -1, wsR L W i⟩)) ∧
      As (SH F I w [Cel gA 61 [.pointer (some ⟨gS, 0, none⟩)], Cel gS 91 [.slice (some ⟨g, 0, none⟩) L.length L.length], Row (k4 95) (.slice (some ⟨g, 0, none⟩) L.length L.length) xs, Cel gT 54 [.pointer (some ⟨b, 0, none⟩)], TR b L W, Kn xs l] w' J)) (fun i _ => L.length - (intOf i).toNat)
  case atStart => exact ⟨0, _, _, _, Nat.zero_le _, rfl, List.length_replicate, ⟨List.length_replicate, fun i h _ => List.getElem_replicate .., fun i _ h => absurd h (Nat.not_lt_zero _)⟩, ⟨S1.sel [1, 2, 3, 4, 5, 0] (by decide) rfl (by simp)⟩⟩
  case round =>
    clear S1
    obtain ⟨k, xs, l, J, hk, rfl, hxl, HP, ⟨S⟩⟩ := hrel
    by_cases hkt : k < L.length
    · have hkt' : decide ((k : Int) < L.length) = true := by simpa using hkt
      have hkx : KLt k xs.length := ⟨by omega⟩
      have HWD : As ((if 0 ≤ (k : Int) ∧ (k : Int) < L.length then wsR L W k else []) = wsR L W k) := ⟨if_pos (by omega)⟩
      have HG := As.mk (S.goodR 4 rfl)
      have hz := HP.out.2.1 k (by omega) (Nat.le_refl _)
      have hr := S.at4 k
      have hc := S.cells; simp only [Cells, cellsC, Im, Row, El, RTH, TreeH, TR, AU, AL, Kn, TRx, Rec, Two, Nat.zero_add, Nat.reduceAdd] at hc
      go_wp2_with (first | ((first | (with_reducible refine wpl_seal S ?_) | (with_reducible refine cw_seal S ?_) | (with_reducible refine bp_seal S ?_) | (with_reducible refine ca_seal S ?_)); clear S; (try clear hc); intro w1 S; (try simp only [List.set_cons_zero, List.set_cons_succ, List.nil_append] at S); have hc := S.cells; simp only [Cells, cellsC, Im, Row, El, RTH, TreeH, TR, AU, AL, Kn, TRx, Rec, Two, Nat.zero_add, Nat.reduceAdd] at hc; clear hr; have hr := S.at4 k) | (go_at_call 50; refine (words_r S 4 rfl hW k).mono ?_; rw [HWD.out]; rintro e w1 ⟨v, rfl, hu⟩; obtain ⟨I1, S1, hI1⟩ := S.new hu; clear S hu hI1; (try clear hc); have S := S1; clear S1; have hc := S.cells; simp only [Cells, cellsC, Im, Row, El, RTH, TreeH, TR, AU, AL, Kn, TRx, Rec, Two, Nat.zero_add, Nat.reduceAdd] at hc; obtain ⟨A3, c3, I1, e1, hc3, S1, hI1⟩ := S.frow 0 rfl; subst e1; clear S hI1; have S := S1; clear S1; simp only [List.set_cons_zero, List.set_cons_succ, List.nil_append] at S; clear hr; have hr := S.at4 k; have hc := S.cells; simp only [Cells, cellsC, Im, Row, El, RTH, TreeH, TR, AU, AL, Kn, TRx, Rec, Two, Nat.zero_add, Nat.reduceAdd] at hc) | (go_at_call 51; refine (kids_r S 5 rfl (by omega) k).mono ?_; rintro e w1 ⟨v, rfl, hu⟩; obtain ⟨I1, S1, hI1⟩ := S.new hu; clear S hu hI1; (try clear hc); have S := S1; clear S1; have hc := S.cells; simp only [Cells, cellsC, Im, Row, El, RTH, TreeH, TR, AU, AL, Kn, TRx, Rec, Two, Nat.zero_add, Nat.reduceAdd] at hc; obtain ⟨A4, c4, I1, e1, hc4, S1, hI1⟩ := S.frow 0 rfl; subst e1; clear S hI1; have S := S1; clear S1; simp only [List.set_cons_zero, List.set_cons_succ, List.nil_append] at S; clear hr; have hr := S.at4 k; have hc := S.cells; simp only [Cells, cellsC, Im, Row, El, RTH, TreeH, TR, AU, AL, Kn, TRx, Rec, Two, Nat.zero_add, Nat.reduceAdd] at hc))
      clear hr
      simp only [List.set_set, List.getElem_set_self, put4, hz] at S
      replace S := S.nilrow (k := kAE)
      have HKL : As ((kdR L k).length = (kiR L k).length) := ⟨by unfold kdR; rw [List.length_map]⟩
      have hkl1 := kiR_len (L := L) (n := k)
      clear hz hc
      go_loopw [47] (fun i w' => ∃ (t : Nat) (kv : Value) (J' : Fp), t ≤ (kiR L k).length ∧ i = .int .i64 t ∧
        As (SH F I w [Row kAE kv ((kdR L k).take t), Im kP A4 (kiR L k), Im kI A3 (wsR L W k), Cel gA 61 [.pointer (some ⟨gS, 0, none⟩)], Cel gS 91 [.slice (some ⟨g, 0, none⟩) L.length L.length], Row (k4 95) (.slice (some ⟨g, 0, none⟩) L.length L.length) (xs.set k ⟨kv, .int .i64 (-1), .int .i64 (-1), .slice A3 (wsR L W k).length c3⟩), Cel gT 54 [.pointer (some ⟨b, 0, none⟩)], TR b L W, Kn xs l] w' J')) (fun i _ => (kiR L k).length - (intOf i).toNat)
      case atStart => exact ⟨0, _, _, Nat.zero_le _, rfl, ⟨S⟩⟩
      case round =>
        clear S
        obtain ⟨t, kv, J', ht, rfl, ⟨S⟩⟩ := hrel
        obtain ⟨Av, cv, rfl, hcv, -⟩ := S.row 0 rfl
        by_cases htk : t < (kiR L k).length
        · have htk' : decide ((t : Int) < (kiR L k).length) = true := by simpa using htk
          have hlt : ((kdR L k).take t).length = t := by rw [List.length_take, HKL.out]; omega
          have HTS : As ((kdR L k).take (t + 1) = (kdR L k).take t ++ [((kiR L k)[t], rchildT L k (kiR L k)[t])]) := ⟨by
            rw [List.take_succ_eq_append_getElem (by rw [HKL.out]; exact htk)]; simp [kdR]⟩
          generalize (kdR L k).take t = ks at S hlt HTS hcv
          rw [hlt] at S hcv
          have HLT := As.mk hlt
          clear hlt
          obtain ⟨pb, po, rfl, hcp⟩ := (S.im 1 rfl).int_at htk
          generalize (kiR L k)[t] = p at hcp HTS
          generalize hq0 : rchildT L k p = q at HTS
          have HQ := As.mk hq0
          clear hq0
          have hr := S.at4 k
          simp only [List.getElem_set_self] at hr
          have hc := S.cells; simp only [Cells, cellsC, Im, Row, El, RTH, TreeH, TR, AU, AL, Kn, TRx, Rec, Two, Nat.zero_add, Nat.reduceAdd] at hc
          go_wp2_with (first | ((first | (with_reducible refine wpl_seal S ?_) | (with_reducible refine cw_seal S ?_) | (with_reducible refine bp_seal S ?_) | (with_reducible refine ca_seal S ?_)); clear S; (try clear hc); intro w1 S; (try simp only [List.set_cons_zero, List.set_cons_succ, List.nil_append] at S); have hc := S.cells; simp only [Cells, cellsC, Im, Row, El, RTH, TreeH, TR, AU, AL, Kn, TRx, Rec, Two, Nat.zero_add, Nat.reduceAdd] at hc))
          have hqk := ClE.cell (w := wr.drew) hr.1
          have hq := S.cellsE; simp only [CellsE, cellsE, Im, Row, El, RTH, TreeH, TR, AU, AL, Kn, TRx, Rec, Two, Nat.zero_add, Nat.reduceAdd] at hq
          refine wp_region_ext [⟨[1, 2, 3, 4, 6, 7, 8], [0, 5], 9, true⟩, ⟨[10], [], 11, true⟩, ⟨[], [], 12, false⟩, ⟨[13, 14], [], 15, false⟩] [] (by kernel_rfl) (by kernel_rfl) ?_
          refine mix_cons rfl rfl rfl ?_
          simp only [opsAt, List.getD_cons_succ, List.getD_cons_zero]
          repeat (go_big_quiet_step ((intro hC; first | rfl | (go_simp; first | done | rfl))))
          refine wpQuiet_nil ?_
          repeat (go_big_quiet_step ((intro hC; first | rfl | (go_simp; first | done | rfl))))
          refine wpQuiet_nil ?_
          clear hq hqk hcp hc hr
          replace S := S.drew
          have hc := S.cells; simp only [Cells, cellsC, Im, Row, El, RTH, TreeH, TR, AU, AL, Kn, TRx, Rec, Two, Nat.zero_add, Nat.reduceAdd] at hc
          go_wp2_with (first | ((first | (with_reducible refine mx_seal S ?_) | (with_reducible refine wpl_seal S ?_) | (with_reducible refine ca_seal S ?_)); clear S; (try clear hc); intro w1 S; (try simp only [List.set_cons_zero, List.set_cons_succ, List.nil_append] at S); have hc := S.cells; simp only [Cells, cellsC, Im, Row, El, RTH, TreeH, TR, AU, AL, Kn, TRx, Rec, Two, Nat.zero_add, Nat.reduceAdd] at hc) | (go_at_call 52; refine (child_r S 7 rfl (by omega) k p).mono ?_; rw [HQ.out]; rintro e w1 ⟨rfl, hx⟩; have hxe := hx; replace S := S.ext hx; clear hx; (try clear hc); have hc := S.cells; simp only [Cells, cellsC, Im, Row, El, RTH, TreeH, TR, AU, AL, Kn, TRx, Rec, Two, Nat.zero_add, Nat.reduceAdd] at hc))
          refine ⟨fun _ => hxe, ?_⟩
          clear hxe
          refine mix_cons rfl rfl rfl ?_
          simp only [opsAt, List.getD_cons_succ, List.getD_cons_zero]
          repeat (go_big_quiet_step ((intro hC; first | rfl | (go_simp; first | done | rfl))))
          refine wpQuiet_nil ?_
          repeat (go_big_quiet_step ((intro hC; first | rfl | (go_simp; first | done | rfl))))
          refine wpQuiet_nil ?_
          go_wp2_with (first | ((first | (with_reducible refine mx_seal S ?_) | (with_reducible refine wpl_seal S ?_) | (with_reducible refine ca_seal S ?_)); clear S; (try clear hc); intro w1 S; (try simp only [List.set_cons_zero, List.set_cons_succ, List.nil_append] at S); have hc := S.cells; simp only [Cells, cellsC, Im, Row, El, RTH, TreeH, TR, AU, AL, Kn, TRx, Rec, Two, Nat.zero_add, Nat.reduceAdd] at hc))
          refine ⟨fun _ => Ext.alloc _ _, ?_⟩
          (first | refine ⟨(fun h => by cases h), ?_⟩ | skip); (first | ((first | (with_reducible refine mx_seal S ?_)); clear S; (try clear hc); intro w1 S; (try simp only [List.set_cons_zero, List.set_cons_succ, List.nil_append] at S); have hc := S.cells; simp only [Cells, cellsC, Im, Row, El, RTH, TreeH, TR, AU, AL, Kn, TRx, Rec, Two, Nat.zero_add, Nat.reduceAdd] at hc) | skip); (try simp only [Act.put, List.setIfInBounds_toArray, List.set_cons_succ, List.set_cons_zero])
          refine mix_cons rfl rfl rfl ?_
          simp only [opsAt, List.getD_cons_succ, List.getD_cons_zero]
          repeat (go_big_quiet_step ((intro hC; first | rfl | (go_simp; first | done | rfl))))
          refine wpQuiet_nil ?_
          repeat (go_big_quiet_step ((intro hC; first | rfl | (go_simp; first | done | rfl))))
          refine wpQuiet_nil ?_
          go_wp2_with (first | ((first | (with_reducible refine mx_seal S ?_) | (with_reducible refine wpl_seal S ?_) | (with_reducible refine ca_seal S ?_)); clear S; (try clear hc); intro w1 S; (try simp only [List.set_cons_zero, List.set_cons_succ, List.nil_append] at S); have hc := S.cells; simp only [Cells, cellsC, Im, Row, El, RTH, TreeH, TR, AU, AL, Kn, TRx, Rec, Two, Nat.zero_add, Nat.reduceAdd] at hc) | (at_builtin; refine wpl_push S 1 rfl rfl _ _ rfl ty_aedges rfl (p, q) _ _ rfl [_, _] _ (S.cel 0 rfl) rfl (by rw [HLT.out]; simp only [maxLen]; omega) (by rw [HLT.out]; omega) ?_; clear S hc; intro va w1 S; simp only [List.set_cons_zero, List.set_cons_succ, List.nil_append] at S; obtain ⟨Ab, cb, eva, -, -⟩ := S.row 1 rfl; subst eva; have hr := S.at4 k; simp only [List.getElem_set_self] at hr; have hc := S.cells; simp only [Cells, cellsC, Im, Row, El, RTH, TreeH, TR, AU, AL, Kn, TRx, Rec, Two, Nat.zero_add, Nat.reduceAdd] at hc))
          (first | refine ⟨(fun h => by cases h), ?_⟩ | skip); (first | ((first | (with_reducible refine mx_seal S ?_)); clear S; (try clear hc); intro w1 S; (try simp only [List.set_cons_zero, List.set_cons_succ, List.nil_append] at S); have hc := S.cells; simp only [Cells, cellsC, Im, Row, El, RTH, TreeH, TR, AU, AL, Kn, TRx, Rec, Two, Nat.zero_add, Nat.reduceAdd] at hc) | skip); (try simp only [Act.put, List.setIfInBounds_toArray, List.set_cons_succ, List.set_cons_zero])
          refine mix_cons rfl rfl rfl ?_
          simp only [opsAt, List.getD_cons_succ, List.getD_cons_zero]
          repeat (go_big_quiet_step ((intro hC; first | rfl | (go_simp; first | done | rfl))))
          refine wpQuiet_nil ?_
          repeat (go_big_quiet_step ((intro hC; first | rfl | (go_simp; first | done | rfl))))
          refine wpQuiet_nil ?_
          go_wp2_with (first | ((first | (with_reducible refine mx_seal S ?_) | (with_reducible refine wpl_seal S ?_) | (with_reducible refine ca_seal S ?_)); clear S; (try clear hc); intro w1 S; (try simp only [List.set_cons_zero, List.set_cons_succ, List.nil_append] at S); have hc := S.cells; simp only [Cells, cellsC, Im, Row, El, RTH, TreeH, TR, AU, AL, Kn, TRx, Rec, Two, Nat.zero_add, Nat.reduceAdd] at hc))
          (first | refine ⟨(fun h => by cases h), ?_⟩ | skip); (first | ((first | (with_reducible refine mx_seal S ?_)); clear S; (try clear hc); intro w1 S; (try simp only [List.set_cons_zero, List.set_cons_succ, List.nil_append] at S); have hc := S.cells; simp only [Cells, cellsC, Im, Row, El, RTH, TreeH, TR, AU, AL, Kn, TRx, Rec, Two, Nat.zero_add, Nat.reduceAdd] at hc) | skip); (try simp only [Act.put, List.setIfInBounds_toArray, List.set_cons_succ, List.set_cons_zero])
          refine mix_last rfl ?_
          simp only [opsAt, List.getD_cons_succ, List.getD_cons_zero]
          repeat (go_big_quiet_step ((intro hC; first | rfl | (go_simp; first | done | rfl))))
          refine wpQuiet_nil ?_
          simp only [calmQ]
          go_wp2_with (first | ((first | (with_reducible refine wpl_seal S ?_) | (with_reducible refine cw_seal S ?_) | (with_reducible refine bp_seal S ?_) | (with_reducible refine ca_seal S ?_)); clear S; (try clear hc); intro w1 S; (try simp only [List.set_cons_zero, List.set_cons_succ, List.nil_append] at S); have hc := S.cells; simp only [Cells, cellsC, Im, Row, El, RTH, TreeH, TR, AU, AL, Kn, TRx, Rec, Two, Nat.zero_add, Nat.reduceAdd] at hc))
          clear hr hc
          simp only [List.set_set, List.getElem_set_self, put4, List.length_append, List.length_cons, List.length_nil, Nat.zero_add] at S
          go_roundw
          case rel => exact ⟨t + 1, _, _, by omega, by go_num, ⟨by rw [HTS.out]; exact S.tl⟩⟩
          case measure => simp [intOf] <;> omega
        · have htk' : decide ((t : Int) < (kiR L k).length) = false := by simpa using htk
          obtain rfl : t = (kiR L k).length := by omega
          have hta : (kdR L k).take (kiR L k).length = kdR L k := by rw [← HKL.out, List.take_length]
          rw [hta] at S hcv
          obtain ⟨A5, c5, I5, e5, hc5, S5, hI5⟩ := S.frow 0 rfl
          cases e5
          have S6 := S5.knSet 8 rfl k ⟨.slice Av (kdR L k).length cv, .int .i64 (-1), .int .i64 (-1), .slice A3 (wsR L W k).length c3⟩ ⟨kdR L k, -1, -1, wsR L W k⟩ ⟨Av, cv, A3, c3, rfl, hcv, S5.im 0 rfl, hc3, S5.im 2 rfl⟩
          clear S S5 hI5 hta
          have S := S6
          clear S6
          simp only [List.set_cons_zero, List.set_cons_succ, List.nil_append] at S
          have hc := S.cells; simp only [Cells, cellsC, Im, Row, El, RTH, TreeH, TR, AU, AL, Kn, TRx, Rec, Two, Nat.zero_add, Nat.reduceAdd] at hc
          go_wp2_with (first | ((first | (with_reducible refine wpl_seal S ?_) | (with_reducible refine cw_seal S ?_) | (with_reducible refine bp_seal S ?_) | (with_reducible refine ca_seal S ?_)); clear S; (try clear hc); intro w1 S; (try simp only [List.set_cons_zero, List.set_cons_succ, List.nil_append] at S); have hc := S.cells; simp only [Cells, cellsC, Im, Row, El, RTH, TreeH, TR, AU, AL, Kn, TRx, Rec, Two, Nat.zero_add, Nat.reduceAdd] at hc))
          go_roundw
          case rel =>
            refine ⟨k + 1, _, _, _, by omega, by go_num, by rw [List.length_set]; exact hxl, ⟨by rw [List.length_set]; exact HP.out.1, fun i h hi => ?_, fun i h hi => ?_⟩, ⟨(S.sel [4, 5, 6, 7, 8, 0] (by decide) rfl (by simp) : SH _ _ _ [_, _, _, _, _, _] _ _)⟩⟩
            · rw [List.getElem_set_ne (by omega)]; exact HP.out.2.1 i (by simpa using h) (by omega)
            · by_cases hik : k = i
              · subst hik; rw [List.getElem_set_self]
              · rw [List.getElem_set_ne hik]; exact HP.out.2.2 i (by simpa using h) (by omega)
          case measure => simp [intOf] <;> omega
    · have hkt' : decide ((k : Int) < L.length) = false := by simpa using hkt
      obtain rfl : k = L.length := by omega
      have hc := S.cells; simp only [Cells, cellsC, Im, Row, El, RTH, TreeH, TR, AU, AL, Kn, TRx, Rec, Two, Nat.zero_add, Nat.reduceAdd] at hc
      go_wp2_with (first | ((first | (with_reducible refine wpl_seal S ?_) | (with_reducible refine cw_seal S ?_) | (with_reducible refine bp_seal S ?_) | (with_reducible refine ca_seal S ?_)); clear S; (try clear hc); intro w1 S; (try simp only [List.set_cons_zero, List.set_cons_succ, List.nil_append] at S); have hc := S.cells; simp only [Cells, cellsC, Im, Row, El, RTH, TreeH, TR, AU, AL, Kn, TRx, Rec, Two, Nat.zero_add, Nat.reduceAdd] at hc) | (go_at_call 53; refine (levels_c b _ _ S.bd).mono ?_; rintro e w1 ⟨gt, rfl, hu⟩; obtain ⟨I1, S1, hI1⟩ := S.new hu; clear S hu hI1; (try clear hc); have S := S1; clear S1; have hc := S.cells; simp only [Cells, cellsC, Im, Row, El, RTH, TreeH, TR, AU, AL, Kn, TRx, Rec, Two, Nat.zero_add, Nat.reduceAdd] at hc))
      have HSR : ∀ i : Nat, (kiR L i).Pairwise (· < ·) := by
        obtain ⟨ln, ws, _, s⟩ := S.tr 5 rfl
        exact fun i => s.kiK_srt i L.length (Nat.le_refl _)
      have HG := As.mk (S.goodR 5 rfl)
      have S1 := S.close4 3 6 rfl rfl
      clear S hc
      have S := S1
      clear S1
      simp only [List.set_cons_zero, List.set_cons_succ, List.nil_append] at S
      obtain ⟨⟨At, ct, lt⟩, S1⟩ := S.toTRx 5 rfl
      clear S
      have S := S1
      clear S1
      simp only [List.set_cons_zero, List.set_cons_succ, List.nil_append] at S
      obtain ⟨_, wst, hst⟩ := S.rdx 5 rfl
      have HST := As.mk hst
      have HA0 : As (AOk l L W (inPre [])) := ⟨⟨HP.out.1, fun i h => by rw [HP.out.2.2 i h (by rw [← HP.out.1]; exact h)], fun i h => by rw [HP.out.2.2 i h (by rw [← HP.out.1]; exact h)], fun i h e => by
        obtain rfl : i = 0 := by simpa [inPre] using e
        rw [HP.out.2.2 0 h (by rw [← HP.out.1]; exact h)]; exact fallR_zero.symm, fun i h e => by
        obtain rfl : i = 0 := by simpa [inPre] using e
        rw [HP.out.2.2 0 h (by rw [← HP.out.1]; exact h)]; exact (linkR_zero HG.out).symm, HSR⟩⟩
      clear hst HSR HP hxl
      replace S := (S.sel [0, 1, 2, 3, 4, 5] (by decide) rfl (by simp) : SH _ _ _ [_, _, _, _, _, _] _ _)
      refine (wpIn_wide (n := 9)).1 ?_
      refine S.range (gf := 66) (lb := #[.pointer (some ⟨gt, 0, none⟩)]) rfl (enters_of Try.func66 (by kernel_rfl) rfl) (lclo_c lt wst L W B gt b At ct HST.out (by omega) (HG.out.dp1 hB) (by omega)) (fun _ => rfl)
        (MN b gt gA gS g gT At ct lt L W) (fun _ _ _ => False) ⟨l, HA0, rfl⟩ ?st ?own ?ownx ?round ?done ?stop
      case st =>
        intro W4 o1 o2 _ S4
        exact ⟨(S4.rdx 7 rfl).1, S4.cell 2 0 rfl rfl⟩
      case own =>
        rintro pre L' I' X Y o1 o2 ⟨l', HA', rfl⟩ s he
        exact ⟨_, _, ⟨l', HA', rfl⟩, s.ext he⟩
      case ownx => exact fun _ _ _ _ _ _ _ h => h.elim
      case stop => exact fun _ _ _ _ _ h => h.elim
      case done =>
        rintro D L' I' W5 ⟨l', HA', rfl⟩ S
        dsimp only
        have HOK := As.mk (HA'.out.all HG.out hB)
        obtain ⟨A9, c9, I9, e9, hc9, S9, -⟩ := S.frow 4 rfl
        injection e9 with ea eb ec
        subst ea
        subst ec
        clear S
        have S := S9
        clear S9
        simp only [List.set_cons_zero, List.set_cons_succ, List.nil_append] at S
        have hg9 := S.im 4 rfl
        obtain ⟨I8, S8, -⟩ := S.frz (h' := AU gS L W) 3 rfl fun F9 ⟨hh, hF⟩ => ⟨l', ⟨some ⟨g, 0, none⟩, L.length, by rw [HOK.out.len]; exact hh, .inr hF, hc9, hg9.weak fun _ _ h => .inl h⟩, HOK.out, HG.out, hNE⟩
        clear S hg9
        have S := S8
        clear S8
        simp only [List.set_cons_zero, List.set_cons_succ, List.nil_append] at S
        replace S := S.ofTRx 6 rfl
        simp only [List.set_cons_zero, List.set_cons_succ, List.nil_append] at S
        have hc := S.cells; simp only [Cells, cellsC, Im, Row, El, RTH, TreeH, TR, AU, AL, Kn, TRx, Rec, Two, Nat.zero_add, Nat.reduceAdd] at hc
        go_wp2_with (first | ((first | (with_reducible refine wpl_seal S ?_) | (with_reducible refine cw_seal S ?_) | (with_reducible refine bpM_seal S ?_) | (with_reducible refine bp_seal S ?_) | (with_reducible refine ca_seal S ?_)); clear S; (try clear hc); intro w1 S; (try simp only [List.set_cons_zero, List.set_cons_succ, List.nil_append] at S); have hc := S.cells; simp only [Cells, cellsC, Im, Row, El, RTH, TreeH, TR, AU, AL, Kn, TRx, Rec, Two, Nat.zero_add, Nat.reduceAdd] at hc))
        refine ⟨by simp, .inl ⟨_, _, rfl, run_takeDeferred (S.recd 0 rfl), ?_⟩⟩
        have S5 := S.putRec 0 rfl (.deferred none)
        exact ⟨_, results_tmp rfl _ _ _, _, rfl, S5.ret2 6 3 (by omega) rfl rfl⟩
      case round =>
        rintro lo D r1 r2 pre x L' I' W5 hpre ⟨l', HA', rfl⟩ S
        obtain ⟨⟨hx0, hxl⟩, hbf⟩ := lvL_before HG.out hB hpre
        obtain ⟨u, p, hu1, hu2, hu3, hu4⟩ := prR_up HG.out hx0 hxl
        obtain ⟨j, hj1, hj2, hj3⟩ := fallR_lt HG.out hx0 hxl
        have hln := HA'.out.len
        have hxl' : x < l'.length := by omega
        have hkx : KLt x l'.length := ⟨hxl'⟩
        have HPT : As (ptR L x = pa L x) := ⟨by unfold ptR; rw [if_pos (by omega), Int.toNat_natCast]⟩
        have hFj := hbf j hj2 hj3
        have hjx : j ≠ x := by rintro rfl; omega
        have HJ := As.mk hj1
        have HBF := As.mk hbf
        have HU := As.mk hu4
        have hpm : (pa L x).length = (pa L u).length + 1 := by rw [hu3]; simp
        have hpl : (pa L x).length ≤ 1000 := by have := hB _ (HG.out.memI hxl); omega
        have HPX := As.mk hu3
        have hc := S.cells; simp only [Cells, cellsC, Im, Row, El, RTH, TreeH, TR, AU, AL, Kn, TRx, Rec, Two, Nat.zero_add, Nat.reduceAdd] at hc
        simp only [List.zip_toArray, List.foldl_toArray', List.foldl_cons, List.foldl_nil, List.zip_cons_cons, List.zip_nil_left, List.setIfInBounds_toArray, List.set_cons_succ, List.set_cons_zero]
        rw [hu1]
        clear hbf hj1 hu4 hu3 hu1
        gi_wp2_with (first | ((first | (with_reducible refine wlI_seal S ?_) | (with_reducible refine cwI_seal S ?_) | (with_reducible refine bpM_seal S ?_) | (with_reducible refine bp_seal S ?_) | (with_reducible refine caI_seal S ?_)); clear S; (try clear hc); intro w1 S; (try simp only [List.set_cons_zero, List.set_cons_succ, List.nil_append] at S); have hc := S.cells; simp only [Cells, cellsC, Im, Row, El, RTH, TreeH, TR, AU, AL, Kn, TRx, Rec, Two, Nat.zero_add, Nat.reduceAdd] at hc))
        refine ⟨_, _, S, ?_⟩
        clear S hc
        intro W6 _ S
        have hrx := S.atS x (by omega)
        have hx9 : (x : Int) < (L.length : Int) := by omega
        have hc := S.cells; simp only [Cells, cellsC, Im, Row, El, RTH, TreeH, TR, AU, AL, Kn, TRx, Rec, Two, Nat.zero_add, Nat.reduceAdd] at hc
        by_cases hu0 : u = 0
        · subst hu0
          have HF0 : As (j = 0) := ⟨by have := fallR_top HG.out hx0 hxl HPX.out; rw [HJ.out] at this; omega⟩
          gi_wp2_with (first | ((first | (with_reducible refine wlI_seal S ?_) | (with_reducible refine cwI_seal S ?_) | (with_reducible refine bpM_seal S ?_) | (with_reducible refine bp_seal S ?_) | (with_reducible refine caI_seal S ?_)); clear S; (try clear hc); intro w1 S; (try simp only [List.set_cons_zero, List.set_cons_succ, List.nil_append] at S); have hc := S.cells; simp only [Cells, cellsC, Im, Row, El, RTH, TreeH, TR, AU, AL, Kn, TRx, Rec, Two, Nat.zero_add, Nat.reduceAdd] at hc; clear hrx; have hrx := S.atS x (by simp; omega)) | (refine ⟨trivial, ?_⟩; gi_at_call 54; refine (CallsIn.inRound lo (callsIn_wide.2 (path_r (S.ofTRx 7 rfl) 7 rfl (by omega) x))).mono ?_; rw [HPT.out]; rintro e w1 ⟨v, rfl, hu⟩; obtain ⟨I1, S1, hI1⟩ := S.new hu; clear S hu hI1; (try clear hc); have S := S1; clear S1; have hc := S.cells; simp only [Cells, cellsC, Im, Row, El, RTH, TreeH, TR, AU, AL, Kn, TRx, Rec, Two, Nat.zero_add, Nat.reduceAdd] at hc; obtain ⟨A3, c3, I1, e1, hc3, S1, hI1⟩ := S.frow 0 rfl; subst e1; clear S hI1; have S := S1; clear S1; simp only [List.set_cons_zero, List.set_cons_succ, List.nil_append] at S; clear hrx; have hrx := S.atS x (by omega); have hc := S.cells; simp only [Cells, cellsC, Im, Row, El, RTH, TreeH, TR, AU, AL, Kn, TRx, Rec, Two, Nat.zero_add, Nat.reduceAdd] at hc))
          obtain ⟨l1, hl1⟩ : ∃ l1, l1 = l'.set x { l'[x]'hxl' with fall := (j : Int) } := ⟨_, rfl⟩
          rw [show (l'.set x { kids := (l'[x]'hxl').kids, fall := 0, link := (l'[x]'hxl').link, words := (l'[x]'hxl').words }) = l1 by rw [hl1, HF0.out]; rfl] at S

          have hl1n : l1.length = L.length := by rw [hl1, List.length_set]; exact hln
          have hxl1 : x < l1.length := by omega
          have hkx1 : KLt x l1.length := ⟨hxl1⟩
          have hfx : (l1[x]'hxl1).fall = j := by subst hl1; rw [List.getElem_set_self]
          have hlj : (l1[j]'(by omega)).link = linkR L W j := by subst hl1; rw [List.getElem_set_ne (by omega)]; exact HA'.out.link j (by omega) hFj
          have hwj : (l1[j]'(by omega)).words = wsR L W j := by subst hl1; rw [List.getElem_set_ne (by omega)]; exact HA'.out.words j (by omega)
          have HL1 := As.mk hl1
          clear hrx
          have hr := S.atS x (by omega)
          have hrj := S.atS j (by omega)
          rw [hfx] at hr
          rw [hlj, hwj] at hrj
          obtain ⟨hr1, -, -, hr4⟩ := hr
          obtain ⟨-, hrj2, ⟨Aw, cw, hrj3⟩, -⟩ := hrj
          have hj0 : (0 : Int) ≤ (j : Int) := by omega
          have hjl : (j : Int) < (L.length : Int) := by omega
          clear hl1 hlj hwj hfx
          have hc := S.cells; simp only [Cells, cellsC, Im, Row, El, RTH, TreeH, TR, AU, AL, Kn, TRx, Rec, Two, Nat.zero_add, Nat.reduceAdd] at hc
          have hqr1 := ClE.cell (w := w1.drew) hr1
          have hqj2 := ClE.cell (w := w1.drew) hrj2
          have hq := S.cellsE; simp only [CellsE, cellsE, Im, Row, El, RTH, TreeH, TR, AU, AL, Kn, TRx, Rec, Two, Nat.zero_add, Nat.reduceAdd] at hq
          refine wpIn_region_ext [⟨[0, 1, 2, 3, 4, 5, 6, 7, 8, 9, 10, 11, 12, 13], [], 14, false⟩] [] (by kernel_rfl) (by kernel_rfl) (by kernel_rfl) ?_
          refine mix_cons rfl rfl rfl ?_
          simp only [opsAt, List.getD_cons_succ, List.getD_cons_zero]
          repeat (go_big_quiet_step ((intro hC; first | rfl | (go_simp; first | done | rfl))))
          refine wpQuiet_nil ?_
          repeat (go_big_quiet_step ((intro hC; first | rfl | (go_simp; first | done | rfl))))
          refine wpQuiet_nil ?_
          clear hq hqr1 hqj2 hc hr1 hrj2 hrj3 hr4
          replace S := S.drew
          generalize w1.drew = w1 at S ⊢
          have hc := S.cells; simp only [Cells, cellsC, Im, Row, El, RTH, TreeH, TR, AU, AL, Kn, TRx, Rec, Two, Nat.zero_add, Nat.reduceAdd] at hc
          obtain ⟨hr1, hr2, -, hr4⟩ := S.atS x (by omega)
          go_wp2_with (first | ((first | (with_reducible refine mx_seal S ?_) | (with_reducible refine wpl_seal S ?_) | (with_reducible refine ca_seal S ?_)); clear S; (try clear hc); intro w1 S; (try simp only [List.set_cons_zero, List.set_cons_succ, List.nil_append] at S); have hc := S.cells; simp only [Cells, cellsC, Im, Row, El, RTH, TreeH, TR, AU, AL, Kn, TRx, Rec, Two, Nat.zero_add, Nat.reduceAdd] at hc))
          (first | refine ⟨(fun h => by cases h), ?_⟩ | skip); (first | ((first | (with_reducible refine mx_seal S ?_)); clear S; (try clear hc); intro w1 S; (try simp only [List.set_cons_zero, List.set_cons_succ, List.nil_append] at S); have hc := S.cells; simp only [Cells, cellsC, Im, Row, El, RTH, TreeH, TR, AU, AL, Kn, TRx, Rec, Two, Nat.zero_add, Nat.reduceAdd] at hc) | skip); (try simp only [Act.put, List.setIfInBounds_toArray, List.set_cons_succ, List.set_cons_zero])
          refine mix_last rfl ?_
          simp only [opsAt, List.getD_cons_succ, List.getD_cons_zero]
          repeat (go_big_quiet_step ((intro hC; first | rfl | (go_simp; first | done | rfl))))
          refine wpQuiet_nil ?_
          simp only [calm0]
          obtain ⟨l2, hl2⟩ : ∃ l2, l2 = l1.set x { kids := (l1[x]'hxl1).kids, fall := (l1[x]'hxl1).fall, link := linkR L W j, words := (l1[x]'hxl1).words } := ⟨_, rfl⟩
          rw [← hl2] at S
          have hl2n : l2.length = L.length := by rw [hl2, List.length_set]; exact hl1n
          have HL2 : As (l2 = l'.set x { kids := (l'[x]'hxl').kids, fall := (j : Int), link := linkR L W j, words := (l'[x]'hxl').words }) := ⟨by
            rw [hl2]
            have := HL1.out
            subst this
            simp only [List.set_set, List.getElem_set_self]⟩
          clear hl2
          have hkx2 : KLt x l2.length := ⟨by omega⟩
          have hfx2 : (l2[x]'(by omega)).fall = j := by have := HL2.out; subst this; rw [List.getElem_set_self]
          have hwj2 : (l2[j]'(by omega)).words = wsR L W j := by have := HL2.out; subst this; rw [List.getElem_set_ne (by omega)]; exact HA'.out.words j (by omega)
          have hr := S.atS x (by omega)
          have hrj := S.atS j (by omega)
          rw [hfx2] at hr
          rw [hwj2] at hrj
          obtain ⟨hr1, -, -, hr4⟩ := hr
          obtain ⟨-, -, ⟨Aw, cw, hrj3⟩, -⟩ := hrj
          have HSTP := As.mk (linkR_step HG.out hx0 hxl HJ.out)
          have hzw : (wsR L W j).length = 0 ↔ wsR L W j = [] := List.length_eq_zero_iff
          have HZW := As.mk hzw
          have HJ0 : As (j = 0 → (wsR L W j).length = 0 ∧ linkR L W j = -1) := ⟨by rintro rfl; exact ⟨by rw [show ((0 : Nat) : Int) = 0 from rfl, wsR_root HG.out hNE]; rfl, linkR_zero HG.out⟩⟩
          generalize hmw : (wsR L W j).length = mw at hrj3 hzw HZW HJ0
          clear hfx2 hwj2 hzw hmw hc
          have hc := S.cells; simp only [Cells, cellsC, Im, Row, El, RTH, TreeH, TR, AU, AL, Kn, TRx, Rec, Two, Nat.zero_add, Nat.reduceAdd] at hc
          gi_wp2_with (first | ((first | (with_reducible refine wlI_seal S ?_) | (with_reducible refine cwI_seal S ?_) | (with_reducible refine bpM_seal S ?_) | (with_reducible refine bp_seal S ?_) | (with_reducible refine caI_seal S ?_)); clear S; (try clear hc); intro w1 S; (try simp only [List.set_cons_zero, List.set_cons_succ, List.nil_append] at S); have hc := S.cells; simp only [Cells, cellsC, Im, Row, El, RTH, TreeH, TR, AU, AL, Kn, TRx, Rec, Two, Nat.zero_add, Nat.reduceAdd] at hc))
          have hqr1 := ClE.cell (w := w1.drew) hr1
          have hqj3 := ClE.cell (w := w1.drew) hrj3
          have hq := S.cellsE; simp only [CellsE, cellsE, Im, Row, El, RTH, TreeH, TR, AU, AL, Kn, TRx, Rec, Two, Nat.zero_add, Nat.reduceAdd] at hq
          refine wpIn_region_ext [] [0, 1, 2, 3, 4, 5, 6, 7, 8, 9, 10, 11, 12] (by kernel_rfl) (by kernel_rfl) (by kernel_rfl) ?_
          refine mix_last rfl ?_
          simp only [opsAt, List.getD_cons_succ, List.getD_cons_zero]
          repeat (go_big_quiet_step ((intro hC; first | rfl | (go_simp; first | done | rfl))))
          refine wpQuiet_nil ?_
          simp only [calm0]
          clear hq hqr1 hqj3 hc hr1 hrj3 hr4
          replace S := S.drew
          generalize w1.drew = w1 at S ⊢
          have hc := S.cells; simp only [Cells, cellsC, Im, Row, El, RTH, TreeH, TR, AU, AL, Kn, TRx, Rec, Two, Nat.zero_add, Nat.reduceAdd] at hc
          obtain ⟨hr1, hr2, -, hr4⟩ := S.atS x (by omega)
          by_cases hm0 : 0 < mw
          · have hm1 : 0 < (mw : Int) := by omega
            have HLK : As (linkR L W x = j) := ⟨by
              rw [HSTP.out]
              have h1 : wsR L W j ≠ [] := fun e => by have := HZW.out.2 e; omega
              have h2 : 0 < j := by
                rcases Nat.eq_zero_or_pos j with e | e
                · have := (HJ0.out e).1; omega
                · exact e
              rw [if_pos h2, if_pos h1]⟩
            gi_wp2_with (first | ((first | (with_reducible refine wlI_seal S ?_) | (with_reducible refine cwI_seal S ?_) | (with_reducible refine bpM_seal S ?_) | (with_reducible refine bp_seal S ?_) | (with_reducible refine caI_seal S ?_)); clear S; (try clear hc); intro w1 S; (try simp only [List.set_cons_zero, List.set_cons_succ, List.nil_append] at S); have hc := S.cells; simp only [Cells, cellsC, Im, Row, El, RTH, TreeH, TR, AU, AL, Kn, TRx, Rec, Two, Nat.zero_add, Nat.reduceAdd] at hc))
            have e3 : (l2.set x { kids := (l2[x]'(by omega)).kids, fall := (l2[x]'(by omega)).fall, link := (l2[x]'(by omega)).fall, words := (l2[x]'(by omega)).words }) = l'.set x ⟨(l'[x]'hxl').kids, fallR L x, linkR L W x, (l'[x]'hxl').words⟩ := by
              have := HL2.out
              subst this
              simp only [List.set_set, List.getElem_set_self, HJ.out, HLK.out]
            refine rp_seal S ?_
            clear S hc
            intro w2 S
            simp only [List.set_cons_zero, List.set_cons_succ, List.nil_append] at S
            rw [e3] at S
            refine ⟨_, _, ⟨_, ⟨HA'.out.put hxl'⟩, rfl⟩, (S.sel [1, 2, 3, 4, 5, 6, 7, 8] (by decide) rfl (by simp) : SH _ _ _ [_, _, _, _, _, _, _, _] _ _), ?_⟩
            rintro W7 L7 I7 ⟨l7, HA7, rfl⟩ - S7
            exact ⟨(S7.rdx 7 rfl).1, S7.cell 2 0 rfl rfl⟩
          · have hm1 : ¬ 0 < (mw : Int) := by omega
            have HLK : As (linkR L W x = linkR L W j) := ⟨by
              rw [HSTP.out]
              have h1 : wsR L W j = [] := HZW.out.1 (by omega)
              rcases Nat.eq_zero_or_pos j with e | e
              · rw [if_neg (by omega), (HJ0.out e).2]
              · rw [if_pos e, if_neg (by simpa using h1)]⟩
            gi_wp2_with (first | ((first | (with_reducible refine wlI_seal S ?_) | (with_reducible refine cwI_seal S ?_) | (with_reducible refine bpM_seal S ?_) | (with_reducible refine bp_seal S ?_) | (with_reducible refine caI_seal S ?_)); clear S; (try clear hc); intro w1 S; (try simp only [List.set_cons_zero, List.set_cons_succ, List.nil_append] at S); have hc := S.cells; simp only [Cells, cellsC, Im, Row, El, RTH, TreeH, TR, AU, AL, Kn, TRx, Rec, Two, Nat.zero_add, Nat.reduceAdd] at hc))
            have e3 : l2 = l'.set x ⟨(l'[x]'hxl').kids, fallR L x, linkR L W x, (l'[x]'hxl').words⟩ := by
              rw [HL2.out, HJ.out, HLK.out]
            rw [e3] at S
            refine ⟨_, _, ⟨_, ⟨HA'.out.put hxl'⟩, rfl⟩, (S.sel [1, 2, 3, 4, 5, 6, 7, 8] (by decide) rfl (by simp) : SH _ _ _ [_, _, _, _, _, _, _, _] _ _), ?_⟩
            rintro W7 L7 I7 ⟨l7, HA7, rfl⟩ - S7
            exact ⟨(S7.rdx 7 rfl).1, S7.cell 2 0 rfl rfl⟩
        · have hu9 : ¬ (u : Int) = 0 := by omega
          obtain ⟨v, hv1, hv2, hv3⟩ := fallR_lt HG.out (n := u) (by omega) hu2
          have hul : u < l'.length := by omega
          have hux : u ≠ x := by rintro rfl; omega
          have HFU : As (l'[u].fall = (v : Int)) := ⟨by rw [HA'.out.fall u hul (HBF.out u hu2 HU.out), hv1]⟩
          have HNX : As (nextR L v p = j) := ⟨by rw [← hv1, ← fallR_up HG.out hx0 hxl (by omega) hu2 HPX.out, HJ.out]⟩
          have HN : As (∀ k : Nat, (v : Int) = k → ∀ i, i < L.length → dpN L i ≤ dpN L k → (inPre pre i ∧ i ≠ x)) := ⟨fun k hk i hi hd => by
            obtain rfl : v = k := by omega
            have h1 : dpN L i < dpN L x := by have := HU.out; have h3 : dpN L v < dpN L u := hv3; omega
            exact ⟨HBF.out i hi h1, by rintro rfl; omega⟩⟩
          obtain ⟨mm, hmm⟩ : ∃ mm, (pa L u).length = mm := ⟨_, rfl⟩
          have HPP : As (∀ h : mm < (pa L x).length, (pa L x)[mm]'h = p) := ⟨fun h => by simp only [HPX.out, ← hmm]; simp⟩
          rw [hmm] at hpm
          have HMM := As.mk hmm
          clear hmm
          have huN : (u : Int) < (L.length : Int) := by omega
          have hu00 : (0 : Int) ≤ (u : Int) := by omega
          have hmw : IntKind.i64.wrap (mm : Int) = mm := IntWalk.i64_in _ ⟨by omega, by omega⟩
          clear hv1 hv3
          gi_wp2_with (first | ((first | (with_reducible refine wlI_seal S ?_) | (with_reducible refine cwI_seal S ?_) | (with_reducible refine bpM_seal S ?_) | (with_reducible refine bp_seal S ?_) | (with_reducible refine caI_seal S ?_)); clear S; (try clear hc); intro w1 S; (try simp only [List.set_cons_zero, List.set_cons_succ, List.nil_append] at S); have hc := S.cells; simp only [Cells, cellsC, Im, Row, El, RTH, TreeH, TR, AU, AL, Kn, TRx, Rec, Two, Nat.zero_add, Nat.reduceAdd] at hc; clear hrx; have hrx := S.atS x (by simp; omega)) | (refine ⟨trivial, ?_⟩; gi_at_call 54; refine (CallsIn.inRound lo (callsIn_wide.2 (path_r (S.ofTRx 7 rfl) 7 rfl (by omega) x))).mono ?_; rw [HPT.out]; rintro e w1 ⟨v, rfl, hu⟩; obtain ⟨I1, S1, hI1⟩ := S.new hu; clear S hu hI1; (try clear hc); have S := S1; clear S1; have hc := S.cells; simp only [Cells, cellsC, Im, Row, El, RTH, TreeH, TR, AU, AL, Kn, TRx, Rec, Two, Nat.zero_add, Nat.reduceAdd] at hc; obtain ⟨A3, c3, I1, e1, hc3, S1, hI1⟩ := S.frow 0 rfl; subst e1; clear S hI1; have S := S1; clear S1; simp only [List.set_cons_zero, List.set_cons_succ, List.nil_append] at S; rw [hpm] at hc3 ⊢; clear hrx; have hrx := S.atS x (by omega); have hc := S.cells; simp only [Cells, cellsC, Im, Row, El, RTH, TreeH, TR, AU, AL, Kn, TRx, Rec, Two, Nat.zero_add, Nat.reduceAdd] at hc))
          have hru := (S.atS u (by rw [List.length_set]; exact hul)).1
          rw [List.getElem_set_ne (fun e => hux e.symm), HFU.out] at hru
          obtain ⟨pb, po, rfl, hcp⟩ := (S.im 0 rfl).int_at (i := mm) (by omega)
          rw [HPP.out] at hcp
          have hqru := ClE.cell (w := w1.drew) hru
          have hqcp := ClE.cell (w := w1.drew) hcp
          have hq := S.cellsE; simp only [CellsE, cellsE, Im, Row, El, RTH, TreeH, TR, AU, AL, Kn, TRx, Rec, Two, Nat.zero_add, Nat.reduceAdd] at hq
          refine wpIn_region_ext [⟨[1, 2, 3, 4, 5, 6, 7, 8, 9, 10, 11, 12, 13, 14, 15], [0], 16, false⟩, ⟨[17, 18], [], 19, false⟩] [] (by kernel_rfl) (by kernel_rfl) (by kernel_rfl) ?_
          refine mix_cons rfl rfl rfl ?_
          simp only [opsAt, List.getD_cons_succ, List.getD_cons_zero]
          repeat (go_big_quiet_step ((intro hC; first | rfl | (go_simp; first | done | rfl))))
          refine wpQuiet_nil ?_
          repeat (go_big_quiet_step ((intro hC; first | rfl | (go_simp; first | done | rfl))))
          refine wpQuiet_nil ?_
          clear hq hqru hqcp hc hru hcp hrx
          replace S := S.drew
          generalize w1.drew = w1 at S ⊢
          have hc := S.cells; simp only [Cells, cellsC, Im, Row, El, RTH, TreeH, TR, AU, AL, Kn, TRx, Rec, Two, Nat.zero_add, Nat.reduceAdd] at hc
          go_wp2_with (first | ((first | (with_reducible refine mx_seal S ?_) | (with_reducible refine wpl_seal S ?_) | (with_reducible refine ca_seal S ?_)); clear S; (try clear hc); intro w1 S; (try simp only [List.set_cons_zero, List.set_cons_succ, List.nil_append] at S); have hc := S.cells; simp only [Cells, cellsC, Im, Row, El, RTH, TreeH, TR, AU, AL, Kn, TRx, Rec, Two, Nat.zero_add, Nat.reduceAdd] at hc) | (go_at_call 35; refine (next_s (l'.set x { kids := (l'[x]'hxl').kids, fall := 0, link := (l'[x]'hxl').link, words := (l'[x]'hxl').words }) L W _ v p gS _ Any (S.rdS 5 6 (by rw [List.length_set]; exact hln) rfl rfl) (HA'.out.one hxl' 0) HG.out (by omega) HN.out).mono ?_; rw [HNX.out]; rintro e w1 ⟨rfl, hx⟩; replace S := S.ext hx; clear hx; (try clear hc); have hc := S.cells; simp only [Cells, cellsC, Im, Row, El, RTH, TreeH, TR, AU, AL, Kn, TRx, Rec, Two, Nat.zero_add, Nat.reduceAdd] at hc))
          (first | refine ⟨(fun h => by cases h), ?_⟩ | skip); (first | ((first | (with_reducible refine mx_seal S ?_)); clear S; (try clear hc); intro w1 S; (try simp only [List.set_cons_zero, List.set_cons_succ, List.nil_append] at S); have hc := S.cells; simp only [Cells, cellsC, Im, Row, El, RTH, TreeH, TR, AU, AL, Kn, TRx, Rec, Two, Nat.zero_add, Nat.reduceAdd] at hc) | skip); (try simp only [Act.put, List.setIfInBounds_toArray, List.set_cons_succ, List.set_cons_zero])
          refine mix_cons rfl rfl rfl ?_
          simp only [opsAt, List.getD_cons_succ, List.getD_cons_zero]
          repeat (go_big_quiet_step ((intro hC; first | rfl | (go_simp; first | done | rfl))))
          refine wpQuiet_nil ?_
          repeat (go_big_quiet_step ((intro hC; first | rfl | (go_simp; first | done | rfl))))
          refine wpQuiet_nil ?_
          obtain ⟨hr1, hr2, -, hr4⟩ := S.atS x (by rw [List.length_set]; exact hxl')
          go_wp2_with (first | ((first | (with_reducible refine mx_seal S ?_) | (with_reducible refine wpl_seal S ?_) | (with_reducible refine ca_seal S ?_)); clear S; (try clear hc); intro w1 S; (try simp only [List.set_cons_zero, List.set_cons_succ, List.nil_append] at S); have hc := S.cells; simp only [Cells, cellsC, Im, Row, El, RTH, TreeH, TR, AU, AL, Kn, TRx, Rec, Two, Nat.zero_add, Nat.reduceAdd] at hc))
          (first | refine ⟨(fun h => by cases h), ?_⟩ | skip); (first | ((first | (with_reducible refine mx_seal S ?_)); clear S; (try clear hc); intro w1 S; (try simp only [List.set_cons_zero, List.set_cons_succ, List.nil_append] at S); have hc := S.cells; simp only [Cells, cellsC, Im, Row, El, RTH, TreeH, TR, AU, AL, Kn, TRx, Rec, Two, Nat.zero_add, Nat.reduceAdd] at hc) | skip); (try simp only [Act.put, List.setIfInBounds_toArray, List.set_cons_succ, List.set_cons_zero])
          refine mix_last rfl ?_
          simp only [opsAt, List.getD_cons_succ, List.getD_cons_zero]
          repeat (go_big_quiet_step ((intro hC; first | rfl | (go_simp; first | done | rfl))))
          refine wpQuiet_nil ?_
          simp only [calm0]
          clear hr1 hr2 hr4
          gi_wp2_with (first | ((first | (with_reducible refine wlI_seal S ?_) | (with_reducible refine cwI_seal S ?_) | (with_reducible refine bpM_seal S ?_) | (with_reducible refine bp_seal S ?_) | (with_reducible refine caI_seal S ?_)); clear S; (try clear hc); intro w1 S; (try simp only [List.set_cons_zero, List.set_cons_succ, List.nil_append] at S); have hc := S.cells; simp only [Cells, cellsC, Im, Row, El, RTH, TreeH, TR, AU, AL, Kn, TRx, Rec, Two, Nat.zero_add, Nat.reduceAdd] at hc))
          simp only [List.set_set, List.getElem_set_self] at S
          obtain ⟨l1, hl1⟩ : ∃ l1, l1 = l'.set x { l'[x]'hxl' with fall := (j : Int) } := ⟨_, rfl⟩
          rw [← hl1] at S
          have hrx : True := trivial
          have hl1n : l1.length = L.length := by rw [hl1, List.length_set]; exact hln
          have hxl1 : x < l1.length := by omega
          have hkx1 : KLt x l1.length := ⟨hxl1⟩
          have hfx : (l1[x]'hxl1).fall = j := by subst hl1; rw [List.getElem_set_self]
          have hlj : (l1[j]'(by omega)).link = linkR L W j := by subst hl1; rw [List.getElem_set_ne (by omega)]; exact HA'.out.link j (by omega) hFj
          have hwj : (l1[j]'(by omega)).words = wsR L W j := by subst hl1; rw [List.getElem_set_ne (by omega)]; exact HA'.out.words j (by omega)
          have HL1 := As.mk hl1
          clear hrx
          have hr := S.atS x (by omega)
          have hrj := S.atS j (by omega)
          rw [hfx] at hr
          rw [hlj, hwj] at hrj
          obtain ⟨hr1, -, -, hr4⟩ := hr
          obtain ⟨-, hrj2, ⟨Aw, cw, hrj3⟩, -⟩ := hrj
          have hj0 : (0 : Int) ≤ (j : Int) := by omega
          have hjl : (j : Int) < (L.length : Int) := by omega
          clear hl1 hlj hwj hfx
          have hc := S.cells; simp only [Cells, cellsC, Im, Row, El, RTH, TreeH, TR, AU, AL, Kn, TRx, Rec, Two, Nat.zero_add, Nat.reduceAdd] at hc
          have hqr1 := ClE.cell (w := w1.drew) hr1
          have hqj2 := ClE.cell (w := w1.drew) hrj2
          have hq := S.cellsE; simp only [CellsE, cellsE, Im, Row, El, RTH, TreeH, TR, AU, AL, Kn, TRx, Rec, Two, Nat.zero_add, Nat.reduceAdd] at hq
          refine wpIn_region_ext [⟨[0, 1, 2, 3, 4, 5, 6, 7, 8, 9, 10, 11, 12, 13], [], 14, false⟩] [] (by kernel_rfl) (by kernel_rfl) (by kernel_rfl) ?_
          refine mix_cons rfl rfl rfl ?_
          simp only [opsAt, List.getD_cons_succ, List.getD_cons_zero]
          repeat (go_big_quiet_step ((intro hC; first | rfl | (go_simp; first | done | rfl))))
          refine wpQuiet_nil ?_
          repeat (go_big_quiet_step ((intro hC; first | rfl | (go_simp; first | done | rfl))))
          refine wpQuiet_nil ?_
          clear hq hqr1 hqj2 hc hr1 hrj2 hrj3 hr4
          replace S := S.drew
          generalize w1.drew = w1 at S ⊢
          have hc := S.cells; simp only [Cells, cellsC, Im, Row, El, RTH, TreeH, TR, AU, AL, Kn, TRx, Rec, Two, Nat.zero_add, Nat.reduceAdd] at hc
          obtain ⟨hr1, hr2, -, hr4⟩ := S.atS x (by omega)
          go_wp2_with (first | ((first | (with_reducible refine mx_seal S ?_) | (with_reducible refine wpl_seal S ?_) | (with_reducible refine ca_seal S ?_)); clear S; (try clear hc); intro w1 S; (try simp only [List.set_cons_zero, List.set_cons_succ, List.nil_append] at S); have hc := S.cells; simp only [Cells, cellsC, Im, Row, El, RTH, TreeH, TR, AU, AL, Kn, TRx, Rec, Two, Nat.zero_add, Nat.reduceAdd] at hc))
          (first | refine ⟨(fun h => by cases h), ?_⟩ | skip); (first | ((first | (with_reducible refine mx_seal S ?_)); clear S; (try clear hc); intro w1 S; (try simp only [List.set_cons_zero, List.set_cons_succ, List.nil_append] at S); have hc := S.cells; simp only [Cells, cellsC, Im, Row, El, RTH, TreeH, TR, AU, AL, Kn, TRx, Rec, Two, Nat.zero_add, Nat.reduceAdd] at hc) | skip); (try simp only [Act.put, List.setIfInBounds_toArray, List.set_cons_succ, List.set_cons_zero])
          refine mix_last rfl ?_
          simp only [opsAt, List.getD_cons_succ, List.getD_cons_zero]
          repeat (go_big_quiet_step ((intro hC; first | rfl | (go_simp; first | done | rfl))))
          refine wpQuiet_nil ?_
          simp only [calm0]
          obtain ⟨l2, hl2⟩ : ∃ l2, l2 = l1.set x { kids := (l1[x]'hxl1).kids, fall := (l1[x]'hxl1).fall, link := linkR L W j, words := (l1[x]'hxl1).words } := ⟨_, rfl⟩
          rw [← hl2] at S
          have hl2n : l2.length = L.length := by rw [hl2, List.length_set]; exact hl1n
          have HL2 : As (l2 = l'.set x { kids := (l'[x]'hxl').kids, fall := (j : Int), link := linkR L W j, words := (l'[x]'hxl').words }) := ⟨by
            rw [hl2]
            have := HL1.out
            subst this
            simp only [List.set_set, List.getElem_set_self]⟩
          clear hl2
          have hkx2 : KLt x l2.length := ⟨by omega⟩
          have hfx2 : (l2[x]'(by omega)).fall = j := by have := HL2.out; subst this; rw [List.getElem_set_self]
          have hwj2 : (l2[j]'(by omega)).words = wsR L W j := by have := HL2.out; subst this; rw [List.getElem_set_ne (by omega)]; exact HA'.out.words j (by omega)
          have hr := S.atS x (by omega)
          have hrj := S.atS j (by omega)
          rw [hfx2] at hr
          rw [hwj2] at hrj
          obtain ⟨hr1, -, -, hr4⟩ := hr
          obtain ⟨-, -, ⟨Aw, cw, hrj3⟩, -⟩ := hrj
          have HSTP := As.mk (linkR_step HG.out hx0 hxl HJ.out)
          have hzw : (wsR L W j).length = 0 ↔ wsR L W j = [] := List.length_eq_zero_iff
          have HZW := As.mk hzw
          have HJ0 : As (j = 0 → (wsR L W j).length = 0 ∧ linkR L W j = -1) := ⟨by rintro rfl; exact ⟨by rw [show ((0 : Nat) : Int) = 0 from rfl, wsR_root HG.out hNE]; rfl, linkR_zero HG.out⟩⟩
          generalize hmw : (wsR L W j).length = mw at hrj3 hzw HZW HJ0
          clear hfx2 hwj2 hzw hmw hc
          have hc := S.cells; simp only [Cells, cellsC, Im, Row, El, RTH, TreeH, TR, AU, AL, Kn, TRx, Rec, Two, Nat.zero_add, Nat.reduceAdd] at hc
          gi_wp2_with (first | ((first | (with_reducible refine wlI_seal S ?_) | (with_reducible refine cwI_seal S ?_) | (with_reducible refine bpM_seal S ?_) | (with_reducible refine bp_seal S ?_) | (with_reducible refine caI_seal S ?_)); clear S; (try clear hc); intro w1 S; (try simp only [List.set_cons_zero, List.set_cons_succ, List.nil_append] at S); have hc := S.cells; simp only [Cells, cellsC, Im, Row, El, RTH, TreeH, TR, AU, AL, Kn, TRx, Rec, Two, Nat.zero_add, Nat.reduceAdd] at hc))
          have hqr1 := ClE.cell (w := w1.drew) hr1
          have hqj3 := ClE.cell (w := w1.drew) hrj3
          have hq := S.cellsE; simp only [CellsE, cellsE, Im, Row, El, RTH, TreeH, TR, AU, AL, Kn, TRx, Rec, Two, Nat.zero_add, Nat.reduceAdd] at hq
          refine wpIn_region_ext [] [0, 1, 2, 3, 4, 5, 6, 7, 8, 9, 10, 11, 12] (by kernel_rfl) (by kernel_rfl) (by kernel_rfl) ?_
          refine mix_last rfl ?_
          simp only [opsAt, List.getD_cons_succ, List.getD_cons_zero]
          repeat (go_big_quiet_step ((intro hC; first | rfl | (go_simp; first | done | rfl))))
          refine wpQuiet_nil ?_
          simp only [calm0]
          clear hq hqr1 hqj3 hc hr1 hrj3 hr4
          replace S := S.drew
          generalize w1.drew = w1 at S ⊢
          have hc := S.cells; simp only [Cells, cellsC, Im, Row, El, RTH, TreeH, TR, AU, AL, Kn, TRx, Rec, Two, Nat.zero_add, Nat.reduceAdd] at hc
          obtain ⟨hr1, hr2, -, hr4⟩ := S.atS x (by omega)
          by_cases hm0 : 0 < mw
          · have hm1 : 0 < (mw : Int) := by omega
            have HLK : As (linkR L W x = j) := ⟨by
              rw [HSTP.out]
              have h1 : wsR L W j ≠ [] := fun e => by have := HZW.out.2 e; omega
              have h2 : 0 < j := by
                rcases Nat.eq_zero_or_pos j with e | e
                · have := (HJ0.out e).1; omega
                · exact e
              rw [if_pos h2, if_pos h1]⟩
            gi_wp2_with (first | ((first | (with_reducible refine wlI_seal S ?_) | (with_reducible refine cwI_seal S ?_) | (with_reducible refine bpM_seal S ?_) | (with_reducible refine bp_seal S ?_) | (with_reducible refine caI_seal S ?_)); clear S; (try clear hc); intro w1 S; (try simp only [List.set_cons_zero, List.set_cons_succ, List.nil_append] at S); have hc := S.cells; simp only [Cells, cellsC, Im, Row, El, RTH, TreeH, TR, AU, AL, Kn, TRx, Rec, Two, Nat.zero_add, Nat.reduceAdd] at hc))
            have e3 : (l2.set x { kids := (l2[x]'(by omega)).kids, fall := (l2[x]'(by omega)).fall, link := (l2[x]'(by omega)).fall, words := (l2[x]'(by omega)).words }) = l'.set x ⟨(l'[x]'hxl').kids, fallR L x, linkR L W x, (l'[x]'hxl').words⟩ := by
              have := HL2.out
              subst this
              simp only [List.set_set, List.getElem_set_self, HJ.out, HLK.out]
            refine rp_seal S ?_
            clear S hc
            intro w2 S
            simp only [List.set_cons_zero, List.set_cons_succ, List.nil_append] at S
            rw [e3] at S
            refine ⟨_, _, ⟨_, ⟨HA'.out.put hxl'⟩, rfl⟩, (S.sel [1, 2, 3, 4, 5, 6, 7, 8] (by decide) rfl (by simp) : SH _ _ _ [_, _, _, _, _, _, _, _] _ _), ?_⟩
            rintro W7 L7 I7 ⟨l7, HA7, rfl⟩ - S7
            exact ⟨(S7.rdx 7 rfl).1, S7.cell 2 0 rfl rfl⟩
          · have hm1 : ¬ 0 < (mw : Int) := by omega
            have HLK : As (linkR L W x = linkR L W j) := ⟨by
              rw [HSTP.out]
              have h1 : wsR L W j = [] := HZW.out.1 (by omega)
              rcases Nat.eq_zero_or_pos j with e | e
              · rw [if_neg (by omega), (HJ0.out e).2]
              · rw [if_pos e, if_neg (by simpa using h1)]⟩
            gi_wp2_with (first | ((first | (with_reducible refine wlI_seal S ?_) | (with_reducible refine cwI_seal S ?_) | (with_reducible refine bpM_seal S ?_) | (with_reducible refine bp_seal S ?_) | (with_reducible refine caI_seal S ?_)); clear S; (try clear hc); intro w1 S; (try simp only [List.set_cons_zero, List.set_cons_succ, List.nil_append] at S); have hc := S.cells; simp only [Cells, cellsC, Im, Row, El, RTH, TreeH, TR, AU, AL, Kn, TRx, Rec, Two, Nat.zero_add, Nat.reduceAdd] at hc))
            have e3 : l2 = l'.set x ⟨(l'[x]'hxl').kids, fallR L x, linkR L W x, (l'[x]'hxl').words⟩ := by
              rw [HL2.out, HJ.out, HLK.out]
            rw [e3] at S
            refine ⟨_, _, ⟨_, ⟨HA'.out.put hxl'⟩, rfl⟩, (S.sel [1, 2, 3, 4, 5, 6, 7, 8] (by decide) rfl (by simp) : SH _ _ _ [_, _, _, _, _, _, _, _] _ _), ?_⟩
            rintro W7 L7 I7 ⟨l7, HA7, rfl⟩ - S7
            exact ⟨(S7.rdx 7 rfl).1, S7.cell 2 0 rfl rfl⟩
end Go.Proofs.Ytpgphhkhjbhimaa
namespace Go.Proofs.Ytpgphhkhjbhimaa
open Go.RowKit Go.Shelf X
theorem anew_r {F0 I0 I : Fp} {w0 w : World} {O : List Ob} {L W : List (List Int)} {b : Nat} (S : SH F0 I0 w0 O w I) (i : Nat) (e : O[i]? = some (TR b L W)) (hL : L.length ≤ 100000) (hW : W.length ≤ 1000000) (hNE : NeW W) (B : Nat) (hB : ∀ x ∈ L, x.length ≤ B) (hB1 : B ≤ 1000) :
    Calls Try.prog 32 #[.pointer (some ⟨b, 0, none⟩)] w fun e w' => ∃ a J, e = .returned (.pointer (some ⟨a, 0, none⟩)) ∧ SH F0 I0 w0 (AU a L W :: O) w' J := by
  obtain ⟨F, hI, S1, back⟩ := S.call2 i e
  refine (anew_c b L W w F I hI S1 hL hW hNE B hB hB1).mono ?_
  rintro e1 w' ⟨a, rfl, hu⟩
  obtain ⟨J, S2, _⟩ := back _ _ w' hu
  refine ⟨a, J, rfl, ?_⟩
  have hlt := lt_of_get e
  have : O.set i (TR b L W) = O := by
    rw [List.getElem?_eq_getElem hlt] at e
    rw [← Option.some.inj e, List.set_getElem_self]
  rw [this] at S2
  exact S2
end Go.Proofs.Ytpgphhkhjbhimaa
