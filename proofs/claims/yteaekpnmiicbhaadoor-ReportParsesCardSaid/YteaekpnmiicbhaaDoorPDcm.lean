/- A number's text, and its bytes: the program's. -/
import Derived.Test.YteaekpnmiicbhaaDoorPRev
import Derived.Shelf.Abstract
namespace Go.Proofs.YteaekpnmiicbhaaDoor.X
open Go.RowKit
section
variable {F0 I0 : Fp} {w0 w : World} {L : List Ob} {I : Fp}
theorem SH.recNe (s : SH F0 I0 w0 L w I) (i j : Nat) (hij : i ≠ j) {l b : Nat} {o : Obj} {t : TypeId} {c : List Value} (ei : L[i]? = some (Rec l o)) (ej : L[j]? = some (Cel b t c)) : b ≠ l := by
  obtain ⟨_, _, _, Fs, h1, _, h3⟩ := s
  rintro rfl
  exact h3 i j b hij (h1 i _ ei).2 (h1 j _ ej).2
theorem SH.celNe (s : SH F0 I0 w0 L w I) (i j : Nat) (hij : i ≠ j) {a b : Nat} {t t' : TypeId} {c c' : List Value} (ei : L[i]? = some (Cel a t c)) (ej : L[j]? = some (Cel b t' c')) : a ≠ b := by
  obtain ⟨_, _, _, Fs, h1, _, h3⟩ := s
  rintro rfl
  exact h3 i j a hij (h1 i _ ei).2 (h1 j _ ej).2
end
theorem Own.addr {α : Type} {k : Kd α} {w : World} {B : Nat} {D : Fp} {A : Option Addr} {n c : Nat} {xs : List α} (h : Own k w B D (.slice A n c) xs) : A = none ∨ ∃ b o, A = some ⟨b, o, none⟩ := by
  obtain ⟨cells, ⟨ho, _⟩, _⟩ := h
  rcases ho.2 with ⟨e, _⟩ | ⟨g, _, _, e, _⟩
  · cases e; exact .inl rfl
  · cases e; exact .inr ⟨_, _, rfl⟩
end Go.Proofs.YteaekpnmiicbhaaDoor.X
namespace Go.Proofs.YteaekpnmiicbhaaDoor
open Go.RowKit Go.Shelf X
set_option maxHeartbeats 4000000
set_option maxRecDepth 8000
set_option linter.unusedSimpArgs false
set_option linter.unusedVariables false
attribute [local go_sem] Oper.semAt_some
section
variable {F0 I0 I : Fp} {w0 w : World} {O : List Ob}
theorem digits_c (n b : Nat) (w : World) (I : Fp) (hI : ∀ b, I b → b < w.heap.size) :
    Calls Tryd.prog 40 #[.int .u64 n, .int .u64 b] w fun e w' => ∃ g1 g2, e = .returned (.func (.func 51) #[] #[.pointer (some ⟨g1, 0, none⟩), .pointer (some ⟨g2, 0, none⟩)]) ∧ SH No I w [Cel g2 83 [.int .u64 b], Cel g1 83 [.int .u64 n]] w' I := by
  have S := SH.start w I hI
  have hc := S.cells; simp only [Cells, cellsC, Im, Row, El, Rec, Nat.zero_add, Nat.reduceAdd] at hc
  go_enter Tryd.func40, Tryd.ntmps40
  go_wp2_with (first | ((first | (with_reducible refine wpl_seal S ?_) | (with_reducible refine cw_seal S ?_) | (with_reducible refine bp_seal S ?_) | (with_reducible refine ca_seal S ?_)); clear S; (try clear hc); intro w1 S; (try simp only [List.set_cons_zero, List.set_cons_succ, List.nil_append] at S); have hc := S.cells; simp only [Cells, cellsC, Im, Row, El, Rec, Nat.zero_add, Nat.reduceAdd] at hc))
  obtain ⟨g1, eg1⟩ := S.name 1 rfl; rw [← eg1] at S ⊢; clear eg1
  obtain ⟨g2, eg2⟩ := S.name 0 rfl; rw [← eg2] at S ⊢; clear eg2
  go_ret
  exact ⟨g1, g2, rfl, S⟩
end
theorem dgc_keep {W W3 W4 : World} {g1 g2 m q m' q' l : Nat} (h : DgC W g1 g2 m' q') (h1 : W.heap[g1]? = some (.cells #[.int .u64 m] 83 (0, 0))) (h2 : W.heap[g2]? = some (.cells #[.int .u64 q] 83 (0, 0)))
    (k1 : W3.heap[g1]? = some (.cells #[.int .u64 m] 83 (0, 0))) (k2 : W3.heap[g2]? = some (.cells #[.int .u64 q] 83 (0, 0))) (hc : Chg (fun k => k = l) W3 W4) (n1 : g1 ≠ l) (n2 : g2 ≠ l) : DgC W4 g1 g2 m' q' := by
  obtain ⟨e1, e2⟩ := h
  rw [h1] at e1
  rw [h2] at e2
  refine ⟨?_, ?_⟩
  · rw [← e1]; exact (hc.block _ (lt_of_heap k1) n1).trans k1
  · rw [← e2]; exact (hc.block _ (lt_of_heap k2) n2).trans k2
theorem revB_s {F0 I0 I : Fp} {w0 w : World} {O : List Ob} {v : Value} {xs : List UInt8} (S : SH F0 I0 w0 O w I) (i : Nat) (e : O[i]? = some (Row kB v xs)) (hn : xs.length ≤ 1048576) :
    Calls Tryd.prog 41 #[v] w fun e w' => e = .returned (.tuple #[]) ∧ SH F0 I0 w0 (O.set i (Row kB v xs.reverse)) w' I := by
  refine (revB_c xs v 0 I w (S.own i e) hn).mono ?_
  rintro e1 w' ⟨rfl, ho, hg⟩
  exact ⟨rfl, S.app i e ho hg (.inl rfl)⟩
/-- a number's text -/
def decL (n : Nat) : List UInt8 := ((digs 10 n).map fun d => UInt8.ofNat (48 + d)).reverse
theorem decimal_c (n : Nat) (hn : n < 9223372036854775808) (w : World) (I : Fp) (hI : ∀ b, I b → b < w.heap.size) :
    Calls Tryd.prog 23 #[.int .i64 n] w fun e w' => e = .returned (strV (decL n)) ∧ Ext w w' := by
  have S := (SH.start w I hI).nilrow (k := kB)
  have hn0 : decide ((n : Int) < 0) = false := by simp
  have qf : ∀ g1 g2 w, (binOp BinOp.eql 85 (.func (.func 51) #[] #[.pointer (some ⟨g1, 0, none⟩), .pointer (some ⟨g2, 0, none⟩)]) .nilFunc).run Tryd.prog w = .ok (.bool false) w := fun _ _ _ => by kernel_rfl
  have hc := S.cells; simp only [Cells, cellsC, Im, Row, El, Rec, Nat.zero_add, Nat.reduceAdd] at hc
  refine (callsIn_wide (n := 9)).1 (callsIn_of_wp_marks Tryd.func23 rfl trivial (wpIn_wide.2 ?_)); simp only [Tryd.ntmps23, List.size_toArray, List.length_cons, List.length_nil, Nat.reduceAdd, Nat.reduceSub, Array.replicate_succ, Array.replicate_zero, List.push_toArray, List.append_toArray, List.nil_append, List.cons_append]
  go_wp2_with (first | ((first | (with_reducible refine wpl_seal S ?_) | (with_reducible refine cw_seal S ?_) | (with_reducible refine bp_seal S ?_) | (with_reducible refine ca_seal S ?_)); clear S; (try clear hc); intro w1 S; (try simp only [List.set_cons_zero, List.set_cons_succ, List.nil_append] at S); have hc := S.cells; simp only [Cells, cellsC, Im, Row, El, Rec, Nat.zero_add, Nat.reduceAdd] at hc) | (go_at_call 40; refine (digits_c n 10 _ _ S.bd).mono ?_; rintro e w1 ⟨g1, g2, rfl, S2⟩; obtain ⟨J2, S3, -, -⟩ := S.comp S2; clear S hc S2; have S := S3; clear S3; simp only [List.cons_append, List.nil_append] at S; have hc := S.cells; simp only [Cells, cellsC, Im, Row, El, Rec, Nat.zero_add, Nat.reduceAdd] at hc))
  obtain ⟨gb, egb⟩ := S.name 2 rfl; rw [← egb] at S ⊢; clear egb
  have hc := S.cells; simp only [Cells, cellsC, Im, Row, El, Rec, Nat.zero_add, Nat.reduceAdd] at hc
  have hg12 : g1 ≠ g2 := S.celNe 1 0 (by decide) rfl rfl
  have HD := As.mk (digs_lt 10 (by decide) (n + 1) n (by omega))
  have HDL := As.mk (digs_len 10 (by decide) 18 n (Nat.lt_of_lt_of_le hn (by decide)))
  obtain ⟨ds, hds⟩ : ∃ ds, digs 10 n = ds := ⟨_, rfl⟩
  have HDS := As.mk hds
  rw [hds] at HD HDL
  refine (wpIn_wide (n := 9)).1 ?_
  refine S.range (gf := 51) (lb := #[.pointer (some ⟨g1, 0, none⟩), .pointer (some ⟨g2, 0, none⟩)]) rfl (enters_of Tryd.func51 (by kernel_rfl) rfl) (digclo_c 10 n g1 g2 (by decide) (by decide) (by omega) hg12) (fun _ => rfl)
    (fun pre L' I' => ∃ (m : Nat) (v : Value), L' = [Cel g2 83 [.int .u64 (10 : Nat)], Cel g1 83 [.int .u64 m], Cel gb 49 [v], Row kB v (pre.map fun d => UInt8.ofNat (48 + d))]) (fun _ _ _ => False) ⟨n, _, rfl⟩ ?st ?own ?ownx ?round ?done ?stop
  case st =>
    intro W4 o1 o2 _ S4
    exact ⟨S4.cel 3 rfl, S4.cel 2 rfl⟩
  case own =>
    rintro pre L' I' X Y o1 o2 ⟨m, v, rfl⟩ s ⟨he1, he2⟩
    obtain ⟨m', hm'⟩ := he2 m (s.cel 3 rfl)
    exact ⟨_, I', ⟨m', v, rfl⟩, s.updI 3 rfl (h' := Cel g1 83 [.int .u64 m']) fun F ⟨_, hF⟩ hb => ⟨F, ⟨hm', hF⟩, fun k hk => ⟨Nat.lt_of_lt_of_le (hb k hk).1 he1.size, .inl hk⟩, he1.mono fun k _ e => by rw [show k = g1 from e]; exact hF⟩⟩
  case ownx => exact fun _ _ _ _ _ _ _ h => h.elim
  case stop => exact fun _ _ _ _ _ h => h.elim
  case done =>
    rintro D L' I' W5 ⟨m, v, rfl⟩ S
    dsimp only
    obtain ⟨Av, cv, rfl, hcv, -⟩ := S.row 4 rfl
    obtain ⟨us, hus⟩ : ∃ us, (digs 10 n).map (fun d => UInt8.ofNat (48 + d)) = us := ⟨_, rfl⟩
    have HUS : As (us.reverse = decL n) := ⟨by rw [← hus]; rfl⟩
    have hul : us.length ≤ 19 := by rw [← hus, List.length_map, HDS.out]; exact HDL.out
    rw [hus] at S hcv
    clear hus
    have hc := S.cells; simp only [Cells, cellsC, Im, Row, El, Rec, Nat.zero_add, Nat.reduceAdd] at hc
    go_wp2_with (first | ((first | (with_reducible refine wpl_seal S ?_) | (with_reducible refine cw_seal S ?_) | (with_reducible refine bpM_seal S ?_) | (with_reducible refine bp_seal S ?_) | (with_reducible refine ca_seal S ?_)); clear S; (try clear hc); intro w1 S; (try simp only [List.set_cons_zero, List.set_cons_succ, List.nil_append] at S); have hc := S.cells; simp only [Cells, cellsC, Im, Row, El, Rec, Nat.zero_add, Nat.reduceAdd] at hc) | (go_at_call 41; refine (revB_s S 4 rfl (by omega)).mono ?_; rintro e w1 ⟨rfl, S9⟩; clear S hc; have S := S9; clear S9; simp only [List.set_cons_zero, List.set_cons_succ, List.nil_append] at S; obtain ⟨A9, c9, e9, -, hs9⟩ := S.row 4 rfl; rw [Value.slice.injEq] at e9; obtain ⟨rfl, -, rfl⟩ := e9; have hcvt := conv_sl Tryd.underlying49 Tryd.underlying5 Tryd.underlying9 hs9 cv (fun _ => (S.own 4 rfl).addr); rw [List.length_reverse, HUS.out] at hcvt; clear hs9; have hc := S.cells; simp only [Cells, cellsC, Im, Row, El, Rec, Nat.zero_add, Nat.reduceAdd] at hc))
    refine ⟨by simp, .inl ⟨_, _, rfl, run_takeDeferred (S.recd 0 rfl), ?_⟩⟩
    have S5 := S.putRec 0 rfl (.deferred none)
    exact ⟨_, results_tmp rfl _ _ _, rfl, S5.out⟩
  case round =>
    rintro lo D r1 r2 pre x L' I' W5 hpre ⟨m, v, rfl⟩ S
    rw [HDS.out] at hpre
    obtain ⟨rest, hpr⟩ := hpre
    have hx10 : x < 10 := HD.out x (by rw [← hpr]; simp)
    have hpl : (pre.map fun d => UInt8.ofNat (48 + d)).length ≤ 19 := by
      have := congrArg List.length hpr
      have h2 := HDL.out
      simp only [List.length_append, List.length_cons, List.length_nil] at this
      rw [List.length_map]
      omega
    have HM : As ((pre ++ [x]).map (fun d => UInt8.ofNat (48 + d)) = pre.map (fun d => UInt8.ofNat (48 + d)) ++ [UInt8.ofNat (48 + x)]) := ⟨by rw [List.map_append]; rfl⟩
    have hu := u8_small (n := 48 + x) (by omega)
    generalize pre.map (fun d => UInt8.ofNat (48 + d)) = ys at S hpl HM
    clear hpr
    have hc := S.cells; simp only [Cells, cellsC, Im, Row, El, Rec, Nat.zero_add, Nat.reduceAdd] at hc
    simp only [List.zip_toArray, List.foldl_toArray', List.foldl_cons, List.foldl_nil, List.zip_cons_cons, List.zip_nil_left, List.setIfInBounds_toArray, List.set_cons_succ, List.set_cons_zero]
    gi_wp2_with (first | ((first | (with_reducible refine wlI_seal S ?_) | (with_reducible refine cwI_seal S ?_) | (with_reducible refine bpM_seal S ?_) | (with_reducible refine bp_seal S ?_) | (with_reducible refine caI_seal S ?_)); clear S; (try clear hc); intro w1 S; (try simp only [List.set_cons_zero, List.set_cons_succ, List.nil_append] at S); have hc := S.cells; simp only [Cells, cellsC, Im, Row, El, Rec, Nat.zero_add, Nat.reduceAdd] at hc))
    refine ⟨_, _, S, ?_⟩
    have H51 := As.mk (S.cel 3 rfl)
    have H52 := As.mk (S.cel 2 rfl)
    clear S hc
    intro W6 hch S
    have hc := S.cells; simp only [Cells, cellsC, Im, Row, El, Rec, Nat.zero_add, Nat.reduceAdd] at hc
    gi_wp2_with (first | ((first | (with_reducible refine wlI_seal S ?_) | (with_reducible refine cwI_seal S ?_) | (with_reducible refine bpM_seal S ?_) | (with_reducible refine bp_seal S ?_) | (with_reducible refine caI_seal S ?_)); clear S; (try clear hc); intro w1 S; (try simp only [List.set_cons_zero, List.set_cons_succ, List.nil_append] at S); have hc := S.cells; simp only [Cells, cellsC, Im, Row, El, Rec, Nat.zero_add, Nat.reduceAdd] at hc) | (gi_at_builtin; refine wlI_push S 6 rfl rfl _ _ rfl ty_u8s rfl (UInt8.ofNat (48 + x)) _ _ rfl [_] _ (S.cel 0 rfl) (by show [Value.int .u8 _] = [Value.int .u8 _]; rw [hu]; simp) (by (try simp only [maxLen, List.length_nil, List.length_append, List.length_cons]); omega) (by (try simp only [maxLen, List.length_nil, List.length_append, List.length_cons]); omega) ?_; clear S; (try clear hc); intro va w1 S; simp only [List.set_cons_zero, List.set_cons_succ, List.nil_append] at S; obtain ⟨Av, cv, eva, -, -⟩ := S.row 6 rfl; subst eva; have hc := S.cells; simp only [Cells, cellsC, Im, Row, El, Rec, Nat.zero_add, Nat.reduceAdd] at hc))
    rw [show (ys ++ [UInt8.ofNat (48 + x)]).length = ys.length + 1 by simp, ← HM.out] at S
    have S3 := S.put 5 0 (.slice Av (ys.length + 1) cv) rfl
    have n1 : g1 ≠ lo := S3.recNe 1 4 (by decide) rfl rfl
    have n2 : g2 ≠ lo := S3.recNe 1 3 (by decide) rfl rfl
    refine ⟨_, I', ⟨m, _, rfl⟩, S3.sel [1, 2, 3, 4, 5, 6] (by decide) rfl (by simp), ?_⟩
    intro W4 L4 I4 _ hc4 _ m' q hD
    exact dgc_keep hD H51.out H52.out (S3.cel 4 rfl) (S3.cel 3 rfl) hc4 n1 n2
end Go.Proofs.YteaekpnmiicbhaaDoor
