/- A number's bytes: the program's. -/
import Derived.Test.YteaekpnmiicbhaaDoorPDcm
import Derived.Test.YteaekpnmiicbhaaDoorPMay
namespace Go.Proofs.YteaekpnmiicbhaaDoor.X
open Go.RowKit
section
variable {ety : TypeId}
/-- a byte of a row is written -/
class SetR8 (ety : TypeId) (L : List Ob) (b j : Nat) (z : UInt8) (L' : outParam (List Ob)) : Prop where
  out : ∃ i n c xs, L[i]? = some (Row (Kd.u8 ety) (.slice (some ⟨b, 0, none⟩) n c) xs) ∧ L' = L.set i (Row (Kd.u8 ety) (.slice (some ⟨b, 0, none⟩) n c) (xs.set j z))
instance (b j n c : Nat) (z : UInt8) (xs : List UInt8) (L : List Ob) : SetR8 ety (Row (Kd.u8 ety) (.slice (some ⟨b, 0, none⟩) n c) xs :: L) b j z (Row (Kd.u8 ety) (.slice (some ⟨b, 0, none⟩) n c) (xs.set j z) :: L) := ⟨0, n, c, xs, rfl, rfl⟩
instance (priority := 500) (b j : Nat) (z : UInt8) (o : Ob) (L L' : List Ob) [h : SetR8 ety L b j z L'] : SetR8 ety (o :: L) b j z (o :: L') := by
  obtain ⟨i, n, c, xs, h1, h2⟩ := h.out
  exact ⟨i + 1, n, c, xs, by simpa using h1, by rw [h2]; rfl⟩
theorem SH.put8 {F0 I0 I : Fp} {w0 w : World} {L : List Ob} {b n c : Nat} {xs : List UInt8} (s : SH F0 I0 w0 L w I) (i j : Nat) (z : UInt8) (e : L[i]? = some (Row (Kd.u8 ety) (.slice (some ⟨b, 0, none⟩) n c) xs)) :
    SH F0 I0 w0 (L.set i (Row (Kd.u8 ety) (.slice (some ⟨b, 0, none⟩) n c) (xs.set j z))) (w.setCell ⟨b, j, none⟩ (.int .u8 z.toNat)) I := by
  obtain ⟨h1, h2⟩ := (s.own i e).u8_set j z
  refine s.app i e (h1.keep fun _ _ _ => rfl) h2 (.inl rfl)
theorem SH.set8 {F0 I0 I : Fp} {w0 w : World} {L L' : List Ob} {b j : Nat} {z : UInt8} (s : SH F0 I0 w0 L w I) (h : SetR8 ety L b j z L') : SH F0 I0 w0 L' (w.setCell ⟨b, j, none⟩ (.int .u8 z.toNat)) I := by
  obtain ⟨i, n, c, xs, e, rfl⟩ := h.out
  exact s.put8 i j z e
end
end Go.Proofs.YteaekpnmiicbhaaDoor.X
namespace Go.Proofs.YteaekpnmiicbhaaDoor
open Go.RowKit Go.Shelf X
set_option maxHeartbeats 4000000
set_option maxRecDepth 8000
set_option linter.unusedSimpArgs false
set_option linter.unusedVariables false
attribute [local go_sem] Oper.semAt_some
instance (w : World) (L : List Ob) (b j : Nat) (z : UInt8) (W : World) (L' L2 : List Ob) [h : Built w L W L'] [g : SetR8 5 L' b j z L2] : Built1 w L (W.setCell ⟨b, j, none⟩ (.int .u8 z.toNat)) L2 := ⟨fun s => (h.out s).set8 g⟩
theorem bits_or_u8 {d : Nat} (hd : d < 128) : bits .or .u8 (d : Int) 128 = ((128 + d : Nat) : Int) := by
  rw [show (128 : Int) = ((128 : Nat) : Int) from rfl, u8_or_nat d 128 (by omega) (by decide)]
  congr 1
  have := Nat.shiftLeft_add_eq_or_of_lt (b := d) (i := 7) hd 1
  rw [show (1 : Nat) <<< 7 = 128 from rfl] at this
  rw [Nat.or_comm, ← this]
/-- the bytes, but for the last one's mark -/
def hiB (n : Nat) : List UInt8 := (digs 128 n).map fun d => UInt8.ofNat (128 + d)
theorem hiB_put : ∀ (f n : Nat), n < f → ∃ z : Nat, z < 128 ∧ (hiB n)[(hiB n).length - 1]? = some (UInt8.ofNat (128 + z)) ∧ (hiB n).set ((hiB n).length - 1) (UInt8.ofNat z) = putB n
  | 0, n, h => absurd h (Nat.not_lt_zero _)
  | f + 1, n, h => by
    by_cases hn : n < 128
    · refine ⟨n % 128, Nat.mod_lt _ (by decide), ?_, ?_⟩
      · unfold hiB; rw [digs_one hn]; rfl
      · unfold hiB; rw [digs_one hn, putB_small hn, Nat.mod_eq_of_lt hn]; rfl
    · obtain ⟨z, h1, h2, h3⟩ := hiB_put f (n / 128) (by have := Nat.div_lt_self (n := n) (k := 128) (by omega) (by omega); omega)
      have hc : hiB n = UInt8.ofNat (128 + n % 128) :: hiB (n / 128) := by unfold hiB; rw [digs_more hn (by decide)]; rfl
      have hp : 0 < (hiB (n / 128)).length := by
        unfold hiB
        rw [List.length_map]
        exact List.length_pos_iff.2 (digs_ne _ _)
      obtain ⟨k, hk⟩ : ∃ k, (hiB (n / 128)).length = k + 1 := ⟨(hiB (n / 128)).length - 1, by omega⟩
      rw [hk, Nat.add_sub_cancel] at h2 h3
      refine ⟨z, h1, ?_, ?_⟩
      · rw [hc, List.length_cons, hk, Nat.add_sub_cancel, List.getElem?_cons_succ]; exact h2
      · rw [hc, List.length_cons, hk, Nat.add_sub_cancel, List.set_cons_succ, h3, putB_big hn]
theorem nput_bad (n : Int) (hn : ¬ okN n) (w : World) : Calls Tryd.prog 35 #[.int .i64 n] w fun e w' => e = .returned (.tuple #[.slice none 0 0, .int .i64 1]) ∧ w = w' := by
  by_cases h : n < 0
  · have h' : decide (n < 0) = true := by simpa using h
    go_enter Tryd.func35, Tryd.ntmps35
    go_wp2
    go_ret2
    exact ⟨rfl, rfl⟩
  · have h' : decide (n < 0) = false := by simpa using h
    have h2 : decide (n > 4611686018427387903) = true := by unfold okN at hn; simp; omega
    go_enter Tryd.func35, Tryd.ntmps35
    go_wp2
    go_ret2
    exact ⟨rfl, rfl⟩
theorem nput_c (n : Nat) (hn : n ≤ 4611686018427387903) (w : World) (I : Fp) (hI : ∀ b, I b → b < w.heap.size) :
    Calls Tryd.prog 35 #[.int .i64 n] w fun e w' => ∃ v, e = .returned (.tuple #[v, .int .i64 0]) ∧ Upd w No I w' (Row kB v (putB n)) := by
  have S := (SH.start w I hI).nilrow (k := kB)
  have hn0 : decide ((n : Int) < 0) = false := by simp
  have hn2 : decide ((n : Int) > 4611686018427387903) = false := by simp; omega
  have qf : ∀ g1 g2 w, (binOp BinOp.eql 85 (.func (.func 51) #[] #[.pointer (some ⟨g1, 0, none⟩), .pointer (some ⟨g2, 0, none⟩)]) .nilFunc).run Tryd.prog w = .ok (.bool false) w := fun _ _ _ => by kernel_rfl
  have hc := S.cells; simp only [Cells, cellsC, Im, Row, El, Rec, Nat.zero_add, Nat.reduceAdd] at hc
  refine (callsIn_wide (n := 9)).1 (callsIn_of_wp_marks Tryd.func35 rfl trivial (wpIn_wide.2 ?_)); simp only [Tryd.ntmps35, List.size_toArray, List.length_cons, List.length_nil, Nat.reduceAdd, Nat.reduceSub, Array.replicate_succ, Array.replicate_zero, List.push_toArray, List.append_toArray, List.nil_append, List.cons_append]
  go_wp2_with (first | ((first | (with_reducible refine wpl_seal S ?_) | (with_reducible refine cw_seal S ?_) | (with_reducible refine bp_seal S ?_) | (with_reducible refine ca_seal S ?_)); clear S; (try clear hc); intro w1 S; (try simp only [List.set_cons_zero, List.set_cons_succ, List.nil_append] at S); have hc := S.cells; simp only [Cells, cellsC, Im, Row, El, Rec, Nat.zero_add, Nat.reduceAdd] at hc) | (go_at_call 40; refine (digits_c n 128 _ _ S.bd).mono ?_; rintro e w1 ⟨g1, g2, rfl, S2⟩; obtain ⟨J2, S3, -, -⟩ := S.comp S2; clear S hc S2; have S := S3; clear S3; simp only [List.cons_append, List.nil_append] at S; have hc := S.cells; simp only [Cells, cellsC, Im, Row, El, Rec, Nat.zero_add, Nat.reduceAdd] at hc))
  obtain ⟨gb, egb⟩ := S.name 2 rfl; rw [← egb] at S ⊢; clear egb
  have hc := S.cells; simp only [Cells, cellsC, Im, Row, El, Rec, Nat.zero_add, Nat.reduceAdd] at hc
  have hg12 : g1 ≠ g2 := S.celNe 1 0 (by decide) rfl rfl
  have HD := As.mk (digs_lt 128 (by decide) (n + 1) n (by omega))
  have HDL := As.mk (digs_len 128 (by decide) 8 n (Nat.lt_of_le_of_lt hn (by decide)))
  obtain ⟨ds, hds⟩ : ∃ ds, digs 128 n = ds := ⟨_, rfl⟩
  have HDS := As.mk hds
  rw [hds] at HD HDL
  refine (wpIn_wide (n := 9)).1 ?_
  refine S.range (gf := 51) (lb := #[.pointer (some ⟨g1, 0, none⟩), .pointer (some ⟨g2, 0, none⟩)]) rfl (enters_of Tryd.func51 (by kernel_rfl) rfl) (digclo_c 128 n g1 g2 (by decide) (by decide) (by omega) hg12) (fun _ => rfl)
    (fun pre L' I' => ∃ (m : Nat) (v : Value), L' = [Cel g2 83 [.int .u64 (128 : Nat)], Cel g1 83 [.int .u64 m], Cel gb 49 [v], Row kB v (pre.map fun d => UInt8.ofNat (128 + d))]) (fun _ _ _ => False) ⟨n, _, rfl⟩ ?st ?own ?ownx ?round ?done ?stop
  case st =>
    intro W4 o1 o2 _ S4
    exact ⟨S4.cel 3 rfl, S4.cel 2 rfl⟩
  case own =>
    rintro pre L' I' X Y o1 o2 ⟨m, v, rfl⟩ s ⟨he1, he2⟩
    obtain ⟨m', hm'⟩ := he2 m (s.cel 3 rfl)
    exact ⟨_, I', ⟨m', v, rfl⟩, s.updI 3 rfl (h' := Cel g1 83 [.int .u64 m']) fun F ⟨_, hF⟩ hb => ⟨F, ⟨hm', hF⟩, fun k hk => ⟨Nat.lt_of_lt_of_le (hb k hk).1 he1.size, .inl hk⟩, he1.mono fun k _ e => by rw [show k = g1 from e]; exact hF⟩⟩
  case ownx => exact fun _ _ _ _ _ _ _ h => h.elim
  case stop => exact fun _ _ _ _ _ h => h.elim
  case done =>
    rintro D L' I' W5 ⟨m, v, rfl⟩ S
    dsimp only
    obtain ⟨Av, cv, rfl, hcv, -⟩ := S.row 4 rfl
    obtain ⟨z, hz, hb1, hb2⟩ := hiB_put (n + 1) n (by omega)
    obtain ⟨us, hus⟩ : ∃ us, hiB n = us := ⟨_, rfl⟩
    have hul : us.length ≤ 9 := by rw [← hus]; unfold hiB; rw [List.length_map, HDS.out]; exact HDL.out
    have hu1 : 0 < us.length := by
      rw [← hus]; unfold hiB
      rw [List.length_map]
      exact List.length_pos_iff.2 (digs_ne _ _)
    replace S : SH No I w [Rec D (.deferred (some [])), Cel g2 83 [.int .u64 (128 : Nat)], Cel g1 83 [.int .u64 m], Cel gb 49 [.slice Av (hiB n).length cv], Row kB (.slice Av (hiB n).length cv) (hiB n)] W5 I' := S
    rw [hus] at S hb1 hb2
    obtain ⟨g, rfl⟩ : ∃ g, Av = some ⟨g, 0, none⟩ := by
      obtain ⟨A, c, e, -, h⟩ := (S.own 4 rfl).form
      obtain ⟨g, h1, -⟩ := h (by rintro rfl; simp at hu1)
      rw [Value.slice.injEq] at e
      exact ⟨g, e.1.trans h1⟩
    have hzz := u8_small (n := 128 + z) (by omega)
    obtain ⟨k, hk⟩ : ∃ k, us.length = k + 1 := ⟨us.length - 1, by omega⟩
    obtain ⟨hlt, hb3⟩ := List.getElem?_eq_some_iff.1 hb1
    have hck := (S.own 4 rfl).u8_cell hlt
    rw [hb3, hzz] at hck
    have hfz := (S.own 4 rfl).not_frozen (us.length - 1)
    obtain ⟨zc, hzc⟩ : ∃ zc, UInt8.ofNat z = zc := ⟨_, rfl⟩
    have hand : bits .andNot .u8 (128 + (z : Int)) 128 = (zc.toNat : Int) := by
      rw [show 128 + (z : Int) = ((128 + z : Nat) : Int) by simp, bits_andNot_u8 (128 + z) (by omega), ← hzc, u8_small (n := z) (by omega)]
      congr 1
      omega
    rw [hk, Nat.add_sub_cancel] at hck hfz
    rw [hzc, hk, Nat.add_sub_cancel] at hb2
    have HB2 := As.mk hb2
    rw [hk] at S
    have hk9 : k ≤ 8 := by omega
    clear hb1 hb2 hb3 hus hcv hk hlt hul hu1
    have hc := S.cells; simp only [Cells, cellsC, Im, Row, El, Rec, Nat.zero_add, Nat.reduceAdd] at hc
    go_wp2_with (first | ((first | (with_reducible refine wpl_seal S ?_) | (with_reducible refine cw_seal S ?_) | (with_reducible refine bpM_seal S ?_) | (with_reducible refine bp_seal S ?_) | (with_reducible refine ca_seal S ?_)); clear S; (try clear hc); intro w1 S; (try simp only [List.set_cons_zero, List.set_cons_succ, List.nil_append] at S); have hc := S.cells; simp only [Cells, cellsC, Im, Row, El, Rec, Nat.zero_add, Nat.reduceAdd] at hc))
    rw [HB2.out] at S
    refine ⟨by simp, .inl ⟨_, _, rfl, run_takeDeferred (S.recd 0 rfl), ?_⟩⟩
    have S5 := S.putRec 0 rfl (.deferred none)
    exact ⟨_, results_tmp2 rfl _ _ _, _, rfl, S5.ret 4 rfl⟩
  case round =>
    rintro lo D r1 r2 pre x L' I' W5 hpre ⟨m, v, rfl⟩ S
    rw [HDS.out] at hpre
    obtain ⟨rest, hpr⟩ := hpre
    have hx10 : x < 128 := HD.out x (by rw [← hpr]; simp)
    have hpl : (pre.map fun d => UInt8.ofNat (128 + d)).length ≤ 9 := by
      have := congrArg List.length hpr
      have h2 := HDL.out
      simp only [List.length_append, List.length_cons, List.length_nil] at this
      rw [List.length_map]
      omega
    have HM : As ((pre ++ [x]).map (fun d => UInt8.ofNat (128 + d)) = pre.map (fun d => UInt8.ofNat (128 + d)) ++ [UInt8.ofNat (128 + x)]) := ⟨by rw [List.map_append]; rfl⟩
    have hu := u8_small (n := 128 + x) (by omega)
    have hor := bits_or_u8 hx10
    generalize pre.map (fun d => UInt8.ofNat (128 + d)) = ys at S hpl HM
    clear hpr
    have hc := S.cells; simp only [Cells, cellsC, Im, Row, El, Rec, Nat.zero_add, Nat.reduceAdd] at hc
    simp only [List.zip_toArray, List.foldl_toArray', List.foldl_cons, List.foldl_nil, List.zip_cons_cons, List.zip_nil_left, List.setIfInBounds_toArray, List.set_cons_succ, List.set_cons_zero]
    gi_wp2_with (first | ((first | (with_reducible refine wlI_seal S ?_) | (with_reducible refine cwI_seal S ?_) | (with_reducible refine bpM_seal S ?_) | (with_reducible refine bp_seal S ?_) | (with_reducible refine caI_seal S ?_)); clear S; (try clear hc); intro w1 S; (try simp only [List.set_cons_zero, List.set_cons_succ, List.nil_append] at S); have hc := S.cells; simp only [Cells, cellsC, Im, Row, El, Rec, Nat.zero_add, Nat.reduceAdd] at hc))
    refine ⟨_, _, S, ?_⟩
    have H51 := As.mk (S.cel 3 rfl)
    have H52 := As.mk (S.cel 2 rfl)
    clear S hc
    intro W6 hch S
    have hc := S.cells; simp only [Cells, cellsC, Im, Row, El, Rec, Nat.zero_add, Nat.reduceAdd] at hc
    gi_wp2_with (first | ((first | (with_reducible refine wlI_seal S ?_) | (with_reducible refine cwI_seal S ?_) | (with_reducible refine bpM_seal S ?_) | (with_reducible refine bp_seal S ?_) | (with_reducible refine caI_seal S ?_)); clear S; (try clear hc); intro w1 S; (try simp only [List.set_cons_zero, List.set_cons_succ, List.nil_append] at S); have hc := S.cells; simp only [Cells, cellsC, Im, Row, El, Rec, Nat.zero_add, Nat.reduceAdd] at hc) | (gi_at_builtin; refine wlI_push S 6 rfl rfl _ _ rfl ty_u8s rfl (UInt8.ofNat (128 + x)) _ _ rfl [_] _ (S.cel 0 rfl) (by show [Value.int .u8 _] = [Value.int .u8 _]; rw [hu]; simp) (by (try simp only [maxLen, List.length_nil, List.length_append, List.length_cons]); omega) (by (try simp only [maxLen, List.length_nil, List.length_append, List.length_cons]); omega) ?_; clear S; (try clear hc); intro va w1 S; simp only [List.set_cons_zero, List.set_cons_succ, List.nil_append] at S; obtain ⟨Av, cv, eva, -, -⟩ := S.row 6 rfl; subst eva; have hc := S.cells; simp only [Cells, cellsC, Im, Row, El, Rec, Nat.zero_add, Nat.reduceAdd] at hc))
    rw [show (ys ++ [UInt8.ofNat (128 + x)]).length = ys.length + 1 by simp, ← HM.out] at S
    have S3 := S.put 5 0 (.slice Av (ys.length + 1) cv) rfl
    have n1 : g1 ≠ lo := S3.recNe 1 4 (by decide) rfl rfl
    have n2 : g2 ≠ lo := S3.recNe 1 3 (by decide) rfl rfl
    refine ⟨_, I', ⟨m, _, rfl⟩, S3.sel [1, 2, 3, 4, 5, 6] (by decide) rfl (by simp), ?_⟩
    intro W4 L4 I4 _ hc4 _ m' q hD
    exact dgc_keep hD H51.out H52.out (S3.cel 4 rfl) (S3.cel 3 rfl) hc4 n1 n2
end Go.Proofs.YteaekpnmiicbhaaDoor
