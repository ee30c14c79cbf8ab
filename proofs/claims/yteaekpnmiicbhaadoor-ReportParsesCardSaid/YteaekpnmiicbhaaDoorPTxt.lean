/- Records' text: the pieces. -/
import Derived.Test.YteaekpnmiicbhaaDoorPDcm
import Derived.Test.YteaekpnmiicbhaaDoorPMay
import Derived.Test.YteaekpnmiicbhaaDoorShelf
namespace Go.Proofs.YteaekpnmiicbhaaDoor
open Go.RowKit X
set_option maxHeartbeats 1000000
set_option maxRecDepth 8000
set_option linter.unusedSimpArgs false
set_option linter.unusedVariables false
theorem strCells_u8 (zs : List UInt8) : Lib.strCells ⟨zs.toArray⟩ = zs.map fun x => Value.int .u8 x.toNat := by simp [Lib.strCells]
section
variable {F0 I0 I : Fp} {w0 w : World} {O : List Ob}
/-- the run of an append of a text -/
theorem run_appS (ty : TypeId) {D : Fp} {v : Value} {xs : List UInt8} (hown : X.Own kB w 0 D v xs) (zs : List UInt8) (h63 : xs.length + zs.length ≤ 1000000) (hD : ∀ b, D b → b < w.heap.size) :
    ∃ v' w', (Builtin.append_ #[49, 9] ty #[v, strV zs]).run Tryd.prog w = .ok v' w' ∧ X.Own kB w' 0 D v' (xs ++ zs) ∧ w.grownBy w' v.ownBlock ∧ (v'.ownBlock = v.ownBlock ∨ v'.ownBlock = some w.heap.size) := by
  obtain ⟨cells, ⟨ho, hn⟩, hf⟩ := hown
  replace ho : w.ownsRow 0 5 1 v xs.length cells := ho
  obtain ⟨i, hi, hz, hs1, hb1⟩ := info_parts (show (Tryd.prog.info? 5).map (fun i => (i.zero, i.size, i.bytes)) = some (some (.int .u8 0), 1, 1) by kernel_rfl)
  have hzl : (⟨zs.toArray⟩ : ByteArray).size = zs.length := by show zs.toArray.size = _; simp
  have ht := Tryd.underlying49
  have hu := Tryd.underlying9
  rw [Flat.u8] at hf
  have key : ∀ base, base ≤ w.heap.size → w.ownsRow base 5 1 v xs.length cells → ∃ v' w', (Builtin.append_ #[49, 9] ty #[v, strV zs]).run Tryd.prog w = .ok v' w' ∧ w'.ownsRow base 5 1 v' (xs.length + zs.length) (cells ++ zs.map fun x => Value.int .u8 x.toNat) ∧ w.grownBy w' v.ownBlock := fun base hbase ho => by
    obtain ⟨v', w', h1, h2, h3, -⟩ := Lib.run_append_own_string (P := Tryd.prog) w base 49 9 ty 5 i ht hu hi hz hs1 hb1 v xs.length cells ho ⟨zs.toArray⟩ (by unfold maxLen; omega) (by omega) hbase
    rw [hzl, strCells_u8] at h2
    exact ⟨v', w', h1, h2, h3⟩
  have fin : ∀ v' w', w'.ownsRow 0 5 1 v' (xs.length + zs.length) (cells ++ zs.map fun x => Value.int .u8 x.toNat) → (v'.ownBlock = v.ownBlock ∨ v'.ownBlock = some w.heap.size) → X.Own kB w' 0 D v' (xs ++ zs) := fun v' w' h4 h => by
    refine ⟨cells ++ zs.map fun x => Value.int .u8 x.toNat, ⟨by rw [List.length_append]; exact h4, fun g hg hDg => ?_⟩, by rw [Flat.u8, hf, List.map_append]⟩
    rcases h with h | h
    · exact hn g (h ▸ hg) hDg
    · rw [h] at hg; cases hg; exact Nat.lt_irrefl _ (hD _ hDg)
  rcases ho.2 with ⟨rfl, h0⟩ | ⟨g, cap, cur, rfl, hbg, hg, hnc, hcm, hcs, htake⟩
  · have ho1 : w.ownsRow w.heap.size 5 1 (.slice none 0 0) xs.length cells := ⟨ho.1, .inl ⟨rfl, h0⟩⟩
    obtain ⟨v', w', h1, h2, h3⟩ := key _ (Nat.le_refl _) ho1
    have h4 : v'.ownBlock = none ∨ v'.ownBlock = some w.heap.size ∨ ∃ g, v'.ownBlock = some g ∧ w.heap.size ≤ g := by
      rcases h2.2 with ⟨rfl, _⟩ | ⟨g, _, _, rfl, hg, _⟩
      · exact .inl rfl
      · exact .inr (.inr ⟨g, rfl, hg⟩)
    have h5 : w'.ownsRow 0 5 1 v' (xs.length + zs.length) (cells ++ zs.map fun x => Value.int .u8 x.toNat) := by
      refine ⟨h2.1, ?_⟩
      rcases h2.2 with h | ⟨g, cap, cur, e, _, r⟩
      · exact .inl h
      · exact .inr ⟨g, cap, cur, e, Nat.zero_le _, r⟩
    by_cases hm : zs = []
    · subst hm
      have hx : xs = [] := List.eq_nil_of_length_eq_zero h0
      subst hx
      have h6 : v'.ownBlock = none ∨ v'.ownBlock = some w.heap.size := by
        obtain ⟨v2, w2, k1, k2, k3, k4⟩ := Lib.run_append_own_string (P := Tryd.prog) w 0 49 9 ty 5 i ht hu hi hz hs1 hb1 (.slice none 0 0) 0 cells (by simpa using ho) ⟨#[]⟩ (by unfold maxLen; decide) (by decide) (Nat.zero_le _)
        rw [show strV [] = Value.string ⟨#[]⟩ from rfl, k1] at h1
        cases h1
        rw [k4.2 ⟨rfl, rfl⟩]
        exact .inl rfl
      exact ⟨v', w', h1, fin _ _ h5 h6, h3, h6⟩
    · have hr := run_append_nil_string (P := Tryd.prog) w 49 9 ty 5 i (.int .u8 0) ht hu hi hz ⟨zs.toArray⟩ (by rw [hzl]; exact List.length_pos_iff.2 hm) (by rw [hzl]; omega) (by rw [hb1, hzl]; omega)
      rw [hr] at h1
      cases h1
      exact ⟨_, _, hr, fin _ _ h5 (.inr rfl), h3, .inr rfl⟩
  · obtain ⟨v', w', h1, h2, h3⟩ := key 0 (Nat.zero_le _) ho
    by_cases hroom : xs.length + zs.length ≤ cap
    · have hr := Lib.run_append_room_string (P := Tryd.prog) w 49 9 ty 5 i ht hu hi hs1 g xs.length cap cur hg ⟨zs.toArray⟩ (by rw [hzl]; exact hroom) (by rw [hzl]; rw [Nat.mul_one] at hcs; omega)
      rw [hr] at h1
      cases h1
      exact ⟨_, _, hr, fin _ _ h2 (.inl rfl), h3, .inl rfl⟩
    · have hr := Lib.run_append_grow_string (P := Tryd.prog) w 49 9 ty 5 i (.int .u8 0) ht hu hi hz ⟨g, 0, none⟩ xs.length cap cells (by rw [hs1]; simpa using ho.1) (ho.cells (g := g) rfl) ⟨zs.toArray⟩ (by rw [hzl]; omega) (by rw [hzl]; omega) (by rw [hb1]; exact growslice_fits (by rw [hzl]; omega) (by rw [hzl]; omega))
      rw [hr] at h1
      cases h1
      exact ⟨_, _, hr, fin _ _ h2 (.inr rfl), h3, .inr rfl⟩
/-- 'append(out, s...)' of a text -/
theorem wpl_appS {ops : Array Oper} {rest : List Oper} {o : Oper} {a : Act} {Q : Exit → Act → World → Prop} (s : SH F0 I0 w0 O w I) (i : Nat) {v : Value} {xs : List UInt8} (e : O[i]? = some (Row kB v xs)) (hgd : o.guard = none) (sx x : Operand) (ho : o.op = .call { callee := .builtin .append, args := #[sx, x], argTypes := #[49, 9] })
    (hs : a.eval sx = v) (zs : List UInt8) (hx : a.eval x = strV zs) (h63 : xs.length + zs.length ≤ 1000000)
    (h : ∀ v' w', SH F0 I0 w0 (O.set i (Row kB v' (xs ++ zs))) w' I → wpList Tryd.prog ops Q rest (a.put o.dst v') w') : wpList Tryd.prog ops Q (o :: rest) a w := by
  refine wpList_plain hgd fun K hK => ?_
  obtain ⟨v', w', hr, h2, h3, h4⟩ := run_appS o.type (s.own i e) zs h63 s.bd
  unfold Oper.wp execOp
  simp only [ho, resolve, invoke, builtin, Sem.run_bind, Sem.run_pure, Result.andThen_ok, List.map_toArray, List.map_cons, List.map_nil, hs, hx, hr]
  exact hK _ _ (h v' w' (s.app i e h2 h3 h4))
theorem noEsc (w : World) (x : Value) : (callFunc 52 #[x]).run Tryd.prog w = .ok (.value x) w := by
  rw [run_callFunc_extern Tryd.func52 (by kernel_rfl) (by kernel_rfl) (by kernel_rfl) (e := Extern.AbiNoEscape.same) (by kernel_rfl), Lib.run_noEscape]
  rfl
theorem copyCheck_s {gb : Nat} {p v : Value} (S : SH F0 I0 w0 O w I) (i : Nat) (e : O[i]? = some (Cel gb 59 [p, v])) (hp : p = .pointer none ∨ p = .pointer (some ⟨gb, 0, none⟩)) :
    Calls Tryd.prog 42 #[.pointer (some ⟨gb, 0, none⟩)] w fun e w' => e = .returned (.tuple #[]) ∧ SH F0 I0 w0 (O.set i (Cel gb 59 [.pointer (some ⟨gb, 0, none⟩), v])) w' I := by
  obtain ⟨j, hj, hjs⟩ := Option.map_eq_some_iff.1 (show (Tryd.prog.info? 59).map (·.size) = some 2 by kernel_rfl)
  have hsh : w.shape? gb = some (59, 2) := by have := S.cel i e; simp [World.shape?, this]
  have h0 := S.cell i 0 e rfl
  have hfz := S.nfz i 0 e
  rcases hp with rfl | rfl
  · have c1 := Lib.run_to_unsafe (P := Tryd.prog) (src := 57) (dst := 96) w ⟨gb, 0, none⟩ Tryd.underlying57 Tryd.underlying96 hj (by rw [hjs]; decide) hsh (Nat.zero_lt_succ 1)
    have c2 := Lib.run_from_unsafe (P := Tryd.prog) (src := 96) (dst := 57) w ⟨gb, 0, none⟩ Tryd.underlying96 Tryd.underlying57 hj hsh (by kernel_rfl)
    have c3 := noEsc
    clear hj hsh
    go_enter Tryd.func42, Tryd.ntmps42
    go_wp2
    go_end0
    exact ⟨rfl, S.put i 0 _ e⟩
  · have c1 := Lib.run_neq_ptr_same w ⟨gb, 0, none⟩ Tryd.underlying57 hj
    have c2 := fun w' => Lib.run_neq_ptr_same w' ⟨gb, 0, none⟩ Tryd.underlying57 hj
    clear hj hsh
    go_enter Tryd.func42, Tryd.ntmps42
    go_wp2
    go_end0
    refine ⟨rfl, ?_⟩
    have hs : O.set i (Cel gb 59 [.pointer (some ⟨gb, 0, none⟩), v]) = O := by
      refine List.ext_getElem? fun m => ?_
      rw [List.getElem?_set]
      split
      · rename_i h; subst h; rw [e]; simp [lt_of_get e]
      · rfl
    rw [hs]
    exact S
theorem writeS_s {gb : Nat} {p v : Value} {xs : List UInt8} (S : SH F0 I0 w0 O w I) (i k : Nat) (hik : i ≠ k) (e : O[i]? = some (Cel gb 59 [p, v])) (hp : p = .pointer none ∨ p = .pointer (some ⟨gb, 0, none⟩)) (ek : O[k]? = some (Row kB v xs)) (zs : List UInt8) (hn : xs.length + zs.length ≤ 1000000) :
    Calls Tryd.prog 24 #[.pointer (some ⟨gb, 0, none⟩), strV zs] w fun e w' => ∃ v', e = .returned (.tuple #[.int .i64 zs.length, .nilIface]) ∧ SH F0 I0 w0 ((O.set i (Cel gb 59 [.pointer (some ⟨gb, 0, none⟩), v'])).set k (Row kB v' (xs ++ zs))) w' I := by
  have hzl : (⟨zs.toArray⟩ : ByteArray).size = zs.length := by show zs.toArray.size = _; simp
  have li := lt_of_get e
  have lk := lt_of_get ek
  go_enter Tryd.func24, Tryd.ntmps24
  go_wp2_with (first | (go_at_call 42; refine (copyCheck_s S i e hp).mono ?_; rintro e1 w1 ⟨rfl, S1⟩; clear S; have hc0 := S1.cell i 1 (List.getElem?_set_self li) rfl) | (at_builtin; refine wpl_appS S1 k (by rw [List.getElem?_set_ne hik]; exact ek) rfl _ _ rfl rfl zs rfl hn ?_; clear S1 hc0; intro v2 w2 S2; have ei : (((O.set i (Cel gb 59 [.pointer (some ⟨gb, 0, none⟩), v])).set k (Row kB v2 (xs ++ zs))))[i]? = some (Cel gb 59 [.pointer (some ⟨gb, 0, none⟩), v]) := (List.getElem?_set_ne (fun h => hik h.symm)).trans (List.getElem?_set_self li); have hc2 := S2.cell i 1 ei rfl; have hf2 := S2.nfz i 1 ei; obtain ⟨A2, c2, rfl, -, -⟩ := S2.row k (List.getElem?_set_self (by rw [List.length_set]; exact lk))))
  go_ret2
  refine ⟨.slice A2 (xs.length + zs.length) c2, rfl, ?_⟩
  rw [List.length_append] at S2 ei
  have S3 := S2.put i 1 (.slice A2 (xs.length + zs.length) c2) ei
  rw [List.set_comm _ _ (fun h => hik h.symm), List.set_set] at S3
  exact S3
end
end Go.Proofs.YteaekpnmiicbhaaDoor
