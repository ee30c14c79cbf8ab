/- slices.Compact of records. -/
import Derived.Test.YteaekpnmiicbhaaRowCut
import Derived.Test.YteaekpnmiicbhaaOwn2
import Derived.Test.YteaekpnmiicbhaaPSort
namespace Go.Proofs.Yteaekpnmiicbhaa
open Go.RowKit X
set_option maxHeartbeats 2000000
set_option maxRecDepth 8000
set_option linter.unusedSimpArgs false
set_option linter.unusedVariables false
/-- of those that stand together, one -/
def cpt : List R5 → List R5
  | [] => []
  | [x] => [x]
  | x :: y :: r => if x = y then cpt (y :: r) else x :: cpt (y :: r)
theorem cpt_snoc : ∀ (l : List R5) (a b : R5), cpt (l ++ [a, b]) = if b = a then cpt (l ++ [a]) else cpt (l ++ [a]) ++ [b]
  | [], a, b => by
    by_cases h : a = b
    · subst h; simp [cpt]
    · have h' : ¬ b = a := fun e => h e.symm
      simp [cpt, h, h']
  | [x], a, b => by
    have := cpt_snoc [] a b
    simp only [List.nil_append, List.cons_append] at this ⊢
    rw [cpt, this]
    by_cases h : b = a
    · simp only [if_pos h]; simp [cpt]
    · simp only [if_neg h]
      by_cases hx : x = a
      · simp [cpt, hx]
      · simp [cpt, hx]
  | x :: y :: l, a, b => by
    have := cpt_snoc (y :: l) a b
    simp only [List.cons_append] at this ⊢
    rw [cpt, this, cpt]
    by_cases h : b = a
    · simp only [if_pos h]
    · simp only [if_neg h]
      by_cases hx : x = y
      · simp only [if_pos hx]
      · simp only [if_neg hx, List.cons_append]
theorem take_two {xs : List R5} {m : Nat} (h : m + 1 < xs.length) : xs.take (m + 2) = xs.take m ++ [xs[m], xs[m + 1]] := by
  rw [List.take_succ_eq_append_getElem h, List.take_succ_eq_append_getElem (show m < xs.length by omega), List.append_assoc]
  rfl
theorem cpt_step {xs : List R5} {m : Nat} (h : m + 1 < xs.length) : cpt (xs.take (m + 2)) = if xs[m + 1] = xs[m] then cpt (xs.take (m + 1)) else cpt (xs.take (m + 1)) ++ [xs[m + 1]] := by
  rw [take_two h, cpt_snoc, List.take_succ_eq_append_getElem (show m < xs.length by omega)]
theorem cpt_short : ∀ (xs : List R5), xs.length < 2 → cpt xs = xs
  | [], _ => rfl
  | [x], _ => rfl
  | x :: y :: r, h => by simp only [List.length_cons] at h; omega
theorem eql_rec (x y : R5) (w : World) : (binOp .eql 57 x.v y.v).run Try.prog w = .ok (.bool (decide (x = y))) w := by
  obtain ⟨x0, x1, x2, x3, x4⟩ := x
  obtain ⟨y0, y1, y2, y3, y4⟩ := y
  simp only [R5.v]
  go_simp
  by_cases h0 : x0 = y0 <;> by_cases h1 : x1 = y1 <;> by_cases h2 : x2 = y2 <;> by_cases h3 : x3 = y3 <;> by_cases h4 : x4 = y4 <;> simp [h0, h1, h2, h3, h4]
theorem neq_rec (x y : R5) (w : World) : (binOp .neq 57 x.v y.v).run Try.prog w = .ok (.bool (!decide (x = y))) w := by
  obtain ⟨x0, x1, x2, x3, x4⟩ := x
  obtain ⟨y0, y1, y2, y3, y4⟩ := y
  simp only [R5.v]
  go_simp
  by_cases h0 : x0 = y0 <;> by_cases h1 : x1 = y1 <;> by_cases h2 : x2 = y2 <;> by_cases h3 : x3 = y3 <;> by_cases h4 : x4 = y4 <;> simp [h0, h1, h2, h3, h4]
section
variable {F0 I0 I : Fp} {w0 w : World} {O : List Ob}
/-- a record is stored into a row -/
theorem X.SH.put5 {ety : TypeId} {g n c : Nat} {xs : List R5} (s : SH F0 I0 w0 O w I) (m : Nat) (e : O[m]? = some (Row (Kd.r5 ety) (.slice (some ⟨g, 0, none⟩) n c) xs)) (i : Nat) (hi : i < xs.length) (y : R5) :
    SH F0 I0 w0 (O.set m (Row (Kd.r5 ety) (.slice (some ⟨g, 0, none⟩) n c) (xs.set i y))) (((((w.setCell ⟨g, i * 5, none⟩ (.int .i64 y.i)).setCell ⟨g, i * 5 + 1, none⟩ (.int .i64 y.b)).setCell ⟨g, i * 5 + 2, none⟩ (.int .i64 y.r)).setCell ⟨g, i * 5 + 3, none⟩ (.int .i64 y.t)).setCell ⟨g, i * 5 + 4, none⟩ (.int .i64 y.u)) I := by
  have lm := lt_of_get e
  obtain ⟨x, hx⟩ : ∃ x, xs[i] = x := ⟨_, rfl⟩
  have s1 := s.putK m e i 0 hi (show 0 < 5 by decide) (.int .i64 y.i) (⟨y.i, x.b, x.r, x.t, x.u⟩ : R5) (fun cs h => by rw [hx] at h; cases h; rfl)
  have s2 := s1.putK m (List.getElem?_set_self lm) i 1 (by simpa using hi) (show 1 < 5 by decide) (.int .i64 y.b) (⟨y.i, y.b, x.r, x.t, x.u⟩ : R5) (fun cs h => by rw [List.getElem_set_self] at h; cases h; rfl)
  rw [List.set_set, List.set_set] at s2
  have s3 := s2.putK m (List.getElem?_set_self lm) i 2 (by simpa using hi) (show 2 < 5 by decide) (.int .i64 y.r) (⟨y.i, y.b, y.r, x.t, x.u⟩ : R5) (fun cs h => by rw [List.getElem_set_self] at h; cases h; rfl)
  rw [List.set_set, List.set_set] at s3
  have s4 := s3.putK m (List.getElem?_set_self lm) i 3 (by simpa using hi) (show 3 < 5 by decide) (.int .i64 y.t) (⟨y.i, y.b, y.r, y.t, x.u⟩ : R5) (fun cs h => by rw [List.getElem_set_self] at h; cases h; rfl)
  rw [List.set_set, List.set_set] at s4
  have s5 := s4.putK m (List.getElem?_set_self lm) i 4 (by simpa using hi) (show 4 < 5 by decide) (.int .i64 y.u) y (fun cs h => by rw [List.getElem_set_self] at h; cases h; rfl)
  rw [List.set_set, List.set_set] at s5
  exact s5
/-- a row's element, by its block -/
theorem X.SH.at5 {ety : TypeId} {g n c : Nat} {xs : List R5} (s : SH F0 I0 w0 O w I) (m : Nat) (e : O[m]? = some (Row (Kd.r5 ety) (.slice (some ⟨g, 0, none⟩) n c) xs)) {i : Nat} {y : R5} (hi : xs[i]? = some y) :
    w.cell? ⟨g, i * 5, none⟩ = some (.int .i64 y.i) ∧ w.cell? ⟨g, i * 5 + 1, none⟩ = some (.int .i64 y.b) ∧ w.cell? ⟨g, i * 5 + 2, none⟩ = some (.int .i64 y.r) ∧ w.cell? ⟨g, i * 5 + 3, none⟩ = some (.int .i64 y.t) ∧ w.cell? ⟨g, i * 5 + 4, none⟩ = some (.int .i64 y.u) := by
  obtain ⟨A, c', e1, -, hs⟩ := s.row m e
  rw [Value.slice.injEq] at e1
  obtain ⟨rfl, -, -⟩ := e1
  have := hs.r5_get hi
  simp only [Nat.zero_add] at this
  exact this
theorem compact_s {g n c : Nat} {xs : List R5} (S : SH F0 I0 w0 O w I) (i : Nat) (e : O[i]? = some (Row kC (.slice (some ⟨g, 0, none⟩) n c) xs)) (hn : xs.length = n) (hc : n ≤ c) (h2 : 2 ≤ n) (hmax : n ≤ 1000000) :
    Calls Try.prog 42 #[.slice (some ⟨g, 0, none⟩) n c] w fun e w' => e = .returned (.slice (some ⟨g, 0, none⟩) (cpt xs).length c) ∧ SH F0 I0 w0 (O.set i (Row kC (.slice (some ⟨g, 0, none⟩) (cpt xs).length c) (cpt xs))) w' I := by
  have h2' : decide ((n : Int) < 2) = false := decide_eq_false (by omega)
  have HO : As (O.set i (Row kC (.slice (some ⟨g, 0, none⟩) n c) xs) = O) := ⟨by
    refine List.ext_getElem? fun m => ?_
    rw [List.getElem?_set]
    split
    · rename_i h; subst h; rw [e]; simp [lt_of_get e]
    · rfl⟩
  have li := lt_of_get e
  have HN := As.mk hn
  have heq := eql_rec
  have hne := neq_rec
  dsimp only [R5.v] at heq hne
  clear hn
  go_enter Try.func42, Try.ntmps42
  go_wp2
  go_loopw [3] (fun k w' => ∃ (m : Nat), k = .int .i64 ((m : Int) + 1) ∧ m + 1 ≤ n ∧ As (cpt (xs.take (m + 1)) = xs.take (m + 1)) ∧ As (SH F0 I0 w0 O w' I)) (fun k _ => n + 1 - (intOf k).toNat)
  case atStart => exact ⟨0, by go_num, by omega, ⟨by rw [cpt_short _ (by rw [List.length_take]; omega)]⟩, ⟨S⟩⟩
  case round =>
    clear S
    obtain ⟨m, rfl, hm, HC, ⟨S⟩⟩ := hrel
    by_cases hlt : m + 1 < n
    · have hlt' : decide ((m : Int) + 1 < n) = true := decide_eq_true (by omega)
      have hl1 : m + 1 < xs.length := by rw [HN.out]; exact hlt
      have hl0 : m < xs.length := by omega
      obtain ⟨x, hx⟩ : ∃ x, xs[m + 1] = x := ⟨_, rfl⟩
      obtain ⟨y, hy⟩ : ∃ y, xs[m] = y := ⟨_, rfl⟩
      have HX : As (xs[m + 1]? = some x) := ⟨by rw [List.getElem?_eq_getElem hl1, hx]⟩
      have HY : As (xs[m]? = some y) := ⟨by rw [List.getElem?_eq_getElem hl0, hy]⟩
      have HS : As (cpt (xs.take (m + 2)) = if x = y then cpt (xs.take (m + 1)) else cpt (xs.take (m + 1)) ++ [x]) := ⟨by rw [cpt_step hl1, hx, hy]⟩
      clear hx hy
      obtain ⟨a0, a1, a2, a3, a4⟩ := S.at5 i e HX.out
      obtain ⟨b0, b1, b2, b3, b4⟩ := S.at5 i e HY.out
      have hs1 : (m : Int) + 1 - 1 = m := by omega
      by_cases hxy : x = y
      · have hxd : decide (x = y) = true := decide_eq_true hxy
        have HXY := As.mk hxy
        clear hxy
        go_wp2
        go_quiet (fail)
        go_wp2
        replace S := S.ext ((Ext.refl wr).drewN nq)
        generalize wr.drewN nq = w1 at S ⊢
        have S1 := S
        have HXS : As (cpt (xs.take (m + 2)) = xs.take (m + 1)) := ⟨by rw [HS.out, if_pos HXY.out, HC.out]⟩
        clear S a0 a1 a2 a3 a4 b0 b1 b2 b3 b4 hs1 hxd HS HX HY HC HXY
        go_loopw [3, 5] (fun kv tv w' => ∃ (k t : Nat) (ys : List R5), kv = .int .i64 k ∧ tv = .int .i64 t ∧ 1 ≤ t ∧ m + 1 + t ≤ n ∧ 1 ≤ k ∧ k ≤ m + t ∧ As (ys.length = n) ∧ As (ys.take k = cpt (xs.take (m + 1 + t))) ∧ As (∀ j, m + t ≤ j → ys[j]? = xs[j]?) ∧ As (SH F0 I0 w0 (O.set i (Row kC (.slice (some ⟨g, 0, none⟩) n c) ys)) w' I)) (fun _ tv _ => n - (intOf tv).toNat)
        case atStart => exact ⟨m + 1, 1, xs, by go_num, rfl, by omega, by omega, by omega, by omega, HN, ⟨by rw [show m + 1 + 1 = m + 2 from rfl, HXS.out]⟩, ⟨fun _ _ => rfl⟩, ⟨by rw [HO.out]; exact S1⟩⟩
        case round =>
          clear S1
          obtain ⟨k, t, ys, rfl, rfl, ht1, htn, hk1, hkt, HL, HT, HE, ⟨S⟩⟩ := hrel
          by_cases htl : m + 1 + t < n
          · have htl' : decide ((t : Int) < (n - (m + 1) : Nat)) = true := decide_eq_true (by omega)
            have hl1 : m + t + 1 < xs.length := by rw [HN.out]; omega
            have hl0 : m + t < xs.length := by omega
            obtain ⟨x2, hx⟩ : ∃ x, xs[m + t + 1] = x := ⟨_, rfl⟩
            obtain ⟨y2, hy⟩ : ∃ y, xs[m + t] = y := ⟨_, rfl⟩
            have HX : As (ys[m + t + 1]? = some x2) := ⟨by rw [HE.out _ (by omega), List.getElem?_eq_getElem hl1, hx]⟩
            have HY : As (ys[m + t]? = some y2) := ⟨by rw [HE.out _ (by omega), List.getElem?_eq_getElem hl0, hy]⟩
            have HS : As (cpt (xs.take (m + 1 + (t + 1))) = if x2 = y2 then cpt (xs.take (m + 1 + t)) else cpt (xs.take (m + 1 + t)) ++ [x2]) := ⟨by
              have := cpt_step hl1
              rw [hx, hy] at this
              rw [show m + 1 + (t + 1) = m + t + 2 by omega, show m + 1 + t = m + t + 1 by omega]
              exact this⟩
            have HKL : As (ys[m + t + 1]? = xs[m + t + 1]?) := ⟨HE.out _ (by omega)⟩
            clear hx hy
            have ei := List.getElem?_set_self li (a := Row kC (.slice (some ⟨g, 0, none⟩) n c) ys)
            obtain ⟨a0, a1, a2, a3, a4⟩ := S.at5 i ei HX.out
            obtain ⟨b0, b1, b2, b3, b4⟩ := S.at5 i ei HY.out
            have ea : (m + t + 1) * 5 = (m + 1) * 5 + t * 5 := by omega
            have eb : (m + t) * 5 = (m + 1) * 5 + (t - 1) * 5 := by omega
            have hts : ((t : Int) - 1).toNat = t - 1 := by omega
            rw [ea] at a0 a1 a2 a3 a4
            rw [eb] at b0 b1 b2 b3 b4
            obtain ⟨z, hz⟩ : ∃ z, ys[k]? = some z := ⟨_, List.getElem?_eq_getElem (by rw [HL.out]; omega)⟩
            obtain ⟨c0, c1, c2, c3, c4⟩ := S.at5 i ei hz
            have f0 := S.nfzR i ei (k * 5)
            have f1 := S.nfzR i ei (k * 5 + 1)
            have f2 := S.nfzR i ei (k * 5 + 2)
            have f3 := S.nfzR i ei (k * 5 + 3)
            have f4 := S.nfzR i ei (k * 5 + 4)
            clear ea eb ei hz
            by_cases hxy : x2 = y2
            · have hxd : decide (x2 = y2) = true := decide_eq_true hxy
              have HXY := As.mk hxy
              clear hxy
              go_wp2
              go_quiet (fail)
              go_wp2
              go_roundw
              case rel => exact ⟨k, t + 1, ys, rfl, by go_num, by omega, by omega, hk1, by omega, HL, ⟨by rw [HT.out, HS.out, if_pos HXY.out]⟩, ⟨fun j hj => HE.out j (by omega)⟩, ⟨S.ext ((Ext.refl _).drewN nq)⟩⟩
              case measure => simp [intOf] <;> omega
            · have hxd : decide (x2 = y2) = false := decide_eq_false hxy
              have HXY := As.mk hxy
              clear hxy
              go_wp2
              go_quiet (fail)
              go_wp2
              have hkl : k < ys.length := by rw [HL.out]; omega
              have S5 := (S.ext ((Ext.refl wr).drewN nq)).put5 i (List.getElem?_set_self li) k hkl x2
              rw [List.set_set] at S5
              go_roundw
              case rel => exact ⟨k + 1, t + 1, ys.set k x2, by go_num, by go_num, by omega, by omega, by omega, by omega, ⟨by rw [List.length_set]; exact HL.out⟩, ⟨by
                rw [HS.out, if_neg HXY.out, ← HT.out, List.take_succ_eq_append_getElem (by rw [List.length_set]; exact hkl), List.getElem_set_self, List.take_set, List.set_eq_of_length_le (by rw [List.length_take]; omega)]⟩, ⟨fun j hj => by
                rw [List.getElem?_set_ne (by omega)]
                exact HE.out j (by omega)⟩, ⟨S5⟩⟩
              case measure => simp [intOf] <;> omega
          · have htl' : decide ((t : Int) < (n - (m + 1) : Nat)) = false := decide_eq_false (by omega)
            have hkl : k < ys.length := by rw [HL.out]; omega
            have ei := List.getElem?_set_self li (a := Row kC (.slice (some ⟨g, 0, none⟩) n c) ys)
            obtain ⟨w2, hrun, ho2, hg2⟩ := run_clearG (P := Try.prog) ty_recs (z := .agg #[.int .i64 0, .int .i64 0, .int .i64 0, .int .i64 0, .int .i64 0]) (fun _ => by kernel_rfl) rfl (by decide) 0 (S.own i ei) k (c' := c - k) hkl
            have S2 := S.app i ei ho2 hg2 (.inl rfl)
            rw [List.set_set] at S2
            have HK : As (ys.take k = cpt xs) := ⟨by rw [HT.out, List.take_of_length_le (by rw [HN.out]; omega)]⟩
            have HKL : As ((cpt xs).length = k) := ⟨by rw [← HK.out, List.length_take]; omega⟩
            rw [HK.out] at S2
            replace hrun : (Builtin.clear_ #[31] 0 #[.slice (some ⟨g, k * 5, none⟩) (n - k) (c - k)]).run Try.prog wr = .ok (.tuple #[]) w2 := hrun
            clear ho2 hg2 ei hkl
            go_wp2
            go_ret
            rw [HKL.out]
            exact ⟨rfl, S2⟩
      · have hxd : decide (x = y) = false := decide_eq_false hxy
        have HXY := As.mk hxy
        clear hxy
        go_wp2
        go_quiet (fail)
        go_wp2
        go_roundw
        case rel => exact ⟨m + 1, by go_num, by omega, ⟨by
          rw [show m + 1 + 1 = m + 2 from rfl, HS.out, if_neg HXY.out, HC.out]
          have := HX.out
          rw [List.getElem?_eq_getElem hl1] at this
          rw [List.take_succ_eq_append_getElem hl1, Option.some.inj this]⟩, ⟨S.ext ((Ext.refl _).drewN nq)⟩⟩
        case measure => simp [intOf] <;> omega
    · have hlt' : decide ((m : Int) + 1 < n) = false := decide_eq_false (by omega)
      have HE : As (cpt xs = xs) := ⟨by
        have := HC.out
        rw [List.take_of_length_le (by rw [HN.out]; omega)] at this
        exact this⟩
      go_wp2
      go_ret
      rw [HE.out, HN.out, HO.out]
      exact ⟨rfl, S⟩
theorem compactR_s {v : Value} {xs : List R5} (S : SH F0 I0 w0 O w I) (i : Nat) (e : O[i]? = some (Row kC v xs)) (hmax : xs.length ≤ 1000000) :
    Calls Try.prog 42 #[v] w fun e w' => ∃ v', e = .returned v' ∧ SH F0 I0 w0 (O.set i (Row kC v' (cpt xs))) w' I := by
  obtain ⟨A, c, rfl, hc, hg⟩ := (S.own i e).form
  by_cases h2 : 2 ≤ xs.length
  · obtain ⟨g, rfl, -⟩ := hg (by rintro rfl; simp at h2)
    refine (compact_s S i e rfl hc h2 hmax).mono ?_
    rintro e1 w' ⟨rfl, S'⟩
    exact ⟨_, rfl, S'⟩
  · have h2' : decide ((xs.length : Int) < 2) = true := decide_eq_true (by omega)
    have HE := As.mk (cpt_short xs (by omega))
    have HO : As (O.set i (Row kC (.slice A xs.length c) xs) = O) := ⟨by
      refine List.ext_getElem? fun m => ?_
      rw [List.getElem?_set]
      split
      · rename_i h; subst h; rw [e]; simp [lt_of_get e]
      · rfl⟩
    clear h2
    go_enter Try.func42, Try.ntmps42
    go_wp2
    go_ret
    refine ⟨.slice A xs.length c, rfl, ?_⟩
    rw [HE.out, HO.out]
    exact S
end
end Go.Proofs.Yteaekpnmiicbhaa
