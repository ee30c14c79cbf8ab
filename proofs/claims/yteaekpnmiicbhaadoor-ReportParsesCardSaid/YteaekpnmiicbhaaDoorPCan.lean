/- A number's text is the one that has no more signs than it needs: plain law. -/
import Derived.Test.YteaekpnmiicbhaaDoorPPar
import Derived.Test.YteaekpnmiicbhaaDoorPDcm
namespace Go.Proofs.YteaekpnmiicbhaaDoor
open Go.RowKit X
set_option linter.unusedSimpArgs false
set_option linter.unusedVariables false
def isDig (b : UInt8) : Prop := 48 ≤ b.toNat ∧ b.toNat ≤ 57
/-- the value of digits, the lowest first, behind a -/
def rval : List UInt8 → Int → Int
  | [], a => a
  | d :: r, a => 10 * rval r a + ((d.toNat : Nat) - 48)
theorem rval_inj : ∀ {r s : List UInt8}, r.length = s.length → (∀ b ∈ r, isDig b) → (∀ b ∈ s, isDig b) → ∀ {a : Int}, rval r a = rval s a → r = s
  | [], [], _, _, _, _, _ => rfl
  | [], e :: s, h, _, _, _, _ => by simp at h
  | d :: r, [], h, _, _, _, _ => by simp at h
  | d :: r, e :: s, h, hr, hs, a, hv => by
    obtain ⟨d1, d2⟩ := hr d List.mem_cons_self
    obtain ⟨e1, e2⟩ := hs e List.mem_cons_self
    simp only [rval] at hv
    have hde : d.toNat = e.toNat := by omega
    have hrs : rval r a = rval s a := by omega
    rw [UInt8.toNat_inj.1 hde, rval_inj (by simpa using h) (fun b hb => hr b (List.mem_cons_of_mem _ hb)) (fun b hb => hs b (List.mem_cons_of_mem _ hb)) hrs]
theorem rval_app : ∀ (r s : List UInt8) (a : Int), rval (r ++ s) a = rval r (rval s a)
  | [], s, a => rfl
  | d :: r, s, a => by simp only [List.cons_append, rval]; rw [rval_app r s a]
theorem loopR_val : ∀ (zs : List UInt8) (n m : Int), 0 ≤ n → loopR zs n = (m, 0) → (∀ b ∈ zs, isDig b) ∧ m = rval zs.reverse n
  | [], n, m, _, h => by
    simp only [loopR, Prod.mk.injEq, and_true] at h
    exact ⟨by simp, by rw [← h]; rfl⟩
  | b :: r, n, m, hn, h => by
    simp only [loopR] at h
    split at h
    · rename_i h0
      have hr := stepR_rng hn h0
      obtain ⟨h1, h2⟩ := loopR_val r _ m hr.1 h
      have hd : isDig b ∧ (stepR n (b.toNat : Nat)).1 = 10 * n + ((b.toNat : Nat) - 48) := by
        unfold stepR at h0 ⊢
        split at h0
        · cases h0
        · rename_i hc
          rw [if_neg hc]
          split at h0
          · cases h0
          · rename_i hc2
            rw [if_neg hc2]
            exact ⟨by unfold isDig; omega, rfl⟩
      refine ⟨fun x hx => ?_, ?_⟩
      · rcases List.mem_cons.1 hx with rfl | hx
        · exact hd.1
        · exact h1 x hx
      · rw [h2, List.reverse_cons, rval_app, hd.2]
        rfl
    · rename_i h0
      rw [Prod.mk.injEq] at h
      exact absurd h.2 h0
theorem digs_val : ∀ (f n : Nat), n < f → rval ((digs 10 n).map fun d => UInt8.ofNat (48 + d)) 0 = n ∧ ∀ b ∈ (digs 10 n).map (fun d => UInt8.ofNat (48 + d)), isDig b
  | 0, n, h => absurd h (Nat.not_lt_zero _)
  | f + 1, n, h => by
    have hx : ∀ d, d < 10 → (UInt8.ofNat (48 + d)).toNat = 48 + d := fun d hd => by rw [UInt8.toNat_ofNat', Nat.mod_eq_of_lt (by omega)]
    by_cases h10 : n < 10
    · rw [digs_one h10, Nat.mod_eq_of_lt h10]
      simp only [List.map_cons, List.map_nil, rval, List.mem_singleton]
      refine ⟨by rw [hx n h10]; omega, fun b hb => ?_⟩
      subst hb
      unfold isDig
      rw [hx n h10]; omega
    · obtain ⟨h1, h2⟩ := digs_val f (n / 10) (by omega)
      rw [digs_more h10 (by omega)]
      simp only [List.map_cons, rval]
      refine ⟨by rw [h1, hx _ (by omega)]; omega, fun b hb => ?_⟩
      rcases List.mem_cons.1 hb with rfl | hb
      · unfold isDig
        rw [hx _ (by omega)]; omega
      · exact h2 b hb
theorem decL_canon {w : List UInt8} {x : Int} (h : parseR w = (x, 0)) : 0 ≤ x ∧ x ≤ 4611686018427387903 ∧ ((decL x.toNat).length = w.length ↔ decL x.toNat = w) := by
  have hw : loopR w 0 = (x, 0) := by
    unfold parseR at h
    split at h
    · cases h
    · exact h
  have hr : ∀ (zs : List UInt8) (n m : Int), 0 ≤ n ∧ n ≤ 4611686018427387903 → loopR zs n = (m, 0) → 0 ≤ m ∧ m ≤ 4611686018427387903 := by
    intro zs
    induction zs with
    | nil => intro n m hn h; simp only [loopR, Prod.mk.injEq, and_true] at h; omega
    | cons b r ih =>
      intro n m hn h
      simp only [loopR] at h
      split at h
      · rename_i h0; exact ih _ m (stepR_rng hn.1 h0) h
      · rename_i h0; rw [Prod.mk.injEq] at h; exact absurd h.2 h0
  obtain ⟨h1, h2⟩ := hr w 0 x (by omega) hw
  obtain ⟨h3, h4⟩ := loopR_val w 0 x (by omega) hw
  obtain ⟨h5, h6⟩ := digs_val (x.toNat + 1) x.toNat (by omega)
  refine ⟨h1, h2, fun hl => ?_, fun e => by rw [e]⟩
  have h7 : w.reverse = (digs 10 x.toNat).map fun d => UInt8.ofNat (48 + d) := by
    refine rval_inj (a := 0) ?_ (fun b hb => h3 b (List.mem_reverse.1 hb)) h6 ?_
    · unfold decL at hl
      rw [List.length_reverse] at hl ⊢
      exact hl.symm
    · rw [← h4, h5]; omega
  unfold decL
  rw [← h7, List.reverse_reverse]
end Go.Proofs.YteaekpnmiicbhaaDoor
