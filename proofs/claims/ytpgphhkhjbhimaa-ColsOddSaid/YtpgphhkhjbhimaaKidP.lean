/- A node's children, in their row: no program in sight. -/
import Derived.Test.YtpgphhkhjbhimaaKid
namespace Go.Proofs.Ytpgphhkhjbhimaa
open X
/-- p put into a row -/
def insS : List Int → Int → List Int
  | [], p => [p]
  | x :: r, p => if x < p then x :: insS r p else p :: x :: r
/-- how many at the head are less -/
def leadS : List Int → Int → Nat
  | [], _ => 0
  | x :: r, p => if x < p then leadS r p + 1 else 0
theorem leadS_le : ∀ (xs : List Int) (p : Int), leadS xs p ≤ xs.length
  | [], _ => Nat.le_refl _
  | x :: r, p => by
    unfold leadS
    split
    · have := leadS_le r p; simp; omega
    · exact Nat.zero_le _
theorem leadS_lt : ∀ (xs : List Int) (p : Int) (i : Nat) (h : i < xs.length), i < leadS xs p → xs[i] < p
  | [], _, _, h, _ => absurd h (Nat.not_lt_zero _)
  | x :: r, p, i, h, hl => by
    unfold leadS at hl
    split at hl
    · rename_i hx
      rcases i with _ | i
      · exact hx
      · exact leadS_lt r p i (by simpa using h) (by omega)
    · omega
theorem leadS_at : ∀ (xs : List Int) (p : Int) (h : leadS xs p < xs.length), ¬ xs[leadS xs p] < p
  | [], _, h => absurd h (Nat.not_lt_zero _)
  | x :: r, p, h => by
    by_cases hx : x < p
    · have e : leadS (x :: r) p = leadS r p + 1 := by simp [leadS, hx]
      simp only [e, List.getElem_cons_succ]
      exact leadS_at r p (by rw [e] at h; simpa using h)
    · have e : leadS (x :: r) p = 0 := by simp [leadS, hx]
      simp only [e, List.getElem_cons_zero]
      exact hx
theorem insS_eq : ∀ (xs : List Int) (p : Int), insS xs p = xs.take (leadS xs p) ++ [p] ++ xs.drop (leadS xs p)
  | [], _ => rfl
  | x :: r, p => by
    unfold insS leadS
    split
    · rw [insS_eq r p]; simp
    · rfl
theorem insS_mem (xs : List Int) (p q : Int) : q ∈ insS xs p ↔ q = p ∨ q ∈ xs := by
  rw [insS_eq]
  have : xs = xs.take (leadS xs p) ++ xs.drop (leadS xs p) := (List.take_append_drop _ _).symm
  constructor
  · intro h
    simp only [List.mem_append, List.mem_singleton] at h
    rcases h with (h | h) | h
    · exact .inr (List.mem_of_mem_take h)
    · exact .inl h
    · exact .inr (List.mem_of_mem_drop h)
  · intro h
    simp only [List.mem_append, List.mem_singleton]
    rcases h with h | h
    · exact .inl (.inr h)
    · rw [this, List.mem_append] at h
      rcases h with h | h
      · exact .inl (.inl h)
      · exact .inr h
theorem insS_srt : ∀ (xs : List Int) (p : Int), xs.Pairwise (· < ·) → p ∉ xs → (insS xs p).Pairwise (· < ·)
  | [], p, _, _ => List.pairwise_singleton _ _
  | x :: r, p, h, hn => by
    rw [List.pairwise_cons] at h
    unfold insS
    split
    · rename_i hx
      rw [List.pairwise_cons]
      refine ⟨fun q hq => ?_, insS_srt r p h.2 (fun e => hn (List.mem_cons_of_mem _ e))⟩
      rcases (insS_mem r p q).1 hq with e | e
      · subst e; exact hx
      · exact h.1 q e
    · rename_i hx
      have hne : p ≠ x := fun e => hn (by rw [e]; exact List.mem_cons_self)
      rw [List.pairwise_cons, List.pairwise_cons]
      refine ⟨fun q hq => ?_, h⟩
      rcases List.mem_cons.1 hq with e | e
      · subst e; omega
      · have := h.1 q e; omega
theorem insS_len (xs : List Int) (p : Int) : (insS xs p).length = xs.length + 1 := by
  rw [insS_eq]
  have := leadS_le xs p
  simp only [List.length_append, List.length_take, List.length_drop, List.length_cons, List.length_nil]; omega
theorem srt_eq : ∀ (xs ys : List Int), xs.Pairwise (· < ·) → ys.Pairwise (· < ·) → (∀ p, p ∈ xs ↔ p ∈ ys) → xs = ys
  | [], [], _, _, _ => rfl
  | [], y :: r, _, _, h => absurd ((h y).2 List.mem_cons_self) List.not_mem_nil
  | x :: r, [], _, _, h => absurd ((h x).1 List.mem_cons_self) List.not_mem_nil
  | x :: r, y :: s, hx, hy, h => by
    rw [List.pairwise_cons] at hx hy
    have hxy : x = y := by
      have h1 := (h x).1 List.mem_cons_self
      have h2 := (h y).2 List.mem_cons_self
      rcases List.mem_cons.1 h1 with e | e
      · exact e
      · rcases List.mem_cons.1 h2 with e2 | e2
        · exact e2.symm
        · have a := hx.1 _ e2
          have b := hy.1 _ e
          omega
    subst hxy
    rw [srt_eq r s hx.2 hy.2 fun p => ?_]
    constructor
    · intro hp
      rcases List.mem_cons.1 ((h p).1 (List.mem_cons_of_mem _ hp)) with e | e
      · have := hx.1 _ hp; omega
      · exact e
    · intro hp
      rcases List.mem_cons.1 ((h p).2 (List.mem_cons_of_mem _ hp)) with e | e
      · have := hy.1 _ hp; omega
      · exact e
/-- a path's last number -/
def laR (L : List (List Int)) (i : Nat) : Int := (pa L i).getLastD 0
/-- a node's children's numbers, of the first m nodes -/
def kiK (L : List (List Int)) (n : Int) : Nat → List Int
  | 0 => []
  | m + 1 => if prR L m = n ∧ 0 ≤ n then insS (kiK L n m) (laR L m) else kiK L n m
def kiR (L : List (List Int)) (n : Int) : List Int := kiK L n L.length
theorem kiK_mem {L : List (List Int)} {n : Int} (p : Int) : ∀ m, p ∈ kiK L n m ↔ ∃ k, k < m ∧ prR L k = n ∧ 0 ≤ n ∧ laR L k = p
  | 0 => ⟨fun h => absurd h List.not_mem_nil, fun ⟨k, h, _⟩ => absurd h (Nat.not_lt_zero _)⟩
  | m + 1 => by
    unfold kiK
    split
    · rename_i h
      rw [insS_mem, kiK_mem p m]
      constructor
      · rintro (e | ⟨k, h1, h2⟩)
        · exact ⟨m, by omega, h.1, h.2, e.symm⟩
        · exact ⟨k, by omega, h2⟩
      · rintro ⟨k, h1, h2, h3, h4⟩
        by_cases e : k = m
        · subst e; exact .inl h4.symm
        · exact .inr ⟨k, by omega, h2, h3, h4⟩
    · rename_i h
      rw [kiK_mem p m]
      constructor
      · rintro ⟨k, h1, h2⟩; exact ⟨k, by omega, h2⟩
      · rintro ⟨k, h1, h2, h3, h4⟩
        by_cases e : k = m
        · subst e; exact absurd ⟨h2, h3⟩ h
        · exact ⟨k, by omega, h2, h3, h4⟩
theorem kiK_len {L : List (List Int)} {n : Int} : ∀ m, (kiK L n m).length ≤ m
  | 0 => Nat.le_refl _
  | m + 1 => by
    have := kiK_len (L := L) (n := n) m
    unfold kiK
    split
    · rw [insS_len]; omega
    · omega
section
variable {l : List Nd} {ws : List Int} {L W : List (List Int)}
theorem St.prK (s : St l ws L W) {k : Nat} (h0 : 0 < k) (hk : k < L.length) : ∃ u : Nat, prR L k = u ∧ (nd l k).up = u ∧ u < k ∧ pa L k = pa L u ++ [(nd l k).p] ∧ laR L k = (nd l k).p := by
  obtain ⟨u, h1, h2, h3⟩ := s.tie.path k (by rw [s.tie.len]; exact hk) h0
  refine ⟨u, ?_, h1, h2, h3, by unfold laR; rw [h3]; simp⟩
  unfold prR
  rw [if_pos (by omega), Int.toNat_natCast, h3, List.dropLast_concat, findT_at s.tie.nodup (by omega)]
theorem prR_zero : prR L 0 = -1 := by unfold prR; rw [if_neg (by omega)]
theorem St.kiK_srt (s : St l ws L W) (n : Int) : ∀ m, m ≤ L.length → (kiK L n m).Pairwise (· < ·)
  | 0, _ => List.Pairwise.nil
  | m + 1, hm => by
    have ih := s.kiK_srt n m (by omega)
    unfold kiK
    split
    · rename_i h
      refine insS_srt _ _ ih fun hmem => ?_
      obtain ⟨k, h1, h2, h3, h4⟩ := (kiK_mem _ m).1 hmem
      have hm0 : 0 < m := by
        rcases Nat.eq_zero_or_pos m with e | e
        · subst e; rw [show ((0 : Nat) : Int) = 0 from rfl, prR_zero] at h; omega
        · exact e
      have hk0 : 0 < k := by
        rcases Nat.eq_zero_or_pos k with e | e
        · subst e; rw [show ((0 : Nat) : Int) = 0 from rfl, prR_zero] at h2; omega
        · exact e
      obtain ⟨u, a1, _, _, a4, a5⟩ := s.prK hm0 (by omega)
      obtain ⟨v, b1, _, _, b4, b5⟩ := s.prK hk0 (by omega)
      have huv : u = v := by have := h.1; omega
      subst huv
      have hpa : pa L k = pa L m := by rw [a4, b4, ← a5, ← b5, h4]
      have e1 := findT_at s.tie.nodup (i := k) (by omega)
      have e2 := findT_at s.tie.nodup (i := m) (by omega)
      rw [hpa, e2] at e1
      omega
    · exact ih
theorem St.kidsR (s : St l ws L W) (hs : ∀ x ∈ l, Srt x.kids) (n : Int) : kidsT l n = kiR L n := by
  have hnd : ∀ k : Nat, (hk : k < l.length) → nd l k = l[k] := fun k hk => by
    unfold nd
    rw [List.getD_eq_getElem?_getD, List.getElem?_eq_getElem hk]; rfl
  by_cases hin : inB l n = true
  · obtain ⟨u, rfl, hu⟩ := inB_true hin
    have e : kidsT l u = (nd l u).kids.map Prod.fst := by unfold kidsT; rw [if_pos hin, Int.toNat_natCast]
    rw [e]
    refine srt_eq _ _ ?_ (s.kiK_srt _ _ (Nat.le_refl _)) fun p => ?_
    · rw [List.pairwise_map, hnd u hu]
      exact hs _ (List.getElem_mem hu)
    · unfold kiR
      rw [kiK_mem, List.mem_map]
      constructor
      · rintro ⟨x, hx, rfl⟩
        obtain ⟨k, h1, h2, h3, h4, h5⟩ := s.tie.kid u hu x hx
        obtain ⟨v, a1, a2, a3, a4, a5⟩ := s.prK h2 (by rw [← s.tie.len]; exact h3)
        refine ⟨k, by rw [← s.tie.len]; exact h3, ?_, by omega, by rw [a5]; exact h5⟩
        rw [a1]; omega
      · rintro ⟨k, h1, h2, h3, h4⟩
        have hk0 : 0 < k := by
          rcases Nat.eq_zero_or_pos k with e | e
          · subst e; rw [show ((0 : Nat) : Int) = 0 from rfl, prR_zero] at h2; omega
          · exact e
        obtain ⟨v, a1, a2, a3, a4, a5⟩ := s.prK hk0 h1
        have := s.tie.all k (by rw [s.tie.len]; exact h1) hk0 u (by rw [a2]; omega)
        exact ⟨_, this, by rw [← h4, a5]⟩
  · have e : kidsT l n = [] := by unfold kidsT; rw [if_neg hin]
    rw [e]
    symm
    rw [List.eq_nil_iff_forall_not_mem]
    intro p hp
    unfold kiR at hp
    obtain ⟨k, h1, h2, h3, h4⟩ := (kiK_mem p _).1 hp
    have hk0 : 0 < k := by
      rcases Nat.eq_zero_or_pos k with e | e
      · subst e; rw [show ((0 : Nat) : Int) = 0 from rfl, prR_zero] at h2; omega
      · exact e
    obtain ⟨v, a1, a2, a3, a4, a5⟩ := s.prK hk0 h1
    exact hin (inB_mk h3 (by rw [← h2, a1, s.tie.len]; omega))
end
open Go.RowKit
theorem kids_r {F0 I0 I : Fp} {w0 w : World} {O : List Ob} {L W : List (List Int)} {b : Nat} (S : SH F0 I0 w0 O w I) (i : Nat) (e : O[i]? = some (TR b L W)) (hL : L.length ≤ 1000000) (n : Int) :
    Calls Try.prog 51 #[.pointer (some ⟨b, 0, none⟩), .int .i64 n] w fun e w' => ∃ v, e = .returned v ∧ Upd w No I w' (Row kP v (kiR L n)) := by
  obtain ⟨l, ws, h, s⟩ := S.tr i e
  rw [← s.kidsR s.wf.srt]
  refine (kids_c l ws n b w _ h (fun x hx => ?_)).mono ?_
  · have := s.wf.kn x hx
    rw [s.tie.len] at this
    omega
  · rintro e w' ⟨v, rfl, hu⟩
    exact ⟨v, rfl, hu.any I⟩
end Go.Proofs.Ytpgphhkhjbhimaa
