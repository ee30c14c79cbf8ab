/- The automaton of a tree, by last numbers: no program in sight. -/
import Derived.Test.YtpgphhkhjbhimaaKidP
namespace Go.Proofs.Ytpgphhkhjbhimaa
open X
set_option linter.unusedSimpArgs false
set_option linter.unusedVariables false
/-- the deepest node of last numbers, of at most m -/
def dpst (L : List (List Int)) (w : List Int) : Nat → Int
  | 0 => 0
  | m + 1 => if 0 ≤ findT L (w.drop (w.length - (m + 1))) then findT L (w.drop (w.length - (m + 1))) else dpst L w m
structure IsDp (L : List (List Int)) (w : List Int) (m j : Nat) : Prop where
  lt : j < L.length
  suf : pa L j <:+ w
  le : (pa L j).length ≤ m
  max : ∀ x ∈ L, x <:+ w → x.length ≤ m → x.length ≤ (pa L j).length
def fallR (L : List (List Int)) (n : Int) : Int := if 1 ≤ n ∧ n < L.length then dpst L (pa L n.toNat) ((pa L n.toNat).length - 1) else -1
def nextR (L : List (List Int)) (n p : Int) : Int := if 0 ≤ n ∧ n < L.length then dpst L (pa L n.toNat ++ [p]) ((pa L n.toNat).length + 1) else -1
def endsL (W : List (List Int)) (x : List Int) : List Int := ((List.range W.length).filter (fun i => decide (pa W i <:+ x))).map (fun k : Nat => (k : Int))
def endsR (L W : List (List Int)) (n : Int) : List Int := if 0 ≤ n ∧ n < L.length then endsL W (pa L n.toNat) else []
def linkF (L W : List (List Int)) : Nat → Int → Int
  | 0, _ => -1
  | f + 1, k => if 0 < k then (if wsR L W k ≠ [] then k else linkF L W f (fallR L k)) else -1
def linkR (L W : List (List Int)) (n : Int) : Int := linkF L W (pa L n.toNat).length (fallR L n)
def anyR (L W : List (List Int)) (n : Int) : Bool := decide (endsR L W n ≠ [])

section
variable {L W : List (List Int)}
theorem GoodR.mem (h : GoodR L W) {x : List Int} (hx : x ∈ L) : ∃ j, j < L.length ∧ pa L j = x := by
  obtain ⟨j, hj, e⟩ := List.mem_iff_getElem.1 hx
  exact ⟨j, hj, by rw [pa_eq hj, e]⟩
theorem GoodR.memI (_ : GoodR L W) {j : Nat} (hj : j < L.length) : pa L j ∈ L := by rw [pa_eq hj]; exact List.getElem_mem hj
theorem GoodR.nil (h : GoodR L W) : [] ∈ L := by have := h.memI h.pos; rwa [h.root] at this
theorem GoodR.inj (h : GoodR L W) {i j : Nat} (hi : i < L.length) (hj : j < L.length) (e : pa L i = pa L j) : i = j := by
  have a := findT_at h.nodup hi
  have b := findT_at h.nodup hj
  rw [e, b] at a
  omega
theorem GoodR.take (h : GoodR L W) {x y : List Int} (hx : x ∈ L) (hy : y <+: x) : y ∈ L := by
  obtain ⟨j, hj, rfl⟩ := h.mem hx
  obtain ⟨k, hk, e⟩ := h.pre j hj y.length
  rw [List.prefix_iff_eq_take.1 hy, ← e]
  exact h.memI hk
theorem GoodR.find (h : GoodR L W) (x : List Int) : (findT L x = -1 ∧ x ∉ L) ∨ ∃ k : Nat, findT L x = k ∧ k < L.length ∧ pa L k = x := by
  rcases findT_cases L x with e | ⟨k, e⟩
  · refine .inl ⟨e, fun hx => ?_⟩
    obtain ⟨j, hj, rfl⟩ := h.mem hx
    rw [findT_at h.nodup hj] at e
    omega
  · exact .inr ⟨k, e, findT_pa e⟩
theorem IsDp.uniq (h : GoodR L W) {w : List Int} {m i j : Nat} (a : IsDp L w m i) (b : IsDp L w m j) : i = j := by
  have h1 := a.max _ (h.memI b.lt) b.suf b.le
  have h2 := b.max _ (h.memI a.lt) a.suf a.le
  refine h.inj a.lt b.lt ?_
  exact (List.suffix_of_suffix_length_le a.suf b.suf (by omega)).eq_of_length (by omega)
theorem dpst_spec (h : GoodR L W) {w : List Int} : ∀ m, m ≤ w.length → ∃ j : Nat, dpst L w m = j ∧ IsDp L w m j
  | 0, _ => ⟨0, rfl, h.pos, by rw [h.root]; exact List.nil_suffix, by rw [h.root]; exact Nat.le_refl _, fun x _ _ hl => by omega⟩
  | m + 1, hm => by
    simp only [dpst]
    rcases h.find (w.drop (w.length - (m + 1))) with ⟨e, hn⟩ | ⟨k, e, hk, hp⟩
    · rw [e, if_neg (by omega)]
      obtain ⟨j, e1, hj⟩ := dpst_spec h (w := w) m (by omega)
      refine ⟨j, e1, hj.lt, hj.suf, by have := hj.le; omega, fun x hx hs hl => hj.max x hx hs ?_⟩
      rcases Nat.lt_or_ge m x.length with hlt | hge
      · have : x.length = m + 1 := by omega
        have e2 := List.suffix_iff_eq_drop.1 hs
        rw [this] at e2
        exact absurd (e2 ▸ hx) hn
      · exact hge
    · rw [e, if_pos (by omega)]
      have hl : (pa L k).length = m + 1 := by rw [hp, List.length_drop]; omega
      exact ⟨k, rfl, hk, by rw [hp]; exact List.drop_suffix _ _, by omega, fun x _ _ hx => by omega⟩
theorem dpst_eq (h : GoodR L W) {w : List Int} {m j : Nat} (hm : m ≤ w.length) (hj : IsDp L w m j) : dpst L w m = j := by
  obtain ⟨k, e, hk⟩ := dpst_spec h m hm
  rw [e, hk.uniq h hj]
theorem suf_snoc {x w : List Int} {p : Int} (h : x <:+ w ++ [p]) : x = [] ∨ ∃ s, x = s ++ [p] ∧ s <:+ w := by
  obtain ⟨t, ht⟩ := h
  rcases List.eq_nil_or_concat x with e | ⟨s, q, e⟩
  · exact .inl e
  · right
    subst e
    rw [List.concat_eq_append, ← List.append_assoc] at ht
    obtain ⟨h1, h2⟩ := List.append_inj' ht rfl
    cases h2
    exact ⟨s, by simp, ⟨t, h1⟩⟩
theorem snoc_suf {s w : List Int} {p : Int} (h : s <:+ w) : s ++ [p] <:+ w ++ [p] := by
  obtain ⟨t, rfl⟩ := h
  exact ⟨t, by simp⟩
theorem IsDp.step (h : GoodR L W) {w : List Int} {m k j : Nat} {p : Int} (a : IsDp L w m k) (b : IsDp L (pa L k ++ [p]) ((pa L k).length + 1) j) : IsDp L (w ++ [p]) (m + 1) j := by
  refine ⟨b.lt, b.suf.trans (snoc_suf a.suf), by have := b.le; have := a.le; omega, fun x hx hs hl => ?_⟩
  rcases suf_snoc hs with rfl | ⟨s, rfl, hs1⟩
  · simp
  · have hsL : s ∈ L := h.take hx (List.prefix_append _ _)
    have hsl : s.length ≤ m := by simpa using hl
    have h1 := a.max s hsL hs1 hsl
    refine b.max _ hx (snoc_suf (List.suffix_of_suffix_length_le hs1 a.suf h1)) (by simpa using h1)
theorem IsDp.up {w : List Int} {m j : Nat} (a : IsDp L w m j) (hw : w.length = m + 1) (hn : w ∉ L) : IsDp L w (m + 1) j := by
  refine ⟨a.lt, a.suf, by have := a.le; omega, fun x hx hs hl => a.max x hx hs ?_⟩
  rcases Nat.lt_or_ge m x.length with hlt | hge
  · exact absurd (hs.eq_of_length (by omega) ▸ hx) hn
  · exact hge
theorem fallR_spec (h : GoodR L W) {n : Nat} (h0 : 0 < n) (hn : n < L.length) : ∃ j : Nat, fallR L n = j ∧ IsDp L (pa L n) ((pa L n).length - 1) j := by
  unfold fallR
  rw [if_pos (by omega), Int.toNat_natCast]
  exact dpst_spec h _ (by omega)
theorem GoodR.ne (h : GoodR L W) {n : Nat} (h0 : 0 < n) (hn : n < L.length) : pa L n ≠ [] := by
  intro e
  have := h.inj hn h.pos (by rw [e, h.root])
  omega
theorem GoodR.len1 (h : GoodR L W) {n : Nat} (h0 : 0 < n) (hn : n < L.length) : 1 ≤ (pa L n).length := by
  have := h.ne h0 hn
  have : (pa L n).length ≠ 0 := fun e => this (List.eq_nil_of_length_eq_zero e)
  omega
theorem fallR_lt (h : GoodR L W) {n : Nat} (h0 : 0 < n) (hn : n < L.length) : ∃ j : Nat, fallR L n = j ∧ j < L.length ∧ (pa L j).length < (pa L n).length := by
  obtain ⟨j, e, hj⟩ := fallR_spec h h0 hn
  have := h.len1 h0 hn
  exact ⟨j, e, hj.lt, by have := hj.le; omega⟩
theorem fallR_zero : fallR L 0 = -1 := by unfold fallR; rw [if_neg (by omega)]
/-- a child -/
theorem nextR_kid (h : GoodR L W) {n k : Nat} {p : Int} (hn : n < L.length) (hk : findT L (pa L n ++ [p]) = k) : nextR L n p = k := by
  obtain ⟨k1, k2⟩ := findT_pa hk
  unfold nextR
  rw [if_pos (by omega), Int.toNat_natCast]
  refine dpst_eq h (by simp) ⟨k1, by rw [k2]; exact List.suffix_refl _, by rw [k2]; simp, fun x _ hs _ => by rw [k2]; exact hs.length_le⟩
theorem nextR_root (h : GoodR L W) {p : Int} (hk : findT L (pa L 0 ++ [p]) = -1) : nextR L 0 p = 0 := by
  unfold nextR
  rw [if_pos (by have := h.pos; omega), show (0 : Int).toNat = 0 from rfl]
  rw [h.root] at hk ⊢
  simp only [List.nil_append, List.length_nil, Nat.zero_add] at hk ⊢
  simp only [dpst, List.length_singleton, Nat.sub_self, List.drop_zero, hk]
  rw [if_neg (by omega)]
theorem nextR_fall (h : GoodR L W) {n j : Nat} {p : Int} (h0 : 0 < n) (hn : n < L.length) (hk : findT L (pa L n ++ [p]) = -1) (hj : fallR L n = j) : nextR L n p = nextR L j p := by
  obtain ⟨j', e, hd⟩ := fallR_spec h h0 hn
  obtain rfl : j' = j := by omega
  have h1 := h.len1 h0 hn
  unfold nextR
  rw [if_pos (by omega), if_pos (by have := hd.lt; omega), Int.toNat_natCast, Int.toNat_natCast]
  obtain ⟨k, e2, hd2⟩ := dpst_spec h (w := pa L j' ++ [p]) ((pa L j').length + 1) (by simp)
  rw [e2]
  have h3 := hd.step h hd2
  refine dpst_eq h (by simp) ?_
  rw [show (pa L n).length - 1 + 1 = (pa L n).length by omega] at h3
  refine h3.up (by simp) ?_
  rcases h.find (pa L n ++ [p]) with ⟨_, h4⟩ | ⟨k, e, _⟩
  · exact h4
  · omega
theorem nextR_lt (h : GoodR L W) {n : Nat} (hn : n < L.length) (p : Int) : ∃ j : Nat, nextR L n p = j ∧ IsDp L (pa L n ++ [p]) ((pa L n).length + 1) j := by
  unfold nextR
  rw [if_pos (by omega), Int.toNat_natCast]
  exact dpst_spec h _ (by simp)
/-- the state behind all numbers is the deepest node of last ones -/
theorem dpst_snoc (h : GoodR L W) {w : List Int} {p : Int} : dpst L (w ++ [p]) (w.length + 1) = nextR L (dpst L w w.length) p := by
  obtain ⟨k, e, hk⟩ := dpst_spec h (w := w) w.length (Nat.le_refl _)
  obtain ⟨j, e2, hj⟩ := nextR_lt h hk.lt p
  rw [e, e2]
  exact dpst_eq h (by simp) (hk.step h hj)
theorem endsL_mem {W : List (List Int)} {x : List Int} {i : Int} : i ∈ endsL W x ↔ ∃ k : Nat, i = k ∧ k < W.length ∧ pa W k <:+ x := by
  unfold endsL
  simp only [List.mem_map, List.mem_filter, List.mem_range, decide_eq_true_eq]
  constructor
  · rintro ⟨k, ⟨h1, h2⟩, rfl⟩; exact ⟨k, rfl, h1, h2⟩
  · rintro ⟨k, rfl, h1, h2⟩; exact ⟨k, ⟨h1, h2⟩, rfl⟩
theorem range_srt (p : Nat → Bool) : ∀ n, (((List.range n).filter p).map (fun k : Nat => (k : Int))).Pairwise (· < ·) := by
  intro n
  rw [List.pairwise_map]
  have : (List.range n).Pairwise (· < ·) := List.pairwise_lt_range
  exact (this.sublist List.filter_sublist).imp fun h => by omega
theorem endsL_srt {W : List (List Int)} {x : List Int} : (endsL W x).Pairwise (· < ·) := range_srt _ _
/-- what ends at the deepest node of last numbers, ends there -/
theorem endsL_dp (h : GoodR L W) {w : List Int} {j : Nat} (hj : IsDp L w w.length j) : endsL W (pa L j) = endsL W w := by
  unfold endsL
  congr 1
  apply List.filter_congr
  intro i hi
  rw [List.mem_range] at hi
  obtain ⟨q, q1, q2⟩ := h.at_ i hi
  rw [decide_eq_decide, ← q2]
  constructor
  · exact fun e => e.trans hj.suf
  · exact fun e => List.suffix_of_suffix_length_le e hj.suf (hj.max _ (h.memI q1) e e.length_le)
theorem wsR_mem {n i : Int} : i ∈ wsR L W n ↔ ∃ k : Nat, i = k ∧ k < W.length ∧ findT L (pa W k) = n := by
  unfold wsR
  simp only [List.mem_map, List.mem_filter, List.mem_range, decide_eq_true_eq]
  constructor
  · rintro ⟨k, ⟨h1, h2⟩, rfl⟩; exact ⟨k, rfl, h1, h2⟩
  · rintro ⟨k, rfl, h1, h2⟩; exact ⟨k, ⟨h1, h2⟩, rfl⟩
theorem wsR_srt {n : Int} : (wsR L W n).Pairwise (· < ·) := range_srt _ _
theorem wsR_path (h : GoodR L W) {n k : Nat} (hn : n < L.length) (hk : k < W.length) : findT L (pa W k) = n ↔ pa W k = pa L n := by
  constructor
  · intro e; exact (findT_pa e).2.symm
  · intro e; rw [e, findT_at h.nodup hn]
theorem linkF_fuel (h : GoodR L W) : ∀ (f g : Nat) (k : Nat), k < L.length → (pa L k).length < f → (pa L k).length < g → linkF L W f k = linkF L W g k
  | 0, _, _, _, hf, _ => absurd hf (Nat.not_lt_zero _)
  | _ + 1, 0, _, _, _, hg => absurd hg (Nat.not_lt_zero _)
  | f + 1, g + 1, k, hk, hf, hg => by
    simp only [linkF]
    by_cases h0 : 0 < (k : Int)
    · rw [if_pos h0, if_pos h0]
      split
      · rfl
      · obtain ⟨j, e, j1, j2⟩ := fallR_lt h (n := k) (by omega) hk
        rw [e]
        exact linkF_fuel h f g j j1 (by omega) (by omega)
    · rw [if_neg h0, if_neg h0]
/-- the next state at which a word ends -/
theorem linkR_step (h : GoodR L W) {n j : Nat} (h0 : 0 < n) (hn : n < L.length) (hj : fallR L n = j) : linkR L W n = if 0 < j then (if wsR L W j ≠ [] then (j : Int) else linkR L W j) else -1 := by
  obtain ⟨j', e, j1, j2⟩ := fallR_lt h h0 hn
  obtain rfl : j' = j := by omega
  unfold linkR
  rw [e, Int.toNat_natCast, Int.toNat_natCast]
  obtain ⟨f, hf⟩ : ∃ f, (pa L n).length = f + 1 := ⟨(pa L n).length - 1, by omega⟩
  rw [hf]
  simp only [linkF]
  by_cases h1 : 0 < j'
  · rw [if_pos h1, if_pos (by omega)]
    split
    · rfl
    · obtain ⟨i, e2, i1, i2⟩ := fallR_lt h h1 j1
      rw [e2]
      exact linkF_fuel h _ _ i i1 (by omega) (by omega)
  · rw [if_neg h1, if_neg (by omega)]
theorem linkR_zero (h : GoodR L W) : linkR L W 0 = -1 := by
  unfold linkR
  rw [show (0 : Int).toNat = 0 from rfl, h.root]
  rfl
structure IsLk (L W : List (List Int)) (n : Nat) (k : Int) : Prop where
  cases : k = -1 ∨ ∃ j : Nat, k = j ∧ 0 < j ∧ j < L.length ∧ pa L j <:+ pa L n ∧ (pa L j).length < (pa L n).length ∧ wsR L W j ≠ []
  max : ∀ q : Nat, q < L.length → 0 < q → pa L q <:+ pa L n → (pa L q).length < (pa L n).length → wsR L W q ≠ [] → ∃ j : Nat, k = j ∧ pa L q <:+ pa L j
theorem linkR_spec (h : GoodR L W) : ∀ (m n : Nat), n < L.length → (pa L n).length ≤ m → IsLk L W n (linkR L W n)
  | 0, n, hn, hm => by
    have h0 : n = 0 := by
      rcases Nat.eq_zero_or_pos n with e | e
      · exact e
      · have := h.len1 e hn; omega
    subst h0
    rw [show ((0 : Nat) : Int) = 0 from rfl, linkR_zero h]
    exact ⟨.inl rfl, fun q _ _ _ hl => by omega⟩
  | m + 1, n, hn, hm => by
    rcases Nat.eq_zero_or_pos n with rfl | h0
    · rw [show ((0 : Nat) : Int) = 0 from rfl, linkR_zero h]
      exact ⟨.inl rfl, fun q _ _ _ hl => by rw [h.root] at hl; exact absurd hl (Nat.not_lt_zero _)⟩
    · obtain ⟨j, e, hd⟩ := fallR_spec h h0 hn
      have hl1 := h.len1 h0 hn
      have hjl : (pa L j).length < (pa L n).length := by have := hd.le; omega
      rw [linkR_step h h0 hn e]
      have hq : ∀ q : Nat, q < L.length → pa L q <:+ pa L n → (pa L q).length < (pa L n).length → pa L q <:+ pa L j := fun q q1 q2 q3 =>
        List.suffix_of_suffix_length_le q2 hd.suf (hd.max _ (h.memI q1) q2 (by omega))
      by_cases h1 : 0 < j
      · rw [if_pos h1]
        by_cases h2 : wsR L W j ≠ []
        · rw [if_pos h2]
          exact ⟨.inr ⟨j, rfl, h1, hd.lt, hd.suf, hjl, h2⟩, fun q q1 _ q2 q3 _ => ⟨j, rfl, hq q q1 q2 q3⟩⟩
        · rw [if_neg h2]
          have ih := linkR_spec h m j hd.lt (by omega)
          refine ⟨?_, fun q q1 q0 q2 q3 q4 => ?_⟩
          · rcases ih.cases with hc | ⟨i, i1, i2, i3, i4, i5, i6⟩
            · exact .inl hc
            · exact .inr ⟨i, i1, i2, i3, i4.trans hd.suf, by omega, i6⟩
          · have h5 := hq q q1 q2 q3
            refine ih.max q q1 q0 h5 ?_ q4
            rcases Nat.lt_or_ge (pa L q).length (pa L j).length with h6 | h6
            · exact h6
            · have := h.inj q1 hd.lt (h5.eq_of_length (by have := h5.length_le; omega))
              subst this
              exact absurd q4 h2
      · rw [if_neg h1]
        refine ⟨.inl rfl, fun q q1 q0 q2 q3 q4 => ?_⟩
        obtain rfl : j = 0 := by omega
        have := hq q q1 q2 q3
        rw [h.root] at this
        exact absurd (List.suffix_nil.1 this) (h.ne q0 q1)
/-- words are not empty -/
abbrev NeW (W : List (List Int)) : Prop := ∀ k, k < W.length → pa W k ≠ []
theorem wsR_root (h : GoodR L W) (hw : NeW W) : wsR L W 0 = [] := by
  apply List.eq_nil_iff_forall_not_mem.2
  intro i hi
  obtain ⟨k, rfl, k1, k2⟩ := wsR_mem.1 hi
  have := (wsR_path h h.pos k1).1 k2
  rw [h.root] at this
  exact hw k k1 this
/-- what ends at a state ends there itself, or at its link -/
theorem endsL_link (h : GoodR L W) (hw : NeW W) {n : Nat} (hn : n < L.length) (i : Int) :
    i ∈ endsL W (pa L n) ↔ i ∈ wsR L W n ∨ ∃ j : Nat, linkR L W n = j ∧ i ∈ endsL W (pa L j) := by
  have hk := linkR_spec h _ n hn (Nat.le_refl _)
  constructor
  · intro hi
    obtain ⟨k, rfl, k1, k2⟩ := endsL_mem.1 hi
    obtain ⟨q, q1, q2, q3⟩ := h.findW k1
    by_cases he : pa W k = pa L n
    · exact .inl (wsR_mem.2 ⟨k, rfl, k1, (wsR_path h hn k1).2 he⟩)
    · have hq0 : 0 < q := by
        rcases Nat.eq_zero_or_pos q with e | e
        · subst e; rw [h.root] at q3; exact absurd q3.symm (hw k k1)
        · exact e
      have hlt : (pa L q).length < (pa L n).length := by
        rcases Nat.lt_or_ge (pa L q).length (pa L n).length with h6 | h6
        · exact h6
        · exact absurd (k2.eq_of_length (by have := k2.length_le; rw [q3] at h6; omega)) he
      obtain ⟨j, e, hj⟩ := hk.max q q2 hq0 (by rw [q3]; exact k2) hlt (fun e => by
        have : (k : Int) ∈ wsR L W q := wsR_mem.2 ⟨k, rfl, k1, q1⟩
        rw [e] at this; cases this)
      exact .inr ⟨j, e, endsL_mem.2 ⟨k, rfl, k1, by rw [← q3]; exact hj⟩⟩
  · rintro (hi | ⟨j, e, hi⟩)
    · obtain ⟨k, rfl, k1, k2⟩ := wsR_mem.1 hi
      exact endsL_mem.2 ⟨k, rfl, k1, by rw [(wsR_path h hn k1).1 k2]; exact List.suffix_refl _⟩
    · obtain ⟨k, rfl, k1, k2⟩ := endsL_mem.1 hi
      rcases hk.cases with hc | ⟨i, i1, i2, i3, i4, i5, i6⟩
      · omega
      · obtain rfl : i = j := by omega
        exact endsL_mem.2 ⟨k, rfl, k1, k2.trans i4⟩
/-- what the program gathers -/
def gath (L W : List (List Int)) : Nat → Int → List Int
  | 0, _ => []
  | f + 1, n => if 0 ≤ n ∧ n < L.length then wsR L W n ++ gath L W f (linkR L W n) else []
theorem linkR_lt (h : GoodR L W) {n : Nat} (hn : n < L.length) : linkR L W n = -1 ∨ ∃ j : Nat, linkR L W n = j ∧ 0 < j ∧ j < L.length ∧ (pa L j).length < (pa L n).length ∧ wsR L W j ≠ [] := by
  rcases (linkR_spec h _ n hn (Nat.le_refl _)).cases with hc | ⟨i, i1, i2, i3, i4, i5, i6⟩
  · exact .inl hc
  · exact .inr ⟨i, i1, i2, i3, i5, i6⟩
theorem gath_fuel (h : GoodR L W) : ∀ (f g : Nat) (n : Nat), n < L.length → (pa L n).length < f → (pa L n).length < g → gath L W f n = gath L W g n
  | 0, _, _, _, hf, _ => absurd hf (Nat.not_lt_zero _)
  | _ + 1, 0, _, _, _, hg => absurd hg (Nat.not_lt_zero _)
  | f + 1, g + 1, n, hn, hf, hg => by
    simp only [gath]
    rw [if_pos (by omega), if_pos (by omega)]
    congr 1
    rcases linkR_lt h hn with e | ⟨j, e, _, j1, j2, _⟩
    · rw [e]
      rcases f with _ | f <;> rcases g with _ | g <;> simp only [gath] <;> first | rfl | (rw [if_neg (by omega)]) 
    · rw [e]
      exact gath_fuel h f g j j1 (by omega) (by omega)
theorem gath_len (h : GoodR L W) (hw : NeW W) : ∀ (f n : Nat), n < L.length → (pa L n).length < f → (gath L W f n).Nodup ∧ ∀ i, i ∈ gath L W f n ↔ i ∈ endsL W (pa L n)
  | 0, _, _, hf => absurd hf (Nat.not_lt_zero _)
  | f + 1, n, hn, hf => by
    simp only [gath]
    rw [if_pos (by omega)]
    have hnd : (wsR L W n).Nodup := (wsR_srt (L := L) (W := W) (n := n)).imp fun h e => by omega
    rcases linkR_lt h hn with e | ⟨j, e, _, j1, j2, _⟩
    · have hg : gath L W f (linkR L W n) = [] := by
        rw [e]
        rcases f with _ | f
        · rfl
        · simp only [gath]; rw [if_neg (by omega)]
      rw [hg, List.append_nil]
      refine ⟨hnd, fun i => ?_⟩
      rw [endsL_link h hw hn]
      constructor
      · exact .inl
      · rintro (hi | ⟨j, e2, _⟩)
        · exact hi
        · omega
    · obtain ⟨g1, g2⟩ := gath_len h hw f j j1 (by omega)
      rw [e]
      refine ⟨List.nodup_append.2 ⟨hnd, g1, ?_⟩, fun i => ?_⟩
      · intro a ha b hb
        rintro rfl
        obtain ⟨k, rfl, k1, k2⟩ := wsR_mem.1 ha
        obtain ⟨k', e', _, k3⟩ := endsL_mem.1 ((g2 _).1 hb)
        obtain rfl : k' = k := by omega
        have := (wsR_path h hn k1).1 k2
        rw [this] at k3
        have := k3.length_le
        omega
      · rw [List.mem_append, endsL_link h hw hn, g2]
        constructor
        · rintro (hi | hi)
          · exact .inl hi
          · exact .inr ⟨j, e, hi⟩
        · rintro (hi | ⟨j', e2, hi⟩)
          · exact .inl hi
          · obtain rfl : j' = j := by omega
            exact .inr hi
/-- sorted, it is what ends there -/
theorem gath_sorted (h : GoodR L W) (hw : NeW W) {n : Nat} (hn : n < L.length) {f : Nat} (hf : (pa L n).length < f) {ys : List Int} (hp : ys.Perm (gath L W f n)) (hs : ys.Pairwise (· ≤ ·)) : ys = endsR L W n := by
  obtain ⟨g1, g2⟩ := gath_len h hw f n hn hf
  unfold endsR
  rw [if_pos (by omega), Int.toNat_natCast]
  refine srt_eq _ _ ?_ endsL_srt fun i => by rw [hp.mem_iff, g2]
  have hnd : ys.Nodup := hp.symm.nodup g1
  exact (List.pairwise_and_iff.2 ⟨hs, hnd⟩).imp fun ⟨a, b⟩ => by omega
theorem anyR_eq (h : GoodR L W) (hw : NeW W) {n : Nat} (hn : n < L.length) : anyR L W n = (decide (wsR L W n ≠ []) || decide (linkR L W n ≠ -1)) := by
  unfold anyR endsR
  rw [if_pos (by omega), Int.toNat_natCast, Bool.eq_iff_iff]
  simp only [decide_eq_true_eq, Bool.or_eq_true]
  constructor
  · intro he
    obtain ⟨i, hi⟩ := List.exists_mem_of_ne_nil _ he
    rcases (endsL_link h hw hn i).1 hi with h1 | ⟨j, e, _⟩
    · exact .inl (List.ne_nil_of_mem h1)
    · exact .inr (by omega)
  · rintro (h1 | h1)
    · obtain ⟨i, hi⟩ := List.exists_mem_of_ne_nil _ h1
      exact List.ne_nil_of_mem ((endsL_link h hw hn i).2 (.inl hi))
    · rcases linkR_lt h hn with e | ⟨j, e, _, j1, j2, hne⟩
      · exact absurd e h1
      · obtain ⟨i, hi⟩ := List.exists_mem_of_ne_nil _ hne
        exact List.ne_nil_of_mem ((endsL_link h hw hn i).2 (.inr ⟨j, e, (endsL_link h hw j1 i).2 (.inl hi)⟩))
/-- children -/
theorem kid_iff (h : GoodR L W) {n : Nat} (hn : n < L.length) (p : Int) : p ∈ kiR L n ↔ ∃ k : Nat, findT L (pa L n ++ [p]) = k := by
  unfold kiR
  rw [kiK_mem]
  constructor
  · rintro ⟨k, k1, k2, _, k4⟩
    have h0 : 0 < k := by
      rcases Nat.eq_zero_or_pos k with e | e
      · subst e
        rw [show ((0 : Nat) : Int) = 0 from rfl, prR_zero] at k2
        omega
      · exact e
    unfold prR at k2
    rw [if_pos (by omega), Int.toNat_natCast] at k2
    have h2 := (findT_pa k2).2
    have hne := h.ne h0 k1
    unfold laR at k4
    refine ⟨k, ?_⟩
    have e : pa L n ++ [p] = pa L k := by
      rw [h2, ← k4]
      have := List.dropLast_concat_getLast hne
      rw [List.getLastD_eq_getLast?, List.getLast?_eq_some_getLast hne]
      exact this
    rw [e, findT_at h.nodup k1]
  · rintro ⟨k, hk⟩
    obtain ⟨k1, k2⟩ := findT_pa hk
    have h0 : 0 < k := by
      rcases Nat.eq_zero_or_pos k with e | e
      · subst e; rw [h.root] at k2; simp at k2
      · exact e
    refine ⟨k, k1, ?_, by omega, ?_⟩
    · unfold prR
      rw [if_pos (by omega), Int.toNat_natCast, k2, List.dropLast_concat, findT_at h.nodup hn]
    · unfold laR
      rw [k2]
      simp
theorem lvU_bd {f : Nat → Nat} {N : Nat} : ∀ {d x : Nat}, x ∈ lvU f N d → 1 ≤ f x ∧ f x ≤ d
  | 0, _, h => by cases h
  | d + 1, x, h => by
    simp only [lvU, List.mem_append] at h
    rcases h with h | h
    · have := lvU_bd h; omega
    · have := (lvk_lt h).2; omega
theorem lvU_in {f : Nat → Nat} {N i : Nat} (hi : i < N) : ∀ {d : Nat}, 1 ≤ f i → f i ≤ d → i ∈ lvU f N d
  | 0, h1, h2 => by omega
  | d + 1, h1, h2 => by
    simp only [lvU, List.mem_append]
    rcases Nat.lt_or_ge d (f i) with h | h
    · right
      unfold lvk
      simp only [List.mem_filter, List.mem_range, decide_eq_true_eq]
      exact ⟨hi, by omega⟩
    · exact .inl (lvU_in hi h1 h)
theorem lvU_rise {f : Nat → Nat} {N : Nat} : ∀ d, (lvU f N d).Pairwise (fun a b => f a ≤ f b)
  | 0 => List.Pairwise.nil
  | d + 1 => by
    simp only [lvU]
    refine List.pairwise_append.2 ⟨lvU_rise d, ?_, fun a ha b hb => by have := (lvU_bd ha).2; have := (lvk_lt hb).2; omega⟩
    refine List.pairwise_iff_forall_sublist.2 fun {a b} hs => ?_
    have ha := hs.subset (a := a) (by simp)
    have hb := hs.subset (a := b) (by simp)
    have := (lvk_lt ha).2
    have := (lvk_lt hb).2
    omega
/-- ahead of a node all less deep ones are told -/
theorem lvL_before (h : GoodR L W) {B : Nat} (hB : ∀ x ∈ L, x.length ≤ B) {pre : List Nat} {x : Nat} (hp : (pre ++ [x]) <+: lvL L B) : (0 < x ∧ x < L.length) ∧ ∀ i, i < L.length → dpN L i < dpN L x → i = 0 ∨ i ∈ pre := by
  obtain ⟨rest, hr⟩ := hp
  have hx : x ∈ lvL L B := by rw [← hr]; simp
  have hb := lvU_bd (show x ∈ lvU (dpN L) L.length B from hx)
  have h0 := h.dp0
  refine ⟨⟨?_, lvU_lt (show x ∈ lvU (dpN L) L.length B from hx)⟩, fun i hi hlt => ?_⟩
  · rcases Nat.eq_zero_or_pos x with e | e
    · subst e; omega
    · exact e
  · rcases Nat.eq_zero_or_pos i with e | e
    · exact .inl e
    · right
      have hd := h.dp1 hB i e hi
      have hm : i ∈ lvL L B := lvU_in hi hd.1 hd.2
      have hs : (lvL L B).Pairwise (fun a b => dpN L a ≤ dpN L b) := lvU_rise B
      rw [← hr, List.append_assoc] at hm hs
      rcases List.mem_append.1 hm with hm | hm
      · exact hm
      · exfalso
        rcases List.mem_cons.1 hm with rfl | hm
        · omega
        · have := (List.pairwise_append.1 hs).2.1
          have := (List.pairwise_cons.1 this).1 i (by simpa using hm)
          omega
theorem prR_up (h : GoodR L W) {x : Nat} (h0 : 0 < x) (hx : x < L.length) : ∃ (u : Nat) (p : Int), prR L x = u ∧ u < L.length ∧ pa L x = pa L u ++ [p] ∧ dpN L u < dpN L x := by
  have hne := h.ne h0 hx
  have e := List.dropLast_concat_getLast hne
  have hpre : (pa L x).dropLast <+: pa L x := ⟨_, e⟩
  obtain ⟨u, hu, hu2⟩ := h.mem (h.take (h.memI hx) hpre)
  refine ⟨u, (pa L x).getLast hne, ?_, hu, by rw [hu2, e], ?_⟩
  · unfold prR
    rw [if_pos (by omega), Int.toNat_natCast, ← hu2, findT_at h.nodup hu]
  · unfold dpN
    rw [hu2, List.length_dropLast]
    have := h.len1 h0 hx
    omega
theorem fallR_top (h : GoodR L W) {x : Nat} (h0 : 0 < x) (hx : x < L.length) {p : Int} (e : pa L x = pa L 0 ++ [p]) : fallR L x = 0 := by
  obtain ⟨j, ej, hd⟩ := fallR_spec h h0 hx
  have : (pa L j).length ≤ 0 := by have := hd.le; rw [e, h.root] at this; simpa using this
  have h1 : pa L j = [] := List.eq_nil_of_length_eq_zero (by omega)
  have := h.inj hd.lt h.pos (by rw [h1, h.root])
  subst this
  exact ej
theorem fallR_up (h : GoodR L W) {x u : Nat} (h0 : 0 < x) (hx : x < L.length) (hu0 : 0 < u) (hu : u < L.length) {p : Int} (e : pa L x = pa L u ++ [p]) : fallR L x = nextR L (fallR L u) p := by
  obtain ⟨k, ek, hk⟩ := fallR_spec h hu0 hu
  obtain ⟨j, ej, hj⟩ := nextR_lt h hk.lt p
  rw [ek, ej]
  obtain ⟨j', ej', hj'⟩ := fallR_spec h h0 hx
  rw [ej']
  have h3 := hk.step h hj
  have hl := h.len1 hu0 hu
  rw [e] at hj'
  have e3 : (pa L u ++ [p]).length - 1 = (pa L u).length - 1 + 1 := by rw [List.length_append, List.length_singleton]; omega
  rw [e3] at hj'
  have := hj'.uniq h h3
  omega
end
open Go.RowKit in
def msN (L : List (List Int)) (v : Value) : Nat := if intOf v < 0 then 0 else dpN L (intOf v).toNat + 1
open Go.RowKit in
theorem msN_nat {L : List (List Int)} {j : Nat} : msN L (.int .i64 j) = dpN L j + 1 := by unfold msN intOf; simp only [Int.toNat_natCast]; rw [if_neg (by omega)]
open Go.RowKit in
theorem msN_neg {L : List (List Int)} : msN L (.int .i64 (-1)) = 0 := rfl
end Go.Proofs.Ytpgphhkhjbhimaa
