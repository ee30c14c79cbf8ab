/- What is told of a tree, by its paths and words: no program in sight. -/
import Derived.Test.YtpgphhkhjbhimaaTie3
namespace Go.Proofs.Ytpgphhkhjbhimaa
open X
set_option linter.unusedSimpArgs false
set_option linter.unusedVariables false
/-- how deep a node is; its parent; its path; a word's node; the words of a node; the deepest node of first numbers -/
def dpR (L : List (List Int)) (n : Int) : Int := if 0 ≤ n ∧ n < L.length then ((pa L n.toNat).length : Int) else -1
def prR (L : List (List Int)) (n : Int) : Int := if 1 ≤ n ∧ n < L.length then findT L (pa L n.toNat).dropLast else -1
def ptR (L : List (List Int)) (n : Int) : List Int := if 0 ≤ n ∧ n < L.length then pa L n.toNat else []
def woR (L W : List (List Int)) (i : Int) : Int := if 0 ≤ i ∧ i < W.length then findT L (pa W i.toNat) else -1
def wsR (L W : List (List Int)) (n : Int) : List Int := ((List.range W.length).filter (fun k => decide (findT L (pa W k) = n))).map (fun k : Nat => (k : Int))
def wkR (L : List (List Int)) (xs : List Int) : Nat → Int × Nat
  | 0 => (0, 0)
  | i + 1 => if 0 ≤ findT L (xs.take (i + 1)) then (findT L (xs.take (i + 1)), i + 1) else wkR L xs i

section
variable {l : List Nd} {ws : List Int} {L W : List (List Int)}
theorem findT_get (hf : ∀ i, i < L.length → findT L (pa L i) = i) {p : List Int} : findT L p = -1 ∨ ∃ i : Nat, findT L p = i ∧ i < L.length ∧ pa L i = p := by
  rcases findT_cases L p with h | ⟨k, h⟩
  · exact .inl h
  · exact .inr ⟨k, h, findT_pa h⟩
theorem walkF_spec : ∀ (ys : List Int) (i : Nat), i < L.length → ∃ (j m : Nat), walkF L i (pa L i) ys = ((j : Int), m) ∧ j < L.length ∧ pa L j = pa L i ++ ys.take m ∧ m ≤ ys.length ∧ (m = ys.length ∨ findT L (pa L i ++ ys.take (m + 1)) = -1)
  | [], i, hi => ⟨i, 0, rfl, hi, by simp, Nat.le_refl _, .inl rfl⟩
  | p :: r, i, hi => by
    simp only [walkF]
    rcases findT_cases L (pa L i ++ [p]) with he | ⟨k, hk⟩
    · rw [if_pos he]
      exact ⟨i, 0, rfl, hi, by simp, Nat.zero_le _, .inr (by simpa using he)⟩
    · obtain ⟨k1, k2⟩ := findT_pa hk
      rw [hk, if_neg (by omega)]
      obtain ⟨j, m, e, h1, h2, h3, h4⟩ := walkF_spec r k k1
      rw [k2] at e h2 h4
      refine ⟨j, m + 1, by rw [e], h1, by rw [h2]; simp, by simpa using h3, ?_⟩
      rcases h4 with h4 | h4
      · exact .inl (by simp [h4])
      · exact .inr (by rw [← h4]; simp)
theorem Tie.pre (h : Tie l L) {i : Nat} (hi : i < L.length) (t : Nat) : ∃ j, j < L.length ∧ pa L j = (pa L i).take t := by
  obtain ⟨j, h1, h2⟩ := h.prefix i i (Nat.le_refl _) (by rw [h.len]; exact hi) t
  exact ⟨j, by rw [← h.len]; exact h1, h2⟩
theorem wkR_skip {xs : List Int} {m : Nat} : ∀ (n : Nat), m ≤ n → (∀ t, m < t → t ≤ n → findT L (xs.take t) = -1) → wkR L xs n = wkR L xs m
  | 0, hm, _ => by obtain rfl : m = 0 := by omega
                   rfl
  | n + 1, hm, h => by
    rcases Nat.eq_or_lt_of_le hm with e | hlt
    · rw [e]
    · simp only [wkR]
      rw [h (n + 1) hlt (Nat.le_refl _), if_neg (by omega)]
      exact wkR_skip n (by omega) fun t h1 h2 => h t h1 (by omega)
theorem Tie.walkR {n : Nat} (h : Tie l L) (hW : WfT l n) (xs : List Int) : walkT l 0 xs = wkR L xs xs.length := by
  rw [h.walk0 hW xs]
  have hp : 0 < L.length := by rw [← h.len]; exact hW.pos
  obtain ⟨j, m, e, h1, h2, h3, h4⟩ := walkF_spec (L := L) xs 0 hp
  rw [h.root] at e h2 h4
  rw [List.nil_append] at h2
  rw [show ((0 : Nat) : Int) = 0 from rfl] at e
  rw [e, wkR_skip xs.length h3 (fun t ht htn => ?_)]
  · rcases m with _ | m
    · have : j = 0 := by
        have e1 := findT_at h.nodup h1
        have e2 := findT_at h.nodup hp
        rw [h2, List.take_zero, ← h.root, e2] at e1
        omega
      subst this
      rfl
    · simp only [wkR]
      rw [← h2, findT_at h.nodup h1, if_pos (by omega)]
  · rcases h4 with h4 | h4
    · omega
    · rcases findT_cases L (xs.take t) with h5 | ⟨k, hk⟩
      · exact h5
      · obtain ⟨k1, k2⟩ := findT_pa hk
        obtain ⟨q, q1, q2⟩ := h.pre k1 (m + 1)
        rw [k2, List.take_take, Nat.min_eq_left (by omega)] at q2
        have := findT_at h.nodup q1
        rw [q2] at this
        rw [List.nil_append] at h4
        omega
theorem Tie.inL (h : Tie l L) (n : Int) : inB l n = true ↔ 0 ≤ n ∧ n < L.length := by
  constructor
  · intro hi
    obtain ⟨k, rfl, hk⟩ := inB_true hi
    rw [h.len] at hk
    omega
  · rintro ⟨h1, h2⟩
    rw [← h.len] at h2
    exact inB_mk h1 h2
theorem Tie.depthR (h : Tie l L) (n : Int) : depthT l n = dpR L n := by
  unfold depthT dpR
  by_cases hi : inB l n = true
  · rw [if_pos hi, if_pos ((h.inL n).1 hi)]
    obtain ⟨k, rfl, hk⟩ := inB_true hi
    rw [Int.toNat_natCast]
    exact h.depth k hk
  · rw [if_neg hi, if_neg (fun e => hi ((h.inL n).2 e))]
theorem Tie.parentR (h : Tie l L) (hr : (nd l 0).up = -1) (i : Int) : parentT l i = prR L i := by
  unfold parentT prR
  by_cases hi : inB l i = true
  · rw [if_pos hi]
    obtain ⟨k, rfl, hk⟩ := inB_true hi
    rw [Int.toNat_natCast]
    rcases Nat.eq_zero_or_pos k with rfl | h0
    · rw [if_neg (by omega)]
      exact hr
    · rw [if_pos (by rw [← h.len]; omega)]
      obtain ⟨u, u1, u2, u3⟩ := h.path k hk h0
      rw [u3, List.dropLast_concat, findT_at h.nodup (by rw [← h.len]; omega)]
      exact u1
  · rw [if_neg hi, if_neg (fun e => hi ((h.inL i).2 ⟨by omega, e.2⟩))]
theorem Tie.upR (h : Tie l L) : ∀ (f i : Nat), i < l.length → i < f → upT l f i = (pa L i).reverse
  | 0, i, _, hf => absurd hf (Nat.not_lt_zero i)
  | f + 1, i, hi, hf => by
    simp only [upT]
    rcases Nat.eq_zero_or_pos i with rfl | h0
    · rw [if_neg (by omega), h.root]; rfl
    · obtain ⟨u, u1, u2, u3⟩ := h.path i hi h0
      rw [if_pos ⟨inB_nat hi, by omega⟩, Int.toNat_natCast, u3, List.reverse_append]
      have e : (l.getD i default).up = u := u1
      rw [e, Tie.upR h f u (by omega) (by omega)]
      rfl
theorem Tie.pathR (h : Tie l L) (n : Int) : pathT l n = ptR L n := by
  unfold pathT ptR
  by_cases hi : inB l n = true
  · rw [if_pos ((h.inL n).1 hi)]
    obtain ⟨k, rfl, hk⟩ := inB_true hi
    rw [Int.toNat_natCast, h.upR (k + 1) k hk (by omega), List.reverse_reverse]
  · rw [if_neg (fun e => hi ((h.inL n).2 e))]
    simp only [upT]
    rw [if_neg (fun e => hi e.1)]; rfl
theorem St.wordR (h : St l ws L W) (i : Int) : wordT ws i = woR L W i := by
  unfold wordT woR
  rw [h.wlen]
  by_cases hi : 0 ≤ i ∧ i < W.length
  · rw [if_pos hi, if_pos hi]
    obtain ⟨k, rfl⟩ : ∃ k : Nat, i = k := ⟨i.toNat, by omega⟩
    rw [Int.toNat_natCast]
    obtain ⟨j, a1, a2, a3⟩ := h.at_ k (by omega)
    rw [a1, ← a3, findT_at h.tie.nodup (by rw [← h.tie.len]; exact a2)]
  · rw [if_neg hi, if_neg hi]
theorem St.wordsR (h : St l ws L W) {n : Int} (hn : 0 ≤ n ∧ n < L.length) : wordsT l n = wsR L W n := by
  unfold wordsT wsR
  rw [if_pos ((h.tie.inL n).2 hn)]
  obtain ⟨k, rfl⟩ : ∃ k : Nat, n = k := ⟨n.toNat, by omega⟩
  rw [Int.toNat_natCast]
  have := h.words k (by rw [h.tie.len]; omega)
  unfold nd at this
  rw [this]
  unfold endsAt
  rw [h.wlen]
  congr 1
  apply List.filter_congr
  intro j hj
  rw [List.mem_range] at hj
  obtain ⟨q, a1, a2, a3⟩ := h.at_ j hj
  rw [a1, ← a3, findT_at h.tie.nodup (by rw [← h.tie.len]; exact a2)]
/-- a tree of paths L and words W -/
structure GoodR (L W : List (List Int)) : Prop where
  pos : 0 < L.length
  root : pa L 0 = []
  nodup : L.Nodup
  pre : ∀ i, i < L.length → ∀ t, ∃ j, j < L.length ∧ pa L j = (pa L i).take t
  at_ : ∀ k, k < W.length → ∃ j, j < L.length ∧ pa L j = pa W k
theorem St.goodR (h : St l ws L W) : GoodR L W :=
  ⟨by rw [← h.tie.len]; exact h.wf.pos, h.tie.root, h.tie.nodup, fun i hi t => h.tie.pre hi t, fun k hk => by
    obtain ⟨j, _, a2, a3⟩ := h.at_ k hk
    exact ⟨j, by rw [← h.tie.len]; exact a2, a3⟩⟩
theorem GoodR.findW (h : GoodR L W) {k : Nat} (hk : k < W.length) : ∃ j : Nat, findT L (pa W k) = j ∧ j < L.length ∧ pa L j = pa W k := by
  obtain ⟨j, h1, h2⟩ := h.at_ k hk
  exact ⟨j, by rw [← h2, findT_at h.nodup h1], h1, h2⟩
/-- a word's walk ends at its node -/
theorem GoodR.walkW (h : GoodR L W) {k : Nat} (hk : k < W.length) (hne : pa W k ≠ []) : wkR L (pa W k) (pa W k).length = (woR L W k, (pa W k).length) := by
  obtain ⟨j, h1, h2, h3⟩ := h.findW hk
  obtain ⟨m, hm⟩ : ∃ m, (pa W k).length = m + 1 := ⟨(pa W k).length - 1, by have : (pa W k).length ≠ 0 := fun e => hne (List.eq_nil_of_length_eq_zero e); omega⟩
  rw [hm]
  simp only [wkR]
  rw [List.take_of_length_le (by omega), h1, if_pos (by omega)]
  unfold woR
  rw [if_pos (by omega), Int.toNat_natCast, h1]
theorem wkR_depth (h : GoodR L W) (xs : List Int) : ∀ n, n ≤ xs.length → dpR L (wkR L xs n).1 = (wkR L xs n).2
  | 0, _ => by
    unfold dpR
    rw [show (wkR L xs 0).1 = 0 from rfl, if_pos (by have := h.pos; omega)]
    rw [show (0 : Int).toNat = 0 from rfl, h.root]; rfl
  | n + 1, hn => by
    simp only [wkR]
    split
    · rename_i hf
      rcases findT_get (L := L) (p := xs.take (n + 1)) (fun i hi => findT_at h.nodup hi) with e | ⟨k, e, k1, k2⟩
      · omega
      · rw [e]
        unfold dpR
        rw [if_pos (by omega), Int.toNat_natCast, k2, List.length_take]
        omega
    · exact wkR_depth h xs n (by omega)
end
end Go.Proofs.Ytpgphhkhjbhimaa
