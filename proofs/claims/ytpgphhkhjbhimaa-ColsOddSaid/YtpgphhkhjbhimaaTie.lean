/- Plain words: the program's tree and the reference's. -/
import Derived.Test.YtpgphhkhjbhimaaRef3
namespace Go.Proofs.Ytpgphhkhjbhimaa
open Go.RowKit X

abbrev nd (l : List Nd) (i : Nat) : Nd := l.getD i default
abbrev pa (L : List (List Int)) (i : Nat) : List Int := L.getD i []
theorem pa_eq {L : List (List Int)} {i : Nat} (h : i < L.length) : pa L i = L[i] := by simp [pa, List.getD_eq_getElem?_getD, h]
theorem pa_left {L M : List (List Int)} {i : Nat} (h : i < L.length) : pa (L ++ M) i = pa L i := by
  simp [pa, List.getD_eq_getElem?_getD, List.getElem?_append_left h]
theorem pa_last (L : List (List Int)) (x : List Int) : pa (L ++ [x]) L.length = x := by simp [pa, List.getD_eq_getElem?_getD]
theorem nd_addT_old {l : List Nd} {i : Nat} {p : Int} {j : Nat} (hj : j < l.length) (hij : i ≠ j) : nd (addT l i p) j = nd l j := by
  unfold nd
  rw [List.getD_eq_getElem?_getD, addT_at l i p hj, if_neg hij, getD_eq hj]; rfl
theorem nd_addT_same {l : List Nd} {i : Nat} {p : Int} (hi : i < l.length) : nd (addT l i p) i = { nd l i with kids := insE (nd l i).kids (posE (nd l i).kids p) (p, l.length) } := by
  unfold nd
  rw [List.getD_eq_getElem?_getD, addT_at l i p hi, if_pos rfl]; rfl
theorem nd_addT_new (l : List Nd) (i : Nat) (p : Int) : nd (addT l i p) l.length = ⟨i, p, (nd l i).depth + 1, [], []⟩ := by
  unfold nd
  rw [List.getD_eq_getElem?_getD, addT_last]; rfl
theorem findT_at {L : List (List Int)} (hN : L.Nodup) {i : Nat} (h : i < L.length) : findT L (pa L i) = i := by
  rw [pa_eq h]
  refine findT_some h rfl fun t ht hti e => ?_
  exact absurd ((List.getElem_inj hN).1 e) (by omega)

structure Tie (l : List Nd) (L : List (List Int)) : Prop where
  len : l.length = L.length
  root : pa L 0 = []
  path : ∀ i, i < l.length → 0 < i → ∃ u : Nat, (nd l i).up = u ∧ u < i ∧ pa L i = pa L u ++ [(nd l i).p]
  kid : ∀ i, i < l.length → ∀ e ∈ (nd l i).kids, ∃ k : Nat, e.2 = k ∧ 0 < k ∧ k < l.length ∧ (nd l k).up = i ∧ (nd l k).p = e.1
  all : ∀ k, k < l.length → 0 < k → ∀ u : Nat, (nd l k).up = u → ((nd l k).p, (k : Int)) ∈ (nd l u).kids
  nodup : L.Nodup
  depth : ∀ i, i < l.length → (nd l i).depth = (pa L i).length
theorem Tie.one : Tie [⟨-1, 0, 0, [], []⟩] [[]] := by
  have h0 : ∀ i, i < [(⟨-1, 0, 0, [], []⟩ : Nd)].length → i = 0 := fun i h => by simpa using h
  refine ⟨rfl, rfl, fun i h h1 => ?_, fun i h e he => ?_, fun i h h1 => ?_, by simp, fun i h => ?_⟩
  · have := h0 i h; omega
  · have := h0 i h; subst this; simp at he
  · have := h0 i h; omega
  · have := h0 i h; subst this; rfl

theorem Tie.child {l : List Nd} {L : List (List Int)} {n : Nat} (h : Tie l L) (hW : WfT l n) {i : Nat} (hi : i < l.length) (q : Int) : childT l i q = findT L (pa L i ++ [q]) := by
  have e1 : l.getD i default = l[i] := getD_eq hi
  have hN : nd l i = l[i] := e1
  unfold childT
  rw [if_pos (inB_nat hi), Int.toNat_natCast, e1]
  by_cases hh : hasE l[i].kids q = true
  · rw [if_pos hh]
    obtain ⟨hlt, hp⟩ := hasE_pos (hW.srt _ (List.getElem_mem hi)) hh
    rw [List.getD_eq_getElem?_getD, List.getElem?_eq_getElem hlt, Option.getD_some]
    obtain ⟨k, e2, k0, kl, ku, kp⟩ := h.kid i hi _ (by rw [hN]; exact List.getElem_mem hlt)
    obtain ⟨u, eu, _, ep⟩ := h.path k kl k0
    rw [eu] at ku
    have hui : u = i := by omega
    subst hui
    rw [kp, hp] at ep
    rw [e2, ← ep, findT_at h.nodup (by rw [← h.len]; exact kl)]
  · rw [if_neg hh]
    symm
    refine findT_none fun t ht e => hh ?_
    have ht' : t < l.length := by rw [h.len]; exact ht
    rw [← pa_eq ht] at e
    rcases Nat.eq_zero_or_pos t with h0 | h0
    · subst h0
      rw [h.root] at e
      exact absurd e.symm (by simp)
    · obtain ⟨u, eu, ul, ep⟩ := h.path t ht' h0
      rw [ep] at e
      obtain ⟨a1, a2⟩ := List.append_inj' e rfl
      have hui : u = i := by
        rw [pa_eq (by rw [← h.len]; omega), pa_eq (by rw [← h.len]; exact hi)] at a1
        exact (List.getElem_inj h.nodup).1 a1
      subst hui
      have := h.all t ht' h0 u eu
      rw [hN] at this
      have a3 : (nd l t).p = q := by simpa using a2
      rw [a3] at this
      unfold hasE
      rw [List.any_eq_true]
      exact ⟨_, this, by simp⟩
theorem childT_out {l : List Nd} {n q : Int} (h : ¬ (0 ≤ n ∧ n < l.length)) : childT l n q = -1 := by
  unfold childT
  rw [inB_not h]; rfl
theorem Tie.childR {l : List Nd} {L : List (List Int)} {n : Nat} (h : Tie l L) (hW : WfT l n) (i q : Int) : childT l i q = rchildT L i q := by
  unfold rchildT
  by_cases hi : 0 ≤ i ∧ i < L.length
  · rw [if_pos hi]
    obtain ⟨k, rfl⟩ : ∃ k : Nat, i = k := ⟨i.toNat, by omega⟩
    rw [Int.toNat_natCast]
    exact h.child hW (by rw [h.len]; omega) q
  · rw [if_neg hi]
    exact childT_out (by rw [h.len]; exact hi)

theorem Tie.add {l : List Nd} {L : List (List Int)} {n : Nat} (h : Tie l L) (hW : WfT l n) {i : Nat} (hi : i < l.length) {p : Int} (hf : findT L (pa L i ++ [p]) = -1) : Tie (addT l i p) (L ++ [pa L i ++ [p]]) := by
  have hlen : (addT l i p).length = l.length + 1 := addT_len l i p
  have hnot : pa L i ++ [p] ∉ L := fun hm => by
    obtain ⟨t, ht, e⟩ := List.mem_iff_getElem.1 hm
    have := findT_at h.nodup ht
    rw [pa_eq ht, e, hf] at this
    omega
  have hupn : ∀ j, j < l.length → (nd (addT l i p) j).up = (nd l j).up ∧ (nd (addT l i p) j).p = (nd l j).p ∧ (nd (addT l i p) j).depth = (nd l j).depth := fun j hj => by
    by_cases hij : i = j
    · subst hij; rw [nd_addT_same hi]; exact ⟨rfl, rfl, rfl⟩
    · rw [nd_addT_old hj hij]; exact ⟨rfl, rfl, rfl⟩
  have hkids : ∀ j, j < l.length → ∀ e, e ∈ (nd (addT l i p) j).kids ↔ e ∈ (nd l j).kids ∨ (i = j ∧ e = (p, (l.length : Int))) := fun j hj e => by
    by_cases hij : i = j
    · subst hij
      rw [nd_addT_same hi]
      show e ∈ insE _ _ _ ↔ _
      rw [mem_insE]
      constructor
      · rintro (h | h)
        · exact .inr ⟨rfl, h⟩
        · exact .inl h
      · rintro (h | ⟨_, h⟩)
        · exact .inr h
        · exact .inl h
    · rw [nd_addT_old hj hij]
      exact ⟨.inl, fun h => h.resolve_right fun h => hij h.1⟩
  refine ⟨by rw [hlen, List.length_append, h.len]; rfl, by rw [pa_left (by rw [← h.len]; omega)]; exact h.root, ?_, ?_, ?_, ?_, ?_⟩
  · intro j hj h0
    by_cases hjl : j < l.length
    · obtain ⟨u, e1, e2, e3⟩ := h.path j hjl h0
      refine ⟨u, (hupn j hjl).1.trans e1, e2, ?_⟩
      rw [pa_left (by rw [← h.len]; exact hjl), pa_left (by rw [← h.len]; omega), e3, (hupn j hjl).2.1]
    · have e : j = l.length := by omega
      subst e
      refine ⟨i, by rw [nd_addT_new], hi, ?_⟩
      have hlast : pa (L ++ [pa L i ++ [p]]) l.length = pa L i ++ [p] := by rw [h.len, pa_last]
      rw [nd_addT_new, hlast, pa_left (by rw [← h.len]; exact hi)]
  · intro j hj e he
    by_cases hjl : j < l.length
    · rcases (hkids j hjl e).1 he with he | ⟨rfl, rfl⟩
      · obtain ⟨k, e1, e2, e3, e4, e5⟩ := h.kid j hjl e he
        exact ⟨k, e1, e2, by omega, (hupn k e3).1.trans e4, (hupn k e3).2.1.trans e5⟩
      · exact ⟨l.length, rfl, hW.pos, by omega, by rw [nd_addT_new], by rw [nd_addT_new]⟩
    · have e' : j = l.length := by omega
      subst e'
      rw [nd_addT_new] at he
      cases he
  · intro k hk h0 u hu
    by_cases hkl : k < l.length
    · rw [(hupn k hkl).1] at hu
      rw [(hupn k hkl).2.1]
      obtain ⟨u', e1, e2, _⟩ := h.path k hkl h0
      have huu : u = u' := by omega
      subst huu
      exact (hkids u (by omega) _).2 (.inl (h.all k hkl h0 u hu))
    · have e' : k = l.length := by omega
      subst e'
      rw [nd_addT_new] at hu ⊢
      have hui : i = u := by
        have : (i : Int) = u := hu
        omega
      subst hui
      exact (hkids i hi _).2 (.inr ⟨rfl, rfl⟩)
  · rw [List.nodup_append]
    refine ⟨h.nodup, by simp, fun a ha b hb e => ?_⟩
    rw [List.mem_singleton] at hb
    subst hb
    exact hnot (e ▸ ha)
  · intro j hj
    by_cases hjl : j < l.length
    · rw [(hupn j hjl).2.2, h.depth j hjl, pa_left (by rw [← h.len]; exact hjl)]
    · have e : j = l.length := by omega
      subst e
      rw [nd_addT_new, h.len, pa_last]
      show (nd l i).depth + 1 = _
      rw [h.depth i hi, List.length_append]; simp

/-- paths put, from the front -/
def putF : List (List Int) → List Int → List Int → List (List Int)
  | L, _, [] => L
  | L, pre, p :: r => putF (if findT L (pre ++ [p]) < 0 then L ++ [pre ++ [p]] else L) (pre ++ [p]) r
theorem putL_eq_F (L : List (List Int)) : ∀ (r a : List Int), putL L (a ++ r) (a.length + r.length) = putF (putL L (a ++ r) a.length) a r
  | [], a => by simp [putF]
  | p :: r, a => by
    have ih := putL_eq_F L r (a ++ [p])
    have e : a ++ p :: r = (a ++ [p]) ++ r := by simp
    rw [List.length_cons, e, show a.length + (r.length + 1) = (a ++ [p]).length + r.length by simp; omega, ih]
    simp only [putF]
    congr 1
    rw [show (a ++ [p]).length = a.length + 1 by simp]
    have e2 : List.take (a.length + 1) (a ++ [p] ++ r) = a ++ [p] := by
      rw [show a.length + 1 = (a ++ [p]).length by simp, List.take_left]
    simp only [putL, e2]
theorem putL_all (L : List (List Int)) (xs : List Int) : putL L xs xs.length = putF L [] xs := by
  have := putL_eq_F L xs []
  simpa [putL] using this

theorem Tie.leaf {n : Nat} : ∀ (xs : List Int) {l : List Nd} {L : List (List Int)} {i : Nat}, Tie l L → WfT l n → i < l.length → (nd l i).kids = [] →
    Tie (putT l i xs).1 (putF L (pa L i) xs) ∧ pa (putF L (pa L i) xs) (putT l i xs).2 = pa L i ++ xs ∧ (putT l i xs).2 < (putT l i xs).1.length
  | [], l, L, i, h, _, hi, _ => ⟨h, by simp [putF, putT], hi⟩
  | p :: r, l, L, i, h, hW, hi, hk => by
    have hh : hasE l[i].kids p = false := by
      have : l[i].kids = [] := by rw [← getD_eq hi]; exact hk
      rw [this]; rfl
    have hc : childT l i p = -1 := by
      unfold childT; rw [if_pos (inB_nat hi), Int.toNat_natCast, getD_eq hi, hh]; rfl
    have hf : findT L (pa L i ++ [p]) = -1 := by rw [← h.child hW hi]; exact hc
    have hT := h.add hW hi hf
    have hlast : pa (L ++ [pa L i ++ [p]]) l.length = pa L i ++ [p] := by rw [h.len, pa_last]
    obtain ⟨g1, g2, g3⟩ := Tie.leaf r hT (hW.add hi hh) (i := l.length) (by rw [addT_len]; omega) (by rw [nd_addT_new])
    rw [hlast] at g1 g2
    simp only [putT, putF, hf]
    rw [if_pos (by decide)]
    exact ⟨g1, by rw [g2, List.append_assoc]; rfl, g3⟩
theorem Tie.put {n : Nat} {l : List Nd} {L : List (List Int)} (h : Tie l L) (hW : WfT l n) : ∀ (xs : List Int) {i : Nat}, i < l.length →
    ∃ j : Nat, (walkT l i xs).1 = j ∧ Tie (putT l j (xs.drop (walkT l i xs).2)).1 (putF L (pa L i) xs) ∧ pa (putF L (pa L i) xs) (putT l j (xs.drop (walkT l i xs).2)).2 = pa L i ++ xs ∧ (putT l j (xs.drop (walkT l i xs).2)).2 < (putT l j (xs.drop (walkT l i xs).2)).1.length
  | [], i, hi => ⟨i, rfl, h, by simp [putF, putT, walkT], hi⟩
  | p :: r, i, hi => by
    have hc := h.child hW hi p
    by_cases he : childT l i p = -1
    · have hf : findT L (pa L i ++ [p]) = -1 := by rw [← hc]; exact he
      have hh := childT_none hW hi he
      have hT := h.add hW hi hf
      have hlast : pa (L ++ [pa L i ++ [p]]) l.length = pa L i ++ [p] := by rw [h.len, pa_last]
      obtain ⟨g1, g2, g3⟩ := Tie.leaf r hT (hW.add hi hh) (i := l.length) (by rw [addT_len]; omega) (by rw [nd_addT_new])
      rw [hlast] at g1 g2
      refine ⟨i, by simp only [walkT, if_pos he], ?_⟩
      simp only [walkT, if_pos he, List.drop_zero, putT, putF, hf]
      rw [if_pos (by decide)]
      exact ⟨g1, by rw [g2, List.append_assoc]; rfl, g3⟩
    · obtain ⟨h1, h2⟩ := childT_of hW he
      obtain ⟨k, hk⟩ : ∃ k : Nat, childT l i p = k := ⟨(childT l i p).toNat, by omega⟩
      rw [hk] at hc
      have hkL : k < L.length := by rw [← h.len]; omega
      have hpk : pa L k = pa L i ++ [p] := by
        rw [pa_eq hkL]
        have : findT L (pa L i ++ [p]) = k := hc.symm
        unfold findT at this
        split at this
        · rename_i m hm
          rw [List.findIdx?_eq_some_iff_getElem] at hm
          obtain ⟨h3, h4, _⟩ := hm
          have : m = k := by omega
          subst this
          simpa using h4
        · omega
      obtain ⟨j, e1, g1, g2, g3⟩ := Tie.put h hW r (i := k) (by omega)
      refine ⟨j, by simp only [walkT, if_neg he]; rw [hk]; exact e1, ?_⟩
      simp only [walkT, if_neg he, List.drop_succ_cons, putF]
      rw [hk, if_neg (by rw [← hc]; omega), ← hpk]
      refine ⟨g1, ?_, g3⟩
      rw [g2, hpk, List.append_assoc]; rfl
theorem Tie.end {l : List Nd} {L : List (List Int)} (h : Tie l L) {j : Nat} (hj : j < l.length) (k : Int) : Tie (endT l j k) L := by
  have hl : (endT l j k).length = l.length := by simp [endT]
  have hn : ∀ i, (nd (endT l j k) i).up = (nd l i).up ∧ (nd (endT l j k) i).p = (nd l i).p ∧ (nd (endT l j k) i).depth = (nd l i).depth ∧ (nd (endT l j k) i).kids = (nd l i).kids := fun i => by
    unfold nd endT
    rw [List.getD_eq_getElem?_getD, List.getElem?_set]
    by_cases hij : j = i
    · subst hij
      rw [if_pos rfl, if_pos hj]
      exact ⟨rfl, rfl, rfl, rfl⟩
    · rw [if_neg hij, List.getD_eq_getElem?_getD]
      exact ⟨rfl, rfl, rfl, rfl⟩
  refine ⟨by rw [hl]; exact h.len, h.root, ?_, ?_, ?_, h.nodup, ?_⟩
  · intro i hi h0
    rw [hl] at hi
    rw [(hn i).1, (hn i).2.1]
    exact h.path i hi h0
  · intro i hi e he
    rw [hl] at hi ⊢
    rw [(hn i).2.2.2] at he
    obtain ⟨k', e1, e2, e3, e4, e5⟩ := h.kid i hi e he
    exact ⟨k', e1, e2, e3, by rw [(hn k').1]; exact e4, by rw [(hn k').2.1]; exact e5⟩
  · intro k' hk h0 u hu
    rw [hl] at hk
    rw [(hn k').1] at hu
    rw [(hn k').2.1, (hn u).2.2.2]
    exact h.all k' hk h0 u hu
  · intro i hi
    rw [hl] at hi
    rw [(hn i).2.2.1]
    exact h.depth i hi
end Go.Proofs.Ytpgphhkhjbhimaa
