/- The reference's functions: a tree's paths. -/
import Derived.Test.YtooaelpfbamebaaRef
namespace Go.Proofs.Ytooaelpfbamebaa
open Go.RowKit X
set_option maxHeartbeats 400000
set_option maxRecDepth 8000
set_option linter.unusedSimpArgs false
set_option linter.unusedVariables false
/-- the reference's tree: v, its paths, its words -/
def RT (w : World) (D : Fp) (v : Value) (L W : List (List Int)) : Prop := ∃ A c A' c', v = rtV A L.length c A' W.length c' ∧ L.length ≤ c ∧ W.length ≤ c' ∧ Sl kW w D A L ∧ Sl kW w D A' W
theorem RT.keep {w w' : World} {D : Fp} {v : Value} {L W : List (List Int)} (h : RT w D v L W) (hk : ∀ b, b < w.heap.size → D b → w'.heap[b]? = w.heap[b]?) : RT w' D v L W := by
  obtain ⟨A, c, A', c', e, h1, h2, h3, h4⟩ := h
  exact ⟨A, c, A', c', e, h1, h2, h3.keep hk, h4.keep hk⟩
theorem RT.weak {w : World} {D D' : Fp} {v : Value} {L W : List (List Int)} (h : RT w D v L W) (hk : ∀ b, b < w.heap.size → D b → D' b) : RT w D' v L W := by
  obtain ⟨A, c, A', c', e, h1, h2, h3, h4⟩ := h
  exact ⟨A, c, A', c', e, h1, h2, h3.weak hk, h4.weak hk⟩
def RTH (v : Value) (L W : List (List Int)) : Ob := .of {
  sat := fun w _ I => RT w I v L W
  keep := fun h hk => h.keep fun b hb hd => hk b hb (.inr hd)
  weak := fun h _ hi _ => h.weak hi }

theorem ty_rows : TyOk Try.prog 22 kW 24 := TyOk.mk' Try.underlying22 (z := .slice none 0 0) (size := 1) (by kernel_rfl) rfl rfl (by omega)
theorem blk_kept {w w' : World} {b : Nat} {cur : Array Value} {t0 : TypeId} {fr : Nat × Nat} {row : Option Nat} (h : w.heap[b]? = some (.cells cur t0 fr)) (hg : w.grownBy w' row) (t : TypeId) (hr : ∀ g, row = some g → ∃ cur, w.heap[g]? = some (.cells cur t (0, 0))) (h1 : t ≠ t0) : w'.heap[b]? = some (.cells cur t0 fr) := by
  refine (hg.block b (lt_of_heap h) (fun e => ?_)).trans h
  obtain ⟨cur', hh'⟩ := hr b e.symm
  rw [h] at hh'
  injection hh' with i1
  injection i1 with _ i2 _
  exact h1 i2.symm
theorem X.Sl.take {α : Type} {k : Kd α} {w : World} {D : Nat → Prop} {A : Option Addr} {xs : List α} (h : Sl k w D A xs) (n : Nat) : Sl k w D A (xs.take n) := by
  intro i hi
  rw [List.length_take] at hi
  obtain ⟨b, o, cs, e, hb, hd, hr, hl, hc⟩ := h i (by omega)
  exact ⟨b, o, cs, e, hb, hd, by rw [List.getElem_take]; exact hr, hl, hc⟩

theorem X.Own.sl' {α : Type} {k : Kd α} {w : World} {D : Nat → Prop} {B : Nat} {A : Option Addr} {n c : Nat} {xs : List α} (h : Own k w B D (.slice A n c) xs) : Sl k w Any A xs := by
  obtain ⟨A', c', e, _, hs⟩ := h.sl
  cases e
  exact hs.any
/-- paths of a word's beginnings, put one behind the other -/
def putL (L : List (List Int)) (xs : List Int) : Nat → List (List Int)
  | 0 => L
  | i + 1 => if findT (putL L xs i) (xs.take (i + 1)) < 0 then putL L xs i ++ [xs.take (i + 1)] else putL L xs i
theorem putL_len (L : List (List Int)) (xs : List Int) : ∀ k, L.length ≤ (putL L xs k).length ∧ (putL L xs k).length ≤ L.length + k
  | 0 => ⟨Nat.le_refl _, Nat.le_refl _⟩
  | k + 1 => by
    have := putL_len L xs k
    simp only [putL]
    split
    · rw [List.length_append]; simp; omega
    · omega
theorem putL_short {L : List (List Int)} {xs : List Int} (h : ShortW L) (hx : xs.length ≤ 1000000) : ∀ k, ShortW (putL L xs k)
  | 0 => h
  | k + 1 => by
    have := putL_short h hx k
    simp only [putL]
    split
    · intro x hx'
      rcases List.mem_append.1 hx' with h | h
      · exact this x h
      · rw [List.mem_singleton.1 h, List.length_take]; omega
    · exact this

end Go.Proofs.Ytooaelpfbamebaa
