/- Templates of one pixel everywhere, added: no program in sight. -/
import Derived.Test.YtnmlonicfncpfaaDPl
namespace Go.Proofs.Ytnmlonicfncpfaa
open Go.RowKit X
set_option maxRecDepth 8000
theorem one_may {g : Int} (h : 0 ≤ g ∧ g < 8) : mayTs [g] = true ∧ sortI [g] = [g] := by
  have hp : [g].Pairwise (· < ·) := List.pairwise_singleton _ _
  exact ⟨mayTs_rising hp (by simp) (fun t ht => by rw [List.mem_singleton] at ht; subst ht; exact h), rising_sort hp⟩
theorem orb_one (x : Mx) (g : Int) : orbP x [g] = if layOk x g.toNat then ([layP x g.toNat], [0]) else ([], [-1]) := by
  unfold orbP
  rw [List.foldl_cons, List.foldl_nil]
  unfold orbS
  split
  · rw [if_neg (by simp)]; rfl
  · rfl
theorem addV_out {c m : Int} {V : List Pic} {at1 : List Int} {ar : Int} {x : Mx} (h : (⟨c, m, x⟩ : Pic) ∉ V) : addV c m (V, at1, ar) x = (V ++ [⟨c, m, x⟩], at1 ++ [(V.length : Int)], ar + x.l.length) := by
  unfold addV
  rw [if_neg h]
theorem addV_in {c m : Int} {V : List Pic} {at1 : List Int} {ar : Int} {x : Mx} (h : (⟨c, m, x⟩ : Pic) ∈ V) : addV c m (V, at1, ar) x = (V, at1 ++ [idxI V ⟨c, m, x⟩], ar) := by
  unfold addV
  rw [if_pos h]
theorem add_one_no {D : DS} {p : Pic} {g : Int} (hp : mayG p = true) (hg : 0 ≤ g ∧ g < 8) (ho : layOk p.x g.toNat = false) : addD D p [g] = (D, -1, 4) := by
  unfold addD
  rw [if_pos ⟨hp, (one_may hg).1⟩, (one_may hg).2, orb_one, ho]
  rw [if_pos (by simp)]
theorem add_one_new {D : DS} {p : Pic} {g : Int} (hp : mayG p = true) (hg : 0 ≤ g ∧ g < 8) (ho : layOk p.x g.toNat = true) (hv : (⟨p.c, p.m, layP p.x g.toNat⟩ : Pic) ∉ D.V) : addD D p [g] = if D.L.length = 64 ∨ 65536 < D.ar + (p.x.l.length : Int) then (D, (-1 : Int), (8 : Int)) else (⟨D.L ++ [⟨p, [g], [(D.V.length : Int)]⟩], D.V ++ [⟨p.c, p.m, layP p.x g.toNat⟩], D.ar + p.x.l.length⟩, (D.L.length : Int), (0 : Int)) := by
  unfold addD
  rw [if_pos ⟨hp, (one_may hg).1⟩, (one_may hg).2, orb_one, ho]
  simp only [if_true]
  rw [if_neg (by simp), List.foldl_cons, List.foldl_nil, addV_out hv, layP_len]
  rfl
theorem add_one_old {D : DS} {p : Pic} {g : Int} (hp : mayG p = true) (hg : 0 ≤ g ∧ g < 8) (ho : layOk p.x g.toNat = true) (hv : (⟨p.c, p.m, layP p.x g.toNat⟩ : Pic) ∈ D.V) : addD D p [g] = if D.L.length = 64 ∨ 65536 < D.ar then (D, (-1 : Int), (8 : Int)) else (⟨D.L ++ [⟨p, [g], [idxI D.V ⟨p.c, p.m, layP p.x g.toNat⟩]⟩], D.V, D.ar⟩, (D.L.length : Int), (0 : Int)) := by
  unfold addD
  rw [if_pos ⟨hp, (one_may hg).1⟩, (one_may hg).2, orb_one, ho]
  simp only [if_true]
  rw [if_neg (by simp), List.foldl_cons, List.foldl_nil, addV_in hv]
  rfl
def px0 : Int := 281474976710656
/-- an image of one pixel everywhere -/
def flatG (a b n : Nat) : Pic := ⟨1, 9, ⟨a, b, List.replicate n px0⟩⟩
theorem flatG_may {a b n : Nat} (h : 1 ≤ a ∧ a ≤ 4096 ∧ 1 ≤ b ∧ b ≤ 65536 ∧ n = a * b ∧ n ≤ 16777216) : mayG (flatG a b n) = true := by
  obtain ⟨h1, h2, h3, h4, h5, h6⟩ := h
  unfold mayG
  rw [Bool.and_eq_true, mayX_iff]
  have e : ((a : Int) * (b : Int)) = ((n : Nat) : Int) := by rw [h5]; simp
  refine ⟨⟨⟨by show (1 : Int) ≤ (a : Int); omega, by show (a : Int) ≤ 4096; omega, by show (1 : Int) ≤ (b : Int); omega, by show (b : Int) ≤ 65536; omega, by show (a : Int) * (b : Int) ≤ 16777216; rw [e]; omega⟩, ?_⟩, ?_⟩
  · show ((List.replicate n px0).length : Int) = (a : Int) * (b : Int)
    rw [List.length_replicate, e]
  · unfold allFit
    rw [List.all_eq_true]
    intro x hx
    have hx : x ∈ List.replicate n px0 := hx
    rw [List.eq_of_mem_replicate hx]
    show fitsP px0 1 9 = true
    decide +kernel
theorem flatG_u {a b n : Nat} : ∀ q ∈ (flatG a b n).x.l, U64 q := fun q hq => by
  have hq : q ∈ List.replicate n px0 := hq
  rw [List.eq_of_mem_replicate hq]
  exact ⟨by decide, by decide⟩
theorem lay_flat {a b n g : Nat} (hn : (n : Int) = a * b) (hg : g < 8) (ha : 1 ≤ a) (hb : 1 ≤ b) : layP (flatG a b n).x g = ⟨(sizeP a b g).1, (sizeP a b g).2, List.replicate n px0⟩ := by
  unfold layP
  congr 1
  apply List.ext_getElem
  · simp [flatG]
  · intro i h1 h2
    have hin : i < n := by simpa using h2
    rw [List.getElem_map, List.getElem_range, List.getElem_replicate]
    unfold layAt
    have hsz : (n : Int) = (sizeP (a : Int) b g).1 * (sizeP (a : Int) b g).2 := by
      rw [hn]
      unfold sizeP
      split
      · rfl
      · exact Int.mul_comm _ _
    have hs1 : 1 ≤ (sizeP (a : Int) b g).1 := by unfold sizeP; split <;> (show (1 : Int) ≤ _; simp only; omega)
    obtain ⟨hx, hy⟩ := split_in hsz hs1 hin
    obtain ⟨p1, p2⟩ := from_in hg hx hy
    obtain ⟨i1, i2⟩ := idx_in hn p1 p2
    show (List.replicate n px0).getD _ 0 = px0
    rw [List.getD_eq_getElem?_getD, List.getElem?_replicate, if_pos]
    · rfl
    · have : ((flatG a b n).x.w = a) ∧ (flatG a b n).x.h = b := ⟨rfl, rfl⟩
      rw [this.1, this.2]
      omega
end Go.Proofs.Ytnmlonicfncpfaa
