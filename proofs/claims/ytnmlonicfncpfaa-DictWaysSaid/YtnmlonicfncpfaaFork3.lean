/- A drawn region at which two operations are ready at once, and two again behind the first of them. -/
import Derived.Test.YtnmlonicfncpfaaFork2
namespace Go.Proofs.Ytnmlonicfncpfaa.X
open Go.RowKit
set_option linter.unusedVariables false
section
variable {P : Program} {Q : Exit → Act → World → Prop}
abbrev noF : Nat → Bool := ([] : List Nat).contains
theorem fork_any {l : List Oper} {brk : Nat → Bool} (h1 : Region.noSelect l.toArray = true) {qs : List Nat} {s1 s2 : Nat} {listed : Array Bool} {n : Nat} {a : Act} {w : World}
    (hcl : Closed .any l.toArray listed) (h3 : quietsB .any l.toArray qs listed = true) (h4 : Region.ready .any l.toArray (listAll listed qs) = [s1, s2])
    (hw : ∀ q ∈ qs, ∀ L, Closed .any l.toArray L → L.getD q false = false → ∀ j ∈ Region.ready .any l.toArray L, j ≠ q → brk j = false)
    {K1 K2 : Act → World → Prop} (hK1 : ∀ a2 w2, K1 a2 w2 → wpAnyC P .any l.toArray (calmQ Q) noF (fun x => ClE w2 x) brk n ((listAll listed qs).setIfInBounds s1 true) a2 w2) (hK2 : ∀ a2 w2, K2 a2 w2 → wpAnyC P .any l.toArray (calmQ Q) noF (fun x => ClE w2 x) brk n ((listAll listed qs).setIfInBounds s2 true) a2 w2)
    (h : wpQuiet P l.toArray (fun x => ClE w x) (fun a' => wpList P l.toArray (Exit.then (fun a2 w2 => ClE w w2 ∧ K1 a2 w2) (calmQ Q)) (opsAt l [s1]) a' w ∧
      wpList P l.toArray (Exit.then (fun a2 w2 => ClE w w2 ∧ K2 a2 w2) (calmQ Q)) (opsAt l [s2]) a' w) (opsAt l qs) a) :
    wpAnyC P .any l.toArray (calmQ Q) noF (fun x => ClE w x) brk (qs.length + (n + 1)) listed a w := by
  refine mix_quiets (D := fun x => ClE w x) h1 (fun _ _ _ _ _ h => h) (Below.refl _ _) (fun a1 ha1 => ?_) qs listed a hcl h3 rfl (fun q hq => ⟨fun L hL hqL j hj hne w1 w2 g1 g2 g3 => g3 rfl (hw q hq L hL hqL j hj hne), fun _ hd _ => hd⟩) h
  have one : ∀ s ∈ [s1, s2], ∀ K : Act → World → Prop, (∀ a2 w2, K a2 w2 → wpAnyC P .any l.toArray (calmQ Q) noF (fun x => ClE w2 x) brk n ((listAll listed qs).setIfInBounds s true) a2 w2) → wpList P l.toArray (Exit.then (fun a2 w2 => ClE w w2 ∧ K a2 w2) (calmQ Q)) (opsAt l [s]) a1 w →
      wpOp P l.toArray (calmQ Q) s (fun a' w' => (noF s = true → w' = w) ∧ (noF s = false → brk s = false → ClE w w') ∧ wpAnyC P .any l.toArray (calmQ Q) noF (fun x => ClE w x) brk n ((listAll listed qs).setIfInBounds s true) a' w') a1 w := by
    intro s hs K hK hl
    rw [← h4] at hs
    obtain ⟨_, os, hos, _⟩ := mem_ready.1 hs
    have hos' : l[s]? = some os := by simpa using hos
    have hop : opsAt l [s] = [os] := by simp only [opsAt, List.getD_eq_getElem?_getD, hos']; rfl
    rw [hop] at hl
    exact wpOp_mono (fun a2 w2 ⟨hk, hm2⟩ => ⟨fun h0 => (by cases h0), fun _ _ => hk, wpAnyC_mono (fun x hx => Below.trans hk (hx.mono hk.size)) _ _ _ _ (hK _ _ hm2)⟩) (wpOp_of_list hos hl)
  refine ⟨fun h0 => (by rw [h4] at h0; cases h0), fun i hi => ?_⟩
  rw [h4] at hi
  rcases List.mem_cons.1 hi with rfl | hi
  · exact one _ (by simp) K1 hK1 ha1.1
  · rw [List.mem_singleton] at hi
    subst hi
    exact one _ (by simp) K2 hK2 ha1.2
theorem leaf_any {l : List Oper} {brk : Nat → Bool} (h1 : Region.noSelect l.toArray = true) (h2 : forward .any l 0 = true) {last : List Nat} {ps : List Piece} {listed : Array Bool} {a : Act} {w : World}
    (hcl : Closed .any l.toArray listed) (hB : piecesB .any l.toArray [] last [] ps listed = true) (hb : ∀ j, j < l.toArray.size → brkOf ps listed j = brk j) (h : wpMix P l (calmQ Q) ClE last ps a w) :
    wpAnyC P .any l.toArray (calmQ Q) noF (fun x => ClE w x) brk (fuelOf last ps) listed a w :=
  wpAnyC_brk hb _ _ _ _ (wpMix_any (Cl := ClE) (fun _ => Below.refl _ _) (fun _ _ _ h g => Below.trans h (g.mono h.size)) [] h1 h2 (Q := calmQ Q) (fun _ _ _ _ _ h => h) last ps [] _ a w hcl hB h)
def fork3B (l : List Oper) (qs : List Nat) (s1 s2 : Nat) (qs1 : List Nat) (s11 s12 : Nat) (ps11 : List Piece) (last11 : List Nat) (ps12 : List Piece) (last12 : List Nat) (ps2 : List Piece) (last2 : List Nat) (Lb : Array Bool) : Bool :=
  Region.noSelect l.toArray && forward .any l 0 && quietsB .any l.toArray qs (Array.replicate l.toArray.size false) &&
    decide (Region.ready .any l.toArray (listAll (Array.replicate l.toArray.size false) qs) = [s1, s2]) &&
    quietsB .any l.toArray qs1 ((listAll (Array.replicate l.toArray.size false) qs).setIfInBounds s1 true) &&
    decide (Region.ready .any l.toArray (listAll ((listAll (Array.replicate l.toArray.size false) qs).setIfInBounds s1 true) qs1) = [s11, s12]) &&
    piecesB .any l.toArray [] last11 [] ps11 ((listAll ((listAll (Array.replicate l.toArray.size false) qs).setIfInBounds s1 true) qs1).setIfInBounds s11 true) &&
    piecesB .any l.toArray [] last12 [] ps12 ((listAll ((listAll (Array.replicate l.toArray.size false) qs).setIfInBounds s1 true) qs1).setIfInBounds s12 true) &&
    piecesB .any l.toArray [] last2 [] ps2 ((listAll (Array.replicate l.toArray.size false) qs).setIfInBounds s2 true) &&
    decide (fuelOf last12 ps12 = fuelOf last11 ps11) && decide (fuelOf last2 ps2 = qs1.length + (fuelOf last11 ps11 + 1)) && decide (qs.length + (qs1.length + (fuelOf last11 ps11 + 1) + 1) = l.toArray.size) &&
    (List.range l.toArray.size).all (fun j => (brkOf ps11 ((listAll ((listAll (Array.replicate l.toArray.size false) qs).setIfInBounds s1 true) qs1).setIfInBounds s11 true) j == !Lb.getD j true) &&
      (brkOf ps12 ((listAll ((listAll (Array.replicate l.toArray.size false) qs).setIfInBounds s1 true) qs1).setIfInBounds s12 true) j == !Lb.getD j true) && (brkOf ps2 ((listAll (Array.replicate l.toArray.size false) qs).setIfInBounds s2 true) j == !Lb.getD j true)) &&
    ((qs ++ qs1).all (waitsB .any l.toArray Lb))
theorem wp_region_fork3 {id : Nat} {a : Act} {w : World} {l : List Oper} (qs : List Nat) (s1 s2 : Nat) (qs1 : List Nat) (s11 s12 : Nat) (ps11 : List Piece) (last11 : List Nat) (ps12 : List Piece) (last12 : List Nat) (ps2 : List Piece) (last2 : List Nat) (Lb : Array Bool)
    (hm : P.follows .mixedOrders = true) (hB : fork3B l qs s1 s2 qs1 s11 s12 ps11 last11 ps12 last12 ps2 last2 Lb = true)
    {ql ql1 o1 o2 o11 o12 : List Oper} (e0 : opsAt l qs = ql) (e1 : opsAt l qs1 = ql1) (e2 : opsAt l [s1] = o1) (e3 : opsAt l [s2] = o2) (e4 : opsAt l [s11] = o11) (e5 : opsAt l [s12] = o12)
    (h : wpQuiet P l.toArray (fun x => ClE w.drew x) (fun a' => wpList P l.toArray (Exit.then (fun a2 w2 => ClE w.drew w2 ∧ wpQuiet P l.toArray (fun x => ClE w2 x) (fun a3 =>
        wpList P l.toArray (Exit.then (fun a4 w4 => ClE w2 w4 ∧ wpMix P l (calmQ Q) ClE last11 ps11 a4 w4) (calmQ Q)) o11 a3 w2 ∧ wpList P l.toArray (Exit.then (fun a4 w4 => ClE w2 w4 ∧ wpMix P l (calmQ Q) ClE last12 ps12 a4 w4) (calmQ Q)) o12 a3 w2) ql1 a2) (calmQ Q)) o1 a' w.drew ∧
      wpList P l.toArray (Exit.then (fun a2 w2 => ClE w.drew w2 ∧ wpMix P l (calmQ Q) ClE last2 ps2 a2 w2) (calmQ Q)) o2 a' w.drew) ql a) :
    (Code.region id l.toArray true).wp P Q a w := by
  subst e0; subst e1; subst e2; subst e3; subst e4; subst e5
  simp only [fork3B, Bool.and_eq_true, decide_eq_true_eq] at hB
  obtain ⟨⟨⟨⟨⟨⟨⟨⟨⟨⟨⟨⟨⟨h1, h2⟩, h3⟩, h4⟩, h5⟩, h6⟩, h7⟩, h8⟩, h9⟩, h10⟩, h11⟩, h12⟩, h13⟩, h14⟩ := hB
  have hfw' : forward .any l.toArray.toList 0 = true := by simpa using h2
  have hb : ∀ j, j < l.toArray.size → _ := fun j hj => List.all_eq_true.1 h13 j (List.mem_range.2 hj)
  simp only [Bool.and_eq_true, beq_iff_eq] at hb
  have hw : ∀ q ∈ qs ++ qs1, ∀ L, Closed .any l.toArray L → L.getD q false = false → ∀ j ∈ Region.ready .any l.toArray L, j ≠ q → (!Lb.getD j true) = false := fun q hq L hL hqL j hj hne => by
    rw [waits_spec hfw' (List.all_eq_true.1 h14 q hq) L hL hqL j hj hne]
    rfl
  have hcalm : ∀ e a w, calmQ Q e a w → Q e a w := by
    intro e a w h
    cases e <;> first | exact h | exact h.elim
  have hcl0 : Closed .any l.toArray (Array.replicate l.toArray.size false) := Closed.start _
  have hcl1 := closed_all qs _ hcl0 h3
  have m1 : s1 ∈ Region.ready .any l.toArray (listAll (Array.replicate l.toArray.size false) qs) := by rw [h4]; simp
  have m2 : s2 ∈ Region.ready .any l.toArray (listAll (Array.replicate l.toArray.size false) qs) := by rw [h4]; simp
  have hcl2 := hcl1.set m1
  have hcl3 := closed_all qs1 _ hcl2 h5
  have m11 : s11 ∈ Region.ready .any l.toArray (listAll ((listAll (Array.replicate l.toArray.size false) qs).setIfInBounds s1 true) qs1) := by rw [h6]; simp
  have m12 : s12 ∈ Region.ready .any l.toArray (listAll ((listAll (Array.replicate l.toArray.size false) qs).setIfInBounds s1 true) qs1) := by rw [h6]; simp
  refine Code.wp_mono hcalm (wp_region_any hm ?_)
  have key : wpAnyC P .any l.toArray (calmQ Q) noF (fun x => ClE w.drew x) (fun j => !Lb.getD j true) (qs.length + (qs1.length + (fuelOf last11 ps11 + 1) + 1)) (Array.replicate l.toArray.size false) a w.drew := by
    refine fork_any h1 hcl0 h3 h4 (fun q hq => hw q (List.mem_append_left _ hq)) (fun a2 w2 g => ?_) (fun a2 w2 g => ?_) h
    · refine fork_any h1 hcl2 h5 h6 (fun q hq => hw q (List.mem_append_right _ hq)) (fun a4 w4 g4 => ?_) (fun a4 w4 g4 => ?_) g
      · exact leaf_any h1 h2 (hcl3.set m11) h7 (fun j hj => (hb j hj).1.1) g4
      · have := leaf_any h1 h2 (hcl3.set m12) h8 (fun j hj => (hb j hj).1.2) g4
        rwa [h10] at this
    · have := leaf_any h1 h2 (hcl1.set m2) h9 (fun j hj => (hb j hj).2) g
      rwa [h11] at this
  rw [h12] at key
  exact wpAny_of_C _ _ _ _ key
end
end Go.Proofs.Ytnmlonicfncpfaa.X
