/- A drawn region at which two operations are ready at once, behind reads that stand whichever of the two ran. -/
import Derived.Test.YtnmlonicfncpfaaMix2
namespace Go.Proofs.Ytnmlonicfncpfaa.X
open Go.RowKit
set_option linter.unusedVariables false
section
variable {P : Program} {Q : Exit → Act → World → Prop}
/-- the static part -/
def forkEB (l : List Oper) (qs fs : List Nat) (s1 s2 : Nat) (ps1 : List Piece) (last1 : List Nat) (ps2 : List Piece) (last2 : List Nat) : Bool :=
  Region.noSelect l.toArray && forward .any l 0 && quietsB .any l.toArray qs (Array.replicate l.toArray.size false) && quietsB .any l.toArray fs (listAll (Array.replicate l.toArray.size false) qs) &&
    decide (Region.ready .any l.toArray (listAll (listAll (Array.replicate l.toArray.size false) qs) fs) = [s1, s2]) &&
    piecesB .any l.toArray fs last1 qs ps1 ((listAll (listAll (Array.replicate l.toArray.size false) qs) fs).setIfInBounds s1 true) &&
    piecesB .any l.toArray fs last2 qs ps2 ((listAll (listAll (Array.replicate l.toArray.size false) qs) fs).setIfInBounds s2 true) &&
    decide (qs.length + (fs.length + (fuelOf last1 ps1 + 1)) = l.toArray.size) && decide (fuelOf last2 ps2 = fuelOf last1 ps1) &&
    (List.range l.toArray.size).all (fun j => brkOf ps1 ((listAll (listAll (Array.replicate l.toArray.size false) qs) fs).setIfInBounds s1 true) j == brkOf ps2 ((listAll (listAll (Array.replicate l.toArray.size false) qs) fs).setIfInBounds s2 true) j) &&
    (qs.all fun q => !fs.contains q) && !fs.contains s1 && !fs.contains s2
theorem wpAnyC_brk {md : Region.Mode} {ops : Array Oper} {F : Nat → Bool} {C : World → Prop} {brk brk' : Nat → Bool} (hb : ∀ j, j < ops.size → brk j = brk' j) : ∀ (fuel : Nat) (listed : Array Bool) (a : Act) (w : World), wpAnyC P md ops Q F C brk fuel listed a w → wpAnyC P md ops Q F C brk' fuel listed a w
  | 0, _, _, _, h => h
  | fuel + 1, listed, _, _, h => ⟨h.1, fun i hi => wpOp_mono (fun a' w' h' => ⟨h'.1, fun h0 h1 => h'.2.1 h0 (by
      have hlt : i < ops.size := by obtain ⟨_, o, ho, _⟩ := mem_ready.1 hi; exact (Array.getElem?_eq_some_iff.1 ho).1
      rw [hb i hlt]; exact h1), wpAnyC_brk hb fuel _ a' w' h'.2.2⟩) (h.2 i hi)⟩
theorem wp_region_forkE {id : Nat} {a : Act} {w : World} {l : List Oper} (qs fs : List Nat) (s1 s2 : Nat) (ps1 : List Piece) (last1 : List Nat) (ps2 : List Piece) (last2 : List Nat) (hm : P.follows .mixedOrders = true) (hB : forkEB l qs fs s1 s2 ps1 last1 ps2 last2 = true)
    {ql fl o1 o2 : List Oper} (e0 : opsAt l qs = ql) (e3 : opsAt l fs = fl) (e1 : opsAt l [s1] = o1) (e2 : opsAt l [s2] = o2)
    (h : wpQuiet P l.toArray (fun x => ClE w.drew x) (fun a1 => wpQuiet P l.toArray (fun _ => True) (fun a' => wpList P l.toArray (Exit.then (fun a2 w2 => ClE w.drew w2 ∧ wpMix P l (calmQ Q) ClE last1 ps1 a2 w2) (calmQ Q)) o1 a' w.drew ∧ wpList P l.toArray (Exit.then (fun a2 w2 => ClE w.drew w2 ∧ wpMix P l (calmQ Q) ClE last2 ps2 a2 w2) (calmQ Q)) o2 a' w.drew) fl a1) ql a) :
    (Code.region id l.toArray true).wp P Q a w := by
  subst e0; subst e1; subst e2; subst e3
  simp only [forkEB, Bool.and_eq_true, decide_eq_true_eq, Bool.not_eq_true'] at hB
  obtain ⟨⟨⟨⟨⟨⟨⟨⟨⟨⟨⟨⟨h1, h2⟩, h3⟩, h3f⟩, h4⟩, h5⟩, h6⟩, h7⟩, h8⟩, h9⟩, hqF⟩, hF1⟩, hF2⟩ := hB
  simp only [List.all_eq_true, Bool.not_eq_true'] at hqF
  obtain ⟨L1, hL1⟩ : ∃ L1, listAll (listAll (Array.replicate l.toArray.size false) qs) fs = L1 := ⟨_, rfl⟩
  rw [hL1] at h4 h5 h6 h9
  have hbr : ∀ j, j < l.toArray.size → brkOf ps1 (L1.setIfInBounds s1 true) j = brkOf ps2 (L1.setIfInBounds s2 true) j := fun j hj => by
    have := List.all_eq_true.1 h9 j (List.mem_range.2 hj)
    simpa using this
  have hcalm : ∀ e a w, calmQ Q e a w → Q e a w := by
    intro e a w h
    cases e <;> first | exact h | exact h.elim
  have hrf : ∀ w, ClE w w := fun _ => Below.refl _ _
  have htr : ∀ a b c, ClE a b → ClE b c → ClE a c := fun _ _ _ h g => Below.trans h (g.mono h.size)
  have hfw' : forward .any l.toArray.toList 0 = true := by simpa using h2
  have hcl0 := closed_all qs _ (Closed.start (md := .any) (ops := l.toArray) l.toArray.size) h3
  have hcl := closed_all fs _ hcl0 h3f
  rw [hL1] at hcl
  have hs1 : s1 ∈ Region.ready .any l.toArray L1 := by rw [h4]; simp
  have hs2 : s2 ∈ Region.ready .any l.toArray L1 := by rw [h4]; simp
  have one : ∀ (s : Nat), s ∈ Region.ready .any l.toArray L1 → ∀ (ps : List Piece) (last : List Nat), piecesB .any l.toArray fs last qs ps (L1.setIfInBounds s true) = true → ∀ a',
      wpList P l.toArray (Exit.then (fun a2 w2 => ClE w.drew w2 ∧ wpMix P l (calmQ Q) ClE last ps a2 w2) (calmQ Q)) (opsAt l [s]) a' w.drew →
      wpOp P l.toArray (calmQ Q) s (fun a2 w2 => ClE w.drew w2 ∧ wpAnyC P .any l.toArray (calmQ Q) fs.contains (fun x => ClE w.drew x) (brkOf ps (L1.setIfInBounds s true)) (fuelOf last ps) (L1.setIfInBounds s true) a2 w2) a' w.drew := by
    intro s hs ps last hp a' hl
    obtain ⟨_, os, hos, _⟩ := mem_ready.1 hs
    have hos' : l[s]? = some os := by simpa using hos
    have hop : opsAt l [s] = [os] := by simp only [opsAt, List.getD_eq_getElem?_getD, hos']; rfl
    rw [hop] at hl
    refine wpOp_mono (fun a2 w2 ⟨hk, hm2⟩ => ⟨hk, ?_⟩) (wpOp_of_list hos hl)
    exact wpAnyC_mono (fun x hx => htr _ _ _ hk hx) _ _ _ _ (wpMix_any (Cl := ClE) hrf htr fs h1 h2 (Q := calmQ Q) (fun _ _ _ _ _ h => h) last ps qs _ a2 w2 (hcl.set hs) hp hm2)
  refine Code.wp_mono hcalm (wp_region_any hm ?_)
  have key : wpAnyC P .any l.toArray (calmQ Q) fs.contains (fun x => ClE w.drew x) (brkOf ps1 (L1.setIfInBounds s1 true)) (qs.length + (fs.length + (fuelOf last1 ps1 + 1))) (Array.replicate l.toArray.size false) a w.drew := by
    refine mix_quiets (D := fun x => ClE w.drew x) h1 (fun _ _ _ _ _ h => h) (hrf _) (fun a1 ha1 => ?_) qs _ a (Closed.start _) h3 rfl (fun q hq => ⟨fun L hL hqL j hj hne w1 w2 g1 g2 g3 => ?_, fun _ hd _ => hd⟩) h
    · refine mix_quiets (D := fun _ => True) h1 (fun _ _ _ _ _ h => h) trivial (fun a' h' => ?_) fs _ a1 hcl0 h3f hL1 (fun q hq' => ⟨fun _ _ _ _ _ _ _ _ _ _ _ => trivial, fun _ _ h0 => ?_⟩) ha1
      · refine ⟨fun h0 => (by rw [h4] at h0; cases h0), fun i hi => ?_⟩
        rw [h4] at hi
        rcases List.mem_cons.1 hi with rfl | hi
        · exact wpOp_mono (fun a2 w2 ⟨hk, hm2⟩ => ⟨fun h0 => (by rw [hF1] at h0; cases h0), fun _ _ => hk, hm2⟩) (one i hs1 ps1 last1 h5 a' h'.1)
        · rw [List.mem_singleton] at hi
          subst hi
          have := one i hs2 ps2 last2 h6 a' h'.2
          rw [h8] at this
          exact wpOp_mono (fun a2 w2 ⟨hk, hm2⟩ => ⟨fun h0 => (by rw [hF2] at h0; cases h0), fun _ _ => hk, wpAnyC_brk (fun j hj => (hbr j hj).symm) _ _ _ _ hm2⟩) this
      · have : fs.contains q = true := by simpa using hq'
        rw [this] at h0
        cases h0
    · cases hFj : fs.contains j with
      | true => rw [g2 hFj]; exact g1
      | false => exact g3 hFj (alive_ok fs hfw' last1 ps1 qs _ (hcl.set hs1) h5 q hq L hL hqL j hj hne)
  rw [h7] at key
  exact wpAny_of_C _ _ _ _ key
end
end Go.Proofs.Ytnmlonicfncpfaa.X
