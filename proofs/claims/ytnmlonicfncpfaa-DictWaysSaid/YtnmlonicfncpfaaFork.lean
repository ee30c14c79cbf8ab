/- A drawn region that goes step by step, and then has two operations ready at once. -/
import Derived.Test.YtnmlonicfncpfaaMix2
namespace Go.Proofs.Ytnmlonicfncpfaa.X
open Go.RowKit
set_option linter.unusedVariables false
section
variable {P : Program} {ops : Array Oper} {Q : Exit → Act → World → Prop}
/-- steps ahead of the fork: quiet ones (anywhere), then one -/
def wpSteps (P : Program) (l : List Oper) (Q : Exit → Act → World → Prop) (K : Act → World → Prop) : List (List Nat × Nat) → Act → World → Prop
  | [], a, w => K a w
  | p :: r, a, w => wpQuiet P l.toArray (fun _ => True) (fun a' => wpList P l.toArray (Exit.then (fun a2 w2 => wpSteps P l Q K r a2 w2) Q) (opsAt l [p.2]) a' w) (opsAt l p.1) a
def stepsB (ops : Array Oper) : List (List Nat × Nat) → Array Bool → Bool
  | [], _ => true
  | p :: r, listed => quietsB .any ops p.1 listed && decide (Region.ready .any ops (listAll listed p.1) = [p.2]) && stepsB ops r ((listAll listed p.1).setIfInBounds p.2 true)
def stepsEnd : List (List Nat × Nat) → Array Bool → Array Bool
  | [], listed => listed
  | p :: r, listed => stepsEnd r ((listAll listed p.1).setIfInBounds p.2 true)
def stepsFuel : List (List Nat × Nat) → Nat → Nat
  | [], g => g
  | p :: r, g => p.1.length + (stepsFuel r g + 1)
theorem wpSteps_any {l : List Oper} {K : Act → World → Prop} (hs : Region.noSelect l.toArray = true) (hQ : ∀ o v c a w, Q (.panic c) (Act.put a o v) w → Q (.panic c) a w) (g : Nat) : ∀ (ps : List (List Nat × Nat)) (listed : Array Bool) (a : Act) (w : World),
    Closed .any l.toArray listed → stepsB l.toArray ps listed = true → (∀ a w, Closed .any l.toArray (stepsEnd ps listed) → K a w → wpAny P .any l.toArray Q g (stepsEnd ps listed) a w) → wpSteps P l Q K ps a w → wpAny P .any l.toArray Q (stepsFuel ps g) listed a w
  | [], listed, a, w, hcl, _, hK, h => hK a w hcl h
  | p :: r, listed, a, w, hcl, hB, hK, h => by
    simp only [stepsB, Bool.and_eq_true, decide_eq_true_eq] at hB
    obtain ⟨⟨hq, hr⟩, hB'⟩ := hB
    have hcl1 := closed_all p.1 _ hcl hq
    have hsr : p.2 ∈ Region.ready .any l.toArray (listAll listed p.1) := by rw [hr]; exact List.mem_singleton.2 rfl
    refine wpAny_of_C (F := fun _ => false) (C := fun _ => True) (brk := fun _ => true) _ _ _ _ (mix_quiets (D := fun _ => True) hs hQ trivial (fun a' h' => ?_) p.1 listed a hcl hq rfl (fun q hq => ⟨fun _ _ _ _ _ _ _ _ _ _ _ => trivial, fun _ _ _ => trivial⟩) h)
    refine wpAnyC_triv _ _ _ _ ⟨fun h0 => (by rw [hr] at h0; cases h0), fun i hi => ?_⟩
    rw [hr, List.mem_singleton] at hi
    subst hi
    obtain ⟨_, os, hos, _⟩ := mem_ready.1 hsr
    have hos' : l[p.2]? = some os := by simpa using hos
    have hop : opsAt l [p.2] = [os] := by simp only [opsAt, List.getD_eq_getElem?_getD, hos']; rfl
    rw [hop] at h'
    exact wpOp_mono (fun a2 w2 hm2 => wpSteps_any hs hQ g r _ a2 w2 (hcl1.set hsr) hB' hK hm2) (wpOp_of_list hos h')
def forkPre (l : List Oper) (pre : List (List Nat × Nat)) (qs : List Nat) (s1 s2 : Nat) (ps1 : List Piece) (last1 : List Nat) (ps2 : List Piece) (last2 : List Nat) : Bool :=
  Region.noSelect l.toArray && forward .any l 0 && stepsB l.toArray pre (Array.replicate l.toArray.size false) &&
    (fun listed => quietsB .any l.toArray qs listed && decide (Region.ready .any l.toArray (listAll listed qs) = [s1, s2]) &&
      piecesB .any l.toArray (ps1.flatMap (·.fs)) last1 [] ps1 ((listAll listed qs).setIfInBounds s1 true) &&
      piecesB .any l.toArray (ps2.flatMap (·.fs)) last2 [] ps2 ((listAll listed qs).setIfInBounds s2 true)) (stepsEnd pre (Array.replicate l.toArray.size false)) &&
    decide (stepsFuel pre (qs.length + (fuelOf last1 ps1 + 1)) = l.toArray.size) && decide (fuelOf last2 ps2 = fuelOf last1 ps1)
theorem wp_region_forkAt {id : Nat} {a : Act} {w : World} {l : List Oper} (pre : List (List Nat × Nat)) (qs : List Nat) (s1 s2 : Nat) (ps1 : List Piece) (last1 : List Nat) (ps2 : List Piece) (last2 : List Nat) (hm : P.follows .mixedOrders = true) (hB : forkPre l pre qs s1 s2 ps1 last1 ps2 last2 = true)
    (h : wpSteps P l (calmQ Q) (fun a w => wpQuiet P l.toArray (fun _ => True) (fun a' => wpList P l.toArray (Exit.then (fun a2 w2 => wpMix P l (calmQ Q) ClE last1 ps1 a2 w2) (calmQ Q)) (opsAt l [s1]) a' w ∧ wpList P l.toArray (Exit.then (fun a2 w2 => wpMix P l (calmQ Q) ClE last2 ps2 a2 w2) (calmQ Q)) (opsAt l [s2]) a' w) (opsAt l qs) a) pre a w.drew) :
    (Code.region id l.toArray true).wp P Q a w := by
  simp only [forkPre, Bool.and_eq_true, decide_eq_true_eq] at hB
  obtain ⟨⟨⟨⟨⟨h1, h2⟩, h3⟩, ⟨⟨h4, h5⟩, h6⟩, h7⟩, h8⟩, h9⟩ := hB
  have hcalm : ∀ e a w, calmQ Q e a w → Q e a w := by
    intro e a w h
    cases e <;> first | exact h | exact h.elim
  refine Code.wp_mono hcalm (wp_region_any hm ?_)
  have key := wpSteps_any (Q := calmQ Q) h1 (fun _ _ _ _ _ h => h) (qs.length + (fuelOf last1 ps1 + 1)) pre _ a w.drew (Closed.start _) h3 (fun a w hcl hk => by
    have hcl1 := closed_all qs _ hcl h4
    have hs1 : s1 ∈ Region.ready .any l.toArray (listAll (stepsEnd pre (Array.replicate l.toArray.size false)) qs) := by rw [h5]; simp
    have hs2 : s2 ∈ Region.ready .any l.toArray (listAll (stepsEnd pre (Array.replicate l.toArray.size false)) qs) := by rw [h5]; simp
    have one : ∀ (s : Nat), s ∈ Region.ready .any l.toArray (listAll (stepsEnd pre (Array.replicate l.toArray.size false)) qs) → ∀ (ps : List Piece) (last : List Nat), piecesB .any l.toArray (ps.flatMap (·.fs)) last [] ps ((listAll (stepsEnd pre (Array.replicate l.toArray.size false)) qs).setIfInBounds s true) = true → ∀ a',
        wpList P l.toArray (Exit.then (fun a2 w2 => wpMix P l (calmQ Q) ClE last ps a2 w2) (calmQ Q)) (opsAt l [s]) a' w →
        wpOp P l.toArray (calmQ Q) s (wpAny P .any l.toArray (calmQ Q) (fuelOf last ps) ((listAll (stepsEnd pre (Array.replicate l.toArray.size false)) qs).setIfInBounds s true)) a' w := by
      intro s hs ps last hp a' hl
      obtain ⟨_, os, hos, _⟩ := mem_ready.1 hs
      have hos' : l[s]? = some os := by simpa using hos
      have hop : opsAt l [s] = [os] := by simp only [opsAt, List.getD_eq_getElem?_getD, hos']; rfl
      rw [hop] at hl
      refine wpOp_mono (fun a2 w2 hm2 => ?_) (wpOp_of_list hos hl)
      exact wpAny_of_C _ _ _ _ (wpMix_any (Cl := ClE) (fun _ => Below.refl _ _) (fun _ _ _ h g => Below.trans h (g.mono h.size)) (ps.flatMap (·.fs)) h1 h2 (Q := calmQ Q) (fun _ _ _ _ _ h => h) last ps [] _ a2 w2 (hcl1.set hs) hp hm2)
    refine wpAny_of_C (F := fun _ => false) (C := fun _ => True) (brk := fun _ => true) _ _ _ _ (mix_quiets (D := fun _ => True) h1 (fun _ _ _ _ _ h => h) trivial (fun a' h' => ?_) qs _ a hcl h4 rfl (fun q hq => ⟨fun _ _ _ _ _ _ _ _ _ _ _ => trivial, fun _ _ _ => trivial⟩) hk)
    refine wpAnyC_triv _ _ _ _ ⟨fun h0 => (by rw [h5] at h0; cases h0), fun i hi => ?_⟩
    rw [h5] at hi
    rcases List.mem_cons.1 hi with rfl | hi
    · exact one i hs1 ps1 last1 h6 a' h'.1
    · rw [List.mem_singleton] at hi
      subst hi
      have := one i hs2 ps2 last2 h7 a' h'.2
      rw [h9] at this
      exact this) h
  rw [h8] at key
  exact key
theorem steps_cons {l : List Oper} {K : Act → World → Prop} {p : List Nat × Nat} {r : List (List Nat × Nat)} {ql ol : List Oper} {a : Act} {w : World} (h1 : opsAt l p.1 = ql) (h2 : opsAt l [p.2] = ol)
    (h : wpQuiet P l.toArray (fun _ => True) (fun a' => wpList P l.toArray (Exit.then (fun a2 w2 => wpSteps P l Q K r a2 w2) Q) ol a' w) ql a) : wpSteps P l Q K (p :: r) a w := by
  subst h1; subst h2; exact h
theorem steps_fork {l : List Oper} {A B : Act → Act → World → Prop} {qs : List Nat} {s1 s2 : Nat} {ql o1 o2 : List Oper} {Q1 Q2 : Exit → Act → World → Prop} {a : Act} {w : World} (h1 : opsAt l qs = ql) (h2 : opsAt l [s1] = o1) (h3 : opsAt l [s2] = o2)
    (h : wpQuiet P l.toArray (fun _ => True) (fun a' => wpList P l.toArray Q1 o1 a' w ∧ wpList P l.toArray Q2 o2 a' w) ql a) : wpSteps P l Q (fun a w => wpQuiet P l.toArray (fun _ => True) (fun a' => wpList P l.toArray Q1 (opsAt l [s1]) a' w ∧ wpList P l.toArray Q2 (opsAt l [s2]) a' w) (opsAt l qs) a) [] a w := by
  subst h1; subst h2; subst h3; exact h
theorem sx_seal {w0 w : World} {F0 I0 I : Fp} {L : List Ob} {l : List Oper} {K : Act → World → Prop} {ps : List (List Nat × Nat)} {a : Act} {W : World} {L' : List Ob} (s : SH F0 I0 w0 L w I) [h : Built1 w L W L'] (k : ∀ w', SH F0 I0 w0 L' w' I → wpSteps P l Q K ps a w') : wpSteps P l Q K ps a W := k _ (h.out s)
end
end Go.Proofs.Ytnmlonicfncpfaa.X
