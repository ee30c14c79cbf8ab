/- A drawn region that goes step by step, and then has two operations ready at once. A drawn region at which two operations are ready at once, behind reads that stand whichever of the two ran. A drawn region at which two operations are ready at once, and two again behind the first of them. A drawn region at which two operations are ready at once; reads behind them that stand whatever runs. -/
import Derived.Test.YtnmlonicfncpfaaGreatMix2
namespace Go.Proofs.YtnmlonicfncpfaaGreat.X
open Go.RowKit
set_option linter.unusedVariables false
section
variable {P : Program} {ops : Array Oper} {Q : Exit → Act → World → Prop}
/-- steps ahead of the fork: quiet ones (anywhere), then one -/
def wpSteps (P : Program) (l : List Oper) (Q : Exit → Act → World → Prop) (K : Act → World → Prop) : List (List Nat × Nat) → Act → World → Prop
  | [], a, w => K a w
  | p :: r, a, w => wpQuiet P l.toArray (fun _ => True) (fun a' => wpList P l.toArray (Exit.then (fun a2 w2 => wpSteps P l Q K r a2 w2) Q) (opsAt l [p.2]) a' w) (opsAt l p.1) a
def stepsB (ops : Array Oper) : List (List Nat × Nat) → Array Bool → Bool
  | [], _ => true
  | p :: r, listed => quietsB .any ops p.1 listed && decide (Region.ready .any ops (listAll listed p.1) = [p.2]) && stepsB ops r ((listAll listed p.1).setIfInBounds p.2 true)
def stepsEnd : List (List Nat × Nat) → Array Bool → Array Bool
  | [], listed => listed
  | p :: r, listed => stepsEnd r ((listAll listed p.1).setIfInBounds p.2 true)
def stepsFuel : List (List Nat × Nat) → Nat → Nat
  | [], g => g
  | p :: r, g => p.1.length + (stepsFuel r g + 1)
theorem wpSteps_any {l : List Oper} {K : Act → World → Prop} (hs : Region.noSelect l.toArray = true) (hQ : ∀ o v c a w, Q (.panic c) (Act.put a o v) w → Q (.panic c) a w) (g : Nat) : ∀ (ps : List (List Nat × Nat)) (listed : Array Bool) (a : Act) (w : World),
    Closed .any l.toArray listed → stepsB l.toArray ps listed = true → (∀ a w, Closed .any l.toArray (stepsEnd ps listed) → K a w → wpAny P .any l.toArray Q g (stepsEnd ps listed) a w) → wpSteps P l Q K ps a w → wpAny P .any l.toArray Q (stepsFuel ps g) listed a w
  | [], listed, a, w, hcl, _, hK, h => hK a w hcl h
  | p :: r, listed, a, w, hcl, hB, hK, h => by
    simp only [stepsB, Bool.and_eq_true, decide_eq_true_eq] at hB
    obtain ⟨⟨hq, hr⟩, hB'⟩ := hB
    have hcl1 := closed_all p.1 _ hcl hq
    have hsr : p.2 ∈ Region.ready .any l.toArray (listAll listed p.1) := by rw [hr]; exact List.mem_singleton.2 rfl
    refine wpAny_of_C (F := fun _ => false) (C := fun _ => True) (brk := fun _ => true) _ _ _ _ (mix_quiets (D := fun _ => True) hs hQ trivial (fun a' h' => ?_) p.1 listed a hcl hq rfl (fun q hq => ⟨fun _ _ _ _ _ _ _ _ _ _ _ => trivial, fun _ _ _ => trivial⟩) h)
    refine wpAnyC_triv _ _ _ _ ⟨fun h0 => (by rw [hr] at h0; cases h0), fun i hi => ?_⟩
    rw [hr, List.mem_singleton] at hi
    subst hi
    obtain ⟨_, os, hos, _⟩ := mem_ready.1 hsr
    have hos' : l[p.2]? = some os := by simpa using hos
    have hop : opsAt l [p.2] = [os] := by simp only [opsAt, List.getD_eq_getElem?_getD, hos']; rfl
    rw [hop] at h'
    exact wpOp_mono (fun a2 w2 hm2 => wpSteps_any hs hQ g r _ a2 w2 (hcl1.set hsr) hB' hK hm2) (wpOp_of_list hos h')
def forkPre (l : List Oper) (pre : List (List Nat × Nat)) (qs : List Nat) (s1 s2 : Nat) (ps1 : List Piece) (last1 : List Nat) (ps2 : List Piece) (last2 : List Nat) : Bool :=
  Region.noSelect l.toArray && forward .any l 0 && stepsB l.toArray pre (Array.replicate l.toArray.size false) &&
    (fun listed => quietsB .any l.toArray qs listed && decide (Region.ready .any l.toArray (listAll listed qs) = [s1, s2]) &&
      piecesB .any l.toArray (ps1.flatMap (·.fs)) last1 [] ps1 ((listAll listed qs).setIfInBounds s1 true) &&
      piecesB .any l.toArray (ps2.flatMap (·.fs)) last2 [] ps2 ((listAll listed qs).setIfInBounds s2 true)) (stepsEnd pre (Array.replicate l.toArray.size false)) &&
    decide (stepsFuel pre (qs.length + (fuelOf last1 ps1 + 1)) = l.toArray.size) && decide (fuelOf last2 ps2 = fuelOf last1 ps1)
theorem wp_region_forkAt {id : Nat} {a : Act} {w : World} {l : List Oper} (pre : List (List Nat × Nat)) (qs : List Nat) (s1 s2 : Nat) (ps1 : List Piece) (last1 : List Nat) (ps2 : List Piece) (last2 : List Nat) (hm : P.follows .mixedOrders = true) (hB : forkPre l pre qs s1 s2 ps1 last1 ps2 last2 = true)
    (h : wpSteps P l (calmQ Q) (fun a w => wpQuiet P l.toArray (fun _ => True) (fun a' => wpList P l.toArray (Exit.then (fun a2 w2 => wpMix P l (calmQ Q) ClE last1 ps1 a2 w2) (calmQ Q)) (opsAt l [s1]) a' w ∧ wpList P l.toArray (Exit.then (fun a2 w2 => wpMix P l (calmQ Q) ClE last2 ps2 a2 w2) (calmQ Q)) (opsAt l [s2]) a' w) (opsAt l qs) a) pre a w.drew) :
    (Code.region id l.toArray true).wp P Q a w := by
  simp only [forkPre, Bool.and_eq_true, decide_eq_true_eq] at hB
  obtain ⟨⟨⟨⟨⟨h1, h2⟩, h3⟩, ⟨⟨h4, h5⟩, h6⟩, h7⟩, h8⟩, h9⟩ := hB
  have hcalm : ∀ e a w, calmQ Q e a w → Q e a w := by
    intro e a w h
    cases e <;> first | exact h | exact h.elim
  refine Code.wp_mono hcalm (wp_region_any hm ?_)
  have key := wpSteps_any (Q := calmQ Q) h1 (fun _ _ _ _ _ h => h) (qs.length + (fuelOf last1 ps1 + 1)) pre _ a w.drew (Closed.start _) h3 (fun a w hcl hk => by
    have hcl1 := closed_all qs _ hcl h4
    have hs1 : s1 ∈ Region.ready .any l.toArray (listAll (stepsEnd pre (Array.replicate l.toArray.size false)) qs) := by rw [h5]; simp
    have hs2 : s2 ∈ Region.ready .any l.toArray (listAll (stepsEnd pre (Array.replicate l.toArray.size false)) qs) := by rw [h5]; simp
    have one : ∀ (s : Nat), s ∈ Region.ready .any l.toArray (listAll (stepsEnd pre (Array.replicate l.toArray.size false)) qs) → ∀ (ps : List Piece) (last : List Nat), piecesB .any l.toArray (ps.flatMap (·.fs)) last [] ps ((listAll (stepsEnd pre (Array.replicate l.toArray.size false)) qs).setIfInBounds s true) = true → ∀ a',
        wpList P l.toArray (Exit.then (fun a2 w2 => wpMix P l (calmQ Q) ClE last ps a2 w2) (calmQ Q)) (opsAt l [s]) a' w →
        wpOp P l.toArray (calmQ Q) s (wpAny P .any l.toArray (calmQ Q) (fuelOf last ps) ((listAll (stepsEnd pre (Array.replicate l.toArray.size false)) qs).setIfInBounds s true)) a' w := by
      intro s hs ps last hp a' hl
      obtain ⟨_, os, hos, _⟩ := mem_ready.1 hs
      have hos' : l[s]? = some os := by simpa using hos
      have hop : opsAt l [s] = [os] := by simp only [opsAt, List.getD_eq_getElem?_getD, hos']; rfl
      rw [hop] at hl
      refine wpOp_mono (fun a2 w2 hm2 => ?_) (wpOp_of_list hos hl)
      exact wpAny_of_C _ _ _ _ (wpMix_any (Cl := ClE) (fun _ => Below.refl _ _) (fun _ _ _ h g => Below.trans h (g.mono h.size)) (ps.flatMap (·.fs)) h1 h2 (Q := calmQ Q) (fun _ _ _ _ _ h => h) last ps [] _ a2 w2 (hcl1.set hs) hp hm2)
    refine wpAny_of_C (F := fun _ => false) (C := fun _ => True) (brk := fun _ => true) _ _ _ _ (mix_quiets (D := fun _ => True) h1 (fun _ _ _ _ _ h => h) trivial (fun a' h' => ?_) qs _ a hcl h4 rfl (fun q hq => ⟨fun _ _ _ _ _ _ _ _ _ _ _ => trivial, fun _ _ _ => trivial⟩) hk)
    refine wpAnyC_triv _ _ _ _ ⟨fun h0 => (by rw [h5] at h0; cases h0), fun i hi => ?_⟩
    rw [h5] at hi
    rcases List.mem_cons.1 hi with rfl | hi
    · exact one i hs1 ps1 last1 h6 a' h'.1
    · rw [List.mem_singleton] at hi
      subst hi
      have := one i hs2 ps2 last2 h7 a' h'.2
      rw [h9] at this
      exact this) h
  rw [h8] at key
  exact key
theorem steps_cons {l : List Oper} {K : Act → World → Prop} {p : List Nat × Nat} {r : List (List Nat × Nat)} {ql ol : List Oper} {a : Act} {w : World} (h1 : opsAt l p.1 = ql) (h2 : opsAt l [p.2] = ol)
    (h : wpQuiet P l.toArray (fun _ => True) (fun a' => wpList P l.toArray (Exit.then (fun a2 w2 => wpSteps P l Q K r a2 w2) Q) ol a' w) ql a) : wpSteps P l Q K (p :: r) a w := by
  subst h1; subst h2; exact h
theorem steps_fork {l : List Oper} {A B : Act → Act → World → Prop} {qs : List Nat} {s1 s2 : Nat} {ql o1 o2 : List Oper} {Q1 Q2 : Exit → Act → World → Prop} {a : Act} {w : World} (h1 : opsAt l qs = ql) (h2 : opsAt l [s1] = o1) (h3 : opsAt l [s2] = o2)
    (h : wpQuiet P l.toArray (fun _ => True) (fun a' => wpList P l.toArray Q1 o1 a' w ∧ wpList P l.toArray Q2 o2 a' w) ql a) : wpSteps P l Q (fun a w => wpQuiet P l.toArray (fun _ => True) (fun a' => wpList P l.toArray Q1 (opsAt l [s1]) a' w ∧ wpList P l.toArray Q2 (opsAt l [s2]) a' w) (opsAt l qs) a) [] a w := by
  subst h1; subst h2; subst h3; exact h
theorem sx_seal {w0 w : World} {F0 I0 I : Fp} {L : List Ob} {l : List Oper} {K : Act → World → Prop} {ps : List (List Nat × Nat)} {a : Act} {W : World} {L' : List Ob} (s : SH F0 I0 w0 L w I) [h : Built1 w L W L'] (k : ∀ w', SH F0 I0 w0 L' w' I → wpSteps P l Q K ps a w') : wpSteps P l Q K ps a W := k _ (h.out s)
end
end Go.Proofs.YtnmlonicfncpfaaGreat.X
namespace Go.Proofs.YtnmlonicfncpfaaGreat.X
open Go.RowKit
set_option linter.unusedVariables false
section
variable {P : Program} {Q : Exit → Act → World → Prop}
/-- the static part -/
def forkEB (l : List Oper) (qs fs : List Nat) (s1 s2 : Nat) (ps1 : List Piece) (last1 : List Nat) (ps2 : List Piece) (last2 : List Nat) : Bool :=
  Region.noSelect l.toArray && forward .any l 0 && quietsB .any l.toArray qs (Array.replicate l.toArray.size false) && quietsB .any l.toArray fs (listAll (Array.replicate l.toArray.size false) qs) &&
    decide (Region.ready .any l.toArray (listAll (listAll (Array.replicate l.toArray.size false) qs) fs) = [s1, s2]) &&
    piecesB .any l.toArray fs last1 qs ps1 ((listAll (listAll (Array.replicate l.toArray.size false) qs) fs).setIfInBounds s1 true) &&
    piecesB .any l.toArray fs last2 qs ps2 ((listAll (listAll (Array.replicate l.toArray.size false) qs) fs).setIfInBounds s2 true) &&
    decide (qs.length + (fs.length + (fuelOf last1 ps1 + 1)) = l.toArray.size) && decide (fuelOf last2 ps2 = fuelOf last1 ps1) &&
    (List.range l.toArray.size).all (fun j => brkOf ps1 ((listAll (listAll (Array.replicate l.toArray.size false) qs) fs).setIfInBounds s1 true) j == brkOf ps2 ((listAll (listAll (Array.replicate l.toArray.size false) qs) fs).setIfInBounds s2 true) j) &&
    (qs.all fun q => !fs.contains q) && !fs.contains s1 && !fs.contains s2
theorem wpAnyC_brk {md : Region.Mode} {ops : Array Oper} {F : Nat → Bool} {C : World → Prop} {brk brk' : Nat → Bool} (hb : ∀ j, j < ops.size → brk j = brk' j) : ∀ (fuel : Nat) (listed : Array Bool) (a : Act) (w : World), wpAnyC P md ops Q F C brk fuel listed a w → wpAnyC P md ops Q F C brk' fuel listed a w
  | 0, _, _, _, h => h
  | fuel + 1, listed, _, _, h => ⟨h.1, fun i hi => wpOp_mono (fun a' w' h' => ⟨h'.1, fun h0 h1 => h'.2.1 h0 (by
      have hlt : i < ops.size := by obtain ⟨_, o, ho, _⟩ := mem_ready.1 hi; exact (Array.getElem?_eq_some_iff.1 ho).1
      rw [hb i hlt]; exact h1), wpAnyC_brk hb fuel _ a' w' h'.2.2⟩) (h.2 i hi)⟩
theorem wp_region_forkE {id : Nat} {a : Act} {w : World} {l : List Oper} (qs fs : List Nat) (s1 s2 : Nat) (ps1 : List Piece) (last1 : List Nat) (ps2 : List Piece) (last2 : List Nat) (hm : P.follows .mixedOrders = true) (hB : forkEB l qs fs s1 s2 ps1 last1 ps2 last2 = true)
    {ql fl o1 o2 : List Oper} (e0 : opsAt l qs = ql) (e3 : opsAt l fs = fl) (e1 : opsAt l [s1] = o1) (e2 : opsAt l [s2] = o2)
    (h : wpQuiet P l.toArray (fun x => ClE w.drew x) (fun a1 => wpQuiet P l.toArray (fun _ => True) (fun a' => wpList P l.toArray (Exit.then (fun a2 w2 => ClE w.drew w2 ∧ wpMix P l (calmQ Q) ClE last1 ps1 a2 w2) (calmQ Q)) o1 a' w.drew ∧ wpList P l.toArray (Exit.then (fun a2 w2 => ClE w.drew w2 ∧ wpMix P l (calmQ Q) ClE last2 ps2 a2 w2) (calmQ Q)) o2 a' w.drew) fl a1) ql a) :
    (Code.region id l.toArray true).wp P Q a w := by
  subst e0; subst e1; subst e2; subst e3
  simp only [forkEB, Bool.and_eq_true, decide_eq_true_eq, Bool.not_eq_true'] at hB
  obtain ⟨⟨⟨⟨⟨⟨⟨⟨⟨⟨⟨⟨h1, h2⟩, h3⟩, h3f⟩, h4⟩, h5⟩, h6⟩, h7⟩, h8⟩, h9⟩, hqF⟩, hF1⟩, hF2⟩ := hB
  simp only [List.all_eq_true, Bool.not_eq_true'] at hqF
  obtain ⟨L1, hL1⟩ : ∃ L1, listAll (listAll (Array.replicate l.toArray.size false) qs) fs = L1 := ⟨_, rfl⟩
  rw [hL1] at h4 h5 h6 h9
  have hbr : ∀ j, j < l.toArray.size → brkOf ps1 (L1.setIfInBounds s1 true) j = brkOf ps2 (L1.setIfInBounds s2 true) j := fun j hj => by
    have := List.all_eq_true.1 h9 j (List.mem_range.2 hj)
    simpa using this
  have hcalm : ∀ e a w, calmQ Q e a w → Q e a w := by
    intro e a w h
    cases e <;> first | exact h | exact h.elim
  have hrf : ∀ w, ClE w w := fun _ => Below.refl _ _
  have htr : ∀ a b c, ClE a b → ClE b c → ClE a c := fun _ _ _ h g => Below.trans h (g.mono h.size)
  have hfw' : forward .any l.toArray.toList 0 = true := by simpa using h2
  have hcl0 := closed_all qs _ (Closed.start (md := .any) (ops := l.toArray) l.toArray.size) h3
  have hcl := closed_all fs _ hcl0 h3f
  rw [hL1] at hcl
  have hs1 : s1 ∈ Region.ready .any l.toArray L1 := by rw [h4]; simp
  have hs2 : s2 ∈ Region.ready .any l.toArray L1 := by rw [h4]; simp
  have one : ∀ (s : Nat), s ∈ Region.ready .any l.toArray L1 → ∀ (ps : List Piece) (last : List Nat), piecesB .any l.toArray fs last qs ps (L1.setIfInBounds s true) = true → ∀ a',
      wpList P l.toArray (Exit.then (fun a2 w2 => ClE w.drew w2 ∧ wpMix P l (calmQ Q) ClE last ps a2 w2) (calmQ Q)) (opsAt l [s]) a' w.drew →
      wpOp P l.toArray (calmQ Q) s (fun a2 w2 => ClE w.drew w2 ∧ wpAnyC P .any l.toArray (calmQ Q) fs.contains (fun x => ClE w.drew x) (brkOf ps (L1.setIfInBounds s true)) (fuelOf last ps) (L1.setIfInBounds s true) a2 w2) a' w.drew := by
    intro s hs ps last hp a' hl
    obtain ⟨_, os, hos, _⟩ := mem_ready.1 hs
    have hos' : l[s]? = some os := by simpa using hos
    have hop : opsAt l [s] = [os] := by simp only [opsAt, List.getD_eq_getElem?_getD, hos']; rfl
    rw [hop] at hl
    refine wpOp_mono (fun a2 w2 ⟨hk, hm2⟩ => ⟨hk, ?_⟩) (wpOp_of_list hos hl)
    exact wpAnyC_mono (fun x hx => htr _ _ _ hk hx) _ _ _ _ (wpMix_any (Cl := ClE) hrf htr fs h1 h2 (Q := calmQ Q) (fun _ _ _ _ _ h => h) last ps qs _ a2 w2 (hcl.set hs) hp hm2)
  refine Code.wp_mono hcalm (wp_region_any hm ?_)
  have key : wpAnyC P .any l.toArray (calmQ Q) fs.contains (fun x => ClE w.drew x) (brkOf ps1 (L1.setIfInBounds s1 true)) (qs.length + (fs.length + (fuelOf last1 ps1 + 1))) (Array.replicate l.toArray.size false) a w.drew := by
    refine mix_quiets (D := fun x => ClE w.drew x) h1 (fun _ _ _ _ _ h => h) (hrf _) (fun a1 ha1 => ?_) qs _ a (Closed.start _) h3 rfl (fun q hq => ⟨fun L hL hqL j hj hne w1 w2 g1 g2 g3 => ?_, fun _ hd _ => hd⟩) h
    · refine mix_quiets (D := fun _ => True) h1 (fun _ _ _ _ _ h => h) trivial (fun a' h' => ?_) fs _ a1 hcl0 h3f hL1 (fun q hq' => ⟨fun _ _ _ _ _ _ _ _ _ _ _ => trivial, fun _ _ h0 => ?_⟩) ha1
      · refine ⟨fun h0 => (by rw [h4] at h0; cases h0), fun i hi => ?_⟩
        rw [h4] at hi
        rcases List.mem_cons.1 hi with rfl | hi
        · exact wpOp_mono (fun a2 w2 ⟨hk, hm2⟩ => ⟨fun h0 => (by rw [hF1] at h0; cases h0), fun _ _ => hk, hm2⟩) (one i hs1 ps1 last1 h5 a' h'.1)
        · rw [List.mem_singleton] at hi
          subst hi
          have := one i hs2 ps2 last2 h6 a' h'.2
          rw [h8] at this
          exact wpOp_mono (fun a2 w2 ⟨hk, hm2⟩ => ⟨fun h0 => (by rw [hF2] at h0; cases h0), fun _ _ => hk, wpAnyC_brk (fun j hj => (hbr j hj).symm) _ _ _ _ hm2⟩) this
      · have : fs.contains q = true := by simpa using hq'
        rw [this] at h0
        cases h0
    · cases hFj : fs.contains j with
      | true => rw [g2 hFj]; exact g1
      | false => exact g3 hFj (alive_ok fs hfw' last1 ps1 qs _ (hcl.set hs1) h5 q hq L hL hqL j hj hne)
  rw [h7] at key
  exact wpAny_of_C _ _ _ _ key
end
end Go.Proofs.YtnmlonicfncpfaaGreat.X
namespace Go.Proofs.YtnmlonicfncpfaaGreat.X
open Go.RowKit
set_option linter.unusedVariables false
section
variable {P : Program} {Q : Exit → Act → World → Prop}
abbrev noF : Nat → Bool := ([] : List Nat).contains
theorem fork_any {l : List Oper} {brk : Nat → Bool} (h1 : Region.noSelect l.toArray = true) {qs : List Nat} {s1 s2 : Nat} {listed : Array Bool} {n : Nat} {a : Act} {w : World}
    (hcl : Closed .any l.toArray listed) (h3 : quietsB .any l.toArray qs listed = true) (h4 : Region.ready .any l.toArray (listAll listed qs) = [s1, s2])
    (hw : ∀ q ∈ qs, ∀ L, Closed .any l.toArray L → L.getD q false = false → ∀ j ∈ Region.ready .any l.toArray L, j ≠ q → brk j = false)
    {K1 K2 : Act → World → Prop} (hK1 : ∀ a2 w2, K1 a2 w2 → wpAnyC P .any l.toArray (calmQ Q) noF (fun x => ClE w2 x) brk n ((listAll listed qs).setIfInBounds s1 true) a2 w2) (hK2 : ∀ a2 w2, K2 a2 w2 → wpAnyC P .any l.toArray (calmQ Q) noF (fun x => ClE w2 x) brk n ((listAll listed qs).setIfInBounds s2 true) a2 w2)
    (h : wpQuiet P l.toArray (fun x => ClE w x) (fun a' => wpList P l.toArray (Exit.then (fun a2 w2 => ClE w w2 ∧ K1 a2 w2) (calmQ Q)) (opsAt l [s1]) a' w ∧
      wpList P l.toArray (Exit.then (fun a2 w2 => ClE w w2 ∧ K2 a2 w2) (calmQ Q)) (opsAt l [s2]) a' w) (opsAt l qs) a) :
    wpAnyC P .any l.toArray (calmQ Q) noF (fun x => ClE w x) brk (qs.length + (n + 1)) listed a w := by
  refine mix_quiets (D := fun x => ClE w x) h1 (fun _ _ _ _ _ h => h) (Below.refl _ _) (fun a1 ha1 => ?_) qs listed a hcl h3 rfl (fun q hq => ⟨fun L hL hqL j hj hne w1 w2 g1 g2 g3 => g3 rfl (hw q hq L hL hqL j hj hne), fun _ hd _ => hd⟩) h
  have one : ∀ s ∈ [s1, s2], ∀ K : Act → World → Prop, (∀ a2 w2, K a2 w2 → wpAnyC P .any l.toArray (calmQ Q) noF (fun x => ClE w2 x) brk n ((listAll listed qs).setIfInBounds s true) a2 w2) → wpList P l.toArray (Exit.then (fun a2 w2 => ClE w w2 ∧ K a2 w2) (calmQ Q)) (opsAt l [s]) a1 w →
      wpOp P l.toArray (calmQ Q) s (fun a' w' => (noF s = true → w' = w) ∧ (noF s = false → brk s = false → ClE w w') ∧ wpAnyC P .any l.toArray (calmQ Q) noF (fun x => ClE w x) brk n ((listAll listed qs).setIfInBounds s true) a' w') a1 w := by
    intro s hs K hK hl
    rw [← h4] at hs
    obtain ⟨_, os, hos, _⟩ := mem_ready.1 hs
    have hos' : l[s]? = some os := by simpa using hos
    have hop : opsAt l [s] = [os] := by simp only [opsAt, List.getD_eq_getElem?_getD, hos']; rfl
    rw [hop] at hl
    exact wpOp_mono (fun a2 w2 ⟨hk, hm2⟩ => ⟨fun h0 => (by cases h0), fun _ _ => hk, wpAnyC_mono (fun x hx => Below.trans hk (hx.mono hk.size)) _ _ _ _ (hK _ _ hm2)⟩) (wpOp_of_list hos hl)
  refine ⟨fun h0 => (by rw [h4] at h0; cases h0), fun i hi => ?_⟩
  rw [h4] at hi
  rcases List.mem_cons.1 hi with rfl | hi
  · exact one _ (by simp) K1 hK1 ha1.1
  · rw [List.mem_singleton] at hi
    subst hi
    exact one _ (by simp) K2 hK2 ha1.2
theorem leaf_any {l : List Oper} {brk : Nat → Bool} (h1 : Region.noSelect l.toArray = true) (h2 : forward .any l 0 = true) {last : List Nat} {ps : List Piece} {listed : Array Bool} {a : Act} {w : World}
    (hcl : Closed .any l.toArray listed) (hB : piecesB .any l.toArray [] last [] ps listed = true) (hb : ∀ j, j < l.toArray.size → brkOf ps listed j = brk j) (h : wpMix P l (calmQ Q) ClE last ps a w) :
    wpAnyC P .any l.toArray (calmQ Q) noF (fun x => ClE w x) brk (fuelOf last ps) listed a w :=
  wpAnyC_brk hb _ _ _ _ (wpMix_any (Cl := ClE) (fun _ => Below.refl _ _) (fun _ _ _ h g => Below.trans h (g.mono h.size)) [] h1 h2 (Q := calmQ Q) (fun _ _ _ _ _ h => h) last ps [] _ a w hcl hB h)
def fork3B (l : List Oper) (qs : List Nat) (s1 s2 : Nat) (qs1 : List Nat) (s11 s12 : Nat) (ps11 : List Piece) (last11 : List Nat) (ps12 : List Piece) (last12 : List Nat) (ps2 : List Piece) (last2 : List Nat) (Lb : Array Bool) : Bool :=
  Region.noSelect l.toArray && forward .any l 0 && quietsB .any l.toArray qs (Array.replicate l.toArray.size false) &&
    decide (Region.ready .any l.toArray (listAll (Array.replicate l.toArray.size false) qs) = [s1, s2]) &&
    quietsB .any l.toArray qs1 ((listAll (Array.replicate l.toArray.size false) qs).setIfInBounds s1 true) &&
    decide (Region.ready .any l.toArray (listAll ((listAll (Array.replicate l.toArray.size false) qs).setIfInBounds s1 true) qs1) = [s11, s12]) &&
    piecesB .any l.toArray [] last11 [] ps11 ((listAll ((listAll (Array.replicate l.toArray.size false) qs).setIfInBounds s1 true) qs1).setIfInBounds s11 true) &&
    piecesB .any l.toArray [] last12 [] ps12 ((listAll ((listAll (Array.replicate l.toArray.size false) qs).setIfInBounds s1 true) qs1).setIfInBounds s12 true) &&
    piecesB .any l.toArray [] last2 [] ps2 ((listAll (Array.replicate l.toArray.size false) qs).setIfInBounds s2 true) &&
    decide (fuelOf last12 ps12 = fuelOf last11 ps11) && decide (fuelOf last2 ps2 = qs1.length + (fuelOf last11 ps11 + 1)) && decide (qs.length + (qs1.length + (fuelOf last11 ps11 + 1) + 1) = l.toArray.size) &&
    (List.range l.toArray.size).all (fun j => (brkOf ps11 ((listAll ((listAll (Array.replicate l.toArray.size false) qs).setIfInBounds s1 true) qs1).setIfInBounds s11 true) j == !Lb.getD j true) &&
      (brkOf ps12 ((listAll ((listAll (Array.replicate l.toArray.size false) qs).setIfInBounds s1 true) qs1).setIfInBounds s12 true) j == !Lb.getD j true) && (brkOf ps2 ((listAll (Array.replicate l.toArray.size false) qs).setIfInBounds s2 true) j == !Lb.getD j true)) &&
    ((qs ++ qs1).all (waitsB .any l.toArray Lb))
theorem wp_region_fork3 {id : Nat} {a : Act} {w : World} {l : List Oper} (qs : List Nat) (s1 s2 : Nat) (qs1 : List Nat) (s11 s12 : Nat) (ps11 : List Piece) (last11 : List Nat) (ps12 : List Piece) (last12 : List Nat) (ps2 : List Piece) (last2 : List Nat) (Lb : Array Bool)
    (hm : P.follows .mixedOrders = true) (hB : fork3B l qs s1 s2 qs1 s11 s12 ps11 last11 ps12 last12 ps2 last2 Lb = true)
    {ql ql1 o1 o2 o11 o12 : List Oper} (e0 : opsAt l qs = ql) (e1 : opsAt l qs1 = ql1) (e2 : opsAt l [s1] = o1) (e3 : opsAt l [s2] = o2) (e4 : opsAt l [s11] = o11) (e5 : opsAt l [s12] = o12)
    (h : wpQuiet P l.toArray (fun x => ClE w.drew x) (fun a' => wpList P l.toArray (Exit.then (fun a2 w2 => ClE w.drew w2 ∧ wpQuiet P l.toArray (fun x => ClE w2 x) (fun a3 =>
        wpList P l.toArray (Exit.then (fun a4 w4 => ClE w2 w4 ∧ wpMix P l (calmQ Q) ClE last11 ps11 a4 w4) (calmQ Q)) o11 a3 w2 ∧ wpList P l.toArray (Exit.then (fun a4 w4 => ClE w2 w4 ∧ wpMix P l (calmQ Q) ClE last12 ps12 a4 w4) (calmQ Q)) o12 a3 w2) ql1 a2) (calmQ Q)) o1 a' w.drew ∧
      wpList P l.toArray (Exit.then (fun a2 w2 => ClE w.drew w2 ∧ wpMix P l (calmQ Q) ClE last2 ps2 a2 w2) (calmQ Q)) o2 a' w.drew) ql a) :
    (Code.region id l.toArray true).wp P Q a w := by
  subst e0; subst e1; subst e2; subst e3; subst e4; subst e5
  simp only [fork3B, Bool.and_eq_true, decide_eq_true_eq] at hB
  obtain ⟨⟨⟨⟨⟨⟨⟨⟨⟨⟨⟨⟨⟨h1, h2⟩, h3⟩, h4⟩, h5⟩, h6⟩, h7⟩, h8⟩, h9⟩, h10⟩, h11⟩, h12⟩, h13⟩, h14⟩ := hB
  have hfw' : forward .any l.toArray.toList 0 = true := by simpa using h2
  have hb : ∀ j, j < l.toArray.size → _ := fun j hj => List.all_eq_true.1 h13 j (List.mem_range.2 hj)
  simp only [Bool.and_eq_true, beq_iff_eq] at hb
  have hw : ∀ q ∈ qs ++ qs1, ∀ L, Closed .any l.toArray L → L.getD q false = false → ∀ j ∈ Region.ready .any l.toArray L, j ≠ q → (!Lb.getD j true) = false := fun q hq L hL hqL j hj hne => by
    rw [waits_spec hfw' (List.all_eq_true.1 h14 q hq) L hL hqL j hj hne]
    rfl
  have hcalm : ∀ e a w, calmQ Q e a w → Q e a w := by
    intro e a w h
    cases e <;> first | exact h | exact h.elim
  have hcl0 : Closed .any l.toArray (Array.replicate l.toArray.size false) := Closed.start _
  have hcl1 := closed_all qs _ hcl0 h3
  have m1 : s1 ∈ Region.ready .any l.toArray (listAll (Array.replicate l.toArray.size false) qs) := by rw [h4]; simp
  have m2 : s2 ∈ Region.ready .any l.toArray (listAll (Array.replicate l.toArray.size false) qs) := by rw [h4]; simp
  have hcl2 := hcl1.set m1
  have hcl3 := closed_all qs1 _ hcl2 h5
  have m11 : s11 ∈ Region.ready .any l.toArray (listAll ((listAll (Array.replicate l.toArray.size false) qs).setIfInBounds s1 true) qs1) := by rw [h6]; simp
  have m12 : s12 ∈ Region.ready .any l.toArray (listAll ((listAll (Array.replicate l.toArray.size false) qs).setIfInBounds s1 true) qs1) := by rw [h6]; simp
  refine Code.wp_mono hcalm (wp_region_any hm ?_)
  have key : wpAnyC P .any l.toArray (calmQ Q) noF (fun x => ClE w.drew x) (fun j => !Lb.getD j true) (qs.length + (qs1.length + (fuelOf last11 ps11 + 1) + 1)) (Array.replicate l.toArray.size false) a w.drew := by
    refine fork_any h1 hcl0 h3 h4 (fun q hq => hw q (List.mem_append_left _ hq)) (fun a2 w2 g => ?_) (fun a2 w2 g => ?_) h
    · refine fork_any h1 hcl2 h5 h6 (fun q hq => hw q (List.mem_append_right _ hq)) (fun a4 w4 g4 => ?_) (fun a4 w4 g4 => ?_) g
      · exact leaf_any h1 h2 (hcl3.set m11) h7 (fun j hj => (hb j hj).1.1) g4
      · have := leaf_any h1 h2 (hcl3.set m12) h8 (fun j hj => (hb j hj).1.2) g4
        rwa [h10] at this
    · have := leaf_any h1 h2 (hcl1.set m2) h9 (fun j hj => (hb j hj).2) g
      rwa [h11] at this
  rw [h12] at key
  exact wpAny_of_C _ _ _ _ key
end
end Go.Proofs.YtnmlonicfncpfaaGreat.X
namespace Go.Proofs.YtnmlonicfncpfaaGreat.X
open Go.RowKit
set_option linter.unusedVariables false
section
variable {P : Program} {Q : Exit → Act → World → Prop}
/-- the static part -/
def forkFB (l : List Oper) (qs fs fr : List Nat) (s1 s2 : Nat) (ps1 : List Piece) (last1 : List Nat) (ps2 : List Piece) (last2 : List Nat) : Bool :=
  Region.noSelect l.toArray && forward .any l 0 && quietsB .any l.toArray qs (Array.replicate l.toArray.size false) && quietsB .any l.toArray fs (listAll (Array.replicate l.toArray.size false) qs) &&
    decide (Region.ready .any l.toArray (listAll (listAll (Array.replicate l.toArray.size false) qs) fs) = [s1, s2]) &&
    piecesB .any l.toArray fr last1 qs ps1 ((listAll (listAll (Array.replicate l.toArray.size false) qs) fs).setIfInBounds s1 true) &&
    piecesB .any l.toArray fr last2 qs ps2 ((listAll (listAll (Array.replicate l.toArray.size false) qs) fs).setIfInBounds s2 true) &&
    decide (qs.length + (fs.length + (fuelOf last1 ps1 + 1)) = l.toArray.size) && decide (fuelOf last2 ps2 = fuelOf last1 ps1) &&
    (List.range l.toArray.size).all (fun j => brkOf ps1 ((listAll (listAll (Array.replicate l.toArray.size false) qs) fs).setIfInBounds s1 true) j == brkOf ps2 ((listAll (listAll (Array.replicate l.toArray.size false) qs) fs).setIfInBounds s2 true) j) &&
    (qs.all fun q => !fr.contains q) && !fr.contains s1 && !fr.contains s2 && (fs.all fun q => fr.contains q)
theorem wp_region_forkF {id : Nat} {a : Act} {w : World} {l : List Oper} (qs fs fr : List Nat) (s1 s2 : Nat) (ps1 : List Piece) (last1 : List Nat) (ps2 : List Piece) (last2 : List Nat) (hm : P.follows .mixedOrders = true) (hB : forkFB l qs fs fr s1 s2 ps1 last1 ps2 last2 = true)
    {ql fl o1 o2 : List Oper} (e0 : opsAt l qs = ql) (e3 : opsAt l fs = fl) (e1 : opsAt l [s1] = o1) (e2 : opsAt l [s2] = o2)
    (h : wpQuiet P l.toArray (fun x => ClE w.drew x) (fun a1 => wpQuiet P l.toArray (fun _ => True) (fun a' => wpList P l.toArray (Exit.then (fun a2 w2 => ClE w.drew w2 ∧ wpMix P l (calmQ Q) ClE last1 ps1 a2 w2) (calmQ Q)) o1 a' w.drew ∧ wpList P l.toArray (Exit.then (fun a2 w2 => ClE w.drew w2 ∧ wpMix P l (calmQ Q) ClE last2 ps2 a2 w2) (calmQ Q)) o2 a' w.drew) fl a1) ql a) :
    (Code.region id l.toArray true).wp P Q a w := by
  subst e0; subst e1; subst e2; subst e3
  simp only [forkFB, Bool.and_eq_true, decide_eq_true_eq, Bool.not_eq_true'] at hB
  obtain ⟨⟨⟨⟨⟨⟨⟨⟨⟨⟨⟨⟨⟨h1, h2⟩, h3⟩, h3f⟩, h4⟩, h5⟩, h6⟩, h7⟩, h8⟩, h9⟩, hqF⟩, hF1⟩, hF2⟩, hff⟩ := hB
  simp only [List.all_eq_true, Bool.not_eq_true'] at hqF
  obtain ⟨L1, hL1⟩ : ∃ L1, listAll (listAll (Array.replicate l.toArray.size false) qs) fs = L1 := ⟨_, rfl⟩
  rw [hL1] at h4 h5 h6 h9
  have hbr : ∀ j, j < l.toArray.size → brkOf ps1 (L1.setIfInBounds s1 true) j = brkOf ps2 (L1.setIfInBounds s2 true) j := fun j hj => by
    have := List.all_eq_true.1 h9 j (List.mem_range.2 hj)
    simpa using this
  have hcalm : ∀ e a w, calmQ Q e a w → Q e a w := by
    intro e a w h
    cases e <;> first | exact h | exact h.elim
  have hrf : ∀ w, ClE w w := fun _ => Below.refl _ _
  have htr : ∀ a b c, ClE a b → ClE b c → ClE a c := fun _ _ _ h g => Below.trans h (g.mono h.size)
  have hfw' : forward .any l.toArray.toList 0 = true := by simpa using h2
  have hcl0 := closed_all qs _ (Closed.start (md := .any) (ops := l.toArray) l.toArray.size) h3
  have hcl := closed_all fs _ hcl0 h3f
  rw [hL1] at hcl
  have hs1 : s1 ∈ Region.ready .any l.toArray L1 := by rw [h4]; simp
  have hs2 : s2 ∈ Region.ready .any l.toArray L1 := by rw [h4]; simp
  have one : ∀ (s : Nat), s ∈ Region.ready .any l.toArray L1 → ∀ (ps : List Piece) (last : List Nat), piecesB .any l.toArray fr last qs ps (L1.setIfInBounds s true) = true → ∀ a',
      wpList P l.toArray (Exit.then (fun a2 w2 => ClE w.drew w2 ∧ wpMix P l (calmQ Q) ClE last ps a2 w2) (calmQ Q)) (opsAt l [s]) a' w.drew →
      wpOp P l.toArray (calmQ Q) s (fun a2 w2 => ClE w.drew w2 ∧ wpAnyC P .any l.toArray (calmQ Q) fr.contains (fun x => ClE w.drew x) (brkOf ps (L1.setIfInBounds s true)) (fuelOf last ps) (L1.setIfInBounds s true) a2 w2) a' w.drew := by
    intro s hs ps last hp a' hl
    obtain ⟨_, os, hos, _⟩ := mem_ready.1 hs
    have hos' : l[s]? = some os := by simpa using hos
    have hop : opsAt l [s] = [os] := by simp only [opsAt, List.getD_eq_getElem?_getD, hos']; rfl
    rw [hop] at hl
    refine wpOp_mono (fun a2 w2 ⟨hk, hm2⟩ => ⟨hk, ?_⟩) (wpOp_of_list hos hl)
    exact wpAnyC_mono (fun x hx => htr _ _ _ hk hx) _ _ _ _ (wpMix_any (Cl := ClE) hrf htr fr h1 h2 (Q := calmQ Q) (fun _ _ _ _ _ h => h) last ps qs _ a2 w2 (hcl.set hs) hp hm2)
  refine Code.wp_mono hcalm (wp_region_any hm ?_)
  have key : wpAnyC P .any l.toArray (calmQ Q) fr.contains (fun x => ClE w.drew x) (brkOf ps1 (L1.setIfInBounds s1 true)) (qs.length + (fs.length + (fuelOf last1 ps1 + 1))) (Array.replicate l.toArray.size false) a w.drew := by
    refine mix_quiets (D := fun x => ClE w.drew x) h1 (fun _ _ _ _ _ h => h) (hrf _) (fun a1 ha1 => ?_) qs _ a (Closed.start _) h3 rfl (fun q hq => ⟨fun L hL hqL j hj hne w1 w2 g1 g2 g3 => ?_, fun _ hd _ => hd⟩) h
    · refine mix_quiets (D := fun _ => True) h1 (fun _ _ _ _ _ h => h) trivial (fun a' h' => ?_) fs _ a1 hcl0 h3f hL1 (fun q hq' => ⟨fun _ _ _ _ _ _ _ _ _ _ _ => trivial, fun _ _ h0 => ?_⟩) ha1
      · refine ⟨fun h0 => (by rw [h4] at h0; cases h0), fun i hi => ?_⟩
        rw [h4] at hi
        rcases List.mem_cons.1 hi with rfl | hi
        · exact wpOp_mono (fun a2 w2 ⟨hk, hm2⟩ => ⟨fun h0 => (by rw [hF1] at h0; cases h0), fun _ _ => hk, hm2⟩) (one i hs1 ps1 last1 h5 a' h'.1)
        · rw [List.mem_singleton] at hi
          subst hi
          have := one i hs2 ps2 last2 h6 a' h'.2
          rw [h8] at this
          exact wpOp_mono (fun a2 w2 ⟨hk, hm2⟩ => ⟨fun h0 => (by rw [hF2] at h0; cases h0), fun _ _ => hk, wpAnyC_brk (fun j hj => (hbr j hj).symm) _ _ _ _ hm2⟩) this
      · have : fr.contains q = true := List.all_eq_true.1 hff q (by simpa using hq')
        rw [this] at h0
        cases h0
    · cases hFj : fr.contains j with
      | true => rw [g2 hFj]; exact g1
      | false => exact g3 hFj (alive_ok fr hfw' last1 ps1 qs _ (hcl.set hs1) h5 q hq L hL hqL j hj hne)
  rw [h7] at key
  exact wpAny_of_C _ _ _ _ key
end
end Go.Proofs.YtnmlonicfncpfaaGreat.X
