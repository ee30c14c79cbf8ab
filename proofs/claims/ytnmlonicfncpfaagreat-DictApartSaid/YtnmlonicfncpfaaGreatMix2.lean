/- A drawn region at which two operations are ready at once: both rows; a made row as one block of cells. -/
import Derived.Test.YtnmlonicfncpfaaGreatMix
import Derived.Test.YtnmlonicfncpfaaGreatOwn2
import Derived.Test.YtnmlonicfncpfaaGreatSep3
namespace Go.Proofs.YtnmlonicfncpfaaGreat.X
open Go.RowKit
set_option linter.unusedVariables false
section
variable {P : Program} {ops : Array Oper} {Q : Exit → Act → World → Prop} {md : Region.Mode} {C : World → Prop}
theorem wpAnyC_triv : ∀ (fuel : Nat) (listed : Array Bool) (a : Act) (w : World), wpAny P md ops Q fuel listed a w → wpAnyC P md ops Q (fun _ => false) C (fun _ => true) fuel listed a w
  | 0, _, _, _, h => h
  | fuel + 1, _, _, _, h => ⟨h.1, fun i hi => wpOp_mono (fun a' w' h' => ⟨fun h0 => (by cases h0), fun _ h0 => (by cases h0), wpAnyC_triv fuel _ a' w' h'⟩) (h.2 i hi)⟩
/-- the static part: qs are quiet anywhere; then s1 and s2 are ready, and each has its own pieces behind it -/
def forkB (l : List Oper) (qs : List Nat) (s1 s2 : Nat) (ps1 : List Piece) (last1 : List Nat) (ps2 : List Piece) (last2 : List Nat) : Bool :=
  Region.noSelect l.toArray && forward .any l 0 && quietsB .any l.toArray qs (Array.replicate l.toArray.size false) &&
    decide (Region.ready .any l.toArray (listAll (Array.replicate l.toArray.size false) qs) = [s1, s2]) &&
    piecesB .any l.toArray (ps1.flatMap (·.fs)) last1 [] ps1 ((listAll (Array.replicate l.toArray.size false) qs).setIfInBounds s1 true) &&
    piecesB .any l.toArray (ps2.flatMap (·.fs)) last2 [] ps2 ((listAll (Array.replicate l.toArray.size false) qs).setIfInBounds s2 true) &&
    decide (qs.length + (fuelOf last1 ps1 + 1) = l.toArray.size) && decide (fuelOf last2 ps2 = fuelOf last1 ps1)
theorem wp_region_fork {id : Nat} {a : Act} {w : World} {l : List Oper} (qs : List Nat) (s1 s2 : Nat) (ps1 : List Piece) (last1 : List Nat) (ps2 : List Piece) (last2 : List Nat) (hm : P.follows .mixedOrders = true) (hB : forkB l qs s1 s2 ps1 last1 ps2 last2 = true)
    {ql o1 o2 : List Oper} (e0 : opsAt l qs = ql) (e1 : opsAt l [s1] = o1) (e2 : opsAt l [s2] = o2)
    (h : wpQuiet P l.toArray (fun _ => True) (fun a' => wpList P l.toArray (Exit.then (fun a2 w2 => wpMix P l (calmQ Q) ClE last1 ps1 a2 w2) (calmQ Q)) o1 a' w.drew ∧ wpList P l.toArray (Exit.then (fun a2 w2 => wpMix P l (calmQ Q) ClE last2 ps2 a2 w2) (calmQ Q)) o2 a' w.drew) ql a) :
    (Code.region id l.toArray true).wp P Q a w := by
  subst e0; subst e1; subst e2
  simp only [forkB, Bool.and_eq_true, decide_eq_true_eq] at hB
  obtain ⟨⟨⟨⟨⟨⟨⟨h1, h2⟩, h3⟩, h4⟩, h5⟩, h6⟩, h7⟩, h8⟩ := hB
  have hcalm : ∀ e a w, calmQ Q e a w → Q e a w := by
    intro e a w h
    cases e <;> first | exact h | exact h.elim
  have hcl := closed_all qs _ (Closed.start (md := .any) (ops := l.toArray) l.toArray.size) h3
  have hs1 : s1 ∈ Region.ready .any l.toArray (listAll (Array.replicate l.toArray.size false) qs) := by rw [h4]; simp
  have hs2 : s2 ∈ Region.ready .any l.toArray (listAll (Array.replicate l.toArray.size false) qs) := by rw [h4]; simp
  have one : ∀ (s : Nat), s ∈ Region.ready .any l.toArray (listAll (Array.replicate l.toArray.size false) qs) → ∀ (ps : List Piece) (last : List Nat), piecesB .any l.toArray (ps.flatMap (·.fs)) last [] ps ((listAll (Array.replicate l.toArray.size false) qs).setIfInBounds s true) = true → ∀ a',
      wpList P l.toArray (Exit.then (fun a2 w2 => wpMix P l (calmQ Q) ClE last ps a2 w2) (calmQ Q)) (opsAt l [s]) a' w.drew →
      wpOp P l.toArray (calmQ Q) s (wpAny P .any l.toArray (calmQ Q) (fuelOf last ps) ((listAll (Array.replicate l.toArray.size false) qs).setIfInBounds s true)) a' w.drew := by
    intro s hs ps last hp a' hl
    obtain ⟨_, os, hos, _⟩ := mem_ready.1 hs
    have hos' : l[s]? = some os := by simpa using hos
    have hop : opsAt l [s] = [os] := by simp only [opsAt, List.getD_eq_getElem?_getD, hos']; rfl
    rw [hop] at hl
    refine wpOp_mono (fun a2 w2 hm2 => ?_) (wpOp_of_list hos hl)
    exact wpAny_of_C _ _ _ _ (wpMix_any (Cl := ClE) (fun _ => Below.refl _ _) (fun _ _ _ h g => Below.trans h (g.mono h.size)) (ps.flatMap (·.fs)) h1 h2 (Q := calmQ Q) (fun _ _ _ _ _ h => h) last ps [] _ a2 w2 (hcl.set hs) hp hm2)
  refine Code.wp_mono hcalm (wp_region_any hm ?_)
  have key : wpAny P .any l.toArray (calmQ Q) (qs.length + (fuelOf last1 ps1 + 1)) (Array.replicate l.toArray.size false) a w.drew := by
   refine wpAny_of_C (F := fun _ => false) (C := fun _ => True) (brk := fun _ => true) _ _ _ _ (mix_quiets (D := fun _ => True) h1 (fun _ _ _ _ _ h => h) trivial (fun a' h' => ?_) qs _ a (Closed.start _) h3 rfl (fun q hq => ⟨fun _ _ _ _ _ _ _ _ _ _ _ => trivial, fun _ _ _ => trivial⟩) h)
   refine wpAnyC_triv _ _ _ _ ⟨fun h0 => (by rw [h4] at h0; cases h0), fun i hi => ?_⟩
   rw [h4] at hi
   rcases List.mem_cons.1 hi with rfl | hi
   · exact one i hs1 ps1 last1 h5 a' h'.1
   · rw [List.mem_singleton] at hi
     subst hi
     have := one i hs2 ps2 last2 h6 a' h'.2
     rw [h8] at this
     exact this
  rw [h7] at key
  exact key
end
section
variable {F0 I0 : Fp} {w0 w w' : World} {L : List Ob} {I : Fp} {α : Type} {k : Kd α} {xs : List α} {g : Nat}
/-- a made row as one block of cells -/
theorem SH.rowCel (s : SH F0 I0 w0 L w I) (i : Nat) (e : L[i]? = some (Row k (.slice (some ⟨g, 0, none⟩) xs.length xs.length) xs)) : ∃ cells, Flat k w I xs cells ∧ SH F0 I0 w0 (L.set i (Cel g k.ety cells)) w I := by
  obtain ⟨F, ⟨⟨cells, ⟨⟨h1, h2⟩, h3⟩, hf⟩, f⟩, hF⟩ := s.get i e
  rcases h2 with ⟨e1, _⟩ | ⟨g', cap, cur, e1, -, hh, hle, hmax, hsz, htk⟩
  · cases e1
  · cases e1
    have hcur : cur.toList = cells := by rw [← htk, List.take_of_length_le (by rw [Array.length_toList]; omega)]
    refine ⟨cells, hf, s.updI i e (h' := Cel g k.ety cells) fun F h hb => ⟨F, ⟨by rw [← hcur]; simpa using hh, h.2 g rfl⟩, fun b hb' => ⟨(hb b hb').1, .inl hb'⟩, Chg.refl _ _⟩⟩
/-- what cells read as -/
def FlatO {α : Type} (k : Kd α) (xs : List α) (cells : List Value) : Ob := .of {
  sat := fun w _ I => Flat k w I xs cells
  keep := fun h hk => h.keep fun b hb hd => hk b hb (.inr hd)
  weak := fun h _ hi _ => h.weak hi }
theorem SH.flat (s : SH F0 I0 w0 L w I) (i : Nat) {cells : List Value} (e : L[i]? = some (FlatO k xs cells)) : Flat k w I xs cells := by
  obtain ⟨F, h, _⟩ := s.get i e
  exact h
end
end Go.Proofs.YtnmlonicfncpfaaGreat.X
namespace Go.Proofs.YtnmlonicfncpfaaGreat.X
open Go.RowKit
section
variable {F0 I0 F : Fp} {w0 w w' : World} {L l : List Ob} {I J : Fp}
theorem SH.pack (l : List Ob) (s : SH F0 I0 w0 (l ++ L) w I) : SH F0 I0 w0 (Many l :: L) w I := by
  obtain ⟨c, bd, ini, Fs, h1, h2, h3⟩ := s
  refine ⟨c, bd, ini, fun i => match i with | 0 => fun b => ∃ j, j < l.length ∧ Fs j b | i + 1 => Fs (l.length + i), fun i o e => ?_, fun i b hb => ?_, fun i j b hij hb hb' => ?_⟩
  · rcases i with _ | i
    · simp at e
      subst e
      refine ⟨fun j b => j < l.length ∧ Fs j b, fun j h e => ?_, fun j b hb => ⟨j, hb⟩, fun i j b hij hb hb' => h3 i j b hij hb.2 hb'.2⟩
      have hj := lt_of_get e
      have : (fun b => j < l.length ∧ Fs j b) = Fs j := funext fun b => propext ⟨fun h => h.2, fun h => ⟨hj, h⟩⟩
      exact (congrArg (fun X => h.sat w X I) this).mpr (h1 j h (by rw [List.getElem?_append_left hj]; exact e))
    · simp only [List.getElem?_cons_succ] at e
      exact h1 _ o (by rw [List.getElem?_append_right (by omega)]; rw [show l.length + i - l.length = i by omega]; exact e)
  · rcases i with _ | i
    · obtain ⟨j, _, hj⟩ := hb; exact h2 j b hj
    · exact h2 _ b hb
  · rcases i with _ | i
    · rcases j with _ | j
      · exact hij rfl
      · obtain ⟨m, hm, hj⟩ := hb; exact h3 m _ b (by omega) hj hb'
    · rcases j with _ | j
      · obtain ⟨m, hm, hj⟩ := hb'; exact h3 _ m b (by omega) hb hj
      · exact h3 _ _ b (by omega) hb hb'
end
end Go.Proofs.YtnmlonicfncpfaaGreat.X
