/- What a call owns, object by object; what is never changed again. More on objects apart. Several objects as one. -/
import Derived.Test.YtnmlonicfncpfaaGreatLib
import Derived.Test.YtnmlonicfncpfaaGreatMix
namespace Go.Proofs.YtnmlonicfncpfaaGreat.X
open Go.RowKit
abbrev Fp := Nat → Prop
/-- what is not in F is as it was -/
structure Chg (F : Fp) (w w' : World) : Prop where
  os : w'.os = w.os
  tape : w'.tape = w.tape
  output : w'.output = w.output
  size : w.heap.size ≤ w'.heap.size
  block : ∀ k, k < w.heap.size → ¬ F k → w'.heap[k]? = w.heap[k]?
section
variable {F F' G : Fp} {a b c w w' w0 : World}
theorem Chg.refl (F : Fp) (w : World) : Chg F w w := ⟨rfl, rfl, rfl, Nat.le_refl _, fun _ _ _ => rfl⟩
theorem Chg.of_ext (h : Ext a b) : Chg F a b := ⟨h.os, h.tape, h.output, h.size, fun k hk _ => h.block k hk⟩
theorem Chg.ext (h : Chg F a b) (hF : ∀ k, k < a.heap.size → ¬ F k) : Ext a b := ⟨h.os, h.tape, h.output, h.size, fun k hk => h.block k hk (hF k hk)⟩
/-- what is changed behind lies in F, or was made since -/
theorem Chg.tr' (h : Chg F a b) (g : Chg G b c) (hG : ∀ k, k < a.heap.size → G k → F k) : Chg F a c :=
  ⟨g.os.trans h.os, g.tape.trans h.tape, g.output.trans h.output, Nat.le_trans h.size g.size, fun k hk hn => (g.block k (Nat.lt_of_lt_of_le hk h.size) (fun e => hn (hG k hk e))).trans (h.block k hk hn)⟩
theorem Chg.tr (h : Chg F a b) (g : Chg F b c) : Chg F a c := h.tr' g fun _ _ e => e
theorem Chg.mono (h : Chg F a b) (hF : ∀ k, k < a.heap.size → F k → G k) : Chg G a b := ⟨h.os, h.tape, h.output, h.size, fun k hk hn => h.block k hk fun e => hn (hF k hk e)⟩
theorem Chg.of_grown {row : Option Nat} (h : a.grownBy b row) (hr : ∀ g, row = some g → F g) : Chg F a b := ⟨h.os, h.tape, h.output, h.size, fun k hk hn => h.block k hk fun e => hn (hr k e.symm)⟩
theorem Chg.of_set {p : Addr} {u : Value} (hp : F p.block) : Chg F a (a.setCell p u) := ⟨rfl, rfl, rfl, by simp [World.setCell], fun k _ hn => Below.heap_setCell _ _ _ _ fun e => hn (e ▸ hp)⟩
theorem Chg.drew (h : Chg F a b) : Chg F a b.drew := ⟨h.os, h.tape, h.output, h.size, h.block⟩
theorem Sl.chg {α : Type} {k : Kd α} {D : Nat → Prop} {A : Option Addr} {xs : List α} (h : Sl k a D A xs) (hc : Chg F a b) (hd : ∀ k, k < a.heap.size → D k → ¬ F k) : Sl k b D A xs := h.keep fun i hi hD => hc.block i hi (hd i hi hD)
theorem Own.chg {α : Type} {k : Kd α} {D : Nat → Prop} {v : Value} {xs : List α} {B : Nat} (h : Own k a B D v xs) (hc : Chg F a b) (hd : ∀ k, k < a.heap.size → (D k ∨ v.ownBlock = some k) → ¬ F k) : Own k b B D v xs := h.keep fun i hi hD => hc.block i hi (hd i hi hD)
end

/-- an object: 'sat w F I': it stands in w; what it may change is F; what it leads to besides is I, which nobody changes. -/
structure Hp where
  sat : World → Fp → Fp → Prop
  keep : ∀ {w w' : World} {F I : Fp}, sat w F I → (∀ b, b < w.heap.size → (F b ∨ I b) → w'.heap[b]? = w.heap[b]?) → sat w' F I
  weak : ∀ {w : World} {F F' I I' : Fp}, sat w F I → (∀ b, b < w.heap.size → F b → F' b) → (∀ b, b < w.heap.size → I b → I' b) → (∀ b, F' b → I' b → False) → sat w F' I'

/-- a block: its cells -/
def CelH (b : Nat) (t : TypeId) (c : List Value) : Hp where
  sat := fun w F _ => w.heap[b]? = some (.cells c.toArray t (0, 0)) ∧ F b
  keep := fun ⟨h, f⟩ hk => ⟨(hk b (lt_of_heap h) (.inl f)).trans h, f⟩
  weak := fun ⟨h, f⟩ hf _ _ => ⟨h, hf b (lt_of_heap h) f⟩
/-- what is told of objects: a block's cells, or another thing -/
inductive Ob where
  | cel (b : Nat) (t : TypeId) (c : List Value)
  | of (h : Hp)
def Ob.hp : Ob → Hp
  | .cel b t c => CelH b t c
  | .of h => h
abbrev Ob.sat (o : Ob) : World → Fp → Fp → Prop := o.hp.sat
theorem Ob.keep (o : Ob) {w w' : World} {F I : Fp} (h : o.sat w F I) (hk : ∀ b, b < w.heap.size → (F b ∨ I b) → w'.heap[b]? = w.heap[b]?) : o.sat w' F I := o.hp.keep h hk
theorem Ob.weak (o : Ob) {w : World} {F F' I I' : Fp} (h : o.sat w F I) (h1 : ∀ b, b < w.heap.size → F b → F' b) (h2 : ∀ b, b < w.heap.size → I b → I' b) (h3 : ∀ b, F' b → I' b → False) : o.sat w F' I' := o.hp.weak h h1 h2 h3
abbrev Cel (b : Nat) (t : TypeId) (c : List Value) : Ob := .cel b t c

/-- an object's change -/
def Upd (w : World) (F I : Fp) (w' : World) (h : Ob) : Prop :=
  ∃ F' I', h.sat w' F' I' ∧ (∀ b, F' b → b < w'.heap.size ∧ (F b ∨ w.heap.size ≤ b)) ∧ (∀ b, I' b → b < w'.heap.size ∧ (I b ∨ F b ∨ w.heap.size ≤ b)) ∧ (∀ b, F' b → I' b → False) ∧ Chg F w w'

theorem Upd.any {w w' : World} {F : Fp} {h : Ob} (u : Upd w F No w' h) (I : Fp) : Upd w F I w' h := by
  obtain ⟨F', I', h1, h2, h3, h4, h5⟩ := u
  exact ⟨F', I', h1, h2, fun b hb => ⟨(h3 b hb).1, .inr ((h3 b hb).2.resolve_left id)⟩, h4, h5⟩

/-- objects apart from one another, in w; the call began in w0 and may change F0 -/
structure SH (F0 I0 : Fp) (w0 : World) (L : List Ob) (w : World) (I : Fp) : Prop where
  chg : Chg F0 w0 w
  bd : ∀ b, I b → b < w.heap.size
  ini : ∀ b, I b → I0 b ∨ F0 b ∨ w0.heap.size ≤ b
  ex : ∃ Fs : Nat → Fp, (∀ (i : Nat) (h : Ob), L[i]? = some h → h.sat w (Fs i) I) ∧ (∀ i b, Fs i b → b < w.heap.size ∧ (F0 b ∨ w0.heap.size ≤ b) ∧ ¬ I b) ∧ (∀ i j b, i ≠ j → Fs i b → Fs j b → False)

section
variable {F0 I0 : Fp} {w0 w w' : World} {L : List Ob} {I : Fp} {h h' : Ob}
theorem SH.size (s : SH F0 I0 w0 L w I) : w0.heap.size ≤ w.heap.size := s.chg.size
theorem SH.start (w : World) (I : Fp) (hI : ∀ b, I b → b < w.heap.size) : SH No I w [] w I :=
  ⟨Chg.refl _ _, hI, fun b hb => .inl hb, fun _ => No, fun i h e => by simp at e, fun i b e => e.elim, fun i j b _ e => e.elim⟩
/-- a call that is handed one object -/
theorem SH.start1 {F : Fp} (hs : h.sat w F I) (hF : ∀ b, F b → b < w.heap.size) (hI : ∀ b, I b → b < w.heap.size) (hd : ∀ b, F b → I b → False) : SH F I w [h] w I :=
  ⟨Chg.refl _ _, hI, fun b hb => .inl hb, fun i b => i = 0 ∧ F b, fun i h e => by
    rcases i with _ | i
    · simp at e; subst e; exact h.weak hs (fun b _ hb => ⟨rfl, hb⟩) (fun _ _ hb => hb) (fun b hb => hd b hb.2)
    · simp at e, fun i b hb => ⟨hF b hb.2, .inl hb.2, fun e => hd b hb.2 e⟩, fun i j b hij h1 h2 => hij (h1.1.trans h2.1.symm)⟩
theorem SH.ext (s : SH F0 I0 w0 L w I) (hx : Ext w w') : SH F0 I0 w0 L w' I := by
  obtain ⟨c, bd, ini, Fs, h1, h2, h3⟩ := s
  exact ⟨c.tr (Chg.of_ext hx), fun b hb => Nat.lt_of_lt_of_le (bd b hb) hx.size, ini, Fs, fun i h e => h.keep (h1 i h e) fun b hb _ => hx.block b hb, fun i b hb => ⟨Nat.lt_of_lt_of_le (h2 i b hb).1 hx.size, (h2 i b hb).2⟩, h3⟩
theorem SH.drew (s : SH F0 I0 w0 L w I) : SH F0 I0 w0 L w.drew I := s.ext (Ext.refl w).drew
theorem SH.get (s : SH F0 I0 w0 L w I) (i : Nat) (e : L[i]? = some h) : ∃ F, h.sat w F I ∧ (∀ b, F b → b < w.heap.size ∧ (F0 b ∨ w0.heap.size ≤ b) ∧ ¬ I b) := by
  obtain ⟨c, bd, ini, Fs, h1, h2, h3⟩ := s
  exact ⟨_, h1 i h e, h2 i⟩
/-- what a call hands back: a new object -/
theorem SH.ret (s : SH No I0 w0 L w I) (i : Nat) (e : L[i]? = some h) : Upd w0 No I0 w h := by
  obtain ⟨c, bd, ini, Fs, h1, h2, h3⟩ := s
  exact ⟨Fs i, I, h1 i h e, fun b hb => ⟨(h2 i b hb).1, (h2 i b hb).2.1⟩, fun b hb => ⟨bd b hb, ini b hb⟩, fun b hb hI => (h2 i b hb).2.2 hI, c⟩
/-- what a call has changed -/
theorem SH.retF (s : SH F0 I0 w0 L w I) (i : Nat) (e : L[i]? = some h) : Upd w0 F0 I0 w h := by
  obtain ⟨c, bd, ini, Fs, h1, h2, h3⟩ := s
  exact ⟨Fs i, I, h1 i h e, fun b hb => ⟨(h2 i b hb).1, (h2 i b hb).2.1⟩, fun b hb => ⟨bd b hb, ini b hb⟩, fun b hb hI => (h2 i b hb).2.2 hI, c⟩
theorem SH.out (s : SH No I0 w0 L w I) : Ext w0 w := s.chg.ext fun _ _ e => e
/-- an object is changed -/
theorem SH.upd (s : SH F0 I0 w0 L w I) (i : Nat) (e : L[i]? = some h) :
    ∃ F, h.sat w F I ∧ (∀ b, F b → b < w.heap.size ∧ (F0 b ∨ w0.heap.size ≤ b) ∧ ¬ I b) ∧ ∀ w' h', Upd w F I w' h' → ∃ I', SH F0 I0 w0 (L.set i h') w' I' ∧ (∀ b, I b → I' b) := by
  obtain ⟨c, bd, ini, Fs, h1, h2, h3⟩ := s
  refine ⟨Fs i, h1 i h e, h2 i, fun w' h' ⟨F', I', s', f1, f2, f3, g⟩ => ⟨fun b => I b ∨ I' b, ⟨?_, ?_, ?_, fun j => if j = i then F' else Fs j, ?_, ?_, ?_⟩, fun b hb => .inl hb⟩⟩
  · exact c.tr' g fun k hk hf => ((h2 i k hf).2.1.resolve_right (by omega))
  · rintro b (hb | hb)
    · exact Nat.lt_of_lt_of_le (bd b hb) g.size
    · exact (f2 b hb).1
  · rintro b (hb | hb)
    · exact ini b hb
    · rcases (f2 b hb).2 with h4 | h4 | h4
      · exact ini b h4
      · exact .inr (h2 i b h4).2.1
      · exact .inr (.inr (Nat.le_trans c.size h4))
  · intro j hj ej
    by_cases hij : j = i
    · subst hij
      have hl : j < L.length := by
        rcases Nat.lt_or_ge j L.length with hl | hl
        · exact hl
        · rw [List.getElem?_eq_none hl] at e; cases e
      rw [List.getElem?_set_self hl] at ej
      cases ej
      simp only [if_true]
      refine h'.weak s' (fun _ _ hb => hb) (fun _ _ hb => .inr hb) fun b hb hI => ?_
      rcases hI with hI | hI
      · rcases (f1 b hb).2 with hf | hf
        · exact (h2 j b hf).2.2 hI
        · exact absurd (bd b hI) (by omega)
      · exact f3 b hb hI
    · rw [List.getElem?_set_ne (fun e => hij e.symm)] at ej
      simp only [if_neg hij]
      refine hj.weak (hj.keep (h1 j hj ej) fun b hb hF => g.block b hb fun hf => ?_) (fun _ _ hb => hb) (fun _ _ hb => .inl hb) fun b hb hI => ?_
      · rcases hF with hF | hF
        · exact h3 j i b hij hF hf
        · exact (h2 i b hf).2.2 hF
      · rcases hI with hI | hI
        · exact (h2 j b hb).2.2 hI
        · rcases (f2 b hI).2 with h4 | h4 | h4
          · exact (h2 j b hb).2.2 h4
          · exact h3 j i b hij hb h4
          · exact absurd (h2 j b hb).1 (by omega)
  · intro j b
    have key : j ≠ i → ∀ b, (Fs j b → ¬ (I b ∨ I' b)) := fun hij b hb hI => by
      rcases hI with hI | hI
      · exact (h2 j b hb).2.2 hI
      · rcases (f2 b hI).2 with h4 | h4 | h4
        · exact (h2 j b hb).2.2 h4
        · exact h3 j i b hij hb h4
        · exact absurd (h2 j b hb).1 (by omega)
    by_cases hij : j = i
    · simp only [if_pos hij]
      intro hb
      refine ⟨(f1 b hb).1, ?_, ?_⟩
      · rcases (f1 b hb).2 with hf | hf
        · exact (h2 i b hf).2.1
        · exact .inr (Nat.le_trans c.size hf)
      · rintro (hI | hI)
        · rcases (f1 b hb).2 with hf | hf
          · exact (h2 i b hf).2.2 hI
          · exact absurd (bd b hI) (by omega)
        · exact f3 b hb hI
    · simp only [if_neg hij]
      intro hb
      exact ⟨Nat.lt_of_lt_of_le (h2 j b hb).1 g.size, (h2 j b hb).2.1, key hij b hb⟩
  · intro j k b hjk
    by_cases hj : j = i
    · have hk : k ≠ i := fun e => hjk (hj.trans e.symm)
      simp only [if_pos hj, if_neg hk]
      intro hb hb'
      rcases (f1 b hb).2 with hf | hf
      · exact h3 i k b (fun e => hk e.symm) hf hb'
      · exact absurd (h2 k b hb').1 (by omega)
    · by_cases hk : k = i
      · simp only [if_neg hj, if_pos hk]
        intro hb' hb
        rcases (f1 b hb).2 with hf | hf
        · exact h3 i j b (fun e => hj e.symm) hf hb'
        · exact absurd (h2 j b hb').1 (by omega)
      · simp only [if_neg hj, if_neg hk]
        exact h3 j k b hjk
/-- a new object -/
theorem SH.new (s : SH F0 I0 w0 L w I) (u : Upd w No I w' h) : ∃ I', SH F0 I0 w0 (h :: L) w' I' ∧ (∀ b, I b → I' b) := by
  obtain ⟨c, bd, ini, Fs, h1, h2, h3⟩ := s
  let nul : Ob := .of ⟨fun _ _ _ => True, fun _ _ => trivial, fun _ _ _ _ => trivial⟩
  have s' : SH F0 I0 w0 (nul :: L) w I := ⟨c, bd, ini, fun i => match i with | 0 => No | i + 1 => Fs i, fun i h e => by
    rcases i with _ | i
    · simp at e; subst e; trivial
    · exact h1 i h (by simpa using e), fun i b hb => by
    rcases i with _ | i
    · exact hb.elim
    · exact h2 i b hb, fun i j b hij hb hb' => by
    rcases i with _ | i
    · exact hb.elim
    · rcases j with _ | j
      · exact hb'.elim
      · exact h3 i j b (by omega) hb hb'⟩
  obtain ⟨F, _, hF, H⟩ := s'.upd 0 (h := nul) rfl
  obtain ⟨F', I', s1, f1, f2, f3, g⟩ := u
  exact H w' h ⟨F', I', s1, fun b hb => ⟨(f1 b hb).1, .inr ((f1 b hb).2.resolve_left id)⟩, fun b hb => ⟨(f2 b hb).1, (f2 b hb).2.imp id fun h => .inr (h.resolve_left id)⟩, f3, g.mono fun _ _ e => e.elim⟩
/-- an object that nobody changes any more -/
theorem SH.frz (s : SH F0 I0 w0 L w I) (i : Nat) (e : L[i]? = some h) (hh : ∀ F, h.sat w F I → h'.sat w No (fun b => I b ∨ F b)) : ∃ I', SH F0 I0 w0 (L.set i h') w I' ∧ (∀ b, I b → I' b) := by
  obtain ⟨c, bd, ini, Fs, h1, h2, h3⟩ := s
  refine ⟨fun b => I b ∨ Fs i b, ⟨c, ?_, fun b hb => hb.elim (ini b) fun h => .inr (h2 i b h).2.1, fun j => if j = i then No else Fs j, ?_, ?_, ?_⟩, fun b hb => .inl hb⟩
  · rintro b (hb | hb)
    · exact bd b hb
    · exact (h2 i b hb).1
  · intro j hj ej
    by_cases hij : j = i
    · subst hij
      have hl : j < L.length := by
        rcases Nat.lt_or_ge j L.length with hl | hl
        · exact hl
        · rw [List.getElem?_eq_none hl] at e; cases e
      rw [List.getElem?_set_self hl] at ej
      cases ej
      simp only [if_true]
      exact hh _ (h1 j h e)
    · rw [List.getElem?_set_ne (fun e => hij e.symm)] at ej
      simp only [if_neg hij]
      refine hj.weak (h1 j hj ej) (fun _ _ hb => hb) (fun _ _ hb => .inl hb) fun b hb hI => ?_
      rcases hI with hI | hI
      · exact (h2 j b hb).2.2 hI
      · exact h3 j i b hij hb hI
  · intro j b
    by_cases hij : j = i
    · simp only [if_pos hij]; exact False.elim
    · simp only [if_neg hij]
      exact fun hb => ⟨(h2 j b hb).1, (h2 j b hb).2.1, fun hI => hI.elim (h2 j b hb).2.2 (h3 j i b hij hb)⟩
  · intro j k b hjk
    by_cases hj : j = i
    · simp only [if_pos hj]; exact fun e => e.elim
    · by_cases hk : k = i
      · simp only [if_pos hk]; exact fun _ e => e.elim
      · simp only [if_neg hj, if_neg hk]; exact h3 j k b hjk
/-- a fact that follows, about what is never changed -/
theorem SH.know (s : SH F0 I0 w0 L w I) (hh : h.sat w No I) : SH F0 I0 w0 (h :: L) w I := by
  obtain ⟨c, bd, ini, Fs, h1, h2, h3⟩ := s
  exact ⟨c, bd, ini, fun i => match i with | 0 => No | i + 1 => Fs i, fun i h e => by
    rcases i with _ | i
    · simp at e; subst e; exact hh
    · exact h1 i h (by simpa using e), fun i b hb => by
    rcases i with _ | i
    · exact hb.elim
    · exact h2 i b hb, fun i j b hij hb hb' => by
    rcases i with _ | i
    · exact hb.elim
    · rcases j with _ | j
      · exact hb'.elim
      · exact h3 i j b (by omega) hb hb'⟩
def selF (Fs : Nat → Fp) (ix : List Nat) (j : Nat) : Fp := match ix[j]? with | some i => Fs i | none => No
theorem selF_some {Fs : Nat → Fp} {ix : List Nat} {j i : Nat} (h : ix[j]? = some i) : selF Fs ix j = Fs i := by unfold selF; rw [h]
theorem selF_none {Fs : Nat → Fp} {ix : List Nat} {j : Nat} (h : ix[j]? = none) : selF Fs ix j = No := by unfold selF; rw [h]
/-- any of them, in any row -/
theorem SH.sel {L' : List Ob} (s : SH F0 I0 w0 L w I) (ix : List Nat) (hn : ix.Nodup) (e : L' = ix.filterMap (fun i => L[i]?)) (hl : ∀ i ∈ ix, i < L.length) : SH F0 I0 w0 L' w I := by
  obtain ⟨c, bd, ini, Fs, h1, h2, h3⟩ := s
  have hL : ∀ j : Nat, L'[j]? = (ix[j]?).bind fun i : Nat => L[i]? := by
    subst e
    intro j
    induction ix generalizing j with
    | nil => simp
    | cons a r ih =>
      have ha := hl a List.mem_cons_self
      rw [List.filterMap_cons, List.getElem?_eq_getElem ha]
      rcases j with _ | j
      · simp [ha]
      · simp only [List.getElem?_cons_succ]
        exact ih (List.nodup_cons.1 hn).2 (fun i hi => hl i (List.mem_cons_of_mem _ hi)) j
  refine ⟨c, bd, ini, selF Fs ix, fun j h ej => ?_, fun j b hb => ?_, fun j k b hjk hb hb' => ?_⟩
  · rw [hL] at ej
    cases hi : ix[j]? with
    | none => rw [hi] at ej; cases ej
    | some i => rw [hi] at ej; rw [selF_some hi]; exact h1 i h ej
  · cases hi : ix[j]? with
    | none => rw [selF_none hi] at hb; exact hb.elim
    | some i => rw [selF_some hi] at hb; exact h2 i b hb
  · cases hi : ix[j]? with
    | none => rw [selF_none hi] at hb; exact hb.elim
    | some i =>
      cases hk : ix[k]? with
      | none => rw [selF_none hk] at hb'; exact hb'.elim
      | some m =>
        rw [selF_some hi] at hb
        rw [selF_some hk] at hb'
        refine h3 i m b (fun e => hjk ?_) hb hb'
        subst e
        obtain ⟨p, hp⟩ := List.getElem?_eq_some_iff.1 hi
        obtain ⟨q, hq⟩ := List.getElem?_eq_some_iff.1 hk
        rcases Nat.lt_trichotomy j k with hjk' | hjk' | hjk'
        · exact absurd (hp.trans hq.symm) (List.pairwise_iff_getElem.1 hn j k p q hjk')
        · exact hjk'
        · exact absurd (hq.trans hp.symm) (List.pairwise_iff_getElem.1 hn k j q p hjk')
end

/-! ### Kinds of objects -/
/-- a row that reads so, which nobody changes -/
def Im {α : Type} (k : Kd α) (A : Option Addr) (xs : List α) : Ob := .of {
  sat := fun w _ I => Sl k w I A xs
  keep := fun h hk => h.keep fun b hb hd => hk b hb (.inr hd)
  weak := fun h _ hi _ => h.weak hi }
/-- an element's cells, whose rows nobody changes -/
def El {α : Type} (k : Kd α) (cs : List Value) (x : α) : Ob := .of {
  sat := fun w _ I => k.rel w I x cs
  keep := fun h hk => k.keep h fun b hb hd => hk b hb (.inr hd)
  weak := fun h _ hi _ => k.weak h hi }
/-- a row of its own -/
def Row {α : Type} (k : Kd α) (v : Value) (xs : List α) : Ob := .of {
  sat := fun w F I => Own k w 0 I v xs ∧ ∀ g, v.ownBlock = some g → F g
  keep := fun ⟨h, f⟩ hk => ⟨h.keep fun b hb hd => hk b hb (hd.elim .inr fun e => .inl (f b e)), f⟩
  weak := fun ⟨h, f⟩ hf hi hd => ⟨h.weak hi fun g e hI => hd g (hf g (h.lt e).2 (f g e)) hI, fun g e => hf g (h.lt e).2 (f g e)⟩ }

section
variable {F0 I0 : Fp} {w0 w w' : World} {L : List Ob} {I : Fp} {h h' : Ob} {α : Type} {k : Kd α} {xs : List α} {v : Value} {A : Option Addr} {b : Nat} {t : TypeId} {c : List Value}
theorem SH.cel (s : SH F0 I0 w0 L w I) (i : Nat) (e : L[i]? = some (Cel b t c)) : w.heap[b]? = some (.cells c.toArray t (0, 0)) := by
  obtain ⟨F, ⟨h, _⟩, _⟩ := s.get i e
  exact h
theorem SH.cell (s : SH F0 I0 w0 L w I) (i j : Nat) {u : Value} (e : L[i]? = some (Cel b t c)) (hj : c[j]? = some u) : w.cell? ⟨b, j, none⟩ = some u := cell_of_heap (s.cel i e) (by simpa using hj)
theorem SH.nfz (s : SH F0 I0 w0 L w I) (i j : Nat) (e : L[i]? = some (Cel b t c)) : w.frozen? ⟨b, j, none⟩ = false := frozen_of_row w b j _ _ (s.cel i e)
theorem SH.im (s : SH F0 I0 w0 L w I) (i : Nat) (e : L[i]? = some (Im k A xs)) : Sl k w I A xs := by
  obtain ⟨F, h, _⟩ := s.get i e
  exact h
theorem SH.el {cs : List Value} {x : α} (s : SH F0 I0 w0 L w I) (i : Nat) (e : L[i]? = some (El k cs x)) : k.rel w I x cs := by
  obtain ⟨F, h, _⟩ := s.get i e
  exact h
theorem SH.row (s : SH F0 I0 w0 L w I) (i : Nat) (e : L[i]? = some (Row k v xs)) : ∃ A c, v = .slice A xs.length c ∧ xs.length ≤ c ∧ Sl k w (fun b => I b ∨ v.ownBlock = some b) A xs := by
  obtain ⟨F, ⟨h, _⟩, _⟩ := s.get i e
  exact h.sl
theorem SH.own (s : SH F0 I0 w0 L w I) (i : Nat) (e : L[i]? = some (Row k v xs)) : Own k w 0 I v xs := by
  obtain ⟨F, ⟨h, _⟩, _⟩ := s.get i e
  exact h
theorem SH.name (_ : SH F0 I0 w0 L w I) (i : Nat) (_ : L[i]? = some (Cel b t c)) : ∃ g, g = b := ⟨b, rfl⟩
/-- a block made -/
theorem SH.box (s : SH F0 I0 w0 L w I) (c : List Value) (t : TypeId) : SH F0 I0 w0 (Cel w.heap.size t c :: L) (w.alloc (.cells c.toArray t (0, 0))) I := by
  obtain ⟨I', s', hI⟩ := s.new (w' := w.alloc (.cells c.toArray t (0, 0))) (h := Cel w.heap.size t c) ⟨fun b => b = w.heap.size, No, ⟨heap_alloc_new w _, rfl⟩, fun b hb => ⟨by simp [hb], .inr (Nat.le_of_eq hb.symm)⟩, fun b hb => hb.elim, fun _ _ hb => hb, Chg.of_ext (Ext.alloc w _)⟩
  obtain ⟨c1, bd1, ini1, Fs1, h1, h2, h3⟩ := s
  refine ⟨s'.chg, fun b hb => Nat.lt_of_lt_of_le (bd1 b hb) (by simp), ini1, fun i => match i with | 0 => fun b => b = w.heap.size | i + 1 => Fs1 i, fun i hi e => ?_, fun i b hb => ?_, fun i j b hij hb hb' => ?_⟩
  · rcases i with _ | i
    · simp at e; subst e; exact ⟨heap_alloc_new w _, rfl⟩
    · exact hi.keep (h1 i hi (by simpa using e)) fun b hb _ => (Ext.alloc w _).block b hb
  · rcases i with _ | i
    · have hb : b = w.heap.size := hb
      subst hb
      exact ⟨by simp, .inr c1.size, fun e => Nat.lt_irrefl _ (bd1 _ e)⟩
    · exact ⟨Nat.lt_of_lt_of_le (h2 i b hb).1 (by simp), (h2 i b hb).2⟩
  · rcases i with _ | i
    · rcases j with _ | j
      · exact hij rfl
      · have hb : b = w.heap.size := hb
        have := (h2 j b hb').1
        omega
    · rcases j with _ | j
      · have hb' : b = w.heap.size := hb'
        have := (h2 i b hb).1
        omega
      · exact h3 i j b (by omega) hb hb'
/-- an object is changed, and what is never changed is not more -/
theorem SH.updI (s : SH F0 I0 w0 L w I) (i : Nat) (e : L[i]? = some h) (hu : ∀ F, h.sat w F I → (∀ b, F b → b < w.heap.size ∧ ¬ I b) → ∃ F', h'.sat w' F' I ∧ (∀ b, F' b → b < w'.heap.size ∧ (F b ∨ w.heap.size ≤ b)) ∧ Chg F w w') : SH F0 I0 w0 (L.set i h') w' I := by
  obtain ⟨c, bd, ini, Fs, h1, h2, h3⟩ := s
  obtain ⟨F', s', f1, g⟩ := hu (Fs i) (h1 i h e) fun b hb => ⟨(h2 i b hb).1, (h2 i b hb).2.2⟩
  refine ⟨c.tr' g fun k hk hf => ((h2 i k hf).2.1.resolve_right (by omega)), fun b hb => Nat.lt_of_lt_of_le (bd b hb) g.size, ini, fun j => if j = i then F' else Fs j, ?_, ?_, ?_⟩
  · intro j hj ej
    by_cases hij : j = i
    · subst hij
      have hl : j < L.length := by
        rcases Nat.lt_or_ge j L.length with hl | hl
        · exact hl
        · rw [List.getElem?_eq_none hl] at e; cases e
      rw [List.getElem?_set_self hl] at ej
      cases ej
      simp only [if_true]
      exact s'
    · rw [List.getElem?_set_ne (fun e => hij e.symm)] at ej
      simp only [if_neg hij]
      refine hj.keep (h1 j hj ej) fun b hb hF => g.block b hb fun hf => ?_
      rcases hF with hF | hF
      · exact h3 j i b hij hF hf
      · exact (h2 i b hf).2.2 hF
  · intro j b
    by_cases hij : j = i
    · simp only [if_pos hij]
      intro hb
      refine ⟨(f1 b hb).1, ?_, fun hI => ?_⟩
      · rcases (f1 b hb).2 with hf | hf
        · exact (h2 i b hf).2.1
        · exact .inr (Nat.le_trans c.size hf)
      · rcases (f1 b hb).2 with hf | hf
        · exact (h2 i b hf).2.2 hI
        · exact absurd (bd b hI) (by omega)
    · simp only [if_neg hij]
      exact fun hb => ⟨Nat.lt_of_lt_of_le (h2 j b hb).1 g.size, (h2 j b hb).2⟩
  · intro j k b hjk
    by_cases hj : j = i
    · have hk : k ≠ i := fun e => hjk (hj.trans e.symm)
      simp only [if_pos hj, if_neg hk]
      intro hb hb'
      rcases (f1 b hb).2 with hf | hf
      · exact h3 i k b (fun e => hk e.symm) hf hb'
      · exact absurd (h2 k b hb').1 (by omega)
    · by_cases hk : k = i
      · simp only [if_neg hj, if_pos hk]
        intro hb' hb
        rcases (f1 b hb).2 with hf | hf
        · exact h3 i j b (fun e => hj e.symm) hf hb'
        · exact absurd (h2 j b hb').1 (by omega)
      · simp only [if_neg hj, if_neg hk]
        exact h3 j k b hjk
/-- a cell of a block is written -/
theorem SH.put (s : SH F0 I0 w0 L w I) (i j : Nat) (u : Value) (e : L[i]? = some (Cel b t c)) : SH F0 I0 w0 (L.set i (Cel b t (c.set j u))) (w.setCell ⟨b, j, none⟩ u) I :=
  s.updI i e fun F ⟨hh, hf⟩ hb => ⟨F, ⟨by simp [World.setCell, Array.getElem?_modify, hh], hf⟩, fun k hk => ⟨by simpa [World.setCell] using (hb k hk).1, .inl hk⟩, Chg.of_set hf⟩
/-- an empty row -/
theorem SH.nilrow {k : Kd α} (s : SH F0 I0 w0 L w I) : SH F0 I0 w0 (Row k (.slice none 0 0) [] :: L) w I := s.know ⟨Own.nil, fun g e => by cases e⟩
/-- a row that nobody changes any more -/
theorem SH.frow (s : SH F0 I0 w0 L w I) (i : Nat) (e : L[i]? = some (Row k v xs)) : ∃ A c I', v = .slice A xs.length c ∧ xs.length ≤ c ∧ SH F0 I0 w0 (L.set i (Im k A xs)) w I' ∧ (∀ b, I b → I' b) := by
  obtain ⟨A, cp, hv, hc, _⟩ := s.row i e
  obtain ⟨I', s', hI⟩ := s.frz i e (h' := Im k A xs) fun F ⟨ho, hf⟩ => by
    obtain ⟨A', c', hv', _, hs⟩ := ho.sl
    rw [hv] at hv'
    cases hv'
    exact hs.weak fun b _ hb => hb.imp id (hf b)
  exact ⟨A, cp, I', hv, hc, s', hI⟩
end

/-- a block that nobody changes any more, read as a row -/
theorem SH.lit {F0 I0 : Fp} {w0 w : World} {L : List Ob} {I : Fp} {b : Nat} {t : TypeId} {c : List Value} {α : Type} {k : Kd α} {xs : List α} (s : SH F0 I0 w0 L w I) (i : Nat) (e : L[i]? = some (Cel b t c)) (hf : Flat k w I xs c) : ∃ I', SH F0 I0 w0 (L.set i (Im k (some ⟨b, 0, none⟩) xs)) w I' ∧ (∀ b, I b → I' b) :=
  s.frz i e fun F ⟨hh, hF⟩ j hj => by
    have hr := hf.2 j hj
    refine ⟨b, 0, _, rfl, lt_of_heap hh, .inr hF, k.weak hr (fun _ _ hb => .inl hb), k.len hr, fun m u hm => cell_of_heap hh ?_⟩
    rw [List.getElem?_take] at hm
    split at hm
    · rw [List.getElem?_drop] at hm
      simpa using hm
    · cases hm
/-! ### What the walk is told of the blocks -/
def Tr : Prop := True
def cellsC (w : World) (b : Nat) : Nat → List Value → Prop
  | _, [] => Tr
  | j, v :: r => w.cell? ⟨b, j, none⟩ = some v ∧ w.frozen? ⟨b, j, none⟩ = false ∧ cellsC w b (j + 1) r
def Cells (w : World) : List Ob → Prop
  | [] => Tr
  | .cel b _ c :: r => cellsC w b 0 c ∧ Cells w r
  | .of _ :: r => Cells w r
theorem cellsC_of {w : World} {b : Nat} {t : TypeId} {c : List Value} (h : w.heap[b]? = some (.cells c.toArray t (0, 0))) : ∀ (r : List Value) (j : Nat), (∀ i v, r[i]? = some v → c[j + i]? = some v) → cellsC w b j r
  | [], _, _ => trivial
  | v :: r, j, hr => ⟨cell_of_heap h (by simpa using hr 0 v rfl), frozen_of_row w b j _ _ h, cellsC_of h r (j + 1) fun i u hu => by have := hr (i + 1) u (by simpa using hu); rwa [show j + 1 + i = j + (i + 1) by omega]⟩
theorem SH.cells {F0 I0 : Fp} {w0 w : World} {L : List Ob} {I : Fp} (s : SH F0 I0 w0 L w I) : Cells w L := by
  have key : ∀ (M : List Ob), (∀ b t c, Ob.cel b t c ∈ M → w.heap[b]? = some (.cells c.toArray t (0, 0))) → Cells w M := by
    intro M
    induction M with
    | nil => intro _; trivial
    | cons o r ih =>
      intro h
      have hr := ih fun b t c hm => h b t c (List.mem_cons_of_mem _ hm)
      cases o with
      | cel b t c => exact ⟨cellsC_of (h b t c List.mem_cons_self) c 0 fun i v hv => by simpa using hv, hr⟩
      | of _ => exact hr
  refine key L fun b t c hm => ?_
  obtain ⟨i, hi, e⟩ := List.mem_iff_getElem.1 hm
  exact s.cel i (by rw [List.getElem?_eq_getElem hi, e])
/-- the same in all worlds in which all that was there is as it was -/
def cellsE (w : World) (b : Nat) : Nat → List Value → Prop
  | _, [] => Tr
  | j, v :: r => (∀ x, ClE w x → x.cell? ⟨b, j, none⟩ = some v) ∧ cellsE w b (j + 1) r
def CellsE (w : World) : List Ob → Prop
  | [] => Tr
  | .cel b _ c :: r => cellsE w b 0 c ∧ CellsE w r
  | .of _ :: r => CellsE w r
theorem cellsE_of {w : World} {b : Nat} : ∀ {c : List Value} {j : Nat}, cellsC w b j c → cellsE w b j c
  | [], _, _ => trivial
  | _ :: _, _, ⟨h, _, r⟩ => ⟨fun _ hx => (Below.cell hx (World.block_lt_of_cell? w _ h)).trans h, cellsE_of r⟩
theorem CellsE_of {w : World} : ∀ {L : List Ob}, Cells w L → CellsE w L
  | [], _ => trivial
  | .cel _ _ _ :: _, ⟨h, r⟩ => ⟨cellsE_of h, CellsE_of r⟩
  | .of _ :: r, h => CellsE_of (L := r) h
theorem SH.cellsE {F0 I0 : Fp} {w0 w : World} {L : List Ob} {I : Fp} (s : SH F0 I0 w0 L w I) : CellsE w.drew L := CellsE_of s.drew.cells
/-! ### A world that the walk has built, under one name -/
theorem lt_of_get {L : List Ob} {i : Nat} {h : Ob} (e : L[i]? = some h) : i < L.length := by
  rcases Nat.lt_or_ge i L.length with hl | hl
  · exact hl
  · rw [List.getElem?_eq_none hl] at e; cases e
/-- block b's cell j is written -/
class SetCel (L : List Ob) (b j : Nat) (u : Value) (L' : outParam (List Ob)) : Prop where
  out : ∃ i t c, L[i]? = some (Cel b t c) ∧ L' = L.set i (Cel b t (c.set j u))
instance (b j : Nat) (u : Value) (t : TypeId) (c : List Value) (L : List Ob) : SetCel (Ob.cel b t c :: L) b j u (Ob.cel b t (c.set j u) :: L) := ⟨0, t, c, rfl, rfl⟩
instance (priority := 500) (b j : Nat) (u : Value) (o : Ob) (L L' : List Ob) [h : SetCel L b j u L'] : SetCel (o :: L) b j u (o :: L') := by
  obtain ⟨i, t, c, h1, h2⟩ := h.out
  exact ⟨i + 1, t, c, by simpa using h1, by rw [h2]; rfl⟩
/-- from w on W was built -/
class Built (w : World) (L : List Ob) (W : World) (L' : outParam (List Ob)) : Prop where
  out : ∀ {F0 I0 : Fp} {w0 : World} {I : Fp}, SH F0 I0 w0 L w I → SH F0 I0 w0 L' W I
class Built1 (w : World) (L : List Ob) (W : World) (L' : outParam (List Ob)) : Prop where
  out : ∀ {F0 I0 : Fp} {w0 : World} {I : Fp}, SH F0 I0 w0 L w I → SH F0 I0 w0 L' W I
instance (w : World) (L : List Ob) (t : TypeId) (c : List Value) (W : World) (L' : List Ob) [h : Built w L W L'] : Built1 w L (W.alloc (.cells c.toArray t (0, 0))) (Ob.cel W.heap.size t c :: L') := ⟨fun s => (h.out s).box c t⟩
instance (w : World) (L : List Ob) (W : World) (L' : List Ob) [h : Built w L W L'] : Built1 w L W.drew L' := ⟨fun s => (h.out s).drew⟩
instance (w : World) (L : List Ob) (b j : Nat) (u : Value) (W : World) (L' L2 : List Ob) [h : Built w L W L'] [g : SetCel L' b j u L2] : Built1 w L (W.setCell ⟨b, j, none⟩ u) L2 := ⟨fun s => by
  obtain ⟨i, t, c, h1, rfl⟩ := g.out
  exact (h.out s).put i j u h1⟩
instance (w : World) (L : List Ob) : Built w L w L := ⟨id⟩
instance (priority := 500) (w : World) (L : List Ob) (W : World) (L' : List Ob) [h : Built1 w L W L'] : Built w L W L' := ⟨h.out⟩
section
variable {P : Program} {w w0 : World} {F0 I0 I : Fp} {L : List Ob}
theorem wpl_seal {ops : Array Oper} {rest : List Oper} {a : Act} {Q : Exit → Act → World → Prop} {W : World} {L' : List Ob} (s : SH F0 I0 w0 L w I) [h : Built1 w L W L'] (k : ∀ w', SH F0 I0 w0 L' w' I → wpList P ops Q rest a w') : wpList P ops Q rest a W := k _ (h.out s)
theorem cw_seal {c0 : Code} {a : Act} {Q : Exit → Act → World → Prop} {W : World} {L' : List Ob} (s : SH F0 I0 w0 L w I) [h : Built1 w L W L'] (k : ∀ w', SH F0 I0 w0 L' w' I → c0.wp P Q a w') : c0.wp P Q a W := k _ (h.out s)
theorem bp_seal {fn : Func} {R : Ending → World → Prop} {e0 : Exit} {a : Act} {W : World} {L' : List Ob} (s : SH F0 I0 w0 L w I) [h : Built1 w L W L'] (k : ∀ w', SH F0 I0 w0 L' w' I → bodyPost P fn R e0 a w') : bodyPost P fn R e0 a W := k _ (h.out s)
theorem ca_seal {f : FuncId} {args : Array Value} {R : Ending → World → Prop} {W : World} {L' : List Ob} (s : SH F0 I0 w0 L w I) [h : Built1 w L W L'] (k : ∀ w', SH F0 I0 w0 L' w' I → Calls P f args w' R) : Calls P f args W R := k _ (h.out s)
theorem mx_seal {l : List Oper} {Q : Exit → Act → World → Prop} {Cl : World → World → Prop} {last : List Nat} {ps : List Piece} {a : Act} {W : World} {L' : List Ob} (s : SH F0 I0 w0 L w I) [h : Built1 w L W L'] (k : ∀ w', SH F0 I0 w0 L' w' I → wpMix P l Q Cl last ps a w') : wpMix P l Q Cl last ps a W := k _ (h.out s)
end

/-! ### Appends -/
section
variable {P : Program} {α : Type} {k : Kd α} {t : TypeId} {bytes : Nat} {ops : Array Oper} {rest : List Oper} {o : Oper} {a : Act} {w : World} {Q : Exit → Act → World → Prop}
variable {F0 I0 : Fp} {w0 : World} {L : List Ob} {I : Fp}
theorem SH.app (s : SH F0 I0 w0 L w I) (i : Nat) {v v' : Value} {xs zs : List α} {w' : World} (e : L[i]? = some (Row k v xs)) (ho : Own k w' 0 I v' zs) (hg : w.grownBy w' v.ownBlock) (hb : v'.ownBlock = v.ownBlock ∨ v'.ownBlock = some w.heap.size) : SH F0 I0 w0 (L.set i (Row k v' zs)) w' I :=
  s.updI i e fun F ⟨_, hf⟩ hF => ⟨fun b => F b ∨ v'.ownBlock = some b, ⟨ho, fun g e => .inr e⟩, fun b hb' => by
    rcases hb' with h1 | h1
    · exact ⟨Nat.lt_of_lt_of_le (hF b h1).1 hg.size, .inl h1⟩
    · refine ⟨(ho.lt h1).2, ?_⟩
      rcases hb with h2 | h2
      · exact .inl (hf b (h2 ▸ h1))
      · rw [h2] at h1; cases h1; exact .inr (Nat.le_refl _), Chg.of_grown hg fun g e => hf g e⟩
/-- 'append(out, ys...)' -/
theorem wpl_app (s : SH F0 I0 w0 L w I) (i : Nat) {v : Value} {xs : List α} (e : L[i]? = some (Row k v xs)) (hgd : o.guard = none) (sx x : Operand) (ho : o.op = .call { callee := .builtin .append, args := #[sx, x], argTypes := #[t, t] }) (T : TyOk P t k bytes)
    (hs : a.eval sx = v) (A : Option Addr) (c : Nat) (ys : List α) (hx : a.eval x = .slice A ys.length c) (E : Nat → Prop) (hE : ∀ x cs, k.rel w E x cs → k.rel w I x cs) (hsl : Sl k w E A ys)
    (h63 : xs.length + ys.length ≤ maxLen) (hbytes : (xs.length + ys.length) * bytes ≤ 140737488355328)
    (h : ∀ v' w', SH F0 I0 w0 (L.set i (Row k v' (xs ++ ys))) w' I → wpList P ops Q rest (a.put o.dst v') w') : wpList P ops Q (o :: rest) a w := by
  obtain ⟨cells, hf0, hA⟩ := hsl.flat
  have hf : Flat k w I ys cells := ⟨hf0.1, fun i hi => hE _ _ (hf0.2 i hi)⟩
  exact wpList_plain hgd fun _ hK => wp_app sx x ho T 0 I v xs ys hs (s.own i e) A c hx cells hf hA h63 hbytes (Nat.zero_le _) s.bd fun v' w' h2 h3 h4 => hK _ _ (h v' w' (s.app i e h2 h3 h4))
/-- 'append(out, x)': x lies in a block just made -/
theorem wpl_push (s : SH F0 I0 w0 L w I) (i : Nat) {v : Value} {xs : List α} (e : L[i]? = some (Row k v xs)) (hgd : o.guard = none) (sx x : Operand) (ho : o.op = .call { callee := .builtin .append, args := #[sx, x], argTypes := #[t, t] }) (T : TyOk P t k bytes)
    (hs : a.eval sx = v) (y : α) (g c : Nat) (hx : a.eval x = .slice (some ⟨g, 0, none⟩) 1 c) (cs : List Value) (e' : TypeId)
    (hg : w.heap[g]? = some (.cells cs.toArray e' (0, 0))) (hr : k.rel w I y cs)
    (h63 : xs.length + 1 ≤ maxLen) (hbytes : (xs.length + 1) * bytes ≤ 140737488355328)
    (h : ∀ v' w', SH F0 I0 w0 (L.set i (Row k v' (xs ++ [y]))) w' I → wpList P ops Q rest (a.put o.dst v') w') : wpList P ops Q (o :: rest) a w := by
  refine wpList_plain hgd fun _ hK => wp_app sx x ho T 0 I v xs [y] hs (s.own i e) (some ⟨g, 0, none⟩) c hx cs (Flat.single hr) (fun _ => ⟨_, rfl, fun j u hj => ?_⟩) h63 hbytes (Nat.zero_le _) s.bd fun v' w' h2 h3 h4 => hK _ _ (h v' w' (s.app i e h2 h3 h4))
  have hadd : (⟨g, 0, none⟩ : Addr).add j = ⟨g, j, none⟩ := by unfold Addr.add; split <;> simp_all
  rw [hadd]
  exact cell_of_heap hg (by simpa using hj)
/-- the same: the block is the newest one -/
theorem wpl_push1 (s : SH F0 I0 w0 L w I) (i : Nat) {v : Value} {xs : List α} (e : L[i]? = some (Row k v xs)) (hgd : o.guard = none) (sx x : Operand) (ho : o.op = .call { callee := .builtin .append, args := #[sx, x], argTypes := #[t, t] }) (T : TyOk P t k bytes)
    (hs : a.eval sx = v) (y : α) (c : Nat) (hx : a.eval x = .slice (some ⟨w.heap.size, 0, none⟩) 1 c) (cs : List Value) (e' : TypeId) (hr : k.rel w I y cs)
    (h63 : xs.length + 1 ≤ maxLen) (hbytes : (xs.length + 1) * bytes ≤ 140737488355328)
    (h : ∀ v' w', SH F0 I0 w0 (L.set i (Row k v' (xs ++ [y]))) w' I → wpList P ops Q rest (a.put o.dst v') w') : wpList P ops Q (o :: rest) a (w.alloc (.cells cs.toArray e' (0, 0))) := by
  have s1 := s.ext (Ext.alloc w (.cells cs.toArray e' (0, 0)))
  exact wpl_push s1 i e hgd sx x ho T hs y _ c hx cs e' (heap_alloc_new w _) (k.keep hr fun b hb _ => (Ext.alloc w _).block b hb) h63 hbytes h
end
end Go.Proofs.YtnmlonicfncpfaaGreat.X
namespace Go.Proofs.YtnmlonicfncpfaaGreat.X
open Go.RowKit
section
variable {F0 I0 : Fp} {w0 w w' : World} {L M : List Ob} {I I' : Fp} {h h' : Ob}
/-- what a call made, beside what there was -/
theorem SH.comp (s : SH F0 I0 w0 L w I) (t : SH No I w M w' I') : ∃ J, SH F0 I0 w0 (M ++ L) w' J ∧ (∀ b, I b → J b) ∧ (∀ b, I' b → J b) := by
  have hx := t.out
  obtain ⟨c, bd, ini, Fs, h1, h2, h3⟩ := s.ext hx
  have bd0 := s.bd
  obtain ⟨c', bd', ini', Gs, g1, g2, g3⟩ := t
  obtain ⟨c0, _, _, Fs0, k1, k2, k3⟩ := s
  refine ⟨fun b => I b ∨ I' b, ⟨c, ?_, ?_, fun i => if i < M.length then Gs i else Fs0 (i - M.length), ?_, ?_, ?_⟩, fun b h => .inl h, fun b h => .inr h⟩
  · rintro b (hb | hb)
    · exact bd b hb
    · exact bd' b hb
  · rintro b (hb | hb)
    · exact ini b hb
    · rcases ini' b hb with h4 | h4 | h4
      · exact ini b h4
      · exact h4.elim
      · exact .inr (.inr (Nat.le_trans c0.size h4))
  · intro i o e
    by_cases hi : i < M.length
    · simp only [if_pos hi]
      rw [List.getElem?_append_left hi] at e
      refine o.weak (g1 i o e) (fun _ _ hb => hb) (fun _ _ hb => .inr hb) fun b hb hI => ?_
      rcases hI with hI | hI
      · rcases (g2 i b hb).2.1 with h4 | h4
        · exact h4
        · exact absurd (bd0 b hI) (by omega)
      · exact (g2 i b hb).2.2 hI
    · simp only [if_neg hi]
      rw [List.getElem?_append_right (by omega)] at e
      refine o.weak (o.keep (k1 _ o e) fun b hb _ => hx.block b hb) (fun _ _ hb => hb) (fun _ _ hb => .inl hb) fun b hb hI => ?_
      rcases hI with hI | hI
      · exact (k2 _ b hb).2.2 hI
      · rcases ini' b hI with h4 | h4 | h4
        · exact (k2 _ b hb).2.2 h4
        · exact h4
        · exact absurd (k2 _ b hb).1 (by omega)
  · intro i b
    by_cases hi : i < M.length
    · simp only [if_pos hi]
      intro hb
      refine ⟨(g2 i b hb).1, .inr (Nat.le_trans c0.size ((g2 i b hb).2.1.resolve_left id)), ?_⟩
      rintro (hI | hI)
      · exact absurd (bd0 b hI) (by have := (g2 i b hb).2.1.resolve_left id; omega)
      · exact (g2 i b hb).2.2 hI
    · simp only [if_neg hi]
      intro hb
      refine ⟨Nat.lt_of_lt_of_le (k2 _ b hb).1 hx.size, (k2 _ b hb).2.1, ?_⟩
      rintro (hI | hI)
      · exact (k2 _ b hb).2.2 hI
      · rcases ini' b hI with h4 | h4 | h4
        · exact (k2 _ b hb).2.2 h4
        · exact h4
        · exact absurd (k2 _ b hb).1 (by omega)
  · intro i j b hij
    have new : ∀ i, Gs i b → w.heap.size ≤ b := fun i hb => (g2 i b hb).2.1.resolve_left id
    by_cases hi : i < M.length
    · simp only [if_pos hi]
      by_cases hj : j < M.length
      · simp only [if_pos hj]; exact g3 i j b hij
      · simp only [if_neg hj]
        intro hb hb'
        have := new i hb
        have := (k2 _ b hb').1
        omega
    · simp only [if_neg hi]
      by_cases hj : j < M.length
      · simp only [if_pos hj]
        intro hb' hb
        have := new j hb
        have := (k2 _ b hb').1
        omega
      · simp only [if_neg hj]; exact k3 _ _ b (by omega)
theorem Upd.ext {F : Fp} (u : Upd w No F w' h) : Ext w w' := by
  obtain ⟨F', I', _, _, _, _, h5⟩ := u
  exact h5.ext fun _ _ e => e
theorem Flat.cons {α : Type} {k : Kd α} {D : Fp} {x : α} {xs : List α} {cs cells : List Value} (h : k.rel w D x cs) (g : Flat k w D xs cells) : Flat k w D (x :: xs) (cs ++ cells) := (Flat.single h).append g
/-- a value that leads to nothing -/
theorem SH.any {F0 I0 : Fp} (s : SH F0 I0 w0 L w I) (h0 : h.sat w No I) : SH F0 I0 w0 (h :: L) w I := s.know h0
end
/-- the cells of a row's element, wherever the same is read -/
theorem ClE.sl {α : Type} {k : Kd α} {w : World} {D : Nat → Prop} {A : Option Addr} {xs : List α} (h : Sl k w D A xs) : ∀ x, ClE w.drew x → Sl k x D A xs := fun _ hx => h.below (w' := _) ⟨hx.os, hx.tape, hx.output, hx.size, hx.block⟩
end Go.Proofs.YtnmlonicfncpfaaGreat.X
namespace Go.Proofs.YtnmlonicfncpfaaGreat.X
open Go.RowKit
set_option linter.unusedVariables false
section
variable {F0 I0 F : Fp} {w0 w w' : World} {L l : List Ob} {I J : Fp} {h h' : Ob}
/-- several objects, apart from one another, as one -/
def Many (l : List Ob) : Ob := .of {
  sat := fun w F I => ∃ Fs : Nat → Fp, (∀ (i : Nat) (h : Ob), l[i]? = some h → h.sat w (Fs i) I) ∧ (∀ i b, Fs i b → F b) ∧ (∀ i j b, i ≠ j → Fs i b → Fs j b → False)
  keep := fun ⟨Fs, a, c, d⟩ hk => ⟨Fs, fun i h e => h.keep (a i h e) fun b hb hd => hk b hb (hd.imp (c i b) id), c, d⟩
  weak := fun {w F F' I I'} ⟨Fs, a, c, d⟩ hf hi hn => ⟨fun i x => Fs i x ∧ x < w.heap.size, fun i h e => h.weak (a i h e) (fun x hx h => ⟨h, hx⟩) hi (fun x h => hn x (hf x h.2 (c i x h.1))), fun i x h => hf x h.2 (c i x h.1), fun i j x hij h h' => d i j x hij h.1 h'.1⟩ }
theorem SH.openM (s : SH F0 I0 w0 (Many l :: L) w I) : SH F0 I0 w0 (l ++ L) w I := by
  obtain ⟨c, bd, ini, Fs, h1, h2, h3⟩ := s
  obtain ⟨Gs, g1, g2, g3⟩ := h1 0 _ rfl
  refine ⟨c, bd, ini, fun i => if i < l.length then Gs i else Fs (i - l.length + 1), fun i o e => ?_, fun i b hb => ?_, fun i j b hij hb hb' => ?_⟩
  · by_cases hi : i < l.length
    · simp only [if_pos hi]
      rw [List.getElem?_append_left hi] at e
      exact g1 i o e
    · simp only [if_neg hi]
      rw [List.getElem?_append_right (by omega)] at e
      exact h1 _ o (by simpa using e)
  · by_cases hi : i < l.length
    · simp only [if_pos hi] at hb; exact h2 0 b (g2 i b hb)
    · simp only [if_neg hi] at hb; exact h2 _ b hb
  · by_cases hi : i < l.length
    · simp only [if_pos hi] at hb
      by_cases hj : j < l.length
      · simp only [if_pos hj] at hb'; exact g3 i j b hij hb hb'
      · simp only [if_neg hj] at hb'; exact h3 0 _ b (by omega) (g2 i b hb) hb'
    · simp only [if_neg hi] at hb
      by_cases hj : j < l.length
      · simp only [if_pos hj] at hb'; exact h3 _ 0 b (by omega) hb (g2 j b hb')
      · simp only [if_neg hj] at hb'; exact h3 _ _ b (by omega) hb hb'
theorem SH.many (s : SH F0 I0 w0 L w I) (ix : List Nat) (hn : ix.Nodup) (e : l = ix.filterMap (fun i => L[i]?)) (hl : ∀ i ∈ ix, i < L.length) : SH F0 I0 w0 [Many l] w I := by
  have s' := s.sel ix hn e hl
  obtain ⟨c, bd, ini, Fs, h1, h2, h3⟩ := s'
  refine ⟨c, bd, ini, fun i b => i = 0 ∧ ∃ j, Fs j b, fun i o e => ?_, fun i b hb => ?_, fun i j b hij hb hb' => hij (hb.1.trans hb'.1.symm)⟩
  · rcases i with _ | i
    · simp at e
      subst e
      refine ⟨Fs, h1, fun j b hb => ⟨rfl, j, hb⟩, h3⟩
    · simp at e
  · obtain ⟨_, j, hj⟩ := hb
    exact h2 j b hj
/-- what a call has made of the object that it was handed -/
theorem SH.retU (s : SH F I w L w' J) (i : Nat) (e : L[i]? = some h) : Upd w F I w' h := s.retF i e
/-- a call that is handed one object -/
theorem SH.call1 (s : SH F0 I0 w0 L w I) (i : Nat) (e : L[i]? = some h) :
    ∃ F, (∀ b, I b → b < w.heap.size) ∧ SH F I w [h] w I ∧ ∀ (h' : Ob) (w' : World), Upd w F I w' h' → ∃ I', SH F0 I0 w0 (L.set i h') w' I' ∧ (∀ b, I b → I' b) := by
  obtain ⟨F, hF, hb, back⟩ := s.upd i e
  exact ⟨F, s.bd, SH.start1 hF (fun b h => (hb b h).1) s.bd (fun b h h' => (hb b h).2.2 h'), fun h' w' u => back w' h' u⟩
/-- a pointer that is nil, or leads to an object -/
def OrNil (p : Value) (h : Nat → Hp) : Ob := .of {
  sat := fun w F I => p = .pointer none ∨ ∃ g, p = .pointer (some ⟨g, 0, none⟩) ∧ (h g).sat w F I
  keep := fun a hk => a.imp id fun ⟨g, e, s⟩ => ⟨g, e, (h g).keep s hk⟩
  weak := fun a hf hi hn => a.imp id fun ⟨g, e, s⟩ => ⟨g, e, (h g).weak s hf hi hn⟩ }
end
end Go.Proofs.YtnmlonicfncpfaaGreat.X
