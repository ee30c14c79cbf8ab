/- A region that draws its order, walked once: quiet operations (loads, sums, addresses) and a row of others that wait for one another. -/
import Derived.Deep.Quiet
import Derived.OrdersHeld
import Derived.Tactics
import Derived.Below
namespace Go.Proofs.YtnmlonicfncpfaaGreat.X
open Go.RowKit
section
variable {P : Program} {ops : Array Oper} {Q : Exit → Act → World → Prop} {md : Region.Mode} {C : World → Prop}

/-- an operation that enters no function -/
def plainOp (o : Oper) : Bool :=
  match o.op with
  | .move _ | .assign _ | .pick .. | .load .. | .binOp .. | .unOp .. | .convert .. | .slice .. | .fieldAddr .. | .field .. | .indexAddr .. | .index .. | .extract .. | .build .. | .makeFunc .. | .lookup .. => true
  | .nilCheck _ => true
  | .call { callee := .builtin b, .. } => match b with | .len | .cap | .min | .max => true | _ => false
  | _ => false

theorem v_value {s : Sem Value} {w w' : World} {n : Next} (h : ((do pure (.value (← s)) : Sem Next)).run P w = .ok n w') : ∃ u, n = .value u := by
  rw [show (do pure (.value (← s)) : Sem Next) = (s >>= fun x => pure (Next.value x)) from rfl, Sem.run_bind] at h
  cases hs : s.run P w with
  | ok x w1 => rw [hs] at h; simp only [Result.andThen_ok, Sem.run_pure] at h; cases h; exact ⟨_, rfl⟩
  | halt x w1 => rw [hs] at h; simp at h

theorem plain_value {ρ : Operand → Value} {o : Oper} (hp : plainOp o = true) {w w' : World} {n : Next} (h : (execOp ρ o).run P w = .ok n w') : ∃ u, n = .value u := by
  unfold plainOp at hp
  unfold execOp at h
  split at hp <;> rename_i ho <;> (try simp only [ho] at h)
  case h_1 => simp only [Sem.run_pure] at h; cases h; exact ⟨_, rfl⟩
  case h_2 => simp only [Sem.run_pure] at h; cases h; exact ⟨_, rfl⟩
  case h_3 c a b => exact v_value (s := do pure (if ← asBool (ρ c) then ρ a else ρ b)) (by simpa [Sem.run_bind] using h)
  case h_17 x =>
    split at h
    · simp [go_sem] at h
    · simp [go_sem] at h
    · simp [go_sem] at h
    · split at h
      · simp [go_sem] at h
      · rename_i x1 nm fs cp hx1 x2 tt ww hx2
        simp only [Sem.run_bind] at h
        cases h1 : Sem.run P program w with
        | halt e w1 => rw [h1] at h; simp at h
        | ok pr w1 =>
          rw [h1] at h
          simp only [Result.andThen_ok] at h
          cases h2 : Sem.run P (nilAhead (pr.types.size + Made.depth) tt ww nm) w1 with
          | halt e w2 => rw [h2] at h; simp at h
          | ok b w2 =>
            rw [h2] at h
            simp only [Result.andThen_ok] at h
            split at h
            · simp [go_sem] at h
            · simp only [Sem.run_pure] at h; cases h; exact ⟨_, rfl⟩
      · simp only [Sem.run_pure] at h; cases h; exact ⟨_, rfl⟩
    · simp only [Sem.run_pure] at h; cases h; exact ⟨_, rfl⟩
  case h_18 =>
    simp only [resolve, invoke, Sem.run_bind, Sem.run_pure, Result.andThen_ok] at h
    split at hp
    · exact v_value h
    · exact v_value h
    · exact v_value h
    · exact v_value h
    · cases hp
  all_goals first | exact v_value h | (cases hp)

/-- What a walk in a class of worlds shows of such an operation: the same value in each of these worlds, which stays as it is. -/
theorem yieldsIf_of {o : Oper} (hp : plainOp o = true) {v : Value} {a : Act} (h : YieldsIn P ops C o v a) : YieldsIf P ops C o v a := by
  rcases h with ⟨hw, h⟩ | ⟨hw, rfl⟩
  · refine .inl ⟨hw, fun w hC => ?_⟩
    have := h w hC
    unfold Oper.quietAt at this
    cases hr : (execOp a.eval o).run P w with
    | halt x w' => rw [hr] at this; exact this.elim
    | ok n w' =>
      obtain ⟨u, rfl⟩ := plain_value hp hr
      rw [hr] at this
      obtain ⟨rfl, rfl⟩ := this
      rfl
  · exact .inr ⟨hw, rfl⟩

/-- whatever has come up, all that it waits for has come up -/
def Closed (md : Region.Mode) (ops : Array Oper) (listed : Array Bool) : Prop :=
  ∀ j oj, ops[j]? = some oj → listed.getD j false = true → ∀ e ∈ oj.after, Region.binds md e = true → listed.getD e.on false = true
theorem Closed.set {listed : Array Bool} {i : Nat} (h : Closed md ops listed) (hi : i ∈ Region.ready md ops listed) : Closed md ops (listed.setIfInBounds i true) := by
  obtain ⟨_, oi, hoi, hall⟩ := mem_ready.1 hi
  intro j oj hj hl e he hb
  by_cases hij : i = j
  · subst hij
    have : oj = oi := Option.some.inj (hj.symm.trans hoi)
    subst this
    exact getD_set_true (hall e he hb)
  · rw [getD_set_ne false hij] at hl
    exact getD_set_true (h j oj hj hl e he hb)
theorem Closed.start (n : Nat) : Closed md ops (Array.replicate n false) := by
  intro j oj hj hl
  exfalso
  rcases Nat.lt_or_ge j n with h | h
  · simp [h] at hl
  · simp [h] at hl

/-- what may come up while q has not -/
def noWait (md : Region.Mode) (q : Nat) : List Oper → List Bool → List Bool
  | [], acc => acc
  | o :: r, acc => noWait md q r (acc ++ [acc.length != q && o.after.all fun e => !Region.binds md e || acc.getD e.on false])
theorem noWait_len (q : Nat) : ∀ (l : List Oper) (acc : List Bool), (noWait md q l acc).length = acc.length + l.length
  | [], acc => by simp [noWait]
  | o :: r, acc => by rw [noWait, noWait_len q r]; simp; omega
theorem noWait_pre (q : Nat) : ∀ (l : List Oper) (acc : List Bool) (j : Nat), j < acc.length → (noWait md q l acc)[j]? = acc[j]?
  | [], acc, j, h => rfl
  | o :: r, acc, j, h => by rw [noWait, noWait_pre q r _ j (by simp; omega), List.getElem?_append_left h]
/-- forward: what binds lies ahead -/
def forward (md : Region.Mode) : List Oper → Nat → Bool
  | [], _ => true
  | o :: r, k => (o.after.all fun e => !Region.binds md e || decide (e.on < k)) && forward md r (k + 1)
theorem noWait_spec (q : Nat) (listed : Array Bool) (hcl : Closed md ops listed) (hq : listed.getD q false = false) :
    ∀ (l : List Oper) (acc : List Bool), (∀ j, l[j]? = ops[acc.length + j]?) → forward md l acc.length = true →
      (∀ j, j < acc.length → j ≠ q → (listed.getD j false = true ∨ j ∈ Region.ready md ops listed) → acc.getD j false = true) →
      ∀ j, j < acc.length + l.length → j ≠ q → (listed.getD j false = true ∨ j ∈ Region.ready md ops listed) → (noWait md q l acc).getD j false = true
  | [], acc, _, _, h, j, hj, hne, hl => by simpa [noWait] using h j (by simpa using hj) hne hl
  | o :: r, acc, hl, hf, h, j, hj, hne, hjl => by
    simp only [forward, Bool.and_eq_true] at hf
    rw [noWait]
    refine noWait_spec q listed hcl hq r _ (fun j => ?_) (by simpa using hf.2) (fun k hk hkq hkl => ?_) j (by simp at hj ⊢; omega) hne hjl
    · have := hl (j + 1)
      simpa [Nat.add_assoc, Nat.add_comm 1 j] using this
    · rcases Nat.lt_or_ge k acc.length with h1 | h1
      · have := h k h1 hkq hkl
        rw [List.getD_eq_getElem?_getD, List.getElem?_append_left h1, ← List.getD_eq_getElem?_getD]
        exact this
      · have hka : k = acc.length := by simp at hk; omega
        subst hka
        have ho : ops[acc.length]? = some o := by simpa using (hl 0).symm
        have hall : ∀ e ∈ o.after, Region.binds md e = true → listed.getD e.on false = true := by
          rcases hkl with h2 | h2
          · exact hcl _ _ ho h2
          · obtain ⟨_, o', ho', h3⟩ := mem_ready.1 h2
            rw [ho] at ho'
            cases ho'
            exact h3
        rw [List.getD_eq_getElem?_getD, List.getElem?_append_right (Nat.le_refl _)]
        simp only [Nat.sub_self, List.getElem?_cons_zero, Option.getD_some, Bool.and_eq_true, bne_iff_ne, ne_eq]
        refine ⟨hkq, ?_⟩
        rw [Array.all_eq_true_iff_forall_mem] at hf ⊢
        intro e he
        by_cases hb : Region.binds md e = true
        · have h4 := hf.1 e he
          simp only [hb, Bool.not_true, Bool.false_or, decide_eq_true_eq] at h4 ⊢
          have h5 := hall e he hb
          refine h e.on h4 (fun h6 => ?_) (.inl h5)
          rw [h6, hq] at h5
          cases h5
        · simp [hb]

/-- Whatever order is picked: what is free leaves the world as it is; what else is no breaker leaves a world of the class. -/
def wpAnyC (P : Program) (md : Region.Mode) (ops : Array Oper) (Q : Exit → Act → World → Prop) (F : Nat → Bool) (C : World → Prop) (brk : Nat → Bool) : Nat → Array Bool → Act → World → Prop
  | 0, listed, a, w => Region.ready md ops listed = [] ∧ Q .normal a w
  | fuel + 1, listed, a, w =>
    (Region.ready md ops listed = [] → Q .normal a w) ∧
    ∀ i ∈ Region.ready md ops listed, wpOp P ops Q i (fun a' w' => (F i = true → w' = w) ∧ (F i = false → brk i = false → C w') ∧ wpAnyC P md ops Q F C brk fuel (listed.setIfInBounds i true) a' w') a w
variable {brk F : Nat → Bool}
theorem wpAny_of_C : ∀ (fuel : Nat) (listed : Array Bool) (a : Act) (w : World), wpAnyC P md ops Q F C brk fuel listed a w → wpAny P md ops Q fuel listed a w
  | 0, _, _, _, h => h
  | fuel + 1, _, _, _, h => ⟨h.1, fun i hi => wpOp_mono (fun a' w' h' => wpAny_of_C fuel _ a' w' h'.2.2) (h.2 i hi)⟩
theorem wpAnyC_of {C' : World → Prop} {brk' : Nat → Bool} : ∀ (fuel : Nat) (listed : Array Bool) (a : Act) (w : World), (∀ i, listed.getD i true = false → brk i = true) → wpAnyC P md ops Q F C' brk' fuel listed a w → wpAnyC P md ops Q F C brk fuel listed a w
  | 0, _, _, _, _, h => h
  | fuel + 1, listed, _, _, hb, h => ⟨h.1, fun i hi => wpOp_mono (fun a' w' h' => ⟨h'.1, fun _ h0 => (by
      have := hb i (mem_ready.1 hi).1
      rw [h0] at this; cases this), wpAnyC_of fuel _ a' w' (fun j hj => hb j (by
      by_cases hij : i = j
      · subst hij; exact (mem_ready.1 hi).1
      · rwa [getD_set_ne true hij] at hj)) h'.2.2⟩) (h.2 i hi)⟩
theorem wpAnyC_mono {C' : World → Prop} (hc : ∀ x, C' x → C x) : ∀ (fuel : Nat) (listed : Array Bool) (a : Act) (w : World), wpAnyC P md ops Q F C' brk fuel listed a w → wpAnyC P md ops Q F C brk fuel listed a w
  | 0, _, _, _, h => h
  | fuel + 1, _, _, _, h => ⟨h.1, fun i hi => wpOp_mono (fun a' w' h' => ⟨h'.1, fun g0 h0 => hc _ (h'.2.1 g0 h0), wpAnyC_mono hc fuel _ a' w' h'.2.2⟩) (h.2 i hi)⟩

theorem getD_both' {listed : Array Bool} {i : Nat} (h : listed.getD i true = false) : listed.getD i false = false := by
  rcases Nat.lt_or_ge i listed.size with h' | h'
  · simp [h'] at h ⊢; exact h
  · simp [Array.getElem?_eq_none h'] at h
/-- **A quiet operation may be taken first**: in a class D of worlds, if what may come ahead of it keeps D. -/
theorem wpAnyC_first {D : World → Prop} {i : Nat} {oi : Oper} {v : Value} (hi : ops[i]? = some oi) (hsel : ∀ (j : Nat) (o : Oper) cs b, ops[j]? = some o → o.op ≠ .select cs b)
    (hQ : ∀ c a w, Q (.panic c) (a.put oi.dst v) w → Q (.panic c) a w)
    (hbrk : ∀ listed, Closed md ops listed → listed.getD i false = false → ∀ j ∈ Region.ready md ops listed, j ≠ i → ∀ w w', D w → (F j = true → w' = w) → (F j = false → brk j = false → C w') → D w')
    (hCi : ∀ w, D w → F i = false → C w) :
    ∀ (fuel : Nat) (listed : Array Bool) (a : Act) (w : World), Closed md ops listed →
      (∀ j oj, ops[j]? = some oj → j ≠ i → listed.getD j true = false → (∀ e ∈ oj.after, Region.binds md e = true → e.on ≠ i) → oi.apart ops oj = true) →
      i ∈ Region.ready md ops listed → YieldsIf P ops D oi v a → D w →
      wpAnyC P md ops Q F C brk fuel (listed.setIfInBounds i true) (a.put oi.dst v) w → wpAnyC P md ops Q F C brk (fuel + 1) listed a w := by
  intro fuel
  induction fuel with
  | zero =>
    intro listed a w hcl _ hr hy hC H
    refine ⟨fun h => (by rw [h] at hr; cases hr), fun j hj => ?_⟩
    by_cases hji : j = i
    · subst hji; exact hy.wpOp hi hC ⟨fun _ => rfl, fun hf _ => hCi w hC hf, H⟩
    · have := ready_mono hj hji
      rw [H.1] at this
      cases this
  | succ fuel ih =>
    intro listed a w hcl hfree hr hy hC H
    refine ⟨fun h => (by rw [h] at hr; cases hr), fun j hj => ?_⟩
    by_cases hji : j = i
    · subst hji; exact hy.wpOp hi hC ⟨fun _ => rfl, fun hf _ => hCi w hC hf, H⟩
    · have h1 := H.2 j (ready_mono hj hji)
      obtain ⟨hjun, oj, hoj, hall⟩ := mem_ready.1 hj
      have hiun : listed.getD i false = false := getD_both' (mem_ready.1 hr).1
      have hnot : ∀ e ∈ oj.after, Region.binds md e = true → e.on ≠ i := fun e he hb heq => by
        have h1 := hall e he hb
        rw [heq, hiun] at h1
        cases h1
      have h2 := wpOp_putIf hoj (hfree j oj hoj hji hjun hnot) (fun cs b => hsel i oi cs b hi) (fun cs b => hsel j oj cs b hoj) hQ hy h1
      have hfree' : ∀ k ok, ops[k]? = some ok → k ≠ i → (listed.setIfInBounds j true).getD k true = false →
          (∀ e ∈ ok.after, Region.binds md e = true → e.on ≠ i) → oi.apart ops ok = true := fun k ok hk hki hun hno => by
        refine hfree k ok hk hki ?_ hno
        by_cases hjk : j = k
        · subst hjk; exact hjun
        · rw [getD_set_ne true hjk] at hun; exact hun
      refine wpOp_mono (fun a' w' h3 => ⟨h3.2.1, h3.2.2.1, ih (listed.setIfInBounds j true) a' w' (hcl.set hj) hfree' (ready_mono hr (Ne.symm hji)) h3.1 (hbrk listed hcl hiun j hj hji w w' hC h3.2.1 h3.2.2.1) ?_⟩) h2
      rw [Array.setIfInBounds_comm _ _ hji]
      exact h3.2.2.2

/-! ### The walk: pieces -/
/-- a piece: operations that are quiet in the class, then such as are quiet in every world, then one that is neither ('flag': the class is to be kept behind it) -/
structure Piece where
  qs : List Nat
  fs : List Nat
  s : Nat
  flag : Bool
/-- a row of quiet operations may come up one behind the other -/
def quietsB (md : Region.Mode) (ops : Array Oper) : List Nat → Array Bool → Bool
  | [], _ => true
  | q :: r, listed => (Region.ready md ops listed).contains q && Region.free md ops listed q && ((ops[q]?).map plainOp).getD false && quietsB md ops r (listed.setIfInBounds q true)
def listAll (listed : Array Bool) (l : List Nat) : Array Bool := l.foldl (fun s q => s.setIfInBounds q true) listed
/-- what has not come up waits for q -/
def waitsB (md : Region.Mode) (ops : Array Oper) (listed : Array Bool) (q : Nat) : Bool :=
  (List.range ops.size).all fun j => listed.getD j true || !(noWait md q ops.toList []).getD j false
def piecesB (md : Region.Mode) (ops : Array Oper) (fr : List Nat) (last : List Nat) : List Nat → List Piece → Array Bool → Bool
  | _, [], listed => quietsB md ops last listed && (Region.ready md ops (listAll listed last)).isEmpty && last.all fun q => !fr.contains q
  | alive, p :: r, listed =>
    quietsB md ops p.qs listed && (p.qs.all fun q => !fr.contains q) && quietsB md ops p.fs (listAll listed p.qs) && (p.fs.all fun q => fr.contains q) && !fr.contains p.s &&
      decide (Region.ready md ops (listAll (listAll listed p.qs) p.fs) = [p.s]) && (p.flag || (alive ++ p.qs).all (waitsB md ops (listAll (listAll listed p.qs) p.fs))) &&
      piecesB md ops fr last (if p.flag then alive ++ p.qs else []) r ((listAll (listAll listed p.qs) p.fs).setIfInBounds p.s true)
/-- the breakers of a row of pieces: all from the first unflagged one on -/
def brkOf : List Piece → Array Bool → Nat → Bool
  | [], _ => fun _ => false
  | p :: r, listed => if p.flag then brkOf r ((listAll (listAll listed p.qs) p.fs).setIfInBounds p.s true) else fun j => !(listAll (listAll listed p.qs) p.fs).getD j true

/-- the operations of a row of numbers -/
def opsAt (l : List Oper) : List Nat → List Oper
  | [] => []
  | q :: r => l.getD q default :: opsAt l r
/-- the walk of the pieces: the class is 'all that was there is as it was' -/
def wpMix (P : Program) (l : List Oper) (Q : Exit → Act → World → Prop) (Cl : World → World → Prop) (last : List Nat) : List Piece → Act → World → Prop
  | [], a, w => wpQuiet P l.toArray (fun x => Cl w x) (fun a' => Q .normal a' w) (opsAt l last) a
  | p :: r, a, w => wpQuiet P l.toArray (fun x => Cl w x) (fun a1 => wpQuiet P l.toArray (fun _ => True) (fun a' =>
      wpList P l.toArray (Exit.then (fun a2 w2 => (p.flag = true → Cl w w2) ∧ wpMix P l Q Cl last r a2 w2) Q) (opsAt l [p.s]) a' w) (opsAt l p.fs) a1) (opsAt l p.qs) a

theorem wpOp_of_list {K : Act → World → Prop} {o : Oper} {i : Nat} {a : Act} {w : World} (ho : ops[i]? = some o) (h : wpList P ops (Exit.then K Q) [o] a w) : wpOp P ops Q i K a w := by
  unfold wpOp
  simp only [ho]
  simp only [wpList] at h
  have hlet : LetsOut (Exit.then K Q) → LetsOut Q := id
  split
  · rename_i hw
    rw [if_pos hw] at h
    rcases h with h | ⟨h1, h2⟩
    · refine .inl ?_
      unfold Oper.wp at *
      generalize (execOp a.eval o).run P w = r at *
      cases r with
      | ok n w' => cases n <;> simp only [Oper.upon] at h ⊢ <;> exact h
      | halt x w' => cases x <;> simp only [Oper.upon] at h ⊢ <;> exact h
    · exact .inr ⟨h1, hlet h2⟩
  · rename_i hw
    rw [if_neg hw] at h
    exact h

theorem mix_quiets (hs : Region.noSelect ops = true) (hQ : ∀ o v c a w, Q (.panic c) (Act.put a o v) w → Q (.panic c) a w) {D : World → Prop} {w : World} {R : Act → Prop} (hC : D w) {g : Nat} {listed' : Array Bool}
    (hR : ∀ a, R a → wpAnyC P md ops Q F C brk g listed' a w) : ∀ (qs : List Nat) (listed : Array Bool) (a : Act), Closed md ops listed → quietsB md ops qs listed = true → listAll listed qs = listed' →
      (∀ q ∈ qs, (∀ L, Closed md ops L → L.getD q false = false → ∀ j ∈ Region.ready md ops L, j ≠ q → ∀ w w', D w → (F j = true → w' = w) → (F j = false → brk j = false → C w') → D w') ∧ (∀ w, D w → F q = false → C w)) →
      wpQuiet P ops D R (opsAt ops.toList qs) a → wpAnyC P md ops Q F C brk (qs.length + g) listed a w
  | [], listed, a, _, _, hl, _, h => by
    simp only [listAll, List.foldl_nil] at hl
    subst hl
    simpa using hR a h
  | q :: r, listed, a, hcl, hB, hl, hbk, h => by
    simp only [quietsB, Bool.and_eq_true] at hB
    obtain ⟨⟨⟨hr, hf⟩, hp⟩, hB'⟩ := hB
    have hr' : q ∈ Region.ready md ops listed := by simpa using hr
    cases hoq : ops[q]? with
    | none => rw [hoq] at hp; cases hp
    | some oq =>
      rw [hoq] at hp
      have hoq' : ops.toList[q]? = some oq := by simpa using hoq
      have hoq2 : ops.toList.getD q default = oq := by rw [List.getD_eq_getElem?_getD, hoq']; rfl
      simp only [opsAt, hoq2] at h
      have hst : qOp P ops D q (wpQuiet P ops D R (opsAt ops.toList r)) a := by unfold qOp; simp only [hoq]; exact h
      obtain ⟨v, hy, hK⟩ := yieldsIn_of_qOp hoq hst
      have := mix_quiets hs hQ hC hR r (listed.setIfInBounds q true) (a.put oq.dst v) (hcl.set hr') hB' (by simpa [listAll] using hl) (fun q' hq' => hbk q' (List.mem_cons_of_mem _ hq')) hK
      rw [List.length_cons, show r.length + 1 + g = (r.length + g) + 1 by omega]
      exact wpAnyC_first hoq (Region.noSelect_spec hs) (hQ _ v) (hbk q List.mem_cons_self).1 (hbk q List.mem_cons_self).2 _ listed a w hcl (Region.free_spec hoq hf) hr' (yieldsIf_of hp hy) hC this

theorem closed_all : ∀ (qs : List Nat) (listed : Array Bool), Closed md ops listed → quietsB md ops qs listed = true → Closed md ops (listAll listed qs)
  | [], _, h, _ => h
  | q :: r, listed, h, hB => by
    simp only [quietsB, Bool.and_eq_true] at hB
    have := closed_all r (listed.setIfInBounds q true) (h.set (by simpa using hB.1.1.1)) hB.2
    simpa [listAll] using this

def fuelOf (last : List Nat) : List Piece → Nat
  | [] => last.length
  | p :: r => p.qs.length + (p.fs.length + (fuelOf last r + 1))

theorem waits_spec (hfw : forward md ops.toList 0 = true) {listed : Array Bool} {q : Nat} (h : waitsB md ops listed q = true) (L : Array Bool) (hL : Closed md ops L) (hq : L.getD q false = false) (j : Nat) (hj : j ∈ Region.ready md ops L) (hne : j ≠ q) :
    listed.getD j true = true := by
  have hlt : j < ops.size := by obtain ⟨_, o, ho, _⟩ := mem_ready.1 hj; exact (Array.getElem?_eq_some_iff.1 ho).1
  have h1 := List.all_eq_true.1 h j (List.mem_range.2 hlt)
  have h2 := noWait_spec (md := md) (ops := ops) q L hL hq ops.toList [] (by simp) hfw (fun k hk => absurd hk (Nat.not_lt_zero k)) j (by simpa using hlt) hne (.inr hj)
  simp only [h2, Bool.not_true, Bool.or_false] at h1
  exact h1

theorem alive_ok (fr : List Nat) (hfw : forward md ops.toList 0 = true) (last : List Nat) : ∀ (ps : List Piece) (alive : List Nat) (listed : Array Bool), Closed md ops listed → piecesB md ops fr last alive ps listed = true →
    ∀ q ∈ alive, ∀ L, Closed md ops L → L.getD q false = false → ∀ j ∈ Region.ready md ops L, j ≠ q → brkOf ps listed j = false
  | [], _, _, _, _ => fun _ _ _ _ _ _ _ _ => rfl
  | p :: r, alive, listed, hcl, hB => by
    simp only [piecesB, Bool.and_eq_true, decide_eq_true_eq] at hB
    obtain ⟨⟨⟨⟨⟨⟨⟨hq, _⟩, hq2⟩, _⟩, _⟩, hr⟩, hfl⟩, hB'⟩ := hB
    have hcl1 := closed_all p.fs _ (closed_all p.qs listed hcl hq) hq2
    have hsr : p.s ∈ Region.ready md ops (listAll (listAll listed p.qs) p.fs) := by rw [hr]; exact List.mem_singleton.2 rfl
    cases hf : p.flag with
    | true =>
      rw [hf, if_pos rfl] at hB'
      have hbe : brkOf (p :: r) listed = brkOf r ((listAll (listAll listed p.qs) p.fs).setIfInBounds p.s true) := by simp [brkOf, hf]
      rw [hbe]
      exact fun q hq' => alive_ok fr hfw last r (alive ++ p.qs) _ (hcl1.set hsr) hB' q (List.mem_append_left _ hq')
    | false =>
      have hbe : brkOf (p :: r) listed = fun j => !(listAll (listAll listed p.qs) p.fs).getD j true := by simp [brkOf, hf]
      rw [hf] at hfl
      rw [hbe]
      simp only [Bool.false_or, List.all_eq_true] at hfl
      intro q hq' L hL hqL j hj hne
      simpa using waits_spec hfw (hfl q (List.mem_append_left _ hq')) L hL hqL j hj hne

theorem wpMix_any {l : List Oper} {Cl : World → World → Prop} (hrf : ∀ w, Cl w w) (htr : ∀ a b c, Cl a b → Cl b c → Cl a c) (fr : List Nat) (hs : Region.noSelect l.toArray = true) (hfw : forward md l 0 = true) (hQ : ∀ o v c a w, Q (.panic c) (Act.put a o v) w → Q (.panic c) a w) (last : List Nat) :
    ∀ (ps : List Piece) (alive : List Nat) (listed : Array Bool) (a : Act) (w : World), Closed md l.toArray listed → piecesB md l.toArray fr last alive ps listed = true →
      wpMix P l Q Cl last ps a w → wpAnyC P md l.toArray Q fr.contains (fun x => Cl w x) (brkOf ps listed) (fuelOf last ps) listed a w
  | [], alive, listed, a, w, hcl, hB, h => by
    simp only [piecesB, Bool.and_eq_true, List.isEmpty_iff, List.all_eq_true, Bool.not_eq_true'] at hB
    refine mix_quiets (D := fun x => Cl w x) (g := 0) hs hQ (hrf _) (fun a' h' => ⟨hB.1.2, h'⟩) last listed a hcl hB.1.1 rfl (fun q hq => ⟨fun L hL hqL j hj hne w1 w2 h1 h2 h3 => ?_, fun _ hd _ => hd⟩) h
    cases hF : fr.contains j with
    | true => rw [h2 hF]; exact h1
    | false => exact h3 hF rfl
  | p :: r, alive, listed, a, w, hcl, hB, h => by
    have hB0 := hB
    simp only [piecesB, Bool.and_eq_true, decide_eq_true_eq] at hB
    obtain ⟨⟨⟨⟨⟨⟨⟨hq, hqF⟩, hq2⟩, hfF⟩, hsF⟩, hr⟩, hfl⟩, hB'⟩ := hB
    simp only [List.all_eq_true, Bool.not_eq_true'] at hqF hfF hsF
    have hcl0 := closed_all p.qs listed hcl hq
    have hcl1 := closed_all p.fs _ hcl0 hq2
    have hsr : p.s ∈ Region.ready md l.toArray (listAll (listAll listed p.qs) p.fs) := by rw [hr]; exact List.mem_singleton.2 rfl
    have hcl2 := hcl1.set hsr
    have hfw' : forward md l.toArray.toList 0 = true := by simpa using hfw
    have key : (∀ q ∈ p.qs, ∀ L, Closed md l.toArray L → L.getD q false = false → ∀ j ∈ Region.ready md l.toArray L, j ≠ q → brkOf (p :: r) listed j = false) ∧
        (∀ a', wpList P l.toArray (Exit.then (fun a2 w2 => (p.flag = true → Cl w w2) ∧ wpMix P l Q Cl last r a2 w2) Q) (opsAt l [p.s]) a' w →
          wpAnyC P md l.toArray Q fr.contains (fun x => Cl w x) (brkOf (p :: r) listed) (fuelOf last r + 1) (listAll (listAll listed p.qs) p.fs) a' w) := by
      obtain ⟨_, os, hos, _⟩ := mem_ready.1 hsr
      have hos' : l[p.s]? = some os := by simpa using hos
      have hop : opsAt l [p.s] = [os] := by simp only [opsAt, List.getD_eq_getElem?_getD, hos']; rfl
      cases hf : p.flag with
      | true =>
        rw [hf, if_pos rfl] at hB'
        have hbe : brkOf (p :: r) listed = brkOf r ((listAll (listAll listed p.qs) p.fs).setIfInBounds p.s true) := by simp [brkOf, hf]
        rw [hbe]
        refine ⟨fun q hq' => alive_ok fr hfw' last r (alive ++ p.qs) _ hcl2 hB' q (List.mem_append_right _ hq'), ?_⟩
        intro a' ha'
        refine ⟨fun h0 => (by rw [hr] at h0; cases h0), fun i hi => ?_⟩
        rw [hr, List.mem_singleton] at hi
        subst hi
        rw [hop] at ha'
        refine wpOp_mono (fun a2 w2 ⟨hk, hm⟩ => ?_) (wpOp_of_list hos ha')
        have hk' := hk rfl
        have := wpMix_any hrf htr fr hs hfw hQ last r (alive ++ p.qs) _ a2 w2 hcl2 hB' hm
        exact ⟨fun h0 => (by rw [hsF] at h0; cases h0), fun _ _ => hk', wpAnyC_mono (fun x hx => htr _ _ _ hk' hx) _ _ _ _ this⟩
      | false =>
        have hbe : brkOf (p :: r) listed = fun j => !(listAll (listAll listed p.qs) p.fs).getD j true := by simp [brkOf, hf]
        rw [hf] at hfl hB'
        rw [hbe]
        simp only [Bool.false_or, List.all_eq_true] at hfl
        refine ⟨fun q hq' L hL hqL j hj hne => ?_, ?_⟩
        · simpa using waits_spec hfw' (hfl q (List.mem_append_right _ hq')) L hL hqL j hj hne
        · intro a' ha'
          refine ⟨fun h0 => (by rw [hr] at h0; cases h0), fun i hi => ?_⟩
          rw [hr, List.mem_singleton] at hi
          subst hi
          rw [hop] at ha'
          refine wpOp_mono (fun a2 w2 ⟨_, hm⟩ => ?_) (wpOp_of_list hos ha')
          have := wpMix_any hrf htr fr hs hfw hQ last r [] _ a2 w2 hcl2 (by simpa using hB') hm
          refine ⟨fun h0 => (by rw [hsF] at h0; cases h0), fun _ h0 => ?_, wpAnyC_of _ _ _ _ (fun i hi => ?_) this⟩
          · have := (mem_ready.1 hsr).1
            simp only [this] at h0
            cases h0
          · have : (listAll (listAll listed p.qs) p.fs).getD i true = false := by
              by_cases hij : p.s = i
              · subst hij; exact (mem_ready.1 hsr).1
              · rwa [getD_set_ne true hij] at hi
            simp only [this, Bool.not_false]
    refine mix_quiets (D := fun x => Cl w x) hs hQ (hrf _) (fun a1 h1 => ?_) p.qs listed a hcl hq rfl (fun q hq' => ⟨fun L hL hqL j hj hne w1 w2 h1 h2 h3 => ?_, fun _ hd _ => hd⟩) h
    · exact mix_quiets (D := fun _ => True) hs hQ trivial key.2 p.fs _ a1 hcl0 hq2 rfl (fun q hq' => ⟨fun _ _ _ _ _ _ _ _ _ _ _ => trivial, fun _ _ h0 => by rw [hfF q hq'] at h0; cases h0⟩) h1
    · have hb := key.1 q hq' L hL hqL j hj hne
      cases hF : fr.contains j with
      | true => rw [h2 hF]; exact h1
      | false => exact h3 hF hb

/-- a post that lets no panic by -/
def calmQ (Q : Exit → Act → World → Prop) : Exit → Act → World → Prop
  | .normal, a, w => Q .normal a w
  | .outgrown, a, w => Q .outgrown a w
  | _, _, _ => False
/-- the static part -/
def mixB (l : List Oper) (ps : List Piece) (last : List Nat) : Bool :=
  Region.noSelect l.toArray && forward .any l 0 && piecesB .any l.toArray (ps.flatMap (·.fs)) last [] ps (Array.replicate l.toArray.size false) && decide (fuelOf last ps = l.toArray.size)
/-- **A region that draws its order, by pieces.** 'Cl': what is kept of a world. -/
theorem wp_region_mix {id : Nat} {a : Act} {w : World} {l : List Oper} (Cl : World → World → Prop) (hrf : ∀ w, Cl w w) (htr : ∀ a b c, Cl a b → Cl b c → Cl a c) (ps : List Piece) (last : List Nat) (hm : P.follows .mixedOrders = true) (hB : mixB l ps last = true)
    (h : wpMix P l (calmQ Q) Cl last ps a w.drew) : (Code.region id l.toArray true).wp P Q a w := by
  simp only [mixB, Bool.and_eq_true, decide_eq_true_eq] at hB
  obtain ⟨⟨⟨h1, h2⟩, h3⟩, h4⟩ := hB
  have hcalm : ∀ e a w, calmQ Q e a w → Q e a w := by
    intro e a w h
    cases e <;> first | exact h | exact h.elim
  refine Code.wp_mono hcalm (wp_region_any hm ?_)
  have := wpMix_any hrf htr (ps.flatMap (·.fs)) h1 h2 (Q := calmQ Q) (fun _ _ _ _ _ h => h) last ps [] _ a w.drew (Closed.start _) h3 h
  rw [h4] at this
  exact wpAny_of_C _ _ _ _ this
/-- the next piece -/
theorem mix_cons {Cl : World → World → Prop} {p : Piece} {r : List Piece} {last : List Nat} {l ql fl ol : List Oper} {a : Act} {w : World} (h1 : opsAt l p.qs = ql) (h2 : opsAt l p.fs = fl) (h3 : opsAt l [p.s] = ol)
    (h : wpQuiet P l.toArray (fun x => Cl w x) (fun a1 => wpQuiet P l.toArray (fun _ => True) (fun a' =>
      wpList P l.toArray (Exit.then (fun a2 w2 => (p.flag = true → Cl w w2) ∧ wpMix P l Q Cl last r a2 w2) Q) ol a' w) fl a1) ql a) : wpMix P l Q Cl last (p :: r) a w := by
  subst h1; subst h2; subst h3; exact h
theorem mix_last {Cl : World → World → Prop} {last : List Nat} {l ql : List Oper} {a : Act} {w : World} (h1 : opsAt l last = ql)
    (h : wpQuiet P l.toArray (fun x => Cl w x) (fun a' => Q .normal a' w) ql a) : wpMix P l Q Cl last [] a w := by
  subst h1; exact h
theorem mix_done {Cl : World → World → Prop} {l : List Oper} {a : Act} {w : World} (h : Q .normal a w) : wpMix P l Q Cl [] [] a w := h
/-- the class: all that was there is as it was -/
def ClE (w x : World) : Prop := Below w.heap.size w x
/-- the class: these cells are as they were -/
def ClA (L : List Addr) (w x : World) : Prop := ∀ a ∈ L, x.cell? a = w.cell? a
theorem wp_region_ext {id : Nat} {a : Act} {w : World} {l : List Oper} (ps : List Piece) (last : List Nat) (hm : P.follows .mixedOrders = true) (hB : mixB l ps last = true)
    (h : wpMix P l (calmQ Q) ClE last ps a w.drew) : (Code.region id l.toArray true).wp P Q a w :=
  wp_region_mix ClE (fun _ => Below.refl _ _) (fun _ _ _ h g => Below.trans h (g.mono h.size)) ps last hm hB h
theorem wp_region_at {id : Nat} {a : Act} {w : World} {l : List Oper} (L : List Addr) (ps : List Piece) (last : List Nat) (hm : P.follows .mixedOrders = true) (hB : mixB l ps last = true)
    (h : wpMix P l (calmQ Q) (ClA L) last ps a w.drew) : (Code.region id l.toArray true).wp P Q a w :=
  wp_region_mix (ClA L) (fun _ _ _ => rfl) (fun _ _ _ h g a ha => (g a ha).trans (h a ha)) ps last hm hB h
theorem ClE.cell {w : World} {a : Addr} {v : Value} (h : w.cell? a = some v) : ∀ x, ClE w x → x.cell? a = some v := fun _ hx => (Below.cell hx (World.block_lt_of_cell? w a h)).trans h
theorem ClA.cell {L : List Addr} {w : World} {a : Addr} {v : Value} (h : w.cell? a = some v) (ha : a ∈ L) : ∀ x, ClA L w x → x.cell? a = some v := fun _ hx => (hx a ha).trans h
end
end Go.Proofs.YtnmlonicfncpfaaGreat.X
