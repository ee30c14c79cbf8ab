/- A range over a function, by objects apart. -/
import Derived.Test.YtnmlonicfncpfaaGreatSep3
import Derived.RangeFuncNested
import Derived.TacticsInMore
import Derived.OwnWalkIn
import Derived.LoopNIn
import Derived.LoopIn
namespace Go.Proofs.YtnmlonicfncpfaaGreat.X
open Go.RowKit
set_option linter.unusedVariables false
/-- a block of book-keeping -/
def Rec (b : Nat) (o : Obj) : Ob := .of {
  sat := fun w F _ => w.heap[b]? = some o ∧ F b
  keep := fun ⟨h, f⟩ hk => ⟨(hk b (lt_of_heap h) (.inl f)).trans h, f⟩
  weak := fun ⟨h, f⟩ hf _ _ => ⟨h, hf b (lt_of_heap h) f⟩ }
/-- an iterator's word: it hands xs, one by one, to its caller's round; E: its own steps; Kp: what a round keeps; St: where it begins -/
def Gives {α : Type} (P : Program) (g : Nat) (lb : Array Value) (encs : α → Array Value) (E Kp : World → World → Prop) (St : World → Prop) (xs : List α) : Prop :=
  ∀ (l : Nat) (J Jx : List α → World → Prop),
    (∀ pre A B, J pre A → E A B → J pre B) → (∀ pre A B, Jx pre A → E A B → Jx pre B) →
    (∀ pre x W, (pre ++ [x]) <+: xs → J pre W → YieldAt Fence.wide 7 P l (encs x) W fun e W' => (e = .returned (.bool true) ∧ J (pre ++ [x]) W' ∧ Kp W W') ∨ (e = .returned (.bool false) ∧ Jx (pre ++ [x]) W')) →
    ∀ W, St W → J [] W → CallsIn Fence.wide 8 P g (#[.func (.yield l) #[] #[]] ++ lb) W fun e W' => (∃ v, e = .returned v) ∧ (J xs W' ∨ ∃ pre, pre <+: xs ∧ Jx pre W')
section
variable {P : Program} {F0 I0 : Fp} {w0 w w' : World} {L : List Ob} {I : Fp}
theorem SH.recd (s : SH F0 I0 w0 L w I) (i : Nat) {b : Nat} {o : Obj} (e : L[i]? = some (Rec b o)) : w.heap[b]? = some o := by
  obtain ⟨F, ⟨h, _⟩, _⟩ := s.get i e
  exact h
theorem SH.tl {o : Ob} (s : SH F0 I0 w0 (o :: L) w I) : SH F0 I0 w0 L w I := by
  obtain ⟨c, bd, ini, Fs, h1, h2, h3⟩ := s
  exact ⟨c, bd, ini, fun i => Fs (i + 1), fun i h e => h1 (i + 1) h (by simpa using e), fun i b hb => h2 _ b hb, fun i j b hij hb hb' => h3 _ _ b (by omega) hb hb'⟩
theorem Chg.putObj {b : Nat} {o : Obj} : Chg (fun k => k = b) w (w.putObj b o) := ⟨rfl, rfl, rfl, by simp, fun k _ hn => World.putObj_heap_other hn⟩
theorem SH.putRec (s : SH F0 I0 w0 L w I) (i : Nat) {b : Nat} {o : Obj} (e : L[i]? = some (Rec b o)) (o' : Obj) : SH F0 I0 w0 (L.set i (Rec b o')) (w.putObj b o') I :=
  s.updI i e fun F ⟨hh, hf⟩ hb => ⟨F, ⟨World.putObj_heap_same (lt_of_heap hh), hf⟩, fun k hk => ⟨by simpa using (hb k hk).1, .inl hk⟩, Chg.putObj.mono fun k _ e => by rw [show k = b from e]; exact hf⟩
theorem SH.newRec (s : SH F0 I0 w0 L w I) (o : Obj) : SH F0 I0 w0 (Rec w.heap.size o :: L) (w.alloc o) I := by
  have nul : SH F0 I0 w0 ((.of ⟨fun _ _ _ => True, fun _ _ => trivial, fun _ _ _ _ => trivial⟩) :: L) w I := s.know (h := .of ⟨fun _ _ _ => True, fun _ _ => trivial, fun _ _ _ _ => trivial⟩) trivial
  exact nul.updI (h' := Rec w.heap.size o) (w' := w.alloc o) 0 rfl fun F _ hF => ⟨fun b => b = w.heap.size, ⟨World.alloc_heap_new w o, rfl⟩, fun b hb => ⟨by rw [show b = w.heap.size from hb]; simp, .inr (Nat.le_of_eq (Eq.symm hb))⟩, Chg.of_ext (Ext.alloc w o)⟩
/-- how a round may be left -/
def rpost (F0 I0 : Fp) (w0 : World) (o1 o2 : Ob) (N : List Ob → Fp → Prop) (Nx : Code → List Ob → Fp → Prop) (K : World → Prop) : Exit → Act → World → Prop
  | .normal, _, W => ∃ L I, N L I ∧ SH F0 I0 w0 (o1 :: o2 :: L) W I ∧ K W
  | .ret, _, W => ∃ L I, Nx .ret L I ∧ SH F0 I0 w0 (o1 :: o2 :: L) W I
  | .exit id, _, W => ∃ L I, Nx (.exit id) L I ∧ SH F0 I0 w0 (o1 :: o2 :: L) W I
  | .goto t, _, W => ∃ L I, Nx (.goto t) L I ∧ SH F0 I0 w0 (o1 :: o2 :: L) W I
  | .panic _, _, _ => False
  | .outgrown, _, _ => False
/-- the statement -/
theorem SH.range {α : Type} (S : SH F0 I0 w0 L w I) {g : Operand} {ps : Array Tmp} {assign body : Code} {Q : Exit → Act → World → Prop} {a : Act} {gf : Nat} {lb : Array Value}
    (hg : a.eval g = .func (.func gf) #[] lb) (eg : ∀ args w, (callFunc gf args).run P w = .ok (.enter gf args) w)
    {encs : α → Array Value} {E Kp : World → World → Prop} {St : World → Prop} {xs : List α} (G : Gives P gf lb encs E Kp St xs) (hps : ∀ x, (encs x).size = ps.size)
    (M : List α → List Ob → Fp → Prop) (Mx : Code → List Ob → Fp → Prop) (h0 : M [] L I)
    (hSt : ∀ W o1 o2, Ext w W → SH F0 I0 w0 (o1 :: o2 :: L) W I → St W)
    (hE : ∀ pre L' I' A B o1 o2, M pre L' I' → SH F0 I0 w0 (o1 :: o2 :: L') A I' → E A B → ∃ L'' I'', M pre L'' I'' ∧ SH F0 I0 w0 (o1 :: o2 :: L'') B I'')
    (hEx : ∀ c L' I' A B o1 o2, Mx c L' I' → SH F0 I0 w0 (o1 :: o2 :: L') A I' → E A B → ∃ L'' I'', Mx c L'' I'' ∧ SH F0 I0 w0 (o1 :: o2 :: L'') B I'')
    (hround : ∀ (l D : Nat) (r1 r2 : Obj) (pre : List α) (x : α) (L' : List Ob) (I' : Fp) (W : World), (pre ++ [x]) <+: xs → M pre L' I' → SH F0 I0 w0 (Rec l r1 :: Rec D (.deferred (some [])) :: L') W I' →
      assign.wpIn (Fence.wide.inRound l) 7 P (Exit.then (fun a1 W1 => ∃ L1 I1, SH F0 I0 w0 (Rec l r1 :: Rec D (.deferred (some [])) :: L1) W1 I1 ∧
        ∀ W2, Chg (fun k => k = l) W1 W2 → SH F0 I0 w0 (Rec l r2 :: Rec D (.deferred (some [])) :: L1) W2 I1 → body.wpIn (Fence.wide.inRound l) 7 P
          (rpost F0 I0 w0 (Rec l r2) (Rec D (.deferred (some []))) (M (pre ++ [x])) Mx (fun W3 => ∀ W4 L4 I4, M (pre ++ [x]) L4 I4 → Chg (fun k => k = l) W3 W4 → SH F0 I0 w0 (Rec l r1 :: Rec D (.deferred (some [])) :: L4) W4 I4 → Kp W W4)) a1 W2) (fun _ _ _ => False))
        { tmps := (ps.zip (encs x)).foldl (fun t (p, v) => t.setIfInBounds p v) a.tmps, defers := [] } W)
    (hdone : ∀ (D : Nat) (L' : List Ob) (I' : Fp) (W : World), M xs L' I' → SH F0 I0 w0 (Rec D (.deferred (some [])) :: L') W I' → Q .normal { a with defers := { target := .collected D, args := #[] } :: a.defers } W)
    (hstop : ∀ (D : Nat) (c : Code) (L' : List Ob) (I' : Fp) (W : World), Mx c L' I' → SH F0 I0 w0 (Rec D (.deferred (some [])) :: L') W I' → c.wpIn Fence.wide 9 P Q { a with defers := { target := .collected D, args := #[] } :: a.defers } W) :
    (Code.rangeFunc g ps assign body).wpIn Fence.wide 9 P Q a w := by
  refine wpIn_rangeFunc ?_
  intro fn hfn
  rw [show Fence.wide.round = none from rfl]
  obtain ⟨rec, hrec⟩ : ∃ rec : LoopState → Option Code → Loop, rec = fun st pe => { state := st, pending := pe, fn, tmps := a.tmps, params := ps, assign, body, defers := w.heap.size } := ⟨_, rfl⟩
  obtain ⟨W1, hW1⟩ : ∃ W1, (w.alloc (.deferred (some []))).alloc (.loop (rec .ready none)) = W1 := ⟨_, rfl⟩
  have S1 := (S.newRec (.deferred (some []))).newRec (.loop (rec .ready none))
  have hx1 : Ext w W1 := by rw [← hW1]; exact (Ext.alloc w _).tr (Ext.alloc _ _)
  rw [hW1, World.size_alloc] at S1
  refine ⟨w.heap.size + 1, [{ target := .collected w.heap.size, args := #[] }], W1, { target := .fn (.func gf) lb, args := #[.func (.yield (w.heap.size + 1)) #[] #[]] }, W1, gf,
    #[.func (.yield (w.heap.size + 1)) #[] #[]] ++ lb, W1, ?_, ?_, ?_, ?_, ?_, ?_⟩
  · rw [← hW1, hrec]; exact run_enterLoop_outer _ _ _ _ _
  · simp only [resolve, hg]
    simp [go_sem]
  · intro f' hf'; trivial
  · simp [invoke, go_sem, eg]
  · intro _; decide
  · refine (G (w.heap.size + 1)
      (fun pre W => ∃ L' I', M pre L' I' ∧ SH F0 I0 w0 (Rec (w.heap.size + 1) (.loop (rec .ready none)) :: Rec w.heap.size (.deferred (some [])) :: L') W I')
      (fun _ W => ∃ c L' I', Mx c L' I' ∧ SH F0 I0 w0 (Rec (w.heap.size + 1) (.loop (rec .done (some c))) :: Rec w.heap.size (.deferred (some [])) :: L') W I')
      ?_ ?_ ?_ W1 (hSt _ _ _ hx1 S1) ⟨L, I, h0, S1⟩).mono ?_
    · rintro pre A B ⟨L', I', hM, s⟩ he
      exact hE pre L' I' A B _ _ hM s he
    · rintro pre A B ⟨c, L', I', hM, s⟩ he
      exact ⟨c, hEx c L' I' A B _ _ hM s he⟩
    · rintro pre x W hpre ⟨L', I', hM, s⟩
      have hl := s.recd 0 rfl
      have hy := run_yield (P := P) (args := encs x) hl (by rw [hrec]; exact hps x)
      rw [hrec] at hy
      refine ⟨fn, _, assign, body, hy, roundIn_of_wpIn hfn (wpIn_mono (hround (w.heap.size + 1) w.heap.size _ (.loop { rec .ready none with state := .busy }) pre x L' I' W hpre hM s) ?_)⟩
      clear hy
      intro e a1 Wa hp
      cases e with
      | normal =>
        obtain ⟨L1, I1, s1, hb⟩ := hp
        have hl1 := s1.recd 0 rfl
        refine ⟨_, run_beginRound hl1 (by rw [hrec]), ?_⟩
        refine wpIn_mono (hb _ Chg.putObj (s1.putRec 0 rfl _)) ?_
        have fin : ∀ (jump : Option Code) (W3 : World) (L3 : List Ob) (I3 : Fp), SH F0 I0 w0 (Rec (w.heap.size + 1) (.loop { rec .ready none with state := .busy }) :: Rec w.heap.size (.deferred (some [])) :: L3) W3 I3 →
            (Instr.endRound (w.heap.size + 1) jump).run P W3 = .ok (.bool jump.isNone) (W3.putObj (w.heap.size + 1) (.loop (rec (if jump.isNone then .ready else .done) jump))) ∧
            SH F0 I0 w0 (Rec (w.heap.size + 1) (.loop (rec (if jump.isNone then .ready else .done) jump)) :: Rec w.heap.size (.deferred (some [])) :: L3) (W3.putObj (w.heap.size + 1) (.loop (rec (if jump.isNone then .ready else .done) jump))) I3 := fun jump W3 L3 I3 s3 => by
          have hl3 := s3.recd 0 rfl
          have := run_endRound (P := P) jump hl3
          refine ⟨?_, s3.putRec 0 rfl _⟩
          rw [hrec] at this ⊢
          exact this
        rintro e a3 W3 hp
        cases e with
        | normal =>
          obtain ⟨L3, I3, hM3, s3, hk3⟩ := hp
          obtain ⟨hr, s4⟩ := fin none W3 L3 I3 s3
          exact ⟨_, _, hr, .inl ⟨rfl, ⟨L3, I3, hM3, s4⟩, hk3 _ L3 I3 hM3 Chg.putObj s4⟩⟩
        | ret =>
          obtain ⟨L3, I3, hM3, s3⟩ := hp
          obtain ⟨hr, s4⟩ := fin (some .ret) W3 L3 I3 s3
          exact ⟨_, _, hr, .inr ⟨rfl, .ret, L3, I3, hM3, s4⟩⟩
        | exit id =>
          obtain ⟨L3, I3, hM3, s3⟩ := hp
          obtain ⟨hr, s4⟩ := fin (some (.exit id)) W3 L3 I3 s3
          exact ⟨_, _, hr, .inr ⟨rfl, .exit id, L3, I3, hM3, s4⟩⟩
        | goto t =>
          obtain ⟨L3, I3, hM3, s3⟩ := hp
          obtain ⟨hr, s4⟩ := fin (some (.goto t)) W3 L3 I3 s3
          exact ⟨_, _, hr, .inr ⟨rfl, .goto t, L3, I3, hM3, s4⟩⟩
        | panic ch => exact hp.elim
        | outgrown => exact hp.elim
      | ret => exact hp.elim
      | exit id => exact hp.elim
      | goto t => exact hp.elim
      | panic ch => exact hp.elim
      | outgrown => exact hp.elim
    · rintro e W2 ⟨⟨v, rfl⟩, (⟨L', I', hM, s⟩ | ⟨pre, hpre, c, L', I', hM, s⟩)⟩
      · have hl := s.recd 0 rfl
        have s' : SH F0 I0 w0 (Rec w.heap.size (.deferred (some [])) :: L') (W2.putObj (w.heap.size + 1) (.loop { rec .ready none with state := .exhausted })) I' := by
          have := s.putRec 0 rfl (.loop { rec .ready none with state := .exhausted })
          exact this.tl
        exact ⟨none, _, by have := run_endLoop (P := P) hl (by rw [hrec]; simp); rw [hrec] at this ⊢; exact this, hdone _ L' I' _ hM s'⟩
      · have hl := s.recd 0 rfl
        have s' : SH F0 I0 w0 (Rec w.heap.size (.deferred (some [])) :: L') (W2.putObj (w.heap.size + 1) (.loop { rec .done (some c) with state := .exhausted })) I' := by
          have := s.putRec 0 rfl (.loop { rec .done (some c) with state := .exhausted })
          exact this.tl
        exact ⟨some c, _, by have := run_endLoop (P := P) hl (by rw [hrec]; simp); rw [hrec] at this ⊢; exact this, hstop _ c L' I' _ hM s'⟩
/-! ### seals inside a fence -/
theorem wlI_seal {F : Fence} {n : Nat} {ops : Array Oper} {rest : List Oper} {a : Act} {Q : Exit → Act → World → Prop} {W : World} {L' : List Ob} (s : SH F0 I0 w0 L w I) [h : Built1 w L W L'] (k : ∀ w', SH F0 I0 w0 L' w' I → wpListIn F n P ops Q rest a w') : wpListIn F n P ops Q rest a W := k _ (h.out s)
theorem cwI_seal {F : Fence} {n : Nat} {c0 : Code} {a : Act} {Q : Exit → Act → World → Prop} {W : World} {L' : List Ob} (s : SH F0 I0 w0 L w I) [h : Built1 w L W L'] (k : ∀ w', SH F0 I0 w0 L' w' I → c0.wpIn F n P Q a w') : c0.wpIn F n P Q a W := k _ (h.out s)
theorem caI_seal {F : Fence} {n : Nat} {f : FuncId} {args : Array Value} {R : Ending → World → Prop} {W : World} {L' : List Ob} (s : SH F0 I0 w0 L w I) [h : Built1 w L W L'] (k : ∀ w', SH F0 I0 w0 L' w' I → CallsIn F n P f args w' R) : CallsIn F n P f args W R := k _ (h.out s)
theorem bpM_seal {F : Fence} {n : Nat} {fn : Func} {R : Ending → World → Prop} {e0 : Exit} {a : Act} {W : World} {L' : List Ob} (s : SH F0 I0 w0 L w I) [h : Built1 w L W L'] (k : ∀ w', SH F0 I0 w0 L' w' I → bodyPostM F n P fn R e0 a w') : bodyPostM F n P fn R e0 a W := k _ (h.out s)
theorem rd_seal {l : Nat} {o1 o2 o3 : Ob} {B : World → Prop} {W : World} {L' : List Ob} (s : SH F0 I0 w0 L w I) [h : Built1 w L W L']
    (k : ∀ w', SH F0 I0 w0 L' w' I → ∃ L1 I1, SH F0 I0 w0 (o1 :: o2 :: L1) w' I1 ∧ ∀ W2, Chg (fun k => k = l) w' W2 → SH F0 I0 w0 (o3 :: o2 :: L1) W2 I1 → B W2) :
    ∃ L1 I1, SH F0 I0 w0 (o1 :: o2 :: L1) W I1 ∧ ∀ W2, Chg (fun k => k = l) W W2 → SH F0 I0 w0 (o3 :: o2 :: L1) W2 I1 → B W2 := k _ (h.out s)
theorem rp_seal {o1 o2 : Ob} {N : List Ob → Fp → Prop} {Nx : Code → List Ob → Fp → Prop} {K : World → Prop} {e0 : Exit} {a : Act} {W : World} {L' : List Ob} (s : SH F0 I0 w0 L w I) [h : Built1 w L W L']
    (k : ∀ w', SH F0 I0 w0 L' w' I → rpost F0 I0 w0 o1 o2 N Nx K e0 a w') : rpost F0 I0 w0 o1 o2 N Nx K e0 a W := k _ (h.out s)
/-- 'append(out, x)' inside a fence: x lies in a block just made -/
theorem wlI_push {F : Fence} {n : Nat} {α : Type} {k : Kd α} {t : TypeId} {bytes : Nat} {ops : Array Oper} {rest : List Oper} {o : Oper} {a : Act} {Q : Exit → Act → World → Prop}
    (s : SH F0 I0 w0 L w I) (i : Nat) {v : Value} {xs : List α} (e : L[i]? = some (Row k v xs)) (hgd : o.guard = none) (sx x : Operand) (ho : o.op = .call { callee := .builtin .append, args := #[sx, x], argTypes := #[t, t] }) (T : TyOk P t k bytes)
    (hs : a.eval sx = v) (y : α) (g c : Nat) (hx : a.eval x = .slice (some ⟨g, 0, none⟩) 1 c) (cs : List Value) (e' : TypeId)
    (hg : w.heap[g]? = some (.cells cs.toArray e' (0, 0))) (hr : k.rel w I y cs)
    (h63 : xs.length + 1 ≤ maxLen) (hbytes : (xs.length + 1) * bytes ≤ 140737488355328)
    (h : ∀ v' w', SH F0 I0 w0 (L.set i (Row k v' (xs ++ [y]))) w' I → wpListIn F n P ops Q rest (a.put o.dst v') w') : wpListIn F n P ops Q (o :: rest) a w := by
  refine wpListIn_plain hgd fun K hK => ?_
  have hadd : ∀ j, (⟨g, 0, none⟩ : Addr).add j = ⟨g, j, none⟩ := fun j => by unfold Addr.add; split <;> simp_all
  obtain ⟨v', w', hrun, h2, h3, h4⟩ := run_app T o.type 0 I v xs [y] (s.own i e) (some ⟨g, 0, none⟩) c cs (Flat.single hr) (fun _ => ⟨_, rfl, fun j u hj => by rw [hadd]; exact cell_of_heap hg (by simpa using hj)⟩) h63 hbytes (Nat.zero_le _) s.bd
  unfold Oper.wpIn
  refine ⟨?_, ?_⟩
  · simp [Oper.about, ho, resolve, Target.leads, Sem.run_pure]
  · rw [Oper.semAt_plain F _ _ (by rw [ho]; intro c hc'; cases hc')]
    simp only [List.length_cons, List.length_nil, Nat.zero_add] at hrun
    simp [execOp, ho, resolve, invoke, builtin, hs, hx, hrun, Result.andThen]
    exact hK _ _ (h v' w' (s.app i e h2 h3 h4))
/-- an iterator's step -/
theorem YieldAt.same {F : Fence} {n : Nat} {l : Nat} {args : Array Value} {W : World} {R : Ending → World → Prop} (h : YieldAt F n P l args W R) : ∃ fn tmps assign body, (Instr.yield l args).run P W = .ok (.round l fn tmps assign body) W ∧ RoundIn F n P l fn tmps assign body W R := h
end
/-! ### A region that draws its order, inside a round -/
def noDefer (l : List Oper) : Bool := l.all fun o => match o.op with | .defer _ => false | _ => true
def calm0 (Q : Exit → Act → World → Prop) : Exit → Act → World → Prop
  | .normal, a, w => Q .normal a w
  | _, _, _ => False
theorem rowsIn_wide' {n : Nat} {P : Program} {row : String} {args : Array Value} {w : World} {R : Value → World → Prop} (h : Rows P row args w R) : RowsIn Fence.wide n P row args w R := by
  exact fun c cs _ => let ⟨v, w', r, s⟩ := h c cs; ⟨v, w', r, stepsIn_wide.2 s⟩
theorem uponIn_of {P : Program} {o : Oper} {a : Act} {K : Act → World → Prop} {Q : Exit → Act → World → Prop} {l n : Nat} {r : Result Next} (h : o.upon P a K Q r) : o.uponIn (Fence.wide.inRound l) n P a K Q r := by
  cases r with
  | ok x w =>
    cases x with
    | enter f args => exact ⟨fun h => by simp [Fence.wide] at h, CallsIn.inRound l (callsIn_wide.2 h)⟩
    | row r args => exact ⟨fun h => by simp [Fence.wide] at h, rowsIn_wide' h⟩
    | round _ _ _ _ _ => exact False.elim h
    | _ => exact h
  | halt x w => cases x <;> exact h
theorem wpAnyIn_of {P : Program} {md : Region.Mode} {ops : Array Oper} {Q : Exit → Act → World → Prop} {l n : Nat} (hd : noDefer ops.toList = true) (hQ : ¬ LetsOut Q) : ∀ (fuel : Nat) (listed : Array Bool) (a : Act) (w : World), wpAny P md ops Q fuel listed a w → wpAnyIn (Fence.wide.inRound l) n P md ops Q fuel listed a w
  | 0, _, _, _, h => h
  | fuel + 1, listed, a, w, h => by
    refine ⟨h.1, fun i hi => ?_⟩
    have h1 := h.2 i hi
    unfold wpOp at h1
    unfold wpOpIn
    cases ho : ops[i]? with
    | none => rw [ho] at h1; exact wpAnyIn_of hd hQ fuel _ a w h1
    | some o =>
      rw [ho] at h1
      simp only at h1 ⊢
      split
      · rename_i hw
        rw [if_pos hw] at h1
        rcases h1 with h1 | ⟨_, h1⟩
        · refine ⟨fun _ _ => trivial, ?_⟩
          have hno : ∀ c, o.op ≠ .defer c := fun c e => by
            have := List.all_eq_true.1 hd o (by simpa using Array.mem_toList_iff.2 (Array.mem_of_getElem? ho))
            rw [e] at this
            cases this
          rw [Oper.semAt_eq _ _ _ hno]
          exact uponIn_of (Oper.wp_mono (fun a w => wpAnyIn_of hd hQ fuel _ a w) h1)
        · exact absurd h1 hQ
      · rename_i hw
        rw [if_neg hw] at h1
        exact ⟨fun _ _ => trivial, wpAnyIn_of hd hQ fuel _ _ w h1⟩
theorem wpIn_region_ext {P : Program} {Q : Exit → Act → World → Prop} {l n : Nat} {id : Nat} {a : Act} {w : World} {ol : List Oper} (ps : List Piece) (last : List Nat) (hm : P.follows .mixedOrders = true) (hB : mixB ol ps last = true) (hd : noDefer ol = true)
    (h : wpMix P ol (calm0 Q) ClE last ps a w.drew) : (Code.region id ol.toArray true).wpIn (Fence.wide.inRound l) n P Q a w := by
  simp only [mixB, Bool.and_eq_true, decide_eq_true_eq] at hB
  obtain ⟨⟨⟨h1, h2⟩, h3⟩, h4⟩ := hB
  have hcalm : ∀ e a w, calm0 Q e a w → Q e a w := by
    intro e a w h
    cases e <;> first | exact h | exact h.elim
  refine wpIn_mono (wpIn_region_any hm ?_) hcalm
  have := wpMix_any (fun _ => Below.refl _ _) (fun _ _ _ h g => Below.trans h (g.mono h.size)) (ps.flatMap (·.fs)) h1 h2 (Q := calm0 Q) (fun _ _ _ _ _ h => h) last ps [] _ a w.drew (Closed.start _) h3 h
  rw [h4] at this
  exact wpAnyIn_of (by simpa using hd) (fun ⟨_, _, h⟩ => h) _ _ _ _ (wpAny_of_C _ _ _ _ this)
end Go.Proofs.YtnmlonicfncpfaaGreat.X
