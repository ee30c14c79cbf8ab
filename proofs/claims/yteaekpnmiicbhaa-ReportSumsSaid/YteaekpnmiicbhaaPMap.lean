/- The map of counts as an object. -/
import Derived.Test.YteaekpnmiicbhaaMapP
import Derived.Maps.RangeRun
import Derived.Test.YteaekpnmiicbhaaMix
import Derived.Test.YteaekpnmiicbhaaPSum
import Derived.Test.YteaekpnmiicbhaaPArg
namespace Go.Proofs.Yteaekpnmiicbhaa.X
open Go.RowKit Go.WideMaps Go.ChangeMaps
set_option linter.unusedSimpArgs false
set_option linter.unusedVariables false
def MapO (g : Nat) (L : List Pr) : Ob := .of {
  sat := fun w F _ => HasMap w g L ∧ F g
  keep := fun ⟨h, f⟩ hk => ⟨(hk g (lt_of_heap h) (.inl f)).trans h, f⟩
  weak := fun ⟨h, f⟩ hf _ _ => ⟨h, hf g (lt_of_heap h) f⟩ }
section
variable {F0 I0 I : Fp} {w0 w : World} {O : List Ob}
theorem SH.hasMap (s : SH F0 I0 w0 O w I) (i : Nat) {g : Nat} {L : List Pr} (e : O[i]? = some (MapO g L)) : HasMap w g L := by
  obtain ⟨c, bd, ini, Fs, h1, h2, h3⟩ := s
  exact (h1 i _ e).1
theorem SH.newMap (s : SH F0 I0 w0 O w I) : SH F0 I0 w0 (MapO w.heap.size [] :: O) (w.alloc (.map #[] 0)) I := by
  obtain ⟨I', s', hI⟩ := s.new (w' := w.alloc (.map #[] 0)) (h := MapO w.heap.size []) ⟨fun b => b = w.heap.size, No, ⟨heap_alloc_new w _, rfl⟩, fun b hb => ⟨by simp [hb], .inr (Nat.le_of_eq hb.symm)⟩, fun b hb => hb.elim, fun _ _ hb => hb, Chg.of_ext (Ext.alloc w _)⟩
  obtain ⟨c1, bd1, ini1, Fs1, h1, h2, h3⟩ := s
  refine ⟨s'.chg, fun b hb => Nat.lt_of_lt_of_le (bd1 b hb) (by simp), ini1, fun i => match i with | 0 => fun b => b = w.heap.size | i + 1 => Fs1 i, fun i hi e => ?_, fun i b hb => ?_, fun i j b hij hb hb' => ?_⟩
  · rcases i with _ | i
    · simp at e; subst e; exact ⟨heap_alloc_new w _, rfl⟩
    · exact hi.keep (h1 i hi (by simpa using e)) fun b hb _ => (Ext.alloc w _).block b hb
  · rcases i with _ | i
    · simp only at hb
      subst hb
      exact ⟨by simp, Or.inr c1.size, fun hI => Nat.lt_irrefl _ (bd1 _ hI)⟩
    · exact ⟨Nat.lt_of_lt_of_le (h2 i b hb).1 (by simp), (h2 i b hb).2⟩
  · rcases i with _ | i <;> rcases j with _ | j
    · exact hij rfl
    · simp only at hb; subst hb; exact Nat.lt_irrefl _ (h2 j _ hb').1
    · simp only at hb'; subst hb'; exact Nat.lt_irrefl _ (h2 i _ hb).1
    · exact h3 i j b (by omega) hb hb'
instance (w : World) (L : List Ob) (W : World) (L' : List Ob) [h : Built w L W L'] : Built1 w L (W.alloc (.map #[] 0)) (MapO W.heap.size [] :: L') := ⟨fun s => (h.out s).newMap⟩
theorem SH.bump (s : SH F0 I0 w0 O w I) (i : Nat) {g : Nat} {L : List Pr} (e : O[i]? = some (MapO g L)) (k : Pr) :
    SH F0 I0 w0 (O.set i (MapO g (L ++ [k]))) (putO w g (.map (ents (L ++ [k])).toArray (firsts (L ++ [k])).length)) I := by
  have hb := s.hasMap i e
  refine s.updI i e fun F ⟨_, hF⟩ hb' => ⟨F, ⟨putO_get hb, hF⟩, fun b h => ⟨by rw [show (putO w g (.map (ents (L ++ [k])).toArray (firsts (L ++ [k])).length)).heap.size = w.heap.size by simp [putO]]; exact (hb' b h).1, .inl h⟩, ⟨rfl, rfl, rfl, by simp [putO], fun b hlt hn => ?_⟩⟩
  exact (MapKept.heap_set hb).2 b fun e => hn (e ▸ hF)
end
/-- the class: all but one map is as it was, and that one answers one key alike -/
def ClG (P : Program) (mt : TypeId) (g : Nat) (key : Value) (w x : World) : Prop :=
  w.heap.size ≤ x.heap.size ∧ (∀ b, b < w.heap.size → b ≠ g → x.heap[b]? = w.heap[b]?) ∧ ∀ v, (Instr.lookup mt (.map (some g)) key false).run P w = .ok v w → (Instr.lookup mt (.map (some g)) key false).run P x = .ok v x
theorem ClG.cell {P : Program} {mt : TypeId} {g : Nat} {key : Value} {w : World} {a : Addr} {v : Value} (h : w.cell? a = some v) (hne : a.block ≠ g) : ∀ x, ClG P mt g key w x → x.cell? a = some v := fun x hx => (World.cell?_of_block (w := w) (hx.2.1 a.block (World.block_lt_of_cell? w a h) hne)).trans h
theorem ClG.look {P : Program} {mt : TypeId} {g : Nat} {key : Value} {w : World} {v : Value} (h : (Instr.lookup mt (.map (some g)) key false).run P w = .ok v w) : ∀ x, ClG P mt g key w x → (Instr.lookup mt (.map (some g)) key false).run P x = .ok v x := fun x hx => hx.2.2 v h
theorem ClG.put {P : Program} {mt : TypeId} {g : Nat} {key : Value} {w : World} {o : Obj} {v : Value} (h : (Instr.lookup mt (.map (some g)) key false).run P w = .ok v w) (h' : (Instr.lookup mt (.map (some g)) key false).run P (putO w g o) = .ok v (putO w g o)) : ClG P mt g key w (putO w g o) := by
  refine ⟨by simp [putO], fun b hb hne => ?_, fun v' e => ?_⟩
  · simp [putO, Array.getElem?_setIfInBounds, Ne.symm hne]
  · rw [h] at e
    injection e with e1 e2
    rw [← e1]; exact h'
theorem wp_region_clg {P : Program} {Q : Exit → Act → World → Prop} (mt : TypeId) (g : Nat) (key : Value) {id : Nat} {a : Act} {w : World} {l : List Oper} (ps : List Piece) (last : List Nat) (hm : P.follows .mixedOrders = true) (hB : mixB l ps last = true)
    (h : wpMix P l (calmQ Q) (ClG P mt g key) last ps a w.drew) : (Code.region id l.toArray true).wp P Q a w :=
  wp_region_mix (ClG P mt g key) (fun _ => ⟨Nat.le_refl _, fun _ _ _ => rfl, fun _ h => h⟩) (fun a b c h1 h2 => ⟨Nat.le_trans h1.1 h2.1, fun k hk hn => (h2.2.1 k (Nat.lt_of_lt_of_le hk h1.1) hn).trans (h1.2.1 k hk hn), fun v hv => h2.2.2 v (h1.2.2 v hv)⟩) ps last hm hB h
def ItO (r g n : Nat) (seen : Array Nat) : Ob := .of {
  sat := fun w F _ => w.heap[r]? = some (.mapIter (some g) n seen n) ∧ F r
  keep := fun ⟨h, f⟩ hk => ⟨(hk r (lt_of_heap h) (.inl f)).trans h, f⟩
  weak := fun ⟨h, f⟩ hf _ _ => ⟨h, hf r (lt_of_heap h) f⟩ }
section
variable {F0 I0 I : Fp} {w0 w : World} {O : List Ob}
theorem SH.hasIt (s : SH F0 I0 w0 O w I) (i : Nat) {r g n : Nat} {seen : Array Nat} (e : O[i]? = some (ItO r g n seen)) : w.heap[r]? = some (.mapIter (some g) n seen n) := by
  obtain ⟨c, bd, ini, Fs, h1, h2, h3⟩ := s
  exact (h1 i _ e).1
theorem SH.newIt (s : SH F0 I0 w0 O w I) (g n : Nat) : SH F0 I0 w0 (ItO w.heap.size g n #[] :: O) (w.alloc (.mapIter (some g) n #[] n)) I := by
  obtain ⟨I', s', hI⟩ := s.new (w' := w.alloc (.mapIter (some g) n #[] n)) (h := ItO w.heap.size g n #[]) ⟨fun b => b = w.heap.size, No, ⟨heap_alloc_new w _, rfl⟩, fun b hb => ⟨by simp [hb], .inr (Nat.le_of_eq hb.symm)⟩, fun b hb => hb.elim, fun _ _ hb => hb, Chg.of_ext (Ext.alloc w _)⟩
  obtain ⟨c1, bd1, ini1, Fs1, h1, h2, h3⟩ := s
  refine ⟨s'.chg, fun b hb => Nat.lt_of_lt_of_le (bd1 b hb) (by simp), ini1, fun i => match i with | 0 => fun b => b = w.heap.size | i + 1 => Fs1 i, fun i hi e => ?_, fun i b hb => ?_, fun i j b hij hb hb' => ?_⟩
  · rcases i with _ | i
    · simp at e; subst e; exact ⟨heap_alloc_new w _, rfl⟩
    · exact hi.keep (h1 i hi (by simpa using e)) fun b hb _ => (Ext.alloc w _).block b hb
  · rcases i with _ | i
    · simp only at hb
      subst hb
      exact ⟨by simp, Or.inr c1.size, fun hI => Nat.lt_irrefl _ (bd1 _ hI)⟩
    · exact ⟨Nat.lt_of_lt_of_le (h2 i b hb).1 (by simp), (h2 i b hb).2⟩
  · rcases i with _ | i <;> rcases j with _ | j
    · exact hij rfl
    · simp only at hb; subst hb; exact Nat.lt_irrefl _ (h2 j _ hb').1
    · simp only at hb'; subst hb'; exact Nat.lt_irrefl _ (h2 i _ hb).1
    · exact h3 i j b (by omega) hb hb'
theorem SH.stepIt (s : SH F0 I0 w0 O w I) (i : Nat) {r g n : Nat} {seen : Array Nat} (e : O[i]? = some (ItO r g n seen)) {w1 : World} (h1 : w1 = w ∨ w1 = w.drew) (b : Nat) :
    SH F0 I0 w0 (O.set i (ItO r g n (seen.push b))) (setBlock w1 r (.mapIter (some g) n (seen.push b) n)) I := by
  have s1 : SH F0 I0 w0 O w1 I := by rcases h1 with rfl | rfl; exact s; exact s.drew
  have hb := s1.hasIt i e
  refine s1.updI i e fun F ⟨_, hF⟩ hb' => ⟨F, ⟨(MapKept.heap_set hb).1, hF⟩, fun b h => ⟨by rw [show (setBlock w1 r (.mapIter (some g) n (seen.push _) n)).heap.size = w1.heap.size by simp [setBlock]]; exact (hb' b h).1, .inl h⟩, ⟨rfl, rfl, rfl, by simp [setBlock], fun b hlt hn => ?_⟩⟩
  exact (MapKept.heap_set hb).2 b fun e => hn (e ▸ hF)
end
/-- which keys have come out -/
def Came (L : List Pr) (seen : Array Nat) (ks : List Pr) : Prop := ks.Nodup ∧ (∀ k ∈ ks, k ∈ firsts L) ∧ ∀ (j : Nat) (x : Pr), (firsts L)[j]? = some x → (seen.contains j = true ↔ x ∈ ks)
theorem Came.none (L : List Pr) : Came L #[] [] := ⟨List.nodup_nil, by simp, by simp⟩
theorem Came.step {L : List Pr} {seen : Array Nat} {ks : List Pr} (h : Came L seen ks) {e : MapEntry} (he : e ∈ (leftOf (ents L).toArray seen).toList) : ∃ x, e.key = kv x ∧ e.val = .int .i64 (L.count x : Nat) ∧ e ∈ (ents L) ∧ Came L (seen.push e.born) (ks ++ [x]) := by
  obtain ⟨h1, h2, h3⟩ := h
  simp only [leftOf, Array.mem_toList_iff, Array.mem_filter, List.mem_toArray] at he
  obtain ⟨hm, hs⟩ := he
  obtain ⟨j, hj⟩ := List.mem_iff_getElem?.1 hm
  have hm0 := hm
  rw [ents_get] at hj
  cases hf : (firsts L)[j]? with
  | none => rw [hf] at hj; cases hj
  | some x =>
    rw [hf] at hj
    simp only [Option.map_some, Option.some.injEq] at hj
    subst hj
    have hxk : x ∉ ks := fun hx => by
      have := (h3 j x hf).2 hx
      simp [ent] at hs
      simp at this
      exact hs this
    refine ⟨x, rfl, rfl, hm0, ?_, ?_, ?_⟩
    · rw [List.nodup_append]
      exact ⟨h1, by simp, fun a ha b hb => by rw [List.mem_singleton] at hb; subst hb; exact fun e => hxk (e ▸ ha)⟩
    · intro k hk
      rw [List.mem_append, List.mem_singleton] at hk
      rcases hk with hk | rfl
      · exact h2 k hk
      · exact List.mem_of_getElem? hf
    · intro j' x' hx'
      have h4 := h3 j' x' hx'
      simp only [Array.contains_iff_mem, Array.mem_push, List.mem_append, List.mem_singleton, ent] at h4 ⊢
      rw [h4]
      constructor
      · rintro (h5 | rfl)
        · exact .inl h5
        · rw [hf] at hx'; injection hx' with hx'; exact .inr hx'.symm
      · rintro (h5 | rfl)
        · exact .inl h5
        · exact .inr (nodup_at (firsts_nodup L) hx' hf)
theorem nodup_len : ∀ {ks l : List Pr}, ks.Nodup → (∀ k ∈ ks, k ∈ l) → ks.length ≤ l.length
  | [], l, _, _ => Nat.zero_le _
  | k :: r, l, h, hs => by
    rw [List.nodup_cons] at h
    have hk := hs k (by simp)
    have := @nodup_len r (l.erase k) h.2 fun x hx => (List.mem_erase_of_ne (fun e : x = k => h.1 (by rw [← e]; exact hx))).2 (hs x (List.mem_cons_of_mem _ hx))
    rw [List.length_erase_of_mem hk] at this
    have h2 := List.length_pos_of_mem hk
    rw [List.length_cons]
    omega
theorem Came.len {L : List Pr} {seen : Array Nat} {ks : List Pr} (h : Came L seen ks) : ks.length ≤ (firsts L).length := nodup_len h.1 h.2.1
theorem Came.all {L : List Pr} {seen : Array Nat} {ks : List Pr} (h : Came L seen ks) (h0 : (leftOf (ents L).toArray seen).size = 0) : ks.Perm (firsts L) := by
  obtain ⟨h1, h2, h3⟩ := h
  refine (List.perm_ext_iff_of_nodup h1 (firsts_nodup L)).2 fun x => ⟨h2 x, fun hx => ?_⟩
  obtain ⟨j, hj⟩ := List.mem_iff_getElem?.1 hx
  refine (h3 j x hj).1 ?_
  have he := ents_get L j
  rw [hj] at he
  have hm := List.mem_of_getElem? he
  rw [Array.size_eq_zero_iff] at h0
  unfold leftOf at h0
  rw [Array.filter_eq_empty_iff] at h0
  have := h0 _ (by simpa using hm)
  simpa [ent] using this
theorem ents_born (L : List Pr) : (ents L).map (·.born) = List.range (firsts L).length := by
  apply List.ext_getElem?
  intro j
  rw [List.getElem?_map, ents_get]
  by_cases h : j < (firsts L).length
  · rw [List.getElem?_eq_getElem h, List.getElem?_range h]; rfl
  · rw [List.getElem?_eq_none (by omega), List.getElem?_eq_none (by simp; omega)]; rfl
theorem born_nodup (L : List Pr) : ((ents L).toArray.toList.map (·.born)).Nodup := by
  show ((ents L).map (·.born)).Nodup
  rw [ents_born]
  exact List.nodup_range
theorem born_lt (L : List Pr) : ∀ x ∈ (ents L).toArray.toList, x.born < (firsts L).length := fun x hx => by
  have : x.born ∈ (ents L).map (·.born) := List.mem_map.2 ⟨x, hx, rfl⟩
  rw [ents_born] at this
  exact List.mem_range.1 this
end Go.Proofs.Yteaekpnmiicbhaa.X
namespace Go.Proofs.Yteaekpnmiicbhaa
open Go.RowKit Go.WideMaps X
set_option maxHeartbeats 1000000
set_option maxRecDepth 8000
theorem arr2_key : ArrKey Try.prog 76 3 2 := ⟨Try.underlying76, by kernel_rfl, by kernel_rfl, by kernel_rfl⟩
theorem arr2_law : KeyLaw Try.prog 76 := arr2_key.law
theorem wf_i64 {n : Int} (h : I64 n) : (Lit.int .i64 n).wf = true := by
  obtain ⟨h1, h2⟩ := h
  simp [Lit.wf, IntKind.signed, IntKind.bits, IntKind.min, IntKind.max]
  omega
theorem arr2_keyOf (k : Pr) (h1 : I64 k.1) (h2 : I64 k.2) : ∃ l, keyOf Try.prog 76 (kv k) = some l :=
  ⟨_, keyOf_pair arr2_key Try.underlying3 ⟨Try.prog.types.size - 1, by kernel_rfl⟩ (wf_i64 h1) (wf_i64 h2)⟩
theorem zero_int (w : World) : (zeroValue 3).run Try.prog w = .ok (.int .i64 0) w := by go_simp
end Go.Proofs.Yteaekpnmiicbhaa
