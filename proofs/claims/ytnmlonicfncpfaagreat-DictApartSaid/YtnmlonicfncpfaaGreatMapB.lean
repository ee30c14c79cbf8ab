/- A set of pairs of numbers as a map to true: its entries in the order of their birth. -/
import Derived.Test.YtnmlonicfncpfaaGreatMapP
namespace Go.Proofs.YtnmlonicfncpfaaGreat.X
open Go.RowKit Go.WideMaps
set_option linter.unusedSimpArgs false
set_option linter.unusedVariables false
def entB (k : Pr) (i : Nat) : MapEntry := ⟨kv k, .bool true, i⟩
def entsB (L : List Pr) : List MapEntry := (firsts L).mapIdx fun i k => entB k i
theorem entsB_len (L : List Pr) : (entsB L).length = (firsts L).length := by simp [entsB]
theorem entsB_get (L : List Pr) (j : Nat) : (entsB L)[j]? = (firsts L)[j]?.map fun k => entB k j := by simp [entsB]
section
variable {P : Program} {mt kt et : TypeId} {w : World} {g : Nat}
/-- the map's block -/
def HasB (w : World) (g : Nat) (L : List Pr) : Prop := w.heap[g]? = some (.map (entsB L).toArray (firsts L).length)
theorem find_atB (K : KeyLaw P kt) (w : World) {L : List Pr} {k : Pr} (hL : ∀ x ∈ L, ∃ l, keyOf P kt (kv x) = some l) (hk : ∃ l, keyOf P kt (kv k) = some l) :
    ((Instr.findKey kt (kv k) (entsB L)).run P w = .ok none w ∧ k ∉ firsts L) ∨ ∃ j, (firsts L)[j]? = some k ∧ (Instr.findKey kt (kv k) (entsB L)).run P w = .ok (some (j, .bool true)) w := by
  obtain ⟨l, hl⟩ := hk
  have hall : ∀ e ∈ entsB L, ∃ l, keyOf P kt e.key = some l := fun e he => by
    obtain ⟨j, hj, rfl⟩ := List.mem_iff_getElem.1 he
    have h1 := entsB_get L j
    rw [List.getElem?_eq_getElem hj] at h1
    cases hf : (firsts L)[j]? with
    | none => rw [hf] at h1; cases h1
    | some x =>
      rw [hf] at h1
      simp only [Option.map_some, Option.some.injEq] at h1
      rw [h1]
      exact hL x ((firsts_mem L x).1 (List.mem_of_getElem? hf))
  rcases K.find w hl (entsB L) hall with ⟨h1, h2⟩ | ⟨j, e, h1, h2, h3⟩
  · refine .inl ⟨h1, fun hm => ?_⟩
    obtain ⟨j, hj⟩ := List.mem_iff_getElem?.1 hm
    have h4 := entsB_get L j
    rw [hj] at h4
    exact h2 _ (List.mem_of_getElem? h4) rfl
  · rw [entsB_get] at h2
    cases hf : (firsts L)[j]? with
    | none => rw [hf] at h2; cases h2
    | some x =>
      rw [hf] at h2
      simp only [Option.map_some, Option.some.injEq] at h2
      subst h2
      have hx := kv_inj h3
      subst hx
      exact .inr ⟨j, hf, h1⟩
theorem run_lookupB (K : KeyLaw P kt) (hm : P.underlying mt = some (.map kt et)) (hz : ∀ w, (zeroValue et).run P w = .ok (.bool false) w) {L : List Pr} {k : Pr} (hL : ∀ x ∈ L, ∃ l, keyOf P kt (kv x) = some l) (hk : ∃ l, keyOf P kt (kv k) = some l) (hb : HasB w g L) :
    (Instr.lookup mt (.map (some g)) (kv k) false).run P w = .ok (.bool (decide (k ∈ firsts L))) w := by
  have hc : ∀ em, (Instr.checkKey em 10000 kt (kv k)).run P w = .ok () w := fun em => K.check w em hk.choose_spec
  rcases find_atB K w hL hk with ⟨h1, h2⟩ | ⟨j, hj, h1⟩
  · simp [Instr.lookup, run_underlying hm, MapKept.run_getObj_map hb, hc, h1, hz, Result.andThen, h2]
  · have h2 : k ∈ firsts L := List.mem_of_getElem? hj
    simp [Instr.lookup, run_underlying hm, MapKept.run_getObj_map hb, hc, h1, Result.andThen, h2]
theorem run_addB (K : KeyLaw P kt) (hm : P.underlying mt = some (.map kt et)) {L : List Pr} {k : Pr} (hL : ∀ x ∈ L, ∃ l, keyOf P kt (kv x) = some l) (hk : ∃ l, keyOf P kt (kv k) = some l) (hb : HasB w g L) :
    (Instr.mapUpdate mt (.map (some g)) (kv k) (.bool true)).run P w = .ok () (putO w g (.map (entsB (L ++ [k])).toArray (firsts (L ++ [k])).length)) := by
  have hc : ∀ em, (Instr.checkKey em 10000 kt (kv k)).run P w = .ok () w := fun em => K.check w em hk.choose_spec
  have hst : ∀ w, (Instr.keyThatStays (kv k) (kv k)).run P w = .ok (kv k) w := fun w => K.stays w hk.choose_spec
  rcases find_atB K w hL hk with ⟨h1, h2⟩ | ⟨j, hj, h1⟩
  · have hf : firsts (L ++ [k]) = firsts L ++ [k] := by rw [firsts_snoc, if_neg h2]
    have he : entsB (L ++ [k]) = entsB L ++ [⟨kv k, .bool true, (firsts L).length⟩] := by
      unfold entsB
      rw [hf, List.mapIdx_append]
      simp [entB]
    simp [Instr.mapUpdate, run_underlying hm, MapKept.run_getObj_map hb, hc, h1, Result.andThen, MapKept.run_setObj_map _ hb, he, hf, putO]
  · have hmem : k ∈ firsts L := List.mem_of_getElem? hj
    have hf : firsts (L ++ [k]) = firsts L := by rw [firsts_snoc, if_pos hmem]
    have he : entsB (L ++ [k]) = entsB L := by unfold entsB; rw [hf]
    have hej : (entsB L)[j]? = some (entB k j) := by rw [entsB_get, hj]; rfl
    have hM : ((entsB L).modify j fun e => { e with key := kv k, val := .bool true }) = entsB L := by
      apply List.ext_getElem?
      intro t
      rw [List.getElem?_modify]
      by_cases h : j = t
      · subst h; rw [hej]; simp [entB]
      · simp [h]
    simp [Instr.mapUpdate, run_underlying hm, MapKept.run_getObj_map hb, hc, h1, hej, hst, entB, MapKept.run_setObj_map _ hb, Result.andThen, he, hf, hM, putO]
end
def MapS (g : Nat) (L : List Pr) : Ob := .of {
  sat := fun w F _ => HasB w g L ∧ F g
  keep := fun ⟨h, f⟩ hk => ⟨(hk g (lt_of_heap h) (.inl f)).trans h, f⟩
  weak := fun ⟨h, f⟩ hf _ _ => ⟨h, hf g (lt_of_heap h) f⟩ }
section
variable {F0 I0 I : Fp} {w0 w : World} {O : List Ob}
theorem SH.hasB (s : SH F0 I0 w0 O w I) (i : Nat) {g : Nat} {L : List Pr} (e : O[i]? = some (MapS g L)) : HasB w g L := by
  obtain ⟨c, bd, ini, Fs, h1, h2, h3⟩ := s
  exact (h1 i _ e).1
theorem SH.newS (s : SH F0 I0 w0 O w I) : SH F0 I0 w0 (MapS w.heap.size [] :: O) (w.alloc (.map #[] 0)) I := by
  obtain ⟨I', s', hI⟩ := s.new (w' := w.alloc (.map #[] 0)) (h := MapS w.heap.size []) ⟨fun b => b = w.heap.size, No, ⟨heap_alloc_new w _, rfl⟩, fun b hb => ⟨by simp [hb], .inr (Nat.le_of_eq hb.symm)⟩, fun b hb => hb.elim, fun _ _ hb => hb, Chg.of_ext (Ext.alloc w _)⟩
  obtain ⟨c1, bd1, ini1, Fs1, h1, h2, h3⟩ := s
  refine ⟨s'.chg, fun b hb => Nat.lt_of_lt_of_le (bd1 b hb) (by simp), ini1, fun i => match i with | 0 => fun b => b = w.heap.size | i + 1 => Fs1 i, fun i hi e => ?_, fun i b hb => ?_, fun i j b hij hb hb' => ?_⟩
  · rcases i with _ | i
    · simp at e; subst e; exact ⟨heap_alloc_new w _, rfl⟩
    · exact hi.keep (h1 i hi (by simpa using e)) fun b hb _ => (Ext.alloc w _).block b hb
  · rcases i with _ | i
    · simp only at hb
      subst hb
      exact ⟨by simp, Or.inr c1.size, fun hI => Nat.lt_irrefl _ (bd1 _ hI)⟩
    · exact ⟨Nat.lt_of_lt_of_le (h2 i b hb).1 (by simp), (h2 i b hb).2⟩
  · rcases i with _ | i <;> rcases j with _ | j
    · exact hij rfl
    · simp only at hb; subst hb; exact Nat.lt_irrefl _ (h2 j _ hb').1
    · simp only at hb'; subst hb'; exact Nat.lt_irrefl _ (h2 i _ hb).1
    · exact h3 i j b (by omega) hb hb'
instance (w : World) (L : List Ob) (W : World) (L' : List Ob) [h : Built w L W L'] : Built1 w L (W.alloc (.map #[] 0)) (MapS W.heap.size [] :: L') := ⟨fun s => (h.out s).newS⟩
theorem SH.addB (s : SH F0 I0 w0 O w I) (i : Nat) {g : Nat} {L : List Pr} (e : O[i]? = some (MapS g L)) (k : Pr) :
    SH F0 I0 w0 (O.set i (MapS g (L ++ [k]))) (putO w g (.map (entsB (L ++ [k])).toArray (firsts (L ++ [k])).length)) I := by
  have hb := s.hasB i e
  refine s.updI i e fun F ⟨_, hF⟩ hb' => ⟨F, ⟨putO_get hb, hF⟩, fun b h => ⟨by rw [show (putO w g (.map (entsB (L ++ [k])).toArray (firsts (L ++ [k])).length)).heap.size = w.heap.size by simp [putO]]; exact (hb' b h).1, .inl h⟩, ⟨rfl, rfl, rfl, by simp [putO], fun b hlt hn => ?_⟩⟩
  exact (MapKept.heap_set hb).2 b fun e => hn (e ▸ hF)
end
end Go.Proofs.YtnmlonicfncpfaaGreat.X
