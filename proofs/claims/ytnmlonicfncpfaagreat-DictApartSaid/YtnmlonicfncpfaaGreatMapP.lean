/- A map from pairs of numbers to counts: its entries in the order of their birth; a count put up by one. -/
import Derived.Test.YtnmlonicfncpfaaGreatSep3
import Derived.WideKeyPair
namespace Go.Proofs.YtnmlonicfncpfaaGreat.X
open Go.RowKit Go.WideMaps
set_option linter.unusedSimpArgs false
set_option linter.unusedVariables false
abbrev Pr := Int × Int
def kv (k : Pr) : Value := .agg #[.int .i64 k.1, .int .i64 k.2]
theorem kv_inj {a b : Pr} (h : kv a = kv b) : a = b := by
  obtain ⟨a1, a2⟩ := a
  obtain ⟨b1, b2⟩ := b
  simp only [kv, Value.agg.injEq, List.cons.injEq, Value.int.injEq, true_and, and_true, Array.mk.injEq] at h
  obtain ⟨rfl, rfl⟩ := h
  rfl
/-- each once, in the order of coming -/
def firsts (L : List Pr) : List Pr := L.foldl (fun acc k => if k ∈ acc then acc else acc ++ [k]) []
theorem firsts_snoc (L : List Pr) (k : Pr) : firsts (L ++ [k]) = if k ∈ firsts L then firsts L else firsts L ++ [k] := by
  unfold firsts
  rw [List.foldl_append]
  rfl
theorem foldl_firsts_mem : ∀ (L acc : List Pr) (x : Pr), x ∈ L.foldl (fun acc k => if k ∈ acc then acc else acc ++ [k]) acc ↔ x ∈ acc ∨ x ∈ L
  | [], acc, x => by simp
  | k :: r, acc, x => by
    rw [List.foldl_cons, foldl_firsts_mem r _ x, List.mem_cons]
    split
    · rename_i h
      constructor
      · rintro (h1 | h1)
        · exact .inl h1
        · exact .inr (.inr h1)
      · rintro (h1 | rfl | h1)
        · exact .inl h1
        · exact .inl h
        · exact .inr h1
    · simp only [List.mem_append, List.mem_singleton, or_assoc]
theorem firsts_mem (L : List Pr) (x : Pr) : x ∈ firsts L ↔ x ∈ L := by
  unfold firsts
  rw [foldl_firsts_mem]
  simp
theorem foldl_firsts_nodup : ∀ (L acc : List Pr), acc.Nodup → (L.foldl (fun acc k => if k ∈ acc then acc else acc ++ [k]) acc).Nodup
  | [], acc, h => h
  | k :: r, acc, h => by
    rw [List.foldl_cons]
    refine foldl_firsts_nodup r _ ?_
    split
    · exact h
    · rename_i hk
      rw [List.nodup_append]
      refine ⟨h, by simp, fun a ha b hb => ?_⟩
      rw [List.mem_singleton] at hb
      subst hb
      exact fun e => hk (e ▸ ha)
theorem firsts_nodup (L : List Pr) : (firsts L).Nodup := foldl_firsts_nodup L [] List.nodup_nil
theorem foldl_firsts_len : ∀ (L acc : List Pr), (L.foldl (fun acc k => if k ∈ acc then acc else acc ++ [k]) acc).length ≤ acc.length + L.length
  | [], acc => Nat.le_refl _
  | k :: r, acc => by
    rw [List.foldl_cons]
    refine Nat.le_trans (foldl_firsts_len r _) ?_
    rw [List.length_cons]
    split
    · omega
    · rw [List.length_append, List.length_singleton]; omega
theorem firsts_len (L : List Pr) : (firsts L).length ≤ L.length := by
  have := foldl_firsts_len L []
  rw [List.length_nil, Nat.zero_add] at this
  exact this
def ent (L : List Pr) (k : Pr) (i : Nat) : MapEntry := ⟨kv k, .int .i64 (L.count k : Nat), i⟩
def ents (L : List Pr) : List MapEntry := (firsts L).mapIdx fun i k => ent L k i
theorem ents_len (L : List Pr) : (ents L).length = (firsts L).length := by simp [ents]
theorem ents_get (L : List Pr) (j : Nat) : (ents L)[j]? = (firsts L)[j]?.map fun k => ent L k j := by simp [ents]
theorem count_none {L : List Pr} {k : Pr} (h : k ∉ firsts L) : L.count k = 0 := List.count_eq_zero.2 fun hm => h ((firsts_mem L k).2 hm)
section
variable {P : Program} {mt kt et : TypeId} {w : World} {g : Nat}
/-- the map's block -/
def HasMap (w : World) (g : Nat) (L : List Pr) : Prop := w.heap[g]? = some (.map (ents L).toArray (firsts L).length)
theorem find_at (K : KeyLaw P kt) (w : World) {L : List Pr} {k : Pr} (hL : ∀ x ∈ L, ∃ l, keyOf P kt (kv x) = some l) (hk : ∃ l, keyOf P kt (kv k) = some l) :
    ((Instr.findKey kt (kv k) (ents L)).run P w = .ok none w ∧ k ∉ firsts L) ∨ ∃ j, (firsts L)[j]? = some k ∧ (Instr.findKey kt (kv k) (ents L)).run P w = .ok (some (j, .int .i64 (L.count k : Nat))) w := by
  obtain ⟨l, hl⟩ := hk
  have hall : ∀ e ∈ ents L, ∃ l, keyOf P kt e.key = some l := fun e he => by
    obtain ⟨j, hj, rfl⟩ := List.mem_iff_getElem.1 he
    have h1 := ents_get L j
    rw [List.getElem?_eq_getElem hj] at h1
    cases hf : (firsts L)[j]? with
    | none => rw [hf] at h1; cases h1
    | some x =>
      rw [hf] at h1
      simp only [Option.map_some, Option.some.injEq] at h1
      rw [h1]
      exact hL x ((firsts_mem L x).1 (List.mem_of_getElem? hf))
  rcases K.find w hl (ents L) hall with ⟨h1, h2⟩ | ⟨j, e, h1, h2, h3⟩
  · refine .inl ⟨h1, fun hm => ?_⟩
    obtain ⟨j, hj⟩ := List.mem_iff_getElem?.1 hm
    have h4 := ents_get L j
    rw [hj] at h4
    exact h2 _ (List.mem_of_getElem? h4) rfl
  · rw [ents_get] at h2
    cases hf : (firsts L)[j]? with
    | none => rw [hf] at h2; cases h2
    | some x =>
      rw [hf] at h2
      simp only [Option.map_some, Option.some.injEq] at h2
      subst h2
      have hx := kv_inj h3
      subst hx
      exact .inr ⟨j, hf, h1⟩
theorem run_lookupP (K : KeyLaw P kt) (hm : P.underlying mt = some (.map kt et)) (hz : ∀ w, (zeroValue et).run P w = .ok (.int .i64 0) w) {L : List Pr} {k : Pr} (hL : ∀ x ∈ L, ∃ l, keyOf P kt (kv x) = some l) (hk : ∃ l, keyOf P kt (kv k) = some l) (hb : HasMap w g L) :
    (Instr.lookup mt (.map (some g)) (kv k) false).run P w = .ok (.int .i64 (L.count k : Nat)) w := by
  have hc : ∀ em, (Instr.checkKey em 10000 kt (kv k)).run P w = .ok () w := fun em => K.check w em hk.choose_spec
  rcases find_at K w hL hk with ⟨h1, h2⟩ | ⟨j, -, h1⟩
  · simp [Instr.lookup, run_underlying hm, MapKept.run_getObj_map hb, hc, h1, hz, Result.andThen, count_none h2]
  · simp [Instr.lookup, run_underlying hm, MapKept.run_getObj_map hb, hc, h1, Result.andThen]
theorem find_bornP {A : Array MapEntry} {j : Nat} (hj : j < A.size) (hb : ∀ t (h : t < A.size), A[t].born = t) : A.findIdx? (fun e => (e.born : Int) == (j : Int)) = some j := by
  rw [Array.findIdx?_eq_some_iff_getElem]
  refine ⟨hj, by simp [hb], fun t ht => ?_⟩
  rw [hb]
  simp
  omega
def putO (w : World) (g : Nat) (o : Obj) : World := { w with heap := w.heap.setIfInBounds g o }
theorem putO_putO (w : World) (g : Nat) (o o' : Obj) : putO (putO w g o) g o' = putO w g o' := by
  unfold putO
  simp [Array.setIfInBounds_setIfInBounds]
theorem putO_get {w : World} {g : Nat} {o o' : Obj} (h : w.heap[g]? = some o) : (putO w g o').heap[g]? = some o' := (MapKept.heap_set h).1
/-- the entries after one more key -/
theorem ents_bump {L : List Pr} {k : Pr} {A : Array MapEntry} (hs : A.size = (firsts (L ++ [k])).length) (h : ∀ (t : Nat) (x : Pr), (firsts (L ++ [k]))[t]? = some x → A[t]? = some (ent (L ++ [k]) x t)) : A = (ents (L ++ [k])).toArray := by
  apply Array.ext'
  apply List.ext_getElem?
  intro t
  rw [Array.getElem?_toList]
  show A[t]? = (ents (L ++ [k]))[t]?
  rw [ents_get]
  cases hf : (firsts (L ++ [k]))[t]? with
  | none =>
    rw [List.getElem?_eq_none_iff] at hf
    rw [Array.getElem?_eq_none (by omega)]
    rfl
  | some x => rw [h t x hf]; rfl
theorem nodup_at {l : List Pr} (h : l.Nodup) {i j : Nat} {x : Pr} (h1 : l[i]? = some x) (h2 : l[j]? = some x) : i = j := by
  obtain ⟨hi, e1⟩ := List.getElem?_eq_some_iff.1 h1
  obtain ⟨hj, e2⟩ := List.getElem?_eq_some_iff.1 h2
  exact (List.getElem_inj h).1 (e1.trans e2.symm)
/-- a look-up once the key is laid with nothing -/
theorem run_lookup_laid (K : KeyLaw P kt) (hm : P.underlying mt = some (.map kt et)) {L : List Pr} {k : Pr} {c : Nat} (hL : ∀ x ∈ L, ∃ l, keyOf P kt (kv x) = some l) (hk : ∃ l, keyOf P kt (kv k) = some l) (hn : k ∉ firsts L)
    (hb : w.heap[g]? = some (.map ((ents L).toArray.push ⟨kv k, .int .i64 0, (firsts L).length⟩) c)) :
    (Instr.lookup mt (.map (some g)) (kv k) false).run P w = .ok (.int .i64 0) w := by
  have hc : ∀ em, (Instr.checkKey em 10000 kt (kv k)).run P w = .ok () w := fun em => K.check w em hk.choose_spec
  have hall : ∀ e ∈ ents L ++ [⟨kv k, .int .i64 0, (firsts L).length⟩], ∃ l, keyOf P kt e.key = some l := fun e he => by
    rw [List.mem_append, List.mem_singleton] at he
    rcases he with he | rfl
    · obtain ⟨j, hj, rfl⟩ := List.mem_iff_getElem.1 he
      have h1 := ents_get L j
      rw [List.getElem?_eq_getElem hj] at h1
      cases hf : (firsts L)[j]? with
      | none => rw [hf] at h1; cases h1
      | some x =>
        rw [hf] at h1
        simp only [Option.map_some, Option.some.injEq] at h1
        rw [h1]
        exact hL x ((firsts_mem L x).1 (List.mem_of_getElem? hf))
    · exact hk
  have hfind : ∃ j, (Instr.findKey kt (kv k) (ents L ++ [⟨kv k, .int .i64 0, (firsts L).length⟩])).run P w = .ok (some (j, .int .i64 0)) w := by
    rcases K.find w hk.choose_spec _ hall with ⟨-, h2⟩ | ⟨j, e, h1, h2, h3⟩
    · exact (h2 _ (List.mem_append_right _ (List.mem_singleton.2 rfl)) rfl).elim
    · refine ⟨j, ?_⟩
      rw [h1]
      rw [List.getElem?_append] at h2
      by_cases hj : j < (ents L).length
      · rw [if_pos hj, ents_get] at h2
        cases hf : (firsts L)[j]? with
        | none => rw [hf] at h2; cases h2
        | some x =>
          rw [hf] at h2
          simp only [Option.map_some, Option.some.injEq] at h2
          subst h2
          exact (hn (kv_inj h3 ▸ List.mem_of_getElem? hf)).elim
      · rw [if_neg hj] at h2
        have := List.mem_of_getElem? h2
        rw [List.mem_singleton] at this
        subst this
        rfl
  obtain ⟨j, hj⟩ := hfind
  simp [Instr.lookup, run_underlying hm, MapKept.run_getObj_map hb, hc, hj, Result.andThen]
theorem run_bump (K : KeyLaw P kt) (hm : P.underlying mt = some (.map kt et)) (hz : ∀ w, (zeroValue et).run P w = .ok (.int .i64 0) w) {L : List Pr} {k : Pr} (hL : ∀ x ∈ L, ∃ l, keyOf P kt (kv x) = some l) (hk : ∃ l, keyOf P kt (kv k) = some l) (hb : HasMap w g L) :
    ∃ (o1 : Obj) (i : Nat), (Instr.mapEntry mt (.map (some g)) (kv k)).run P w = .ok (.tuple #[.int .i64 (L.count k : Nat), .int .i64 i]) (putO w g o1) ∧
      (Instr.entryStore mt (.map (some g)) (.int .i64 i) (.int .i64 ((L.count k : Nat) + 1))).run P (putO w g o1) = .ok () (putO w g (.map (ents (L ++ [k])).toArray (firsts (L ++ [k])).length)) ∧
      (Instr.lookup mt (.map (some g)) (kv k) false).run P (putO w g o1) = .ok (.int .i64 (L.count k : Nat)) (putO w g o1) := by
  have hc : ∀ em, (Instr.checkKey em 10000 kt (kv k)).run P w = .ok () w := fun em => K.check w em hk.choose_spec
  have hst : ∀ w, (Instr.keyThatStays (kv k) (kv k)).run P w = .ok (kv k) w := fun w => K.stays w hk.choose_spec
  have hcount : ∀ x, (L ++ [k]).count x = L.count x + if x = k then 1 else 0 := fun x => by
    rw [List.count_append, List.count_singleton]
    by_cases h : k = x
    · subst h; simp
    · simp [h, Ne.symm h]
  rcases find_at K w hL hk with ⟨h1, h2⟩ | ⟨j, hj, h1⟩
  · have hf : firsts (L ++ [k]) = firsts L ++ [k] := by rw [firsts_snoc, if_neg h2]
    have hn : (ents L).toArray.size = (firsts L).length := by simp [ents_len]
    refine ⟨.map ((ents L).toArray.push ⟨kv k, .int .i64 0, (firsts L).length⟩) ((firsts L).length + 1), (firsts L).length, ?_, ?_, by rw [count_none h2]; exact run_lookup_laid K hm hL hk h2 (putO_get hb)⟩
    · simp [Instr.mapEntry, run_underlying hm, MapKept.run_getObj_map hb, hc, h1, hz, Result.andThen, count_none h2, MapKept.run_setObj_map _ hb, goInt, putO]
    · have hb1 : (putO w g (.map ((ents L).toArray.push ⟨kv k, .int .i64 0, (firsts L).length⟩) ((firsts L).length + 1))).heap[g]? = some (.map ((ents L).toArray.push ⟨kv k, .int .i64 0, (firsts L).length⟩) ((firsts L).length + 1)) := putO_get hb
      have hfi : ((ents L).toArray.push ⟨kv k, .int .i64 0, (firsts L).length⟩).findIdx? (fun e => (e.born : Int) == ((firsts L).length : Int)) = some (firsts L).length := by
        refine find_bornP (by simp [ents_len]) fun t h => ?_
        rw [Array.getElem_push]
        split
        · rename_i h3
          have h4 := ents_get L t
          rw [List.getElem?_eq_getElem (by simpa using h3), List.getElem?_eq_getElem (by simpa [ents_len] using h3)] at h4
          simp only [Option.map_some, Option.some.injEq] at h4
          simp [h4, ent]
        · rename_i h3
          simp [ents_len] at h h3 ⊢
          omega
      have hA : (((ents L).toArray.push ⟨kv k, .int .i64 0, (firsts L).length⟩).modify (firsts L).length fun e => { e with val := .int .i64 ((L.count k : Nat) + 1) }) = (ents (L ++ [k])).toArray := by
        refine ents_bump (by simp [hf, ents_len]) fun t x hx => ?_
        rw [Array.getElem?_modify, Array.getElem?_push]
        rw [hf, List.getElem?_append] at hx
        by_cases ht : t < (firsts L).length
        · rw [if_pos ht] at hx
          have hxk : x ≠ k := fun e => h2 (e ▸ List.mem_of_getElem? hx)
          have h4 := ents_get L t
          rw [hx] at h4
          have h5 : (ents L).toArray[t]? = some (ent L x t) := by simpa using h4
          rw [if_neg (by omega), if_neg (by rw [hn]; omega), h5]
          simp [ent, hcount, hxk]
        · rw [if_neg ht] at hx
          have h6 : t = (firsts L).length := by
            by_cases h7 : t - (firsts L).length = 0
            · omega
            · rw [List.getElem?_eq_none (by simp; omega)] at hx; cases hx
          subst h6
          simp at hx
          subst hx
          rw [if_pos rfl, if_pos hn.symm]
          simp [ent, hcount]
      have hi : ∀ W : World, (asInt (.int .i64 (((firsts L).length : Nat) : Int))).run P W = .ok (((firsts L).length : Nat) : Int) W := fun W => by simp [asInt, asIntOf]
      refine Eq.trans ?_ (congrArg (Result.ok ()) (putO_putO w g (.map ((ents L).toArray.push ⟨kv k, .int .i64 0, (firsts L).length⟩) ((firsts L).length + 1)) _))
      simp only [Instr.entryStore, Sem.run_bind, MapKept.run_getObj_map hb1, Result.andThen, hi, hfi, MapKept.run_setObj_map _ hb1, hA, hf]
      simp [putO]
  · have hmem : k ∈ firsts L := List.mem_of_getElem? hj
    have hf : firsts (L ++ [k]) = firsts L := by rw [firsts_snoc, if_pos hmem]
    have hjl : j < (firsts L).length := (List.getElem?_eq_some_iff.1 hj).1
    have hej : (ents L)[j]? = some (ent L k j) := by rw [ents_get, hj]; rfl
    have hej' : (ents L).toArray[j]? = some (ent L k j) := by simpa using hej
    have hM : ((ents L).modify j fun e => { e with key := kv k }) = ents L := by
      apply List.ext_getElem?
      intro t
      rw [List.getElem?_modify]
      by_cases h : j = t
      · subst h; rw [hej]; simp [ent]
      · simp [h]
    refine ⟨.map (ents L).toArray (firsts L).length, j, ?_, ?_, run_lookupP K hm hz hL hk (putO_get hb)⟩
    · simp [Instr.mapEntry, run_underlying hm, MapKept.run_getObj_map hb, hc, h1, Result.andThen, hej, ent, hst, MapKept.run_setObj_map _ hb, goInt, putO, hM]
    · have hb1 : (putO w g (.map (ents L).toArray (firsts L).length)).heap[g]? = some (.map (ents L).toArray (firsts L).length) := putO_get hb
      have hfi : (ents L).toArray.findIdx? (fun e => (e.born : Int) == (j : Int)) = some j := by
        refine find_bornP (by simp [ents_len]; exact hjl) fun t h => ?_
        have h4 := ents_get L t
        rw [List.getElem?_eq_getElem (by simpa using h), List.getElem?_eq_getElem (by simpa [ents_len] using h)] at h4
        simp only [Option.map_some, Option.some.injEq] at h4
        simp [h4, ent]
      have hA : ((ents L).toArray.modify j fun e => { e with val := .int .i64 ((L.count k : Nat) + 1) }) = (ents (L ++ [k])).toArray := by
        refine ents_bump (by simp [hf, ents_len]) fun t x hx => ?_
        rw [hf] at hx
        have h4 := ents_get L t
        rw [hx] at h4
        have h5 : (ents L).toArray[t]? = some (ent L x t) := by simpa using h4
        rw [Array.getElem?_modify, h5]
        by_cases htj : j = t
        · subst htj
          rw [hj] at hx
          injection hx with hx
          subst hx
          simp [ent, hcount]
        · have hxk : x ≠ k := fun e => htj (nodup_at (firsts_nodup L) hj (e ▸ hx))
          rw [if_neg htj]
          simp [ent, hcount, hxk]
      have hi : ∀ W : World, (asInt (.int .i64 ((j : Nat) : Int))).run P W = .ok ((j : Nat) : Int) W := fun W => by simp [asInt, asIntOf]
      refine Eq.trans ?_ (congrArg (Result.ok ()) (putO_putO w g (.map (ents L).toArray (firsts L).length) _))
      simp only [Instr.entryStore, Sem.run_bind, MapKept.run_getObj_map hb1, Result.andThen, hi, hfi, MapKept.run_setObj_map _ hb1, hA, hf]
      simp [putO]
end
end Go.Proofs.YtnmlonicfncpfaaGreat.X
