/- A set of numbers as a map to true: its entries in the order of their birth. -/
import Derived.Test.YtooaelpfbamebaaSep3
import Derived.MapKept
import Derived.Maps.RangeRun
import Derived.Laws.IdiomRangeMap
namespace Go.Proofs.Ytooaelpfbamebaa.X
open Go.RowKit Go.MapKept
set_option linter.unusedSimpArgs false
set_option linter.unusedVariables false
/-- each once, in the order of coming -/
def fstI (L : List Int) : List Int := L.foldl (fun acc k => if k ∈ acc then acc else acc ++ [k]) []
theorem fstI_snoc (L : List Int) (k : Int) : fstI (L ++ [k]) = if k ∈ fstI L then fstI L else fstI L ++ [k] := by
  unfold fstI
  rw [List.foldl_append]
  rfl
theorem foldl_fstI_mem : ∀ (L acc : List Int) (x : Int), x ∈ L.foldl (fun acc k => if k ∈ acc then acc else acc ++ [k]) acc ↔ x ∈ acc ∨ x ∈ L
  | [], acc, x => by simp
  | k :: r, acc, x => by
    rw [List.foldl_cons, foldl_fstI_mem r _ x, List.mem_cons]
    split
    · rename_i h
      constructor
      · rintro (h1 | h1)
        · exact .inl h1
        · exact .inr (.inr h1)
      · rintro (h1 | rfl | h1)
        · exact .inl h1
        · exact .inl h
        · exact .inr h1
    · simp only [List.mem_append, List.mem_singleton, or_assoc]
theorem fstI_mem (L : List Int) (x : Int) : x ∈ fstI L ↔ x ∈ L := by
  unfold fstI
  rw [foldl_fstI_mem]
  simp
theorem foldl_fstI_nodup : ∀ (L acc : List Int), acc.Nodup → (L.foldl (fun acc k => if k ∈ acc then acc else acc ++ [k]) acc).Nodup
  | [], acc, h => h
  | k :: r, acc, h => by
    rw [List.foldl_cons]
    refine foldl_fstI_nodup r _ ?_
    split
    · exact h
    · rename_i hk
      rw [List.nodup_append]
      refine ⟨h, by simp, fun a ha b hb => ?_⟩
      rw [List.mem_singleton] at hb
      subst hb
      exact fun e => hk (e ▸ ha)
theorem fstI_nodup (L : List Int) : (fstI L).Nodup := foldl_fstI_nodup L [] List.nodup_nil
def entI (k : Int) (i : Nat) : MapEntry := ⟨.int .i64 k, .bool true, i⟩
def entsI (L : List Int) : List MapEntry := (fstI L).mapIdx fun i k => entI k i
theorem entsI_len (L : List Int) : (entsI L).length = (fstI L).length := by simp [entsI]
theorem entsI_get (L : List Int) (j : Nat) : (entsI L)[j]? = (fstI L)[j]?.map fun k => entI k j := by simp [entsI]
theorem entsI_isKey (L : List Int) : ∀ x ∈ entsI L, IsKey (.int .i64) x.key := fun e he => by
  obtain ⟨j, hj⟩ := List.mem_iff_getElem?.1 he
  rw [entsI_get] at hj
  cases hf : (fstI L)[j]? with
  | none => rw [hf] at hj; cases hj
  | some x =>
    rw [hf] at hj
    simp only [Option.map_some, Option.some.injEq] at hj
    subst hj
    rfl
/-- the map's block -/
def HasSet (w : World) (g : Nat) (L : List Int) : Prop := w.heap[g]? = some (.map (entsI L).toArray (fstI L).length)
theorem run_addI {P : Program} {mt kt et : TypeId} {w : World} {g : Nat} (hm : P.underlying mt = some (.map kt et)) (hd : P.underlying kt = some (.int .i64)) {L : List Int} {k : Int} (hb : HasSet w g L) :
    (Instr.mapUpdate mt (.map (some g)) (.int .i64 k) (.bool true)).run P w = .ok () { w with heap := w.heap.setIfInBounds g (.map (entsI (L ++ [k])).toArray (fstI (L ++ [k])).length) } := by
  have hk : IsKey (.int .i64) (.int .i64 k) := rfl
  rcases findNow_spec hk (entsI L) 0 (entsI_isKey L) with ⟨h1, h2⟩ | ⟨j, e, h1, h2, h3⟩
  · have hn : k ∉ fstI L := fun hmem => by
      obtain ⟨j, hj⟩ := List.mem_iff_getElem?.1 hmem
      have h4 := entsI_get L j
      rw [hj] at h4
      exact h2 _ (List.mem_of_getElem? h4) rfl
    have hf : fstI (L ++ [k]) = fstI L ++ [k] := by rw [fstI_snoc, if_neg hn]
    have he : entsI (L ++ [k]) = entsI L ++ [⟨.int .i64 k, .bool true, (fstI L).length⟩] := by
      unfold entsI
      rw [hf, List.mapIdx_append]
      simp [entI]
    simp [Instr.mapUpdate, run_underlying hm, MapKept.run_getObj_map hb, run_checkKey hd hk, run_findKey hd h1, Result.andThen, MapKept.run_setObj_map _ hb, he, hf]
  · have hj : (entsI L)[j]? = some e := by simpa using h2
    have hmem : k ∈ fstI L := by
      rw [entsI_get] at hj
      cases hf : (fstI L)[j]? with
      | none => rw [hf] at hj; cases hj
      | some x =>
        rw [hf] at hj
        simp only [Option.map_some, Option.some.injEq] at hj
        subst hj
        simp only [entI, Value.int.injEq, true_and] at h3
        subst h3
        exact List.mem_of_getElem? hf
    have hf : fstI (L ++ [k]) = fstI L := by rw [fstI_snoc, if_pos hmem]
    have he : entsI (L ++ [k]) = entsI L := by unfold entsI; rw [hf]
    have hM : ((entsI L).modify j fun e => { e with key := .int .i64 k, val := .bool true }) = entsI L := by
      apply List.ext_getElem?
      intro t
      rw [List.getElem?_modify]
      by_cases h : j = t
      · subst h
        rw [hj]
        have : e.val = .bool true := by
          rw [entsI_get] at hj
          cases hf : (fstI L)[j]? with
          | none => rw [hf] at hj; cases hj
          | some x =>
            rw [hf] at hj
            simp only [Option.map_some, Option.some.injEq] at hj
            subst hj; rfl
        cases e
        simp only at h3 this
        subst h3 this
        simp
      · simp [h]
    simp [Instr.mapUpdate, run_underlying hm, MapKept.run_getObj_map hb, run_checkKey hd hk, run_findKey hd h1, hj, h3, run_keyThatStays hk, MapKept.run_setObj_map _ hb, Result.andThen, he, hf, hM]
end Go.Proofs.Ytooaelpfbamebaa.X
namespace Go.Proofs.Ytooaelpfbamebaa.X
open Go.RowKit Go.WideMaps Go.ChangeMaps
set_option linter.unusedSimpArgs false
set_option linter.unusedVariables false
def putJ (w : World) (g : Nat) (o : Obj) : World := { w with heap := w.heap.setIfInBounds g o }
theorem putJ_get {w : World} {g : Nat} {o o' : Obj} (h : w.heap[g]? = some o) : (putJ w g o').heap[g]? = some o' := (MapKept.heap_set h).1
theorem nodup_atI {l : List Int} (h : l.Nodup) {i j : Nat} {x : Int} (hi : l[i]? = some x) (hj : l[j]? = some x) : i = j := by
  obtain ⟨h1, rfl⟩ := List.getElem?_eq_some_iff.1 hi
  obtain ⟨h2, h3⟩ := List.getElem?_eq_some_iff.1 hj
  exact (List.getElem_inj h).1 h3.symm
def MapN (g : Nat) (L : List Int) : Ob := .of {
  sat := fun w F _ => HasSet w g L ∧ F g
  keep := fun ⟨h, f⟩ hk => ⟨(hk g (lt_of_heap h) (.inl f)).trans h, f⟩
  weak := fun ⟨h, f⟩ hf _ _ => ⟨h, hf g (lt_of_heap h) f⟩ }
section
variable {F0 I0 I : Fp} {w0 w : World} {O : List Ob}
theorem SH.hasSet (s : SH F0 I0 w0 O w I) (i : Nat) {g : Nat} {L : List Int} (e : O[i]? = some (MapN g L)) : HasSet w g L := by
  obtain ⟨c, bd, ini, Fs, h1, h2, h3⟩ := s
  exact (h1 i _ e).1
theorem SH.newSet (s : SH F0 I0 w0 O w I) : SH F0 I0 w0 (MapN w.heap.size [] :: O) (w.alloc (.map #[] 0)) I := by
  obtain ⟨I', s', hI⟩ := s.new (w' := w.alloc (.map #[] 0)) (h := MapN w.heap.size []) ⟨fun b => b = w.heap.size, No, ⟨heap_alloc_new w _, rfl⟩, fun b hb => ⟨by simp [hb], .inr (Nat.le_of_eq hb.symm)⟩, fun b hb => hb.elim, fun _ _ hb => hb, Chg.of_ext (Ext.alloc w _)⟩
  obtain ⟨c1, bd1, ini1, Fs1, h1, h2, h3⟩ := s
  refine ⟨s'.chg, fun b hb => Nat.lt_of_lt_of_le (bd1 b hb) (by simp), ini1, fun i => match i with | 0 => fun b => b = w.heap.size | i + 1 => Fs1 i, fun i hi e => ?_, fun i b hb => ?_, fun i j b hij hb hb' => ?_⟩
  · rcases i with _ | i
    · simp at e; subst e; exact ⟨heap_alloc_new w _, rfl⟩
    · exact hi.keep (h1 i hi (by simpa using e)) fun b hb _ => (Ext.alloc w _).block b hb
  · rcases i with _ | i
    · simp only at hb
      subst hb
      exact ⟨by simp, Or.inr c1.size, fun hI => Nat.lt_irrefl _ (bd1 _ hI)⟩
    · exact ⟨Nat.lt_of_lt_of_le (h2 i b hb).1 (by simp), (h2 i b hb).2⟩
  · rcases i with _ | i <;> rcases j with _ | j
    · exact hij rfl
    · simp only at hb; subst hb; exact Nat.lt_irrefl _ (h2 j _ hb').1
    · simp only at hb'; subst hb'; exact Nat.lt_irrefl _ (h2 i _ hb).1
    · exact h3 i j b (by omega) hb hb'
instance (w : World) (L : List Ob) (W : World) (L' : List Ob) [h : Built w L W L'] : Built1 w L (W.alloc (.map #[] 0)) (MapN W.heap.size [] :: L') := ⟨fun s => (h.out s).newSet⟩
theorem SH.addN (s : SH F0 I0 w0 O w I) (i : Nat) {g : Nat} {L : List Int} (e : O[i]? = some (MapN g L)) (k : Int) :
    SH F0 I0 w0 (O.set i (MapN g (L ++ [k]))) (putJ w g (.map (entsI (L ++ [k])).toArray (fstI (L ++ [k])).length)) I := by
  have hb := s.hasSet i e
  refine s.updI i e fun F ⟨_, hF⟩ hb' => ⟨F, ⟨putJ_get hb, hF⟩, fun b h => ⟨by rw [show (putJ w g (.map (entsI (L ++ [k])).toArray (fstI (L ++ [k])).length)).heap.size = w.heap.size by simp [putJ]]; exact (hb' b h).1, .inl h⟩, ⟨rfl, rfl, rfl, by simp [putJ], fun b hlt hn => ?_⟩⟩
  exact (MapKept.heap_set hb).2 b fun e => hn (e ▸ hF)
end
def ItN (r g n : Nat) (seen : Array Nat) : Ob := .of {
  sat := fun w F _ => w.heap[r]? = some (.mapIter (some g) n seen n) ∧ F r
  keep := fun ⟨h, f⟩ hk => ⟨(hk r (lt_of_heap h) (.inl f)).trans h, f⟩
  weak := fun ⟨h, f⟩ hf _ _ => ⟨h, hf r (lt_of_heap h) f⟩ }
section
variable {F0 I0 I : Fp} {w0 w : World} {O : List Ob}
theorem SH.hasItN (s : SH F0 I0 w0 O w I) (i : Nat) {r g n : Nat} {seen : Array Nat} (e : O[i]? = some (ItN r g n seen)) : w.heap[r]? = some (.mapIter (some g) n seen n) := by
  obtain ⟨c, bd, ini, Fs, h1, h2, h3⟩ := s
  exact (h1 i _ e).1
theorem SH.newItN (s : SH F0 I0 w0 O w I) (g n : Nat) : SH F0 I0 w0 (ItN w.heap.size g n #[] :: O) (w.alloc (.mapIter (some g) n #[] n)) I := by
  obtain ⟨I', s', hI⟩ := s.new (w' := w.alloc (.mapIter (some g) n #[] n)) (h := ItN w.heap.size g n #[]) ⟨fun b => b = w.heap.size, No, ⟨heap_alloc_new w _, rfl⟩, fun b hb => ⟨by simp [hb], .inr (Nat.le_of_eq hb.symm)⟩, fun b hb => hb.elim, fun _ _ hb => hb, Chg.of_ext (Ext.alloc w _)⟩
  obtain ⟨c1, bd1, ini1, Fs1, h1, h2, h3⟩ := s
  refine ⟨s'.chg, fun b hb => Nat.lt_of_lt_of_le (bd1 b hb) (by simp), ini1, fun i => match i with | 0 => fun b => b = w.heap.size | i + 1 => Fs1 i, fun i hi e => ?_, fun i b hb => ?_, fun i j b hij hb hb' => ?_⟩
  · rcases i with _ | i
    · simp at e; subst e; exact ⟨heap_alloc_new w _, rfl⟩
    · exact hi.keep (h1 i hi (by simpa using e)) fun b hb _ => (Ext.alloc w _).block b hb
  · rcases i with _ | i
    · simp only at hb
      subst hb
      exact ⟨by simp, Or.inr c1.size, fun hI => Nat.lt_irrefl _ (bd1 _ hI)⟩
    · exact ⟨Nat.lt_of_lt_of_le (h2 i b hb).1 (by simp), (h2 i b hb).2⟩
  · rcases i with _ | i <;> rcases j with _ | j
    · exact hij rfl
    · simp only at hb; subst hb; exact Nat.lt_irrefl _ (h2 j _ hb').1
    · simp only at hb'; subst hb'; exact Nat.lt_irrefl _ (h2 i _ hb).1
    · exact h3 i j b (by omega) hb hb'
theorem SH.stepItN (s : SH F0 I0 w0 O w I) (i : Nat) {r g n : Nat} {seen : Array Nat} (e : O[i]? = some (ItN r g n seen)) {w1 : World} (h1 : w1 = w ∨ w1 = w.drew) (b : Nat) :
    SH F0 I0 w0 (O.set i (ItN r g n (seen.push b))) (setBlock w1 r (.mapIter (some g) n (seen.push b) n)) I := by
  have s1 : SH F0 I0 w0 O w1 I := by rcases h1 with rfl | rfl; exact s; exact s.drew
  have hb := s1.hasItN i e
  refine s1.updI i e fun F ⟨_, hF⟩ hb' => ⟨F, ⟨(MapKept.heap_set hb).1, hF⟩, fun b h => ⟨by rw [show (setBlock w1 r (.mapIter (some g) n (seen.push _) n)).heap.size = w1.heap.size by simp [setBlock]]; exact (hb' b h).1, .inl h⟩, ⟨rfl, rfl, rfl, by simp [setBlock], fun b hlt hn => ?_⟩⟩
  exact (MapKept.heap_set hb).2 b fun e => hn (e ▸ hF)
end
/-- which keys have come out -/
def CameI (L : List Int) (seen : Array Nat) (ks : List Int) : Prop := ks.Nodup ∧ (∀ k ∈ ks, k ∈ fstI L) ∧ ∀ (j : Nat) (x : Int), (fstI L)[j]? = some x → (seen.contains j = true ↔ x ∈ ks)
theorem CameI.none (L : List Int) : CameI L #[] [] := ⟨List.nodup_nil, by simp, by simp⟩
theorem CameI.step {L : List Int} {seen : Array Nat} {ks : List Int} (h : CameI L seen ks) {e : MapEntry} (he : e ∈ (leftOf (entsI L).toArray seen).toList) : ∃ x, e.key = .int .i64 x ∧ e.val = .bool true ∧ e ∈ (entsI L) ∧ CameI L (seen.push e.born) (ks ++ [x]) := by
  obtain ⟨h1, h2, h3⟩ := h
  simp only [leftOf, Array.mem_toList_iff, Array.mem_filter, List.mem_toArray] at he
  obtain ⟨hm, hs⟩ := he
  obtain ⟨j, hj⟩ := List.mem_iff_getElem?.1 hm
  have hm0 := hm
  rw [entsI_get] at hj
  cases hf : (fstI L)[j]? with
  | none => rw [hf] at hj; cases hj
  | some x =>
    rw [hf] at hj
    simp only [Option.map_some, Option.some.injEq] at hj
    subst hj
    have hxk : x ∉ ks := fun hx => by
      have := (h3 j x hf).2 hx
      simp [entI] at hs
      simp at this
      exact hs this
    refine ⟨x, rfl, rfl, hm0, ?_, ?_, ?_⟩
    · rw [List.nodup_append]
      exact ⟨h1, by simp, fun a ha b hb => by rw [List.mem_singleton] at hb; subst hb; exact fun e => hxk (e ▸ ha)⟩
    · intro k hk
      rw [List.mem_append, List.mem_singleton] at hk
      rcases hk with hk | rfl
      · exact h2 k hk
      · exact List.mem_of_getElem? hf
    · intro j' x' hx'
      have h4 := h3 j' x' hx'
      simp only [Array.contains_iff_mem, Array.mem_push, List.mem_append, List.mem_singleton, entI] at h4 ⊢
      rw [h4]
      constructor
      · rintro (h5 | rfl)
        · exact .inl h5
        · rw [hf] at hx'; injection hx' with hx'; exact .inr hx'.symm
      · rintro (h5 | rfl)
        · exact .inl h5
        · exact .inr (nodup_atI (fstI_nodup L) hx' hf)
theorem nodup_lenI : ∀ {ks l : List Int}, ks.Nodup → (∀ k ∈ ks, k ∈ l) → ks.length ≤ l.length
  | [], l, _, _ => Nat.zero_le _
  | k :: r, l, h, hs => by
    rw [List.nodup_cons] at h
    have hk := hs k (by simp)
    have := @nodup_lenI r (l.erase k) h.2 fun x hx => (List.mem_erase_of_ne (fun e : x = k => h.1 (by rw [← e]; exact hx))).2 (hs x (List.mem_cons_of_mem _ hx))
    rw [List.length_erase_of_mem hk] at this
    have h2 := List.length_pos_of_mem hk
    rw [List.length_cons]
    omega
theorem fstI_len (L : List Int) : (fstI L).length ≤ L.length := nodup_lenI (fstI_nodup L) fun k hk => (fstI_mem L k).1 hk
theorem CameI.len {L : List Int} {seen : Array Nat} {ks : List Int} (h : CameI L seen ks) : ks.length ≤ (fstI L).length := nodup_lenI h.1 h.2.1
theorem CameI.all {L : List Int} {seen : Array Nat} {ks : List Int} (h : CameI L seen ks) (h0 : (leftOf (entsI L).toArray seen).size = 0) : ks.Perm (fstI L) := by
  obtain ⟨h1, h2, h3⟩ := h
  refine (List.perm_ext_iff_of_nodup h1 (fstI_nodup L)).2 fun x => ⟨h2 x, fun hx => ?_⟩
  obtain ⟨j, hj⟩ := List.mem_iff_getElem?.1 hx
  refine (h3 j x hj).1 ?_
  have he := entsI_get L j
  rw [hj] at he
  have hm := List.mem_of_getElem? he
  rw [Array.size_eq_zero_iff] at h0
  unfold leftOf at h0
  rw [Array.filter_eq_empty_iff] at h0
  have := h0 _ (by simpa using hm)
  simpa [entI] using this
theorem entsI_born (L : List Int) : (entsI L).map (·.born) = List.range (fstI L).length := by
  apply List.ext_getElem?
  intro j
  rw [List.getElem?_map, entsI_get]
  by_cases h : j < (fstI L).length
  · rw [List.getElem?_eq_getElem h, List.getElem?_range h]; rfl
  · rw [List.getElem?_eq_none (by omega), List.getElem?_eq_none (by simp; omega)]; rfl
theorem bornI_nodup (L : List Int) : ((entsI L).toArray.toList.map (·.born)).Nodup := by
  show ((entsI L).map (·.born)).Nodup
  rw [entsI_born]
  exact List.nodup_range
theorem bornI_lt (L : List Int) : ∀ x ∈ (entsI L).toArray.toList, x.born < (fstI L).length := fun x hx => by
  have : x.born ∈ (entsI L).map (·.born) := List.mem_map.2 ⟨x, hx, rfl⟩
  rw [entsI_born] at this
  exact List.mem_range.1 this
end Go.Proofs.Ytooaelpfbamebaa.X
