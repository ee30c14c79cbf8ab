/- copy, append of made ones, and slices.Insert of one edge. -/
import Derived.Test.YtpgphhkhjbhimaaTri2
import Derived.Test.YtpgphhkhjbhimaaMix
import Derived.Lib.Overlaps
import Derived.Laws.Externs
import Derived.Laws.CopyRow
namespace Go.Proofs.Ytpgphhkhjbhimaa.X
open Go.RowKit
set_option maxHeartbeats 400000
set_option maxRecDepth 8000

section
variable {P : Program} {ops : Array Oper} {rest : List Oper} {o : Oper} {a : Act} {w : World} {Q : Exit → Act → World → Prop}
theorem addr0 (g o j : Nat) : (⟨g, o, none⟩ : Addr).add j = ⟨g, o + j, none⟩ := by unfold Addr.add; split <;> simp_all
/-- copy into a block that is known whole -/
theorem wpList_copyN (hgd : o.guard = none) (d s : Operand) (dT sT : TypeId) (ho : o.op = .call { callee := .builtin .copy, args := #[d, s], argTypes := #[dT, sT] }) (e : TypeId) (hu : P.underlying dT = some (.slice e))
    (size : Nat) (hsz : (P.info? e).map (·.size) = some size) (g off dLen dCap : Nat) (ad : Addr) (sLen sCap : Nat) (hd : a.eval d = .slice (some ⟨g, off, none⟩) dLen dCap) (hs : a.eval s = .slice (some ad) sLen sCap)
    (cur : List Value) (t : TypeId) (hg : w.heap[g]? = some (.cells cur.toArray t (0, 0))) (cs : List Value) (n : Nat) (hn : n = Nat.min sLen dLen) (hcl : cs.length = n * size)
    (hsrc : ∀ j v, cs[j]? = some v → w.cell? (ad.add j) = some v) (hfit : off + cs.length ≤ cur.length) (h1 : ∀ v ∈ cs, v.oneCell' = true)
    (h : ∀ w', As (w'.heap[g]? = some (.cells (cur.take off ++ cs ++ cur.drop (off + cs.length)).toArray t (0, 0))) → As (w.grownBy w' (some g)) → wpList P ops Q rest (a.put o.dst (goInt n)) w') : wpList P ops Q (o :: rest) a w := by
  refine wpList_plain hgd fun K hK => ?_
  have hl := run_loadCells_list (P := P) w ad cs hsrc
  have hst := run_storeCells_at P g off t cs 0 cur.toArray w hg (by simpa using hfit) h1
  cases hq : P.info? e with
  | none => simp [hq] at hsz
  | some i =>
    have hi : i.size = size := by simpa [hq] using hsz
    have hrun : (Builtin.copy_ #[dT, sT] o.type #[.slice (some ⟨g, off, none⟩) dLen dCap, .slice (some ad) sLen sCap]).run P w = .ok (goInt n) (w.setRow g (cur.take off ++ cs ++ cur.drop (off + cs.length)).toArray) := by
      simp [Builtin.copy_, run_underlying hu, Builtin.lenOf, Builtin.firstCells, sizeOf, typeInfo, hq, hi, ← hn, ← hcl, hl]
      simp at hst
      simp [hst]
    unfold Oper.wp execOp
    simp only [ho, resolve, invoke, builtin, Sem.run_bind, Sem.run_pure, Result.andThen_ok, List.map_toArray, List.map_cons, List.map_nil, hd, hs, hrun]
    refine hK _ _ (h _ ⟨?_⟩ ⟨?_⟩)
    · simp [World.setRow, Array.getElem?_modify, hg]
    · exact ⟨rfl, rfl, rfl, by simp, fun k hk hne => by simp only [World.setRow, Array.getElem?_modify]; rw [if_neg (fun e => hne (by rw [e]))]⟩
/-- 'append(out, x)' onto whatever row is owned -/
theorem wpList_pushB {α : Type} {k : Kd α} {t : TypeId} {bytes : Nat} (hgd : o.guard = none) (s x : Operand) (ho : o.op = .call { callee := .builtin .append, args := #[s, x], argTypes := #[t, t] }) (T : TyOk P t k bytes)
    (B : Nat) (hB : B ≤ w.heap.size) (D : Nat → Prop) (v : Value) (xs : List α) (hs : a.eval s = v) (hown : As (Own k w B D v xs)) (y : α) (g c : Nat) (hx : a.eval x = .slice (some ⟨g, 0, none⟩) 1 c) (cs : List Value) (e' : TypeId) (fr : Nat × Nat)
    (hg : w.heap[g]? = some (.cells cs.toArray e' fr)) (hr : k.rel w D y cs)
    (h63 : xs.length + 1 ≤ maxLen) (hbytes : (xs.length + 1) * bytes ≤ 140737488355328) (hDB : ∀ b, D b → b < w.heap.size)
    (h : ∀ v' w', As (Own k w' B D v' (xs ++ [y])) → As (w.grownBy w' v.ownBlock ∧ (v'.ownBlock = v.ownBlock ∨ v'.ownBlock = some w.heap.size)) → wpList P ops Q rest (a.put o.dst v') w') : wpList P ops Q (o :: rest) a w := by
  refine wpList_plain hgd fun _ hK => wp_app s x ho T B D v xs [y] hs hown.out (some ⟨g, 0, none⟩) c hx cs (Flat.single hr) (fun _ => ⟨_, rfl, fun j u hj => ?_⟩) h63 hbytes hB hDB fun v' w' h2 h3 h4 =>
    hK _ _ (h v' w' ⟨h2⟩ ⟨h3, h4⟩)
  rw [addr0, Nat.zero_add]
  exact cell_of_heap hg (by simpa using hj)
/-- 'append(s, make([]E, k)...)' where there is no room -/
theorem wpList_appendMake (hgd : o.guard = none) (s x : Operand) (t ti e : TypeId) (ho : o.op = .call { callee := .builtin .append, args := #[s, x], argTypes := #[t, ti] }) (ht : P.underlying t = some (.slice e)) (hti : P.underlying ti = some (.int .i64))
    (i : TypeInfo) (hi : P.info? e = some i) (z : Value) (hz : i.zero = some z) (hzs : z.cells.size = i.size)
    (b : Addr) (sLen sCap k : Nat) (hs : a.eval s = .slice (some b) sLen sCap) (hx : a.eval x = .int .i64 (k : Int)) (olds : List Value) (hlo : olds.length = sLen * i.size) (holds : ∀ j v, olds[j]? = some v → w.cell? (b.add j) = some v)
    (hg : sCap < sLen + k) (hfit : (sLen + k) * i.bytes ≤ 140737488355328) (hb : 0 < i.bytes)
    (h : ∀ cap Z w', sLen + k ≤ cap → cap ≤ maxLen → Z.length = (cap - sLen) * i.size → As (w'.heap[w.heap.size]? = some (.cells (olds ++ Z).toArray e (0, 0))) → As (Ext w w' ∧ w.heap.size < w'.heap.size) →
      wpList P ops Q rest (a.put o.dst (.slice (some ⟨w.heap.size, 0, none⟩) (sLen + k) cap)) w') : wpList P ops Q (o :: rest) a w := by
  refine wpList_plain hgd fun K hK => ?_
  have hk : k * i.bytes ≤ 140737488355328 := Nat.le_trans (Nat.mul_le_mul_right _ (Nat.le_add_left _ _)) hfit
  have hk2 : k ≤ 140737488355328 := Nat.le_trans (Nat.le_mul_of_pos_right _ hb) hk
  have hs2 : sLen + k ≤ 140737488355328 := Nat.le_trans (Nat.le_mul_of_pos_right _ hb) hfit
  have h1 : ¬ ((k : Int) * (i.bytes : Int) > 2 ^ 48) := by
    have : ((k * i.bytes : Nat) : Int) ≤ 140737488355328 := by omega
    rw [Int.natCast_mul] at this
    omega
  have hfits := growslice_fits (need := sLen + k) (old := sCap) hg hfit
  have hfo := run_firstCells_some (P := P) w.drew i.size sLen b sLen sCap olds hlo (by simpa using holds)
  have hn : ¬ (sLen + k ≤ sCap) := by omega
  have hw : IntKind.i64.wrap (k : Int) = (k : Int) := by rw [IntKind.wrap_i64]; omega
  have hneg : ¬ ((k : Int) < 0) := by omega
  have h63' : ¬ (9223372036854775807 < ((sLen : Int) + (k : Int))) := by omega
  have h48 : ¬ (281474976710656 < (k : Int) * (i.bytes : Int)) := by omega
  have h48' : ¬ (281474976710656 < Builtin.nextslicecap (sLen + k) sCap * i.bytes) := by omega
  have hcg := grownCap_ge w (sLen + k) sCap e
  have hcm := grownCap_le_maxLen w (sLen + k) sCap e (by unfold maxLen; omega)
  have happ : ∃ Z : List Value, Z.length = (grownCap w (sLen + k) sCap e - sLen) * i.size ∧ (Builtin.append_ #[t, ti] o.type #[.slice (some b) sLen sCap, .int .i64 (k : Int)]).run P w =
      .ok (.slice (some ⟨w.heap.size, 0, none⟩) (sLen + k) (grownCap w (sLen + k) sCap e)) (w.drew.alloc (.cells (olds ++ Z).toArray e)) := by
    by_cases hks : k * i.size = 0
    · refine ⟨(Builtin.zeroCells z.cells (grownCap w (sLen + k) sCap e - (sLen + k))).toList, ?_, ?_⟩
      · rw [Array.length_toList, size_zeroCells, hzs, Nat.sub_mul, Nat.sub_mul, Nat.add_mul, hks, Nat.add_zero]
      · simp [Builtin.append_, run_underlying ht, run_underlying hti, asInt, asIntOf, sizeOf, typeInfo, zeroValue, hi, hz, hw, hneg, h48, hks, hn, h63', h48', Question.forced, hfo, newRow, grownCap]
        congr 2
        apply Array.ext'
        simp
    · refine ⟨(Builtin.zeroCells z.cells k).toList ++ (Builtin.zeroCells z.cells (grownCap w (sLen + k) sCap e - (sLen + k))).toList, ?_, ?_⟩
      · rw [List.length_append, Array.length_toList, Array.length_toList, size_zeroCells, size_zeroCells, hzs, ← Nat.add_mul]; congr 1; omega
      · simp [Builtin.append_, run_underlying ht, run_underlying hti, asInt, asIntOf, sizeOf, typeInfo, zeroValue, hi, hz, hw, hneg, h48, hks, hn, h63', h48', Question.forced, hfo, newRow, grownCap]
        congr 2
        apply Array.ext'
        simp
  obtain ⟨Z, hZ, hrun⟩ := happ
  unfold Oper.wp execOp
  simp only [ho, resolve, invoke, builtin, Sem.run_bind, Sem.run_pure, Result.andThen_ok, List.map_toArray, List.map_cons, List.map_nil, hs, hx, hrun]
  exact hK _ _ (h _ Z _ hcg hcm hZ ⟨heap_alloc_new w.drew _⟩ ⟨⟨rfl, rfl, rfl, by simp, fun k hk => Below.heap_alloc w.drew _ k hk⟩, by simp⟩)
end

/-! ### Lists of pieces of two -/
theorem drop_flat {α β : Type} (f : α → List β) (m : Nat) (hf : ∀ x, (f x).length = m) : ∀ (xs : List α) (i : Nat), (xs.flatMap f).drop (i * m) = (xs.drop i).flatMap f
  | xs, 0 => by simp
  | [], i + 1 => by simp
  | x :: xs, i + 1 => by
    rw [List.flatMap_cons, List.drop_succ_cons, ← drop_flat f m hf xs i, Nat.succ_mul, Nat.add_comm, ← List.drop_drop]
    congr 1
    rw [List.drop_append_of_le_length (by rw [hf]; omega), List.drop_of_length_le (by rw [hf]; omega), List.nil_append]
theorem take_flat {α β : Type} (f : α → List β) (m : Nat) (hf : ∀ x, (f x).length = m) : ∀ (xs : List α) (i : Nat), (xs.flatMap f).take (i * m) = (xs.take i).flatMap f
  | xs, 0 => by simp
  | [], i + 1 => by simp
  | x :: xs, i + 1 => by
    rw [List.flatMap_cons, List.take_succ_cons, List.flatMap_cons, ← take_flat f m hf xs i, Nat.succ_mul, Nat.add_comm, List.take_add, List.take_append_of_le_length (by rw [hf]; omega), List.take_of_length_le (by rw [hf]; omega)]
    congr 1
    rw [List.drop_append_of_le_length (by rw [hf]; omega), List.drop_of_length_le (by rw [hf]; omega), List.nil_append]
theorem len_flat {α β : Type} (f : α → List β) (m : Nat) (hf : ∀ x, (f x).length = m) : ∀ (xs : List α), (xs.flatMap f).length = xs.length * m
  | [] => by simp
  | x :: xs => by rw [List.flatMap_cons, List.length_append, hf, len_flat f m hf xs, List.length_cons, Nat.succ_mul, Nat.add_comm]
theorem grown_undrew {w w' : World} {row : Option Nat} (h : w.drew.grownBy w' row) : w.grownBy w' row := ⟨h.os, h.tape, h.output, h.size, h.block⟩
theorem new2 {α : Type} (T Z E : List α) (p : Nat) (hT : T.length = p) : ((T ++ Z).take p ++ E ++ (T ++ Z).drop (p + E.length)).take (p + E.length) = T ++ E := by
  subst hT
  rw [List.take_left, List.take_append_of_le_length (by rw [List.length_append]; omega), List.take_of_length_le (by rw [List.length_append]; omega)]
theorem shift2 {α : Type} (cur S E : List α) (p : Nat) (h : p + E.length ≤ cur.length) : (cur.take (p + E.length) ++ S ++ cur.drop (p + E.length + S.length)).take p ++ E ++ (cur.take (p + E.length) ++ S ++ cur.drop (p + E.length + S.length)).drop (p + E.length) =
    cur.take p ++ E ++ S ++ cur.drop (p + E.length + S.length) := by
  have h1 : (cur.take (p + E.length)).length = p + E.length := by rw [List.length_take]; omega
  rw [List.append_assoc (cur.take (p + E.length)), List.take_append_of_le_length (by omega), List.take_take, Nat.min_eq_left (by omega), List.drop_append_of_le_length (by omega), List.drop_of_length_le (by omega), List.nil_append, List.append_assoc, List.append_assoc, List.append_assoc]
end Go.Proofs.Ytpgphhkhjbhimaa.X
namespace Go.Proofs.Ytpgphhkhjbhimaa
open Go.RowKit X
set_option maxHeartbeats 400000
set_option maxRecDepth 8000
def encE (x : Int × Int) : List Value := [.int .u64 x.1, .int .i64 x.2]
theorem encE_len (x : Int × Int) : (encE x).length = 2 := rfl
theorem flatE {w : World} {D : Nat → Prop} {xs : List (Int × Int)} {cells : List Value} : Flat kE w D xs cells ↔ cells = xs.flatMap encE := by
  constructor
  · rintro ⟨h1, h2⟩
    induction xs generalizing cells with
    | nil => exact List.eq_nil_of_length_eq_zero (by simpa using h1)
    | cons x xs ih =>
      have h0 := h2 0 (by simp)
      have e0 : cells.take 2 = encE x := by simpa [kE, encE] using h0
      have hl : cells.length = xs.length * 2 + 2 := by rw [h1, List.length_cons]; show (xs.length + 1) * 2 = _; omega
      rw [List.flatMap_cons, ← ih (cells := cells.drop 2) (by rw [List.length_drop, hl]; rfl) (fun i hi => ?_), ← e0, List.take_append_drop]
      have := h2 (i + 1) (by simpa using hi)
      rw [List.drop_drop]
      have e2 : 2 + i * kE.size = (i + 1) * kE.size := by show 2 + i * 2 = (i + 1) * 2; omega
      rw [e2]
      simpa using this
  · rintro rfl
    refine ⟨len_flat encE 2 encE_len xs, fun i hi => ?_⟩
    show ((xs.flatMap encE).drop (i * 2)).take 2 = encE xs[i]
    rw [drop_flat encE 2 encE_len, List.drop_eq_getElem_cons hi, List.flatMap_cons, List.take_append_of_le_length (by rw [encE_len]; omega), List.take_of_length_le (by rw [encE_len]; omega)]
theorem encE_one (xs : List (Int × Int)) : ∀ v ∈ xs.flatMap encE, v.oneCell' = true := by
  intro v hv
  obtain ⟨x, _, hx⟩ := List.mem_flatMap.1 hv
  simp only [encE, List.mem_cons, List.not_mem_nil, or_false] at hx
  rcases hx with rfl | rfl <;> rfl

/-- an edge put in -/
def insE (xs : List (Int × Int)) (i : Nat) (y : Int × Int) : List (Int × Int) := xs.take i ++ [y] ++ xs.drop i

theorem insert_c (xs : List (Int × Int)) (i : Nat) (y : Int × Int) (v : Value) (B gb : Nat) (w : World) (ho : Own kE w B No v xs) (hi : i ≤ xs.length) (hn : xs.length ≤ 1048576)
    (hy : w.heap[gb]? = some (.cells #[.int .u64 y.1, .int .i64 y.2] 88 (0, 0))) (hgb : v.ownBlock ≠ some gb) (hB : B ≤ w.heap.size) :
    Calls Try.prog 48 #[v, .int .i64 i, .slice (some ⟨gb, 0, none⟩) 1 1] w fun e w' => ∃ v', e = .returned v' ∧ Own kE w' B No v' (insE xs i y) ∧ w.grownBy w' v.ownBlock ∧
      (v'.ownBlock = v.ownBlock ∨ ∃ g, v'.ownBlock = some g ∧ w.heap.size ≤ g) := by
  obtain ⟨A, c, rfl, hc, hA⟩ := ho.form
  by_cases hin : i = xs.length
  · subst hin
    have HO := As.mk ho
    have HX := As.mk hB
    have e1 : insE xs xs.length y = xs ++ [y] := by simp [insE]
    have q : (((xs.length : Int)) == (xs.length : Int)) = true := by simp
    have HB := As.mk hgb
    clear ho hA hgb
    rcases Nat.eq_or_lt_of_le hc with rfl | hcl
    · go_enter Try.func48, Try.ntmps48
      go_wp2_with (first | (at_builtin; refine wpList_pushB rfl _ _ rfl ty_edges B hB No (.slice A xs.length xs.length) xs rfl HO y gb 1 rfl [.int .u64 y.1, .int .i64 y.2] 88 (0, 0) hy rfl (by simp only [maxLen]; omega) (by omega) (fun _ h => h.elim) ?_; intro v1 w1 HO1 HG1))
      go_ret
      refine ⟨v1, rfl, e1 ▸ HO1.out, HG1.out.1, ?_⟩
      rcases HG1.out.2 with h | h
      · exact .inl h
      · exact .inr ⟨_, h, Nat.le_refl _⟩
    · have hcn : ¬ c = xs.length := by omega
      go_enter Try.func48, Try.ntmps48
      go_wp2_with (first | (at_builtin; refine wpList_pushB rfl _ _ rfl ty_edges B hB No (.slice A xs.length c) xs rfl HO y gb 1 rfl [.int .u64 y.1, .int .i64 y.2] 88 (0, 0) hy rfl (by simp only [maxLen]; omega) (by omega) (fun _ h => h.elim) ?_; intro v1 w1 HO1 HG1))
      go_ret
      refine ⟨v1, rfl, e1 ▸ HO1.out, HG1.out.1, ?_⟩
      rcases HG1.out.2 with h | h
      · exact .inl h
      · exact .inr ⟨_, h, Nat.le_refl _⟩
  · have hlt : i < xs.length := by omega
    obtain ⟨g, rfl, hg⟩ := hA (by rintro rfl; simp at hlt)
    have q : ((i : Int) == (xs.length : Int)) = false := by simp; omega
    have hHI := hi
    obtain ⟨cells, ⟨hr, _⟩, hf⟩ := ho
    rw [flatE] at hf
    subst hf
    rcases hr.2 with ⟨e, _⟩ | ⟨g', cap, cur, e, hBg, hh, hcc, hcm, hsz, htk⟩
    · cases e
    cases e
    have hc1 : ¬ c = i := by omega
    have hgne : g ≠ gb := fun h => hgb (by rw [h]; rfl)
    have hsz' : cur.size = c * 2 := hsz
    have htk' : cur.toList.take (xs.length * 2) = xs.flatMap encE := htk
    have hcell : ∀ j u, (xs.flatMap encE)[j]? = some u → w.cell? ⟨g, j, none⟩ = some u := fun j u hj => by
      rw [← htk', List.getElem?_take] at hj
      split at hj
      · exact cell_of_heap hh (by simpa using hj)
      · cases hj
    have hfl := len_flat encE 2 encE_len xs
    have hsrc : ∀ j u, ((xs.drop i).flatMap encE)[j]? = some u → w.cell? ((⟨g, i * 2, none⟩ : Addr).add j) = some u := fun j u hj => by
      rw [addr0]
      rw [← drop_flat encE 2 encE_len, List.getElem?_drop] at hj
      exact hcell _ _ hj
    have hsrcL : ((xs.drop i).flatMap encE).length = (xs.length - i) * 2 := by rw [len_flat encE 2 encE_len, List.length_drop]
    have hty : (Try.prog.info? 88).map (·.size) = some 2 := by kernel_rfl
    have fin : ∀ rest : List Value, (xs.take i).flatMap encE ++ encE y ++ (xs.drop i).flatMap encE ++ rest = (insE xs i y).flatMap encE ++ rest := fun rest => by simp [insE, List.flatMap_append]
    have finL : ((insE xs i y).flatMap encE).length = (xs.length + 1) * 2 := by rw [len_flat encE 2 encE_len]; simp [insE]; omega
    have insL : (insE xs i y).length = xs.length + 1 := by simp [insE]; omega
    have takL : ((xs.take i).flatMap encE).length = i * 2 := by rw [len_flat encE 2 encE_len, List.length_take]; congr 1; omega
    by_cases hroom : xs.length + 1 ≤ c
    · -- in place
      have hov : ∀ w1 : World, As (w1.heap[g]? = some (.cells cur 88 (0, 0))) → As (w1.heap[gb]? = some (.cells #[.int .u64 y.1, .int .i64 y.2] 88 (0, 0))) → ∀ lb cb, (callFunc 62 #[.slice (some ⟨gb, 0, none⟩) 1 1, .slice (some ⟨g, (i + 1) * 2, none⟩) lb cb]).run Try.prog w1 = .ok (.value (.bool false)) w1 := fun w1 h1 h2 lb cb => by
        rw [run_callFunc_extern Try.func62 (by kernel_rfl) (by kernel_rfl) (by kernel_rfl) (e := Extern.SlicesOverlaps.overlaps #[76, 76] #[4]) (by kernel_rfl),
          Lib.run_overlaps_apart w1 76 4 88 Try.underlying76 2 (fun w => by kernel_rfl) ⟨gb, 0, none⟩ ⟨g, (i + 1) * 2, none⟩ 1 1 lb cb (Ne.symm hgne) 88 88 2 (c * 2) (by simp [World.shape?, h2.out]) (by simp [World.shape?, h1.out, hsz']) (by omega)
            (by simp [World.frozen?, h2.out]) (by simp [World.frozen?, h2.out])]
        rfl
      have HH := As.mk hh
      have HY := As.mk hy
      have hov1 := hov w HH HY
      have hc2 : ¬ c = i + 1 := by omega
      have h1i : ((xs.length : Int) + 1 > (c : Int)) = False := by simp; omega
      clear hov hh hy hg hA hr htk hcell
      have HL := As.mk hsrcL
      have HS := As.mk hsrc
      have HFL := As.mk hfl
      have cl : cur.toList.length = c * 2 := by simpa using hsz'
      have HCL := As.mk cl
      have HTK := As.mk htk'
      have HCM := As.mk hcm
      clear cl hsz hsz' hsrcL hsrc hfl htk' hcc hcm hc
      go_enter Try.func48, Try.ntmps48
      go_wp2_with fail
      refine wp_region_ext [⟨[0, 1, 2, 3, 4, 5, 6, 7], [], 8, false⟩] [] (by kernel_rfl) (by kernel_rfl) ?_
      refine mix_cons rfl rfl rfl ?_
      simp only [opsAt, List.getD_cons_succ, List.getD_cons_zero]
      repeat (go_big_quiet_step ((intro hC; first | rfl | (go_simp; first | done | rfl))))
      refine wpQuiet_nil ?_
      repeat (go_big_quiet_step ((intro hC; first | rfl | (go_simp; first | done | rfl))))
      refine wpQuiet_nil ?_
      refine wpList_copyN rfl _ _ _ _ rfl 88 Try.underlying76 2 hty g ((i + 1) * 2) (xs.length - i) _ ⟨g, i * 2, none⟩ (xs.length + 1 - i) _ rfl rfl cur.toList 88 (show w.heap[g]? = some (.cells cur.toList.toArray 88 (0, 0)) from by rw [Array.toArray_toList]; exact HH.out) ((xs.drop i).flatMap encE) (xs.length - i) (by simp [Nat.min_def]; omega) HL.out HS.out (by have := HCL.out; have := HL.out; omega) (encE_one _) ?_
      intro w1 H1 G1
      go_wp2
      refine ⟨(fun h => by cases h), mix_done ?_⟩
      simp only [calmQ]
      have HY1 : As (w1.heap[gb]? = some (.cells #[.int .u64 y.1, .int .i64 y.2] 88 (0, 0))) := ⟨(G1.out.block gb (lt_of_heap HY.out) (fun e => by cases e; exact hgne rfl)).trans HY.out⟩
      have hy2 : ∀ j u, ([Value.int .u64 y.1, .int .i64 y.2] : List Value)[j]? = some u → w1.cell? ((⟨gb, 0, none⟩ : Addr).add j) = some u := fun j u hj => by
        rw [addr0, Nat.zero_add]; exact cell_of_heap HY1.out (by simpa using hj)
      have HY2 := As.mk hy2
      clear hy2 hov1
      have hfit2 : i * 2 + [Value.int .u64 y.1, .int .i64 y.2].length ≤ (cur.toList.take ((i + 1) * 2) ++ (xs.drop i).flatMap encE ++ cur.toList.drop ((i + 1) * 2 + ((xs.drop i).flatMap encE).length)).length := by
        have := HCL.out; have := HL.out; simp only [List.length_append, List.length_take, List.length_drop, List.length_cons, List.length_nil]; omega
      go_wp2_with (first | (refine wpList_copyN rfl _ _ _ _ rfl 88 Try.underlying76 2 hty g (i * 2) (xs.length + 1 - i) _ ⟨gb, 0, none⟩ 1 _ rfl rfl _ 88 H1.out [.int .u64 y.1, .int .i64 y.2] 1 (by simp [Nat.min_def]; omega) rfl HY2.out hfit2 (by simp [Value.oneCell']) ?_; intro w2 H2 G2))
      go_ret
      have hfin : (List.take (i * 2) (cur.toList.take ((i + 1) * 2) ++ (xs.drop i).flatMap encE ++ cur.toList.drop ((i + 1) * 2 + ((xs.drop i).flatMap encE).length)) ++ [Value.int .u64 y.1, .int .i64 y.2] ++
          List.drop (i * 2 + [Value.int .u64 y.1, .int .i64 y.2].length) (cur.toList.take ((i + 1) * 2) ++ (xs.drop i).flatMap encE ++ cur.toList.drop ((i + 1) * 2 + ((xs.drop i).flatMap encE).length))) =
          (insE xs i y).flatMap encE ++ cur.toList.drop ((xs.length + 1) * 2) := by
        have h0 : cur.toList.take (i * 2) = (xs.take i).flatMap encE := by
          rw [← take_flat encE 2 encE_len, ← HTK.out, List.take_take, Nat.min_eq_left (by omega)]
        have h1 := shift2 cur.toList ((xs.drop i).flatMap encE) (encE y) (i * 2) (by have := HCL.out; rw [encE_len]; omega)
        rw [encE_len, show i * 2 + 2 = (i + 1) * 2 by omega] at h1
        rw [← fin, ← h0]
        show List.take (i * 2) _ ++ encE y ++ List.drop (i * 2 + 2) _ = _
        rw [show i * 2 + 2 = (i + 1) * 2 by omega]
        refine h1.trans ?_
        rw [show (i + 1) * 2 + ((xs.drop i).flatMap encE).length = (xs.length + 1) * 2 by rw [HL.out]; omega]
      rw [hfin] at H2
      refine ⟨_, rfl, ⟨_, ⟨⟨finL.trans (by rw [insL]; rfl), .inr ⟨g, c, ((insE xs i y).flatMap encE ++ cur.toList.drop ((xs.length + 1) * 2)).toArray, by rw [insL]; rfl, hBg, H2.out, by rw [insL]; omega, HCM.out, ?_, ?_⟩⟩, fun _ _ h => h⟩, flatE.2 rfl⟩, (grown_undrew G1.out).trans G2.out, .inl rfl⟩
      · show ((insE xs i y).flatMap encE ++ cur.toList.drop ((xs.length + 1) * 2)).toArray.size = c * 2
        rw [List.size_toArray, List.length_append, finL, List.length_drop, HCL.out]; omega
      · show List.take ((insE xs i y).length * 2) ((insE xs i y).flatMap encE ++ cur.toList.drop ((xs.length + 1) * 2)) = _
        rw [insL, ← finL, List.take_left]
    · -- a new row
      have HL := As.mk hsrcL
      have HS := As.mk hsrc
      have HH := As.mk hh
      have HY := As.mk hy
      have HB := As.mk hgb
      have ki : ((xs.length : Int) + 1 - i).toNat = xs.length + 1 - i := by omega
      have kc : ((xs.length + 1 - i : Nat) : Int) = (xs.length : Int) + 1 - i := by omega
      have hT : ∀ j u, ((xs.take i).flatMap encE)[j]? = some u → w.cell? ((⟨g, 0, none⟩ : Addr).add j) = some u := fun j u hj => by
        rw [addr0, Nat.zero_add]
        rw [← take_flat encE 2 encE_len, List.getElem?_take] at hj
        split at hj
        · exact hcell _ _ hj
        · cases hj
      have HT := As.mk hT
      obtain ⟨i0, z, e1, e2, e3, e4, e5⟩ := ty_edges.inf
      have e3' : i0.size = 2 := e3
      have e4' : i0.bytes = 16 := e4
      have E2 := As.mk e2
      have E3 := As.mk e3'
      have E4 := As.mk e4'
      have E5 := As.mk e5
      have E1 := As.mk e1
      have KC := As.mk kc
      have hh1 : ((xs.length : Int) + 1 > (c : Int)) = True := by simp; omega
      clear hT hsrc hsrcL hh hy hgb hr htk hcell hA hg e1 e2 e3 e3' e4 e4' e5 kc hsz hsz' hcm hfl htk'
      have hi0 : (0 : Int) ≤ (xs.length : Int) + 1 - i := by omega
      go_enter Try.func48, Try.ntmps48
      have hsum : i + (xs.length + 1 - i) = xs.length + 1 := by omega
      have HSUM := As.mk hsum
      clear hsum
      go_wp2_with (first | (at_builtin; refine wpList_appendMake rfl _ _ _ _ 88 rfl Try.underlying76 Try.underlying3 i0 E1.out z E2.out (E5.out.trans (by rw [E3.out]; rfl)) ⟨g, 0, none⟩ i c (xs.length + 1 - i) (by rfl) (by rw [KC.out]; rfl) ((xs.take i).flatMap encE) (by rw [E3.out]; exact takL) HT.out (by omega) (by rw [E4.out]; omega) (by rw [E4.out]; omega) ?_; intro cap Z w1 hc3 hc4 hZ H1 G1; rw [HSUM.out] at hc3 ⊢; have hZ2 : Z.length = (cap - i) * 2 := (hZ.trans (by rw [E3.out]))) | (refine wpList_copyN rfl _ _ _ _ rfl 88 Try.underlying76 2 hty w.heap.size (i * 2) (xs.length + 1 - i) _ ⟨gb, 0, none⟩ 1 _ rfl rfl ((xs.take i).flatMap encE ++ Z) 88 H1.out [.int .u64 y.1, .int .i64 y.2] 1 (by simp [Nat.min_def]; omega) rfl (fun j u hj => by rw [addr0, Nat.zero_add]; exact cell_of_heap (G1.out.1.heap HY.out) (by simpa using hj)) (by simp only [List.length_append, takL, hZ2, List.length_cons, List.length_nil]; omega) (by simp [Value.oneCell']) ?_; intro w2 H2 G2))
      simp only [Act.put, List.setIfInBounds_toArray, List.set_cons_succ, List.set_cons_zero]
      have G12 : As (Ext w w2) := ⟨G1.out.1.grown G2.out G1.out.1.size (fun k e => by cases e; exact Nat.le_refl _)⟩
      refine wp_region_ext [⟨[0, 1, 2, 3, 4, 5, 6, 7], [], 8, false⟩] [] (by kernel_rfl) (by kernel_rfl) ?_
      refine mix_cons rfl rfl rfl ?_
      simp only [opsAt, List.getD_cons_succ, List.getD_cons_zero]
      repeat (go_big_quiet_step ((intro hC; first | rfl | (go_simp; first | done | rfl))))
      refine wpQuiet_nil ?_
      repeat (go_big_quiet_step ((intro hC; first | rfl | (go_simp; first | done | rfl))))
      refine wpQuiet_nil ?_
      refine wpList_copyN rfl _ _ _ _ rfl 88 Try.underlying76 2 hty w.heap.size ((i + 1) * 2) (xs.length - i) _ ⟨g, i * 2, none⟩ (xs.length - i) _ rfl rfl _ 88 H2.out ((xs.drop i).flatMap encE) (xs.length - i) (by simp) HL.out (fun j u hj => G12.out.cell (HS.out j u hj)) (by simp only [List.length_append, List.length_take, List.length_drop, takL, hZ2, HL.out, List.length_cons, List.length_nil]; omega) (encE_one _) ?_
      intro w3 H3 G3
      go_wp2
      refine ⟨(fun h => by cases h), mix_done ?_⟩
      simp only [calmQ]
      go_wp2
      go_ret
      have G13 : As (Ext w w3) := ⟨G12.out.grown (grown_undrew G3.out) G12.out.size (fun k e => by cases e; exact Nat.le_refl _)⟩
      have hn2 := new2 ((xs.take i).flatMap encE) Z (encE y) (i * 2) takL
      rw [show i * 2 + (encE y).length = (i + 1) * 2 by rw [encE_len]; omega] at hn2
      have hL2 : (((xs.take i).flatMap encE ++ Z).take (i * 2) ++ encE y ++ ((xs.take i).flatMap encE ++ Z).drop ((i + 1) * 2)).length = cap * 2 := by
        simp only [List.length_append, List.length_take, List.length_drop, takL, hZ2, encE_len]; omega
      have H3' : w3.heap[w.heap.size]? = some (.cells ((((xs.take i).flatMap encE ++ Z).take (i * 2) ++ encE y ++ ((xs.take i).flatMap encE ++ Z).drop ((i + 1) * 2)).take ((i + 1) * 2) ++ (xs.drop i).flatMap encE ++
          (((xs.take i).flatMap encE ++ Z).take (i * 2) ++ encE y ++ ((xs.take i).flatMap encE ++ Z).drop ((i + 1) * 2)).drop ((i + 1) * 2 + ((xs.drop i).flatMap encE).length)).toArray 88 (0, 0)) := by
        have := H3.out
        rw [show i * 2 + [Value.int .u64 y.1, .int .i64 y.2].length = (i + 1) * 2 by simp; omega] at this
        exact this
      rw [hn2, fin] at H3'
      have hRl : ((((xs.take i).flatMap encE ++ Z).take (i * 2) ++ encE y ++ ((xs.take i).flatMap encE ++ Z).drop ((i + 1) * 2)).drop ((i + 1) * 2 + ((xs.drop i).flatMap encE).length)).length = (cap - (xs.length + 1)) * 2 := by
        rw [List.length_drop, hL2, HL.out]; omega
      generalize (((xs.take i).flatMap encE ++ Z).take (i * 2) ++ encE y ++ ((xs.take i).flatMap encE ++ Z).drop ((i + 1) * 2)).drop ((i + 1) * 2 + ((xs.drop i).flatMap encE).length) = R at H3' hRl
      refine ⟨_, rfl, ⟨_, ⟨⟨finL.trans (by rw [insL]; rfl), .inr ⟨w.heap.size, cap, ((insE xs i y).flatMap encE ++ R).toArray, by rw [insL]; rfl, hB, H3', by rw [insL]; exact hc3, hc4, ?_, ?_⟩⟩, fun _ _ h => h⟩, flatE.2 rfl⟩, ⟨G13.out.os, G13.out.tape, G13.out.output, G13.out.size, fun k hk _ => G13.out.block k hk⟩, .inr ⟨_, rfl, Nat.le_refl _⟩⟩
      · show ((insE xs i y).flatMap encE ++ R).toArray.size = cap * 2
        rw [List.size_toArray, List.length_append, finL, hRl]; omega
      · show List.take ((insE xs i y).length * 2) ((insE xs i y).flatMap encE ++ R) = _
        rw [insL, ← finL, List.take_left]
end Go.Proofs.Ytpgphhkhjbhimaa
