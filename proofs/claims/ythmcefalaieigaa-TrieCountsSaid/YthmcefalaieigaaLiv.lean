/- A word put, a walk, the document's example. -/
import Derived.Test.YthmcefalaieigaaTie2
namespace Go.Proofs.Ythmcefalaieigaa.X
open Go.RowKit
theorem results_tmp_cell {P : Program} {fn : Func} {t p : Tmp} {ty : TypeId} (h : fn.results = #[.tmp t, .cell p ty]) (tmps : Array Value) (w : World) (g : Nat) (e : TypeId) (cs : Array Value) (fr : Nat × Nat) (d : TypeDesc)
    (hp : tmps.getD p undef = .pointer (some ⟨g, 0, none⟩)) (hg : w.heap[g]? = some (.cells cs e fr))
    (hu : P.underlying ty = some d) (hd : (match d with | .struct _ | .array _ _ => true | _ => false) = true) (hi : (P.info? ty).map (·.size) = some cs.size) :
    (results fn tmps).run P w = .ok (.tuple #[tmps.getD t undef, .agg cs]) w := by
  have hp' : tmps[p]?.getD undef = .pointer (some ⟨g, 0, none⟩) := by simpa using hp
  simp [results, h, hp', asAddr, run_loadVar_row w g e ty cs fr d hg hu hd hi]
end Go.Proofs.Ythmcefalaieigaa.X
namespace Go.Proofs.Ythmcefalaieigaa
open Go.RowKit X
set_option maxHeartbeats 400000
set_option maxRecDepth 8000

theorem put_st {l : List Nd} {ws xs : List Int} {L W : List (List Int)} {A : Option Addr} {c b B : Nat} {w : World} {E : Nat → Prop} (hO : OwnT w B b l ws) (hS : St l ws L W) (hx : Sl kP w E A xs) (hcc : xs.length ≤ c) (hn : xs.length ≤ 1000000) (hl : l.length + xs.length ≤ 1048576) (hws : ws.length ≤ 1000000) (hne : xs ≠ []) :
    Calls Try.prog 14 #[.pointer (some ⟨b, 0, none⟩), .slice A xs.length c] w fun e w' => ∃ l' ws', e = .returned (.tuple #[.int .i64 W.length, .int .i64 0]) ∧ OwnT w' B b l' ws' ∧ St l' ws' (putL L xs xs.length) (W ++ [xs]) ∧ Chg B tysT w w' := by
  refine (put_c l ws xs A c b B w E hO hS.wf hx hcc hn (by omega) hws).mono ?_
  intro e w' h
  rw [if_neg hne, if_neg (by omega)] at h
  obtain ⟨h1, h2, h3⟩ := h
  exact ⟨_, _, by rw [h1, hS.wlen], h2, (hS.put xs).1, h3⟩
theorem put_none {l : List Nd} {ws : List Int} {L W : List (List Int)} {A : Option Addr} {c b B : Nat} {w : World} (hO : OwnT w B b l ws) (hS : St l ws L W) (hl : l.length ≤ 1048576) (hws : ws.length ≤ 1000000) :
    Calls Try.prog 14 #[.pointer (some ⟨b, 0, none⟩), .slice A 0 c] w fun e w' => e = .returned (.tuple #[.int .i64 (-1), .int .i64 1]) ∧ Ext w w' := by
  refine (put_c l ws [] A c b B w Any hO hS.wf Sl.nil (Nat.zero_le _) (by simp) hl hws).mono ?_
  intro e w' h
  rw [if_pos rfl] at h
  exact h
/-- a walk, by paths -/
def walkF (L : List (List Int)) : Int → List Int → List Int → Int × Nat
  | n, _, [] => (n, 0)
  | n, pre, p :: r => if findT L (pre ++ [p]) = -1 then (n, 0) else ((walkF L (findT L (pre ++ [p])) (pre ++ [p]) r).1, (walkF L (findT L (pre ++ [p])) (pre ++ [p]) r).2 + 1)
theorem findT_pa {L : List (List Int)} {p : List Int} {k : Nat} (h : findT L p = k) : k < L.length ∧ pa L k = p := by
  unfold findT at h
  split at h
  · rename_i m hm
    rw [List.findIdx?_eq_some_iff_getElem] at hm
    obtain ⟨h3, h4, _⟩ := hm
    have : m = k := by omega
    subst this
    exact ⟨h3, by rw [pa_eq h3]; simpa using h4⟩
  · omega
theorem findT_cases (L : List (List Int)) (p : List Int) : findT L p = -1 ∨ ∃ k : Nat, findT L p = k := by
  unfold findT
  split
  · exact .inr ⟨_, rfl⟩
  · exact .inl rfl
theorem Tie.walk {l : List Nd} {L : List (List Int)} {n : Nat} (h : Tie l L) (hW : WfT l n) : ∀ (xs : List Int) {i : Nat}, i < l.length → walkT l i xs = walkF L i (pa L i) xs
  | [], i, _ => rfl
  | p :: r, i, hi => by
    simp only [walkT, walkF]
    rw [h.child hW hi]
    rcases findT_cases L (pa L i ++ [p]) with he | ⟨k, hk⟩
    · rw [if_pos he, if_pos he]
    · obtain ⟨k1, k2⟩ := findT_pa hk
      rw [hk, if_neg (by omega), if_neg (by omega), Tie.walk h hW r (i := k) (by rw [h.len]; exact k1), k2]
theorem Tie.walk0 {l : List Nd} {L : List (List Int)} {n : Nat} (h : Tie l L) (hW : WfT l n) (xs : List Int) : walkT l 0 xs = walkF L 0 [] xs := by
  have := h.walk hW xs (i := 0) hW.pos
  rw [h.root] at this
  exact this

theorem Sl.made (k : IntKind) (ety : TypeId) (w : World) (b : Nat) (xs : List Int) (cur : Array Value) (h : w.heap[b]? = some (.cells cur ety (0, 0))) (hc : cur = (xs.map (Value.int k)).toArray) : Sl (Kd.int ety k) w Any (some ⟨b, 0, none⟩) xs := by
  intro i hi
  refine ⟨b, 0, cur, _, [.int k xs[i]], rfl, trivial, h, rfl, rfl, fun j u hj => ?_⟩
  subst hc
  have hj0 : j = 0 := by
    rcases j with _ | j
    · rfl
    · simp at hj
  subst hj0
  simp at hj
  subst hj
  show (xs.map (Value.int k)).toArray[0 + i * 1 + 0]? = _
  simp [hi]

theorem lives_c (w : World) : Calls Try.prog 12 #[] w fun e w' => e = .returned (.bool true) ∧ Ext w w' := by
  go_enter Try.func12, Try.ntmps12
  go_wp2_with (first | (go_at_call 23; refine (new_c _).mono ?_; rintro e w1 ⟨b, rfl, ho, hx⟩; have HO := As.mk ho; have HX := As.mk hx; clear ho hx) | (go_at_call 14; have h1 := put_st (xs := [1, 2]) (c := 2) (HO.out.ext (Ext.alloc w1 (.cells #[.int .u64 1, .int .u64 2] 24))) St.one (Sl.made .u64 24 _ w1.heap.size [1, 2] _ (heap_alloc_new w1 (.cells #[.int .u64 1, .int .u64 2] 24)) rfl) (by simp) (by simp) (by simp) (by simp) (by simp); refine h1.mono ?_; clear h1; rintro e w2 ⟨l2, ws2, rfl, ho, hs, hc⟩; have HO2 := As.mk ho; have HC2 : As (Chg w.heap.size tysT w w2) := ⟨(Chg.of_ext (HX.out.tr (Ext.alloc w1 (.cells #[.int .u64 1, .int .u64 2] 24)))).tr hc⟩; rw [show putL [[]] [1, 2] ([1, 2] : List Int).length = [[], [1], [1, 2]] from by decide] at hs; have HS2 := As.mk hs; have hl2 : l2.length = 3 := hs.tie.len; have hw2 : ws2.length = 1 := hs.wlen; have HL2 := As.mk hl2; have HW2 := As.mk hw2; clear ho hs hc hl2 hw2 HO) | (go_at_call 14; have h1 := put_st (xs := [1, 3]) (c := 2) (HO2.out.ext (Ext.alloc w2 (.cells #[.int .u64 1, .int .u64 3] 24))) HS2.out (Sl.made .u64 24 _ w2.heap.size [1, 3] _ (heap_alloc_new w2 (.cells #[.int .u64 1, .int .u64 3] 24)) rfl) (by simp) (by simp) (by have := HL2.out; simp only [List.length_cons, List.length_nil]; omega) (by have := HW2.out; omega) (by simp); refine h1.mono ?_; clear h1; rintro e w3 ⟨l3, ws3, rfl, ho, hs, hc⟩; have HO3 := As.mk ho; have HC3 : As (Chg w.heap.size tysT w w3) := ⟨(HC2.out.tr (Chg.of_ext (Ext.alloc w2 (.cells #[.int .u64 1, .int .u64 3] 24)))).tr hc⟩; rw [show putL [[], [1], [1, 2]] [1, 3] ([1, 3] : List Int).length = [[], [1], [1, 2], [1, 3]] from by decide] at hs; have HS3 := As.mk hs; have hl3 : l3.length = 4 := hs.tie.len; have hk3 : walkT l3 0 [1, 3, 4] = (3, 2) := (by rw [hs.tie.walk0 hs.wf]; decide); have HL3 := As.mk hl3; have HK3 := As.mk hk3; clear ho hs hc hl3 hk3 HO2) | (go_at_call 17; have h1 := walk_c l3 ws3 [1, 3, 4] _ 3 b _ _ _ (HO3.out.ext (Ext.alloc w3 (.cells #[.int .u64 1, .int .u64 3, .int .u64 4] 24))).rd (HS3.out.wf.good (by have := HL3.out; omega)) (Sl.made .u64 24 _ w3.heap.size [1, 3, 4] _ (heap_alloc_new w3 (.cells #[.int .u64 1, .int .u64 3, .int .u64 4] 24)) rfl) (by simp); rw [HK3.out] at h1; refine h1.mono ?_; clear h1; rintro e w4 ⟨rfl, hx⟩; have HX4 := As.mk ((Ext.alloc w3 (.cells #[.int .u64 1, .int .u64 3, .int .u64 4] 24)).tr hx); clear hx) | (go_at_call 13; have h1 := len_c l3 ws3 b w4 _ (HO3.out.ext HX4.out).rd; rw [HL3.out] at h1; refine h1.mono ?_; clear h1; rintro e w5 ⟨rfl, rfl⟩))
  go_ret
  exact ⟨rfl, (HC3.out.tr (Chg.of_ext HX4.out)).ext (Nat.le_refl _)⟩
end Go.Proofs.Ythmcefalaieigaa
