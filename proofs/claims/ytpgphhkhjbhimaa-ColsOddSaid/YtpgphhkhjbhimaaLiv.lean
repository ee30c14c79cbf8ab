/- A word put, by objects; the document's example. -/
import Derived.Test.YtpgphhkhjbhimaaTie2
namespace Go.Proofs.Ytpgphhkhjbhimaa.X
open Go.RowKit
theorem results_tmp_cell {P : Program} {fn : Func} {t p : Tmp} {ty : TypeId} (h : fn.results = #[.tmp t, .cell p ty]) (tmps : Array Value) (w : World) (g : Nat) (e : TypeId) (cs : Array Value) (fr : Nat × Nat) (d : TypeDesc)
    (hp : tmps.getD p undef = .pointer (some ⟨g, 0, none⟩)) (hg : w.heap[g]? = some (.cells cs e fr))
    (hu : P.underlying ty = some d) (hd : (match d with | .struct _ | .array _ _ => true | _ => false) = true) (hi : (P.info? ty).map (·.size) = some cs.size) :
    (results fn tmps).run P w = .ok (.tuple #[tmps.getD t undef, .agg cs]) w := by
  have hp' : tmps[p]?.getD undef = .pointer (some ⟨g, 0, none⟩) := by simpa using hp
  simp [results, h, hp', asAddr, run_loadVar_row w g e ty cs fr d hg hu hd hi]
end Go.Proofs.Ytpgphhkhjbhimaa.X
namespace Go.Proofs.Ytpgphhkhjbhimaa
open Go.RowKit X
set_option maxHeartbeats 2000000
set_option maxRecDepth 8000
set_option linter.unusedSimpArgs false
set_option linter.unusedVariables false
section
variable {F0 I0 I : Fp} {w0 w : World} {Ob0 : List Ob} {l : List Nd} {ws xs : List Int} {L W : List (List Int)} {A : Option Addr} {c b : Nat}
theorem X.SH.tree (S : SH F0 I0 w0 Ob0 w I) (i : Nat) (e : Ob0[i]? = some (TreeH b l ws)) : RdT w Any b l ws := by
  obtain ⟨F, h, _⟩ := S.get i e
  exact OwnT.rd h
theorem put_s (S : SH F0 I0 w0 Ob0 w I) (i : Nat) (e : Ob0[i]? = some (TreeH b l ws)) (hS : St l ws L W) (hx : Sl kP w I A xs) (hcc : xs.length ≤ c) (hn : xs.length ≤ 1000000) (hl : l.length + xs.length ≤ 1048576) (hws : ws.length ≤ 1000000) (hne : xs ≠ []) :
    Calls Try.prog 31 #[.pointer (some ⟨b, 0, none⟩), .slice A xs.length c] w fun e w' => ∃ l' ws' I', e = .returned (.tuple #[.int .i64 W.length, .int .i64 0]) ∧ SH F0 I0 w0 (Ob0.set i (TreeH b l' ws')) w' I' ∧ St l' ws' (putL L xs xs.length) (W ++ [xs]) ∧ l'.length ≤ l.length + xs.length := by
  obtain ⟨F, hF, hb, back⟩ := S.upd i e
  refine (put_c l ws xs A c b w I F I hF (fun k _ hI hk => (hb k hk).2.2 hI) hS.wf hx hcc hn (by omega) hws).mono ?_
  intro e w' h
  rw [if_neg hne, if_neg (by omega)] at h
  obtain ⟨h1, h2⟩ := h
  obtain ⟨I', s', _⟩ := back w' _ h2
  have := (hS.put xs).2
  exact ⟨_, _, I', by rw [h1, hS.wlen], s', (hS.put xs).1, by omega⟩
theorem put_none (S : SH F0 I0 w0 Ob0 w I) (i : Nat) (e : Ob0[i]? = some (TreeH b l ws)) (hS : St l ws L W) (hl : l.length ≤ 1048576) (hws : ws.length ≤ 1000000) :
    Calls Try.prog 31 #[.pointer (some ⟨b, 0, none⟩), .slice A 0 c] w fun e w' => e = .returned (.tuple #[.int .i64 (-1), .int .i64 1]) ∧ Ext w w' := by
  obtain ⟨F, hF, hb, back⟩ := S.upd i e
  refine (put_c l ws [] A c b w I F I hF (fun k _ hI hk => (hb k hk).2.2 hI) hS.wf Sl.nil (Nat.zero_le _) (by simp) hl hws).mono ?_
  intro e w' h
  rw [if_pos rfl] at h
  exact h
end
/-- a walk, by paths -/
def walkF (L : List (List Int)) : Int → List Int → List Int → Int × Nat
  | n, _, [] => (n, 0)
  | n, pre, p :: r => if findT L (pre ++ [p]) = -1 then (n, 0) else ((walkF L (findT L (pre ++ [p])) (pre ++ [p]) r).1, (walkF L (findT L (pre ++ [p])) (pre ++ [p]) r).2 + 1)
theorem findT_pa {L : List (List Int)} {p : List Int} {k : Nat} (h : findT L p = k) : k < L.length ∧ pa L k = p := by
  unfold findT at h
  split at h
  · rename_i m hm
    rw [List.findIdx?_eq_some_iff_getElem] at hm
    obtain ⟨h3, h4, _⟩ := hm
    have : m = k := by omega
    subst this
    exact ⟨h3, by rw [pa_eq h3]; simpa using h4⟩
  · omega
theorem findT_cases (L : List (List Int)) (p : List Int) : findT L p = -1 ∨ ∃ k : Nat, findT L p = k := by
  unfold findT
  split
  · exact .inr ⟨_, rfl⟩
  · exact .inl rfl
theorem Tie.walk {l : List Nd} {L : List (List Int)} {n : Nat} (h : Tie l L) (hW : WfT l n) : ∀ (xs : List Int) {i : Nat}, i < l.length → walkT l i xs = walkF L i (pa L i) xs
  | [], i, _ => rfl
  | p :: r, i, hi => by
    simp only [walkT, walkF]
    rw [h.child hW hi]
    rcases findT_cases L (pa L i ++ [p]) with he | ⟨k, hk⟩
    · rw [if_pos he, if_pos he]
    · obtain ⟨k1, k2⟩ := findT_pa hk
      rw [hk, if_neg (by omega), if_neg (by omega), Tie.walk h hW r (i := k) (by rw [h.len]; exact k1), k2]
theorem Tie.walk0 {l : List Nd} {L : List (List Int)} {n : Nat} (h : Tie l L) (hW : WfT l n) (xs : List Int) : walkT l 0 xs = walkF L 0 [] xs := by
  have := h.walk hW xs (i := 0) hW.pos
  rw [h.root] at this
  exact this

end Go.Proofs.Ytpgphhkhjbhimaa
