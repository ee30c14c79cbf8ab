/- A tree's functions, by its paths and words. -/
import Derived.Test.YtpgphhkhjbhimaaTreeP
import Derived.Test.YtpgphhkhjbhimaaTri2
import Derived.Test.YtpgphhkhjbhimaaPath
namespace Go.Proofs.Ytpgphhkhjbhimaa
open Go.RowKit X
set_option maxHeartbeats 2000000
set_option linter.unusedSimpArgs false
set_option linter.unusedVariables false
/-- a tree of paths L and words W -/
def TR (b : Nat) (L W : List (List Int)) : Ob := .of {
  sat := fun w F _ => ∃ l ws, OwnT w F b l ws ∧ St l ws L W
  keep := fun ⟨l, ws, h, s⟩ hk => ⟨l, ws, h.keep fun b hb hf => hk b hb (.inl hf), s⟩
  weak := fun ⟨l, ws, h, s⟩ hf _ _ => ⟨l, ws, h.weak hf, s⟩ }
section
variable {F0 I0 I : Fp} {w0 w : World} {O : List Ob} {L W : List (List Int)} {A : Option Addr} {c b : Nat}
theorem X.SH.toTR {l : List Nd} {ws : List Int} (S : SH F0 I0 w0 O w I) (i : Nat) (e : O[i]? = some (TreeH b l ws)) (hs : St l ws L W) : SH F0 I0 w0 (O.set i (TR b L W)) w I :=
  S.updI i e fun F hF hb => ⟨F, ⟨l, ws, hF, hs⟩, fun k hk => ⟨(hb k hk).1, .inl hk⟩, Chg.refl _ _⟩
theorem X.SH.tr (S : SH F0 I0 w0 O w I) (i : Nat) (e : O[i]? = some (TR b L W)) : ∃ l ws, RdT w Any b l ws ∧ St l ws L W := by
  obtain ⟨F, ⟨l, ws, h, s⟩, _⟩ := S.get i e
  exact ⟨l, ws, h.rd, s⟩
theorem X.SH.goodR (S : SH F0 I0 w0 O w I) (i : Nat) (e : O[i]? = some (TR b L W)) : GoodR L W := by
  obtain ⟨l, ws, _, s⟩ := S.tr i e
  exact s.goodR
theorem child_r (S : SH F0 I0 w0 O w I) (i : Nat) (e : O[i]? = some (TR b L W)) (hL : L.length ≤ 1048576) (n p : Int) :
    Calls Try.prog 52 #[.pointer (some ⟨b, 0, none⟩), .int .i64 n, .int .u64 p] w fun e w' => e = .returned (.int .i64 (rchildT L n p)) ∧ Ext w w' := by
  obtain ⟨l, ws, h, s⟩ := S.tr i e
  rw [← s.tie.childR s.wf]
  exact child_c l ws n p b w _ h (s.wf.good (by rw [s.tie.len]; exact hL))
theorem walk_r (S : SH F0 I0 w0 O w I) (i : Nat) (e : O[i]? = some (TR b L W)) (hL : L.length ≤ 1048576) {xs : List Int} {D : Fp} (hx : Sl kP w D A xs) (hn : xs.length ≤ 1000000) :
    Calls Try.prog 46 #[.pointer (some ⟨b, 0, none⟩), .slice A xs.length c] w fun e w' => e = .returned (.tuple #[.int .i64 (wkR L xs xs.length).1, .int .i64 (wkR L xs xs.length).2]) ∧ Ext w w' := by
  obtain ⟨l, ws, h, s⟩ := S.tr i e
  rw [← s.tie.walkR s.wf]
  exact walk_c l ws xs A c b w _ D h (s.wf.good (by rw [s.tie.len]; exact hL)) hx hn
theorem len_r (S : SH F0 I0 w0 O w I) (i : Nat) (e : O[i]? = some (TR b L W)) :
    Calls Try.prog 49 #[.pointer (some ⟨b, 0, none⟩)] w fun e w' => e = .returned (.int .i64 L.length) ∧ w = w' := by
  obtain ⟨l, ws, h, s⟩ := S.tr i e
  rw [← s.tie.len]
  exact len_c l ws b w _ h
theorem X.Own.upd {α : Type} {k : Kd α} {w w' : World} {v : Value} {xs : List α} (h : Own k w' w.heap.size No v xs) (hx : Ext w w') (I : Fp) : Upd w No I w' (Row k v xs) :=
  ⟨fun b => v.ownBlock = some b, No, ⟨h.base (Nat.zero_le _), fun _ e => e⟩, fun b e => ⟨(h.lt e).2, .inr (h.lt e).1⟩, fun _ h => h.elim, fun _ _ h => h, Chg.of_ext hx⟩
theorem path_r (S : SH F0 I0 w0 O w I) (i : Nat) (e : O[i]? = some (TR b L W)) (hL : L.length ≤ 1048576) (n : Int) :
    Calls Try.prog 54 #[.pointer (some ⟨b, 0, none⟩), .int .i64 n] w fun e w' => ∃ v, e = .returned v ∧ Upd w No I w' (Row kP v (ptR L n)) := by
  obtain ⟨l, ws, h, s⟩ := S.tr i e
  rw [← s.tie.pathR]
  refine (path_c l ws n b w _ h (s.wf.good (by rw [s.tie.len]; exact hL))).mono ?_
  rintro e w' ⟨v, rfl, ho, hx⟩
  exact ⟨v, rfl, ho.upd hx I⟩
theorem words_r (S : SH F0 I0 w0 O w I) (i : Nat) (e : O[i]? = some (TR b L W)) (hW : W.length ≤ 1000000) (n : Int) :
    Calls Try.prog 50 #[.pointer (some ⟨b, 0, none⟩), .int .i64 n] w fun e w' => ∃ v, e = .returned v ∧ Upd w No I w' (Row kI v (if 0 ≤ n ∧ n < L.length then wsR L W n else [])) := by
  obtain ⟨l, ws, h, s⟩ := S.tr i e
  refine (words_c l ws n b w _ h (fun x hx => Nat.le_trans (s.wf.wn x hx) (by rw [s.wlen]; exact hW))).mono ?_
  rintro e w' ⟨v, rfl, ho, hx⟩
  refine ⟨v, rfl, ?_⟩
  have e1 : wordsT l n = (if 0 ≤ n ∧ n < L.length then wsR L W n else []) := by
    by_cases hn : 0 ≤ n ∧ n < L.length
    · rw [if_pos hn, s.wordsR hn]
    · rw [if_neg hn]
      unfold wordsT
      rw [if_neg (fun h => hn ((s.tie.inL n).1 h))]
  rw [← e1]
  exact ho.upd hx I
end
end Go.Proofs.Ytpgphhkhjbhimaa
