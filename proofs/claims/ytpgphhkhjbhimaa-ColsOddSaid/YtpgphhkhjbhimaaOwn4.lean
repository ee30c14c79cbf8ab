/- A word put into a tree of paths. -/
import Derived.Test.YtpgphhkhjbhimaaSep3
import Derived.Test.YtpgphhkhjbhimaaOwn3
import Derived.Test.YtpgphhkhjbhimaaTreeC
import Derived.Test.YtpgphhkhjbhimaaLiv
namespace Go.Proofs.Ytpgphhkhjbhimaa
open Go.RowKit X
set_option maxHeartbeats 2000000
set_option maxRecDepth 8000
set_option linter.unusedSimpArgs false
set_option linter.unusedVariables false
def TreeSt (b : Nat) (l : List Nd) (ws : List Int) (L W : List (List Int)) : Ob := .of {
  sat := fun w F _ => OwnT w F b l ws ∧ St l ws L W
  keep := fun ⟨h, s⟩ hk => ⟨h.keep fun b hb hf => hk b hb (.inl hf), s⟩
  weak := fun ⟨h, s⟩ hf _ _ => ⟨h.weak hf, s⟩ }
section
variable {F0 I0 I : Fp} {w0 w : World} {O : List Ob} {b c : Nat} {l : List Nd} {ws xs : List Int} {L W : List (List Int)} {A : Option Addr}
theorem X.SH.ofSt (S : SH F0 I0 w0 O w I) (i : Nat) (e : O[i]? = some (TreeSt b l ws L W)) : SH F0 I0 w0 (O.set i (TreeH b l ws)) w I :=
  S.updI i e fun F ⟨h, s⟩ hb => ⟨F, h, fun k hk => ⟨(hb k hk).1, .inl hk⟩, Chg.refl _ _⟩
/-- the tree, its nodes under one name -/
theorem X.SH.opn (S : SH F0 I0 w0 O w I) (i : Nat) (e : O[i]? = some (TR b L W)) : ∃ l ws, St l ws L W ∧ SH F0 I0 w0 (O.set i (TreeH b l ws)) w I := by
  obtain ⟨⟨l, ws⟩, S1⟩ := S.pick (h' := fun x : List Nd × List Int => TreeSt b x.1 x.2 L W) i e (fun F ⟨l, ws, h, s⟩ => ⟨(l, ws), h, s⟩)
  have e1 : (O.set i (TreeSt b l ws L W))[i]? = some (TreeSt b l ws L W) := List.getElem?_set_self (lt_of_get e)
  obtain ⟨_, ⟨_, hst⟩, _⟩ := S1.get i e1
  have S2 := S1.ofSt i e1
  rw [List.set_set] at S2
  exact ⟨l, ws, hst, S2⟩
theorem put_tr (S : SH F0 I0 w0 O w I) (i : Nat) (e : O[i]? = some (TR b L W)) (hx : Sl kP w I A xs) (hcc : xs.length ≤ c) (hn : xs.length ≤ 100000) (hl : L.length ≤ 100000) (hws : W.length ≤ 100000) (hne : xs ≠ []) :
    Calls Try.prog 31 #[.pointer (some ⟨b, 0, none⟩), .slice A xs.length c] w fun e w' => ∃ I', e = .returned (.tuple #[.int .i64 W.length, .int .i64 0]) ∧ SH F0 I0 w0 (O.set i (TR b (putL L xs xs.length) (W ++ [xs]))) w' I' := by
  obtain ⟨l, ws, hst, S1⟩ := S.opn i e
  have e1 : (O.set i (TreeH b l ws))[i]? = some (TreeH b l ws) := List.getElem?_set_self (lt_of_get e)
  refine (put_s S1 i e1 hst hx hcc (by omega) (by rw [hst.tie.len]; omega) (by rw [hst.wlen]; omega) hne).mono ?_
  rintro e w' ⟨l5, ws5, I5, rfl, S5, hs5, -⟩
  rw [List.set_set] at S5
  have S6 := S5.toTR i (List.getElem?_set_self (lt_of_get (by assumption))) hs5
  rw [List.set_set] at S6
  exact ⟨I5, rfl, S6⟩
theorem put_tr0 (S : SH F0 I0 w0 O w I) (i : Nat) (e : O[i]? = some (TR b L W)) (hl : L.length ≤ 100000) (hws : W.length ≤ 100000) :
    Calls Try.prog 31 #[.pointer (some ⟨b, 0, none⟩), .slice A 0 c] w fun e w' => e = .returned (.tuple #[.int .i64 (-1), .int .i64 1]) ∧ Ext w w' := by
  obtain ⟨l, ws, hst, S1⟩ := S.opn i e
  exact put_none S1 i (List.getElem?_set_self (lt_of_get e)) hst (by rw [hst.tie.len]; omega) (by rw [hst.wlen]; omega)
theorem len_tr (S : SH F0 I0 w0 O w I) (i : Nat) (e : O[i]? = some (TR b L W)) : GoodR L W := S.goodR i e
end
end Go.Proofs.Ytpgphhkhjbhimaa
