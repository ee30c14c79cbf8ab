/- ColsOdd: for every input the law returns true, and its arguments read behind the call as before; no condition. -/
import Derived.Test.YtpgphhkhjbhimaaKArg
import Derived.Test.YtpgphhkhjbhimaaKOd
namespace Go.Proofs.Ytpgphhkhjbhimaa
open Go.RowKit X
theorem opens_intR : Opens Try.prog 3 (Kd.intR 3) := fun H enc W sp held fuel cs x hx => by
  obtain ⟨n, rfl, _, hw⟩ := DataW.trod_int Try.underlying3 hx
  exact ⟨n, rfl, wf64 hw⟩
theorem o_intsR : Opens Try.prog 30 (Kd.sl 30 (Kd.intR 3)) := opens_sl Try.underlying30 opens_intR (by kernel_rfl) (by decide) 30
theorem o_intssR : Opens Try.prog 22 (Kd.sl 22 (Kd.sl 30 (Kd.intR 3))) := opens_sl Try.underlying22 o_intsR (by kernel_rfl) (by decide) 22
end Go.Proofs.Ytpgphhkhjbhimaa
namespace Go.Proofs.Ytpgphhkhjbhimaa.colsOdd
open Go.ChangeShapes Go.WideShapes Go.ChangeAt Go.RowKit X
set_option maxRecDepth 100000 in
theorem lifted (os : Os) (started : os.Started) (H : Type) (enc : TypeId × Value → H) :
    ReturnsInHanded {} Try.checked os 4 .any (Rows.colsOddSpec.pre6 enc Try.prog Try.f4 Rows.colsOddRow.domain false) (Rows.colsOddSpec.post enc Try.prog Try.f4 false true false false) := by
  refine returnsInHanded_of_change (C := Try.checked) own started (by kernel_rfl) Try.func4
    (ChangeSpec.witness6 (enc := enc) (C := Try.checked) false ⟨#[], #[.slice none 0 0, .int .i64 0, .slice none 0 0], []⟩ 8 (by kernel_rfl) (by kernel_rfl) (by kernel_rfl) (by kernel_rfl)) ?_
  intro W base args ds gs before hval0 hW hcnd _
  have hval : ∀ (j : Nat) t v, Try.f4.params[j]? = some t → args[j]? = some v → Value.okWide Try.prog W .any base t v := hval0
  have hW' := hW
  obtain ⟨p, q, hA0, hV, rfl, hfz, hnd⟩ := hW
  have hA : DataW.TrodAll enc Try.prog W 0 (fun _ => true) true Try.f4.params.toList args.toList ds p := hA0
  rw [Try.params4] at hA hval
  obtain ⟨v0, vs0, d0, ds0, p0, q0, hargs, rfl, rfl, h0, r0⟩ := trodAll_cons hA
  obtain ⟨v1, vs1, d1, ds1, p1, q1, rfl, rfl, rfl, h1, r1⟩ := trodAll_cons r0
  obtain ⟨v2, vs2, d2, ds2, p2, q2, rfl, rfl, rfl, h2, r2⟩ := trodAll_cons r1
  obtain ⟨rfl, rfl, rfl⟩ := trodAll_nil r2
  obtain rfl : args = #[v0, v1, v2] := by cases args; simp_all
  obtain ⟨rfl, rfl⟩ := trodVars_none hV
  obtain ⟨a0, len0, cap0, rfl⟩ := okWide_slice Try.underlying22 (hval 0 22 v0 rfl rfl)
  have k0 := h0
  have lt0 : ∀ x ∈ p0, x.block < W.heap.size := by obtain ⟨m, hm⟩ := k0; exact DataW.trod_lt m _ _ _ hm
  obtain ⟨fuel0, hf0⟩ := h0
  obtain ⟨cs, A0, c0, hcs0, hc0, S0⟩ := o_intssR _ _ _ _ _ _ _ _ hf0
  simp [Value.cells] at hcs0
  obtain ⟨rfl, rfl, rfl⟩ := hcs0
  obtain ⟨pn, rfl, rfl, rfl, w1⟩ := open_int Try.underlying3 (hval 1 3 v1 rfl rfl) h1
  obtain ⟨a2, len2, cap2, rfl⟩ := okWide_slice Try.underlying22 (hval 2 22 v2 rfl rfl)
  have k2 := h2
  have lt2 : ∀ x ∈ p2, x.block < W.heap.size := by obtain ⟨m, hm⟩ := k2; exact DataW.trod_lt m _ _ _ hm
  obtain ⟨fuel2, hf2⟩ := h2
  obtain ⟨rws, A2, c2, hcs2, hc2, S2⟩ := o_intssR _ _ _ _ _ _ _ _ hf2
  simp [Value.cells] at hcs2
  obtain ⟨rfl, rfl, rfl⟩ := hcs2
  clear hA0 hval0
  refine (kodd_c cs rws pn a0 a2 cap0 cap2 W _ (fun _ h => h) S0 S2).mono fun e W' ⟨he, bel⟩ => ?_
  subst he
  exact ⟨_, rfl, _, _, _, [], _, [], hW', trodAll_mk1 (shut_bool Try.underlying4 _), (trodAll_cons_mk (Below.trod laidOut (by kernel_rfl) (of_decide_eq_true (by kernel_rfl)) k0 bel lt0) (trodAll_cons_mk (shut_int Try.underlying3 w1) (trodAll_cons_mk (Below.trod laidOut (by kernel_rfl) (of_decide_eq_true (by kernel_rfl)) k2 bel lt2) trodAll_mk0))), rfl, bel.frame _, fun h => by cases h⟩
theorem over : Rows.colsOddRow.holds Try.pinned (OpenSpec.ofChange Rows.colsOddSpec) :=
  OpenClaim.holds_of_wide 4 Try.f4 rfl rfl rfl rfl rfl rfl rfl ⟨rfl, rfl, rfl, rfl, rfl⟩ rfl rfl rfl rfl rfl (by kernel_rfl) Try.func4 (by kernel_rfl)
    (of_decide_eq_true (by kernel_rfl)) (by unfold Func.isWrapper; first | (rw [if_pos (by decide +kernel)]; kernel_rfl) | (rw [if_neg (by decide +kernel)]; exact ⟨rfl, rfl⟩))
    (fun os started H enc _ => lifted os started H enc)
theorem proved : Rows.ColsOddSaid := over
end Go.Proofs.Ytpgphhkhjbhimaa.colsOdd
namespace Go.Proofs.Ytpgphhkhjbhimaa
/-- The row, under a short name, for the claim. -/
theorem colsOdd_holds : Rows.ColsOddSaid := colsOdd.proved
end Go.Proofs.Ytpgphhkhjbhimaa
