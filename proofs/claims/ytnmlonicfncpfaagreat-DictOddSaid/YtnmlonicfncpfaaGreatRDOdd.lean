/- DictOdd: for every input the law returns true, and its arguments read behind the call as before; no condition. -/
import Derived.Test.YtnmlonicfncpfaaGreatDArgT
import Derived.Test.YtnmlonicfncpfaaGreatZOdd
namespace Go.Proofs.YtnmlonicfncpfaaGreat
open X
theorem u64_wf {n : Int} (hw : (Lit.int .u64 n).wf = true) : U64 n := by
  have hr : 0 ≤ n ∧ n ≤ 18446744073709551615 := by simpa [Lit.wf, IntKind.signed, IntKind.bits, IntKind.min, IntKind.max] using hw
  unfold U64
  omega
end Go.Proofs.YtnmlonicfncpfaaGreat
namespace Go.Proofs.YtnmlonicfncpfaaGreat.dictOdd
open Go.ChangeShapes Go.WideShapes Go.ChangeAt Go.RowKit X
set_option maxRecDepth 100000 in
theorem lifted (os : Os) (started : os.Started) (H : Type) (enc : TypeId × Value → H) :
    ReturnsInHanded {} Tryz.checked os 4 .any (Rows.dictOddSpec.pre6 enc Tryz.prog Tryz.f4 Rows.dictOddRow.domain false) (Rows.dictOddSpec.post enc Tryz.prog Tryz.f4 false true false false) := by
  refine returnsInHanded_of_change (C := Tryz.checked) own started (by kernel_rfl) Tryz.func4
    (ChangeSpec.witness6 (enc := enc) (C := Tryz.checked) false ⟨#[], #[.slice none 0 0, .agg #[.bool false, .int .i64 0, .int .i64 0, .int .i64 0, .slice none 0 0], .int .i64 0, .int .u64 0, .slice none 0 0], []⟩ 8 (by kernel_rfl) (by kernel_rfl) (by kernel_rfl) (by kernel_rfl)) ?_
  intro W base args ds gs before hval0 hW hcnd _
  have hval : ∀ (j : Nat) t v, Tryz.f4.params[j]? = some t → args[j]? = some v → Value.okWide Tryz.prog W .any base t v := hval0
  have hW' := hW
  obtain ⟨p, q, hA0, hV, rfl, hfz, hnd⟩ := hW
  have hA : DataW.TrodAll enc Tryz.prog W 0 (fun _ => true) true Tryz.f4.params.toList args.toList ds p := hA0
  rw [Tryz.params4] at hA hval
  obtain ⟨v0, vs0, d0, ds0, p0, q0, hargs, rfl, rfl, h0, r0⟩ := trodAll_cons hA
  obtain ⟨v1, vs1, d1, ds1, p1, q1, rfl, rfl, rfl, h1, r1⟩ := trodAll_cons r0
  obtain ⟨v2, vs2, d2, ds2, p2, q2, rfl, rfl, rfl, h2, r2⟩ := trodAll_cons r1
  obtain ⟨v3, vs3, d3, ds3, p3, q3, rfl, rfl, rfl, h3, r3⟩ := trodAll_cons r2
  obtain ⟨v4, vs4, d4, ds4, p4, q4, rfl, rfl, rfl, h4, r4⟩ := trodAll_cons r3
  obtain ⟨rfl, rfl, rfl⟩ := trodAll_nil r4
  obtain rfl : args = #[v0, v1, v2, v3, v4] := by cases args; simp_all
  obtain ⟨rfl, rfl⟩ := trodVars_none hV
  obtain ⟨a0, len0, cap0, rfl⟩ := okWide_slice Tryz.underlying22 (hval 0 22 v0 rfl rfl)
  have k0 := h0
  have lt0 : ∀ x ∈ p0, x.block < W.heap.size := by obtain ⟨m, hm⟩ := k0; exact DataW.trod_lt m _ _ _ hm
  obtain ⟨fuel0, hf0⟩ := h0
  obtain ⟨gs, A0, c0, hcs0, hc0, S0⟩ := o_ygts _ _ _ _ _ _ _ _ hf0
  simp [Value.cells] at hcs0
  obtain ⟨rfl, rfl, rfl⟩ := hcs0
  obtain ⟨cs1, rfl, hsz1⟩ := okWide_struct Tryz.underlying50 (hval 1 50 v1 rfl rfl)
  have k1 := h1
  have lt1 : ∀ x ∈ p1, x.block < W.heap.size := by obtain ⟨m, hm⟩ := k1; exact DataW.trod_lt m _ _ _ hm
  obtain ⟨fuel1, hf1⟩ := h1
  obtain ⟨x, A1, c1, hcs1, ⟨hc1, S1⟩, R1⟩ := o_yg _ _ _ _ _ _ _ _ hf1
  obtain rfl : cs1 = #[.bool x.three, .int .i64 x.mv, .int .i64 x.w, .int .i64 x.h, .slice A1 x.l.length c1] := by cases cs1; simpa [Value.cells] using hcs1
  obtain ⟨at0, rfl, rfl, rfl, w2⟩ := open_int Tryz.underlying3 (hval 2 3 v2 rfl rfl) h2
  obtain ⟨p, rfl, rfl, rfl, w3⟩ := open_int Tryz.underlying52 (hval 3 52 v3 rfl rfl) h3
  obtain ⟨a4, len4, cap4, rfl⟩ := okWide_slice Tryz.underlying41 (hval 4 41 v4 rfl rfl)
  have k4 := h4
  have lt4 : ∀ x ∈ p4, x.block < W.heap.size := by obtain ⟨m, hm⟩ := k4; exact DataW.trod_lt m _ _ _ hm
  obtain ⟨fuel4, hf4⟩ := h4
  obtain ⟨ts, A4, c4, hcs4, hc4, S4⟩ := o_ints _ _ _ _ _ _ _ _ hf4
  simp [Value.cells] at hcs4
  obtain ⟨rfl, rfl, rfl⟩ := hcs4
  clear hA0 hval0
  refine (lodd_c gs x ⟨R1.1, R1.2.1, R1.2.2, (S1.io 3).2⟩ at0 (i64_wf w2) p (u64_wf w3) ts a0 A1 a4 cap0 c1 cap4 hc0 hc4 W _ (fun _ h => h) S0 (S1.io 3).1 (S4.io 3).1).mono fun e W' ⟨he, bel⟩ => ?_
  subst he
  exact ⟨_, rfl, _, _, _, [], _, [], hW', trodAll_mk1 (shut_bool Tryz.underlying4 _), (trodAll_cons_mk (Below.trod laidOut (by kernel_rfl) (of_decide_eq_true (by kernel_rfl)) k0 bel lt0) (trodAll_cons_mk (Below.trod laidOut (by kernel_rfl) (of_decide_eq_true (by kernel_rfl)) k1 bel lt1) (trodAll_cons_mk (shut_int Tryz.underlying3 w2) (trodAll_cons_mk (shut_int Tryz.underlying52 w3) (trodAll_cons_mk (Below.trod laidOut (by kernel_rfl) (of_decide_eq_true (by kernel_rfl)) k4 bel lt4) trodAll_mk0))))), rfl, bel.frame _, fun h => by cases h⟩
theorem over : Rows.dictOddRow.holds Tryz.pinned (OpenSpec.ofChange Rows.dictOddSpec) :=
  OpenClaim.holds_of_wide 4 Tryz.f4 rfl rfl rfl rfl rfl rfl rfl ⟨rfl, rfl, rfl, rfl, rfl⟩ rfl rfl rfl rfl rfl (by kernel_rfl) Tryz.func4 (by kernel_rfl)
    (of_decide_eq_true (by kernel_rfl)) (by unfold Func.isWrapper; first | (rw [if_pos (by decide +kernel)]; kernel_rfl) | (rw [if_neg (by decide +kernel)]; exact ⟨rfl, rfl⟩))
    (fun os started H enc _ => lifted os started H enc)
theorem proved : Rows.DictOddSaid := over
end Go.Proofs.YtnmlonicfncpfaaGreat.dictOdd
namespace Go.Proofs.YtnmlonicfncpfaaGreat
/-- The row, under a short name, for the claim. -/
theorem dictOdd_holds : Rows.DictOddSaid := dictOdd.proved
end Go.Proofs.YtnmlonicfncpfaaGreat
