/- The reference's functions: rows alike, a path's node. -/
import Derived.Test.YtpgphhkhjbhimaaPut
namespace Go.Proofs.Ytpgphhkhjbhimaa
open Go.RowKit X
set_option maxHeartbeats 400000
abbrev kP : Kd Int := Kd.int 58 .u64
abbrev kW : Kd (List Int) := Kd.sl 56 kP

theorem sameRow_c (xs ys : List Int) (A B : Option Addr) (c d : Nat) (w : World) (D E : Nat → Prop) (hx : Sl kP w D A xs) (hy : Sl kP w E B ys) (hyl : ys.length ≤ 1000000) :
    Calls Try.prog 58 #[.slice A xs.length c, .slice B ys.length d] w fun e w' => e = .returned (.bool (decide (xs = ys))) ∧ Qt w w' := by
  by_cases hn : xs.length = ys.length
  · have H1 := As.mk hn
    have hq : (((xs.length : Int) != (ys.length : Int))) = false := by simp [hn]
    have hle : xs.length ≤ ys.length := by omega
    clear hn
    have HX := As.mk hx
    have HY := As.mk hy
    clear hx hy
    go_enter Try.func58, Try.ntmps58
    go_wp2
    go_loopw [5] (fun i w' => ∃ k : Nat, k ≤ xs.length ∧ i = .int .i64 k ∧ As (∀ t, t < k → xs[t]? = ys[t]?) ∧ As (Qt w w')) (fun i _ => xs.length - (intOf i).toNat)
    case atStart => exact ⟨0, Nat.zero_le _, rfl, ⟨fun t ht => absurd ht (Nat.not_lt_zero t)⟩, ⟨Qt.refl w⟩⟩
    case round =>
      obtain ⟨k, hk, rfl, HK, HQ⟩ := hrel
      by_cases hlt : k < xs.length
      · have hlt' : decide ((k : Int) < xs.length) = true := by simpa using hlt
        have hk2 : k < ys.length := by omega
        obtain ⟨m, rfl⟩ := HQ.out
        obtain ⟨b, o, rfl, hc⟩ := HX.out.int_at hlt
        obtain ⟨b', o', rfl, hc'⟩ := HY.out.int_at (i := k) hk2
        by_cases he : xs[k] = ys[k]
        · have he' : (xs[k] != ys[k]) = false := by simp [he]
          have HE := As.mk he
          clear he
          go_wp2
          go_quiet (fail)
          go_wp2
          go_roundw
          case rel =>
            refine ⟨k + 1, by omega, by go_num, ⟨fun t ht => ?_⟩, ⟨?_⟩⟩
            · rcases Nat.lt_or_eq_of_le (Nat.le_of_lt_succ ht) with h | h
              · exact HK.out t h
              · subst h; rw [List.getElem?_eq_getElem hlt, List.getElem?_eq_getElem hk2, HE.out]
            · exact ⟨_, rfl⟩
          case measure => simp [intOf]; omega
        · have he' : (xs[k] != ys[k]) = true := by simp [he]
          have HE := As.mk he
          clear he
          go_wp2
          go_quiet (fail)
          go_wp2
          go_ret
          refine ⟨ret_bool ?_, HQ.out.trans ⟨_, rfl⟩⟩
          symm
          rw [decide_eq_false_iff_not]
          rintro rfl
          exact HE.out rfl
      · have hlt' : decide ((k : Int) < xs.length) = false := by simpa using hlt
        go_wp2
        go_ret
        refine ⟨ret_bool ?_, HQ.out⟩
        symm
        rw [decide_eq_true_iff]
        apply List.ext_getElem?
        intro t
        rcases Nat.lt_or_ge t k with h | h
        · exact HK.out t h
        · rw [List.getElem?_eq_none (by omega), List.getElem?_eq_none (by have := H1.out; omega)]
  · have H1 := As.mk hn
    have hq : (((xs.length : Int) != (ys.length : Int))) = true := by simp; omega
    clear hn hx hy
    go_enter Try.func58, Try.ntmps58
    go_wp2
    go_ret
    refine ⟨ret_bool ?_, Qt.refl w⟩
    symm
    rw [decide_eq_false_iff_not]
    rintro rfl
    exact H1.out rfl

/-- the place of a path, or -1 -/
def findT (L : List (List Int)) (p : List Int) : Int := match L.findIdx? (fun x => decide (x = p)) with
  | some i => i
  | none => -1
theorem findT_some {L : List (List Int)} {p : List Int} {i : Nat} (hi : i < L.length) (h : L[i] = p) (h0 : ∀ (t : Nat) (ht : t < L.length), t < i → L[t] ≠ p) : findT L p = i := by
  have : L.findIdx? (fun x => decide (x = p)) = some i := by
    rw [List.findIdx?_eq_some_iff_getElem]
    exact ⟨hi, by simpa using h, fun j hj => by simpa using h0 j (by omega) hj⟩
  unfold findT; rw [this]
theorem findT_none {L : List (List Int)} {p : List Int} (h : ∀ (t : Nat) (ht : t < L.length), L[t] ≠ p) : findT L p = -1 := by
  have : L.findIdx? (fun x => decide (x = p)) = none := by
    rw [List.findIdx?_eq_none_iff]
    intro x hx
    obtain ⟨t, ht, rfl⟩ := List.mem_iff_getElem.1 hx
    simpa using h t ht
  unfold findT; rw [this]
/-- the value of a reference's tree -/
abbrev rtV (A : Option Addr) (n c : Nat) (A' : Option Addr) (n' c' : Nat) : Value := .agg #[.slice A n c, .slice A' n' c']
/-- short words -/
def ShortW (L : List (List Int)) : Prop := ∀ x ∈ L, x.length ≤ 1000000

theorem find_c (L W : List (List Int)) (p : List Int) (A A' B : Option Addr) (c c' d : Nat) (w : World) (D E : Nat → Prop) (hL : Sl kW w D A L) (hp : Sl kP w E B p) (hsL : L.length ≤ 1000000) (hs : ShortW L) (hpl : p.length ≤ 1000000) :
    Calls Try.prog 59 #[rtV A L.length c A' W.length c', .slice B p.length d] w fun e w' => e = .returned (.int .i64 (findT L p)) ∧ Ext w w' := by
  have HL := As.mk hL
  have HP := As.mk hp
  have HS := As.mk hs
  clear hL hp hs
  go_enter Try.func59, Try.ntmps59
  go_wp2
  go_loopw [5] (fun i w' => ∃ k : Nat, k ≤ L.length ∧ i = .int .i64 k ∧ As (∀ (t : Nat) (ht : t < L.length), t < k → L[t] ≠ p) ∧ As (Ext (w.alloc (.cells #[.slice A L.length c, .slice A' W.length c'] 46)) w')) (fun i _ => L.length - (intOf i).toNat)
  case atStart => exact ⟨0, Nat.zero_le _, rfl, ⟨fun t _ ht => absurd ht (Nat.not_lt_zero t)⟩, ⟨Ext.refl _⟩⟩
  case round =>
    obtain ⟨k, hk, rfl, HK, HX⟩ := hrel
    have hc := HX.out.cell (cell_of_heap (j := 0) (heap_alloc_new w (.cells #[.slice A L.length c, .slice A' W.length c'] 46)) rfl)
    have HX0 : As (Ext w wr) := ⟨(Ext.alloc w _).tr HX.out⟩
    by_cases hlt : k < L.length
    · have hlt' : decide ((k : Int) < L.length) = true := by simpa using hlt
      obtain ⟨b, o, A1, c1, rfl, hc1, hl1, hs1⟩ := (HL.out.below HX0.out).sl_at hlt
      have HS1 := As.mk hs1
      have HP1 : As (Sl kP wr E B p) := ⟨HP.out.below HX0.out⟩
      clear hs1
      by_cases he : L[k] = p
      · have hq : decide (L[k] = p) = true := by simpa using he
        have HE := As.mk he
        clear he
        go_wp2_with (first | (go_at_call 58; refine (sameRow_c L[k] p A1 B c1 d _ _ _ HS1.out HP1.out hpl).mono ?_; rw [hq]; rintro e w1 ⟨rfl, hx⟩; have HX1 := As.mk hx.ext; clear hx))
        go_ret
        exact ⟨ret_int (findT_some hlt HE.out HK.out).symm, HX0.out.tr HX1.out⟩
      · have hq : decide (L[k] = p) = false := by simpa using he
        have HE := As.mk he
        clear he
        go_wp2_with (first | (go_at_call 58; refine (sameRow_c L[k] p A1 B c1 d _ _ _ HS1.out HP1.out hpl).mono ?_; rw [hq]; rintro e w1 ⟨rfl, hx⟩; have HX1 := As.mk hx.ext; clear hx))
        go_roundw
        case rel =>
          refine ⟨k + 1, by omega, by go_num, ⟨fun t ht htk => ?_⟩, ⟨HX.out.tr HX1.out⟩⟩
          rcases Nat.lt_or_eq_of_le (Nat.le_of_lt_succ htk) with h | h
          · exact HK.out t ht h
          · subst h; exact HE.out
        case measure => simp [intOf]; omega
    · have hlt' : decide ((k : Int) < L.length) = false := by simpa using hlt
      go_wp2
      go_ret
      exact ⟨ret_int (findT_none fun t ht => HK.out t ht (by omega)).symm, HX0.out⟩
end Go.Proofs.Ytpgphhkhjbhimaa
