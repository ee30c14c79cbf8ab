/- The search among a node's children. -/
import Derived.Test.YtpgphhkhjbhimaaProg
import Derived.Test.YtpgphhkhjbhimaaLib
import Derived.Test.YtpgphhkhjbhimaaMTree
namespace Go.Proofs.Ytpgphhkhjbhimaa
open Go.RowKit X
set_option maxHeartbeats 400000

theorem cmpPixel_c (a b : Int) (w : World) :
    Calls Try.prog 72 #[.int .u64 a, .int .u64 b] w fun e w' => e = .returned (.int .i64 (cmpI a b)) ∧ w = w' := by
  by_cases h : a < b
  · go_enter Try.func72, Try.ntmps72
    go_wp2
    go_ret
    exact ⟨ret_int (cmpI_lt h).symm, rfl⟩
  · by_cases g : b < a
    · go_enter Try.func72, Try.ntmps72
      go_wp2
      go_ret
      exact ⟨ret_int (cmpI_gt g).symm, rfl⟩
    · go_enter Try.func72, Try.ntmps72
      go_wp2
      go_ret
      exact ⟨ret_int (cmpI_eq (by omega)).symm, rfl⟩

theorem atClo_c (x y : Int) (w : World) :
    Calls Try.prog 61 #[.agg #[.int .u64 x, .int .i64 y]] w fun e w' => e = .returned (.int .u64 x) ∧ Ext w w' := by
  go_enter Try.func61, Try.ntmps61
  go_wp2
  go_ret
  exact ⟨rfl, Ext.alloc _ _⟩

theorem seek1_c (x y k : Int) (g : Nat) (w : World) (hg : w.cell? ⟨g, 0, none⟩ = some (.func (.func 61) #[] #[])) :
    Calls Try.prog 71 #[.agg #[.int .u64 x, .int .i64 y], .int .u64 k, .pointer (some ⟨g, 0, none⟩)] w fun e w' => e = .returned (.int .i64 (cmpI x k)) ∧ Ext w w' := by
  have hga := al1 hg
  go_enter Try.func71, Try.ntmps71
  go_wp2_with (first | (go_at_call 72; refine (cmpPixel_c _ _ _).mono ?_; rintro e w' ⟨rfl, rfl⟩) | (go_at_call 61; refine (atClo_c _ _ _).mono ?_; rintro e w1 ⟨rfl, hx⟩))
  go_ret
  exact ⟨rfl, (Ext.alloc _ _).tr hx⟩

/-- edges -/
def kE : Kd (Int × Int) where
  ety := 88
  size := 2
  rel := fun _ _ x cs => cs = [.int .u64 x.1, .int .i64 x.2]
  keep := fun h _ => h
  weak := fun h _ => h
  len := fun h => by subst h; rfl
  one := fun h => by subst h; simp [Value.oneCell']
theorem kE_at {w : World} {D : Nat → Prop} {A : Option Addr} {xs : List (Int × Int)} (h : Sl kE w D A xs) {i : Nat} (hi : i < xs.length) :
    ∃ b o, A = some ⟨b, o, none⟩ ∧ w.cell? ⟨b, o + i * 2, none⟩ = some (.int .u64 xs[i].1) ∧ w.cell? ⟨b, o + i * 2 + 1, none⟩ = some (.int .i64 xs[i].2) := by
  obtain ⟨b, o, cs, rfl, hb, hd, rfl, hl, hc⟩ := h i hi
  exact ⟨b, o, rfl, hc 0 _ rfl, hc 1 _ rfl⟩

theorem BSF_c (l : List (Int × Int)) (p : Int) (A : Option Addr) (c : Nat) (g : Nat) (w : World) (D : Nat → Prop) (hl : Sl kE w D A l) (hs : Srt l) (hn : l.length ≤ 1048576)
    (hg : w.cell? ⟨g, 0, none⟩ = some (.func (.func 61) #[] #[])) :
    Calls Try.prog 70 #[.slice A l.length c, .int .u64 p, .func (.func 71) #[] #[.pointer (some ⟨g, 0, none⟩)]] w fun e w' => e = .returned (.tuple #[.int .i64 (posE l p), .bool (hasE l p)]) ∧ Ext w w' := by
  have HL := As.mk hl
  have HS := As.mk hs
  have HG := As.mk hg
  clear hl hs hg
  go_enter Try.func70, Try.ntmps70
  go_wp2
  go_loopw [9, 10] (fun i j w' => ∃ a b : Nat, a ≤ b ∧ b ≤ l.length ∧ i = .int .i64 a ∧ j = .int .i64 b ∧ As (∀ (t : Nat) (h : t < l.length), t < a → (l[t]).1 < p) ∧ As (∀ (t : Nat) (h : t < l.length), b ≤ t → p ≤ (l[t]).1) ∧ As (Ext w w'))
    (fun i j _ => ((intOf j) - (intOf i)).toNat)
  case atStart => exact ⟨0, l.length, Nat.zero_le _, Nat.le_refl _, rfl, rfl, ⟨fun t h h' => by omega⟩, ⟨fun t h h' => by omega⟩, ⟨Ext.refl _⟩⟩
  case round =>
    obtain ⟨a, b, hab, hb, rfl, rfl, HA, HB, HX⟩ := hrel
    by_cases hlt : a < b
    · have hlt' : decide ((a : Int) < b) = true := by simpa using hlt
      have hm : (a + b) / 2 < l.length := by omega
      have hgw := HX.out.cell HG.out
      obtain ⟨b', o, rfl, hc1, hc2⟩ := kE_at (HL.out.below HX.out) hm
      by_cases hp : (l[(a + b) / 2]).1 < p
      · have hq : decide (cmpI (l[(a + b) / 2]).1 p < 0) = true := by rw [cmpI_lt hp]; rfl
        go_wp2_with (first | (go_at_call 71; refine (seek1_c _ _ _ _ _ (by assumption)).mono ?_; rintro e w' ⟨rfl, hx⟩; have HX' := As.mk (HX.out.tr hx); clear hx))
        go_roundw
        case rel =>
          refine ⟨(a + b) / 2 + 1, b, by omega, hb, by go_num, rfl, ⟨fun t h ht => ?_⟩, HB, HX'⟩
          rcases Nat.lt_or_ge t ((a + b) / 2) with h1 | h1
          · have := HS.out.lt h1 hm; omega
          · obtain rfl : t = (a + b) / 2 := by omega
            exact hp
        case measure => simp [intOf]; omega
      · have hq : decide (cmpI (l[(a + b) / 2]).1 p < 0) = false := by
          rcases Int.lt_or_eq_of_le (Int.not_lt.1 hp) with h | h
          · rw [cmpI_gt h]; rfl
          · rw [cmpI_eq h.symm]; rfl
        go_wp2_with (first | (go_at_call 71; refine (seek1_c _ _ _ _ _ (by assumption)).mono ?_; rintro e w' ⟨rfl, hx⟩; have HX' := As.mk (HX.out.tr hx); clear hx))
        go_roundw
        case rel =>
          refine ⟨a, (a + b) / 2, by omega, by omega, rfl, by go_num, HA, ⟨fun t h ht => ?_⟩, HX'⟩
          rcases Nat.lt_or_ge ((a + b) / 2) t with h1 | h1
          · have := HS.out.lt h1 h; omega
          · obtain rfl : t = (a + b) / 2 := by omega
            omega
        case measure => simp [intOf]; omega
    · have hlt' : decide ((a : Int) < b) = false := by simpa using hlt
      obtain rfl : a = b := by omega
      have hpos : posE l p = a := posE_of hb HA.out HB.out
      by_cases hal : a < l.length
      · have hal' : decide ((a : Int) < l.length) = true := by simpa using hal
        obtain ⟨b', o, rfl, hc1, hc2⟩ := kE_at (HL.out.below HX.out) hal
        have hgw := HX.out.cell HG.out
        by_cases he : (l[a]).1 = p
        · have hq : (cmpI (l[a]).1 p == 0) = true := by rw [cmpI_eq he]; rfl
          have HH : As (hasE l p = true) := ⟨by rw [hasE_at HA.out HB.out HS.out]; exact decide_eq_true ⟨hal, he⟩⟩
          have HP := As.mk hpos
          clear hpos he
          go_wp2_with (first | (go_at_call 71; refine (seek1_c _ _ _ _ _ (by assumption)).mono ?_; rintro e w' ⟨rfl, hx⟩; have HX' := As.mk (HX.out.tr hx); clear hx))
          go_ret2
          exact ⟨ret_ib (by rw [HP.out]) HH.out.symm, HX'.out⟩
        · have hq : (cmpI (l[a]).1 p == 0) = false := by
            rcases Int.lt_or_gt_of_ne he with h | h
            · rw [cmpI_lt h]; rfl
            · rw [cmpI_gt h]; rfl
          have HH : As (hasE l p = false) := ⟨by rw [hasE_at HA.out HB.out HS.out]; exact decide_eq_false (fun ⟨h, g⟩ => he g)⟩
          have HP := As.mk hpos
          clear hpos he
          go_wp2_with (first | (go_at_call 71; refine (seek1_c _ _ _ _ _ (by assumption)).mono ?_; rintro e w' ⟨rfl, hx⟩; have HX' := As.mk (HX.out.tr hx); clear hx))
          go_ret2
          exact ⟨ret_ib (by rw [HP.out]) HH.out.symm, HX'.out⟩
      · have hal' : decide ((a : Int) < l.length) = false := by simpa using hal
        have HH : As (hasE l p = false) := ⟨by rw [hasE_at HA.out HB.out HS.out]; exact decide_eq_false (fun ⟨h, g⟩ => hal h)⟩
        have HP := As.mk hpos
        clear hpos
        go_wp2_with fail
        go_ret2
        exact ⟨ret_ib (by rw [HP.out]) HH.out.symm, HX.out⟩

theorem seek_c (l : List (Int × Int)) (p : Int) (A : Option Addr) (c : Nat) (w : World) (D : Nat → Prop) (hl : Sl kE w D A l) (hs : Srt l) (hn : l.length ≤ 1048576) :
    Calls Try.prog 60 #[.slice A l.length c, .int .u64 p, .func (.func 61) #[] #[]] w fun e w' => e = .returned (.tuple #[.int .i64 (posE l p), .bool (hasE l p)]) ∧ Ext w w' := by
  have HL := As.mk hl
  have HS := As.mk hs
  clear hl hs
  go_enter Try.func60, Try.ntmps60
  go_wp2_with (first | (go_at_call 70; refine (BSF_c l p _ _ _ _ D (HL.out.below (Ext.alloc _ _)) HS.out hn (by go_simp)).mono ?_; rintro e w1 ⟨rfl, hx⟩))
  go_ret2
  exact ⟨rfl, (Ext.alloc _ _).tr hx⟩
end Go.Proofs.Ytpgphhkhjbhimaa
