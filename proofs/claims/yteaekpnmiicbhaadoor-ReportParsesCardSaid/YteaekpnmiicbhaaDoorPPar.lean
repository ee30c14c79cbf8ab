/- A number of a text: the program's and the document's. -/
import Derived.Test.YteaekpnmiicbhaaDoorPStp
import Derived.Test.YteaekpnmiicbhaaDoorPDec
import Derived.Lib.OthersKept
namespace Go.Proofs.YteaekpnmiicbhaaDoor
open Go.RowKit X
set_option maxHeartbeats 1000000
set_option maxRecDepth 8000
set_option linter.unusedSimpArgs false
set_option linter.unusedVariables false
def loopR : List UInt8 → Int → Int × Int
  | [], n => (n, 0)
  | b :: r, n => if (stepR n b.toNat).2 = 0 then loopR r (stepR n b.toNat).1 else (0, (stepR n b.toNat).2)
def parseR (zs : List UInt8) : Int × Int := if zs = [] then (0, 3) else loopR zs 0
theorem gparse_c (zs : List UInt8) (hl : zs.length ≤ 100000) (w : World) :
    Calls Tryd.prog 49 #[strV zs, .int .i64 4611686018427387903] w fun e w' => e = .returned (.tuple #[.int .i64 (parseR zs).1, .int .i64 (parseR zs).2]) ∧ w = w' := by
  go_enter Tryd.func49, Tryd.ntmps49
  go_wp2
  go_loopw [6, 7] (fun nv iv w' => w' = w ∧ ∃ (k : Nat) (n : Int), iv = .int .i64 k ∧ nv = .int .i64 n ∧ k ≤ zs.length ∧ 0 ≤ n ∧ n ≤ 4611686018427387903 ∧ As (loopR zs 0 = loopR (zs.drop k) n)) (fun _ iv _ => zs.length - (intOf iv).toNat)
  case atStart => exact ⟨rfl, 0, 0, rfl, rfl, Nat.zero_le _, by omega, by omega, ⟨rfl⟩⟩
  case round =>
    obtain ⟨rfl, k, n, rfl, rfl, hk, hn0, hn1, HL⟩ := hrel
    by_cases hlt : k < zs.length
    · have hlt' : decide ((k : Int) < zs.length) = true := by simpa using hlt
      have HD : As (zs.drop k = zs[k] :: zs.drop (k + 1)) := ⟨List.drop_eq_getElem_cons hlt⟩
      have hz0 : As (zs ≠ []) := ⟨fun e => by rw [e] at hlt; exact absurd hlt (Nat.not_lt_zero _)⟩
      have hbr : As ((0 : Int) ≤ (zs[k].toNat : Nat) ∧ ((zs[k].toNat : Nat) : Int) ≤ 255) := ⟨by have := zs[k].toNat_lt; omega⟩
      obtain ⟨q, hq⟩ : ∃ q, stepR n (zs[k].toNat : Nat) = q := ⟨_, rfl⟩
      have HQ := As.mk hq
      have HL2 : As (loopR zs 0 = if q.2 = 0 then loopR (zs.drop (k + 1)) q.1 else (0, q.2)) := ⟨by rw [HL.out, HD.out, ← hq]; rfl⟩
      have hr := stepR_rng (n := n) (c := (zs[k].toNat : Nat)) hn0
      rw [hq] at hr
      clear hq HL HD
      obtain ⟨qn, qe⟩ := q
      simp only at HL2 hr
      by_cases h0 : qe = 0
      · subst h0
        obtain ⟨hr1, hr2⟩ := hr rfl
        have HL3 := As.mk (HL2.out.trans (if_pos rfl))
        clear HL2 hr
        go_wp2_with (first | (go_at_call 57; refine (gstep_c n (zs[k].toNat : Nat) _ ⟨hn0, hn1⟩ hbr.out).mono ?_; rw [HQ.out]; rintro e w1 ⟨rfl, rfl⟩))
        go_roundw
        case rel => exact ⟨by first | rfl | trivial, k + 1, qn, by go_num, rfl, by omega, hr1, hr2, HL3⟩
        case measure => simp [intOf]; omega
      · have h0' : (qe != 0) = true := by rw [bne_iff_ne]; exact h0
        have HL3 := As.mk (HL2.out.trans (if_neg h0))
        clear HL2 hr h0
        go_wp2_with (first | (go_at_call 57; refine (gstep_c n (zs[k].toNat : Nat) _ ⟨hn0, hn1⟩ hbr.out).mono ?_; rw [HQ.out]; rintro e w1 ⟨rfl, rfl⟩))
        go_ret2
        have HP : parseR zs = (0, qe) := by unfold parseR; rw [if_neg hz0.out, HL3.out]
        rw [HP]
        exact ⟨rfl, rfl⟩
    · have hlt' : decide ((k : Int) < zs.length) = false := by simpa using hlt
      obtain rfl : k = zs.length := by omega
      have HL2 : As (loopR zs 0 = (n, 0)) := ⟨by rw [HL.out, List.drop_length]; rfl⟩
      clear HL
      by_cases hz : zs = []
      · subst hz
        go_wp2
        go_ret2
        exact ⟨rfl, rfl⟩
      · have HP : As (parseR zs = (n, 0)) := ⟨by unfold parseR; rw [if_neg hz, HL2.out]⟩
        have hz' : zs.isEmpty = false := by cases zs with | nil => exact absurd rfl hz | cons => rfl
        go_wp2
        go_ret2
        rw [HP.out]
        exact ⟨rfl, rfl⟩
theorem nparse_c (zs : List UInt8) (hl : zs.length ≤ 100000) (w : World) :
    Calls Tryd.prog 46 #[strV zs, .int .i64 4611686018427387903] w fun e w' => e = .returned (.tuple #[.int .i64 (parseR zs).1, .int .i64 (parseR zs).2]) ∧ Ext w w' := by
  by_cases hz : zs = []
  · subst hz
    go_enter Tryd.func46, Tryd.ntmps46
    go_wp2
    go_ret2
    exact ⟨rfl, Ext.refl _⟩
  · have hz' : zs.isEmpty = false := by cases zs with | nil => exact absurd rfl hz | cons => rfl
    have HZ := As.mk hz
    have hrs : ∀ W : World, (Instr.range 9 (strV zs)).run Tryd.prog W = .ok (.pointer (some ⟨W.heap.size, 0, none⟩)) (W.alloc (.stringIter ⟨zs.toArray⟩ 0)) := fun W => run_range_string W 9 ⟨zs.toArray⟩ Tryd.underlying9
    have hsz : (⟨zs.toArray⟩ : ByteArray).size = zs.length := by show zs.toArray.size = _; simp
    have HSZ := As.mk hsz
    clear hz hsz
    go_enter Tryd.func46, Tryd.ntmps46
    go_wp2
    clear hrs
    obtain ⟨g, hg⟩ : ∃ g, w.heap.size = g := ⟨_, rfl⟩
    have hh : (w.alloc (.stringIter ⟨zs.toArray⟩ 0)).heap[g]? = some (.stringIter ⟨zs.toArray⟩ 0) := by rw [← hg]; exact World.iter_heap w ⟨zs.toArray⟩ 0
    have HG := As.mk hg
    rw [hg]
    clear hg
    go_loopw [6] (fun nv w' => ∃ (k : Nat) (n : Int), nv = .int .i64 n ∧ k ≤ zs.length ∧ 0 ≤ n ∧ n ≤ 4611686018427387903 ∧ As (loopR zs 0 = loopR (zs.drop k) n) ∧ w'.heap[g]? = some (.stringIter ⟨zs.toArray⟩ k) ∧ As (Ext w w')) (fun _ w' => zs.length - w'.iterPos g)
    case atStart => exact ⟨0, 0, rfl, Nat.zero_le _, by omega, by omega, ⟨rfl⟩, hh, ⟨Ext.alloc _ _⟩⟩
    case round =>
      clear hh
      obtain ⟨k, n, rfl, hk, hn0, hn1, HL, hh, HX⟩ := hrel
      by_cases hlt : k < zs.length
      · have hks : k < (⟨zs.toArray⟩ : ByteArray).size := by rw [HSZ.out]; exact hlt
        have HD : As (zs.drop k = zs[k] :: zs.drop (k + 1)) := ⟨List.drop_eq_getElem_cons hlt⟩
        have hbr : As ((0 : Int) ≤ (zs[k].toNat : Nat) ∧ ((zs[k].toNat : Nat) : Int) ≤ 255) := ⟨by have := zs[k].toNat_lt; omega⟩
        obtain ⟨q, hq⟩ : ∃ q, stepR n (zs[k].toNat : Nat) = q := ⟨_, rfl⟩
        have HQ := As.mk hq
        have HL2 : As (loopR zs 0 = if q.2 = 0 then loopR (zs.drop (k + 1)) q.1 else (0, q.2)) := ⟨by rw [HL.out, HD.out, ← hq]; rfl⟩
        have hr := stepR_rng (n := n) (c := (zs[k].toNat : Nat)) hn0
        have ha : q.2 = 0 → zs[k].toNat < 128 := fun h => by
          rw [← hq] at h
          unfold stepR at h
          split at h
          · cases h
          · omega
        rw [hq] at hr
        clear hq HL HD
        have HE : As (∀ p, Ext w (wr.iterAt g ⟨zs.toArray⟩ p)) := ⟨fun p => ⟨HX.out.os, HX.out.tape, HX.out.output, by rw [Lib.iterAt_size]; exact HX.out.size, fun b hb => (Lib.iterAt_other _ _ _ _ _ (by have := HG.out; omega)).trans (HX.out.block b hb)⟩⟩
        have HH : As (∀ p, (wr.iterAt g ⟨zs.toArray⟩ p).heap[g]? = some (.stringIter ⟨zs.toArray⟩ p)) := ⟨fun p => Lib.iterAt_heap _ _ _ k p hh⟩
        have HIP : As (wr.iterPos g = k) := ⟨by simp [World.iterPos, hh]⟩
        obtain ⟨qn, qe⟩ := q
        simp only at HL2 hr ha
        by_cases h0 : qe = 0
        · subst h0
          obtain ⟨hr1, hr2⟩ := hr rfl
          have HL3 := As.mk (HL2.out.trans (if_pos rfl))
          have hnx : ∀ ty, (Instr.next (.pointer (some ⟨g, 0, none⟩)) true ty).run Tryd.prog wr = _ := fun ty => Lib.run_next_ascii_at wr g ⟨zs.toArray⟩ k ty hh hks (ha rfl)
          have hh2 := HH.out (k + 1)
          have HX2 := As.mk (HE.out (k + 1))
          have HIP2 : As ((wr.iterAt g ⟨zs.toArray⟩ (k + 1)).iterPos g = k + 1) := ⟨by simp [World.iterPos, hh2]⟩
          clear HL2 hr ha hh HX HE HH
          generalize wr.iterAt g ⟨zs.toArray⟩ (k + 1) = w3 at hnx hh2 HX2 HIP2
          go_wp2_with (first | (go_at_call 56; refine (nstep_c n (zs[k].toNat : Nat) _ ⟨hn0, hn1⟩ hbr.out).mono ?_; rw [HQ.out]; rintro e w1 ⟨rfl, rfl⟩))
          go_roundw
          case rel => exact ⟨k + 1, qn, rfl, by omega, hr1, hr2, HL3, hh2, HX2⟩
          case measure => rw [HIP.out, HIP2.out]; omega
        · have h0' : (qe != 0) = true := by rw [bne_iff_ne]; exact h0
          have HL3 := As.mk (HL2.out.trans (if_neg h0))
          have hnx : ∀ ty, (Instr.next (.pointer (some ⟨g, 0, none⟩)) true ty).run Tryd.prog wr = _ := fun ty => Lib.run_next_any_at wr g ⟨zs.toArray⟩ k ty hh hks
          have HX2 := As.mk (HE.out (k + (Utf8.decode ⟨zs.toArray⟩ k).2))
          clear HL2 hr ha h0 HE HH hh HX
          generalize wr.iterAt g ⟨zs.toArray⟩ (k + (Utf8.decode ⟨zs.toArray⟩ k).2) = w3 at hnx HX2
          go_wp2_with (first | (go_at_call 56; refine (nstep_c n (zs[k].toNat : Nat) _ ⟨hn0, hn1⟩ hbr.out).mono ?_; rw [HQ.out]; rintro e w1 ⟨rfl, rfl⟩))
          go_ret2
          have HP : parseR zs = (0, qe) := by unfold parseR; rw [if_neg HZ.out, HL3.out]
          rw [HP]
          exact ⟨rfl, HX2.out⟩
      · obtain rfl : k = zs.length := by omega
        have hnx : ∀ ty, (Instr.next (.pointer (some ⟨g, 0, none⟩)) true ty).run Tryd.prog wr = _ := fun ty => Lib.run_next_end_at wr g ⟨zs.toArray⟩ zs.length ty hh (by rw [HSZ.out]; omega)
        have HP : As (parseR zs = (n, 0)) := ⟨by unfold parseR; rw [if_neg HZ.out, HL.out, List.drop_length]; rfl⟩
        go_wp2
        go_ret2
        rw [HP.out]
        exact ⟨rfl, HX.out⟩
end Go.Proofs.YteaekpnmiicbhaaDoor
