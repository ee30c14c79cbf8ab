/- A new tree; a word put into it. -/
import Derived.Test.YtpgphhkhjbhimaaMPut
import Derived.Test.YtpgphhkhjbhimaaCut
namespace Go.Proofs.Ytpgphhkhjbhimaa.X
open Go.RowKit
theorem cell_congr {w w' : World} {a : Addr} (h : w'.heap[a.block]? = w.heap[a.block]?) : w'.cell? a = w.cell? a := by simp [World.cell?, h]
theorem ClA.alloc {L : List Addr} {w : World} (h : ∀ a ∈ L, a.block < w.heap.size) (o : Obj) : ClA L w (w.alloc o) := fun a ha => cell_congr (Below.heap_alloc w o _ (h a ha))
theorem ClA.grown {L : List Addr} {w w' : World} {row : Option Nat} (hg : w.grownBy w' row) (h : ∀ a ∈ L, a.block < w.heap.size ∧ some a.block ≠ row) : ClA L w w' := fun a ha => cell_congr (hg.block _ (h a ha).1 (h a ha).2)
theorem ClE.of {w x : World} (h : Ext w x) : ClE w.drew x := ⟨h.os, h.tape, h.output, h.size, h.block⟩
end Go.Proofs.Ytpgphhkhjbhimaa.X
namespace Go.Proofs.Ytpgphhkhjbhimaa
open Go.RowKit X
set_option maxHeartbeats 400000
set_option maxRecDepth 4000

theorem new_c (w : World) : Calls Try.prog 30 #[] w fun e w' => ∃ b, e = .returned (.pointer (some ⟨b, 0, none⟩)) ∧ Upd w No No w' (TreeH b [⟨-1, 0, 0, [], []⟩] []) := by
  go_enter Try.func30, Try.ntmps30
  go_wp2_with fail
  go_ret
  have hrow : Own kR (w.alloc (.cells #[.int .i64 (-1), .int .u64 0, .int .i64 0, .slice none 0 0, .slice none 0 0] 78)) 0 No (.slice (some ⟨w.heap.size, 0, none⟩) 1 1) [⟨-1, 0, 0, .slice none 0 0, .slice none 0 0⟩] :=
    ⟨_, ⟨⟨rfl, .inr ⟨w.heap.size, 1, _, rfl, Nat.zero_le _, heap_alloc_new w _, Nat.le_refl _, by decide, rfl, rfl⟩⟩, fun _ _ h => h⟩, flatR.2 ⟨rfl, fun x hx => by rw [List.mem_singleton] at hx; subst hx; exact ⟨rfl, rfl⟩⟩⟩
  have hx := (Ext.alloc w (.cells #[.int .i64 (-1), .int .u64 0, .int .i64 0, .slice none 0 0, .slice none 0 0] 78))
  have hat := heap_alloc_new (w.alloc (.cells #[.int .i64 (-1), .int .u64 0, .int .i64 0, .slice none 0 0, .slice none 0 0] 78)) (.cells #[.slice (some ⟨w.heap.size, 0, none⟩) 1 1, .slice none 0 0] 81)
  rw [show (w.alloc (.cells #[.int .i64 (-1), .int .u64 0, .int .i64 0, .slice none 0 0, .slice none 0 0] 78)).heap.size = w.heap.size + 1 from by simp] at hat
  refine ⟨_, rfl, fun k => w.heap.size ≤ k ∧ k < w.heap.size + 2, No, ⟨_, _, _, ⟨hat, ⟨Nat.le_succ _, by omega⟩, hrow.ext (Ext.alloc _ _), fun g e => by cases e; exact ⟨Nat.le_refl _, Nat.lt_add_of_pos_right (by omega)⟩, Own.nil, (fun g e => by cases e), rfl, ?_, ?_, ?_, ?_⟩⟩, fun k hk => ⟨by simpa using hk.2, .inr hk.1⟩, fun k hk => hk.elim, fun _ _ h => h, Chg.of_ext (hx.tr (Ext.alloc _ _))⟩
  · intro i h h'
    obtain rfl : i = 0 := by simpa using h
    exact ⟨rfl, rfl, rfl, Own.nil, Own.nil, (fun _ e => by cases e), (fun _ e => by cases e)⟩
  · intro i k hi hk hik
    simp at hi hk
    omega
  · intro i k hi hk hik
    simp at hi hk
    omega
  · intro i hi g e
    obtain rfl : i = 0 := by simpa using hi
    cases e

theorem put_g (l : List Nd) (ws xs : List Int) (A : Option Addr) (c : Nat) (b : Nat) (w : World) (E G : Fp) (hGN : ∀ k, w.heap.size ≤ k → G k) (hEG : ∀ k, E k → ¬ G k) (hO : OwnT w G b l ws) (hW : WfT l ws.length) (hx : Sl (Kd.int 58 .u64) w E A xs) (hcc : xs.length ≤ c) (hn : xs.length ≤ 1000000) (hl : l.length ≤ 1048576) (hws : ws.length ≤ 1000000) :
    Calls Try.prog 31 #[.pointer (some ⟨b, 0, none⟩), .slice A xs.length c] w fun e w' =>
      if xs = [] then e = .returned (.tuple #[.int .i64 (-1), .int .i64 1]) ∧ Ext w w'
      else if 1048576 < l.length + xs.length - (walkT l 0 xs).2 then e = .returned (.tuple #[.int .i64 (-1), .int .i64 8]) ∧ Ext w w'
      else e = .returned (.tuple #[.int .i64 ws.length, .int .i64 0]) ∧ OwnT w' G b (endT (putN l xs).1 (putN l xs).2 ws.length) (ws ++ [((putN l xs).2 : Int)]) ∧ Chg G w w' := by
  have hG := hW.good hl
  obtain ⟨j, hj1, hj2, hj3, hj4⟩ := walkT_of hW xs 0 hW.pos
  rw [show ((0 : Nat) : Int) = 0 from rfl] at hj1 hj3 hj4
  have HJ := As.mk hj1
  have HJ4 := As.mk hj4
  have HG := As.mk hG
  have HGN := As.mk hGN
  have HEG := As.mk hEG
  have HW := As.mk hW
  have HO := As.mk hO
  have HS := As.mk hx
  clear hG hW hO hx hj4 hj1 hGN hEG
  by_cases he : xs = []
  · subst he
    simp only [if_true]
    go_enter Try.func31, Try.ntmps31
    go_wp2_with (first | (go_at_call 46; refine (walk_c l ws [] _ _ _ _ _ _ HO.out.rd HG.out HS.out (by simp)).mono ?_; rintro e w' ⟨rfl, hx⟩; have HX := As.mk hx; clear hx))
    go_ret2
    exact ⟨rfl, HX.out⟩
  · have hne : 0 < xs.length := by
      rcases xs with _ | _
      · exact absurd rfl he
      · simp
    simp only [if_neg he]
    have hz : (((xs.length : Int)) == 0) = false := by simp; omega
    by_cases hbig : 1048576 < l.length + xs.length - (walkT l 0 xs).2
    · simp only [if_pos hbig]
      have hbig' : decide ((l.length : Int) + xs.length - (walkT l 0 xs).2 > 1048576) = true := by simp; omega
      go_enter Try.func31, Try.ntmps31
      go_wp2_with (first | (go_at_call 46; refine (walk_c l ws xs _ _ _ _ _ _ HO.out.rd HG.out HS.out hn).mono ?_; rintro e w' ⟨rfl, hx⟩; have HX := As.mk hx; clear hx; obtain ⟨A1, c1, A2, c2, hh, -⟩ := HO.out.rd.below HX.out; have hc := cell_of_heap (j := 0) hh rfl; clear hh))
      go_ret2
      exact ⟨rfl, HX.out⟩
    · simp only [if_neg hbig]
      have hbig' : decide ((l.length : Int) + xs.length - (walkT l 0 xs).2 > 1048576) = false := by simp; omega
      have HWF := As.mk (WfT.putT HW.out hj2 HJ4.out)
      have HE : As (putN l xs = putT l j (xs.drop (walkT l 0 xs).2)) := ⟨by unfold putN; rw [HJ.out]; rfl⟩
      go_enter Try.func31, Try.ntmps31
      go_wp2_with (first | (go_at_call 46; refine (walk_c l ws xs _ _ _ _ _ _ HO.out.rd HG.out HS.out hn).mono ?_; rw [HJ.out]; rintro e w' ⟨rfl, hx⟩; have HX := As.mk hx; clear hx; have HS1 := As.mk (HS.out.below HX.out); obtain ⟨A1, c1, A2, c2, hh, -⟩ := HO.out.rd.below HX.out; have hc := cell_of_heap (j := 0) hh rfl; clear hh) | (refine wpList_cutL rfl ty_pixs _ _ rfl E A c (walkT l 0 xs).2 xs rfl rfl hj3 hcc HS1 ?_; intro A' HS'))
      have hrl : (xs.drop (walkT l 0 xs).2).length = xs.length - (walkT l 0 xs).2 := List.length_drop
      generalize hr : xs.drop (walkT l 0 xs).2 = rest at HS' HE HWF HJ4 hrl ⊢
      clear hr hc
      have hsum : l.length + rest.length ≤ 1048576 := by omega
      go_loopw [6, 38] (fun n i w' => ∃ (i1 k : Nat) (l1 : List Nd), k ≤ rest.length ∧ n = .int .i64 i1 ∧ i = .int .i64 k ∧ As (OwnT w' G b l1 ws) ∧ As (Chg G w w') ∧ As (Sl (Kd.int 58 .u64) w' E A' rest) ∧ As (putT l j rest = putT l1 i1 (rest.drop k)) ∧ i1 < l1.length ∧ As (WfT l1 ws.length) ∧ As (l1.length = l.length + k) ∧ As (∀ p r, rest.drop k = p :: r → hasE (l1.getD i1 default).kids p = false))
        (fun _ i _ => rest.length - (intOf i).toNat)
      case atStart => exact ⟨j, 0, l, Nat.zero_le _, rfl, rfl, ⟨HO.out.ext HX.out⟩, ⟨Chg.of_ext HX.out⟩, HS', ⟨rfl⟩, hj2, HW, ⟨rfl⟩, HJ4⟩
      case round =>
        obtain ⟨i1, k, l1, hk, rfl, rfl, HO1, HC1, HS2, HP, hi1, HW1, HL1, HF1⟩ := hrel
        have hl1b : l1.length ≤ 1048576 := by have := HL1.out; omega
        by_cases hlt : k < rest.length
        · have hlt' : decide ((k : Int) < rest.length) = true := by simpa using hlt
          obtain ⟨xb, o, rfl, hcp⟩ := HS2.out.int_at hlt
          have HG1 : As (GoodT l1) := ⟨HW1.out.good (by rw [HL1.out]; omega)⟩
          go_wp2_with (first | (go_at_call 47; refine (at_c l1 ws i1 _ _ _ _ HO1.out.rd HG1.out hi1).mono ?_; rintro e w1 ⟨rfl, hx⟩; have HX1 := As.mk hx; clear hx))
          have HC2 : As (Chg G w w1) := ⟨HC1.out.tr (Chg.of_ext HX1.out)⟩
          have HS3 : As (Sl (Kd.int 58 .u64) w1 E (some ⟨xb, o, none⟩) rest) := ⟨HS2.out.below HX1.out⟩
          obtain ⟨vn, vw, ns, hR⟩ := HO1.out.ext HX1.out
          have HR := As.mk hR
          have hin : i1 < ns.length := by rw [hR.len]; exact hi1
          obtain ⟨An, cn, hvn, hcn, hA⟩ := hR.row.form
          obtain ⟨g, rfl, hg⟩ := hA (by rintro rfl; simp at hin)
          subst hvn
          obtain ⟨-, -, -, hc3, -⟩ := hR.row.raw_cells hin
          have hc0 := cell_of_heap (j := 0) hR.at_ rfl
          have hk2 := (hR.nd i1 hin hi1).kids
          have HK := As.mk hk2
          have hkl := HG1.out.kids _ (List.getElem_mem hi1)
          have hlb := lt_of_heap hR.at_
          have hlg := (hR.row.lt (g := g) rfl).2
          have hq0 := ClA.cell (L := [⟨b, 0, none⟩, ⟨g, i1 * 5 + 3, none⟩]) (w := w1.drew) hc0 (by simp)
          have hq3 := ClA.cell (L := [⟨b, 0, none⟩, ⟨g, i1 * 5 + 3, none⟩]) (w := w1.drew) hc3 (by simp)
          clear hR hg hA hk2
          refine wp_region_at [⟨b, 0, none⟩, ⟨g, i1 * 5 + 3, none⟩] [⟨[0, 1, 2, 3, 5, 6, 7, 8, 9, 10, 11, 12, 14, 15, 16, 17, 18, 19, 20], [4, 13], 21, true⟩, ⟨[], [], 22, true⟩, ⟨[23, 24], [], 25, false⟩] [] (by kernel_rfl) (by kernel_rfl) ?_
          refine mix_cons rfl rfl rfl ?_
          simp only [opsAt, List.getD_cons_succ, List.getD_cons_zero]
          repeat (go_big_quiet_step ((intro hC; first | rfl | (go_simp; first | done | rfl))))
          refine wpQuiet_nil ?_
          repeat (go_big_quiet_step ((intro hC; first | rfl | (go_simp; first | done | rfl))))
          refine wpQuiet_nil ?_
          go_wp2
          have HX2 : As (Ext w1 (w1.alloc (.cells #[.int .u64 rest[k], .int .i64 ns.length] 88)).drew) := ⟨(Ext.alloc w1 _).drew⟩
          have HY : As ((w1.alloc (.cells #[.int .u64 rest[k], .int .i64 ns.length] 88)).drew.heap[w1.heap.size]? = some (.cells #[.int .u64 rest[k], .int .i64 ns.length] 88 (0, 0))) := ⟨heap_alloc_new w1 _⟩
          obtain ⟨w2, hw2⟩ : ∃ w2 : World, w2 = (w1.alloc (.cells #[.int .u64 rest[k], .int .i64 ns.length] 88)).drew := ⟨_, rfl⟩
          have hcl : ClA [⟨b, 0, none⟩, ⟨g, i1 * 5 + 3, none⟩] w1.drew w2 := by
            rw [hw2]
            refine ClA.alloc (w := w1) (fun a ha => ?_) _
            simp only [List.mem_cons, List.not_mem_nil, or_false] at ha
            rcases ha with rfl | rfl
            · exact hlb
            · exact hlg
          have hsz : w1.heap.size < w2.heap.size := by rw [hw2]; simp [World.drew]
          rw [← hw2] at HX2 HY ⊢
          clear hw2 hq0 hq3 hc3 hc0
          refine ⟨fun _ => hcl, ?_⟩
          have HR2 : As (OwnR w2 G b _ vw ns l1 ws) := ⟨HR.out.ext HX2.out⟩
          have HK2 : As (Own kE w2 0 No ns[i1].kv l1[i1].kids) := ⟨HK.out.ext HX2.out⟩
          have hgb : ns[i1].kv.ownBlock ≠ some w1.heap.size := fun e => by have := (HK.out.lt e).2; omega
          refine mix_cons rfl rfl rfl ?_
          simp only [opsAt, List.getD_cons_succ, List.getD_cons_zero]
          repeat (go_big_quiet_step ((intro hC; first | rfl | (go_simp; first | done | rfl))))
          refine wpQuiet_nil ?_
          repeat (go_big_quiet_step ((intro hC; first | rfl | (go_simp; first | done | rfl))))
          refine wpQuiet_nil ?_
          go_wp2_with (first | (go_at_call 48; refine (insert_c l1[i1].kids _ (rest[k], (ns.length : Int)) ns[i1].kv 0 w1.heap.size _ HK2.out (posE_le _ _) hkl HY.out hgb (Nat.zero_le _)).mono ?_; rintro e w3 ⟨v', rfl, ho3, hg3, hb3⟩; obtain ⟨A5, c5, rfl, -, -⟩ := ho3.form; have HO3 := As.mk ho3; have HG3 := As.mk hg3; have HB3 := As.mk hb3; clear ho3 hg3 hb3))
          have r1 := HK2.out.rowTy
          have hcl3 : ClA [⟨b, 0, none⟩, ⟨g, i1 * 5 + 3, none⟩] w2 w3 := by
            refine ClA.grown HG3.out (fun a ha => ?_)
            simp only [List.mem_cons, List.not_mem_nil, or_false] at ha
            rcases ha with rfl | rfl
            · refine ⟨by show b < _; omega, fun e => ?_⟩
              obtain ⟨cur, hh⟩ := r1 b e.symm
              have := HR2.out.at_
              rw [hh] at this
              injection this with i1
              injection i1 with _ i2 _
              exact absurd i2 (by decide)
            · refine ⟨by show g < _; omega, fun e => ?_⟩
              obtain ⟨cur, hh⟩ := r1 g e.symm
              obtain ⟨cur', hh'⟩ := HR2.out.row.rowTy g rfl
              rw [hh] at hh'
              injection hh' with i1
              injection i1 with _ i2 _
              exact absurd i2 (by decide)
          refine ⟨fun _ => hcl3, ?_⟩
          have row3 := HR2.out.row.keptTy HG3.out _ r1 (by decide) (fun _ h => h)
          obtain ⟨-, -, -, hc3, -⟩ := row3.raw_cells hin
          have hf3 := row3.not_frozen (i1 * 5 + 3)
          clear row3 r1 hcl hcl3
          refine mix_cons rfl rfl rfl ?_
          simp only [opsAt, List.getD_cons_succ, List.getD_cons_zero]
          repeat (go_big_quiet_step ((intro hC; first | rfl | (go_simp; first | done | rfl))))
          refine wpQuiet_nil ?_
          repeat (go_big_quiet_step ((intro hC; first | rfl | (go_simp; first | done | rfl))))
          refine wpQuiet_nil ?_
          go_wp2
          refine ⟨(fun h => by cases h), mix_done ?_⟩
          simp only [calmQ]
          clear hc3 hf3
          obtain ⟨hR4, hC4⟩ := HR2.out.kids_upd i1 hin hi1 _ _ HO3.out HG3.out HB3.out (fun k hk => HGN.out k (Nat.le_trans (HC2.out.tr (Chg.of_ext HX2.out)).size hk)) rfl
          have HR4 := As.mk hR4
          have HC4 : As (Chg G w _) := ⟨(HC2.out.tr (Chg.of_ext HX2.out)).tr hC4⟩
          have HS4 : As (Sl (Kd.int 58 .u64) _ E (some ⟨xb, o, none⟩) rest) := ⟨(HS3.out.below HX2.out).chg hC4 (fun k _ hE => HEG.out k hE)⟩
          clear hR4 hC4 HX2 HY HR2 HK2 HO3 HG3 HB3 HR HK HS3 HC2 HO1 HX1 hgb hcp HC1 HS2
          have hnl : ns.length = l1.length := by have := HR4.out.len; simpa using this
          generalize w3.setCell ⟨g, i1 * 5 + 3, none⟩ (Value.slice A5 (insE l1[i1].kids (posE l1[i1].kids rest[k]) (rest[k], (ns.length : Int))).length c5) = w4 at HR4 HC4 HS4 ⊢
          obtain ⟨ns2, l2, HR5, hns2, hl2, HD2, HADD⟩ : ∃ ns2 l2, As (OwnR w4 G b (.slice (some ⟨g, 0, none⟩) ns.length cn) vw ns2 l2 ws) ∧ ns2.length = ns.length ∧ l2.length = l1.length ∧ As ((l2.getD i1 default).depth = l1[i1].depth) ∧ As (∀ d, d = l1[i1].depth + 1 → l2 ++ [(⟨i1, rest[k], d, [], []⟩ : Nd)] = addT l1 i1 rest[k]) :=
            ⟨_, _, HR4, by simp, by simp, ⟨by rw [getD_eq (by simpa using hi1), List.getElem_set_self]⟩, ⟨fun d hd => by unfold addT; rw [getD_eq hi1, hd, hnl]⟩⟩
          have HNL := As.mk hnl
          have HN2 := As.mk hns2
          have HL2 := As.mk hl2
          have hin2 : i1 < ns2.length := by omega
          have hi2 : i1 < l2.length := by omega
          have hnb : ns2.length ≤ 1048576 := by have := HL1.out; omega
          obtain ⟨-, -, hcd, -, -⟩ := HR5.out.row.raw_cells hin2
          obtain ⟨d, hd⟩ : ∃ d, d = ns2[i1].depth := ⟨_, rfl⟩
          rw [← hd] at hcd
          have HD : As (d = l1[i1].depth) := ⟨by rw [hd, (HR5.out.nd i1 hin2 hi2).depth, ← HD2.out, getD_eq hi2]⟩
          obtain ⟨hd0, hd1⟩ : 0 ≤ d ∧ d < 1048576 := by
            have := HW1.out.dp _ (List.getElem_mem hi1)
            have := HL1.out
            rw [HD.out]; omega
          have hc0 := cell_of_heap (j := 0) HR5.out.at_ rfl
          have hq0 := ClE.cell (w := w4.drew) hc0
          have hq3 := ClE.cell (w := w4.drew) hcd
          clear hnl hns2 hl2 hd HR4 hcd hc0 hlb hlg hsz hkl
          go_wp2
          refine wp_region_ext [⟨[1, 2, 3, 4, 5, 6, 7, 8, 9, 10, 11, 12, 13, 14, 15, 16], [0], 17, true⟩, ⟨[], [], 18, false⟩, ⟨[19, 20], [], 21, false⟩] [] (by kernel_rfl) (by kernel_rfl) ?_
          refine mix_cons rfl rfl rfl ?_
          simp only [opsAt, List.getD_cons_succ, List.getD_cons_zero]
          repeat (go_big_quiet_step ((intro hC; first | rfl | (go_simp; first | done | rfl))))
          refine wpQuiet_nil ?_
          repeat (go_big_quiet_step ((intro hC; first | rfl | (go_simp; first | done | rfl))))
          refine wpQuiet_nil ?_
          go_wp2
          refine ⟨fun _ => ClE.of (Ext.alloc w4 _).drew, ?_⟩
          have HX5 : As (Ext w4 (w4.alloc (.cells #[.int .i64 i1, .int .u64 rest[k], .int .i64 (d + 1), .slice none 0 0, .slice none 0 0] 78)).drew) := ⟨(Ext.alloc w4 _).drew⟩
          have HY : As ((w4.alloc (.cells #[.int .i64 i1, .int .u64 rest[k], .int .i64 (d + 1), .slice none 0 0, .slice none 0 0] 78)).drew.heap[w4.heap.size]? = some (.cells #[.int .i64 i1, .int .u64 rest[k], .int .i64 (d + 1), .slice none 0 0, .slice none 0 0] 78 (0, 0))) := ⟨heap_alloc_new w4 _⟩
          generalize (w4.alloc (.cells #[.int .i64 i1, .int .u64 rest[k], .int .i64 (d + 1), .slice none 0 0, .slice none 0 0] 78)).drew = w5 at HX5 HY ⊢
          have HR6 : As (OwnR w5 G b _ vw ns2 l2 ws) := ⟨HR5.out.ext HX5.out⟩
          have HO6 := As.mk HR6.out.row
          clear hq0 hq3
          have HLn : As ((ns2 ++ [(⟨i1, rest[k], d + 1, .slice none 0 0, .slice none 0 0⟩ : Raw)]).length = l1.length + 1) := ⟨by rw [List.length_append, HN2.out, HNL.out]; rfl⟩
          refine mix_cons rfl rfl rfl ?_
          simp only [opsAt, List.getD_cons_succ, List.getD_cons_zero]
          repeat (go_big_quiet_step ((intro hC; first | rfl | (go_simp; first | done | rfl))))
          refine wpQuiet_nil ?_
          repeat (go_big_quiet_step ((intro hC; first | rfl | (go_simp; first | done | rfl))))
          refine wpQuiet_nil ?_
          go_wp2_with (first | (at_builtin; refine wpList_pushB rfl _ _ rfl ty_raws 0 (Nat.zero_le _) No (.slice (some ⟨g, 0, none⟩) ns.length cn) ns2 rfl HO6 ⟨i1, rest[k], d + 1, .slice none 0 0, .slice none 0 0⟩ w4.heap.size 1 rfl [.int .i64 i1, .int .u64 rest[k], .int .i64 (d + 1), .slice none 0 0, .slice none 0 0] 78 (0, 0) HY.out ⟨rfl, rfl, rfl⟩ (by simp only [maxLen]; omega) (by omega) (fun _ h => h.elim) ?_; intro v6 w6 HO7 HG7; obtain ⟨A6, c6, hv6, -, -⟩ := HO7.out.form; rw [HLn.out] at hv6; subst hv6))
          refine ⟨(fun h => by cases h), ?_⟩
          simp only [Act.put, List.setIfInBounds_toArray, List.set_cons_succ, List.set_cons_zero]
          have hat := tree_kept HR6.out.at_ HG7.out.1 _ HR6.out.row.rowTy (by decide)
          have hc7 := cell_of_heap (j := 0) hat rfl
          have hf7 := frozen_of_row w6 b 0 _ _ hat
          clear hat
          refine mix_cons rfl rfl rfl ?_
          simp only [opsAt, List.getD_cons_succ, List.getD_cons_zero]
          repeat (go_big_quiet_step ((intro hC; first | rfl | (go_simp; first | done | rfl))))
          refine wpQuiet_nil ?_
          repeat (go_big_quiet_step ((intro hC; first | rfl | (go_simp; first | done | rfl))))
          refine wpQuiet_nil ?_
          go_wp2
          refine ⟨(fun h => by cases h), mix_done ?_⟩
          simp only [calmQ]
          clear hc7 hf7
          obtain ⟨hR8, hC8⟩ := HR6.out.node_push _ _ _ _ HO7.out HG7.out.1 HG7.out.2 (fun k hk => HGN.out k (Nat.le_trans (HC4.out.tr (Chg.of_ext HX5.out)).size hk))
          rw [HADD.out (d + 1) (by rw [HD.out])] at hR8
          have HR8 := As.mk hR8
          have HC8 : As (Chg G w _) := ⟨(HC4.out.tr (Chg.of_ext HX5.out)).tr hC8⟩
          have HS8 : As (Sl (Kd.int 58 .u64) _ E (some ⟨xb, o, none⟩) rest) := ⟨(HS4.out.below HX5.out).chg hC8 (fun k _ hE => HEG.out k hE)⟩
          generalize w6.setCell ⟨b, 0, none⟩ (Value.slice A6 (l1.length + 1) c6) = w8 at HR8 HC8 HS8 ⊢
          have hc8 := cell_of_heap (j := 0) HR8.out.at_ rfl
          clear hR8 hC8 HX5 HY HR6 HO6 HR5 HC4 HS4 HG7
          go_wp2
          go_roundw
          case rel =>
            have hd' : rest.drop k = rest[k] :: rest.drop (k + 1) := List.drop_eq_getElem_cons hlt
            refine ⟨l1.length, k + 1, addT l1 i1 rest[k], by omega, by go_num, by go_num, ⟨_, _, _, HR8.out⟩, HC8, HS8, ⟨?_⟩, by rw [addT_len]; omega, ⟨HW1.out.add hi1 ?_⟩, ⟨by rw [addT_len, HL1.out]; omega⟩, ⟨fun p r _ => ?_⟩⟩
            · rw [HP.out, hd']; rfl
            · have := HF1.out _ _ hd'
              rwa [getD_eq hi1] at this
            · rw [List.getD_eq_getElem?_getD, addT_last]; rfl
          case measure => simp [intOf]; omega
        · have hlt' : decide ((k : Int) < rest.length) = false := by simpa using hlt
          obtain ⟨vn, vw, ns, hR⟩ := HO1.out
          have HR := As.mk hR
          have hin : i1 < ns.length := by rw [hR.len]; exact hi1
          obtain ⟨An, cn, hvn, hcn, hA⟩ := hR.row.form
          obtain ⟨g, rfl, hg⟩ := hA (by rintro rfl; simp at hin)
          subst hvn
          obtain ⟨Aw, cw, hvw, hcw, -⟩ := hR.wrow.form
          subst hvw
          obtain ⟨-, -, -, -, hc4⟩ := hR.row.raw_cells hin
          have hc0 := cell_of_heap (j := 0) hR.at_ rfl
          have hc1 := cell_of_heap (j := 1) hR.at_ rfl
          have HW4 := As.mk (hR.nd i1 hin hi1).words
          have hwl : l1[i1].words.length ≤ 1000000 := Nat.le_trans (HW1.out.wn _ (List.getElem_mem hi1)) hws
          have hlb := lt_of_heap hR.at_
          have hlg := (hR.row.lt (g := g) rfl).2
          have hq0 := ClA.cell (L := [⟨b, 0, none⟩, ⟨b, 1, none⟩, ⟨g, i1 * 5 + 4, none⟩]) (w := wr.drew) hc0 (by simp)
          have hq1 := ClA.cell (L := [⟨b, 0, none⟩, ⟨b, 1, none⟩, ⟨g, i1 * 5 + 4, none⟩]) (w := wr.drew) hc1 (by simp)
          have hq4 := ClA.cell (L := [⟨b, 0, none⟩, ⟨b, 1, none⟩, ⟨g, i1 * 5 + 4, none⟩]) (w := wr.drew) hc4 (by simp)
          clear hR hg hA hc0 hc1 hc4
          go_wp2
          refine wp_region_at [⟨b, 0, none⟩, ⟨b, 1, none⟩, ⟨g, i1 * 5 + 4, none⟩] [⟨[0, 1, 2, 3, 5, 6, 7, 8, 9, 10, 11, 12, 13, 14, 15, 16, 17], [4], 18, true⟩, ⟨[], [], 19, true⟩, ⟨[20, 21], [], 22, false⟩] [] (by kernel_rfl) (by kernel_rfl) ?_
          refine mix_cons rfl rfl rfl ?_
          simp only [opsAt, List.getD_cons_succ, List.getD_cons_zero]
          repeat (go_big_quiet_step ((intro hC; first | rfl | (go_simp; first | done | rfl))))
          refine wpQuiet_nil ?_
          repeat (go_big_quiet_step ((intro hC; first | rfl | (go_simp; first | done | rfl))))
          refine wpQuiet_nil ?_
          go_wp2
          have HX2 : As (Ext wr (wr.alloc (.cells #[.int .i64 ws.length] 3)).drew) := ⟨(Ext.alloc wr _).drew⟩
          have HY : As ((wr.alloc (.cells #[.int .i64 ws.length] 3)).drew.heap[wr.heap.size]? = some (.cells #[.int .i64 ws.length] 3 (0, 0))) := ⟨heap_alloc_new wr _⟩
          obtain ⟨w2, hw2⟩ : ∃ w2 : World, w2 = (wr.alloc (.cells #[.int .i64 ws.length] 3)).drew := ⟨_, rfl⟩
          have hcl : ClA [⟨b, 0, none⟩, ⟨b, 1, none⟩, ⟨g, i1 * 5 + 4, none⟩] wr.drew w2 := by
            rw [hw2]
            refine ClA.alloc (w := wr) (fun a ha => ?_) _
            simp only [List.mem_cons, List.not_mem_nil, or_false] at ha
            rcases ha with rfl | rfl | rfl
            · exact hlb
            · exact hlb
            · exact hlg
          rw [← hw2] at HX2 HY ⊢
          clear hw2 hq0 hq1 hq4
          refine ⟨fun _ => hcl, ?_⟩
          have HR2 : As (OwnR w2 G b _ _ ns l1 ws) := ⟨HR.out.ext HX2.out⟩
          have HK2 : As (Own kI w2 0 No ns[i1].wv l1[i1].words) := ⟨HW4.out.ext HX2.out⟩
          refine mix_cons rfl rfl rfl ?_
          simp only [opsAt, List.getD_cons_succ, List.getD_cons_zero]
          repeat (go_big_quiet_step ((intro hC; first | rfl | (go_simp; first | done | rfl))))
          refine wpQuiet_nil ?_
          repeat (go_big_quiet_step ((intro hC; first | rfl | (go_simp; first | done | rfl))))
          refine wpQuiet_nil ?_
          go_wp2_with (first | (at_builtin; refine wpList_pushB rfl _ _ rfl ty_ints 0 (Nat.zero_le _) No ns[i1].wv l1[i1].words rfl HK2 (ws.length : Int) wr.heap.size 1 rfl [.int .i64 ws.length] 3 (0, 0) HY.out rfl (by simp only [maxLen]; omega) (by omega) (fun _ h => h.elim) ?_; intro v6 w3 HO3 HG3; obtain ⟨A5, c5, hv5, -, -⟩ := HO3.out.form; rw [show (l1[i1].words ++ [(ws.length : Int)]).length = l1[i1].words.length + 1 from List.length_append ..] at hv5; subst hv5))
          have r1 := HK2.out.rowTy
          have hcl3 : ClA [⟨b, 0, none⟩, ⟨b, 1, none⟩, ⟨g, i1 * 5 + 4, none⟩] w2 w3 := by
            have hb' : some b ≠ ns[i1].wv.ownBlock := fun e => by
              obtain ⟨cur, hh⟩ := r1 b e.symm
              have := HR2.out.at_
              rw [hh] at this
              injection this with i1
              injection i1 with _ i2 _
              exact absurd i2 (by decide)
            have hb2 : b < w2.heap.size := lt_of_heap HR2.out.at_
            have hg2 : g < w2.heap.size := (HR2.out.row.lt (g := g) rfl).2
            refine ClA.grown HG3.out.1 (fun a ha => ?_)
            simp only [List.mem_cons, List.not_mem_nil, or_false] at ha
            rcases ha with rfl | rfl | rfl
            · exact ⟨hb2, hb'⟩
            · exact ⟨hb2, hb'⟩
            · refine ⟨hg2, fun e => ?_⟩
              obtain ⟨cur, hh⟩ := r1 g e.symm
              obtain ⟨cur', hh'⟩ := HR2.out.row.rowTy g rfl
              rw [hh] at hh'
              injection hh' with i1
              injection i1 with _ i2 _
              exact absurd i2 (by decide)
          refine ⟨fun _ => hcl3, ?_⟩
          simp only [Act.put, List.setIfInBounds_toArray, List.set_cons_succ, List.set_cons_zero]
          have row3 := HR2.out.row.keptTy HG3.out.1 _ r1 (by decide) (fun _ h => h)
          obtain ⟨-, -, -, -, hc3⟩ := row3.raw_cells hin
          have hf3 := row3.not_frozen (i1 * 5 + 4)
          clear row3 r1 hcl hcl3
          refine mix_cons rfl rfl rfl ?_
          simp only [opsAt, List.getD_cons_succ, List.getD_cons_zero]
          repeat (go_big_quiet_step ((intro hC; first | rfl | (go_simp; first | done | rfl))))
          refine wpQuiet_nil ?_
          repeat (go_big_quiet_step ((intro hC; first | rfl | (go_simp; first | done | rfl))))
          refine wpQuiet_nil ?_
          go_wp2
          refine ⟨(fun h => by cases h), mix_done ?_⟩
          simp only [calmQ]
          clear hc3 hf3
          obtain ⟨hR4, hC4⟩ := HR2.out.words_upd i1 hin hi1 _ _ HO3.out HG3.out.1 HG3.out.2 (fun k hk => HGN.out k (Nat.le_trans (HC1.out.tr (Chg.of_ext HX2.out)).size hk)) rfl
          have HR4 : As (OwnR _ G b _ _ _ (endT l1 i1 ws.length) ws) := ⟨by unfold endT; rw [getD_eq hi1]; exact hR4⟩
          have HC4 : As (Chg G w _) := ⟨(HC1.out.tr (Chg.of_ext HX2.out)).tr hC4⟩
          clear hR4 hC4 HX2 HY HR2 HK2 HO3 HG3
          generalize w3.setCell ⟨g, i1 * 5 + 4, none⟩ (Value.slice A5 (l1[i1].words.length + 1) c5) = w4 at HR4 HC4 ⊢
          have hc4 := cell_of_heap (j := 1) HR4.out.at_ rfl
          have hc5 := al1 hc4 (.cells #[.int .i64 i1] 3)
          have HX5 : As (Ext w4 (w4.alloc (.cells #[.int .i64 i1] 3))) := ⟨Ext.alloc w4 _⟩
          have HR5 : As (OwnR (w4.alloc (.cells #[.int .i64 i1] 3)) G b _ _ _ _ ws) := ⟨HR4.out.ext HX5.out⟩
          have HO5 := As.mk HR5.out.wrow
          have hHI : putN l xs = (l1, i1) := by
            rw [HE.out, HP.out, List.drop_of_length_le (by omega)]; rfl
          have HPN := As.mk hHI
          clear hHI
          go_wp2_with (first | (at_builtin; refine wpList_pushB rfl _ _ rfl ty_ints 0 (Nat.zero_le _) No (.slice Aw ws.length cw) ws rfl HO5 (i1 : Int) w4.heap.size 1 rfl [.int .i64 i1] 3 (0, 0) (heap_alloc_new _ _) rfl (by simp only [maxLen]; omega) (by omega) (fun _ h => h.elim) ?_; intro v6 w6 HO6 HG6; obtain ⟨A6, c6, hv6, -, -⟩ := HO6.out.form; rw [show (ws ++ [(i1 : Int)]).length = ws.length + 1 from List.length_append ..] at hv6; subst hv6; have hat := tree_kept HR5.out.at_ HG6.out.1 _ HR5.out.wrow.rowTy (by decide); have hc6 := cell_of_heap (j := 1) hat rfl; have hf6 := frozen_of_row w6 b 1 _ _ hat; clear hat))
          obtain ⟨hR8, hC8⟩ := HR5.out.wrow_upd _ _ HO6.out HG6.out.1 HG6.out.2 (fun k hk => HGN.out k (Nat.le_trans (HC4.out.tr (Chg.of_ext HX5.out)).size hk))
          have HR8 := As.mk hR8
          have HC8 : As (Chg G w _) := ⟨(HC4.out.tr (Chg.of_ext HX5.out)).tr hC8⟩
          go_ret2
          refine ⟨ret_ii (by go_num) rfl, ?_, HC8.out⟩
          rw [HPN.out]
          exact ⟨_, _, _, HR8.out⟩

theorem put_c (l : List Nd) (ws xs : List Int) (A : Option Addr) (c : Nat) (b : Nat) (w : World) (E F I : Fp) (hO : OwnT w F b l ws) (hEF : ∀ k, k < w.heap.size → E k → ¬ F k) (hW : WfT l ws.length) (hx : Sl (Kd.int 58 .u64) w E A xs) (hcc : xs.length ≤ c) (hn : xs.length ≤ 1000000) (hl : l.length ≤ 1048576) (hws : ws.length ≤ 1000000) :
    Calls Try.prog 31 #[.pointer (some ⟨b, 0, none⟩), .slice A xs.length c] w fun e w' =>
      if xs = [] then e = .returned (.tuple #[.int .i64 (-1), .int .i64 1]) ∧ Ext w w'
      else if 1048576 < l.length + xs.length - (walkT l 0 xs).2 then e = .returned (.tuple #[.int .i64 (-1), .int .i64 8]) ∧ Ext w w'
      else e = .returned (.tuple #[.int .i64 ws.length, .int .i64 0]) ∧ Upd w F I w' (TreeH b (endT (putN l xs).1 (putN l xs).2 ws.length) (ws ++ [((putN l xs).2 : Int)])) := by
  refine (put_g l ws xs A c b w (fun k => E k ∧ k < w.heap.size) (fun k => F k ∨ w.heap.size ≤ k) (fun k hk => .inr hk) (fun k hE h => ?_) (hO.weak fun _ _ h => .inl h) hW (hx.weak fun k hk h => ⟨h, hk⟩) hcc hn hl hws).mono ?_
  · rcases h with h | h
    · exact hEF k hE.2 hE.1 h
    · exact absurd hE.2 (by omega)
  · intro e w' h
    split
    · rename_i h1; rw [if_pos h1] at h; exact h
    · rename_i h1
      rw [if_neg h1] at h
      split
      · rename_i h2; rw [if_pos h2] at h; exact h
      · rename_i h2
        rw [if_neg h2] at h
        obtain ⟨h3, h4, h5⟩ := h
        refine ⟨h3, fun k => (F k ∨ w.heap.size ≤ k) ∧ k < w'.heap.size, No, h4.weak fun k hk h => ⟨h, hk⟩, fun k hk => ⟨hk.2, hk.1⟩, fun _ h => h.elim, fun _ _ h => h, h5.mono fun k hk h => h.resolve_right (by omega)⟩
end Go.Proofs.Ytpgphhkhjbhimaa
