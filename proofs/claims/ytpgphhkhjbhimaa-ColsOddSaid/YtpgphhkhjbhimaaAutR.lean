/- The automaton's functions that only read. -/
import Derived.Test.YtpgphhkhjbhimaaAcP
import Derived.WalkMore
namespace Go.Proofs.Ytpgphhkhjbhimaa
open Go.RowKit X
set_option maxHeartbeats 2000000
set_option maxRecDepth 8000
set_option linter.unusedSimpArgs false
set_option linter.unusedVariables false
/-- a state -/
structure Sn where
  kids : List (Int × Int)
  fall : Int
  link : Int
  words : List Int
deriving Inhabited
def kAE : Kd (Int × Int) where
  ety := 98
  size := 2
  rel := fun _ _ x cs => cs = [.int .u64 x.1, .int .i64 x.2]
  keep := fun h _ => h
  weak := fun h _ => h
  len := fun h => by subst h; rfl
  one := fun h => by subst h; simp [Value.oneCell']
theorem kAE_at {w : World} {D : Nat → Prop} {A : Option Addr} {xs : List (Int × Int)} (h : Sl kAE w D A xs) {i : Nat} (hi : i < xs.length) :
    ∃ b o, A = some ⟨b, o, none⟩ ∧ w.cell? ⟨b, o + i * 2, none⟩ = some (.int .u64 xs[i].1) ∧ w.cell? ⟨b, o + i * 2 + 1, none⟩ = some (.int .i64 xs[i].2) := by
  obtain ⟨b, o, cs, rfl, hb, hd, rfl, hl, hc⟩ := h i hi
  exact ⟨b, o, rfl, hc 0 _ rfl, hc 1 _ rfl⟩
def kS : Kd Sn where
  ety := 95
  size := 4
  rel := fun w D x cs => ∃ A c A' c', cs = [.slice A x.kids.length c, .int .i64 x.fall, .int .i64 x.link, .slice A' x.words.length c'] ∧ x.kids.length ≤ c ∧ Sl kAE w D A x.kids ∧ x.words.length ≤ c' ∧ Sl kI w D A' x.words
  keep := fun ⟨A, c, A', c', e, l, h, l', h'⟩ hk => ⟨A, c, A', c', e, l, h.keep hk, l', h'.keep hk⟩
  weak := fun ⟨A, c, A', c', e, l, h, l', h'⟩ hk => ⟨A, c, A', c', e, l, h.weak hk, l', h'.weak hk⟩
  len := fun ⟨_, _, _, _, e, _⟩ => by subst e; rfl
  one := fun ⟨_, _, _, _, e, _⟩ => by subst e; simp [Value.oneCell']
theorem kS_at {w : World} {D : Nat → Prop} {A : Option Addr} {xs : List Sn} (h : Sl kS w D A xs) {i : Nat} (hi : i < xs.length) :
    ∃ b o A1 c1 A2 c2, A = some ⟨b, o, none⟩ ∧ w.cell? ⟨b, o + i * 4, none⟩ = some (.slice A1 xs[i].kids.length c1) ∧ w.cell? ⟨b, o + i * 4 + 1, none⟩ = some (.int .i64 xs[i].fall) ∧
      w.cell? ⟨b, o + i * 4 + 2, none⟩ = some (.int .i64 xs[i].link) ∧ w.cell? ⟨b, o + i * 4 + 3, none⟩ = some (.slice A2 xs[i].words.length c2) ∧ Sl kAE w D A1 xs[i].kids ∧ Sl kI w D A2 xs[i].words := by
  obtain ⟨b, o, cs, rfl, hb, hd, ⟨A1, c1, A2, c2, rfl, l1, h1, l2, h2⟩, hl, hc⟩ := h i hi
  exact ⟨b, o, A1, c1, A2, c2, rfl, hc 0 _ rfl, hc 1 _ rfl, hc 2 _ rfl, hc 3 _ rfl, h1, h2⟩
/-- block b is an automaton of states l -/
def RdS (w : World) (D : Nat → Prop) (b : Nat) (l : List Sn) : Prop :=
  ∃ A c, w.heap[b]? = some (.cells #[.slice A l.length c] 91 (0, 0)) ∧ D b ∧ l.length ≤ c ∧ Sl kS w D A l
section
variable {w w' : World} {D D' : Nat → Prop} {b : Nat} {l : List Sn} {L W : List (List Int)} {F : Nat → Prop}
theorem RdS.keep (h : RdS w D b l) (hk : ∀ b, b < w.heap.size → D b → w'.heap[b]? = w.heap[b]?) : RdS w' D b l := by
  obtain ⟨A, c, hh, hd, h1, h2⟩ := h
  exact ⟨A, c, (hk b (lt_of_heap hh) hd).trans hh, hd, h1, h2.keep hk⟩
theorem RdS.ext (h : RdS w D b l) (hx : Ext w w') : RdS w' D b l := h.keep fun b hlt _ => hx.block b hlt
theorem RdS.weak (h : RdS w D b l) (hk : ∀ b, b < w.heap.size → D b → D' b) : RdS w D' b l := by
  obtain ⟨A, c, hh, hd, h1, h2⟩ := h
  exact ⟨A, c, hh, hk b (lt_of_heap hh) hd, h1, h2.weak hk⟩
theorem RdS.at0 (h : RdS w D b l) : ∃ A c, w.cell? ⟨b, 0, none⟩ = some (.slice A l.length c) ∧ Sl kS w D A l := by
  obtain ⟨A, c, hh, hd, h1, h2⟩ := h
  exact ⟨A, c, cell_of_heap hh rfl, h2⟩
theorem RdS.at (h : RdS w D b l) {i : Nat} (hi : i < l.length) : ∃ sb o c A1 c1 A2 c2, w.cell? ⟨b, 0, none⟩ = some (.slice (some ⟨sb, o, none⟩) l.length c) ∧ w.cell? ⟨sb, o + i * 4, none⟩ = some (.slice A1 l[i].kids.length c1) ∧ w.cell? ⟨sb, o + i * 4 + 1, none⟩ = some (.int .i64 l[i].fall) ∧
      w.cell? ⟨sb, o + i * 4 + 2, none⟩ = some (.int .i64 l[i].link) ∧ w.cell? ⟨sb, o + i * 4 + 3, none⟩ = some (.slice A2 l[i].words.length c2) ∧ Sl kAE w D A1 l[i].kids ∧ Sl kI w D A2 l[i].words := by
  obtain ⟨A, c, h0, hs⟩ := h.at0
  obtain ⟨sb, o, A1, c1, A2, c2, rfl, h1, h2, h3, h4, h5, h6⟩ := kS_at hs hi
  exact ⟨sb, o, c, A1, c1, A2, c2, h0, h1, h2, h3, h4, h5, h6⟩
/-- the children's edges of a node -/
def kdR (L : List (List Int)) (n : Nat) : List (Int × Int) := (kiR L n).map fun p => (p, rchildT L n p)
/-- the states are those of the tree; falls and links: of the nodes in F -/
structure AOk (l : List Sn) (L W : List (List Int)) (F : Nat → Prop) : Prop where
  len : l.length = L.length
  kids : ∀ (i : Nat) (h : i < l.length), l[i].kids = kdR L i
  words : ∀ (i : Nat) (h : i < l.length), l[i].words = wsR L W i
  fall : ∀ (i : Nat) (h : i < l.length), F i → l[i].fall = fallR L i
  link : ∀ (i : Nat) (h : i < l.length), F i → l[i].link = linkR L W i
  srt : ∀ i : Nat, (kiR L i).Pairwise (· < ·)
theorem kiR_len {n : Int} : (kiR L n).length ≤ L.length := kiK_len _
theorem kdR_len {n : Nat} : (kdR L n).length ≤ L.length := by unfold kdR; rw [List.length_map]; exact kiR_len
theorem kdR_hit (h : GoodR L W) {n t : Nat} (hn : n < L.length) (ht : t < (kdR L n).length) : nextR L n ((kdR L n)[t]).1 = ((kdR L n)[t]).2 := by
  have ht' : t < (kiR L n).length := by simpa [kdR] using ht
  have e : (kdR L n)[t] = ((kiR L n)[t], rchildT L n (kiR L n)[t]) := by simp [kdR]
  rw [e]
  obtain ⟨k, hk⟩ := (kid_iff h hn _).1 (List.getElem_mem ht')
  show nextR L n (kiR L n)[t] = rchildT L n (kiR L n)[t]
  rw [nextR_kid h hn hk]
  unfold rchildT
  rw [if_pos (by omega), Int.toNat_natCast]
  exact hk.symm
theorem kdR_miss (h : GoodR L W) {n : Nat} {p : Int} (hn : n < L.length) (hs : (kiR L n).Pairwise (· < ·)) (t : Nat) (h1 : ∀ (u : Nat) (hu : u < (kdR L n).length), u < t → ((kdR L n)[u]).1 < p) (h2 : ∀ hu : t < (kdR L n).length, p < ((kdR L n)[t]).1) : findT L (pa L n ++ [p]) = -1 := by
  rcases findT_cases L (pa L n ++ [p]) with e | ⟨k, hk⟩
  · exact e
  · exfalso
    obtain ⟨u, hu, e⟩ := List.mem_iff_getElem.1 ((kid_iff h hn p).2 ⟨k, hk⟩)
    have hl : (kdR L n).length = (kiR L n).length := by simp [kdR]
    have e2 : ∀ (v : Nat) (hv : v < (kdR L n).length), ((kdR L n)[v]).1 = (kiR L n)[v]'(by omega) := fun v hv => by simp [kdR]
    rcases Nat.lt_trichotomy u t with hut | hut | hut
    · have := h1 u (by omega) hut; rw [e2] at this; omega
    · subst hut; have := h2 (by omega); rw [e2] at this; omega
    · have := h2 (by omega)
      rw [e2] at this
      have := List.pairwise_iff_getElem.1 hs t u (by omega) hu hut
      omega
end
def inS (l : List Sn) (n : Int) : Bool := decide (0 ≤ n) && decide (n < l.length)
theorem inS_iff {l : List Sn} {n : Int} : inS l n = true ↔ 0 ≤ n ∧ n < l.length := by unfold inS; simp
theorem inS_no {l : List Sn} {n : Int} (h : ¬ (0 ≤ n ∧ n < l.length)) : inS l n = false := by rw [Bool.eq_false_iff]; exact fun g => h (inS_iff.1 g)
theorem ain_c (l : List Sn) (n : Int) (b : Nat) (w : World) (D : Nat → Prop) (hT : RdS w D b l) :
    Calls Try.prog 56 #[.pointer (some ⟨b, 0, none⟩), .int .i64 n] w fun e w' => e = .returned (.bool (inS l n)) ∧ w = w' := by
  obtain ⟨A, c, hc, -⟩ := hT.at0
  clear hT
  by_cases h : 0 ≤ n
  · have h' : decide (0 ≤ n) = true := by simpa using h
    go_enter Try.func56, Try.ntmps56
    go_wp2
    go_ret
    exact ⟨by simp [inS, h'], rfl⟩
  · have h' : decide (0 ≤ n) = false := by simpa using h
    go_enter Try.func56, Try.ntmps56
    go_wp2
    go_ret
    exact ⟨by simp [inS, h'], rfl⟩
theorem alen_c (l : List Sn) (b : Nat) (w : World) (D : Nat → Prop) (hT : RdS w D b l) :
    Calls Try.prog 41 #[.pointer (some ⟨b, 0, none⟩)] w fun e w' => e = .returned (.int .i64 l.length) ∧ w = w' := by
  obtain ⟨A, c, hc, -⟩ := hT.at0
  clear hT
  go_enter Try.func41, Try.ntmps41
  go_wp2
  go_ret
  exact ⟨rfl, rfl⟩
/-- the state behind a number -/
theorem next_s (l : List Sn) (L W : List (List Int)) (F : Nat → Prop) (n p : Int) (b : Nat) (w : World) (D : Nat → Prop) (hT : RdS w D b l) (hA : AOk l L W F) (hG : GoodR L W) (hL : L.length ≤ 1000000) (hn : ∀ k : Nat, n = k → ∀ i, i < L.length → dpN L i ≤ dpN L k → F i) :
    Calls Try.prog 35 #[.pointer (some ⟨b, 0, none⟩), .int .i64 n, .int .u64 p] w fun e w' => e = .returned (.int .i64 (nextR L n p)) ∧ Ext w w' := by
  have HT := As.mk hT
  have HA := As.mk hA
  have HG := As.mk hG
  have hlen := hA.len
  by_cases hin : 0 ≤ n ∧ n < L.length
  · obtain ⟨k0, rfl⟩ : ∃ k0 : Nat, n = k0 := ⟨n.toNat, by omega⟩
    have HF := As.mk (hn k0 rfl)
    have hk0 : k0 < L.length := by omega
    have hin' : inS l k0 = true := inS_iff.2 ⟨by omega, by omega⟩
    have S := SH.start w No (fun _ h => h.elim)
    clear hT hA hG hn hin
    have hc := S.cells; simp only [Cells, cellsC, Im, Row, El, Nat.zero_add, Nat.reduceAdd] at hc
    go_enter Try.func35, Try.ntmps35
    go_wp2_with (first | ((first | (with_reducible refine wpl_seal S ?_) | (with_reducible refine cw_seal S ?_) | (with_reducible refine bp_seal S ?_) | (with_reducible refine ca_seal S ?_)); clear S; (try clear hc); intro w1 S; (try simp only [List.set_cons_zero, List.set_cons_succ, List.nil_append] at S); have hc := S.cells; simp only [Cells, cellsC, Im, Row, El, Nat.zero_add, Nat.reduceAdd] at hc))
    go_step3
    go_wp2_with (first | ((first | (with_reducible refine wpl_seal S ?_) | (with_reducible refine cw_seal S ?_) | (with_reducible refine bp_seal S ?_) | (with_reducible refine ca_seal S ?_)); clear S; (try clear hc); intro w1 S; (try simp only [List.set_cons_zero, List.set_cons_succ, List.nil_append] at S); have hc := S.cells; simp only [Cells, cellsC, Im, Row, El, Nat.zero_add, Nat.reduceAdd] at hc) | (go_at_call 56; refine (ain_c l _ _ _ D HT.out).mono ?_; rintro e w' ⟨rfl, rfl⟩))
    go_step3
    go_wp2_with (first | ((first | (with_reducible refine wpl_seal S ?_) | (with_reducible refine cw_seal S ?_) | (with_reducible refine bp_seal S ?_) | (with_reducible refine ca_seal S ?_)); clear S; (try clear hc); intro w1 S; (try simp only [List.set_cons_zero, List.set_cons_succ, List.nil_append] at S); have hc := S.cells; simp only [Cells, cellsC, Im, Row, El, Nat.zero_add, Nat.reduceAdd] at hc))
    clear hc
    go_loopw [1] (fun v w' => ∃ z : Int, v = .int .i64 z ∧ ((z = -1 ∧ nextR L k0 p = 0) ∨ ∃ k : Nat, z = k ∧ k < L.length ∧ dpN L k ≤ dpN L k0 ∧ nextR L k p = nextR L k0 p) ∧ As (Ext w w')) (fun v _ => msN L v)
    case atStart => exact ⟨k0, rfl, .inr ⟨k0, rfl, hk0, Nat.le_refl _, rfl⟩, ⟨Ext.refl _⟩⟩
    case round =>
      clear S
      obtain ⟨z, rfl, hz, HX⟩ := hrel
      rcases hz with ⟨rfl, h0⟩ | ⟨k, rfl, hk, hdk, hnk⟩
      · have HN := As.mk h0
        clear h0
        go_wp2_with (first | ((first | (with_reducible refine wpl_seal S ?_) | (with_reducible refine cw_seal S ?_) | (with_reducible refine bp_seal S ?_) | (with_reducible refine ca_seal S ?_)); clear S; (try clear hc); intro w1 S; (try simp only [List.set_cons_zero, List.set_cons_succ, List.nil_append] at S); have hc := S.cells; simp only [Cells, cellsC, Im, Row, El, Nat.zero_add, Nat.reduceAdd] at hc))
        (try rw [Exit.noGoto_ret])
        go_ret
        exact ⟨ret_int HN.out.symm, HX.out⟩
      · have HN := As.mk hnk
        have HT1 := As.mk (HT.out.ext HX.out)
        have hkl : k < l.length := by omega
        have hz' : ((k : Int) != -1) = true := by rw [bne_iff_ne]; omega
        have hks : l[k].kids.length ≤ 1000000 := by rw [HA.out.kids k hkl]; have := kdR_len (L := L) (n := k); omega
        obtain ⟨sb, o, c, A1, c1, A2, c2, h0, h1, h2, -, -, h5, -⟩ := HT1.out.at hkl
        have HKS := As.mk h5
        have HKK := As.mk (HA.out.kids k hkl)
        have HFL := As.mk (HA.out.fall k hkl (HF.out k hk hdk))
        have hms : (∃ j : Nat, l[k].fall = j ∧ j < L.length ∧ dpN L j < dpN L k) ∨ (l[k].fall = -1 ∧ k = 0) := by
          rw [HFL.out]
          rcases Nat.eq_zero_or_pos k with e | e
          · subst e; exact .inr ⟨fallR_zero, rfl⟩
          · exact .inl (fallR_lt HG.out e hk)
        generalize l[k].kids = ks at h1 HKS HKK hks
        have HMS := As.mk hms
        have HST : As (findT L (pa L k ++ [p]) = -1 → (l[k].fall = -1 ∧ nextR L k0 p = 0) ∨ ∃ j : Nat, l[k].fall = j ∧ j < L.length ∧ dpN L j < dpN L k ∧ nextR L j p = nextR L k0 p) := ⟨by
          intro hno
          rcases hms with ⟨j, e, j1, j2⟩ | ⟨e, rfl⟩
          · refine .inr ⟨j, e, j1, j2, ?_⟩
            rw [← HN.out]
            have h0 : 0 < k := by
              rcases Nat.eq_zero_or_pos k with e | e
              · subst e; rw [HG.out.dp0] at j2; omega
              · exact e
            exact (nextR_fall HG.out h0 hk hno (by rw [← HFL.out, e])).symm
          · exact .inl ⟨e, by rw [← HN.out]; exact nextR_root HG.out hno⟩⟩
        generalize l[k].fall = fl at h2 HFL HST hms HMS
        have HC : As (∀ w2, Ext wr w2 → w2.cell? ⟨b, 0, none⟩ = some (.slice (some ⟨sb, o, none⟩) l.length c) ∧ w2.cell? ⟨sb, o + k * 4 + 1, none⟩ = some (.int .i64 fl)) := ⟨fun w2 hx => ⟨hx.cell h0, hx.cell h2⟩⟩
        have HRD : As (∀ w2, Ext w w2 → dpN L k ≤ dpN L k0) := ⟨fun _ _ => hdk⟩
        clear hnk h5 hms HFL HMS
        have S := SH.start wr No (fun _ h => h.elim)
        have hc := S.cells; simp only [Cells, cellsC, Im, Row, El, Nat.zero_add, Nat.reduceAdd] at hc
        go_wp2_with (first | ((first | (with_reducible refine wpl_seal S ?_) | (with_reducible refine cw_seal S ?_) | (with_reducible refine bp_seal S ?_) | (with_reducible refine ca_seal S ?_)); clear S; (try clear hc); intro w1 S; (try simp only [List.set_cons_zero, List.set_cons_succ, List.nil_append] at S); have hc := S.cells; simp only [Cells, cellsC, Im, Row, El, Nat.zero_add, Nat.reduceAdd] at hc))
        clear hc
        go_loopw [32] (fun i w' => ∃ t : Nat, t ≤ ks.length ∧ i = .int .i64 t ∧ As (∀ (u : Nat) (hu : u < ks.length), u < t → (ks[u]).1 < p) ∧ As (Ext wr w')) (fun i _ => ks.length - (intOf i).toNat)
        case atStart => exact ⟨0, Nat.zero_le _, rfl, ⟨fun u _ h => absurd h (Nat.not_lt_zero _)⟩, ⟨Ext.refl _⟩⟩
        case round =>
          clear S
          obtain ⟨t, ht, rfl, HLT, HX2⟩ := hrel
          by_cases htk : t < ks.length
          · have htk' : decide ((t : Int) < ks.length) = true := by simpa using htk
            have HK1 := As.mk (HKS.out.below HX2.out)
            obtain ⟨eb, eo, rfl, he1, he2⟩ := kAE_at HK1.out htk
            have S := SH.start wr No (fun _ h => h.elim)
            have hc := S.cells; simp only [Cells, cellsC, Im, Row, El, Nat.zero_add, Nat.reduceAdd] at hc
            by_cases hep : ks[t].1 = p
            · have hep1 : (ks[t].1 == p) = true := by simpa using hep
              have HR := As.mk (show ks[t].2 = nextR L k0 p by
                rw [← HN.out, ← hep]
                have hl : t < (kdR L k).length := by rw [← HKK.out]; exact htk
                have := kdR_hit HG.out hk hl
                simp only [← HKK.out] at this
                exact this.symm)
              clear hep
              go_wp2_with (first | ((first | (with_reducible refine wpl_seal S ?_) | (with_reducible refine cw_seal S ?_) | (with_reducible refine bp_seal S ?_) | (with_reducible refine ca_seal S ?_)); clear S; (try clear hc); intro w1 S; (try simp only [List.set_cons_zero, List.set_cons_succ, List.nil_append] at S); have hc := S.cells; simp only [Cells, cellsC, Im, Row, El, Nat.zero_add, Nat.reduceAdd] at hc))
              (try rw [Exit.noGoto_ret])
              go_ret
              exact ⟨ret_int HR.out, (HX.out.tr HX2.out).tr S.out⟩
            · have hep1 : (ks[t].1 == p) = false := by simpa using hep
              by_cases hgt : p < ks[t].1
              · have hgt1 : decide (ks[t].1 > p) = true := by simpa using hgt
                have HNO := HST.out (kdR_miss HG.out hk (HA.out.srt k) t (fun u hu hut => by simp only [← HKK.out]; exact HLT.out u (by rw [HKK.out]; exact hu) hut) (fun hu => by simp only [← HKK.out]; exact hgt))
                clear hep hgt
                go_wp2_with (first | ((first | (with_reducible refine wpl_seal S ?_) | (with_reducible refine cw_seal S ?_) | (with_reducible refine bp_seal S ?_) | (with_reducible refine ca_seal S ?_)); clear S; (try clear hc); intro w1 S; (try simp only [List.set_cons_zero, List.set_cons_succ, List.nil_append] at S); have hc := S.cells; simp only [Cells, cellsC, Im, Row, El, Nat.zero_add, Nat.reduceAdd] at hc; obtain ⟨h0', h2'⟩ := HC.out _ (HX2.out.tr S.out)))
                go_roundw
                case rel => exact ⟨fl, rfl, HNO.imp id (fun ⟨j, e, j1, j2, h⟩ => ⟨j, e, j1, by omega, h⟩), ⟨(HX.out.tr HX2.out).tr S.out⟩⟩
                case measure =>
                  rcases HNO with ⟨e, h⟩ | ⟨j, e, j1, j2, h⟩
                  · subst e; rw [msN_neg, msN_nat]; omega
                  · subst e; rw [msN_nat, msN_nat]; omega
              · have hgt1 : decide (ks[t].1 > p) = false := by simpa using hgt
                have HLS : As (∀ (u : Nat) (hu : u < ks.length), u < t + 1 → (ks[u]).1 < p) := ⟨fun u hu hut => by
                  rcases Nat.lt_or_eq_of_le (Nat.le_of_lt_succ hut) with h | h
                  · exact HLT.out u hu h
                  · subst h; omega⟩
                clear hep hgt
                go_wp2_with (first | ((first | (with_reducible refine wpl_seal S ?_) | (with_reducible refine cw_seal S ?_) | (with_reducible refine bp_seal S ?_) | (with_reducible refine ca_seal S ?_)); clear S; (try clear hc); intro w1 S; (try simp only [List.set_cons_zero, List.set_cons_succ, List.nil_append] at S); have hc := S.cells; simp only [Cells, cellsC, Im, Row, El, Nat.zero_add, Nat.reduceAdd] at hc))
                go_roundw
                case rel => exact ⟨t + 1, by omega, by go_num, HLS, ⟨HX2.out.tr S.out⟩⟩
                case measure => simp [intOf] <;> omega
          · have htk' : decide ((t : Int) < ks.length) = false := by simpa using htk
            have HNO := HST.out (kdR_miss HG.out hk (HA.out.srt k) t (fun u hu hut => by simp only [← HKK.out]; exact HLT.out u (by rw [HKK.out]; exact hu) hut) (fun hu => by simp only [← HKK.out] at hu; omega))
            have S := SH.start wr No (fun _ h => h.elim)
            have hc := S.cells; simp only [Cells, cellsC, Im, Row, El, Nat.zero_add, Nat.reduceAdd] at hc
            obtain ⟨h0', h2'⟩ := HC.out _ HX2.out
            go_wp2_with (first | ((first | (with_reducible refine wpl_seal S ?_) | (with_reducible refine cw_seal S ?_) | (with_reducible refine bp_seal S ?_) | (with_reducible refine ca_seal S ?_)); clear S; (try clear hc); intro w1 S; (try simp only [List.set_cons_zero, List.set_cons_succ, List.nil_append] at S); have hc := S.cells; simp only [Cells, cellsC, Im, Row, El, Nat.zero_add, Nat.reduceAdd] at hc))
            go_roundw
            case rel => exact ⟨fl, rfl, HNO.imp id (fun ⟨j, e, j1, j2, h⟩ => ⟨j, e, j1, by omega, h⟩), ⟨HX.out.tr HX2.out⟩⟩
            case measure =>
              rcases HNO with ⟨e, h⟩ | ⟨j, e, j1, j2, h⟩
              · subst e; rw [msN_neg, msN_nat]; omega
              · subst e; rw [msN_nat, msN_nat]; omega
  · have hin' : inS l n = false := inS_no (by omega)
    have HE : As (nextR L n p = -1) := ⟨by unfold nextR; rw [if_neg hin]⟩
    have S := SH.start w No (fun _ h => h.elim)
    clear hT hA hG hn hin
    have hc := S.cells; simp only [Cells, cellsC, Im, Row, El, Nat.zero_add, Nat.reduceAdd] at hc
    go_enter Try.func35, Try.ntmps35
    go_wp2_with (first | ((first | (with_reducible refine wpl_seal S ?_) | (with_reducible refine cw_seal S ?_) | (with_reducible refine bp_seal S ?_) | (with_reducible refine ca_seal S ?_)); clear S; (try clear hc); intro w1 S; (try simp only [List.set_cons_zero, List.set_cons_succ, List.nil_append] at S); have hc := S.cells; simp only [Cells, cellsC, Im, Row, El, Nat.zero_add, Nat.reduceAdd] at hc))
    go_step3
    go_wp2_with (first | ((first | (with_reducible refine wpl_seal S ?_) | (with_reducible refine cw_seal S ?_) | (with_reducible refine bp_seal S ?_) | (with_reducible refine ca_seal S ?_)); clear S; (try clear hc); intro w1 S; (try simp only [List.set_cons_zero, List.set_cons_succ, List.nil_append] at S); have hc := S.cells; simp only [Cells, cellsC, Im, Row, El, Nat.zero_add, Nat.reduceAdd] at hc) | (go_at_call 56; refine (ain_c l _ _ _ D HT.out).mono ?_; rintro e w' ⟨rfl, rfl⟩))
    (try rw [Exit.noGoto_ret])
    go_ret
    exact ⟨ret_int HE.out.symm, Ext.refl _⟩
end Go.Proofs.Ytpgphhkhjbhimaa
