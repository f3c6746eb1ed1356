/- PurseStays: the walk. -/
import Derived.Test.YtedoalpijbggiaaDoorP14
namespace Go.Proofs.YtedoalpijbggiaaDoor
open Go.RowKit
attribute [local go_sem ↓] Go.wp_at_zero Go.wp_at_succ

/-- A ledger and a row of acts, both new. -/
structure LrInv (w wr : World) (gb lb sb : Nat) (A : List PA) (va : Value) (L : Led) : Prop where
  led : LedAt wr gb lb sb L
  ok : L.Ok
  acts : ∃ ab, RowAt wr 24 5 va A.length (pasCells A) ab ∧ ∀ g, ab = some g → g ≠ lb ∧ g ≠ sb
  new : w.heap.size ≤ gb ∧ w.heap.size ≤ lb ∧ w.heap.size ≤ sb
  below : Below w.heap.size w wr

theorem LrInv.keep {w wr w' : World} {gb lb sb : Nat} {A : List PA} {va : Value} {L : Led} (h : LrInv w wr gb lb sb A va L) (hb : Below wr.heap.size wr w') : LrInv w w' gb lb sb A va L := by
  obtain ⟨h1, h2, ⟨ab, h3, h3'⟩, h4, h5⟩ := h
  exact ⟨h1.below hb, h2, ⟨ab, h3.keep hb, h3'⟩, h4, btrans h5 hb⟩

theorem LrInv.act {w wr w' : World} {gb lb sb : Nat} {A : List PA} {va : Value} {L L' : Led} {er : Int} {e : Ending} (h : LrInv w wr gb lb sb A va L) (hd : Did wr gb lb sb L' er e w') : LrInv w w' gb lb sb A va L' := by
  obtain ⟨h1, h2, ⟨ab, h3, h3'⟩, h4, h5⟩ := h
  obtain ⟨_, hc, hok⟩ := hd
  refine ⟨hc.at_, hok, ⟨ab, h3.below fun g hg => hc.fr.block g (h3.lt g hg) (fun e => ?_), h3'⟩, h4, ?_⟩
  · have := h3' g hg; unfold LF at e; omega
  · exact ((Fr.ofBelow (F := LF lb sb) h5).trans hc.fr (fun b h => .inl h)).toBelow (fun k hk e => by unfold LF at e; omega)

theorem actS_no {L : Led} {a : PA} (h : L.actE a ≠ 0) : L.actS a = L := by
  unfold Led.actE at h
  unfold Led.actS
  split at h
  · rename_i h0; rw [if_pos h0]; exact if_neg h
  · rename_i h0
    rw [if_neg h0]
    split at h
    · rename_i h1; rw [if_pos h1]; exact if_neg h
    · rename_i h1; rw [if_neg h1]; exact if_neg h

theorem moveS_sum (L : Led) (s t : ByteArray) (n k : Int) : (L.moveS s t n).sum k = L.sum k := by
  unfold Led.moveS
  split
  · show (L.more _ 0 0).sum k = _
    rw [more_sum]
    split
    · rename_i e; rw [e]; simp
    · rfl
  · rfl
theorem moveS_self (L : Led) (s : ByteArray) (n : Int) : (L.moveS s s n).left s = L.left s := by
  unfold Led.moveS
  split
  · show upd (upd L.left s (-n)) s n s = _
    simp only [upd, if_true]; omega
  · rfl
theorem moveS_zero (L : Led) (s t u : ByteArray) : (L.moveS s t 0).left u = L.left u := by
  unfold Led.moveS
  split
  · show upd (upd L.left s (-0)) t 0 u = _
    simp only [upd, Int.neg_zero, Int.add_zero]
    by_cases h1 : u = t
    · subst h1
      by_cases h2 : u = s
      · subst h2; simp
      · simp [h2]
    · simp only [h1, if_false]
      by_cases h2 : u = s
      · subst h2; simp
      · simp [h2]
  · rfl
theorem spendS_zero (L : Led) (s u : ByteArray) (k : Int) : (L.spendS s 0).left u = L.left u ∧ (L.spendS s 0).sum k = L.sum k := by
  unfold Led.spendS
  split
  · refine ⟨?_, ?_⟩
    · show upd L.left s (-0) u = _
      simp only [upd, Int.neg_zero, Int.add_zero]
      by_cases h2 : u = s
      · subst h2; simp
      · simp [h2]
    · show (L.more _ 0 0).sum k = _
      rw [more_sum]
      split
      · rename_i e; rw [e]; simp
      · rfl
  · exact ⟨rfl, rfl⟩

theorem wrap_bd (x : Int) : -9223372036854775808 ≤ IntKind.i64.wrap x ∧ IntKind.i64.wrap x ≤ 9223372036854775807 := by rw [IntKind.wrap_i64]; omega

theorem LrInv.start {w w1 w2 : World} {gb lb sb : Nat} {A : List PA} {va : Value} (h1 : LedAt w1 gb lb sb led0) (hn : ∀ k, LFoot gb lb sb k → w.heap.size ≤ k) (hb : Below w.heap.size w w1) (hA : PAs w1 w2 A va) : LrInv w w2 gb lb sb A va led0 := by
  obtain ⟨⟨ab, hrow, hab⟩, hb2⟩ := hA
  refine ⟨h1.below hb2, led0_ok, ⟨ab, hrow, fun g hg => ?_⟩, ⟨hn _ (.inl rfl), hn _ (.inr (.inl rfl)), hn _ (.inr (.inr rfl))⟩, btrans hb hb2⟩
  have := hab g hg
  have := h1.lt lb (.inr (.inl rfl))
  have := h1.lt sb (.inr (.inr rfl))
  omega

set_option maxRecDepth 8000 in
set_option maxHeartbeats 8000000 in
theorem stays_walk {w : World} {A0 : Option Addr} {n0 : Nat} {l : List Int} (h : ArgInts w A0 n0 l) (cap : Nat) (req m : Int) (hreq : -9223372036854775808 ≤ req ∧ req ≤ 9223372036854775807) (hm : -9223372036854775808 ≤ m ∧ m ≤ 9223372036854775807) :
    Calls Tryd.prog 5 #[.slice A0 n0 cap, .int .i64 req, .int .i64 m] w fun e w' => e = .returned (.bool true) ∧ Below w.heap.size w w' := by
  have HARG := Lib.hid h
  have HA := Lib.hid (fun w => around_any req 3 w hreq.1 hreq.2 (by omega) (by omega))
  obtain ⟨x0, x1⟩ := around_bd req (m := 3) (by omega)
  obtain ⟨x, hx⟩ : ∃ x, x = around req 3 := ⟨_, rfl⟩
  rw [← hx] at HA x0 x1
  obtain ⟨r, hr⟩ : ∃ r : Nat, (r : Int) = 1 + x := ⟨(1 + x).toNat, by omega⟩
  have hr1 : 1 ≤ r ∧ r ≤ 3 := by omega
  have g1 : IntKind.i64.wrap (1 + x) = (r : Int) := by rw [IntWalk.i64_in _ (by omega), hr]
  obtain ⟨mm, hmm⟩ : ∃ mm, IntKind.i64.wrap (m + 1) = mm := ⟨_, rfl⟩
  have hmb := wrap_bd (m + 1)
  rw [hmm] at hmb
  have HNM := Lib.hid (fun w => name_any r (by omega) m w hm)
  have HNN := Lib.hid (fun w => name_any r (by omega) mm w hmb)
  have HHS := Lib.hid (nameOf_holder r hr1.1 (by omega) m)
  have HHT := Lib.hid (nameOf_holder r hr1.1 (by omega) mm)
  obtain ⟨s, hs⟩ : ∃ s, s = nameOf r m := ⟨_, rfl⟩
  obtain ⟨t, ht⟩ : ∃ t, t = nameOf r mm := ⟨_, rfl⟩
  rw [← hs] at HNM HHS
  rw [← ht] at HNN HHT
  clear h hx hr hs ht
  go_enter Tryd.func5, Tryd.ntmps5
  go_wp2_with fail
  refine (new_any _).mono ?_
  rintro e w1 ⟨gb, lb, sb, rfl, hled, hnew, hb1⟩
  have HAC := Lib.hid (acts_any (HARG.out.keep hb1) cap)
  have HST := Lib.hid (fun w2 A va (hA : PAs w1 w2 A va) => LrInv.start hled hnew hb1 hA)
  clear hled hnew hb1
  go_wp2_with fail
  refine HAC.out.mono ?_
  rintro e w2 ⟨A, va, rfl, hA, hAl, hAok⟩
  have HAOK := Lib.hid hAok
  have HI0 := Lib.hid (HST.out _ _ _ hA)
  obtain ⟨⟨ab, hrow, _⟩, _⟩ := hA
  obtain ⟨la, lc, rfl⟩ := hrow.form
  obtain ⟨n, hn⟩ : ∃ n, n = A.length := ⟨_, rfl⟩
  have HN := Lib.hid hn
  have hn20 : n ≤ 20 := by omega
  rw [← hn]
  rw [← hn] at HI0
  clear hrow hAl hAok hn
  go_wp2_with fail
  refine (HA.out _).mono ?_
  rintro e w' ⟨rfl, rfl⟩
  go_wp2_with fail
  refine (HNM.out _).mono ?_
  rintro e w3 ⟨rfl, hb3⟩
  have HI3 := Lib.hid (HI0.out.keep hb3)
  clear hb3
  go_wp2_with fail
  go_loopw [11] (fun vi wr => ∃ (i : Nat) (L : Led), vi = .int .i64 i ∧ i ≤ n ∧ LrInv w wr gb lb sb A (.slice la n lc) L) (fun vi _ => (n - intOf vi).toNat)
  case atStart => exact ⟨0, led0, rfl, by omega, HI3.out⟩
  case round =>
    obtain ⟨i, L, rfl, hi, hinv⟩ := hrel
    have HI := Lib.hid hinv
    clear hinv
    by_cases hin : i < n
    · have t1 : decide ((i : Int) < (n : Int)) = true := decide_eq_true (by omega)
      have hil : i < A.length := by rw [← HN.out]; exact hin
      obtain ⟨a, ha⟩ : ∃ a, A[i]? = some a := ⟨A[i], by simp [hil]⟩
      obtain ⟨ab, hrow, _⟩ := HI.out.acts
      obtain ⟨g, off, rfl, _, c0, c1, c2, c3, c4⟩ := acts_cells hrow hil ha
      have haok := HAOK.out a (List.mem_of_getElem? ha)
      have HEV := Lib.hid (fun w => haok.env w)
      clear ha haok hrow
      obtain ⟨d, rq, u, v, k⟩ := a
      dsimp only at c0 c1 c2 c3 c4
      have i1 : (0 : Int) ≤ (i : Int) := by omega
      have i2 : (i : Int) < (n : Int) := by omega
      obtain ⟨W, hW⟩ : ∃ W, wr.alloc (.cells #[.int .i64 d, .int .i64 rq, .string u, .string v, .int .i64 k] 24) = W := ⟨_, rfl⟩
      have hbx := heap_alloc_new wr (.cells #[.int .i64 d, .int .i64 rq, .string u, .string v, .int .i64 k] 24)
      have hbw : Below wr.heap.size wr W := by rw [← hW]; exact (Below.refl _ _).alloc (Nat.le_refl _) _
      rw [hW] at hbx
      have b0 := block_cell hbx 0 _ rfl
      have b1 := block_cell hbx 1 _ rfl
      have b2 := block_cell hbx 2 _ rfl
      have b3 := block_cell hbx 3 _ rfl
      have b4 := block_cell hbx 4 _ rfl
      have HBX := Lib.hid hbx
      have HI2 := Lib.hid (HI.out.keep hbw)
      have HLF : Hid (¬ LF lb sb wr.heap.size) := by
        have h1 := HI.out.led.lt lb (.inr (.inl rfl))
        have h2 := HI.out.led.lt sb (.inr (.inr rfl))
        show ¬ _; unfold LF; omega
      have HL1 := Lib.hid (left_any HI2.out.led s)
      have HSM := Lib.hid (sum_ok HI2.out.led HI2.out.ok r)
      have HL2 := Lib.hid (fun w' (hb : Below W.heap.size W w') => left_any (HI2.out.led.below hb) u)
      have HL3 := Lib.hid (fun w' (hb : Below W.heap.size W w') => left_any (HI2.out.led.below hb) v)
      clear hbx hbw
      go_wp2_with fail
      refine HL1.out.mono ?_
      rintro e w' ⟨rfl, rfl⟩
      go_wp2_with fail
      refine HSM.out.mono ?_
      rintro e w4 ⟨rfl, hb4⟩
      have hbx4 := (hb4.block wr.heap.size (Array.getElem?_eq_some_iff.1 HBX.out).1).trans HBX.out
      have HBX4 := Lib.hid hbx4
      have p0 := block_cell hbx4 0 _ rfl
      have p1 := block_cell hbx4 1 _ rfl
      have p2 := block_cell hbx4 2 _ rfl
      have p3 := block_cell hbx4 3 _ rfl
      have p4 := block_cell hbx4 4 _ rfl
      have HI4 := Lib.hid (HI2.out.keep hb4)
      have HL2 := Lib.hid (left_any HI4.out.led u)
      have HL3 := Lib.hid (left_any HI4.out.led v)
      have HD : Hid (Calls Tryd.prog 15 #[.pointer (some ⟨gb, 0, none⟩), .agg #[.int .i64 d, .int .i64 rq, .string u, .string v, .int .i64 k]] w4 (Did w4 gb lb sb (L.actS ⟨d, rq, u, v, k⟩) (L.actE ⟨d, rq, u, v, k⟩))) := does_any HI4.out.led HI4.out.ok ⟨d, rq, u, v, k⟩ (HEV.out w4)
      have HNO := Lib.hid (fun h => actS_no (L := L) (a := ⟨d, rq, u, v, k⟩) h)
      obtain ⟨E, hE⟩ : ∃ E, E = L.actE ⟨d, rq, u, v, k⟩ := ⟨_, rfl⟩
      obtain ⟨L', hL'⟩ : ∃ L', L' = L.actS ⟨d, rq, u, v, k⟩ := ⟨_, rfl⟩
      rw [← hE] at HD HNO
      rw [← hL'] at HD HNO
      clear hb4 hbx4 hE hL'
      go_wp2_with fail
      refine HL2.out.mono ?_
      rintro e w' ⟨rfl, rfl⟩
      go_wp2_with fail
      refine HL3.out.mono ?_
      rintro e w' ⟨rfl, rfl⟩
      go_wp2_with fail
      refine HD.out.mono ?_
      rintro e w5 hd
      have HDD := Lib.hid hd
      have HI5 := Lib.hid (HI4.out.act hd)
      obtain ⟨rfl, hc, hok⟩ := hd
      have hbx5 := (hc.fr.block wr.heap.size (Array.getElem?_eq_some_iff.1 HBX4.out).1 HLF.out).trans HBX4.out
      have HBX5 := Lib.hid hbx5
      clear hc hok HD
      by_cases hE : E = 0
      · have e1 : (E == 0) = true := by rw [hE]; rfl
        clear hE hbx5
        go_wp2_with fail
        go_roundw
        case rel => exact ⟨i + 1, L', by go_num, by omega, HI5.out⟩
        case measure => simp [intOf]; omega
      · have e1 : (E == 0) = false := beq_eq_false_iff_ne.2 hE
        have hLL := HNO.out hE
        subst hLL
        have HS5 := Lib.hid (sum_ok HI5.out.led HI5.out.ok r)
        clear hE hbx5
        go_wp2_with fail
        refine HS5.out.mono ?_
        rintro e w6 ⟨rfl, hb6⟩
        have hbx6 := (hb6.block wr.heap.size (Array.getElem?_eq_some_iff.1 HBX5.out).1).trans HBX5.out
        have q0 := block_cell hbx6 0 _ rfl
        have q1 := block_cell hbx6 1 _ rfl
        have q2 := block_cell hbx6 2 _ rfl
        have q3 := block_cell hbx6 3 _ rfl
        have q4 := block_cell hbx6 4 _ rfl
        have HI6 := Lib.hid (HI5.out.keep hb6)
        have HL5 := Lib.hid (left_any HI6.out.led s)
        have HL6 := Lib.hid (left_any HI6.out.led u)
        have HL7 := Lib.hid (left_any HI6.out.led v)
        clear hb6 hbx6
        go_wp2_with fail
        refine HL5.out.mono ?_
        rintro e w' ⟨rfl, rfl⟩
        go_wp2_with fail
        refine HL6.out.mono ?_
        rintro e w' ⟨rfl, rfl⟩
        go_wp2_with fail
        refine HL7.out.mono ?_
        rintro e w' ⟨rfl, rfl⟩
        go_wp2_with fail
        go_roundw
        case rel => exact ⟨i + 1, L', by go_num, by omega, HI6.out⟩
        case measure => simp [intOf]; omega
    · obtain rfl : i = n := by omega
      have t1 : decide ((i : Int) < (i : Int)) = false := decide_eq_false (by omega)
      have HL1 := Lib.hid (left_any HI.out.led s)
      have HS1 := Lib.hid (sum_ok HI.out.led HI.out.ok r)
      have hlm := HI.out.ok.left_most s
      obtain ⟨z, hz⟩ : ∃ z, z = L.left s := ⟨_, rfl⟩
      have HZ := Lib.hid hz
      rw [← hz] at HL1 hlm
      clear hz
      go_wp2_with fail
      refine HL1.out.mono ?_
      rintro e w' ⟨rfl, rfl⟩
      go_wp2_with fail
      refine HS1.out.mono ?_
      rintro e w4 ⟨rfl, hb4⟩
      have HI4 := Lib.hid (HI.out.keep hb4)
      have HM1 := Lib.hid (move_ok HI4.out.led HI4.out.ok s s z (by omega) (HHS.out.1.at_ _) (HHS.out.1.at_ _))
      have HM1L : Hid ((L.moveS s s z).left s = z ∧ ∀ k, (L.moveS s s z).sum k = L.sum k) := ⟨by rw [moveS_self, HZ.out], fun k => moveS_sum L s s z k⟩
      obtain ⟨L1, hL1⟩ : ∃ L1, L1 = L.moveS s s z := ⟨_, rfl⟩
      rw [← hL1] at HM1 HM1L
      clear hb4 hL1
      go_wp2_with fail
      refine HM1.out.mono ?_
      rintro e w5 hd
      have HI5 := Lib.hid (HI4.out.act hd)
      obtain ⟨rfl, -, -⟩ := hd
      go_wp2_with fail
      refine (HNN.out _).mono ?_
      rintro e w6 ⟨rfl, hb6⟩
      have HI6 := Lib.hid (HI5.out.keep hb6)
      have HM2 := Lib.hid (move_ok HI6.out.led HI6.out.ok s t 0 (by omega) (HHS.out.1.at_ _) (HHT.out.1.at_ _))
      have HM2L : Hid ((L1.moveS s t 0).left s = z ∧ ∀ k, (L1.moveS s t 0).sum k = L.sum k) := ⟨by rw [moveS_zero]; exact HM1L.out.1, fun k => by rw [moveS_sum]; exact HM1L.out.2 k⟩
      obtain ⟨L2, hL2⟩ : ∃ L2, L2 = L1.moveS s t 0 := ⟨_, rfl⟩
      rw [← hL2] at HM2 HM2L
      clear hb6 hL2
      go_wp2_with fail
      refine HM2.out.mono ?_
      rintro e w7 hd
      have HI7 := Lib.hid (HI6.out.act hd)
      obtain ⟨rfl, -, -⟩ := hd
      have HM3 := Lib.hid (spend_ok HI7.out.led HI7.out.ok s 0 (by omega) (HHS.out.1.at_ _))
      have HM3L : Hid ((L2.spendS s 0).left s = z ∧ ∀ k, (L2.spendS s 0).sum k = L.sum k) := ⟨by rw [(spendS_zero L2 s s 0).1]; exact HM2L.out.1, fun k => by rw [(spendS_zero L2 s s k).2]; exact HM2L.out.2 k⟩
      obtain ⟨L3, hL3⟩ : ∃ L3, L3 = L2.spendS s 0 := ⟨_, rfl⟩
      rw [← hL3] at HM3 HM3L
      clear hL3
      go_wp2_with fail
      refine HM3.out.mono ?_
      rintro e w8 hd
      have HI8 := Lib.hid (HI7.out.act hd)
      obtain ⟨rfl, -, -⟩ := hd
      have HS8 := Lib.hid (sum_ok HI8.out.led HI8.out.ok r)
      rw [HM3L.out.2] at HS8
      go_wp2_with fail
      refine HS8.out.mono ?_
      rintro e w9 ⟨rfl, hb9⟩
      have HI9 := Lib.hid (HI8.out.keep hb9)
      have HL9 := Lib.hid (left_any HI9.out.led s)
      rw [HM3L.out.1] at HL9
      clear hb9
      go_wp2_with fail
      refine HL9.out.mono ?_
      rintro e w' ⟨rfl, rfl⟩
      have HLV := Lib.hid (fun w => lives_any w)
      go_wp2_with fail
      refine (HLV.out _).mono ?_
      rintro e w10 ⟨rfl, hb10⟩
      have HB10 := Lib.hid (btrans HI9.out.below hb10)
      clear hb10
      go_wp2_with fail
      go_ret
      exact ⟨rfl, HB10.out⟩

end Go.Proofs.YtedoalpijbggiaaDoor
