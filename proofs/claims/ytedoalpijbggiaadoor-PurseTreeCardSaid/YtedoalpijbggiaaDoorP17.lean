/- PurseRow: the walk. -/
import Derived.Test.YtedoalpijbggiaaDoorP16
import Derived.Deep.QuietTactic
import Derived.BigQuiet
namespace Go.Proofs.YtedoalpijbggiaaDoor
open Go.RowKit
attribute [local go_sem ↓] Go.wp_at_zero Go.wp_at_succ

/-- What an act that is done, and mints nothing, changes. -/
def actD (a : PA) (u : ByteArray) : Int := if a.do_ = 1 then (if u = a.from_ then -a.n else 0) + (if u = a.to then a.n else 0) else (if u = a.from_ then -a.n else 0)
def actG (a : PA) (k : Int) : Int := if a.do_ = 1 then 0 else if k = reqOf a.from_ then a.n else 0

theorem upd_add (f : ByteArray → Int) (s : ByteArray) (d : Int) (u : ByteArray) : upd f s d u = f u + if u = s then d else 0 := by
  unfold upd
  by_cases h : u = s
  · rw [if_pos h, if_pos h, h]
  · rw [if_neg h, if_neg h, Int.add_zero]

theorem act_left {L : Led} {a : PA} (h : L.actE a = 0) (h0 : a.do_ ≠ 0) (u : ByteArray) : (L.actS a).left u = L.left u + actD a u := by
  unfold Led.actE at h
  rw [if_neg h0] at h
  unfold Led.actS actD
  rw [if_neg h0]
  by_cases h1 : a.do_ = 1
  · rw [if_pos h1] at h
    rw [if_pos h1, if_pos h1]
    unfold Led.moveS
    rw [if_pos h]
    show upd (upd L.left a.from_ (-a.n)) a.to a.n u = _
    rw [upd_add, upd_add, Int.add_assoc]
  · rw [if_neg h1] at h
    rw [if_neg h1, if_neg h1]
    unfold Led.spendS
    rw [if_pos h]
    show upd L.left a.from_ (-a.n) u = _
    rw [upd_add]

theorem act_sum {L : Led} {a : PA} (h : L.actE a = 0) (h0 : a.do_ ≠ 0) (k : Int) : (L.actS a).sum k = ((L.sum k).1, (L.sum k).2 + actG a k) := by
  unfold Led.actE at h
  rw [if_neg h0] at h
  unfold Led.actS actG
  rw [if_neg h0]
  by_cases h1 : a.do_ = 1
  · rw [if_pos h1] at h
    rw [if_pos h1, if_pos h1, moveS_sum, Int.add_zero]
  · rw [if_neg h1] at h
    rw [if_neg h1, if_neg h1]
    unfold Led.spendS
    rw [if_pos h]
    show (L.more _ 0 a.n).sum k = _
    rw [more_sum]
    by_cases e : k = reqOf a.from_
    · rw [if_pos e, if_pos e, e, Int.add_zero]
    · rw [if_neg e, if_neg e, Int.add_zero]

/-- Two acts, either way. -/
theorem acts_row {L : Led} {a b : PA} (ha : a.do_ ≠ 0) (hb : b.do_ ≠ 0) (h1 : L.actE a = 0) (h2 : (L.actS a).actE b = 0) (h3 : L.actE b = 0) (h4 : (L.actS b).actE a = 0) :
    (∀ u, ((L.actS b).actS a).left u = ((L.actS a).actS b).left u) ∧ ∀ k, ((L.actS b).actS a).sum k = ((L.actS a).actS b).sum k := by
  refine ⟨fun u => ?_, fun k => ?_⟩
  · rw [act_left h4 ha, act_left h3 hb, act_left h2 hb, act_left h1 ha]; omega
  · rw [act_sum h4 ha, act_sum h3 hb, act_sum h2 hb, act_sum h1 ha]
    simp only [Prod.mk.injEq, true_and]
    omega

theorem TwInv.rerow {w wr w' : World} {gb lb sb gc lc' sc : Nat} {A B : List PA} {va vb : Value} {LP LQ : Led} (h : TwInv w wr gb lb sb gc lc' sc A va LP LQ) (hB : PAs wr w' B vb) : TwInv w w' gb lb sb gc lc' sc B vb LP LQ := by
  obtain ⟨⟨bb, hrow, hbb⟩, hb⟩ := hB
  have f : ∀ {gb lb sb : Nat} {L : Led}, LrInv w wr gb lb sb A va L → LrInv w w' gb lb sb B vb L := fun {gb lb sb L} h => by
    obtain ⟨h1, h2, _, h4, h5⟩ := h
    refine ⟨h1.below hb, h2, ⟨bb, hrow, fun g hg => ?_⟩, h4, btrans h5 hb⟩
    have := hbb g hg
    have := h1.lt lb (.inr (.inl rfl))
    have := h1.lt sb (.inr (.inr rfl))
    omega
  exact ⟨f h.p, f h.q, h.ne, h.ne'⟩

theorem lives_end {w wr : World} (hb : Below w.heap.size w wr) : Calls Tryd.prog 20 #[] wr fun e w' => e = .returned (.bool true) ∧ Below w.heap.size w w' :=
  (lives_any wr).mono fun _ _ h => ⟨h.1, btrans hb h.2⟩

set_option maxRecDepth 8000 in
set_option maxHeartbeats 16000000 in
theorem row_walk {w : World} {A0 : Option Addr} {n0 : Nat} {l : List Int} (h : ArgInts w A0 n0 l) (cap : Nat) (x y : Int) (hx : -9223372036854775808 ≤ x ∧ x ≤ 9223372036854775807) (hy : -9223372036854775808 ≤ y ∧ y ≤ 9223372036854775807) :
    Calls Tryd.prog 7 #[.slice A0 n0 cap, .int .i64 x, .int .i64 y] w fun e w' => e = .returned (.bool true) ∧ Below w.heap.size w w' := by
  have HARG := Lib.hid h
  have HXY := Lib.hid (And.intro hx hy)
  clear h hx hy
  go_enter Tryd.func7, Tryd.ntmps7
  go_wp2_with fail
  refine (new_any _).mono ?_
  rintro e w1 ⟨gb, lb, sb, rfl, hled, hnew, hb1⟩
  have HLED := Lib.hid hled
  have HNEW := Lib.hid hnew
  have HB1 := Lib.hid hb1
  clear hled hnew hb1
  go_wp2_with fail
  refine (new_any _).mono ?_
  rintro e w1b ⟨gc, lc', sc, rfl, hled2, hnew2, hb2⟩
  have HAC := Lib.hid (acts_any (HARG.out.keep (btrans HB1.out hb2)) cap)
  have HST := Lib.hid (fun w3 A va (hA : PAs w1b w3 A va) => TwInv.start HLED.out HNEW.out HB1.out hled2 hnew2 hb2 hA)
  clear hled2 hnew2 hb2
  go_wp2_with fail
  refine HAC.out.mono ?_
  rintro e w2 ⟨A, va, rfl, hA, hAl, hAok⟩
  have HAOK := Lib.hid hAok
  have HI0 := Lib.hid (HST.out _ _ _ hA)
  obtain ⟨⟨ab, hrow, _⟩, _⟩ := hA
  obtain ⟨la, lc, rfl⟩ := hrow.form
  obtain ⟨n, hn⟩ : ∃ n, n = A.length := ⟨_, rfl⟩
  have HN := Lib.hid hn
  have hn20 : n ≤ 20 := by omega
  rw [← hn]
  rw [← hn] at HI0
  clear hrow hAl hAok hn
  go_wp2_with fail
  go_loopw [10] (fun vi wr => ∃ (i : Nat) (L : Led), vi = .int .i64 i ∧ i ≤ n ∧ TwInv w wr gb lb sb gc lc' sc A (.slice la n lc) L L) (fun vi _ => (n - intOf vi).toNat)
  case atStart => exact ⟨0, led0, rfl, by omega, HI0.out⟩
  case round =>
    obtain ⟨i, L, rfl, hi, hinv⟩ := hrel
    have HI := Lib.hid hinv
    clear hinv
    by_cases hin : i < n
    · have t1 : decide ((i : Int) < (n : Int)) = true := decide_eq_true (by omega)
      have hil : i < A.length := by rw [← HN.out]; exact hin
      obtain ⟨a, ha⟩ : ∃ a, A[i]? = some a := ⟨A[i], by simp [hil]⟩
      have HAA := Lib.hid ha
      obtain ⟨ab, hrow, _⟩ := HI.out.p.acts
      obtain ⟨g, off, rfl, _, c0, c1, c2, c3, c4⟩ := acts_cells hrow hil ha
      have haok := HAOK.out a (List.mem_of_getElem? ha)
      have HOKA := Lib.hid haok
      clear ha haok hrow
      obtain ⟨d, rq, u, v, k⟩ := a
      dsimp only at c0 c1 c2 c3 c4
      have i1 : (0 : Int) ≤ (i : Int) := by omega
      have i2 : (i : Int) < (n : Int) := by omega
      have HD : Hid (Calls Tryd.prog 15 #[.pointer (some ⟨gb, 0, none⟩), .agg #[.int .i64 d, .int .i64 rq, .string u, .string v, .int .i64 k]] wr (Did wr gb lb sb (L.actS ⟨d, rq, u, v, k⟩) (L.actE ⟨d, rq, u, v, k⟩))) := does_any HI.out.p.led HI.out.p.ok ⟨d, rq, u, v, k⟩ (HOKA.out.env wr)
      go_wp2_with fail
      refine HD.out.mono ?_
      rintro e w5 hd
      have HI5 := Lib.hid (HI.out.actP hd)
      obtain ⟨rfl, -, -⟩ := hd
      obtain ⟨ab5, hrow5, _⟩ := HI5.out.p.acts
      obtain ⟨g', off', e1, _, m0, m1, m2, m3, m4⟩ := acts_cells hrow5 hil HAA.out
      cases e1
      dsimp only at m0 m1 m2 m3 m4
      have HD2 : Hid (Calls Tryd.prog 15 #[.pointer (some ⟨gc, 0, none⟩), .agg #[.int .i64 d, .int .i64 rq, .string u, .string v, .int .i64 k]] w5 (Did w5 gc lc' sc (L.actS ⟨d, rq, u, v, k⟩) (L.actE ⟨d, rq, u, v, k⟩))) := does_any HI5.out.q.led HI5.out.q.ok ⟨d, rq, u, v, k⟩ (HOKA.out.env w5)
      clear hrow5 HD
      go_wp2_with fail
      refine HD2.out.mono ?_
      rintro e w6 hd
      have HI6 := Lib.hid (HI5.out.actQ hd)
      obtain ⟨rfl, -, -⟩ := hd
      go_wp2_with fail
      go_roundw
      case rel => exact ⟨i + 1, _, by go_num, by omega, HI6.out⟩
      case measure => simp [intOf]; omega
    · obtain rfl : i = n := by omega
      have t1 : decide ((i : Int) < (i : Int)) = false := decide_eq_false (by omega)
      have hbx := heap_alloc_new wr (.cells #[.int .i64 x, .int .i64 y] 3)
      have hbw : Below wr.heap.size wr (wr.alloc (.cells #[.int .i64 x, .int .i64 y] 3)) := (Below.refl _ _).alloc (Nat.le_refl _) _
      have harg : ArgInts (wr.alloc (.cells #[.int .i64 x, .int .i64 y] 3)) (some ⟨wr.heap.size, 0, none⟩) 2 [x, y] := by
        obtain ⟨hx, hy⟩ := HXY.out
        refine ⟨rfl, by omega, fun z hz => ?_, .inr ⟨_, 0, rfl, fun k hk => ?_⟩⟩
        · simp at hz; rcases hz with rfl | rfl <;> assumption
        · match k, hk with
          | 0, _ => exact block_cell hbx 0 _ rfl
          | 1, _ => exact block_cell hbx 1 _ rfl
      have HIW := Lib.hid (HI.out.keep hbw)
      have HAC2 := Lib.hid (acts_any harg 2)
      clear hbx hbw harg
      go_wp2_with fail
      refine HAC2.out.mono ?_
      rintro e w3 ⟨B, vb, rfl, hB, hBl, hBok⟩
      have HBOK := Lib.hid hBok
      have HI3 := Lib.hid (HIW.out.rerow hB)
      obtain ⟨⟨bb, hrow, _⟩, _⟩ := hB
      obtain ⟨la2, lc2, rfl⟩ := hrow.form
      have hB2 : B.length = 2 := hBl
      rw [hB2]
      rw [hB2] at HI3
      obtain ⟨a, b, rfl⟩ : ∃ a b, B = [a, b] := by
        match B, hB2 with
        | [a, b], _ => exact ⟨a, b, rfl⟩
      obtain ⟨ab, hrow3, _⟩ := HI3.out.p.acts
      have ha1 := HBOK.out a (by simp)
      have hb1 := HBOK.out b (by simp)
      have HEA := Lib.hid (fun w => ha1.env w)
      have HEB := Lib.hid (fun w => hb1.env w)
      obtain ⟨g, off, rfl, _, c0, c1, c2, c3, c4⟩ := acts_cells (i := 0) hrow3 (by simp) rfl
      obtain ⟨g', off', e1, _, m0, m1, m2, m3, m4⟩ := acts_cells (i := 1) hrow3 (by simp) rfl
      cases e1
      have HB0 : Hid ([a, b][0]? = some a ∧ [a, b][1]? = some b) := ⟨rfl, rfl⟩
      clear ha1 hb1 hBl hBok hrow hrow3 hB2
      obtain ⟨d1, q1, u1, v1, k1⟩ := a
      obtain ⟨d2, q2, u2, v2, k2⟩ := b
      obtain ⟨a, ha⟩ : ∃ a : PA, a = ⟨d1, q1, u1, v1, k1⟩ := ⟨_, rfl⟩
      obtain ⟨b, hb⟩ : ∃ b : PA, b = ⟨d2, q2, u2, v2, k2⟩ := ⟨_, rfl⟩
      have HAEQ := Lib.hid ha
      have HBEQ := Lib.hid hb
      rw [← ha, ← hb] at HI3 HB0 HBOK
      rw [← ha] at HEA
      rw [← hb] at HEB
      dsimp only at c0 c1 c2 c3 c4 m0 m1 m2 m3 m4
      simp only [Nat.zero_mul, Nat.one_mul, Nat.add_zero] at c0 c1 c2 c3 c4 m0 m1 m2 m3 m4
      clear ha hb
      -- the cells of both acts, in whatever world comes
      have HCELL : Hid (∀ {wz : World} {LP LQ : Led}, TwInv w wz gb lb sb gc lc' sc [a, b] (.slice (some ⟨g, off, none⟩) 2 lc2) LP LQ →
          (wz.cell? ⟨g, off, none⟩ = some (.int .i64 d1) ∧ wz.cell? ⟨g, off + 1, none⟩ = some (.int .i64 q1) ∧ wz.cell? ⟨g, off + 2, none⟩ = some (.string u1) ∧ wz.cell? ⟨g, off + 3, none⟩ = some (.string v1) ∧ wz.cell? ⟨g, off + 4, none⟩ = some (.int .i64 k1)) ∧
          (wz.cell? ⟨g, off + 5, none⟩ = some (.int .i64 d2) ∧ wz.cell? ⟨g, off + 5 + 1, none⟩ = some (.int .i64 q2) ∧ wz.cell? ⟨g, off + 5 + 2, none⟩ = some (.string u2) ∧ wz.cell? ⟨g, off + 5 + 3, none⟩ = some (.string v2) ∧ wz.cell? ⟨g, off + 5 + 4, none⟩ = some (.int .i64 k2))) := by
        intro wz LP LQ hz
        obtain ⟨ab, hrow3, _⟩ := hz.p.acts
        obtain ⟨g1, off1, e1, _, z0⟩ := acts_cells (i := 0) hrow3 (by simp) rfl
        obtain ⟨g2, off2, e2, _, z1⟩ := acts_cells (i := 1) hrow3 (by simp) rfl
        cases e1; cases e2
        rw [HAEQ.out] at z0
        rw [HBEQ.out] at z1
        simp only [Nat.zero_mul, Nat.one_mul, Nat.add_zero] at z0 z1
        exact ⟨z0, z1⟩
      have HAV : Hid (∀ (gz : Nat), (#[Value.pointer (some ⟨gz, 0, none⟩), .agg #[.int .i64 a.do_, .int .i64 a.req, .string a.from_, .string a.to, .int .i64 a.n]] : Array Value) = #[.pointer (some ⟨gz, 0, none⟩), .agg #[.int .i64 d1, .int .i64 q1, .string u1, .string v1, .int .i64 k1]]) := fun gz => by rw [HAEQ.out]
      have HBV : Hid (∀ (gz : Nat), (#[Value.pointer (some ⟨gz, 0, none⟩), .agg #[.int .i64 b.do_, .int .i64 b.req, .string b.from_, .string b.to, .int .i64 b.n]] : Array Value) = #[.pointer (some ⟨gz, 0, none⟩), .agg #[.int .i64 d2, .int .i64 q2, .string u2, .string v2, .int .i64 k2]]) := fun gz => by rw [HBEQ.out]
      have HD1 := Lib.hid (does_any HI3.out.p.led HI3.out.p.ok a (HEA.out _))
      rw [HAV.out] at HD1
      obtain ⟨E1, hE1⟩ : ∃ E, E = L.actE a := ⟨_, rfl⟩
      have HE1 := Lib.hid hE1
      rw [← hE1] at HD1
      clear hE1
      go_wp2_with fail
      refine HD1.out.mono ?_
      rintro e w4 hd
      have HI4 := Lib.hid (HI3.out.actP hd)
      obtain ⟨rfl, -, -⟩ := hd
      obtain ⟨⟨n0, n1, n2, n3, n4⟩, ⟨n5, n6, n7, n8, n9⟩⟩ := HCELL.out HI4.out
      have HD2 := Lib.hid (does_any HI4.out.p.led HI4.out.p.ok b (HEB.out _))
      rw [HBV.out] at HD2
      obtain ⟨E2, hE2⟩ : ∃ E, E = (L.actS a).actE b := ⟨_, rfl⟩
      have HE2 := Lib.hid hE2
      rw [← hE2] at HD2
      clear hE2
      go_wp2_with fail
      refine HD2.out.mono ?_
      rintro e w5 hd
      have HI5 := Lib.hid (HI4.out.actP hd)
      obtain ⟨rfl, -, -⟩ := hd
      obtain ⟨⟨o0, o1, o2, o3, o4⟩, ⟨o5, o6, o7, o8, o9⟩⟩ := HCELL.out HI5.out
      have HD3 := Lib.hid (does_any HI5.out.q.led HI5.out.q.ok b (HEB.out _))
      rw [HBV.out] at HD3
      obtain ⟨E3, hE3⟩ : ∃ E, E = L.actE b := ⟨_, rfl⟩
      have HE3 := Lib.hid hE3
      rw [← hE3] at HD3
      clear hE3
      go_wp2_with fail
      refine HD3.out.mono ?_
      rintro e w6 hd
      have HI6 := Lib.hid (HI5.out.actQ hd)
      obtain ⟨rfl, -, -⟩ := hd
      obtain ⟨⟨p0, p1, p2, p3, p4⟩, ⟨p5, p6, p7, p8, p9⟩⟩ := HCELL.out HI6.out
      have HD4 := Lib.hid (does_any HI6.out.q.led HI6.out.q.ok a (HEA.out _))
      rw [HAV.out] at HD4
      obtain ⟨E4, hE4⟩ : ∃ E, E = (L.actS b).actE a := ⟨_, rfl⟩
      have HE4 := Lib.hid hE4
      rw [← hE4] at HD4
      clear hE4
      go_wp2_with fail
      refine HD4.out.mono ?_
      rintro e w7 hd
      have HI7 := Lib.hid (HI6.out.actQ hd)
      obtain ⟨rfl, -, -⟩ := hd
      obtain ⟨⟨r0, r1, r2, r3, r4⟩, ⟨r5, r6, r7, r8, r9⟩⟩ := HCELL.out HI7.out
      have HLV := Lib.hid (lives_end HI7.out.p.below)
      clear HD1 HD2 HD3 HD4 c0 c1 c2 c3 c4 m0 m1 m2 m3 m4 n0 n1 n2 n3 n4 n5 n6 n7 n8 n9 o0 o1 o2 o3 o4 o5 o6 o7 o8 o9 p0 p1 p2 p3 p4 p5 p6 p7 p8 p9
      by_cases h_d1 : d1 = 0
      · have e_d1 : (d1 == 0) = true := by rw [h_d1]; rfl
        go_wp2_with fail
        refine HLV.out.mono ?_
        rintro e w9 ⟨rfl, hb9⟩
        have HB9 := Lib.hid hb9
        clear hb9
        go_wp2_with fail
        go_ret
        exact ⟨rfl, HB9.out⟩
      have e_d1 : (d1 == 0) = false := beq_eq_false_iff_ne.2 h_d1
      by_cases h_d2 : d2 = 0
      · have e_d2 : (d2 == 0) = true := by rw [h_d2]; rfl
        go_wp2_with fail
        refine HLV.out.mono ?_
        rintro e w9 ⟨rfl, hb9⟩
        have HB9 := Lib.hid hb9
        clear hb9
        go_wp2_with fail
        go_ret
        exact ⟨rfl, HB9.out⟩
      have e_d2 : (d2 == 0) = false := beq_eq_false_iff_ne.2 h_d2
      rcases (Decidable.em (E1 = 0)).symm with h_E1 | h_E1
      · have e_E1 : (E1 == 0) = false := beq_eq_false_iff_ne.2 h_E1
        go_wp2_with fail
        refine HLV.out.mono ?_
        rintro e w9 ⟨rfl, hb9⟩
        have HB9 := Lib.hid hb9
        clear hb9
        go_wp2_with fail
        go_ret
        exact ⟨rfl, HB9.out⟩
      have e_E1 : (E1 == 0) = true := by rw [h_E1]; rfl
      rcases (Decidable.em (E2 = 0)).symm with h_E2 | h_E2
      · have e_E2 : (E2 == 0) = false := beq_eq_false_iff_ne.2 h_E2
        go_wp2_with fail
        refine HLV.out.mono ?_
        rintro e w9 ⟨rfl, hb9⟩
        have HB9 := Lib.hid hb9
        clear hb9
        go_wp2_with fail
        go_ret
        exact ⟨rfl, HB9.out⟩
      have e_E2 : (E2 == 0) = true := by rw [h_E2]; rfl
      rcases (Decidable.em (E3 = 0)).symm with h_E3 | h_E3
      · have e_E3 : (E3 == 0) = false := beq_eq_false_iff_ne.2 h_E3
        go_wp2_with fail
        refine HLV.out.mono ?_
        rintro e w9 ⟨rfl, hb9⟩
        have HB9 := Lib.hid hb9
        clear hb9
        go_wp2_with fail
        go_ret
        exact ⟨rfl, HB9.out⟩
      have e_E3 : (E3 == 0) = true := by rw [h_E3]; rfl
      rcases (Decidable.em (E4 = 0)).symm with h_E4 | h_E4
      · have e_E4 : (E4 == 0) = false := beq_eq_false_iff_ne.2 h_E4
        go_wp2_with fail
        refine HLV.out.mono ?_
        rintro e w9 ⟨rfl, hb9⟩
        have HB9 := Lib.hid hb9
        clear hb9
        go_wp2_with fail
        go_ret
        exact ⟨rfl, HB9.out⟩
      have e_E4 : (E4 == 0) = true := by rw [h_E4]; rfl
      obtain ⟨HRL, HRS⟩ := acts_row (L := L) (a := a) (b := b) (by rw [HAEQ.out]; exact h_d1) (by rw [HBEQ.out]; exact h_d2) (HE1.out.symm.trans h_E1) (HE2.out.symm.trans h_E2) (HE3.out.symm.trans h_E3) (HE4.out.symm.trans h_E4)
      have HRL := Lib.hid HRL
      have HRS := Lib.hid HRS
      obtain ⟨P2, hP2⟩ : ∃ P2, P2 = (L.actS a).actS b := ⟨_, rfl⟩
      obtain ⟨Q2, hQ2⟩ : ∃ Q2, Q2 = (L.actS b).actS a := ⟨_, rfl⟩
      rw [← hP2] at HRL HRS HI7
      rw [← hQ2] at HRL HRS HI7
      clear hP2 hQ2
      go_wp2_with fail
      clear h_d1 h_d2 h_E1 h_E2 h_E3 h_E4 e_d1 e_d2 e_E1 e_E2 e_E3 e_E4 r0 r1 r2 r3 r4 r5 r6 r7 r8 r9
      go_loopw [16] (fun vj wz => ∃ j : Nat, vj = .int .i64 j ∧ j ≤ 2 ∧ TwInv w wz gb lb sb gc lc' sc [a, b] (.slice (some ⟨g, off, none⟩) 2 lc2) P2 Q2) (fun vj _ => (2 - intOf vj).toNat)
      case atStart => exact ⟨0, rfl, by omega, HI7.out⟩
      case round =>
        obtain ⟨j, rfl, hj, hinv⟩ := hrel
        have HJ := Lib.hid hinv
        clear hinv
        by_cases hj2 : j < 2
        · have t2 : decide ((j : Int) < 2) = true := decide_eq_true (by omega)
          have j1 : (0 : Int) ≤ (j : Int) := by omega
          have j2 : (j : Int) < 2 := by omega
          -- the act of this round
          have hc : ∃ (rq : Int) (u v : ByteArray), ∀ (wz : World) (LP LQ : Led), TwInv w wz gb lb sb gc lc' sc [a, b] (.slice (some ⟨g, off, none⟩) 2 lc2) LP LQ → wz.cell? ⟨g, off + j * 5 + 1, none⟩ = some (.int .i64 rq) ∧ wz.cell? ⟨g, off + j * 5 + 2, none⟩ = some (.string u) ∧ wz.cell? ⟨g, off + j * 5 + 3, none⟩ = some (.string v) := by
            have h01 : j = 0 ∨ j = 1 := by omega
            rcases h01 with rfl | rfl
            · refine ⟨q1, u1, v1, fun wz LP LQ hz => ?_⟩
              obtain ⟨⟨z0, z1, z2, z3, z4⟩, _⟩ := HCELL.out hz
              simp only [Nat.zero_mul, Nat.add_zero]
              exact ⟨z1, z2, z3⟩
            · refine ⟨q2, u2, v2, fun wz LP LQ hz => ?_⟩
              obtain ⟨_, ⟨z0, z1, z2, z3, z4⟩⟩ := HCELL.out hz
              simp only [Nat.one_mul]
              exact ⟨z1, z2, z3⟩
          obtain ⟨rq, u, v, hcc⟩ := hc
          have HCC := Lib.hid hcc
          clear hcc
          obtain ⟨c1, c2, c3⟩ := HCC.out _ _ _ HJ.out
          have HS1 := Lib.hid (sum_ok HJ.out.p.led HJ.out.p.ok rq)
          go_wp2_with fail
          refine HS1.out.mono ?_
          rintro e w8 ⟨rfl, hb8⟩
          have HJ8 := Lib.hid (HJ.out.keep hb8)
          obtain ⟨m1, m2, m3⟩ := HCC.out _ _ _ HJ8.out
          have HS2 := Lib.hid (sum_ok HJ8.out.q.led HJ8.out.q.ok rq)
          rw [HRS.out] at HS2
          clear hb8 c1 c2 c3
          go_wp2_with fail
          refine HS2.out.mono ?_
          rintro e w9 ⟨rfl, hb9⟩
          have HJ9 := Lib.hid (HJ8.out.keep hb9)
          obtain ⟨n1, n2, n3⟩ := HCC.out _ _ _ HJ9.out
          have HLA := Lib.hid (fun k => left_any (HJ9.out.p.led.below (below_drewN (nq := k) (Below.refl _ _))) u)
          have HLB := Lib.hid (fun k => left_any (HJ9.out.q.led.below (below_drewN (nq := k) (Below.refl _ _))) u)
          have HLC := Lib.hid (fun k => left_any (HJ9.out.p.led.below (below_drewN (nq := k) (Below.refl _ _))) v)
          have HLD := Lib.hid (fun k => left_any (HJ9.out.q.led.below (below_drewN (nq := k) (Below.refl _ _))) v)
          rw [HRL.out] at HLB HLD
          clear hb9 m1 m2 m3
          go_wp2_with fail
          go_quiet (first | (go_at_call 17; first | with_reducible exact Calls.quiet_of_same (HLA.out _) | with_reducible exact Calls.quiet_of_same (HLB.out _) | with_reducible exact Calls.quiet_of_same (HLC.out _) | with_reducible exact Calls.quiet_of_same (HLD.out _)))
          go_wp2_with fail
          go_roundw
          case rel => exact ⟨j + 1, by go_num, by omega, HJ9.out.keep (below_drewN (Below.refl _ _))⟩
          case measure => simp [intOf]; omega
        · have t2 : decide ((j : Int) < 2) = false := decide_eq_false (by omega)
          have HLV := Lib.hid (lives_end HJ.out.p.below)
          go_wp2_with fail
          refine HLV.out.mono ?_
          rintro e w9 ⟨rfl, hb9⟩
          have HB9 := Lib.hid hb9
          clear hb9
          go_wp2_with fail
          go_ret
          exact ⟨rfl, HB9.out⟩

end Go.Proofs.YtedoalpijbggiaaDoor
