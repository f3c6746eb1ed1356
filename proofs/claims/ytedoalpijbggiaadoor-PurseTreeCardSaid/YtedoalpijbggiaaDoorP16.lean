/- PurseApart: the walk. Two ledgers. -/
import Derived.Test.YtedoalpijbggiaaDoorP15
namespace Go.Proofs.YtedoalpijbggiaaDoor
open Go.RowKit
attribute [local go_sem ↓] Go.wp_at_zero Go.wp_at_succ

/-- Two ledgers and a row of acts, all new. -/
structure TwInv (w wr : World) (gb lb sb gc lc' sc : Nat) (A : List PA) (va : Value) (LP LQ : Led) : Prop where
  p : LrInv w wr gb lb sb A va LP
  q : LrInv w wr gc lc' sc A va LQ
  ne : ∀ k, LF lb sb k → ¬ LFoot gc lc' sc k
  ne' : ∀ k, LF lc' sc k → ¬ LFoot gb lb sb k

theorem TwInv.keep {w wr w' : World} {gb lb sb gc lc' sc : Nat} {A : List PA} {va : Value} {LP LQ : Led} (h : TwInv w wr gb lb sb gc lc' sc A va LP LQ) (hb : Below wr.heap.size wr w') : TwInv w w' gb lb sb gc lc' sc A va LP LQ :=
  ⟨h.p.keep hb, h.q.keep hb, h.ne, h.ne'⟩

theorem TwInv.actP {w wr w' : World} {gb lb sb gc lc' sc : Nat} {A : List PA} {va : Value} {LP LQ L' : Led} {er : Int} {e : Ending} (h : TwInv w wr gb lb sb gc lc' sc A va LP LQ) (hd : Did wr gb lb sb L' er e w') : TwInv w w' gb lb sb gc lc' sc A va L' LQ := by
  have hp := h.p.act hd
  obtain ⟨h1, h2, ⟨ab, h3, h3'⟩, h4, h5⟩ := h.q
  have hF := hd.2.1.fr
  obtain ⟨_, _, ⟨ab2, k3, k3'⟩, _, _⟩ := h.p
  have hab : ab = ab2 := by
    rcases h3.2.2 with ⟨e1, _, e2⟩ | ⟨g, off, cap, cur, e1, e2, _⟩
    · rcases k3.2.2 with ⟨f1, _, f2⟩ | ⟨g', off', cap', cur', f1, f2, _⟩
      · rw [e2, f2]
      · rw [e1] at f1; cases f1
    · rcases k3.2.2 with ⟨f1, _, f2⟩ | ⟨g', off', cap', cur', f1, f2, _⟩
      · rw [e1] at f1; cases f1
      · rw [e1] at f1; cases f1; rw [e2, f2]
  subst hab
  refine ⟨hp, ⟨h1.keep fun k hk => hF.block k (h1.lt k hk) (fun e => h.ne k e hk), h2, ⟨ab, h3.below fun g hg => hF.block g (h3.lt g hg) (fun e => ?_), h3'⟩, h4, hp.below⟩, h.ne, h.ne'⟩
  have := k3' g hg; unfold LF at e; omega

theorem TwInv.swap {w wr : World} {gb lb sb gc lc' sc : Nat} {A : List PA} {va : Value} {LP LQ : Led} (h : TwInv w wr gb lb sb gc lc' sc A va LP LQ) : TwInv w wr gc lc' sc gb lb sb A va LQ LP := ⟨h.q, h.p, h.ne', h.ne⟩
theorem TwInv.actQ {w wr w' : World} {gb lb sb gc lc' sc : Nat} {A : List PA} {va : Value} {LP LQ L' : Led} {er : Int} {e : Ending} (h : TwInv w wr gb lb sb gc lc' sc A va LP LQ) (hd : Did wr gc lc' sc L' er e w') : TwInv w w' gb lb sb gc lc' sc A va LP L' := (h.swap.actP hd).swap

theorem TwInv.start {w w1 w2 w3 : World} {gb lb sb gc lc' sc : Nat} {A : List PA} {va : Value} (h1 : LedAt w1 gb lb sb led0) (hn : ∀ k, LFoot gb lb sb k → w.heap.size ≤ k) (hb : Below w.heap.size w w1) (h2 : LedAt w2 gc lc' sc led0) (hn2 : ∀ k, LFoot gc lc' sc k → w1.heap.size ≤ k) (hb2 : Below w1.heap.size w1 w2) (hA : PAs w2 w3 A va) : TwInv w w3 gb lb sb gc lc' sc A va led0 led0 := by
  have hs := hb.size
  have hlt := h1.lt
  refine ⟨LrInv.start (h1.below hb2) hn (btrans hb hb2) hA, LrInv.start h2 (fun k hk => Nat.le_trans hs (hn2 k hk)) (btrans hb hb2) hA, fun k hk hk' => ?_, fun k hk hk' => ?_⟩
  · have e1 := hn2 k hk'
    have e2 := hlt k (by rcases hk with rfl | rfl; exact .inr (.inl rfl); exact .inr (.inr rfl))
    omega
  · have e1 := hn2 k (by rcases hk with rfl | rfl; exact .inr (.inl rfl); exact .inr (.inr rfl))
    have e2 := hlt k hk'
    omega

/-- Two ledgers are alike at a request. -/
structure Agree (r : Int) (LP LQ : Led) : Prop where
  sums : LP.sums r = LQ.sums r
  left : ∀ s, reqOf s = r → LP.left s = LQ.left s

theorem more_sums (L : Led) (r m p k : Int) : (L.more r m p).sums k = if k = r then some ((L.sum r).1 + m, (L.sum r).2 + p) else L.sums k := rfl

/-- An act of another request. -/
theorem Agree.other {r : Int} {LP LQ : Led} (h : Agree r LP LQ) {a : PA} (ha : a.Ok) (hr : a.req ≠ r) : Agree r (LP.actS a) LQ := by
  obtain ⟨q, hq, q1, q2, hh⟩ := ha.req
  have hrf : reqOf a.from_ = a.req := by rw [hh.req, hq]
  unfold Led.actS
  split
  · unfold Led.mintS
    split
    · refine ⟨?_, fun s hs => ?_⟩
      · show (LP.more a.req a.n 0).sums r = _
        rw [more_sums, if_neg (fun e => hr e.symm)]; exact h.sums
      · show upd LP.left (dec a.req) a.n s = _
        unfold upd
        rw [if_neg (fun e => hr ?_)]
        · exact h.left s hs
        · rw [← hs, e, hq, dec_digit q q1 (by omega), digit_req q q1 (by omega)]
    · exact h
  · split
    · unfold Led.moveS
      split
      · rename_i h0
        obtain ⟨_, _, ht, _, _⟩ := moveE_ok h0
        refine ⟨?_, fun s hs => ?_⟩
        · show (LP.more (reqOf a.from_) 0 0).sums r = _
          rw [more_sums, if_neg (fun e => hr (by rw [← hrf]; exact e.symm))]; exact h.sums
        · show upd (upd LP.left a.from_ (-a.n)) a.to a.n s = _
          have n1 : ¬ s = a.from_ := fun e => hr (by rw [← hrf, ← e]; exact hs)
          have n2 : ¬ s = a.to := fun e => hr (by rw [← hrf, ← ht, ← e]; exact hs)
          simp only [upd, n1, n2, if_false]
          exact h.left s hs
      · exact h
    · unfold Led.spendS
      split
      · refine ⟨?_, fun s hs => ?_⟩
        · show (LP.more (reqOf a.from_) 0 a.n).sums r = _
          rw [more_sums, if_neg (fun e => hr (by rw [← hrf]; exact e.symm))]; exact h.sums
        · show upd LP.left a.from_ (-a.n) s = _
          have n1 : ¬ s = a.from_ := fun e => hr (by rw [← hrf, ← e]; exact hs)
          simp only [upd, n1, if_false]
          exact h.left s hs
      · exact h

/-- An act of that request, at both. -/
theorem Agree.both {r : Int} {LP LQ : Led} (h : Agree r LP LQ) {a : PA} (ha : a.Ok) (hr : a.req = r) : LQ.actE a = LP.actE a ∧ Agree r (LP.actS a) (LQ.actS a) := by
  obtain ⟨q, hq, q1, q2, hh⟩ := ha.req
  have hrf : reqOf a.from_ = r := by rw [hh.req, ← hq, hr]
  have hsum : LP.sum r = LQ.sum r := by unfold Led.sum; rw [h.sums]
  have hlf : LP.left a.from_ = LQ.left a.from_ := h.left _ hrf
  have hhas : LQ.hasE r a.from_ a.n = LP.hasE r a.from_ a.n := by unfold Led.hasE; rw [h.sums, hlf]
  have hup : ∀ (f g : ByteArray → Int) (s : ByteArray) (d : Int), (∀ t, reqOf t = r → f t = g t) → reqOf s = r → ∀ t, reqOf t = r → upd f s d t = upd g s d t := fun f g s d hfg hs t ht => by
    unfold upd
    rw [hfg s hs, hfg t ht]
  unfold Led.actE Led.actS
  by_cases h0 : a.do_ = 0
  · simp only [h0, if_true]
    have hE : LQ.mintE a.req a.n = LP.mintE a.req a.n := by unfold Led.mintE; rw [hr, h.sums]
    refine ⟨hE, ?_⟩
    unfold Led.mintS
    rw [hE]
    split
    · refine ⟨?_, fun t ht => ?_⟩
      · show (LP.more a.req a.n 0).sums r = (LQ.more a.req a.n 0).sums r
        rw [more_sums, more_sums, hr, if_pos rfl, if_pos rfl, hsum]
      · exact hup _ _ _ _ h.left (by rw [hq, dec_digit q q1 (by omega), digit_req q q1 (by omega), ← hq, hr]) t ht
    · exact h
  · simp only [h0, if_false]
    by_cases h1 : a.do_ = 1
    · simp only [h1, if_true]
      have hE : LQ.moveE (reqOf a.from_) (reqOf a.to) a.from_ a.n = LP.moveE (reqOf a.from_) (reqOf a.to) a.from_ a.n := by unfold Led.moveE; rw [hrf, hhas]
      refine ⟨hE, ?_⟩
      unfold Led.moveS
      rw [hE]
      split
      · rename_i e0
        obtain ⟨_, _, ht2, _, _⟩ := moveE_ok e0
        refine ⟨?_, fun t ht => ?_⟩
        · show (LP.more (reqOf a.from_) 0 0).sums r = (LQ.more (reqOf a.from_) 0 0).sums r
          rw [more_sums, more_sums, hrf, if_pos rfl, if_pos rfl, hsum]
        · exact hup _ _ _ _ (hup _ _ _ _ h.left hrf) (ht2.trans hrf) t ht
      · exact h
    · simp only [h1, if_false]
      have hE : LQ.spendE (reqOf a.from_) a.from_ a.n = LP.spendE (reqOf a.from_) a.from_ a.n := by unfold Led.spendE; rw [hrf, hhas]
      refine ⟨hE, ?_⟩
      unfold Led.spendS
      rw [hE]
      split
      · refine ⟨?_, fun t ht => ?_⟩
        · show (LP.more (reqOf a.from_) 0 a.n).sums r = (LQ.more (reqOf a.from_) 0 a.n).sums r
          rw [more_sums, more_sums, hrf, if_pos rfl, if_pos rfl, hsum]
        · exact hup _ _ _ _ h.left hrf t ht
      · exact h

set_option maxRecDepth 8000 in
set_option maxHeartbeats 8000000 in
theorem apart_walk {w : World} {A0 : Option Addr} {n0 : Nat} {l : List Int} (h : ArgInts w A0 n0 l) (cap : Nat) (req m : Int) (hreq : -9223372036854775808 ≤ req ∧ req ≤ 9223372036854775807) (hm : -9223372036854775808 ≤ m ∧ m ≤ 9223372036854775807) :
    Calls Tryd.prog 6 #[.slice A0 n0 cap, .int .i64 req, .int .i64 m] w fun e w' => e = .returned (.bool true) ∧ Below w.heap.size w w' := by
  have HARG := Lib.hid h
  have HA := Lib.hid (fun w => around_any req 3 w hreq.1 hreq.2 (by omega) (by omega))
  obtain ⟨x0, x1⟩ := around_bd req (m := 3) (by omega)
  obtain ⟨x, hx⟩ : ∃ x, x = around req 3 := ⟨_, rfl⟩
  rw [← hx] at HA x0 x1
  obtain ⟨r, hr⟩ : ∃ r : Nat, (r : Int) = 1 + x := ⟨(1 + x).toNat, by omega⟩
  have hr1 : 1 ≤ r ∧ r ≤ 3 := by omega
  have g1 : IntKind.i64.wrap (1 + x) = (r : Int) := by rw [IntWalk.i64_in _ (by omega), hr]
  have HNM := Lib.hid (fun w => name_any r (by omega) m w hm)
  have HHS := Lib.hid (nameOf_holder r hr1.1 (by omega) m)
  obtain ⟨s, hs⟩ : ∃ s, s = nameOf r m := ⟨_, rfl⟩
  rw [← hs] at HNM HHS
  clear h hx hr hs
  go_enter Tryd.func6, Tryd.ntmps6
  go_wp2_with fail
  refine (new_any _).mono ?_
  rintro e w1 ⟨gb, lb, sb, rfl, hled, hnew, hb1⟩
  have HLED := Lib.hid hled
  have HNEW := Lib.hid hnew
  have HB1 := Lib.hid hb1
  clear hled hnew hb1
  go_wp2_with fail
  refine (new_any _).mono ?_
  rintro e w1b ⟨gc, lc', sc, rfl, hled2, hnew2, hb2⟩
  have HAC := Lib.hid (acts_any (HARG.out.keep (btrans HB1.out hb2)) cap)
  have HST := Lib.hid (fun w3 A va (hA : PAs w1b w3 A va) => TwInv.start HLED.out HNEW.out HB1.out hled2 hnew2 hb2 hA)
  clear hled2 hnew2 hb2
  go_wp2_with fail
  refine HAC.out.mono ?_
  rintro e w2 ⟨A, va, rfl, hA, hAl, hAok⟩
  have HAOK := Lib.hid hAok
  have HI0 := Lib.hid (HST.out _ _ _ hA)
  obtain ⟨⟨ab, hrow, _⟩, _⟩ := hA
  obtain ⟨la, lc, rfl⟩ := hrow.form
  obtain ⟨n, hn⟩ : ∃ n, n = A.length := ⟨_, rfl⟩
  have HN := Lib.hid hn
  have hn20 : n ≤ 20 := by omega
  rw [← hn]
  rw [← hn] at HI0
  clear hrow hAl hAok hn
  go_wp2_with fail
  refine (HA.out _).mono ?_
  rintro e w' ⟨rfl, rfl⟩
  go_wp2_with fail
  go_loopw [11] (fun vi wr => ∃ (i : Nat) (LP LQ : Led), vi = .int .i64 i ∧ i ≤ n ∧ TwInv w wr gb lb sb gc lc' sc A (.slice la n lc) LP LQ ∧ Agree r LP LQ) (fun vi _ => (n - intOf vi).toNat)
  case atStart => exact ⟨0, led0, led0, rfl, by omega, HI0.out, ⟨rfl, fun _ _ => rfl⟩⟩
  case round =>
    obtain ⟨i, LP, LQ, rfl, hi, hinv, hag⟩ := hrel
    have HI := Lib.hid hinv
    have HAG := Lib.hid hag
    clear hinv hag
    by_cases hin : i < n
    · have t1 : decide ((i : Int) < (n : Int)) = true := decide_eq_true (by omega)
      have hil : i < A.length := by rw [← HN.out]; exact hin
      obtain ⟨a, ha⟩ : ∃ a, A[i]? = some a := ⟨A[i], by simp [hil]⟩
      have HAA := Lib.hid ha
      obtain ⟨ab, hrow, _⟩ := HI.out.p.acts
      obtain ⟨g, off, rfl, _, c0, c1, c2, c3, c4⟩ := acts_cells hrow hil ha
      have haok := HAOK.out a (List.mem_of_getElem? ha)
      have HOKA := Lib.hid haok
      clear ha haok hrow
      obtain ⟨d, rq, u, v, k⟩ := a
      dsimp only at c0 c1 c2 c3 c4
      have i1 : (0 : Int) ≤ (i : Int) := by omega
      have i2 : (i : Int) < (n : Int) := by omega
      have HD : Hid (Calls Tryd.prog 15 #[.pointer (some ⟨gb, 0, none⟩), .agg #[.int .i64 d, .int .i64 rq, .string u, .string v, .int .i64 k]] wr (Did wr gb lb sb (LP.actS ⟨d, rq, u, v, k⟩) (LP.actE ⟨d, rq, u, v, k⟩))) := does_any HI.out.p.led HI.out.p.ok ⟨d, rq, u, v, k⟩ (HOKA.out.env wr)
      have HBO := Lib.hid (fun h => Agree.both HAG.out HOKA.out h)
      have HOT := Lib.hid (fun h => Agree.other HAG.out HOKA.out h)
      obtain ⟨E, hE⟩ : ∃ E, E = LP.actE ⟨d, rq, u, v, k⟩ := ⟨_, rfl⟩
      obtain ⟨LP', hL'⟩ : ∃ L', L' = LP.actS ⟨d, rq, u, v, k⟩ := ⟨_, rfl⟩
      rw [← hE] at HD HBO
      rw [← hL'] at HD HBO HOT
      clear hE hL'
      go_wp2_with fail
      refine HD.out.mono ?_
      rintro e w5 hd
      have HI5 := Lib.hid (HI.out.actP hd)
      obtain ⟨rfl, -, -⟩ := hd
      obtain ⟨ab5, hrow5, _⟩ := HI5.out.p.acts
      obtain ⟨g', off', e1, _, m0, m1, m2, m3, m4⟩ := acts_cells hrow5 hil HAA.out
      cases e1
      dsimp only at m0 m1 m2 m3 m4
      have HD2 : Hid (Calls Tryd.prog 15 #[.pointer (some ⟨gc, 0, none⟩), .agg #[.int .i64 d, .int .i64 rq, .string u, .string v, .int .i64 k]] w5 (Did w5 gc lc' sc (LQ.actS ⟨d, rq, u, v, k⟩) (LQ.actE ⟨d, rq, u, v, k⟩))) := does_any HI5.out.q.led HI5.out.q.ok ⟨d, rq, u, v, k⟩ (HOKA.out.env w5)
      clear hrow5 HD
      by_cases hrq : rq = (r : Int)
      · have e1 : (rq == (r : Int)) = true := by rw [hrq]; exact beq_self_eq_true _
        obtain ⟨hE2, hag2⟩ := HBO.out hrq
        rw [hE2] at HD2
        have HAG2 := Lib.hid hag2
        clear hE2 hag2 hrq
        go_wp2_with fail
        refine HD2.out.mono ?_
        rintro e w6 hd
        have HI6 := Lib.hid (HI5.out.actQ hd)
        obtain ⟨rfl, -, -⟩ := hd
        go_wp2_with fail
        go_roundw
        case rel => exact ⟨i + 1, LP', _, by go_num, by omega, HI6.out, HAG2.out⟩
        case measure => simp [intOf]; omega
      · have e1 : (rq == (r : Int)) = false := beq_eq_false_iff_ne.2 hrq
        have HAG2 := Lib.hid (HOT.out hrq)
        clear hrq
        go_wp2_with fail
        go_roundw
        case rel => exact ⟨i + 1, LP', LQ, by go_num, by omega, HI5.out, HAG2.out⟩
        case measure => simp [intOf]; omega
    · obtain rfl : i = n := by omega
      have t1 : decide ((i : Int) < (i : Int)) = false := decide_eq_false (by omega)
      have HS1 := Lib.hid (sum_ok HI.out.p.led HI.out.p.ok r)
      have hss : LQ.sum r = LP.sum r := by unfold Led.sum; rw [HAG.out.sums]
      have hll : LQ.left s = LP.left s := (HAG.out.left s HHS.out.1.req).symm
      have HSS := Lib.hid hss
      have HLL := Lib.hid hll
      clear hss hll
      go_wp2_with fail
      refine HS1.out.mono ?_
      rintro e w4 ⟨rfl, hb4⟩
      have HI4 := Lib.hid (HI.out.keep hb4)
      have HS2 := Lib.hid (sum_ok HI4.out.q.led HI4.out.q.ok r)
      rw [HSS.out] at HS2
      clear hb4
      go_wp2_with fail
      refine HS2.out.mono ?_
      rintro e w5 ⟨rfl, hb5⟩
      have HI5 := Lib.hid (HI4.out.keep hb5)
      clear hb5
      go_wp2_with fail
      refine (HNM.out _).mono ?_
      rintro e w6 ⟨rfl, hb6⟩
      have HI6 := Lib.hid (HI5.out.keep hb6)
      have HL1 := Lib.hid (left_any HI6.out.p.led s)
      have HL2 := Lib.hid (left_any HI6.out.q.led s)
      rw [HLL.out] at HL2
      clear hb6
      go_wp2_with fail
      refine HL1.out.mono ?_
      rintro e w' ⟨rfl, rfl⟩
      go_wp2_with fail
      refine HL2.out.mono ?_
      rintro e w' ⟨rfl, rfl⟩
      have HLV := Lib.hid (fun w => lives_any w)
      go_wp2_with fail
      refine (HLV.out _).mono ?_
      rintro e w10 ⟨rfl, hb10⟩
      have HB10 := Lib.hid (btrans HI6.out.p.below hb10)
      clear hb10
      go_wp2_with fail
      go_ret
      exact ⟨rfl, HB10.out⟩

end Go.Proofs.YtedoalpijbggiaaDoor
