/- The walk of CallSpends. -/
import Derived.Test.YtipmajcefcfnlaaB28
namespace Go.Proofs.Ytipmajcefcfnlaa
open Go.RowKit
attribute [local go_sem ↓] Go.wp_at_zero Go.wp_at_succ

/-- A call that was begun at tick 0. -/
theorem begun_facts (l p : List Int) (s : ByteArray) : (newS (ctxOf l s) (polOf p)).Ok ∧ (fullBk (polOf p)).Ok ∧ (newS (ctxOf l s) (polOf p)).made < 8 ∧ 1 ≤ (ctxOf l s).dl ∧ 1 ≤ (polOf p).tries := by
  have h1 := polOf_bd p
  have h2 := ctxOf_bd l s
  have hm : 0 ≤ (polOf p).burst * (polOf p).of ∧ (polOf p).burst * (polOf p).of ≤ 1000000 := by
    obtain ⟨a, ha⟩ : ∃ a : Nat, (polOf p).of = a := ⟨(polOf p).of.toNat, by omega⟩
    obtain ⟨b, hb⟩ : ∃ b : Nat, (polOf p).burst = b := ⟨(polOf p).burst.toNat, by omega⟩
    rw [ha, hb]
    have : b * a ≤ 1000 * 1000 := Nat.mul_le_mul (by omega) (by omega)
    exact ⟨by rw [← Int.natCast_mul]; omega, by rw [← Int.natCast_mul]; omega⟩
  exact ⟨newS_ok (by omega) (by omega) (by omega) (by omega) (by omega) (by omega), ⟨by show 1 ≤ (polOf p).of ∧ (polOf p).of ≤ _; omega, by show 0 ≤ (polOf p).per ∧ (polOf p).per ≤ _; omega, ⟨hm.1, Int.le_refl _⟩, hm.2⟩, by show (0 : Int) < 8; omega, by omega, by omega⟩

/-- Behind Begin, at tick 0. -/
def CS.first (S : CS) : CS := actS S (S.beginS 0)
def CS.firstL (S : CS) : List Ac := actL S (S.beginS 0) (S.beginL 0)
theorem first_made {x : Cx} {y : Pol} (h : 1 ≤ x.dl) : (newS x y).first.made = 1 := by
  unfold CS.first actS
  rw [if_neg (by show ¬ false = true; decide), (fin_same _).2.2.1]
  unfold CS.beginS
  rw [if_neg (by show ¬ x.dl ≤ 0; omega)]
  rfl
theorem first_paid {x : Cx} {y : Pol} (hok : (newS x y).Ok) (h : 1 ≤ x.dl) (ht : 1 ≤ y.tries) : Paid x y (newS x y).first (newS x y).firstL :=
  paid_first (begin_spent hok (by show (0 : Int) + 1 ≤ y.tries; omega)).act (first_made h)
theorem firstL_len {x : Cx} {y : Pol} (hok : (newS x y).Ok) : (newS x y).firstL.length ≤ 100 :=
  Nat.le_trans (actL_len (n := 1) (hok.begin (by show (0 : Int) < 8; omega) (by omega)) (by unfold CS.beginL; split <;> simp)) (by omega)

set_option maxRecDepth 8000 in
set_option maxHeartbeats 2000000 in
theorem spends_walk {w : World} {A A' A2 : Option Addr} {n n' n2 : Nat} {l p d : List Int} (h : ArgInts w A n l) (h' : ArgInts w A' n' p) (h2 : ArgInts w A2 n2 d) (cap cap' cap2 : Nat) :
    Calls Try.prog 4 #[.slice A n cap, .slice A' n' cap', .slice A2 n2 cap2] w fun e w' => e = .returned (.bool true) ∧ Below w.heap.size w w' := by
  have HBG := Lib.hid (begun_any h h' cap cap')
  have H2 := Lib.hid h2
  clear h h' h2
  go_enter Try.func4, Try.ntmps4
  go_wp2_with fail
  refine HBG.out.mono ?_
  rintro e w1 ⟨s, cb, mb, bb, rfl, hat, ⟨p1, p2, p3⟩, hb1⟩
  have hf := begun_facts l p s
  obtain ⟨x, hx⟩ : ∃ x, x = ctxOf l s := ⟨_, rfl⟩
  obtain ⟨y, hy⟩ : ∃ y, y = polOf p := ⟨_, rfl⟩
  have hxb := ctxOf_bd l s
  have hyb := polOf_bd p
  rw [← hx] at hxb hat hf ⊢
  rw [← hy] at hyb hat hf ⊢
  dsimp only [cxVal, polVal]
  have hlt := hat.call.lt
  have hlb := (Array.getElem?_eq_some_iff.1 hat.bk).1
  have HAT := Lib.hid hat
  have HB1 := Lib.hid hb1
  have HF := Lib.hid hf
  have HXB := Lib.hid hxb
  have HYB := Lib.hid hyb
  clear hx hy hxb hyb hat hb1 hf HBG
  go_wp2_with fail
  obtain ⟨W2, hW2⟩ : ∃ W2, W2 = (w1.alloc (.cells #[.int .i64 x.req, .string x.call, .int .i64 x.try_, .bool x.idem, .bool x.shadow, .int .i64 x.dl, .int .i64 x.purse, .int .i64 x.ver, .int .i64 x.prio] 25)).alloc (.cells #[.int .i64 y.tmo, .int .i64 y.tries, .int .i64 y.back, .int .i64 y.hedge, .int .i64 y.per, .int .i64 y.of, .int .i64 y.burst] 29) := ⟨_, rfl⟩
  rw [← hW2]
  have hb2 : Below w1.heap.size w1 W2 := by rw [hW2]; exact ((Below.refl _ _).alloc (Nat.le_refl _) _).alloc (by simp) _
  have k8 : W2.heap[w1.heap.size]? = some (.cells #[.int .i64 x.req, .string x.call, .int .i64 x.try_, .bool x.idem, .bool x.shadow, .int .i64 x.dl, .int .i64 x.purse, .int .i64 x.ver, .int .i64 x.prio] 25 (0, 0)) := by rw [hW2]; exact alloc_keep _ (heap_alloc_new _ _)
  have k9 : W2.heap[w1.heap.size + 1]? = some (.cells #[.int .i64 y.tmo, .int .i64 y.tries, .int .i64 y.back, .int .i64 y.hedge, .int .i64 y.per, .int .i64 y.of, .int .i64 y.burst] 29 (0, 0)) := by rw [hW2]; exact alloc_new' _ _ (by simp)
  have hz2 : w1.heap.size + 2 ≤ W2.heap.size := by rw [hW2]; simp
  obtain ⟨N, hN⟩ : ∃ N, N = w1.heap.size := ⟨_, rfl⟩
  have hN1 : cb < N ∧ mb < N ∧ bb < N := by omega
  have hN2 : N + 2 ≤ W2.heap.size := by omega
  have hN3 : w.heap.size ≤ N := by have := HB1.out.size; omega
  rw [← hN] at k8 k9 ⊢
  have hat2 := HAT.out.below hb2
  have HB2 := Lib.hid (btrans HB1.out hb2)
  have HC0 : Hid (Calls Try.prog 11 #[.pointer (some ⟨cb, 0, none⟩), .int .i64 0] W2 (Did W2 cb mb bb (newS x y).first (fullBk y) (newS x y).firstL)) := begin_any hat2 HF.out.1 HF.out.2.2.1 0 (by omega)
  have HK8 := Lib.hid k8
  have HK9 := Lib.hid k9
  clear hW2 hb2 hz2 hN hat2 k8 k9 hlt hlb
  refine HC0.out.mono ?_
  rintro e w3 ⟨v0, rfl, ⟨h1, ⟨s0, r1, q1⟩, f1⟩⟩
  have hz3 := f1.size
  have hb3 : Below w.heap.size w w3 := ((Fr.ofBelow (F := CFoot cb mb bb) HB2.out).trans f1 (fun _ h => .inl h)).toBelow fun k hk hc => by unfold CFoot at hc; omega
  have HST := Lib.hid (steps_any (H2.out.keep hb3) cap2)
  have HB3 := Lib.hid hb3
  have HAT3 := Lib.hid h1
  have HR1 := Lib.hid r1
  have HQ1 := Lib.hid q1
  have K8 := Lib.hid ((f1.block N (by omega) (by unfold CFoot; omega)).trans HK8.out)
  have K9 := Lib.hid ((f1.block (N + 1) (by omega) (by unfold CFoot; omega)).trans HK9.out)
  have hcl := h1.call.lt
  have hbl := (Array.getElem?_eq_some_iff.1 h1.bk).1
  clear h1 r1 q1 f1 hb3 HK8 HK9
  go_wp2_with fail
  refine HST.out.mono ?_
  rintro e w4 ⟨v1, sS, rfl, rS, qS, hb4⟩
  have hz4 := hb4.size
  have hinv : RInv w4 w4 cb mb bb s0 x y 0 v0 ⟨(newS x y).first, fullBk y, 0, (newS x y).firstL⟩ :=
    ⟨HAT3.out.below hb4, HF.out.1.act (HF.out.1.begin HF.out.2.2.1 (by omega)), HF.out.2.1, ⟨Int.le_refl _, by show (0 : Int) ≤ _; omega⟩, first_paid HF.out.1 HF.out.2.2.2.1 HF.out.2.2.2.2, ⟨s0, HR1.out.keep hb4, fun g hg => ⟨.inl hg, (HQ1.out g hg).2⟩⟩, Nat.le_trans (firstL_len HF.out.1) (by omega), Fr.refl _ _⟩
  have HINV := Lib.hid hinv
  have hM : stepsN d ≤ 24 := stepsN_le d
  obtain ⟨M, hMM⟩ : ∃ M, M = stepsN d := ⟨_, rfl⟩
  have hlen : (stepsOf d).length = M := by rw [hMM]; exact stepsTo_length _ _
  rw [← hMM] at hM rS
  have HLEN := Lib.hid hlen
  have HROW : Hid (∀ i t, (stepsOf d)[i]? = some t → ∃ g off cp, v1 = .slice (some ⟨g, off, none⟩) M cp ∧ ∀ W, Fr (fun k => CFoot cb mb bb k ∨ s0 = some k) w4 W → ∀ j u, (stCells t)[j]? = some u → W.cell? ⟨g, off + (i * 5 + j), none⟩ = some u) := by
    intro i t ht
    have hi := (List.getElem?_eq_some_iff.1 ht).1
    obtain ⟨g, off, cp, hv, hs, hc⟩ := row_rec rS (by omega)
    refine ⟨g, off, cp, hv, fun W hW j u hu => hc W (hW.block g (rS.lt g hs) ?_) (i * 5 + j) u ?_⟩
    · have hg := qS g hs
      rintro (h | h)
      · unfold CFoot at h; omega
      · have := HR1.out.lt g h; omega
    · unfold stsCells
      rw [flat_get stCells 5 (fun _ => rfl) _ i t ht j (List.getElem?_eq_some_iff.1 hu).1]
      exact hu
  obtain ⟨lS, cS, rfl⟩ := rS.form
  have HB4 := Lib.hid hb4
  clear hb4 hinv hMM hlen rS qS HST
  go_wp2_with fail
  go_loopw [10, 12, 13] (fun va vn vi wr => ∃ (i : Nat) (r : Rn), vn = .int .i64 r.now ∧ vi = .int .i64 i ∧ i ≤ M ∧ RInv w4 wr cb mb bb s0 x y i va r) (fun _ _ vi _ => (M - intOf vi).toNat)
  case atStart => exact ⟨0, _, rfl, rfl, Nat.zero_le _, HINV.out⟩
  case round =>
    obtain ⟨i, r, rfl, rfl, hi, hri⟩ := hrel
    obtain ⟨n0, n1⟩ := hri.now
    have HRI := Lib.hid hri
    by_cases hlt : i < M
    · obtain ⟨t, ht⟩ : ∃ t, (stepsOf d)[i]? = some t := ⟨_, List.getElem?_eq_getElem (by rw [HLEN.out]; exact hlt)⟩
      obtain ⟨g, off, cp, hv, hcell⟩ := HROW.out i t ht
      obtain ⟨rfl, rfl⟩ : lS = some ⟨g, off, none⟩ ∧ cS = cp := by injection hv with e1 _ e3; exact ⟨e1, e3⟩
      obtain ⟨⟨b0, b1⟩, hb2, _⟩ := steps_bd ht
      have c0 := hcell _ hri.fr 0 _ rfl
      have c1 := hcell _ hri.fr 1 _ rfl
      have c2 := hcell _ hri.fr 2 _ rfl
      have c3 := hcell _ hri.fr 3 _ rfl
      have c4 := hcell _ hri.fr 4 _ rfl
      rw [Nat.add_zero] at c0
      rw [← Nat.add_assoc] at c1 c2 c3 c4
      have i1 : (0 : Int) ≤ (i : Int) := by omega
      have i2 : (i : Int) < (M : Int) := by omega
      have HD := Lib.hid (does_any hri.at_ hri.ok hri.bok (r.now + t.wait) (by omega) t (by omega))
      have HTB := Lib.hid hb2
      unfold stVal at HD
      clear hri hv hcell ht hb2
      go_wp2_with fail
      refine HD.out.mono ?_
      rintro e w6 ⟨u, rfl, hg⟩
      obtain ⟨lu, cu, rfl⟩ := hg.row.choose_spec.1.form
      obtain ⟨v2, w7, happ, hnew⟩ := HRI.out.push (by omega) ⟨b0, b1⟩ HTB.out hg
      have HNEW := Lib.hid hnew
      clear hg hnew
      obtain ⟨la, lc, rfl⟩ := HRI.out.row.choose_spec.1.form
      go_wp2_with (at_builtin; refine wpList_run (by rfl) (exec_append _ _ _ _ (by rfl) _ _ (by rfl) (by rfl) happ) ?_)
      go_roundw
      case rel => exact ⟨i + 1, r.step t, rfl, by go_num, by omega, HNEW.out⟩
      case measure => simp [intOf]; omega
    · obtain rfl : M = i := by omega
      obtain ⟨L, hL⟩ : ∃ L, L = r.all := ⟨_, rfl⟩
      have hpaid := hri.paid
      have hl0 := hri.ok.left.1
      obtain ⟨S1, hS1⟩ : ∃ S1, S1 = r.S := ⟨_, rfl⟩
      rw [← hL, ← hS1] at hpaid
      rw [← hS1] at hl0
      obtain ⟨sb, hrow, hsb⟩ := hri.row
      rw [← hL] at hrow
      obtain ⟨la, lc, rfl⟩ := hrow.form
      have hcall := hri.at_.call
      rw [← hS1] at hcall
      have hllen := hri.len
      rw [← hL] at hllen
      have HCELL : Hid (∀ k a, L[k]? = some a → ∃ g off, la = some ⟨g, off, none⟩ ∧ ∀ j u, (acCells a)[j]? = some u → wr.cell? ⟨g, off + (k * 12 + j), none⟩ = some u) := by
        intro k a hk
        obtain ⟨g, off, cp, hv, hs, hc⟩ := row_rec hrow (by have := (List.getElem?_eq_some_iff.1 hk).1; omega)
        injection hv with e1 e2 e3
        refine ⟨g, off, e1, fun j u hu => hc wr rfl _ u ?_⟩
        unfold acsCells
        rw [flat_get acCells 12 (fun _ => rfl) _ k a hk j (List.getElem?_eq_some_iff.1 hu).1]
        exact hu
      have hbig : Below w.heap.size w wr := ((Fr.ofBelow (F := fun k => CFoot cb mb bb k ∨ s0 = some k) (btrans HB3.out HB4.out)).trans hri.fr (fun _ h => .inl h)).toBelow fun k hk hc => by
        rcases hc with hc | hc
        · unfold CFoot at hc; omega
        · have := (HQ1.out k hc).1; omega
      have HBIG := Lib.hid hbig
      have j8 := (hri.fr.block N (by omega) (by rintro (h | h); · unfold CFoot at h; omega
                                                · have := (HQ1.out N h).1; omega)).trans ((HB4.out.block N (by omega)).trans K8.out)
      have j9 := (hri.fr.block (N + 1) (by omega) (by rintro (h | h); · unfold CFoot at h; omega
                                                      · have := (HQ1.out (N + 1) h).1; omega)).trans ((HB4.out.block (N + 1) (by omega)).trans K9.out)
      have k86 := block_cell j8 6 (.int .i64 x.purse) rfl
      have k91 := block_cell j9 1 (.int .i64 y.tries) rfl
      have HP := Lib.hid hpaid
      have HCALL := Lib.hid hcall
      obtain ⟨m, hm⟩ : ∃ m, m = L.length := ⟨_, rfl⟩
      rw [← hm]
      have HM := Lib.hid hm
      rw [← hm] at hllen
      clear hri HRI hL hS1 hrow hsb hcall hbig j8 j9 hpaid hm
      go_wp2_with fail
      go_loop [14, 15, 16] (fun va vs vi => ∃ (k : Nat) (u z : Int), va = .int .i64 u ∧ vs = .int .i64 z ∧ vi = .int .i64 k ∧ Hid (u = alongOf (L.take k)) ∧ Hid (z = (sentOf (L.take k) : Int)) ∧ k ≤ m) (fun _ _ vi => (m - intOf vi).toNat)
      case atStart => exact ⟨0, 0, 0, rfl, rfl, rfl, rfl, rfl, Nat.zero_le _⟩
      case round =>
        obtain ⟨k, u, z, rfl, rfl, rfl, hu, hz, hk⟩ := hrel
        have hub := along_take HP.out.good k
        have hzb := sent_take L k
        have hpall := HP.out.all
        have hpsent := HP.out.sent
        have hpsome := HP.out.some
        have hu0 : 0 ≤ u := by rw [hu.out]; exact hub.1
        have hu1 : u ≤ 10 := by rw [hu.out]; have := HXB.out; omega
        have hz0 : 0 ≤ z := by rw [hz.out]; omega
        have hz1 : z ≤ 8 := by rw [hz.out]; have := HYB.out; omega
        clear hub hzb hpall hpsent hpsome
        by_cases hkm : k < m
        · obtain ⟨a, ha⟩ : ∃ a, L[k]? = some a := ⟨_, List.getElem?_eq_getElem (by rw [← HM.out]; exact hkm)⟩
          obtain ⟨g, off, rfl, hcell⟩ := HCELL.out k a ha
          obtain ⟨t1, t2⟩ := take_at ha
          have c0 := hcell 0 _ rfl
          have c8 := hcell 8 _ rfl
          have c4 := hcell 4 _ rfl
          rw [Nat.add_zero] at c0
          rw [← Nat.add_assoc] at c8 c4
          have i1 : (0 : Int) ≤ (k : Int) := by omega
          have i2 : (k : Int) < (m : Int) := by omega
          by_cases hw : a.what = 1
          · have b1 : (a.what == 1) = true := beq_iff_eq.2 hw
            obtain ⟨g0, g4⟩ := HP.out.good _ _ _ t2 hw
            have hle : a.c.purse ≤ 10 := by
              have h1 := along_take HP.out.good (k + 1)
              rw [t1, alongOf_append, alongOf_cons, if_pos hw] at h1
              have h2 : alongOf ([] : List Ac) = 0 := rfl
              have h3 := HP.out.all
              have h4 := HP.out.some
              have h5 := HXB.out
              have h6 := hu.out
              omega
            have b2 : decide (a.c.purse < 0) = false := decide_eq_false (by omega)
            have b3 : (a.c.try_ != z + 1) = false := by rw [g4, hz.out]; simp
            have hu' : Hid (u + a.c.purse = alongOf (L.take (k + 1))) := by
              unfold Hid; rw [t1, alongOf_append, alongOf_cons, if_pos hw, ← hu.out]; show _ = u + (a.c.purse + 0); omega
            have hz' : Hid (z + 1 = (sentOf (L.take (k + 1)) : Int)) := by
              unfold Hid; rw [t1, sentOf_append, sentOf_cons, if_pos hw]; have := hz.out; show _ = ((sentOf (L.take k) + (1 + 0) : Nat) : Int); omega
            clear hw g4 t1 t2 ha hcell
            go_wp2_with fail
            go_round
            case rel => exact ⟨k + 1, _, _, rfl, rfl, by go_num, hu', hz', by omega⟩
            case measure => simp [intOf]; omega
          · have b1 : (a.what == 1) = false := beq_eq_false_iff_ne.2 hw
            have hu' : Hid (u = alongOf (L.take (k + 1))) := by
              unfold Hid; rw [t1, alongOf_append, alongOf_cons, if_neg hw, ← hu.out]; show _ = u + (0 + 0); omega
            have hz' : Hid (z = (sentOf (L.take (k + 1)) : Int)) := by
              unfold Hid; rw [t1, sentOf_append, sentOf_cons, if_neg hw]; have := hz.out; show _ = ((sentOf (L.take k) + (0 + 0) : Nat) : Int); omega
            clear hw t1 t2 ha hcell
            go_wp2_with fail
            go_round
            case rel => exact ⟨k + 1, _, _, rfl, rfl, by go_num, hu', hz', by omega⟩
            case measure => simp [intOf]; omega
        · obtain rfl : m = k := by omega
          have e1 : L.take m = L := List.take_of_length_le (by rw [HM.out]; exact Nat.le_refl _)
          have hall := HP.out.all
          have hsent := HP.out.sent
          have hsome := HP.out.some
          rw [e1] at hu hz
          have HZ : Hid (z = S1.made) := hz.out.trans hsent
          have HU : Hid (u = x.purse + 1 - S1.left - S1.made) := by have := hu.out; show u = _; omega
          have b1 : (z != S1.made) = false := by rw [HZ.out]; simp
          have b2 : decide (z < 1) = false := decide_eq_false (by have := HZ.out; omega)
          have b3 : decide (y.tries < z) = false := decide_eq_false (by have := HZ.out; omega)
          have b4 : decide (1 + x.purse < z) = false := decide_eq_false (by have := HZ.out; have := HU.out; omega)
          have HTR := Lib.hid (tries_any HCALL.out)
          have hxp : 0 ≤ x.purse ∧ x.purse ≤ 10 := by have := HXB.out; omega
          obtain ⟨x0, x1⟩ := hxp
          have HS := Lib.hid hsome
          clear hall hsent hsome e1
          go_wp2_with fail
          refine HTR.out.mono ?_
          rintro e w' ⟨rfl, rfl⟩
          go_wp2_with fail
          obtain ⟨q, hq⟩ : ∃ q, q = S1.left := ⟨_, rfl⟩
          have HPU : Hid (∀ W, Below w'.heap.size w' W → Calls Try.prog 17 #[.pointer (some ⟨cb, 0, none⟩)] W fun e w' => e = .returned (.int .i64 q) ∧ w' = W) := by
            rw [hq]; exact fun W hW => cpurse_any (HCALL.out.below hW)
          have q0 : 0 ≤ q := by rw [hq]; exact hl0
          have q1 : q ≤ 10 := by have := HU.out; have := HZ.out; have := HS.out; omega
          have b5 : decide (0 ≤ q) = true := decide_eq_true q0
          have b6 : (q + u + z - 1 == x.purse) = true := beq_iff_eq.2 (by have := HU.out; have := HZ.out; omega)
          have g1 : IntKind.i64.wrap (q + u) = q + u := IntWalk.i64_in _ (by omega)
          have g2 : IntKind.i64.wrap (q + u + z) = q + u + z := IntWalk.i64_in _ (by omega)
          have g3 : IntKind.i64.wrap (q + u + z - 1) = q + u + z - 1 := IntWalk.i64_in _ (by omega)
          clear hq
          go_region_held3 (fun W => W.cell? ⟨N, 6, none⟩ = some (.int .i64 x.purse)) (first | go_keep | exact bkeep (bdrew (by assumption)) k86) ((first | (go_at_call 17; refine (HPU.out _ (by exact (Below.refl _ _).drew)).mono ?_; rintro e w' ⟨rfl, rfl⟩) | (go_at_call 15; refine (lives_any _).mono ?_; rintro e w' ⟨rfl, hlv⟩)))
          go_wp2_with fail
          go_ret
          exact ⟨rfl, btrans HBIG.out (bdrew hlv)⟩

end Go.Proofs.Ytipmajcefcfnlaa
