/- CallNames: the walk. -/
import Derived.Test.YtkpjjhiighakfaaGreatDoorN2
import Derived.Test.YtkpjjhiighakfaaGreatDoorN7
import Derived.Test.YtkpjjhiighakfaaGreatDoorN8
import Derived.Test.YtkpjjhiighakfaaGreatDoorStr
namespace Go.Proofs.YtkpjjhiighakfaaGreatDoor
open Go.RowKit
attribute [local go_sem ↓] Go.wp_at_zero Go.wp_at_succ

set_option maxRecDepth 8000 in
set_option maxHeartbeats 4000000 in
theorem names_walk {w : World} {A A' A2 : Option Addr} {n n' n2 : Nat} {l p d : List Int} (h : ArgInts w A n l) (h' : ArgInts w A' n' p) (h2 : ArgInts w A2 n2 d) (cap cap' cap2 : Nat) (hL : MaxLenAt w) :
    Calls Tryz.prog 3 #[.slice A n cap, .slice A' n' cap', .slice A2 n2 cap2] w fun e w' => e = .returned (.bool true) ∧ Below w.heap.size w w' := by
  have HBG := Lib.hid (begunT_any h h' cap cap')
  have H2 := Lib.hid h2
  have HM := Lib.hid (fun w' (hb : Below w.heap.size w w') => hL.below hL.lt hb)
  clear h h' h2 hL
  go_enter Tryz.func3, Tryz.ntmps3
  go_wp2_with fail
  refine HBG.out.mono ?_
  rintro e w1 ⟨s, cb, mb, bb, hs3, rfl, hat, ⟨p1, p2, p3⟩, hb1⟩
  have hf := begun_facts l p s
  obtain ⟨x, hx⟩ : ∃ x, x = ctxOf l s := ⟨_, rfl⟩
  have hxc : x.call.size ≤ 3 := by rw [hx]; exact hs3
  have HXC := Lib.hid hxc
  clear hs3 hxc
  obtain ⟨y, hy⟩ : ∃ y, y = polOf p := ⟨_, rfl⟩
  have hxb := ctxOf_bd l s
  have hyb := polOf_bd p
  rw [← hx] at hxb hat hf ⊢
  rw [← hy] at hyb hat hf ⊢
  dsimp only [cxVal, polVal]
  have hlt := hat.call.lt
  have hlb := (Array.getElem?_eq_some_iff.1 hat.bk).1
  have HAT := Lib.hid hat
  have HB1 := Lib.hid hb1
  have HF := Lib.hid hf
  have HXB := Lib.hid hxb
  have HYB := Lib.hid hyb
  clear hx hy hxb hyb hat hb1 hf HBG
  go_wp2_with fail
  obtain ⟨W2, hW2⟩ : ∃ W2, W2 = (w1.alloc (.cells #[.int .i64 x.req, .string x.call, .int .i64 x.try_, .bool x.idem, .bool x.shadow, .int .i64 x.dl, .int .i64 x.purse, .int .i64 x.ver, .int .i64 x.prio] 25)).alloc (.cells #[.int .i64 y.tmo, .int .i64 y.tries, .int .i64 y.back, .int .i64 y.hedge, .int .i64 y.per, .int .i64 y.of, .int .i64 y.burst] 29) := ⟨_, rfl⟩
  rw [← hW2]
  have hb2 : Below w1.heap.size w1 W2 := by rw [hW2]; exact ((Below.refl _ _).alloc (Nat.le_refl _) _).alloc (by simp) _
  have k8 : W2.heap[w1.heap.size]? = some (.cells #[.int .i64 x.req, .string x.call, .int .i64 x.try_, .bool x.idem, .bool x.shadow, .int .i64 x.dl, .int .i64 x.purse, .int .i64 x.ver, .int .i64 x.prio] 25 (0, 0)) := by rw [hW2]; exact alloc_keep _ (heap_alloc_new _ _)
  have k9 : W2.heap[w1.heap.size + 1]? = some (.cells #[.int .i64 y.tmo, .int .i64 y.tries, .int .i64 y.back, .int .i64 y.hedge, .int .i64 y.per, .int .i64 y.of, .int .i64 y.burst] 29 (0, 0)) := by rw [hW2]; exact alloc_new' _ _ (by simp)
  have hz2 : w1.heap.size + 2 ≤ W2.heap.size := by rw [hW2]; simp
  obtain ⟨N, hN⟩ : ∃ N, N = w1.heap.size := ⟨_, rfl⟩
  have hN1 : cb < N ∧ mb < N ∧ bb < N := by omega
  have hN2 : N + 2 ≤ W2.heap.size := by omega
  have hN3 : w.heap.size ≤ N := by have := HB1.out.size; omega
  rw [← hN] at k8 k9 ⊢
  have hat2 := HAT.out.below hb2
  have HB2 := Lib.hid (btrans HB1.out hb2)
  have HC0 : Hid (Calls Tryz.prog 5 #[.pointer (some ⟨cb, 0, none⟩), .int .i64 0] W2 (Did W2 cb mb bb (newS x y).first (fullBk y) (newS x y).firstL)) := begin_any hat2 HF.out.1 HF.out.2.2.1 0 (by omega)
  have HK8 := Lib.hid k8
  have HK9 := Lib.hid k9
  clear hW2 hb2 hz2 hN hat2 k8 k9 hlt hlb
  refine HC0.out.mono ?_
  rintro e w3 ⟨v0, rfl, ⟨h1, ⟨s0, r1, q1⟩, f1⟩⟩
  have hz3 := f1.size
  have hb3 : Below w.heap.size w w3 := ((Fr.ofBelow (F := CFoot cb mb bb) HB2.out).trans f1 (fun _ h => .inl h)).toBelow fun k hk hc => by unfold CFoot at hc; omega
  have HST := Lib.hid (steps_any (H2.out.keep hb3) cap2)
  have HB3 := Lib.hid hb3
  have HAT3 := Lib.hid h1
  have HR1 := Lib.hid r1
  have HQ1 := Lib.hid q1
  have K8 := Lib.hid ((f1.block N (by omega) (by unfold CFoot; omega)).trans HK8.out)
  have K9 := Lib.hid ((f1.block (N + 1) (by omega) (by unfold CFoot; omega)).trans HK9.out)
  have hcl := h1.call.lt
  have hbl := (Array.getElem?_eq_some_iff.1 h1.bk).1
  clear h1 r1 q1 f1 hb3 HK8 HK9
  go_wp2_with fail
  refine HST.out.mono ?_
  rintro e w4 ⟨v1, sS, rfl, rS, qS, hb4⟩
  have hz4 := hb4.size
  have hinv : RInv w4 w4 cb mb bb s0 x y 0 v0 ⟨(newS x y).first, fullBk y, 0, (newS x y).firstL⟩ :=
    ⟨HAT3.out.below hb4, HF.out.1.act (HF.out.1.begin HF.out.2.2.1 (by omega)), HF.out.2.1, ⟨Int.le_refl _, by show (0 : Int) ≤ _; omega⟩, first_paid HF.out.1 HF.out.2.2.2.1 HF.out.2.2.2.2, ⟨s0, HR1.out.keep hb4, fun g hg => ⟨.inl hg, (HQ1.out g hg).2⟩⟩, Nat.le_trans (firstL_len HF.out.1) (by omega), Fr.refl _ _⟩
  have HINV := Lib.hid hinv
  have hM : stepsN d ≤ 24 := stepsN_le d
  obtain ⟨M, hMM⟩ : ∃ M, M = stepsN d := ⟨_, rfl⟩
  have hlen : (stepsOf d).length = M := by rw [hMM]; exact stepsTo_length _ _
  rw [← hMM] at hM rS
  have HLEN := Lib.hid hlen
  have HROW : Hid (∀ i t, (stepsOf d)[i]? = some t → ∃ g off cp, v1 = .slice (some ⟨g, off, none⟩) M cp ∧ ∀ W, Fr (fun k => CFoot cb mb bb k ∨ s0 = some k) w4 W → ∀ j u, (stCells t)[j]? = some u → W.cell? ⟨g, off + (i * 5 + j), none⟩ = some u) := by
    intro i t ht
    have hi := (List.getElem?_eq_some_iff.1 ht).1
    obtain ⟨g, off, cp, hv, hs, hc⟩ := row_rec rS (by omega)
    refine ⟨g, off, cp, hv, fun W hW j u hu => hc W (hW.block g (rS.lt g hs) ?_) (i * 5 + j) u ?_⟩
    · have hg := qS g hs
      rintro (h | h)
      · unfold CFoot at h; omega
      · have := HR1.out.lt g h; omega
    · unfold stsCells
      rw [flat_get stCells 5 (fun _ => rfl) _ i t ht j (List.getElem?_eq_some_iff.1 hu).1]
      exact hu
  obtain ⟨lS, cS, rfl⟩ := rS.form
  have HB4 := Lib.hid hb4
  clear hb4 hinv hMM hlen rS qS HST
  go_wp2_with fail
  go_loopw [10, 12, 13] (fun va vn vi wr => ∃ (i : Nat) (r : Rn), vn = .int .i64 r.now ∧ vi = .int .i64 i ∧ i ≤ M ∧ RInv w4 wr cb mb bb s0 x y i va r ∧ Hid (SameS x r.all)) (fun _ _ vi _ => (M - intOf vi).toNat)
  case atStart => exact ⟨0, _, rfl, rfl, Nat.zero_le _, HINV.out, first_sameS x y⟩
  case round =>
    obtain ⟨i, r, rfl, rfl, hi, hri, HSM⟩ := hrel
    obtain ⟨n0, n1⟩ := hri.now
    have HRI := Lib.hid hri
    by_cases hlt : i < M
    · obtain ⟨t, ht⟩ : ∃ t, (stepsOf d)[i]? = some t := ⟨_, List.getElem?_eq_getElem (by rw [HLEN.out]; exact hlt)⟩
      obtain ⟨g, off, cp, hv, hcell⟩ := HROW.out i t ht
      obtain ⟨rfl, rfl⟩ : lS = some ⟨g, off, none⟩ ∧ cS = cp := by injection hv with e1 _ e3; exact ⟨e1, e3⟩
      obtain ⟨⟨b0, b1⟩, hb2, _⟩ := steps_bd ht
      have c0 := hcell _ hri.fr 0 _ rfl
      have c1 := hcell _ hri.fr 1 _ rfl
      have c2 := hcell _ hri.fr 2 _ rfl
      have c3 := hcell _ hri.fr 3 _ rfl
      have c4 := hcell _ hri.fr 4 _ rfl
      rw [Nat.add_zero] at c0
      rw [← Nat.add_assoc] at c1 c2 c3 c4
      have i1 : (0 : Int) ≤ (i : Int) := by omega
      have i2 : (i : Int) < (M : Int) := by omega
      have HD := Lib.hid (does_any hri.at_ hri.ok hri.bok (r.now + t.wait) (by omega) t (by omega))
      have HTB := Lib.hid hb2
      have HSM2 : Hid (SameS x (r.step t).all) := by
        have h := do_sameS hri.ok (now := r.now + t.wait) (by omega) r.B t
        rw [hri.paid.c] at h
        exact HSM.out.append h
      unfold stVal at HD
      clear hri hv hcell ht hb2
      go_wp2_with fail
      refine HD.out.mono ?_
      rintro e w6 ⟨u, rfl, hg⟩
      obtain ⟨lu, cu, rfl⟩ := hg.row.choose_spec.1.form
      obtain ⟨v2, w7, happ, hnew⟩ := HRI.out.push (by omega) ⟨b0, b1⟩ HTB.out hg
      have HNEW := Lib.hid hnew
      clear hg hnew
      obtain ⟨la, lc, rfl⟩ := HRI.out.row.choose_spec.1.form
      go_wp2_with (at_builtin; refine wpList_run (by rfl) (exec_append _ _ _ _ (by rfl) _ _ (by rfl) (by rfl) happ) ?_)
      go_roundw
      case rel => exact ⟨i + 1, r.step t, rfl, by go_num, by omega, HNEW.out, HSM2.out⟩
      case measure => simp [intOf]; omega
    · obtain rfl : M = i := by omega
      obtain ⟨W9, hW9⟩ : ∃ W9, W9 = wr := ⟨_, rfl⟩
      subst hW9
      obtain ⟨L, hL⟩ : ∃ L, L = r.all := ⟨_, rfl⟩
      have hpaid := hri.paid
      rw [← hL] at hpaid HSM
      have h8 : sentOf L ≤ 8 := by have := hpaid.sent; have := hpaid.some; have := HYB.out; omega
      have HGOOD := Lib.hid hpaid.good
      have H8 := Lib.hid h8
      obtain ⟨sb, hrow, hsb⟩ := hri.row
      rw [← hL] at hrow
      obtain ⟨la, lc, rfl⟩ := hrow.form
      have hllen := hri.len
      rw [← hL] at hllen
      have HCELL : Hid (∀ W, Below W9.heap.size W9 W → ∀ k a, L[k]? = some a → ∃ g off, la = some ⟨g, off, none⟩ ∧ ∀ j u, (acCells a)[j]? = some u → W.cell? ⟨g, off + (k * 12 + j), none⟩ = some u) := by
        intro W hW k a hk
        obtain ⟨g, off, cp, hv, hs, hc⟩ := row_rec hrow (by have := (List.getElem?_eq_some_iff.1 hk).1; omega)
        injection hv with e1 e2 e3
        refine ⟨g, off, e1, fun j u hu => bkeep hW (hc W9 rfl _ u ?_)⟩
        unfold acsCells
        rw [flat_get acCells 12 (fun _ => rfl) _ k a hk j (List.getElem?_eq_some_iff.1 hu).1]
        exact hu
      have hbig : Below w.heap.size w W9 := ((Fr.ofBelow (F := fun k => CFoot cb mb bb k ∨ s0 = some k) (btrans HB3.out HB4.out)).trans hri.fr (fun _ h => .inl h)).toBelow fun k hk hc => by
        rcases hc with hc | hc
        · unfold CFoot at hc; omega
        · have := (HQ1.out k hc).1; omega
      have HBIG := Lib.hid hbig
      have j8 := (hri.fr.block N (by omega) (by rintro (h | h); · unfold CFoot at h; omega
                                                · have := (HQ1.out N h).1; omega)).trans ((HB4.out.block N (by omega)).trans K8.out)
      have J8 : Hid (∀ W, Below W9.heap.size W9 W → W.heap[N]? = some (.cells #[.int .i64 x.req, .string x.call, .int .i64 x.try_, .bool x.idem, .bool x.shadow, .int .i64 x.dl, .int .i64 x.purse, .int .i64 x.ver, .int .i64 x.prio] 25 (0, 0))) := fun W hW => (hW.block _ (Array.getElem?_eq_some_iff.1 j8).1).trans j8
      obtain ⟨m, hm⟩ : ∃ m, m = L.length := ⟨_, rfl⟩
      rw [← hm]
      have HMM := Lib.hid hm
      rw [← hm] at hllen
      have HNM0 : Hid (NmInv W9 W9 (namesOf (L.take 0)) (.slice none 0 0)) := ⟨⟨none, RowAt.nil _ _ _, fun g hg => by cases hg⟩, Below.refl _ _⟩
      have HXK := Lib.hid (fun W hL => key_any x (by have := HXC.out; omega) W hL)
      obtain ⟨ky, hky⟩ : ∃ ky, ky = keyOf x.call := ⟨_, rfl⟩
      rw [← hky] at HXK
      dsimp only [cxV, cxCells] at HXK
      have HKY := Lib.hid hky
      clear hri HRI hL hrow hsb hbig j8 hpaid hm h8 hky HINV HLEN HROW
      go_wp2_with fail
      go_loopw [14, 15] (fun va vi wz => ∃ (k : Nat), vi = .int .i64 k ∧ k ≤ m ∧ NmInv W9 wz (namesOf (L.take k)) va) (fun _ vi _ => (m - intOf vi).toNat)
      case atStart => exact ⟨0, rfl, Nat.zero_le _, HNM0.out⟩
      case round =>
        obtain ⟨k, rfl, hk, hnm⟩ := hrel
        have hbz := hnm.below
        by_cases hkm : k < m
        · obtain ⟨a, ha⟩ : ∃ a, L[k]? = some a := ⟨_, List.getElem?_eq_getElem (by rw [← HMM.out]; exact hkm)⟩
          obtain ⟨g, off, rfl, _⟩ := HCELL.out W9 (Below.refl _ _) k a ha
          have HCA : Hid (∀ W, Below W9.heap.size W9 W → ∀ j u, (acCells a)[j]? = some u → W.cell? ⟨g, off + (k * 12 + j), none⟩ = some u) := by
            intro W hW
            obtain ⟨g', off', e1, hc⟩ := HCELL.out W hW k a ha
            cases e1
            exact hc
          have hcell := HCA.out _ hbz
          have c0 := hcell 0 _ rfl
          have c2 := hcell 2 _ rfl
          have c3 := hcell 3 _ rfl
          have c4 := hcell 4 _ rfl
          have c5 := hcell 5 _ rfl
          have c6 := hcell 6 _ rfl
          have c7 := hcell 7 _ rfl
          have c8 := hcell 8 _ rfl
          have c9 := hcell 9 _ rfl
          have c10 := hcell 10 _ rfl
          rw [Nat.add_zero] at c0
          rw [← Nat.add_assoc] at c2 c3 c4 c5 c6 c7 c8 c9 c10
          have i1 : (0 : Int) ≤ (k : Int) := by omega
          have i2 : (k : Int) < (m : Int) := by omega
          have hmore := names_more ha
          obtain ⟨ln, lcn, rfl⟩ := hnm.row.choose_spec.1.form
          obtain ⟨nn, hnn⟩ : ∃ nn, nn = (namesOf (L.take k)).length := ⟨_, rfl⟩
          rw [← hnn] at hnm ⊢
          have HNN := Lib.hid hnn
          have HNM := Lib.hid hnm
          have HBZ := Lib.hid hbz
          have hnl : (namesOf (L.take k)).length ≤ k := by
            unfold namesOf
            rw [List.length_map]
            exact Nat.le_trans (List.length_filter_le _ _) (List.length_take_le _ _)
          rw [← hnn] at hnl
          have HNL := Lib.hid hnl
          clear hcell hnl hbz hnm hnn
          by_cases hw : a.what = 1
          · have b1 : (a.what == 1) = true := beq_iff_eq.2 hw
            obtain ⟨⟨g4, g5⟩, hnew⟩ := names_new HGOOD.out HSM.out H8.out ha hw
            obtain ⟨s1, s2, s3, s4⟩ := HSM.out a (List.mem_of_getElem? ha) hw
            have b2 : (a.c.req != x.req) = false := by rw [s2]; simp
            have b3 : (a.c.dl != x.dl) = false := by rw [s3]; simp
            have b4 : (a.c.ver != x.ver) = false := by rw [s4]; simp
            have HSP := Lib.hid (fun W => span_any a.c (by rw [s1]; have := HXC.out; omega) (by omega) W)
            have HAK := Lib.hid (fun W hL => key_any a.c (by rw [s1]; have := HXC.out; omega) W hL)
            have hky : keyOf a.c.call = ky := by rw [s1, HKY.out]
            rw [hky] at HAK
            rw [if_pos hw] at hmore
            obtain ⟨sp, hsp⟩ : ∃ sp, sp = a.c.span := ⟨_, rfl⟩
            rw [← hsp] at HSP hnew hmore
            dsimp only [cxV, cxCells] at HSP HAK
            have HNEW := Lib.hid hnew
            have HMORE := Lib.hid hmore
            clear hw g4 g5 s1 s2 s3 s4 ha hsp hky hnew hmore
            have k0 : ((ky.toList == ky.toList)) = true := beq_self_eq_true _
            go_wp2_with fail
            refine (HSP.out _).mono ?_
            rintro e w5 ⟨rfl, hb5⟩
            have hbw5 := btrans HBZ.out hb5
            have HNM5 := Lib.hid (HNM.out.keep hb5)
            have HHT : Hid (∀ W, Below w5.heap.size w5 W → Calls Tryz.prog 10 #[.slice ln nn lcn, .string sp] W fun e w' => e = .returned (.bool false) ∧ w' = W) := fun W hW => by
              obtain ⟨sbn, hrn, _⟩ := (HNM5.out.keep hW).row
              rw [← HNN.out] at hrn
              exact hasText_none hrn HNN.out.symm sp HNEW.out (by have := HNL.out; omega)
            have HSX : Hid (∀ w', Below W9.heap.size W9 w' → (w'.heap[N]? = some (.cells #[.int .i64 x.req, .string x.call, .int .i64 x.try_, .bool x.idem, .bool x.shadow, .int .i64 x.dl, .int .i64 x.purse, .int .i64 x.ver, .int .i64 x.prio] 25 (0, 0)) ∧ w'.cell? ⟨N, 0, none⟩ = some (.int .i64 x.req) ∧ w'.cell? ⟨N, 5, none⟩ = some (.int .i64 x.dl) ∧ w'.cell? ⟨N, 7, none⟩ = some (.int .i64 x.ver) ∧ w'.cell? ⟨g, off + k * 12 + 2, none⟩ = some (.int .i64 a.c.req) ∧ w'.cell? ⟨g, off + k * 12 + 3, none⟩ = some (.string a.c.call) ∧ w'.cell? ⟨g, off + k * 12 + 4, none⟩ = some (.int .i64 a.c.try_) ∧ w'.cell? ⟨g, off + k * 12 + 5, none⟩ = some (.bool a.c.idem) ∧ w'.cell? ⟨g, off + k * 12 + 6, none⟩ = some (.bool a.c.shadow) ∧ w'.cell? ⟨g, off + k * 12 + 7, none⟩ = some (.int .i64 a.c.dl) ∧ w'.cell? ⟨g, off + k * 12 + 8, none⟩ = some (.int .i64 a.c.purse) ∧ w'.cell? ⟨g, off + k * 12 + 9, none⟩ = some (.int .i64 a.c.ver) ∧ w'.cell? ⟨g, off + k * 12 + 10, none⟩ = some (.int .i64 a.c.prio))) := fun w' hb => by
              have hcell := HCA.out _ hb
              have d2 := hcell 2 _ rfl
              have d3 := hcell 3 _ rfl
              have d4 := hcell 4 _ rfl
              have d5 := hcell 5 _ rfl
              have d6 := hcell 6 _ rfl
              have d7 := hcell 7 _ rfl
              have d8 := hcell 8 _ rfl
              have d9 := hcell 9 _ rfl
              have d10 := hcell 10 _ rfl
              rw [← Nat.add_assoc] at d2 d3 d4 d5 d6 d7 d8 d9 d10
              have j8 := J8.out _ hb
              exact ⟨j8, block_cell j8 0 _ rfl, block_cell j8 5 _ rfl, block_cell j8 7 _ rfl, d2, d3, d4, d5, d6, d7, d8, d9, d10⟩
            clear hb5 c0 c2 c3 c4 c5 c6 c7 c8 c9 c10
            go_wp2_with fail
            refine wp_region_held_drew (S := fun w' => w'.heap[N]? = some (.cells #[.int .i64 x.req, .string x.call, .int .i64 x.try_, .bool x.idem, .bool x.shadow, .int .i64 x.dl, .int .i64 x.purse, .int .i64 x.ver, .int .i64 x.prio] 25 (0, 0)) ∧ w'.cell? ⟨N, 0, none⟩ = some (.int .i64 x.req) ∧ w'.cell? ⟨N, 5, none⟩ = some (.int .i64 x.dl) ∧ w'.cell? ⟨N, 7, none⟩ = some (.int .i64 x.ver) ∧ w'.cell? ⟨g, off + k * 12 + 2, none⟩ = some (.int .i64 a.c.req) ∧ w'.cell? ⟨g, off + k * 12 + 3, none⟩ = some (.string a.c.call) ∧ w'.cell? ⟨g, off + k * 12 + 4, none⟩ = some (.int .i64 a.c.try_) ∧ w'.cell? ⟨g, off + k * 12 + 5, none⟩ = some (.bool a.c.idem) ∧ w'.cell? ⟨g, off + k * 12 + 6, none⟩ = some (.bool a.c.shadow) ∧ w'.cell? ⟨g, off + k * 12 + 7, none⟩ = some (.int .i64 a.c.dl) ∧ w'.cell? ⟨g, off + k * 12 + 8, none⟩ = some (.int .i64 a.c.purse) ∧ w'.cell? ⟨g, off + k * 12 + 9, none⟩ = some (.int .i64 a.c.ver) ∧ w'.cell? ⟨g, off + k * 12 + 10, none⟩ = some (.int .i64 a.c.prio)) (by kernel_rfl) (HSX.out _ hbw5.drew) (fun hHeld => ?_)
            refine wpAnyH_take (i := 0) (v := ?_) rfl (by kernel_rfl) (by kernel_rfl) (by kernel_rfl) (fun _ _ _ h => h) (Or.inl ⟨by kernel_rfl, ?_⟩) (by assumption) ?_
            rotate_left
            · (intro w hSw; (try dsimp only at hSw); go_simp; (try rw [if_neg (by (try simp only [ByteArray.size_append]); omega)]); (try with_reducible rfl))
            try simp only [Act.put]
            refine wpAnyH_take (i := 1) (v := ?_) rfl (by kernel_rfl) (by kernel_rfl) (by kernel_rfl) (fun _ _ _ h => h) (Or.inl ⟨by kernel_rfl, ?_⟩) (by assumption) ?_
            rotate_left
            · (intro w hSw; (try dsimp only at hSw); go_simp; (try rw [if_neg (by (try simp only [ByteArray.size_append]); omega)]); (try with_reducible rfl))
            try simp only [Act.put]
            refine wpAnyH_take (i := 2) (v := ?_) rfl (by kernel_rfl) (by kernel_rfl) (by kernel_rfl) (fun _ _ _ h => h) (Or.inl ⟨by kernel_rfl, ?_⟩) (by assumption) ?_
            rotate_left
            · (intro w hSw; (try dsimp only at hSw); go_simp; (try rw [if_neg (by (try simp only [ByteArray.size_append]); omega)]); (try with_reducible rfl))
            try simp only [Act.put]
            refine wpAnyH_take (i := 3) (v := ?_) rfl (by kernel_rfl) (by kernel_rfl) (by kernel_rfl) (fun _ _ _ h => h) (Or.inl ⟨by kernel_rfl, ?_⟩) (by assumption) ?_
            rotate_left
            · (intro w hSw; (try dsimp only at hSw); go_simp; (try rw [if_neg (by (try simp only [ByteArray.size_append]); omega)]); (try with_reducible rfl))
            try simp only [Act.put]
            refine wpAnyH_take (i := 4) (v := ?_) rfl (by kernel_rfl) (by kernel_rfl) (by kernel_rfl) (fun _ _ _ h => h) (Or.inl ⟨by kernel_rfl, ?_⟩) (by assumption) ?_
            rotate_left
            · (intro w hSw; (try dsimp only at hSw); go_simp; (try rw [if_neg (by (try simp only [ByteArray.size_append]); omega)]); (try with_reducible rfl))
            try simp only [Act.put]
            refine wpAnyH_take (i := 6) (v := ?_) rfl (by kernel_rfl) (by kernel_rfl) (by kernel_rfl) (fun _ _ _ h => h) (Or.inl ⟨by kernel_rfl, ?_⟩) (by assumption) ?_
            rotate_left
            · (intro wS hSw; refine (exec_load_row 25 _ rfl _ (by kernel_rfl) _ _ _ _ (hSw.1) Tryz.underlying25 rfl (by kernel_rfl)).trans ?_; with_reducible rfl)
            try simp only [Act.put]
            refine wpAnyH_ready (rs := [5]) (by kernel_rfl) (by simp) ?_
            refine AllReadyH.cons rfl (fun K hK => ?_) AllReadyH.nil
            go_simp
            refine (HAK.out _ (HM.out _ (btrans HBIG.out hbw5.drew))).mono ?_
            rintro e w6 ⟨rfl, hb⟩
            replace hb := bdrew hb
            have hbw6 := btrans (Below.refl w5.heap.size w5) hb
            refine hK.out _ _ (HSX.out _ (btrans hbw5 hbw6)) (fun hHeld => ?_)
            clear hK K hb
            try simp only [Act.put]
            refine wpAnyH_ready (rs := [7]) (by kernel_rfl) (by simp) ?_
            refine AllReadyH.cons rfl (fun K hK => ?_) AllReadyH.nil
            go_simp
            refine (HXK.out _ (HM.out _ (btrans HBIG.out (btrans hbw5 hbw6)))).mono ?_
            rintro e w7 ⟨rfl, hb⟩
            have hbw7 := btrans hbw6 hb
            refine hK.out _ _ (HSX.out _ (btrans hbw5 hbw7)) (fun hHeld => ?_)
            clear hK K hb
            try simp only [Act.put]
            refine wpAnyH_take (i := 8) (v := ?_) rfl (by kernel_rfl) (by kernel_rfl) (by kernel_rfl) (fun _ _ _ h => h) (Or.inl ⟨by kernel_rfl, ?_⟩) (by assumption) ?_
            rotate_left
            · (intro w hSw; (try dsimp only at hSw); go_simp; (try rw [if_neg (by (try simp only [ByteArray.size_append]); omega)]); (try with_reducible rfl))
            try simp only [Act.put]
            refine wpAnyH_take (i := 9) (v := ?_) rfl (by kernel_rfl) (by kernel_rfl) (by kernel_rfl) (fun _ _ _ h => h) (Or.inl ⟨by kernel_rfl, ?_⟩) (by assumption) ?_
            rotate_left
            · (intro w hSw; (try dsimp only at hSw); go_simp; (try rw [if_neg (by (try simp only [ByteArray.size_append]); omega)]); (try with_reducible rfl))
            try simp only [Act.put]
            refine wpAnyH_take (i := 10) (v := ?_) rfl (by kernel_rfl) (by kernel_rfl) (by kernel_rfl) (fun _ _ _ h => h) (Or.inl ⟨by kernel_rfl, ?_⟩) (by assumption) ?_
            rotate_left
            · (intro w hSw; (try dsimp only at hSw); go_simp; (try rw [if_neg (by (try simp only [ByteArray.size_append]); omega)]); (try with_reducible rfl))
            try simp only [Act.put]
            refine wpAnyH_take (i := 11) (v := ?_) rfl (by kernel_rfl) (by kernel_rfl) (by kernel_rfl) (fun _ _ _ h => h) (Or.inl ⟨by kernel_rfl, ?_⟩) (by assumption) ?_
            rotate_left
            · (intro w hSw; (try dsimp only at hSw); go_simp; (try rw [if_neg (by (try simp only [ByteArray.size_append]); omega)]); (try with_reducible rfl))
            try simp only [Act.put]
            refine wpAnyH_ready (rs := [12]) (by kernel_rfl) (by simp) ?_
            refine AllReadyH.cons rfl (fun K hK => ?_) AllReadyH.nil
            go_simp
            refine (HHT.out _ hbw7).mono ?_
            rintro e wq ⟨rfl, rfl⟩
            refine hK.out _ _ hHeld (fun hHeld => ?_)
            clear hK K
            try simp only [Act.put]
            refine wpAnyH_take (i := 13) (v := ?_) rfl (by kernel_rfl) (by kernel_rfl) (by kernel_rfl) (fun _ _ _ h => h) (Or.inl ⟨by kernel_rfl, ?_⟩) (by assumption) ?_
            rotate_left
            · (intro w hSw; (try dsimp only at hSw); go_simp; (try rw [if_neg (by (try simp only [ByteArray.size_append]); omega)]); (try with_reducible rfl))
            try simp only [Act.put]
            refine wpAnyH_take (i := 14) (v := ?_) rfl (by kernel_rfl) (by kernel_rfl) (by kernel_rfl) (fun _ _ _ h => h) (Or.inl ⟨by kernel_rfl, ?_⟩) (by assumption) ?_
            rotate_left
            · (intro w hSw; (try dsimp only at hSw); go_simp; (try rw [if_neg (by (try simp only [ByteArray.size_append]); omega)]); (try with_reducible rfl))
            try simp only [Act.put]
            refine wpAnyH_take (i := 15) (v := ?_) rfl (by kernel_rfl) (by kernel_rfl) (by kernel_rfl) (fun _ _ _ h => h) (Or.inl ⟨by kernel_rfl, ?_⟩) (by assumption) ?_
            rotate_left
            · (intro w hSw; (try dsimp only at hSw); go_simp; (try rw [if_neg (by (try simp only [ByteArray.size_append]); omega)]); (try with_reducible rfl))
            try simp only [Act.put]
            refine wpAnyH_take (i := 16) (v := ?_) rfl (by kernel_rfl) (by kernel_rfl) (by kernel_rfl) (fun _ _ _ h => h) (Or.inl ⟨by kernel_rfl, ?_⟩) (by assumption) ?_
            rotate_left
            · (intro w hSw; (try dsimp only at hSw); go_simp; (try rw [if_neg (by (try simp only [ByteArray.size_append]); omega)]); (try with_reducible rfl))
            try simp only [Act.put]
            refine wpAnyH_take (i := 17) (v := ?_) rfl (by kernel_rfl) (by kernel_rfl) (by kernel_rfl) (fun _ _ _ h => h) (Or.inl ⟨by kernel_rfl, ?_⟩) (by assumption) ?_
            rotate_left
            · (intro w hSw; (try dsimp only at hSw); go_simp; (try rw [if_neg (by (try simp only [ByteArray.size_append]); omega)]); (try with_reducible rfl))
            try simp only [Act.put]
            refine wpAnyH_take (i := 18) (v := ?_) rfl (by kernel_rfl) (by kernel_rfl) (by kernel_rfl) (fun _ _ _ h => h) (Or.inl ⟨by kernel_rfl, ?_⟩) (by assumption) ?_
            rotate_left
            · (intro w hSw; (try dsimp only at hSw); go_simp; (try rw [if_neg (by (try simp only [ByteArray.size_append]); omega)]); (try with_reducible rfl))
            try simp only [Act.put]
            refine wpAnyH_take (i := 19) (v := ?_) rfl (by kernel_rfl) (by kernel_rfl) (by kernel_rfl) (fun _ _ _ h => h) (Or.inl ⟨by kernel_rfl, ?_⟩) (by assumption) ?_
            rotate_left
            · (intro w hSw; (try dsimp only at hSw); go_simp; (try rw [if_neg (by (try simp only [ByteArray.size_append]); omega)]); (try with_reducible rfl))
            try simp only [Act.put]
            refine wpAnyH_take (i := 20) (v := ?_) rfl (by kernel_rfl) (by kernel_rfl) (by kernel_rfl) (fun _ _ _ h => h) (Or.inl ⟨by kernel_rfl, ?_⟩) (by assumption) ?_
            rotate_left
            · (intro w hSw; (try dsimp only at hSw); go_simp; (try rw [if_neg (by (try simp only [ByteArray.size_append]); omega)]); (try with_reducible rfl))
            try simp only [Act.put]
            refine wpAnyH_take (i := 21) (v := ?_) rfl (by kernel_rfl) (by kernel_rfl) (by kernel_rfl) (fun _ _ _ h => h) (Or.inl ⟨by kernel_rfl, ?_⟩) (by assumption) ?_
            rotate_left
            · (intro w hSw; (try dsimp only at hSw); go_simp; (try rw [if_neg (by (try simp only [ByteArray.size_append]); omega)]); (try with_reducible rfl))
            try simp only [Act.put]
            refine wpAnyH_take (i := 22) (v := ?_) rfl (by kernel_rfl) (by kernel_rfl) (by kernel_rfl) (fun _ _ _ h => h) (Or.inl ⟨by kernel_rfl, ?_⟩) (by assumption) ?_
            rotate_left
            · (intro w hSw; (try dsimp only at hSw); go_simp; (try rw [if_neg (by (try simp only [ByteArray.size_append]); omega)]); (try with_reducible rfl))
            try simp only [Act.put]
            refine wpAnyH_take (i := 23) (v := ?_) rfl (by kernel_rfl) (by kernel_rfl) (by kernel_rfl) (fun _ _ _ h => h) (Or.inl ⟨by kernel_rfl, ?_⟩) (by assumption) ?_
            rotate_left
            · (intro w hSw; (try dsimp only at hSw); go_simp; (try rw [if_neg (by (try simp only [ByteArray.size_append]); omega)]); (try with_reducible rfl))
            try simp only [Act.put]
            refine wpAnyH_take (i := 24) (v := ?_) rfl (by kernel_rfl) (by kernel_rfl) (by kernel_rfl) (fun _ _ _ h => h) (Or.inl ⟨by kernel_rfl, ?_⟩) (by assumption) ?_
            rotate_left
            · (intro w hSw; (try dsimp only at hSw); go_simp; (try rw [if_neg (by (try simp only [ByteArray.size_append]); omega)]); (try with_reducible rfl))
            try simp only [Act.put]
            refine wpAnyH_take (i := 25) (v := ?_) rfl (by kernel_rfl) (by kernel_rfl) (by kernel_rfl) (fun _ _ _ h => h) (Or.inl ⟨by kernel_rfl, ?_⟩) (by assumption) ?_
            rotate_left
            · (intro w hSw; (try dsimp only at hSw); go_simp; (try rw [if_neg (by (try simp only [ByteArray.size_append]); omega)]); (try with_reducible rfl))
            try simp only [Act.put]
            refine wpAnyH_take (i := 26) (v := ?_) rfl (by kernel_rfl) (by kernel_rfl) (by kernel_rfl) (fun _ _ _ h => h) (Or.inl ⟨by kernel_rfl, ?_⟩) (by assumption) ?_
            rotate_left
            · (intro w hSw; (try dsimp only at hSw); go_simp; (try rw [if_neg (by (try simp only [ByteArray.size_append]); omega)]); (try with_reducible rfl))
            try simp only [Act.put]
            refine wpAnyH_take (i := 27) (v := ?_) rfl (by kernel_rfl) (by kernel_rfl) (by kernel_rfl) (fun _ _ _ h => h) (Or.inl ⟨by kernel_rfl, ?_⟩) (by assumption) ?_
            rotate_left
            · (intro w hSw; (try dsimp only at hSw); go_simp; (try rw [if_neg (by (try simp only [ByteArray.size_append]); omega)]); (try with_reducible rfl))
            try simp only [Act.put]
            refine wpAnyH_take (i := 28) (v := ?_) rfl (by kernel_rfl) (by kernel_rfl) (by kernel_rfl) (fun _ _ _ h => h) (Or.inl ⟨by kernel_rfl, ?_⟩) (by assumption) ?_
            rotate_left
            · (intro w hSw; (try dsimp only at hSw); go_simp; (try rw [if_neg (by (try simp only [ByteArray.size_append]); omega)]); (try with_reducible rfl))
            try simp only [Act.put]
            refine wpAnyH_take (i := 29) (v := ?_) rfl (by kernel_rfl) (by kernel_rfl) (by kernel_rfl) (fun _ _ _ h => h) (Or.inl ⟨by kernel_rfl, ?_⟩) (by assumption) ?_
            rotate_left
            · (intro w hSw; (try dsimp only at hSw); go_simp; (try rw [if_neg (by (try simp only [ByteArray.size_append]); omega)]); (try with_reducible rfl))
            try simp only [Act.put]
            refine wpAnyH_take (i := 30) (v := ?_) rfl (by kernel_rfl) (by kernel_rfl) (by kernel_rfl) (fun _ _ _ h => h) (Or.inl ⟨by kernel_rfl, ?_⟩) (by assumption) ?_
            rotate_left
            · (intro w hSw; (try dsimp only at hSw); go_simp; (try rw [if_neg (by (try simp only [ByteArray.size_append]); omega)]); (try with_reducible rfl))
            try simp only [Act.put]
            refine wpAnyH_take (i := 31) (v := ?_) rfl (by kernel_rfl) (by kernel_rfl) (by kernel_rfl) (fun _ _ _ h => h) (Or.inl ⟨by kernel_rfl, ?_⟩) (by assumption) ?_
            rotate_left
            · (intro w hSw; (try dsimp only at hSw); go_simp; (try rw [if_neg (by (try simp only [ByteArray.size_append]); omega)]); (try with_reducible rfl))
            try simp only [Act.put]
            refine wpAnyH_take (i := 32) (v := ?_) rfl (by kernel_rfl) (by kernel_rfl) (by kernel_rfl) (fun _ _ _ h => h) (Or.inl ⟨by kernel_rfl, ?_⟩) (by assumption) ?_
            rotate_left
            · (intro w hSw; (try dsimp only at hSw); go_simp; (try rw [if_neg (by (try simp only [ByteArray.size_append]); omega)]); (try with_reducible rfl))
            try simp only [Act.put]
            refine wpAnyH_take (i := 33) (v := ?_) rfl (by kernel_rfl) (by kernel_rfl) (by kernel_rfl) (fun _ _ _ h => h) (Or.inl ⟨by kernel_rfl, ?_⟩) (by assumption) ?_
            rotate_left
            · (intro w hSw; (try dsimp only at hSw); go_simp; (try rw [if_neg (by (try simp only [ByteArray.size_append]); omega)]); (try with_reducible rfl))
            try simp only [Act.put]
            refine wpAnyH_take (i := 34) (v := ?_) rfl (by kernel_rfl) (by kernel_rfl) (by kernel_rfl) (fun _ _ _ h => h) (Or.inl ⟨by kernel_rfl, ?_⟩) (by assumption) ?_
            rotate_left
            · (intro w hSw; (try dsimp only at hSw); go_simp; (try rw [if_neg (by (try simp only [ByteArray.size_append]); omega)]); (try with_reducible rfl))
            try simp only [Act.put]
            refine wpAnyH_take (i := 35) (v := ?_) rfl (by kernel_rfl) (by kernel_rfl) (by kernel_rfl) (fun _ _ _ h => h) (Or.inl ⟨by kernel_rfl, ?_⟩) (by assumption) ?_
            rotate_left
            · (intro w hSw; (try dsimp only at hSw); go_simp; (try rw [if_neg (by (try simp only [ByteArray.size_append]); omega)]); (try with_reducible rfl))
            try simp only [Act.put]
            refine wpAnyH_take (i := 36) (v := ?_) rfl (by kernel_rfl) (by kernel_rfl) (by kernel_rfl) (fun _ _ _ h => h) (Or.inl ⟨by kernel_rfl, ?_⟩) (by assumption) ?_
            rotate_left
            · (intro w hSw; (try dsimp only at hSw); go_simp; (try rw [if_neg (by (try simp only [ByteArray.size_append]); omega)]); (try with_reducible rfl))
            try simp only [Act.put]
            refine wpAnyH_take (i := 37) (v := ?_) rfl (by kernel_rfl) (by kernel_rfl) (by kernel_rfl) (fun _ _ _ h => h) (Or.inl ⟨by kernel_rfl, ?_⟩) (by assumption) ?_
            rotate_left
            · (intro w hSw; (try dsimp only at hSw); go_simp; (try rw [if_neg (by (try simp only [ByteArray.size_append]); omega)]); (try with_reducible rfl))
            try simp only [Act.put]
            refine wpAnyH_take (i := 38) (v := ?_) rfl (by kernel_rfl) (by kernel_rfl) (by kernel_rfl) (fun _ _ _ h => h) (Or.inl ⟨by kernel_rfl, ?_⟩) (by assumption) ?_
            rotate_left
            · (intro w hSw; (try dsimp only at hSw); go_simp; (try rw [if_neg (by (try simp only [ByteArray.size_append]); omega)]); (try with_reducible rfl))
            try simp only [Act.put]
            refine wpAnyH_take (i := 39) (v := ?_) rfl (by kernel_rfl) (by kernel_rfl) (by kernel_rfl) (fun _ _ _ h => h) (Or.inl ⟨by kernel_rfl, ?_⟩) (by assumption) ?_
            rotate_left
            · (intro w hSw; (try dsimp only at hSw); go_simp; (try rw [if_neg (by (try simp only [ByteArray.size_append]); omega)]); (try with_reducible rfl))
            try simp only [Act.put]
            refine wpAnyH_take (i := 40) (v := ?_) rfl (by kernel_rfl) (by kernel_rfl) (by kernel_rfl) (fun _ _ _ h => h) (Or.inl ⟨by kernel_rfl, ?_⟩) (by assumption) ?_
            rotate_left
            · (intro w hSw; (try dsimp only at hSw); go_simp; (try rw [if_neg (by (try simp only [ByteArray.size_append]); omega)]); (try with_reducible rfl))
            try simp only [Act.put]
            refine wpAnyH_take (i := 41) (v := ?_) rfl (by kernel_rfl) (by kernel_rfl) (by kernel_rfl) (fun _ _ _ h => h) (Or.inl ⟨by kernel_rfl, ?_⟩) (by assumption) ?_
            rotate_left
            · (intro w hSw; (try dsimp only at hSw); go_simp; (try rw [if_neg (by (try simp only [ByteArray.size_append]); omega)]); (try with_reducible rfl))
            try simp only [Act.put]
            refine wpAnyH_take (i := 42) (v := ?_) rfl (by kernel_rfl) (by kernel_rfl) (by kernel_rfl) (fun _ _ _ h => h) (Or.inl ⟨by kernel_rfl, ?_⟩) (by assumption) ?_
            rotate_left
            · (intro w hSw; (try dsimp only at hSw); go_simp; (try rw [if_neg (by (try simp only [ByteArray.size_append]); omega)]); (try with_reducible rfl))
            try simp only [Act.put]
            refine wpAnyH_take (i := 43) (v := ?_) rfl (by kernel_rfl) (by kernel_rfl) (by kernel_rfl) (fun _ _ _ h => h) (Or.inl ⟨by kernel_rfl, ?_⟩) (by assumption) ?_
            rotate_left
            · (intro w hSw; (try dsimp only at hSw); go_simp; (try rw [if_neg (by (try simp only [ByteArray.size_append]); omega)]); (try with_reducible rfl))
            try simp only [Act.put]
            refine wpAnyH_take (i := 44) (v := ?_) rfl (by kernel_rfl) (by kernel_rfl) (by kernel_rfl) (fun _ _ _ h => h) (Or.inl ⟨by kernel_rfl, ?_⟩) (by assumption) ?_
            rotate_left
            · (intro w hSw; (try dsimp only at hSw); go_simp; (try rw [if_neg (by (try simp only [ByteArray.size_append]); omega)]); (try with_reducible rfl))
            try simp only [Act.put]
            refine wpAnyH_take (i := 45) (v := ?_) rfl (by kernel_rfl) (by kernel_rfl) (by kernel_rfl) (fun _ _ _ h => h) (Or.inl ⟨by kernel_rfl, ?_⟩) (by assumption) ?_
            rotate_left
            · (intro w hSw; (try dsimp only at hSw); go_simp; (try rw [if_neg (by (try simp only [ByteArray.size_append]); omega)]); (try with_reducible rfl))
            try simp only [Act.put]
            refine wpAnyH_take (i := 46) (v := ?_) rfl (by kernel_rfl) (by kernel_rfl) (by kernel_rfl) (fun _ _ _ h => h) (Or.inl ⟨by kernel_rfl, ?_⟩) (by assumption) ?_
            rotate_left
            · (intro w hSw; (try dsimp only at hSw); go_simp; (try rw [if_neg (by (try simp only [ByteArray.size_append]); omega)]); (try with_reducible rfl))
            try simp only [Act.put]
            refine wpAnyH_done (by kernel_rfl) ?_ _
            try simp only [Act.put]
            clear hHeld HSX
            go_simp
            have HNM7 := Lib.hid (HNM5.out.keep hbw7)
            obtain ⟨la2, lc2, w9, happ, hnm9⟩ := HNM7.out.push (by exact HNN.out) (by have := HNL.out; omega) sp
            have HNM9 := Lib.hid hnm9
            clear hbw6 hbw7 hbw5 hnm9
            go_wp2_with (at_builtin; refine wpList_run (by rfl) (exec_append _ _ _ _ (by rfl) _ _ (by rfl) (by rfl) happ) ?_)
            go_roundw
            case rel => exact ⟨k + 1, by go_num, by omega, by rw [HMORE.out]; exact HNM9.out⟩
            case measure => simp [intOf]; omega
          · have b1 : (a.what == 1) = false := beq_eq_false_iff_ne.2 hw
            rw [if_neg hw, List.append_nil] at hmore
            have HMORE := Lib.hid hmore
            clear hw ha hmore
            go_wp2_with fail
            go_roundw
            case rel => exact ⟨k + 1, by go_num, by omega, by rw [HMORE.out]; exact HNM.out⟩
            case measure => simp [intOf]; omega
        · obtain rfl : m = k := by omega
          go_wp2_with fail
          refine (lives_any _).mono ?_
          rintro e wl ⟨rfl, hl⟩
          have HF := Lib.hid (btrans (btrans HBIG.out hbz) hl)
          clear hl
          go_wp2_with fail
          go_ret
          exact ⟨rfl, HF.out⟩

end Go.Proofs.YtkpjjhiighakfaaGreatDoor
