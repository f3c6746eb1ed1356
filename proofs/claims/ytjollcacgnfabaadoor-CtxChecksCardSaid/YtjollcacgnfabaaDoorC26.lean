/- The document's Call: the walk. -/
import Derived.Test.YtjollcacgnfabaaDoorC25
namespace Go.Proofs.YtjollcacgnfabaaDoor
open Go.RowKit
attribute [local go_sem ↓] Go.wp_at_zero Go.wp_at_succ

theorem scanB_nonneg : ∀ (l : List UInt8) (n : Int) (k : Nat), 0 ≤ n → 0 ≤ (scanB l n k).1
  | [], _, _, h => h
  | x :: t, n, k, h => by
    rw [scanB]
    split
    · rename_i hd
      have := (isDig_iff x).1 hd
      refine scanB_nonneg t _ (k + 1) ?_
      split <;> omega
    · exact h
theorem empty_of {t : ByteArray} (h : ¬ 0 < t.size) : t = ⟨#[]⟩ := by
  obtain ⟨⟨l⟩⟩ := t
  cases l with
  | nil => rfl
  | cons a l => exact absurd (by show 0 < (a :: l).length; simp) h
theorem toList_full {t : ByteArray} (h : 0 < t.size) : t.toList.isEmpty = false := by
  rw [Lib.toList_data]
  cases e : t.data.toList with
  | nil => have := Lib.size_eq t; rw [e, List.length_nil] at this; omega
  | cons _ _ => rfl
theorem toList_void {t : ByteArray} (h : ¬ 0 < t.size) : t.toList.isEmpty = true := by
  rw [empty_of h, Lib.toList_data]
  rfl

theorem call_start (s : ByteArray) : (decK s = 0 → reqV s = 0) ∧ (decK s ≠ 0 → decK s = numTo s 0 ∧ (reqGo s s.size (numTo s 0) = true → reqV s = decV s) ∧ (reqGo s s.size (numTo s 0) = false → reqV s = 0)) ∧ decK s ≤ s.size := by
  obtain ⟨h1, h2, h3⟩ := dec_at (s := s) (u := s) (b := 0) (by rw [List.drop_zero])
  refine ⟨fun h => ?_, fun h => ?_, h3⟩
  · unfold reqV reqOk
    rw [(h1 h).2]
    rfl
  · obtain ⟨_, e1, e2, e3, e4⟩ := h2 h
    refine ⟨by omega, fun hg => ?_, fun hg => ?_⟩
    · by_cases hv : decV s < 1
      · have hn : 0 ≤ decV s := by rw [e2]; exact scanB_nonneg _ 0 0 (Int.le_refl _)
        unfold reqV reqOk
        rw [e3 hv]
        show (0 : Int) = decV s
        omega
      · obtain ⟨p1, p2⟩ := e4 hv
        unfold reqV reqOk
        rw [p1, hg, p2]
        rfl
    · unfold reqV reqOk
      rw [hg, Bool.and_false]
      rfl

set_option maxRecDepth 8000 in
set_option maxHeartbeats 4000000 in
theorem rcall_any (s : ByteArray) (hs : s.size ≤ 1000000) (w : World) :
    Calls Tryd.prog 42 #[.string s] w fun e w' => e = .returned (.int .i64 (reqV s)) ∧ w' = w := by
  have HD0 := Lib.hid (fun w => decimal_any s hs w)
  obtain ⟨c1, c2, c3⟩ := call_start s
  have hv0 : decK s ≠ 0 → CallInv s (s.extract (decK s) s.size) (numTo s 0) s.size (reqGo s s.size (numTo s 0)) := fun h => by
    have hr : Rest s s 0 := ⟨by rw [List.drop_zero], Nat.zero_le _⟩
    have hc := hr.cut (decK s) c3
    rw [show 0 + decK s = numTo s 0 by rw [← (c2 h).1]; omega] at hc
    exact ⟨hc, by omega, rfl⟩
  obtain ⟨rv, hrv⟩ : ∃ rv, rv = reqV s := ⟨_, rfl⟩
  obtain ⟨G, hG⟩ : ∃ G, G = reqGo s s.size (numTo s 0) := ⟨_, rfl⟩
  rw [← hG] at hv0 c2
  rw [← hrv] at c1 c2 ⊢
  obtain ⟨K0, hK⟩ : ∃ K0, K0 = decK s := ⟨_, rfl⟩
  obtain ⟨V0, hV⟩ : ∃ V0, V0 = decV s := ⟨_, rfl⟩
  rw [← hK, ← hV] at HD0
  rw [← hK] at c1 c2 c3 hv0
  rw [← hV] at c2
  have HC2 := Lib.hid c2
  have HST := Lib.hid hv0
  have HC1 := Lib.hid c1
  clear c1 c2 hv0 hrv hG hK hV
  by_cases h0 : K0 = 0
  · have HR := Lib.hid (HC1.out h0)
    subst h0
    go_enter Tryd.func42, Tryd.ntmps42
    go_wp2_with fail
    refine (HD0.out _).mono ?_
    rintro e w1 ⟨rfl, rfl⟩
    go_wp2_with fail
    go_ret
    rw [HR.out]
    exact ⟨rfl, rfl⟩
  · have h0' : ((K0 : Int) == 0) = false := beq_eq_false_iff_ne.2 (by omega)
    have HGT := Lib.hid (HC2.out h0).2.1
    have HGF := Lib.hid (HC2.out h0).2.2
    have HS := Lib.hid (HST.out h0)
    have i0 : (0 : Int) ≤ (K0 : Int) := by omega
    have i1 : (K0 : Int) ≤ (s.size : Int) := by omega
    clear HC1 HC2 HST
    go_enter Tryd.func42, Tryd.ntmps42
    go_wp2_with fail
    refine (HD0.out _).mono ?_
    rintro e w1 ⟨rfl, rfl⟩
    go_wp2_with fail
    go_loopw [5] (fun v wr => ∃ (t : ByteArray) (a k : Nat), v = .string t ∧ CallInv s t a k G ∧ wr = w1) (fun v _ => strSize v)
    case atStart => exact ⟨_, _, _, rfl, HS.out, rfl⟩
    case round =>
      obtain ⟨t, a, k, rfl, hinv, rfl⟩ := hrel
      have HI := Lib.hid hinv
      by_cases ht : 0 < t.size
      · have hne := toList_full ht
        obtain ⟨x, hx⟩ : ∃ x, t[0]'ht = x := ⟨_, rfl⟩
        have hts : t.size ≤ 1000000 := by have := hinv.rest.size; omega
        have q0 : (0 : Int) < (t.size : Int) := by omega
        have q1 : (1 : Int) ≤ (t.size : Int) := by omega
        by_cases h126 : x = 126
        · obtain ⟨k', hn⟩ := hinv.tilde ht (hx.trans h126)
          have HN := Lib.hid hn
          have t1 : ((x.toNat : Int) == 126) = true := by rw [h126]; rfl
          have hsz := Lib.hid (show (t.extract 1 t.size).size = t.size - 1 by rw [ByteArray.size_extract]; omega)
          clear hinv hn h126
          go_wp2_with fail
          go_roundw
          case rel => exact ⟨_, _, _, rfl, HN.out, trivial⟩
          case measure => simp only [strSize, hsz.out]; omega
        have t1 : ((x.toNat : Int) == 126) = false := beq_eq_false_iff_ne.2 (fun e => h126 (UInt8.toNat_inj.1 (by show x.toNat = 126; omega)))
        have HBAD := Lib.hid (hinv.bad ht hx h126)
        have H126 : Hid (x ≠ 126) := h126
        clear h126
        by_cases h58 : x = 58
        · have t2 : ((x.toNat : Int) == 58) = true := by rw [h58]; rfl
          have t2' : ((x.toNat : Int) != 58) = false := by show (!((x.toNat : Int) == 58)) = false; rw [t2]; rfl
          have H58 : Hid (x = 58) := h58
          have hr1 := hinv.rest.cut 1 (by omega)
          have hu1 : (t.extract 1 t.size).size = t.size - 1 := by rw [ByteArray.size_extract]; omega
          have HDU := Lib.hid (fun w => decimal_any (t.extract 1 t.size) (by omega) w)
          obtain ⟨d1, d2, d3⟩ := dec_at hr1.data
          obtain ⟨j1, hj1⟩ : ∃ j1, j1 = decK (t.extract 1 t.size) := ⟨_, rfl⟩
          obtain ⟨n1, hn1⟩ : ∃ n1, n1 = decV (t.extract 1 t.size) := ⟨_, rfl⟩
          rw [← hj1, ← hn1] at HDU
          rw [← hj1] at d1 d2 d3
          rw [← hn1] at d2
          have D1 := Lib.hid d1
          have D2 := Lib.hid d2
          rw [hu1] at d3
          clear d1 d2 hj1 hn1 h58 hr1 hu1
          by_cases hj0 : j1 = 0
          · have HR := Lib.hid (HGF.out (HBAD.out (.inr (.inl (D1.out hj0).2))))
            subst hj0
            clear hinv
            go_wp2_with fail
            refine (HDU.out _).mono ?_
            rintro e w2 ⟨rfl, rfl⟩
            go_wp2_with fail
            go_ret
            rw [HR.out]
            exact ⟨rfl, rfl⟩
          have hj0' : ((j1 : Int) == 0) = false := beq_eq_false_iff_ne.2 (by omega)
          obtain ⟨_, e1, e2, e3, e4⟩ := D2.out hj0
          by_cases hn : n1 < 1
          · have HR := Lib.hid (HGF.out (HBAD.out (.inr (.inl (e3 hn)))))
            clear hinv e1 e2 e3 e4
            go_wp2_with fail
            refine (HDU.out _).mono ?_
            rintro e w2 ⟨rfl, rfl⟩
            go_wp2_with fail
            go_ret
            rw [HR.out]
            exact ⟨rfl, rfl⟩
          have E4 := Lib.hid (e4 hn).1
          have hr2 := hinv.rest.cut (1 + j1) (by omega)
          rw [show a + (1 + j1) = numTo s (a + 1) by omega] at hr2
          have q3 : (0 : Int) ≤ 1 + (j1 : Int) := by omega
          have q4 : 1 + (j1 : Int) ≤ (t.size : Int) := by omega
          have q5 : (1 + (j1 : Int)).toNat = 1 + j1 := by omega
          have g1 : IntKind.i64.wrap (1 + (j1 : Int)) = 1 + (j1 : Int) := IntWalk.i64_in _ (by omega)
          have HR2 := Lib.hid hr2
          have E1 := Lib.hid e1
          clear e1 e2 e3 e4 hr2
          obtain ⟨t2, ht2⟩ : ∃ t2, t2 = t.extract (1 + j1) t.size := ⟨_, rfl⟩
          rw [← ht2] at HR2
          have ht2' : t.extract (1 + j1) t.size = t2 := ht2.symm
          have hz2 : t2.size + 1 ≤ t.size := by rw [ht2, ByteArray.size_extract]; omega
          clear ht2
          by_cases h20 : 0 < t2.size
          · have hne2 := toList_full h20
            obtain ⟨y, hy⟩ : ∃ y, t2[0]'h20 = y := ⟨_, rfl⟩
            have hsg : sgn s (numTo s (a + 1)) 47 = (y == 47) := by
              obtain ⟨r, hr⟩ := HR2.out.byte h20 hy
              exact sgn_at hr 47
            have HSG := Lib.hid hsg
            have q6 : (0 : Int) < (t2.size : Int) := by omega
            have q7 : (1 : Int) ≤ (t2.size : Int) := by omega
            clear hsg
            by_cases h47 : y = 47
            · have t3 : ((y.toNat : Int) == 47) = true := by rw [h47]; rfl
              have t3' : ((y.toNat : Int) != 47) = false := by show (!((y.toNat : Int) == 47)) = false; rw [t3]; rfl
              have HS47 : Hid (sgn s (numTo s (a + 1)) 47 = true) := HSG.out.trans (by rw [h47]; rfl)
              have hr3 := HR2.out.cut 1 (by omega)
              have hu3 : (t2.extract 1 t2.size).size = t2.size - 1 := by rw [ByteArray.size_extract]; omega
              have HDW := Lib.hid (fun w => decimal_any (t2.extract 1 t2.size) (by omega) w)
              obtain ⟨f1, f2, f3⟩ := dec_at hr3.data
              obtain ⟨j2, hj2⟩ : ∃ j2, j2 = decK (t2.extract 1 t2.size) := ⟨_, rfl⟩
              obtain ⟨n2, hn2⟩ : ∃ n2, n2 = decV (t2.extract 1 t2.size) := ⟨_, rfl⟩
              rw [← hj2, ← hn2] at HDW
              rw [← hj2] at f1 f2 f3
              rw [← hn2] at f2
              rw [hu3] at f3
              have F1 := Lib.hid f1
              have F2 := Lib.hid f2
              clear f1 f2 hj2 hn2 h47 hr3 hu3
              by_cases hk0 : j2 = 0
              · have HR := Lib.hid (HGF.out (HBAD.out (.inr (.inr (.inr (F1.out hk0).1)))))
                subst hk0
                clear hinv
                go_wp2_with fail
                refine (HDU.out _).mono ?_
                rintro e w2 ⟨rfl, rfl⟩
                go_wp2_with fail
                refine (HDW.out _).mono ?_
                rintro e w3 ⟨rfl, rfl⟩
                go_wp2_with fail
                go_ret
                rw [HR.out]
                exact ⟨rfl, rfl⟩
              · have hk0' : ((j2 : Int) == 0) = false := beq_eq_false_iff_ne.2 (by omega)
                have hr4 := HR2.out.cut (1 + j2) (by omega)
                rw [show numTo s (a + 1) + (1 + j2) = numTo s (numTo s (a + 1) + 1) by have := (F2.out hk0).2.1; omega] at hr4
                obtain ⟨k', hnew⟩ := hinv.good ht (hx.trans H58.out) E4.out HS47.out (F2.out hk0).1 hr4
                have HN := Lib.hid hnew
                have hsz := Lib.hid (show (t2.extract (1 + j2) t2.size).size < t.size by rw [ByteArray.size_extract]; omega)
                have q8 : (0 : Int) ≤ 1 + (j2 : Int) := by omega
                have q9 : 1 + (j2 : Int) ≤ (t2.size : Int) := by omega
                have q10 : (1 + (j2 : Int)).toNat = 1 + j2 := by omega
                have g2 : IntKind.i64.wrap (1 + (j2 : Int)) = 1 + (j2 : Int) := IntWalk.i64_in _ (by omega)
                clear hinv hr4 hnew
                go_wp2_with fail
                refine (HDU.out _).mono ?_
                rintro e w2 ⟨rfl, rfl⟩
                go_wp2_with fail
                refine (HDW.out _).mono ?_
                rintro e w3 ⟨rfl, rfl⟩
                go_wp2_with fail
                go_roundw
                case rel => exact ⟨_, _, _, rfl, HN.out, trivial⟩
                case measure => exact hsz.out
            · have t3 : ((y.toNat : Int) == 47) = false := beq_eq_false_iff_ne.2 (fun e => h47 (UInt8.toNat_inj.1 (by show y.toNat = 47; omega)))
              have t3' : ((y.toNat : Int) != 47) = true := by show (!((y.toNat : Int) == 47)) = true; rw [t3]; rfl
              have HR := Lib.hid (HGF.out (HBAD.out (.inr (.inr (.inl (HSG.out.trans (beq_eq_false_iff_ne.2 h47)))))))
              clear hinv h47
              go_wp2_with fail
              refine (HDU.out _).mono ?_
              rintro e w2 ⟨rfl, rfl⟩
              go_wp2_with fail
              go_ret
              rw [HR.out]
              exact ⟨rfl, rfl⟩
          · have hne2 := toList_void h20
            have hsg : sgn s (numTo s (a + 1)) 47 = false := by
              have e := HR2.out.data
              rw [empty_of h20] at e
              have e2 : s.data.toList.drop (numTo s (a + 1)) = [] := e.symm
              unfold sgn
              rw [List.getElem?_eq_none (List.drop_eq_nil_iff.1 e2)]
              rfl
            have HR := Lib.hid (HGF.out (HBAD.out (.inr (.inr (.inl hsg)))))
            clear hinv hsg
            go_wp2_with fail
            refine (HDU.out _).mono ?_
            rintro e w2 ⟨rfl, rfl⟩
            go_wp2_with fail
            go_ret
            rw [HR.out]
            exact ⟨rfl, rfl⟩
        · have HR := Lib.hid (HGF.out (HBAD.out (.inl h58)))
          have t2 : ((x.toNat : Int) == 58) = false := beq_eq_false_iff_ne.2 (fun e => h58 (UInt8.toNat_inj.1 (by show x.toNat = 58; omega)))
          have t2' : ((x.toNat : Int) != 58) = true := by show (!((x.toNat : Int) == 58)) = true; rw [t2]; rfl
          clear hinv h58
          go_wp2_with fail
          go_ret
          rw [HR.out]
          exact ⟨rfl, rfl⟩
      · have hg := hinv.empty ht
        have HR := Lib.hid (HGT.out hg)
        have het := empty_of ht
        subst het
        clear hinv hg
        go_wp2_with fail
        go_ret
        rw [HR.out]
        exact ⟨rfl, rfl⟩

end Go.Proofs.YtjollcacgnfabaaDoor
