/- PurseTree: the walk. -/
import Derived.Test.YtedoalpijbggiaaDoorP18
namespace Go.Proofs.YtedoalpijbggiaaDoor
open Go.RowKit
attribute [local go_sem ↓] Go.wp_at_zero Go.wp_at_succ

def s1 : ByteArray := ⟨#[49]⟩
theorem hold1 : Holder 1 s1 := holder_of (t := []) (by omega) (by omega) rfl ⟨by simp, .inl rfl⟩ (by simp)
theorem dec_1 : dec 1 = s1 := dec_digit 1 (by omega) (by omega)

theorem mint1_e (x : Int) (h0 : 0 ≤ x) (h1 : x ≤ 2147483647) : led0.mintE 1 x = 0 := by
  unfold Led.mintE
  rw [if_neg (by omega)]
  rfl
theorem mint1_sums (x : Int) (h0 : 0 ≤ x) (h1 : x ≤ 2147483647) : (led0.mintS 1 x).sums 1 = some (x, 0) := by
  unfold Led.mintS
  rw [if_pos (mint1_e x h0 h1)]
  show (led0.more 1 x 0).sums 1 = _
  rw [more_sums, if_pos rfl]
  show some ((0 : Int) + x, (0 : Int) + 0) = _
  rw [Int.zero_add]; rfl

theorem share_le (a : Int) (k j : Nat) (h0 : 0 ≤ a) (hk : 1 ≤ k) (hj : j < k) : sumTo a k j + share a k j ≤ a := by
  have h1 : ∀ d i, i + d = k → sumTo a k i ≤ a := by
    intro d
    induction d with
    | zero => intro i hi; have : i = k := by omega
              subst this; rw [sumTo_all a i hk]; exact Int.le_refl _
    | succ d ih =>
      intro i hi
      have h2 := ih (i + 1) (by omega)
      rw [sumTo_succ] at h2
      have h3 : 0 ≤ share a k i := by
        have := Int.ediv_nonneg h0 (show (0 : Int) ≤ k by omega)
        unfold share; split <;> omega
      omega
  rw [← sumTo_succ]
  exact h1 (k - (j + 1)) (j + 1) (by omega)

set_option maxRecDepth 8000 in
set_option maxHeartbeats 16000000 in
theorem tree_walk {w : World} {A0 : Option Addr} {n0 : Nat} {l : List Int} (m : Int) (hm : -9223372036854775808 ≤ m ∧ m ≤ 9223372036854775807) (h : ArgInts w A0 n0 l) (cap : Nat) (hcap : n0 ≤ cap) :
    Calls Tryd.prog 9 #[.int .i64 m, .slice A0 n0 cap] w fun e w' => e = .returned (.bool true) ∧ Below w.heap.size w w' := by
  have HA := Lib.hid (fun w => around_any m 65 w hm.1 hm.2 (by omega) (by omega))
  obtain ⟨x0, x1⟩ := around_bd m (m := 65) (by omega)
  obtain ⟨x, hx⟩ : ∃ x, x = around m 65 := ⟨_, rfl⟩
  rw [← hx] at HA x0 x1
  have HIN : Hid (Calls Tryd.prog 28 #[.slice A0 n0 cap, .int .i64 24] w (IntsPost w (l.take 24))) := ints_any h hcap 24 (by omega)
  have HBD : Hid (∀ y ∈ l.take 24, -9223372036854775808 ≤ y ∧ y ≤ 9223372036854775807) := fun y hy => h.2.2.1 y (List.mem_of_mem_take hy)
  have HLN : Hid ((l.take 24).length ≤ 24) := List.length_take_le ..
  obtain ⟨I, hI⟩ : ∃ I, I = l.take 24 := ⟨_, rfl⟩
  rw [← hI] at HIN HBD HLN
  clear h hx hI
  go_enter Tryd.func9, Tryd.ntmps9
  go_wp2_with fail
  refine (HA.out _).mono ?_
  rintro e w' ⟨rfl, rfl⟩
  go_wp2_with fail
  refine HIN.out.mono ?_
  rintro e w1 ⟨vI, ib, rfl, hi, hib, hb1⟩
  obtain ⟨la, lc, rfl⟩ := RowAt.form hi
  have HI := Lib.hid hi
  have HIB := Lib.hid hib
  have HB1 := Lib.hid hb1
  clear hi hib hb1
  go_wp2_with fail
  refine (new_any _).mono ?_
  rintro e w2 ⟨gb, lb, sb, rfl, hled, hnew, hb2⟩
  have HNEW := Lib.hid hnew
  have HB2 := Lib.hid hb2
  have HMT := Lib.hid (mint_ok hled led0_ok 1 x (itoaAt_digit 1 (by omega) (by omega) w2) (fun _ _ => by rw [dec_1]; exact hold1.req))
  rw [mint1_e x x0 (by omega)] at HMT
  have HLT := Lib.hid hled.lt
  have HNE := Lib.hid hled.ne
  clear hled hnew hb2
  go_wp2_with fail
  refine HMT.out.mono ?_
  rintro e w3 ⟨rfl, hc, hok⟩
  have HST : Hid (TrInv w (w3.alloc (.cells #[.string ⟨#[49]⟩] 9)) gb lb sb x (.slice la I.length lc) I (.slice none 0 0) [] [s1] (.slice (some ⟨w3.heap.size, 0, none⟩) 1 1) (led0.mintS 1 x) 0) := by
    have hb3 : Below w1.heap.size w1 w3 := ch_below hc HNEW.out HB2.out
    have hbx : Below w3.heap.size w3 (w3.alloc (.cells #[.string ⟨#[49]⟩] 9)) := (Below.refl _ _).alloc (Nat.le_refl _) _
    have l1 := HLT.out lb (.inr (.inl rfl))
    have l2 := HLT.out sb (.inr (.inr rfl))
    have l3 := HLT.out gb (.inl rfl)
    have s3 := hc.fr.size
    have s1' := HB1.out.size
    refine ⟨hc.at_.below hbx, hok, mint1_sums x x0 (by omega), ⟨some w3.heap.size, ib, none, ⟨rfl, by simp, .inr ⟨_, 0, 1, _, rfl, rfl, heap_alloc_new w3 _, by simp, by simp [maxLen], by simp, rfl⟩⟩, HI.out.keep (btrans hb3 hbx), RowAt.nil _ _ _, fun g hg => ?_, fun g hg => ⟨fun e => ?_, fun e => ?_⟩, fun g hg => by cases hg⟩, fun i c hc' => ?_, by simp, ⟨?_, ?_, ?_⟩, btrans HB1.out (btrans hb3 hbx)⟩
    · cases hg
      have := hb3.size
      refine ⟨by omega, fun e => ?_⟩
      have := HLT.out _ e; omega
    · cases e
      have := RowAt.lt HI.out _ hg
      have := hb3.size
      omega
    · have h5 := RowAt.lt HI.out g hg
      have := HNEW.out g (.inr e)
      omega
    · match i, hc' with
      | 0, hc' => cases hc'; exact ⟨hold1, by decide⟩
      | i + 1, hc' => simp at hc'
    · have := HNEW.out gb (.inl rfl); omega
    · have := HNEW.out lb (.inr (.inl rfl)); omega
    · have := HNEW.out sb (.inr (.inr rfl)); omega
  obtain ⟨nl, hnl⟩ : ∃ nl, nl = I.length := ⟨_, rfl⟩
  have HNL := Lib.hid hnl
  have hnl24 : nl ≤ 24 := by have := HLN.out; omega
  rw [← hnl] at HST ⊢
  clear hc hok hnl
  go_wp2_with fail
  go_loopw [6, 7, 8] (fun vc vf vi wr => ∃ (i k : Nat) (C : List ByteArray) (L : Led) (f : Int) (cc : Option Addr) (cd : Nat), vi = .int .i64 i ∧ i ≤ nl ∧ vf = .int .i64 f ∧ vc = .slice cc k cd ∧ Hid (k = C.length) ∧ TrInv w wr gb lb sb x (.slice la nl lc) I (.slice none 0 0) [] C (.slice cc k cd) L f) (fun _ _ vi _ => (nl - intOf vi).toNat)
  case atStart => exact ⟨0, 1, [s1], _, 0, _, _, rfl, by omega, rfl, rfl, rfl, HST.out⟩
  case round =>
    rename World => wo
    obtain ⟨i, kc, C, L, f, cc, cd, rfl, hi, rfl, rfl, hkc, hinv⟩ := hrel
    have HJ := Lib.hid hinv
    have hkc24 : kc ≤ 24 := by have := hinv.len; have := hkc.out; omega
    clear hinv
    by_cases hin : i < nl ∧ i < kc
    · obtain ⟨hi1, hi2⟩ := hin
      have t1 : decide ((i : Int) < (nl : Int)) = true := decide_eq_true (by omega)
      have t2 : decide ((i : Int) < (kc : Int)) = true := decide_eq_true (by omega)
      have i1 : (0 : Int) ≤ (i : Int) := by omega
      have i2 : (i : Int) < (nl : Int) := by omega
      have i3 : (i : Int) < (kc : Int) := by omega
      have hiI : i < I.length := by rw [← HNL.out]; exact hi1
      have hiC : i < C.length := by rw [← hkc.out]; exact hi2
      obtain ⟨y, hy⟩ : ∃ y, I[i]? = some y := ⟨I[i], by simp [hiI]⟩
      obtain ⟨s, hs⟩ : ∃ s, C[i]? = some s := ⟨C[i], by simp [hiC]⟩
      obtain ⟨g1, off1, rfl, c1⟩ := HJ.out.int_cell hiI hy
      obtain ⟨g2, off2, rfl, c2⟩ := HJ.out.call_cell hiC hs
      obtain ⟨hsh, hsz⟩ := HJ.out.hold i s hs
      have hyb := HBD.out y (List.mem_of_getElem? hy)
      have HAK := Lib.hid (around_any y 100 wo hyb.1 hyb.2 (by omega) (by omega))
      obtain ⟨k0, k1⟩ := around_bd y (m := 100) (by omega)
      obtain ⟨q, hq⟩ : ∃ q, q = around y 100 := ⟨_, rfl⟩
      rw [← hq] at HAK k0 k1
      obtain ⟨tr, htr⟩ : ∃ tr : Nat, (tr : Int) = 1 + q % 4 := ⟨(1 + q % 4).toNat, by omega⟩
      obtain ⟨kd, hkd⟩ : ∃ kd : Nat, (kd : Int) = q / 4 % 3 := ⟨(q / 4 % 3).toNat, by omega⟩
      have htr4 : tr ≤ 4 := by omega
      have hkd2 : kd ≤ 2 := by omega
      have g3 : q.tmod 4 = q % 4 := Int.tmod_eq_emod_of_nonneg k0
      have g4 : IntKind.i64.wrap (1 + q % 4) = (tr : Int) := by rw [IntWalk.i64_in _ (by omega), htr]
      have g5 : q.tdiv 4 = q / 4 := Int.tdiv_eq_ediv_of_nonneg k0
      have g6 : (q / 4).tmod 3 = (kd : Int) := by rw [Int.tmod_eq_emod_of_nonneg (by omega), hkd]
      have g7 : IntKind.i64.wrap (q / 4) = q / 4 := IntWalk.i64_in _ (by omega)
      have HSH := Lib.hid hsh
      have hsz' : s.size ≤ 97 := by omega
      have HSI : Hid (s.size ≤ 4 * i + 1 ∧ i < C.length) := ⟨hsz, hiC⟩
      clear hy hs hsh hsz hyb hq htr hkd
      go_wp2_with fail
      refine HAK.out.mono ?_
      rintro e w' ⟨rfl, rfl⟩
      go_wp2_with fail
      go_loopw [6, 7, 11] (fun vc vf vt wx => ∃ (t k : Nat) (C : List ByteArray) (L : Led) (f : Int) (cc : Option Addr) (cd : Nat), vt = .int .i64 t ∧ 1 ≤ t ∧ t ≤ tr + 1 ∧ vf = .int .i64 f ∧ vc = .slice cc k cd ∧ Hid (k = C.length ∧ i < C.length) ∧ TrInv w wx gb lb sb x (.slice (some ⟨g1, off1, none⟩) nl lc) I (.slice none 0 0) [] C (.slice cc k cd) L f) (fun _ _ vt _ => (5 - intOf vt).toNat)
      case atStart => exact ⟨1, kc, C, L, f, _, cd, rfl, by omega, by omega, rfl, rfl, ⟨hkc.out, hiC⟩, HJ.out⟩
      case round =>
        rename World => wp
        clear HJ hkc c1 c2 hiC hkc24 i3 t2
        obtain ⟨t, k, C, L, f, cc, cd, rfl, ht1, ht2, rfl, rfl, hkk, hinv⟩ := hrel
        have HT := Lib.hid hinv
        have hk24 : k ≤ 24 := by have := hinv.len; have := hkk.out; omega
        have hf := hinv.held
        clear hinv
        by_cases htt : t ≤ tr
        · have t3 : decide ((t : Int) ≤ (tr : Int)) = true := decide_eq_true (by omega)
          have hcases : t = 1 ∨ (1 < t ∧ L.spendE (reqOf s) s 1 = 0) ∨ (1 < t ∧ L.spendE (reqOf s) s 1 ≠ 0) := by omega
          rcases hcases with hta | ⟨hta, hE⟩ | ⟨hta, hE⟩
          case' inl =>
            have t4 : decide ((1 : Int) < (t : Int)) = false := decide_eq_false (by omega)
            obtain ⟨L1, rfl⟩ : ∃ L1, L1 = L := ⟨_, rfl⟩
            obtain ⟨f1, rfl⟩ : ∃ f1, f1 = f := ⟨_, rfl⟩
            clear hta
          case' inr.inl =>
            have t4 : decide ((1 : Int) < (t : Int)) = true := decide_eq_true (by omega)
            have HSP := Lib.hid (spend_ok HT.out.led HT.out.ok s 1 (by omega) (HSH.out.at_ _))
            have HSS := Lib.hid (spendS_sums HSH.out.req HT.out.sums hE)
            rw [hE] at HSP
            have gf : IntKind.i64.wrap (f + 1) = f + 1 := IntWalk.i64_in _ (by omega)
            obtain ⟨L1, hL1⟩ : ∃ L1, L1 = L.spendS s 1 := ⟨_, rfl⟩
            rw [← hL1] at HSP HSS
            clear hta hE hL1
            go_wp2_with fail
            refine HSP.out.mono ?_
            rintro e w5 hd
            have HTX := Lib.hid (HT.out.act hd HSS.out)
            obtain ⟨rfl, -, -⟩ := hd
            clear HT
            have HT := HTX
            obtain ⟨f1, hf1⟩ : ∃ f1, f + 1 = f1 := ⟨_, rfl⟩
            rw [hf1] at HT
            clear HTX HSS HSP
          case' inr.inr =>
            have t4 : decide ((1 : Int) < (t : Int)) = true := decide_eq_true (by omega)
            have HSP := Lib.hid (spend_ok HT.out.led HT.out.ok s 1 (by omega) (HSH.out.at_ _))
            have HSS : Hid ((L.spendS s 1).sums 1 = some (x, f)) := by unfold Led.spendS; rw [if_neg hE]; exact HT.out.sums
            obtain ⟨E, hEE⟩ : ∃ E, E = L.spendE (reqOf s) s 1 := ⟨_, rfl⟩
            rw [← hEE] at HSP hE
            have eE : (E == 0) = false := beq_eq_false_iff_ne.2 hE
            clear hEE
            go_wp2_with fail
            refine HSP.out.mono ?_
            rintro e w5 hd
            have HTX := Lib.hid (HT.out.act hd HSS.out)
            obtain ⟨rfl, -, -⟩ := hd
            go_wp2_with fail
            go_roundw
            case rel => exact ⟨i + 1, k, C, _, f, cc, cd, by go_num, by omega, rfl, rfl, hkk.out.1, HTX.out⟩
            case measure => simp [intOf]; omega
          all_goals
            have HL := Lib.hid (left_any HT.out.led s)
            have hz := HT.out.ok.left_most s
            obtain ⟨z, hzz⟩ : ∃ z, z = L1.left s := ⟨_, rfl⟩
            have HZ := Lib.hid hzz
            rw [← hzz] at HL hz
            have HHF := Lib.hid (fun w => half_any z w hz.1 (by omega))
            obtain ⟨a, ha⟩ : ∃ a, a = z / 2 := ⟨_, rfl⟩
            rw [← ha] at HHF
            have haz : 0 ≤ a ∧ a ≤ z := by omega
            have HDC := Lib.hid (fun w => dec1 t w (by omega))
            obtain ⟨huh, hus⟩ := own_holder HSH.out (by omega) 58 (.inl rfl) t (by omega)
            have hne : s ++ ⟨#[58]⟩ ++ digit t ≠ s := ne_of_size (by omega)
            obtain ⟨u, hu⟩ : ∃ u, s ++ ⟨#[58]⟩ ++ digit t = u := ⟨_, rfl⟩
            rw [hu] at huh hus hne
            have HUH := Lib.hid huh
            have hsz1 : (s ++ ⟨#[58]⟩).size ≤ 98 := by rw [ByteArray.size_append]; show _ + 1 ≤ 98; omega
            have hds : (digit t).size = 1 := rfl
            have hms : L1.moveE (reqOf s) (reqOf u) s a = 0 := moveE_zero haz.1 HSH.out.req HUH.out.req HT.out.sums (by rw [← hzz]; exact haz.2)
            have HLU : Hid (a ≤ (L1.moveS s u a).left u) := by
              unfold Led.moveS
              rw [if_pos hms]
              show a ≤ upd (upd L1.left s (-a)) u a u
              rw [upd_add, upd_add, if_neg hne, if_pos rfl]
              have := HT.out.ok.pos u
              omega
            have HMS := Lib.hid hms
            have HM2 := Lib.hid (moveS_sums (t := u) (m := a) HSH.out.req HT.out.sums)
            have HSPL := Lib.hid (fun w => split_all a kd w haz.1 (by omega) (by omega))
            clear hzz ha huh hms hne
            go_wp2_with fail
            refine HL.out.mono ?_
            rintro e w' ⟨rfl, rfl⟩
            go_wp2_with fail
            refine (HHF.out _).mono ?_
            rintro e w' ⟨rfl, rfl⟩
            go_wp2_with fail
            refine (HDC.out _).mono ?_
            rintro e w6 ⟨rfl, hb6⟩
            have HT6 := Lib.hid (HT.out.keep hb6)
            have HMV := Lib.hid (move_ok HT6.out.led HT6.out.ok s u a (by omega) (HSH.out.at_ _) (HUH.out.at_ _))
            rw [HMS.out] at HMV
            obtain ⟨L2, hL2⟩ : ∃ L2, L2 = L1.moveS s u a := ⟨_, rfl⟩
            rw [← hL2] at HMV HLU HM2
            clear hb6 hL2
            go_wp2_with fail
            refine HMV.out.mono ?_
            rintro e w7 hd
            have HT7 := Lib.hid (HT6.out.act hd HM2.out)
            obtain ⟨rfl, -, -⟩ := hd
            go_wp2_with fail
            refine (HSPL.out _).mono ?_
            rintro e w8 hn
            have hn' := hn
            obtain ⟨vS, sS, rfl, hS, -, -⟩ := hn'
            obtain ⟨ls, lsc, rfl⟩ := RowAt.form hS
            have HT8 := Lib.hid (HT7.out.deal hn rfl)
            rw [splitL_length] at HT8 ⊢
            clear hS hn
            go_wp2_with fail
            go_loopw [6, 16] (fun vc vj wx => ∃ (j k : Nat) (C : List ByteArray) (L : Led) (cc : Option Addr) (cd : Nat), vj = .int .i64 j ∧ j ≤ kd ∧ vc = .slice cc k cd ∧ Hid (k = C.length ∧ i < C.length ∧ a - sumTo a kd j ≤ L.left u) ∧ TrInv w wx gb lb sb x (.slice (some ⟨g1, off1, none⟩) nl lc) I (.slice ls kd lsc) (splitL a kd) C (.slice cc k cd) L f1) (fun _ vj _ => (kd - intOf vj).toNat)
            case atStart => exact ⟨0, k, C, L2, cc, cd, rfl, by omega, rfl, ⟨hkk.out.1, hkk.out.2, by rw [sumTo_zero a kd haz.1]; have := HLU.out; omega⟩, HT8.out⟩
            case round =>
              rename World => wq
              clear HT HT6 HT7 HT8 hkk hk24 HL HZ HMS HM2 HMV HLU
              obtain ⟨j, k, C, L, cc, cd, rfl, hj, rfl, hkk, hinv⟩ := hrel
              have HT := Lib.hid hinv
              have hk24 : k ≤ 24 := by have := hinv.len; have := hkk.out.1; omega
              clear hinv
              by_cases hjk : j < kd ∧ k < 24
              · obtain ⟨hj1, hj2⟩ := hjk
                have t5 : decide ((j : Int) < (kd : Int)) = true := decide_eq_true (by omega)
                have t6 : decide ((k : Int) < 24) = true := decide_eq_true (by omega)
                have j1 : (0 : Int) ≤ (j : Int) := by omega
                have j2 : (j : Int) < (kd : Int) := by omega
                obtain ⟨g3, off3, rfl, c3⟩ := HT.out.share_cell (by rw [splitL_length]; exact hj1) (splitL_get a kd j hj1)
                have hsd := share_bd a kd j haz.1 (by omega) (by omega)
                have hsl := share_le a kd j haz.1 (by omega) hj1
                have hsu := sumTo_succ a kd j
                have HDJ := Lib.hid (fun w => dec1 j w (by omega))
                obtain ⟨hvh, hvs⟩ := own_holder HUH.out (by omega) 47 (.inr rfl) j (by omega)
                have hne : u ++ ⟨#[47]⟩ ++ digit j ≠ u := ne_of_size (by omega)
                obtain ⟨v, hv⟩ : ∃ v, u ++ ⟨#[47]⟩ ++ digit j = v := ⟨_, rfl⟩
                rw [hv] at hvh hvs hne
                have HVH := Lib.hid hvh
                have hsz2 : (u ++ ⟨#[47]⟩).size ≤ 100 := by rw [ByteArray.size_append]; show _ + 1 ≤ 100; omega
                have hds2 : (digit j).size = 1 := rfl
                have hsz3 : u.size ≤ 99 := by omega
                obtain ⟨d, hd0⟩ : ∃ d, d = share a kd j := ⟨_, rfl⟩
                rw [← hd0] at c3 hsd hsl hsu
                have hms : L.moveE (reqOf u) (reqOf v) u d = 0 := moveE_zero hsd.1 HUH.out.req HVH.out.req HT.out.sums (by have := hkk.out.2.2; omega)
                have HLU : Hid (a - sumTo a kd (j + 1) ≤ (L.moveS u v d).left u) := by
                  unfold Led.moveS
                  rw [if_pos hms]
                  show _ ≤ upd (upd L.left u (-d)) v d u
                  rw [upd_add, upd_add, if_pos rfl, if_neg (fun e => hne e.symm)]
                  have := hkk.out.2.2
                  omega
                have HMS := Lib.hid hms
                have HM2 := Lib.hid (moveS_sums (t := v) (m := d) HUH.out.req HT.out.sums)
                have hdr : -9223372036854775808 ≤ d ∧ d ≤ 9223372036854775807 := by omega
                have HVZ : Hid (v.size ≤ 4 * C.length + 1) := by have h1 := hkk.out.2.1; have h2 := HSI.out.1; show _ ≤ _; omega
                clear hd0 hvh hms hne hsd hsl hsu
                go_wp2_with fail
                refine (HDJ.out _).mono ?_
                rintro e w9 ⟨rfl, hb9⟩
                have HT9 := Lib.hid (HT.out.keep hb9)
                have d3 := bkeep hb9 c3
                have HMV := Lib.hid (move_ok HT9.out.led HT9.out.ok u v d hdr (HUH.out.at_ _) (HVH.out.at_ _))
                rw [HMS.out] at HMV
                obtain ⟨L2, hL2⟩ : ∃ L2, L2 = L.moveS u v d := ⟨_, rfl⟩
                rw [← hL2] at HMV HLU HM2
                clear hb9 hL2 c3
                go_wp2_with fail
                refine HMV.out.mono ?_
                rintro e w10 hd
                have HT10 := Lib.hid (HT9.out.act hd HM2.out)
                obtain ⟨rfl, -, -⟩ := hd
                obtain ⟨cc2, cd2, w11, happ, hpush⟩ := HT10.out.push hkk.out.1 (by have := hkk.out.1; omega) HVH.out HVZ.out
                have HT11 := Lib.hid hpush
                clear hpush
                go_wp2_with (at_builtin; refine wpList_run (by rfl) (exec_append _ _ _ _ (by rfl) _ _ (by rfl) (by rfl) happ) ?_)
                go_roundw
                case rel => exact ⟨j + 1, k + 1, C ++ [v], L2, cc2, cd2, by go_num, by omega, rfl, ⟨by rw [List.length_append, ← hkk.out.1]; rfl, by rw [List.length_append]; have := hkk.out.2.1; omega, HLU.out⟩, HT11.out⟩
                case measure => simp [intOf]; omega
              · have HTN := Lib.hid HT.out.undeal
                by_cases hj1 : j < kd
                · have t5 : decide ((j : Int) < (kd : Int)) = true := decide_eq_true (by omega)
                  have t6 : decide ((k : Int) < 24) = false := decide_eq_false (by omega)
                  go_wp2_with fail
                  go_roundw
                  case rel => exact ⟨t + 1, k, C, L, f1, cc, cd, by go_num, by omega, by omega, rfl, rfl, ⟨hkk.out.1, hkk.out.2.1⟩, HTN.out⟩
                  case measure => simp [intOf]; omega
                · have t5 : decide ((j : Int) < (kd : Int)) = false := decide_eq_false (by omega)
                  go_wp2_with fail
                  go_roundw
                  case rel => exact ⟨t + 1, k, C, L, f1, cc, cd, by go_num, by omega, by omega, rfl, rfl, ⟨hkk.out.1, hkk.out.2.1⟩, HTN.out⟩
                  case measure => simp [intOf]; omega
        · have t3 : decide ((t : Int) ≤ (tr : Int)) = false := decide_eq_false (by omega)
          go_wp2_with fail
          go_roundw
          case rel => exact ⟨i + 1, k, C, L, f, cc, cd, by go_num, by omega, rfl, rfl, hkk.out.1, HT.out⟩
          case measure => simp [intOf]; omega
    · have hhe := HJ.out.held
      have HS := Lib.hid (sum_ok HJ.out.led HJ.out.ok 1)
      rw [hhe.1] at HS
      obtain ⟨_, f0, f1⟩ := hhe
      have gf : IntKind.i64.wrap (x - f + f) = x := by rw [IntWalk.i64_in _ (by omega)]; omega
      have tf : decide (f ≤ x) = true := decide_eq_true f1
      have HLV := Lib.hid (fun w => lives_any w)
      have hin' : (¬ i < nl) ∨ (i < nl ∧ ¬ i < kc) := by omega
      rcases hin' with t0 | ⟨t0, t00⟩
      case' inl => have t1 : decide ((i : Int) < (nl : Int)) = false := decide_eq_false (by omega)
      case' inr =>
        have t1 : decide ((i : Int) < (nl : Int)) = true := decide_eq_true (by omega)
        have t2 : decide ((i : Int) < (kc : Int)) = false := decide_eq_false (by omega)
      all_goals
        go_wp2_with fail
        refine HS.out.mono ?_
        rintro e w4 ⟨rfl, hb4⟩
        have HB4 := Lib.hid (btrans HJ.out.below hb4)
        clear hb4
        go_wp2_with fail
        refine (HLV.out _).mono ?_
        rintro e w5 ⟨rfl, hb5⟩
        have HB5 := Lib.hid (btrans HB4.out hb5)
        clear hb5
        go_wp2_with fail
        go_ret
        exact ⟨rfl, HB5.out⟩

end Go.Proofs.YtedoalpijbggiaaDoor
