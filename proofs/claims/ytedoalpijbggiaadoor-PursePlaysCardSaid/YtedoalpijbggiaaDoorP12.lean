/- The document's example. -/
import Derived.Test.YtedoalpijbggiaaDoorP11
namespace Go.Proofs.YtedoalpijbggiaaDoor
open Go.RowKit
attribute [local go_sem ↓] Go.wp_at_zero Go.wp_at_succ

def s7 : ByteArray := ⟨#[55]⟩
def s71 : ByteArray := ⟨#[55, 58, 49]⟩
theorem hold7 : Holder 7 s7 := holder_of (t := []) (by omega) (by omega) rfl ⟨by simp, .inl rfl⟩ (by simp)
theorem hold71 : Holder 7 s71 := holder_of (t := [58, 49]) (by omega) (by omega) rfl ⟨by decide, .inr ⟨_, _, rfl, .inl rfl⟩⟩ (by decide)
theorem req7 : reqOf s7 = 7 := hold7.req
theorem req71 : reqOf s71 = 7 := hold71.req
theorem dec7 : dec 7 = s7 := dec_digit 7 (by omega) (by omega)
theorem ne7 : s71 ≠ s7 := fun e => by have : s71.size = s7.size := by rw [e]
                                      exact absurd this (by decide)

def lv1 : Led := led0.mintS 7 5
def lv2 : Led := lv1.moveS s7 s71 2
def lv3 : Led := lv2.spendS s7 1

theorem lv1_e : led0.mintE 7 5 = 0 := by decide
theorem lv1_left (s : ByteArray) : lv1.left s = if s = s7 then 5 else 0 := by
  unfold lv1 Led.mintS
  rw [if_pos lv1_e, dec7]
  show (if s = s7 then (0 : Int) + 5 else 0) = _
  rfl
theorem lv1_sum : lv1.sums 7 = some (5, 0) := by
  unfold lv1 Led.mintS
  rw [if_pos lv1_e]
  rfl
theorem lv2_e : lv1.moveE (reqOf s7) (reqOf s71) s7 2 = 0 := by
  rw [req7, req71]
  unfold Led.moveE Led.hasE
  rw [lv1_sum, lv1_left]
  decide
theorem lv2_left (s : ByteArray) : lv2.left s = if s = s71 then 2 else if s = s7 then 3 else 0 := by
  unfold lv2 Led.moveS
  rw [if_pos lv2_e]
  show upd (upd lv1.left s7 (-2)) s71 2 s = _
  have : ¬ s71 = s7 := ne7
  simp only [upd, lv1_left]
  by_cases h1 : s = s71
  · subst h1; simp [this]
  · simp only [h1, if_false]
    by_cases h2 : s = s7
    · simp [h2]
    · simp [h2]
theorem lv2_sum : lv2.sums 7 = some (5, 0) := by
  unfold lv2 Led.moveS
  rw [if_pos lv2_e, req7]
  show (lv1.more 7 0 0).sums 7 = _
  unfold Led.more Led.sum
  rw [lv1_sum]
  rfl
theorem lv3_e : lv2.spendE (reqOf s7) s7 1 = 0 := by
  rw [req7]
  unfold Led.spendE Led.hasE
  rw [lv2_sum, lv2_left, if_neg (c := s7 = s71) (fun e => ne7 e.symm)]
  decide
theorem lv3_left (s : ByteArray) : lv3.left s = if s = s7 then 2 else if s = s71 then 2 else 0 := by
  unfold lv3 Led.spendS
  rw [if_pos lv3_e]
  show upd lv2.left s7 (-1) s = _
  have : ¬ s71 = s7 := ne7
  have h7 : ¬ s7 = s71 := fun e => ne7 e.symm
  simp only [upd, lv2_left]
  by_cases h1 : s = s7
  · subst h1; simp [h7]
  · simp only [h1, if_false]
theorem lv3_sums : lv3.sums 7 = some (5, 1) := by
  unfold lv3 Led.spendS
  rw [if_pos lv3_e, req7]
  show (lv2.more 7 0 1).sums 7 = _
  unfold Led.more Led.sum
  rw [lv2_sum]
  rfl
theorem lv3_sum : lv3.sum 7 = (5, 1) := by unfold Led.sum; rw [lv3_sums]; rfl
theorem lv4_e : lv3.spendE (reqOf s7) s7 3 = 30 := by
  rw [req7]
  unfold Led.spendE Led.hasE
  rw [lv3_sums, lv3_left, if_pos rfl]
  decide

theorem ch_below {w wi w' : World} {gb lb sb : Nat} {L : Led} (h : ChInv wi w' gb lb sb L) (hn : ∀ k, LFoot gb lb sb k → w.heap.size ≤ k) (hb : Below w.heap.size w wi) : Below w.heap.size w w' :=
  ((Fr.ofBelow (F := LF lb sb) hb).trans h.fr (fun b h => .inl h)).toBelow (fun k hk hf => by
    have := hn k (by rcases hf with rfl | rfl; exact .inr (.inl rfl); exact .inr (.inr rfl))
    omega)

set_option maxRecDepth 8000 in
set_option maxHeartbeats 4000000 in
theorem lives_any (w : World) : Calls Tryd.prog 20 #[] w fun e w' => e = .returned (.bool true) ∧ Below w.heap.size w w' := by
  go_enter Tryd.func20, Tryd.ntmps20
  go_wp2_with fail
  refine (new_any _).mono ?_
  rintro e w1 ⟨gb, lb, sb, rfl, ha, hn, hb⟩
  have HN := Lib.hid hn
  have HB := Lib.hid hb
  have HC := Lib.hid (mint_ok ha led0_ok 7 5 (itoaAt_digit 7 (by omega) (by omega) w1) (fun _ _ => by rw [dec7]; exact req7))
  rw [lv1_e] at HC
  clear ha hn hb
  go_wp2_with fail
  refine HC.out.mono ?_
  rintro e w2 ⟨rfl, hc, hok⟩
  have HB2 := Lib.hid (ch_below hc HN.out HB.out)
  have HC2 := Lib.hid (move_ok hc.at_ hok s7 s71 2 (by omega) (hold7.at_ w2) (hold71.at_ w2))
  have e2 : (led0.mintS 7 5).moveE (reqOf s7) (reqOf s71) s7 2 = 0 := lv2_e
  rw [e2] at HC2
  clear hc hok HC e2
  go_wp2_with fail
  refine HC2.out.mono ?_
  rintro e w3 ⟨rfl, hc, hok⟩
  have HB3 := Lib.hid (ch_below hc HN.out HB2.out)
  have HC3 := Lib.hid (spend_ok hc.at_ hok s7 1 (by omega) (hold7.at_ w3))
  have e3 : ((led0.mintS 7 5).moveS s7 s71 2).spendE (reqOf s7) s7 1 = 0 := lv3_e
  rw [e3] at HC3
  clear hc hok HC2 e3
  go_wp2_with fail
  refine HC3.out.mono ?_
  rintro e w4 ⟨rfl, hc, hok⟩
  have hc : ChInv w3 w4 gb lb sb lv3 := hc
  have hok : lv3.Ok := hok
  have HB4 := Lib.hid (ch_below hc HN.out HB3.out)
  have HL4 := Lib.hid hc.at_
  have HOK := Lib.hid hok
  have HS := Lib.hid (sum_ok hc.at_ hok 7)
  rw [lv3_sum] at HS
  clear hc hok HC3
  go_wp2_with fail
  refine HS.out.mono ?_
  rintro e w5 ⟨rfl, hb5⟩
  have HL5 := Lib.hid (HL4.out.below hb5)
  have HB5 := Lib.hid (btrans HB4.out hb5)
  have HX := Lib.hid (left_any HL5.out s7)
  rw [lv3_left, if_pos rfl] at HX
  clear hb5
  go_wp2_with fail
  refine HX.out.mono ?_
  rintro e w6 ⟨rfl, rfl⟩
  have HY := Lib.hid (left_any HL5.out s71)
  rw [lv3_left, if_neg ne7, if_pos rfl] at HY
  go_wp2_with fail
  refine HY.out.mono ?_
  rintro e w7 ⟨rfl, rfl⟩
  have HC4 := Lib.hid (spend_ok HL5.out HOK.out s7 3 (by omega) (hold7.at_ _))
  rw [lv4_e] at HC4
  go_wp2_with fail
  refine HC4.out.mono ?_
  rintro e w8 ⟨rfl, hc, hok⟩
  have HB8 := Lib.hid (ch_below hc HN.out HB5.out)
  have HSP := Lib.hid (fun w => split_any 7 3 w (by omega) (by omega) (by omega) (by omega))
  clear hc hok
  go_wp2_with fail
  refine (HSP.out _).mono ?_
  rintro e w9 ⟨v, gv, rfl, hv, hg, hb9⟩
  have HB9 := Lib.hid (btrans HB8.out hb9)
  have hnew : IntsAt (w9.alloc (.cells #[.int .i64 3, .int .i64 2, .int .i64 2] 3)) (.slice (some ⟨w9.heap.size, 0, none⟩) 3 3) [3, 2, 2] (some w9.heap.size) :=
    ⟨rfl, by simp, .inr ⟨_, 0, 3, _, rfl, rfl, heap_alloc_new w9 _, by simp, by simp [maxLen], by simp, rfl⟩⟩
  have HSM := Lib.hid (same_any (hv.keep ((Below.refl _ _).alloc (Nat.le_refl _) _)) hnew)
  have hd : decide (splitL 7 3 = [3, 2, 2]) = true := by decide
  rw [hd] at HSM
  clear hv hg hb9 hnew hd
  go_wp2_with fail
  refine HSM.out.mono ?_
  rintro e w10 ⟨rfl, hb10⟩
  have HB10 := Lib.hid (btrans HB9.out (btrans ((Below.refl _ _).alloc (Nat.le_refl _) _) hb10))
  clear hb10
  go_wp2_with fail
  go_ret
  exact ⟨rfl, HB10.out⟩

end Go.Proofs.YtedoalpijbggiaaDoor
