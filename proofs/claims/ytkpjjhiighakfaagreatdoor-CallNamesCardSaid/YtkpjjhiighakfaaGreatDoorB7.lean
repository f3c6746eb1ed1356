/- again. -/
import Derived.Test.YtkpjjhiighakfaaGreatDoorB6
namespace Go.Proofs.YtkpjjhiighakfaaGreatDoor
open Go.RowKit
attribute [local go_sem ↓] Go.wp_at_zero Go.wp_at_succ

/-- When the next attempt would be due. -/
def CS.at_ (S : CS) (now not_ : Int) : Int := max not_ (now + S.p.back * 2 ^ (S.made.toNat - 1))
def CS.againS (S : CS) (now not_ : Int) : CS := if S.due || !S.more then S else if S.c.dl ≤ S.at_ now not_ then S else { S with due := true, dueAt := S.at_ now not_ }
def CS.againB (S : CS) (now not_ : Int) : Bool := if S.due || !S.more then S.due else !decide (S.c.dl ≤ S.at_ now not_)

theorem back_bd {b m : Int} (hb : 0 ≤ b ∧ b ≤ 1000) (hm : 1 ≤ m ∧ m ≤ 8) : 0 ≤ b * 2 ^ (m.toNat - 1) ∧ b * 2 ^ (m.toNat - 1) ≤ 128000 := by
  have h : ∀ k : Nat, k ≤ 7 → 0 ≤ b * 2 ^ k ∧ b * 2 ^ k ≤ 128000 := by
    intro k hk
    match k, hk with
    | 0, _ => simp; omega
    | 1, _ => simp; omega
    | 2, _ => simp; omega
    | 3, _ => simp; omega
    | 4, _ => simp; omega
    | 5, _ => simp; omega
    | 6, _ => simp; omega
    | 7, _ => simp; omega
    | k + 8, hk => omega
  exact h _ (by omega)

set_option maxRecDepth 8000 in
set_option maxHeartbeats 2000000 in
theorem again_any {w0 : Base} {wi : World} {cb mb bb lb : Nat} {S : CS} {B : Bk} {L : List Ac} (h : CW w0 wi cb mb bb lb S B L) (hok : S.Ok) (hm : 1 ≤ S.made) (now not_ : Int) (hn : -1000000000 ≤ now ∧ now ≤ 1000000) (ht : -1000000000 ≤ not_ ∧ not_ ≤ 1000000) :
    Calls Tryz.prog 52 #[.pointer (some ⟨cb, 0, none⟩), .int .i64 now, .int .i64 not_] wi fun e w' => e = .returned (.bool (S.againB now not_)) ∧ CW w0 w' cb mb bb lb (S.againS now not_) B L := by
  have c21 := h.call.cell 21 (.bool S.due) rfl
  have c11 := h.call.cell 11 (.int .i64 S.p.back) rfl
  have c18 := h.call.cell 18 (.int .i64 S.made) rfl
  have c5 := h.call.cell 5 (.int .i64 S.c.dl) rfl
  have c22 := h.call.cell 22 (.int .i64 S.dueAt) rfl
  have f21 := h.call.free 21
  have f22 := h.call.free 22
  have HMO := Lib.hid (more_any h.call)
  have H := Lib.hid h
  clear h
  cases hd : S.due with
  | true =>
    have HE : Hid (S.againB now not_ = true ∧ S.againS now not_ = S) := by unfold CS.againB CS.againS; rw [hd]; exact ⟨rfl, rfl⟩
    rw [hd] at c21
    go_enter Tryz.func52, Tryz.ntmps52
    go_wp2_with fail
    go_ret
    rw [HE.out.1, HE.out.2]
    exact ⟨rfl, H.out⟩
  | false =>
    rw [hd] at c21
    cases hmo : S.more with
    | false =>
      have HE : Hid (S.againB now not_ = false ∧ S.againS now not_ = S) := by unfold CS.againB CS.againS; rw [hd, hmo]; exact ⟨rfl, rfl⟩
      rw [hmo] at HMO
      go_enter Tryz.func52, Tryz.ntmps52
      go_wp2_with fail
      refine HMO.out.mono ?_
      rintro e w' ⟨rfl, hb⟩
      have d21 := bkeep hb c21
      go_wp2_with fail
      go_ret
      rw [HE.out.1, HE.out.2]
      exact ⟨rfl, H.out.keep hb⟩
    | true =>
      have HE : Hid (S.againB now not_ = (!decide (S.c.dl ≤ S.at_ now not_)) ∧ S.againS now not_ = if S.c.dl ≤ S.at_ now not_ then S else { S with due := true, dueAt := S.at_ now not_ }) := by unfold CS.againB CS.againS; rw [hd, hmo]; exact ⟨rfl, rfl⟩
      rw [hmo] at HMO
      obtain ⟨v0, v1⟩ := back_bd hok.back ⟨hm, hok.made.2⟩
      have m1 := hok.made.2
      obtain ⟨n0, n1⟩ := hn
      obtain ⟨t0, t1⟩ := ht
      go_enter Tryz.func52, Tryz.ntmps52
      go_wp2_with fail
      refine HMO.out.mono ?_
      rintro e w' ⟨rfl, hb⟩
      have d11 := bkeep hb c11
      have d18 := bkeep hb c18
      have d5 := bkeep hb c5
      have d21 := bkeep hb c21
      have d22 := bkeep hb c22
      have H' := Lib.hid (H.out.keep hb)
      have e21 := H'.out.call.free 21
      have e22 := H'.out.call.free 22
      clear c21 c11 c18 c5 c22 f21 f22
      go_wp2_with fail
      go_quiet (fail)
      have hw : max not_ (now + S.p.back * 2 ^ (S.made.toNat - 1)) = S.at_ now not_ := rfl
      rw [hw]
      have hT : -1000000000 ≤ S.at_ now not_ ∧ S.at_ now not_ ≤ 1000000000 := by unfold CS.at_; omega
      obtain ⟨T, hTT⟩ : ∃ T, T = S.at_ now not_ := ⟨_, rfl⟩
      rw [← hTT] at HE hT ⊢
      clear hTT hw v0 v1
      have H2 := Lib.hid (H'.out.keep (w' := w'.drewN nq) (below_drewN (Below.refl _ _)))
      by_cases hle : S.c.dl ≤ T
      · rw [decide_eq_true hle, if_pos hle] at HE
        go_wp2_with fail
        go_ret
        rw [HE.out.1, HE.out.2]
        exact ⟨rfl, H2.out⟩
      · rw [decide_eq_false hle, if_neg hle] at HE
        have H3 := Lib.hid ((H2.out.set 21 (.bool true) (S' := { S with due := true }) rfl rfl).set 22 (.int .i64 T) (S' := { S with due := true, dueAt := T }) rfl rfl)
        go_wp2_with fail
        go_ret
        rw [HE.out.1, HE.out.2]
        exact ⟨rfl, H3.out⟩

end Go.Proofs.YtkpjjhiighakfaaGreatDoor
