/- fail. -/
import Derived.Test.YtkpjjhiighakfaaGreatDoorB8
namespace Go.Proofs.YtkpjjhiighakfaaGreatDoor
open Go.RowKit
attribute [local go_sem ↓] Go.wp_at_zero Go.wp_at_succ

theorem againS_no {S : CS} {now not_ : Int} (h : S.againB now not_ = false) : S.againS now not_ = S := by
  unfold CS.againB at h; unfold CS.againS
  split
  · rfl
  · rename_i hc
    rw [if_neg hc] at h
    rw [if_pos (by simpa using h)]

/-- What a failed attempt leads to. -/
def CS.failS (S : CS) (now e not_ : Int) : CS :=
  if finalE e then { S with last := e, over := true, end_ := e } else
    if CS.againB { S with last := e } now not_ then CS.againS { S with last := e } now not_ else
      if S.open_.isEmpty then { S with last := e, over := true, end_ := e } else { S with last := e }
theorem failS_final {S : CS} {now e not_ : Int} (h : finalE e = true) : S.failS now e not_ = { S with last := e, over := true, end_ := e } := by unfold CS.failS; rw [h]; rfl
theorem failS_again {S : CS} {now e not_ : Int} (h : finalE e = false) (h1 : CS.againB { S with last := e } now not_ = true) : S.failS now e not_ = CS.againS { S with last := e } now not_ := by unfold CS.failS; rw [h, h1]; rfl
theorem failS_empty {S : CS} {now e not_ : Int} (h : finalE e = false) (h1 : CS.againB { S with last := e } now not_ = false) (h2 : S.open_ = []) : S.failS now e not_ = { S with last := e, over := true, end_ := e } := by unfold CS.failS; rw [h, h1, h2]; rfl
theorem failS_stay {S : CS} {now e not_ : Int} (h : finalE e = false) (h1 : CS.againB { S with last := e } now not_ = false) (h2 : S.open_ ≠ []) : S.failS now e not_ = { S with last := e } := by
  unfold CS.failS; rw [h, h1]
  cases hl : S.open_ with
  | nil => exact absurd hl h2
  | cons a l => rfl

set_option maxRecDepth 8000 in
set_option maxHeartbeats 2000000 in
theorem fail_any {w0 : Base} {wi : World} {cb mb bb lb : Nat} {S : CS} {B : Bk} {L : List Ac} (h : CW w0 wi cb mb bb lb S B L) (hok : S.Ok) (hm : 1 ≤ S.made) (now e not_ : Int) (hn : -1000000000 ≤ now ∧ now ≤ 1000000) (ht : -1000000000 ≤ not_ ∧ not_ ≤ 1000000) :
    Calls Tryz.prog 35 #[.pointer (some ⟨cb, 0, none⟩), .int .i64 now, .int .i64 e, .int .i64 not_] wi fun r w' => r = .returned (.tuple #[]) ∧ CW w0 w' cb mb bb lb (S.failS now e not_) B L := by
  have c23 := h.call.cell 23 (.int .i64 S.last) rfl
  have f23 := h.call.free 23
  have H1 := Lib.hid (h.set 23 (.int .i64 e) (S' := { S with last := e }) rfl rfl)
  clear h
  obtain ⟨W1, hW1⟩ : ∃ W1, W1 = wi.setCell ⟨cb, 23, none⟩ (.int .i64 e) := ⟨_, rfl⟩
  have HW1 := Lib.hid hW1
  have HOVER : Hid (∀ W, CW w0 W cb mb bb lb { S with last := e } B L → CW w0 ((W.setCell ⟨cb, 24, none⟩ (.bool true)).setCell ⟨cb, 25, none⟩ (.int .i64 e)) cb mb bb lb { S with last := e, over := true, end_ := e } B L) := fun W hW =>
    (hW.set 24 (.bool true) (S' := { S with last := e, over := true }) rfl rfl).set 25 (.int .i64 e) rfl rfl
  have HOK : Hid (CS.Ok { S with last := e }) := { hok with }
  cases hf : finalE e with
  | true =>
    have HE := Lib.hid (failS_final (S := S) (now := now) (not_ := not_) hf)
    go_enter Tryz.func35, Tryz.ntmps35
    go_wp2_with fail
    refine (final_any e _).mono ?_
    rintro r w' ⟨rfl, rfl⟩
    rw [hf]
    have d24 := H1.out.call.cell 24 (.bool S.over) rfl
    have d25 := H1.out.call.cell 25 (.int .i64 S.end_) rfl
    have g24 := H1.out.call.free 24
    have g25 := H1.out.call.free 25
    rw [← hW1] at H1 d24 d25 g24 g25 ⊢
    clear hW1 c23 f23
    go_wp2_with fail
    go_end0
    rw [HE.out]
    exact ⟨rfl, HOVER.out _ H1.out⟩
  | false =>
    have HAG := Lib.hid (again_any H1.out HOK.out hm now not_ hn ht)
    cases ha : CS.againB { S with last := e } now not_ with
    | true =>
      have HE := Lib.hid (failS_again hf ha)
      rw [ha] at HAG
      go_enter Tryz.func35, Tryz.ntmps35
      go_wp2_with fail
      refine (final_any e _).mono ?_
      rintro r w' ⟨rfl, rfl⟩
      rw [hf]
      go_wp2_with fail
      refine HAG.out.mono ?_
      rintro r w2 ⟨rfl, h2⟩
      have H2 := Lib.hid h2
      clear h2
      go_wp2_with fail
      go_end0
      rw [HE.out]
      exact ⟨rfl, H2.out⟩
    | false =>
      rw [ha] at HAG
      have HNO := Lib.hid (againS_no ha)
      by_cases ho : S.open_ = []
      · have HE := Lib.hid (failS_empty hf ha ho)
        have HO := Lib.hid ho
        clear ho
        go_enter Tryz.func35, Tryz.ntmps35
        go_wp2_with fail
        refine (final_any e _).mono ?_
        rintro r w' ⟨rfl, rfl⟩
        rw [hf]
        go_wp2_with fail
        refine HAG.out.mono ?_
        rintro r w2 ⟨rfl, h2⟩
        rw [HNO.out] at h2
        have H2 := Lib.hid h2
        have hlen := open_len h2.call
        have hlen0 : _ = Result.ok (Value.int .i64 0) w2 := hlen.trans (by show _ = _; rw [HO.out]; rfl)
        have d17 := h2.call.cell 17 (.map (some mb)) rfl
        have d24 := h2.call.cell 24 (.bool S.over) rfl
        have d25 := h2.call.cell 25 (.int .i64 S.end_) rfl
        have g24 := h2.call.free 24
        have g25 := h2.call.free 25
        clear h2 hlen
        go_wp2_with fail
        go_end0
        rw [HE.out]
        exact ⟨rfl, HOVER.out _ H2.out⟩
      · have HE := Lib.hid (failS_stay hf ha ho)
        have hzz : ((S.open_.length : Int) == 0) = false := by rw [beq_eq_false_iff_ne]; intro e; exact ho (List.eq_nil_of_length_eq_zero (by omega))
        obtain ⟨K, hK⟩ : ∃ K : Int, K = S.open_.length := ⟨_, rfl⟩
        have HK := Lib.hid hK
        rw [← hK] at hzz
        clear ho hK
        go_enter Tryz.func35, Tryz.ntmps35
        go_wp2_with fail
        refine (final_any e _).mono ?_
        rintro r w' ⟨rfl, rfl⟩
        rw [hf]
        go_wp2_with fail
        refine HAG.out.mono ?_
        rintro r w2 ⟨rfl, h2⟩
        rw [HNO.out] at h2
        have H2 := Lib.hid h2
        have hlen := open_len h2.call
        have hlen0 : _ = Result.ok (Value.int .i64 K) w2 := hlen.trans (by rw [HK.out])
        have d17 := h2.call.cell 17 (.map (some mb)) rfl
        clear h2 hlen
        go_wp2_with fail
        go_end0
        rw [HE.out]
        exact ⟨rfl, H2.out⟩

end Go.Proofs.YtkpjjhiighakfaaGreatDoor
