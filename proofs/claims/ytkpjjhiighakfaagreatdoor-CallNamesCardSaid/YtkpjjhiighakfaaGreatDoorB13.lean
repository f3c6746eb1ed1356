/- timeouts, goOn. -/
import Derived.Test.YtkpjjhiighakfaaGreatDoorB12
import Derived.Test.YtkpjjhiighakfaaGreatDoorB11
namespace Go.Proofs.YtkpjjhiighakfaaGreatDoor
open Go.RowKit
attribute [local go_sem ↓] Go.wp_at_zero Go.wp_at_succ

/-- goOn. -/
def CS.goS (S : CS) (now : Int) (B : Bk) : CS :=
  if S.due && decide (S.dueAt ≤ now) then
    (if CS.mayS { S with due := false } now B then CS.furS { S with due := false } now B else if S.open_.isEmpty then { S with due := false, over := true, end_ := S.last } else { S with due := false })
  else if S.hasBeside && decide (S.besideT ≤ now) then (if S.mayS now B then S.furS now B else { S with frm := now }) else S
def CS.goB (S : CS) (now : Int) (B : Bk) : Bk :=
  if S.due && decide (S.dueAt ≤ now) then CS.furB { S with due := false } now B else if S.hasBeside && decide (S.besideT ≤ now) then S.furB now B else B
def CS.goL (S : CS) (now : Int) (B : Bk) : List Ac :=
  if S.due && decide (S.dueAt ≤ now) then CS.furL { S with due := false } now B else if S.hasBeside && decide (S.besideT ≤ now) then S.furL now B else []

structure GoR (S : CS) (now : Int) (B : Bk) (S' : CS) (B' : Bk) (l : List Ac) : Prop where
  s : S.goS now B = S'
  k : S.goB now B = B'
  l : S.goL now B = l

theorem goR_due {S : CS} {now : Int} {B : Bk} (h : (S.due && decide (S.dueAt ≤ now)) = true) {b : Bool} {S' : CS} {B' : Bk} {l : List Ac} (hr : FurR { S with due := false } now B b S' B' l) :
    GoR S now B (if b then S' else if S.open_.isEmpty then { S with due := false, over := true, end_ := S.last } else { S with due := false }) B' l := by
  refine ⟨?_, ?_, ?_⟩
  · unfold CS.goS; rw [if_pos h, hr.b, hr.s]
  · unfold CS.goB; rw [if_pos h, hr.k]
  · unfold CS.goL; rw [if_pos h, hr.l]
theorem goR_beside {S : CS} {now : Int} {B : Bk} (h : (S.due && decide (S.dueAt ≤ now)) = false) (h2 : (S.hasBeside && decide (S.besideT ≤ now)) = true) {b : Bool} {S' : CS} {B' : Bk} {l : List Ac} (hr : FurR S now B b S' B' l) :
    GoR S now B (if b then S' else { S with frm := now }) B' l := by
  have h' : ¬ (S.due && decide (S.dueAt ≤ now)) = true := by rw [h]; decide
  refine ⟨?_, ?_, ?_⟩
  · unfold CS.goS; rw [if_neg h', if_pos h2, hr.b, hr.s]
  · unfold CS.goB; rw [if_neg h', if_pos h2, hr.k]
  · unfold CS.goL; rw [if_neg h', if_pos h2, hr.l]
theorem goR_not {S : CS} {now : Int} {B : Bk} (h : (S.due && decide (S.dueAt ≤ now)) = false) (h2 : (S.hasBeside && decide (S.besideT ≤ now)) = false) : GoR S now B S B [] := by
  have h' : ¬ (S.due && decide (S.dueAt ≤ now)) = true := by rw [h]; decide
  have h2' : ¬ (S.hasBeside && decide (S.besideT ≤ now)) = true := by rw [h2]; decide
  refine ⟨?_, ?_, ?_⟩
  · unfold CS.goS; rw [if_neg h', if_neg h2']
  · unfold CS.goB; rw [if_neg h', if_neg h2']
  · unfold CS.goL; rw [if_neg h', if_neg h2']
theorem furR_any (S : CS) (now : Int) (B : Bk) : FurR S now B (S.mayS now B) (S.furS now B) (S.furB now B) (S.furL now B) := ⟨rfl, rfl, rfl, rfl⟩

set_option maxRecDepth 8000 in
set_option maxHeartbeats 2000000 in
theorem goOn_any {w0 : Base} {wi : World} {cb mb bb lb : Nat} {S : CS} {B : Bk} {L : List Ac} (h : CW w0 wi cb mb bb lb S B L) (hok : S.Ok) (hB : B.Ok) (hL : L.length ≤ 1000) (now : Int) :
    Calls Tryz.prog 38 #[.pointer (some ⟨cb, 0, none⟩), .int .i64 now, .func (.func 28) #[] #[.pointer (some ⟨lb, 0, none⟩)]] wi (fun e w' => e = .returned (.tuple #[]) ∧ CW w0 w' cb mb bb lb (S.goS now B) (S.goB now B) (L ++ S.goL now B)) := by
  have c21 := h.call.cell 21 (.bool S.due) rfl
  have c22 := h.call.cell 22 (.int .i64 S.dueAt) rfl
  have f21 := h.call.free 21
  have H := Lib.hid h
  clear h
  have HOKF : Hid (CS.Ok { S with due := false }) := { hok with dueAt := fun e => by cases e }
  cases hdd : S.due && decide (S.dueAt ≤ now) with
  | true =>
    have hd : S.due = true ∧ decide (S.dueAt ≤ now) = true := by simpa using hdd
    obtain ⟨hd1, hd2⟩ := hd
    have HG := Lib.hid (goR_due hdd (furR_any { S with due := false } now B))
    rw [hd1] at c21
    have HF := Lib.hid (H.out.set 21 (.bool false) (S' := { S with due := false }) rfl rfl)
    have HFU := Lib.hid (further_any HF.out HOKF.out hB hL now)
    clear hdd hd1
    cases hm : CS.mayS { S with due := false } now B with
    | true =>
      rw [hm, if_pos rfl] at HG
      rw [hm] at HFU
      go_enter Tryz.func38, Tryz.ntmps38
      go_wp2_with fail
      refine HFU.out.mono ?_
      rintro e w2 ⟨rfl, h2⟩
      have H2 := Lib.hid h2
      clear h2
      go_wp2_with fail
      first | go_end0 | (refine bodyPost_ret (results_none rfl _ _ _) rfl ?_)
      rw [HG.out.s, HG.out.k, HG.out.l]
      exact ⟨rfl, H2.out⟩
    | false =>
      rw [hm] at HFU
      have HR := Lib.hid (furR_no hm)
      by_cases ho : S.open_ = []
      · have HG' : Hid (GoR S now B { S with due := false, over := true, end_ := S.last } B []) := by
          have h := HG.out
          have e : (if CS.mayS { S with due := false } now B = true then CS.furS { S with due := false } now B else if S.open_.isEmpty = true then { S with due := false, over := true, end_ := S.last } else { S with due := false }) = { S with due := false, over := true, end_ := S.last } := by
            rw [hm, if_neg (by decide), if_pos (by rw [ho]; rfl)]
          rw [e, HR.out.k, HR.out.l] at h
          exact h
        have HO := Lib.hid ho
        clear ho HG
        go_enter Tryz.func38, Tryz.ntmps38
        go_wp2_with fail
        refine HFU.out.mono ?_
        rintro e w2 ⟨rfl, h2⟩
        rw [HR.out.s, HR.out.k, HR.out.l, List.append_nil] at h2
        have H2 := Lib.hid h2
        have hlen := open_len h2.call
        have hlen0 : _ = Result.ok (Value.int .i64 0) w2 := hlen.trans (by show Result.ok (Value.int .i64 ((S.open_.length : Nat) : Int)) w2 = _; rw [HO.out]; rfl)
        have d17 := h2.call.cell 17 (.map (some mb)) rfl
        have d23 := h2.call.cell 23 (.int .i64 S.last) rfl
        have d24 := h2.call.cell 24 (.bool S.over) rfl
        have d25 := h2.call.cell 25 (.int .i64 S.end_) rfl
        have g24 := h2.call.free 24
        have g25 := h2.call.free 25
        have H3 := Lib.hid ((h2.set 24 (.bool true) (S' := { S with due := false, over := true }) rfl rfl).set 25 (.int .i64 S.last) (S' := { S with due := false, over := true, end_ := S.last }) rfl rfl)
        clear h2 hlen
        go_wp2_with fail
        first | go_end0 | (refine bodyPost_ret (results_none rfl _ _ _) rfl ?_)
        rw [HG'.out.s, HG'.out.k, HG'.out.l, List.append_nil]
        exact ⟨rfl, H3.out⟩
      · have HG' : Hid (GoR S now B { S with due := false } B []) := by
          have h := HG.out
          have e : (if CS.mayS { S with due := false } now B = true then CS.furS { S with due := false } now B else if S.open_.isEmpty = true then { S with due := false, over := true, end_ := S.last } else { S with due := false }) = { S with due := false } := by
            rw [hm, if_neg (by decide), if_neg (by intro e; exact ho (List.isEmpty_iff.1 e))]
          rw [e, HR.out.k, HR.out.l] at h
          exact h
        have hzz : ((S.open_.length : Int) == 0) = false := by rw [beq_eq_false_iff_ne]; intro e; exact ho (List.eq_nil_of_length_eq_zero (by omega))
        obtain ⟨K, hK⟩ : ∃ K : Int, K = S.open_.length := ⟨_, rfl⟩
        have HK := Lib.hid hK
        rw [← hK] at hzz
        clear ho HG hK
        go_enter Tryz.func38, Tryz.ntmps38
        go_wp2_with fail
        refine HFU.out.mono ?_
        rintro e w2 ⟨rfl, h2⟩
        rw [HR.out.s, HR.out.k, HR.out.l, List.append_nil] at h2
        have H2 := Lib.hid h2
        have hlen := open_len h2.call
        have hlen0 : _ = Result.ok (Value.int .i64 K) w2 := hlen.trans (by rw [HK.out])
        have d17 := h2.call.cell 17 (.map (some mb)) rfl
        clear h2 hlen
        go_wp2_with fail
        first | go_end0 | (refine bodyPost_ret (results_none rfl _ _ _) rfl ?_)
        rw [HG'.out.s, HG'.out.k, HG'.out.l, List.append_nil]
        exact ⟨rfl, H2.out⟩
  | false =>
    have HBES := Lib.hid (beside_any H.out.call hok)
    cases hd : S.due with
    | false =>
      rw [hd] at c21
      go_enter Tryz.func38, Tryz.ntmps38
      go_wp2_with fail
      refine HBES.out.mono ?_
      rintro e w2 ⟨rfl, hb2⟩
      have H2 := Lib.hid (H.out.keep hb2)
      clear hb2
      cases hh : S.hasBeside with
      | false =>
        have HG := Lib.hid (goR_not (B := B) hdd (by rw [hh]; rfl))
        go_wp2_with fail
        go_end0
        rw [HG.out.s, HG.out.k, HG.out.l, List.append_nil]
        exact ⟨rfl, H2.out⟩
      | true =>
        cases ht : decide (S.besideT ≤ now) with
        | false =>
          have HG := Lib.hid (goR_not (B := B) hdd (by rw [hh, ht]; rfl))
          go_wp2_with fail
          go_end0
          rw [HG.out.s, HG.out.k, HG.out.l, List.append_nil]
          exact ⟨rfl, H2.out⟩
        | true =>
          have HFU := Lib.hid (further_any H2.out hok hB hL now)
          cases hm : S.mayS now B with
          | true =>
            have HG := Lib.hid (goR_beside hdd (by rw [hh, ht]; rfl) (furR_any S now B))
            rw [hm, if_pos rfl] at HG
            rw [hm] at HFU
            go_wp2_with fail
            refine HFU.out.mono ?_
            rintro e w3 ⟨rfl, h3⟩
            have H3 := Lib.hid h3
            clear h3
            go_wp2_with fail
            go_end0
            rw [HG.out.s, HG.out.k, HG.out.l]
            exact ⟨rfl, H3.out⟩
          | false =>
            have HR := Lib.hid (furR_no hm)
            have HG := Lib.hid (goR_beside hdd (by rw [hh, ht]; rfl) HR.out)
            rw [if_neg (by decide)] at HG
            rw [hm] at HFU
            go_wp2_with fail
            refine HFU.out.mono ?_
            rintro e w3 ⟨rfl, h3⟩
            rw [HR.out.s, HR.out.k, HR.out.l, List.append_nil] at h3
            have d20 := h3.call.cell 20 (.int .i64 S.frm) rfl
            have g20 := h3.call.free 20
            have H3 := Lib.hid (h3.set 20 (.int .i64 now) (S' := { S with frm := now }) rfl rfl)
            clear h3
            go_wp2_with fail
            go_end0
            rw [HG.out.s, HG.out.k, HG.out.l, List.append_nil]
            exact ⟨rfl, H3.out⟩
    | true =>
      have hle : decide (S.dueAt ≤ now) = false := by rw [hd, Bool.true_and] at hdd; exact hdd
      rw [hd] at c21
      go_enter Tryz.func38, Tryz.ntmps38
      go_wp2_with fail
      refine HBES.out.mono ?_
      rintro e w2 ⟨rfl, hb2⟩
      have H2 := Lib.hid (H.out.keep hb2)
      clear hb2
      cases hh : S.hasBeside with
      | false =>
        have HG := Lib.hid (goR_not (B := B) hdd (by rw [hh]; rfl))
        go_wp2_with fail
        go_end0
        rw [HG.out.s, HG.out.k, HG.out.l, List.append_nil]
        exact ⟨rfl, H2.out⟩
      | true =>
        cases ht : decide (S.besideT ≤ now) with
        | false =>
          have HG := Lib.hid (goR_not (B := B) hdd (by rw [hh, ht]; rfl))
          go_wp2_with fail
          go_end0
          rw [HG.out.s, HG.out.k, HG.out.l, List.append_nil]
          exact ⟨rfl, H2.out⟩
        | true =>
          have HFU := Lib.hid (further_any H2.out hok hB hL now)
          cases hm : S.mayS now B with
          | true =>
            have HG := Lib.hid (goR_beside hdd (by rw [hh, ht]; rfl) (furR_any S now B))
            rw [hm, if_pos rfl] at HG
            rw [hm] at HFU
            go_wp2_with fail
            refine HFU.out.mono ?_
            rintro e w3 ⟨rfl, h3⟩
            have H3 := Lib.hid h3
            clear h3
            go_wp2_with fail
            go_end0
            rw [HG.out.s, HG.out.k, HG.out.l]
            exact ⟨rfl, H3.out⟩
          | false =>
            have HR := Lib.hid (furR_no hm)
            have HG := Lib.hid (goR_beside hdd (by rw [hh, ht]; rfl) HR.out)
            rw [if_neg (by decide)] at HG
            rw [hm] at HFU
            go_wp2_with fail
            refine HFU.out.mono ?_
            rintro e w3 ⟨rfl, h3⟩
            rw [HR.out.s, HR.out.k, HR.out.l, List.append_nil] at h3
            have d20 := h3.call.cell 20 (.int .i64 S.frm) rfl
            have g20 := h3.call.free 20
            have H3 := Lib.hid (h3.set 20 (.int .i64 now) (S' := { S with frm := now }) rfl rfl)
            clear h3
            go_wp2_with fail
            go_end0
            rw [HG.out.s, HG.out.k, HG.out.l, List.append_nil]
            exact ⟨rfl, H3.out⟩

end Go.Proofs.YtkpjjhiighakfaaGreatDoor
