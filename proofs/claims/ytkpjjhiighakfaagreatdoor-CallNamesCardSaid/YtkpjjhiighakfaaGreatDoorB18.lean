/- The closures of Begin, Answer, Wake; gather. -/
import Derived.Test.YtkpjjhiighakfaaGreatDoorB17
namespace Go.Proofs.YtkpjjhiighakfaaGreatDoor
open Go.RowKit
attribute [local go_sem ↓] Go.wp_at_zero Go.wp_at_succ

/-- Boxes that a closure has captured: they lie apart from all that is written. -/
structure Caught (w0 : Base) (k : Nat) : Prop where
  lt : k < w0.w.heap.size
  not : ¬ w0.P k

theorem CW.caught {w0 : Base} {wi : World} {cb mb bb lb : Nat} {S : CS} {B : Bk} {L : List Ac} (h : CW w0 wi cb mb bb lb S B L) {k o : Nat} (hk : Caught w0 k) {v : Value} (hv : w0.w.cell? ⟨k, o, none⟩ = some v) : wi.cell? ⟨k, o, none⟩ = some v :=
  h.fr.cell hv hk.not

theorem CW.drew {w0 : Base} {wi : World} {cb mb bb lb : Nat} {S : CS} {B : Bk} {L : List Ac} (h : CW w0 wi cb mb bb lb S B L) : CW w0 wi.drew cb mb bb lb S B L := h.keep (Below.refl _ _).drew

/-- Begin's. -/
def CS.beginS (S : CS) (now : Int) : CS := if S.c.dl ≤ now then { S with over := true, end_ := 32 } else S.att now
def CS.beginL (S : CS) (now : Int) : List Ac := if S.c.dl ≤ now then [] else [⟨1, 0, S.cx, 0⟩]

set_option maxRecDepth 8000 in
set_option maxHeartbeats 2000000 in
theorem begin1_any {w0 : Base} {wi : World} {cb mb bb lb kn kc : Nat} {S : CS} {B : Bk} {L : List Ac} (h : CW w0 wi cb mb bb lb S B L) (hok : S.Ok) (hm : S.made < 8) (hL : L.length ≤ 900) (now : Int) (h1 : Caught w0 kn) (h2 : Caught w0 kc) (hn : w0.w.cell? ⟨kn, 0, none⟩ = some (.int .i64 now)) (hc : w0.w.cell? ⟨kc, 0, none⟩ = some (.pointer (some ⟨cb, 0, none⟩))) :
    Calls Tryz.prog 17 #[.func (.func 28) #[] #[.pointer (some ⟨lb, 0, none⟩)], .pointer (some ⟨kn, 0, none⟩), .pointer (some ⟨kc, 0, none⟩)] wi fun e w' => e = .returned (.tuple #[]) ∧ CW w0 w' cb mb bb lb (S.beginS now) B (L ++ S.beginL now) := by
  have cn := h.caught h1 hn
  have cc := h.caught h2 hc
  have c5 := h.call.cell 5 (.int .i64 S.c.dl) rfl
  have c24 := h.call.cell 24 (.bool S.over) rfl
  have c25 := h.call.cell 25 (.int .i64 S.end_) rfl
  have f24 := h.call.free 24
  have f25 := h.call.free 25
  have H := Lib.hid h
  by_cases hd : S.c.dl ≤ now
  · have HE : Hid (S.beginS now = { S with over := true, end_ := 32 } ∧ S.beginL now = []) := by unfold CS.beginS CS.beginL; rw [if_pos hd, if_pos hd]; exact ⟨rfl, rfl⟩
    have t1 : decide (S.c.dl ≤ now) = true := decide_eq_true hd
    clear h
    go_enter Tryz.func17, Tryz.ntmps17
    go_wp2_with fail
    go_quiet (fail)
    go_wp2_with fail
    go_region
    go_wp2_with fail
    first | go_end0 | (refine bodyPost_ret (results_none rfl _ _ _) rfl ?_)
    rw [HE.out.1, HE.out.2, List.append_nil]
    exact ⟨rfl, ((H.out.keep (below_drewN (nq := nq) (Below.refl _ _))).drew.set 24 (.bool true) (S' := { S with over := true }) rfl rfl).set 25 (.int .i64 32) (S' := { S with over := true, end_ := 32 }) rfl rfl⟩
  · have HE : Hid (S.beginS now = S.att now ∧ S.beginL now = [⟨1, 0, S.cx, 0⟩]) := by unfold CS.beginS CS.beginL; rw [if_neg hd, if_neg hd]; exact ⟨rfl, rfl⟩
    have t1 : decide (S.c.dl ≤ now) = false := decide_eq_false hd
    clear h
    go_enter Tryz.func17, Tryz.ntmps17
    go_wp2_with fail
    go_quiet (fail)
    go_wp2_with fail
    refine (attempt_any (H.out.keep (below_drewN (nq := nq) (Below.refl _ _))) hok hm (by omega) now).mono ?_
    rintro e w' ⟨rfl, hw⟩
    have HW := Lib.hid hw
    clear hw
    go_wp2_with fail
    go_end0
    rw [HE.out.1, HE.out.2]
    exact ⟨rfl, HW.out⟩

end Go.Proofs.YtkpjjhiighakfaaGreatDoor
