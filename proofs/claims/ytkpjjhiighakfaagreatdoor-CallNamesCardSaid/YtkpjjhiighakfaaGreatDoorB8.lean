/- further. -/
import Derived.Test.YtkpjjhiighakfaaGreatDoorB7
namespace Go.Proofs.YtkpjjhiighakfaaGreatDoor
open Go.RowKit
attribute [local go_sem ↓] Go.wp_at_zero Go.wp_at_succ

/-- The bucket alone has turned. -/
theorem CW.bucket {w0 : Base} {wi w' : World} {cb mb bb lb : Nat} {S : CS} {B B' : Bk} {L : List Ac} (h : CW w0 wi cb mb bb lb S B L) (hf : Fr (fun k => k = bb) wi w') (hb : BkAt w' bb B') : CW w0 w' cb mb bb lb S B' L := by
  obtain ⟨h1, _, ⟨u, sb, h3, h4, h5⟩, h6, h6', h7, h8⟩ := h
  have hlw : lb < wi.heap.size := (Array.getElem?_eq_some_iff.1 h3).1
  exact ⟨h1.keep (hf.block _ h1.lt.1 h7.2.1) (hf.block _ h1.lt.2 h7.2.2), hb, ⟨u, sb, (hf.block _ hlw (fun e => h6.2 (.inr (.inr e)))).trans h3, h4.below (fun g hg => hf.block g (h4.lt g hg) (fun e => (h5 g hg).2.2 (.inr (.inr e)))), h5⟩, h6, h6', h7,
    h8.trans hf (fun b h => .inl (by rw [h]; exact h6'.2.2))⟩

def CS.mayS (S : CS) (now : Int) (B : Bk) : Bool := S.more && decide (now < S.c.dl) && B.may
def CS.furS (S : CS) (now : Int) (B : Bk) : CS := if S.mayS now B then CS.att { S with left := S.left - 1 } now else S
def CS.furB (S : CS) (now : Int) (B : Bk) : Bk := if S.mayS now B then B.take else B
def CS.furL (S : CS) (now : Int) (B : Bk) : List Ac := if S.mayS now B then [⟨1, 0, CS.cx { S with left := S.left - 1 }, 0⟩] else []

theorem take_no {B : Bk} (h : B.may = false) : B.take = B := by
  unfold Bk.may at h; unfold Bk.take
  rw [if_neg (of_decide_eq_false h)]

structure FurR (S : CS) (now : Int) (B : Bk) (b : Bool) (S' : CS) (B' : Bk) (l : List Ac) : Prop where
  b : S.mayS now B = b
  s : S.furS now B = S'
  k : S.furB now B = B'
  l : S.furL now B = l

theorem furR_no {S : CS} {now : Int} {B : Bk} (h : S.mayS now B = false) : FurR S now B false S B [] := by
  refine ⟨h, ?_, ?_, ?_⟩
  · unfold CS.furS; rw [h]; rfl
  · unfold CS.furB; rw [h]; rfl
  · unfold CS.furL; rw [h]; rfl
theorem furR_yes {S : CS} {now : Int} {B : Bk} (h : S.mayS now B = true) : FurR S now B true (CS.att { S with left := S.left - 1 } now) B.take [⟨1, 0, CS.cx { S with left := S.left - 1 }, 0⟩] := by
  refine ⟨h, ?_, ?_, ?_⟩
  · unfold CS.furS; rw [h]; rfl
  · unfold CS.furB; rw [h]; rfl
  · unfold CS.furL; rw [h]; rfl

set_option maxRecDepth 8000 in
set_option maxHeartbeats 2000000 in
theorem further_any {w0 : Base} {wi : World} {cb mb bb lb : Nat} {S : CS} {B : Bk} {L : List Ac} (h : CW w0 wi cb mb bb lb S B L) (hok : S.Ok) (hB : B.Ok) (hL : L.length ≤ 1000) (now : Int) :
    Calls Tryz.prog 53 #[.pointer (some ⟨cb, 0, none⟩), .int .i64 now, .func (.func 28) #[] #[.pointer (some ⟨lb, 0, none⟩)]] wi fun e w' => e = .returned (.bool (S.mayS now B)) ∧ CW w0 w' cb mb bb lb (S.furS now B) (S.furB now B) (L ++ S.furL now B) := by
  have c5 := h.call.cell 5 (.int .i64 S.c.dl) rfl
  have c16 := h.call.cell 16 (.pointer (some ⟨bb, 0, none⟩)) rfl
  have HMO := Lib.hid (more_any h.call)
  have H := Lib.hid h
  clear h
  cases hmo : S.more with
  | false =>
    have HR := Lib.hid (furR_no (S := S) (now := now) (B := B) (by unfold CS.mayS; rw [hmo]; rfl))
    rw [hmo] at HMO
    go_enter Tryz.func53, Tryz.ntmps53
    go_wp2_with fail
    refine HMO.out.mono ?_
    rintro e w' ⟨rfl, hb⟩
    go_wp2_with fail
    go_ret
    rw [HR.out.b, HR.out.s, HR.out.k, HR.out.l, List.append_nil]
    exact ⟨rfl, H.out.keep hb⟩
  | true =>
    rw [hmo] at HMO
    by_cases hd : S.c.dl ≤ now
    · have HR := Lib.hid (furR_no (S := S) (now := now) (B := B) (by unfold CS.mayS; rw [decide_eq_false (by omega : ¬ now < S.c.dl), Bool.and_false]; rfl))
      go_enter Tryz.func53, Tryz.ntmps53
      go_wp2_with fail
      refine HMO.out.mono ?_
      rintro e w' ⟨rfl, hb⟩
      have d5 := bkeep hb c5
      go_wp2_with fail
      go_ret
      rw [HR.out.b, HR.out.s, HR.out.k, HR.out.l, List.append_nil]
      exact ⟨rfl, H.out.keep hb⟩
    · have hlt : now < S.c.dl := by omega
      have hmay : S.mayS now B = B.may := by unfold CS.mayS; rw [hmo, decide_eq_true hlt]; rfl
      have HMAY := Lib.hid hmay
      have hlm : 1 ≤ S.left ∧ S.made < S.p.tries := by
        unfold CS.more at hmo
        simp only [Bool.and_eq_true, decide_eq_true_eq] at hmo
        exact ⟨hmo.2, hmo.1⟩
      obtain ⟨hl1, hm1⟩ := hlm
      have HM8 := Lib.hid (show S.made < 8 by have := hok.tries; omega)
      have hdf : decide (S.c.dl ≤ now) = false := decide_eq_false hd
      clear hmay hd
      cases hbm : B.may with
      | false =>
        have HR := Lib.hid (furR_no (S := S) (now := now) (B := B) (by rw [HMAY.out, hbm]))
        go_enter Tryz.func53, Tryz.ntmps53
        go_wp2_with fail
        refine HMO.out.mono ?_
        rintro e w' ⟨rfl, hb⟩
        have d5 := bkeep hb c5
        have d16 := bkeep hb c16
        have H1 := Lib.hid (H.out.keep hb)
        go_wp2_with fail
        refine (take_any H1.out.bk hB).mono ?_
        rintro e w2 ⟨rfl, hb2, hf2⟩
        rw [take_no hbm] at hb2
        have H2 := Lib.hid (H1.out.bucket hf2 hb2)
        rw [hbm]
        clear hb2 hf2
        go_wp2_with fail
        go_ret
        rw [HR.out.b, HR.out.s, HR.out.k, HR.out.l, List.append_nil]
        exact ⟨rfl, H2.out⟩
      | true =>
        have HR := Lib.hid (furR_yes (S := S) (now := now) (B := B) (by rw [HMAY.out, hbm]))
        have hl2 := hok.left.2
        go_enter Tryz.func53, Tryz.ntmps53
        go_wp2_with fail
        refine HMO.out.mono ?_
        rintro e w' ⟨rfl, hb⟩
        have d5 := bkeep hb c5
        have d16 := bkeep hb c16
        have H1 := Lib.hid (H.out.keep hb)
        go_wp2_with fail
        refine (take_any H1.out.bk hB).mono ?_
        rintro e w2 ⟨rfl, hb2, hf2⟩
        have H2 := Lib.hid (H1.out.bucket hf2 hb2)
        rw [hbm]
        have e19 := H2.out.call.cell 19 (.int .i64 S.left) rfl
        have ef19 := H2.out.call.free 19
        have H3 := Lib.hid (H2.out.set 19 (.int .i64 (S.left - 1)) (S' := { S with left := S.left - 1 }) rfl rfl)
        have hok3 : CS.Ok { S with left := S.left - 1 } := { hok with left := by show 0 ≤ S.left - 1 ∧ S.left - 1 ≤ 1000; omega }
        have HOK3 := Lib.hid hok3
        clear hb2 hf2 hok3
        go_wp2_with fail
        refine (attempt_any H3.out HOK3.out HM8.out hL now).mono ?_
        rintro e w4 ⟨rfl, hfin⟩
        have HFIN := Lib.hid hfin
        clear hfin
        go_wp2_with fail
        go_ret
        rw [HR.out.b, HR.out.s, HR.out.k, HR.out.l]
        exact ⟨rfl, HFIN.out⟩

end Go.Proofs.YtkpjjhiighakfaaGreatDoor
