/- CallBack: the plain law. -/
import Derived.Test.YtipmajcefcfnlaaB31
namespace Go.Proofs.Ytipmajcefcfnlaa
open Go.RowKit

structure BackS (x : Cx) (y : Pol) (S : CS) (n t : Int) : Prop where
  c : S.c = x
  p : S.p = y
  op : ∃ c1, S.open_ = [(n, t, c1)]
  made : S.made = n
  due : S.due = false
  over : S.over = false
  ok : S.Ok

/-- When it is due. -/
def dueT (y : Pol) (n now not_ : Int) : Int := max not_ (now + y.back * 2 ^ (n.toNat - 1))
/-- What waits for its next attempt. -/
def CS.wait1 (S : CS) (at_ : Int) : CS := { S with open_ := [], last := 35, due := true, dueAt := at_ }

theorem act_on {S S1 : CS} (h : S.over = false) (h1 : S1.over = false) (l : List Ac) : actS S S1 = S1 ∧ actL S S1 l = l ++ [⟨2, S1.nextT, cx0, 0⟩] := by
  unfold actS actL CS.fin CS.finL
  rw [h, h1]; exact ⟨rfl, rfl⟩

theorem back_ans {x : Cx} {y : Pol} {S : CS} {n t : Int} (h : BackS x y S n t) (hy : y.hedge ≤ 0) (now not_ : Int) :
    (actS S (S.ansS now n 35 not_)).over = true ∨ (actS S (S.ansS now n 35 not_) = S.wait1 (dueT y n now not_) ∧ dueT y n now not_ < x.dl ∧ S.more = true ∧ actL S (S.ansS now n 35 not_) [] = [⟨2, dueT y n now not_, cx0, 0⟩]) := by
  obtain ⟨h1, h2, ⟨c1, h3⟩, h4, h5, h6, h7⟩ := h
  have hk : S.hasK n = true := by unfold CS.hasK; rw [h3]; simp
  have hdel : S.del n = { S with open_ := [] } := by unfold CS.del; rw [h3]; simp
  have e : S.ansS now n 35 not_ = CS.failS { S with open_ := [] } now 35 not_ := by
    unfold CS.ansS
    rw [hk, hdel]; rfl
  have hat : CS.at_ { S with open_ := [], last := 35 } now not_ = dueT y n now not_ := by
    unfold CS.at_ dueT
    show max not_ (now + S.p.back * 2 ^ (S.made.toNat - 1)) = _
    rw [h2, h4]
  have hmo : CS.more { S with open_ := [], last := 35 } = S.more := rfl
  have hf : finalE 35 = false := rfl
  rw [e]
  cases hm : S.more with
  | false =>
    left
    have hb : CS.againB { S with open_ := [], last := 35 } now not_ = false := by
      unfold CS.againB; rw [hmo, hm]; show (if (S.due || true) = true then S.due else _) = false; rw [h5]; rfl
    rw [failS_empty (S := { S with open_ := [] }) hf hb rfl]
    unfold actS CS.fin
    rw [h6]; rfl
  | true =>
    by_cases hd : x.dl ≤ dueT y n now not_
    · left
      have hb : CS.againB { S with open_ := [], last := 35 } now not_ = false := by
        unfold CS.againB; rw [hmo, hm, hat]
        show (if (S.due || false) = true then S.due else !decide (S.c.dl ≤ dueT y n now not_)) = false
        rw [h5, h1, decide_eq_true hd]; rfl
      rw [failS_empty (S := { S with open_ := [] }) hf hb rfl]
      unfold actS CS.fin
      rw [h6]; rfl
    · right
      have hb : CS.againB { S with open_ := [], last := 35 } now not_ = true := by
        unfold CS.againB; rw [hmo, hm, hat]
        show (if (S.due || false) = true then S.due else !decide (S.c.dl ≤ dueT y n now not_)) = true
        rw [h5, h1, decide_eq_false hd]; rfl
      have hs : CS.againS { S with open_ := [], last := 35 } now not_ = S.wait1 (dueT y n now not_) := by
        unfold CS.againS; rw [hmo, hm, hat]
        show (if (S.due || false) = true then _ else if S.c.dl ≤ dueT y n now not_ then _ else _) = _
        rw [if_neg (by rw [h5]; decide), if_neg (by rw [h1]; exact hd)]; rfl
      rw [failS_again (S := { S with open_ := [] }) hf hb]
      have hs' : CS.againS { c := S.c, p := S.p, open_ := [], made := S.made, left := S.left, frm := S.frm, due := S.due, dueAt := S.dueAt, last := 35, over := S.over, end_ := S.end_ } now not_ = S.wait1 (dueT y n now not_) := hs
      rw [hs']
      have ha := act_on (S := S) (S1 := S.wait1 (dueT y n now not_)) h6 h6 []
      have hnx : (S.wait1 (dueT y n now not_)).nextT = dueT y n now not_ := by
        unfold CS.nextT
        rw [has_hedge (S := S.wait1 _) (by show S.p.hedge ≤ 0; rw [h2]; exact hy)]
        unfold CS.nextD CS.wait1
        show min (minA [] S.p.tmo S.c.dl) (dueT y n now not_) = _
        unfold minA
        rw [List.foldl_nil, h1]
        omega
      rw [hnx] at ha
      exact ⟨ha.1, by omega, rfl, ha.2⟩

theorem toS_nil {S : CS} (h : S.open_ = []) (now : Int) : S.toS now = (S, []) := by unfold CS.toS; rw [h]; rfl

theorem back_early {x : Cx} {y : Pol} {S : CS} {n t : Int} (h : BackS x y S n t) {now at_ : Int} (h1 : now < at_) (h2 : at_ < x.dl) (B : Bk) :
    actS (S.wait1 at_) ((S.wait1 at_).wakeS now B) = S.wait1 at_ ∧ actB (S.wait1 at_) B ((S.wait1 at_).wakeB now B) = B ∧ actL (S.wait1 at_) ((S.wait1 at_).wakeS now B) ((S.wait1 at_).wakeL now B) = [⟨2, at_, cx0, 0⟩] := by
  obtain ⟨g1, g2, _, g4, g5, g6, g7⟩ := h
  have hdl : ¬ (S.wait1 at_).c.dl ≤ now := by show ¬ S.c.dl ≤ now; rw [g1]; omega
  have hto := toS_nil (S := S.wait1 at_) rfl now
  have hd : ((S.wait1 at_).due && decide ((S.wait1 at_).dueAt ≤ now)) = false := by
    show (true && decide (at_ ≤ now)) = false
    rw [Bool.true_and]; exact decide_eq_false (by omega)
  have hb : ((S.wait1 at_).hasBeside && decide ((S.wait1 at_).besideT ≤ now)) = false := by rw [has_open (S := S.wait1 at_) rfl]; rfl
  have hg := goR_not (B := B) hd hb
  have ho : (S.wait1 at_).over = false := g6
  have e : (S.wait1 at_).wakeS now B = S.wait1 at_ ∧ (S.wait1 at_).wakeB now B = B ∧ (S.wait1 at_).wakeL now B = [] := by
    unfold CS.wakeS CS.wakeB CS.wakeL
    rw [if_neg hdl, if_neg hdl, if_neg hdl, hto]
    show (if (S.wait1 at_).over = true then _ else _) = _ ∧ (if (S.wait1 at_).over = true then _ else _) = _ ∧ (if (S.wait1 at_).over = true then _ else _) = _
    rw [ho]
    exact ⟨hg.s, hg.k, by rw [if_neg (by decide)]; exact hg.l⟩
  rw [e.1, e.2.1, e.2.2]
  have ha := act_on ho ho []
  have hnx : (S.wait1 at_).nextT = at_ := by
    unfold CS.nextT
    rw [has_open (S := S.wait1 at_) rfl]
    unfold CS.nextD CS.wait1
    show min (minA [] S.p.tmo S.c.dl) at_ = _
    unfold minA
    rw [List.foldl_nil, g1]
    omega
  rw [hnx] at ha
  refine ⟨ha.1, ?_, ha.2⟩
  unfold actB; rw [ho]; rfl

theorem back_next {x : Cx} {y : Pol} {S : CS} {n t : Int} (h : BackS x y S n t) (hm : S.more = true) {at_ : Int} (ha0 : -1000000000 ≤ at_ ∧ at_ ≤ 1000000) (h2 : at_ < x.dl) (B : Bk) :
    (B.may = true → BackS x y (actS (S.wait1 at_) ((S.wait1 at_).wakeS at_ B)) (n + 1) at_ ∧ ∃ a F, actL (S.wait1 at_) ((S.wait1 at_).wakeS at_ B) ((S.wait1 at_).wakeL at_ B) = a :: F ∧ a.what = 1) ∧
    (B.may = false → (actS (S.wait1 at_) ((S.wait1 at_).wakeS at_ B)).over = true ∧ (actS (S.wait1 at_) ((S.wait1 at_).wakeS at_ B)).end_ = 35 ∧ (actS (S.wait1 at_) ((S.wait1 at_).wakeS at_ B)).made = n) := by
  obtain ⟨g1, g2, _, g4, g5, g6, g7⟩ := h
  have hwok : (S.wait1 at_).Ok := { g7 with dueAt := fun _ => ⟨ha0.1, by show at_ ≤ _; omega⟩, keys := List.Pairwise.nil, keyb := fun x hx => (by cases hx), ats := fun x hx => (by cases hx) }
  have hdl : ¬ (S.wait1 at_).c.dl ≤ at_ := by show ¬ S.c.dl ≤ at_; rw [g1]; omega
  have hto := toS_nil (S := S.wait1 at_) rfl at_
  have hd : ((S.wait1 at_).due && decide ((S.wait1 at_).dueAt ≤ at_)) = true := by
    show (true && decide (at_ ≤ at_)) = true
    rw [Bool.true_and]; exact decide_eq_true (Int.le_refl _)
  have ho : (S.wait1 at_).over = false := g6
  have e : (S.wait1 at_).wakeS at_ B = (S.wait1 at_).goS at_ B ∧ (S.wait1 at_).wakeL at_ B = (S.wait1 at_).goL at_ B := by
    unfold CS.wakeS CS.wakeL
    rw [if_neg hdl, if_neg hdl, hto]
    show (if (S.wait1 at_).over = true then _ else _) = _ ∧ (if (S.wait1 at_).over = true then _ else _) = _
    rw [ho]
    exact ⟨rfl, rfl⟩
  have hmay : CS.mayS { S.wait1 at_ with due := false } at_ B = B.may := by
    unfold CS.mayS
    show (S.more && decide (at_ < S.c.dl) && B.may) = B.may
    rw [hm, g1, decide_eq_true h2]; rfl
  have hgr := goR_due hd (furR_any { S.wait1 at_ with due := false } at_ B)
  rw [hmay] at hgr
  have hok' := hwok.act (hwok.wake ha0 B)
  constructor
  · intro hb
    rw [hb, if_pos rfl] at hgr
    rw [hb] at hmay
    have hr := furR_yes hmay
    have eS : (S.wait1 at_).wakeS at_ B = CS.att { ({ S.wait1 at_ with due := false } : CS) with left := S.left - 1 } at_ := by
      rw [e.1, hgr.s]; exact hr.s
    have eL : (S.wait1 at_).wakeL at_ B = [⟨1, 0, CS.cx { ({ S.wait1 at_ with due := false } : CS) with left := S.left - 1 }, 0⟩] := by
      rw [e.2, hgr.l]; exact hr.l
    have ha := act_on ho (S1 := (S.wait1 at_).wakeS at_ B) (by rw [eS]; exact g6) ((S.wait1 at_).wakeL at_ B)
    refine ⟨⟨?_, ?_, ?_, ?_, ?_, ?_, hok'⟩, ?_⟩
    · rw [ha.1, eS]; exact g1
    · rw [ha.1, eS]; exact g2
    · rw [ha.1, eS]
      refine ⟨CS.cx { ({ S.wait1 at_ with due := false } : CS) with left := S.left - 1 }, ?_⟩
      show [] ++ [(S.made + 1, at_, _)] = _
      rw [g4]; rfl
    · rw [ha.1, eS]; show S.made + 1 = _; rw [g4]
    · rw [ha.1, eS]; rfl
    · rw [ha.1, eS]; exact g6
    · rw [ha.2, eL]; exact ⟨_, _, rfl, rfl⟩
  · intro hb
    rw [hb] at hgr hmay
    have eS : (S.wait1 at_).wakeS at_ B = { S.wait1 at_ with due := false, over := true, end_ := 35 } := by
      rw [e.1, hgr.s]; rfl
    rw [eS]
    unfold actS CS.fin
    rw [ho]
    exact ⟨rfl, rfl, g4⟩

end Go.Proofs.Ytipmajcefcfnlaa
