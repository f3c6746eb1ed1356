/- beside, final, Tryz. -/
import Derived.Test.YtkpjjhiighakfaaGreatDoorB3
import Derived.Handy
namespace Go.Proofs.YtkpjjhiighakfaaGreatDoor
open Go.RowKit
attribute [local go_sem ↓] Go.wp_at_zero Go.wp_at_succ

theorem map_len {w : World} {mb : Nat} {m : List (Int × Value)} (h : MapAt mapI w mb m) (t ty k e : TypeId) (ht : Tryz.prog.underlying t = some (.map k e)) :
    (Builtin.len_ #[t] ty #[.map (some mb)]).run Tryz.prog w = .ok (.int .i64 m.length) w := by
  obtain ⟨_, es, clock, hb, he, _⟩ := h
  have hs : es.size = m.length := by have := congrArg List.length he; simpa using this
  rw [← hs]
  simp [Builtin.len_, run_underlying ht, MapKept.run_getObj_map hb, goInt, Result.andThen]

theorem open_len {w : World} {cb mb bb : Nat} {S : CS} (h : CallW w cb mb bb S) :
    (Builtin.len_ #[54] 3 #[.map (some mb)]).run Tryz.prog w = .ok (.int .i64 S.open_.length) w := by
  have := map_len h.map 54 3 _ _ Tryz.underlying54
  unfold openM at this
  rwa [List.length_map] at this

/-- What beside tells. -/
def CS.besideT (S : CS) : Int := if S.hasBeside then S.frm + S.p.hedge else 0
theorem besideT_no {S : CS} (h : S.hasBeside = false) : S.besideT = 0 := by unfold CS.besideT; rw [h]; rfl
theorem besideT_yes {S : CS} (h : S.hasBeside = true) : S.besideT = S.frm + S.p.hedge := by unfold CS.besideT; rw [h]; rfl
theorem has_hedge {S : CS} (h : S.p.hedge ≤ 0) : S.hasBeside = false := by unfold CS.hasBeside; rw [decide_eq_false (by omega : ¬ 0 < S.p.hedge), Bool.false_and, Bool.false_and]
theorem has_open {S : CS} (h : S.open_ = []) : S.hasBeside = false := by unfold CS.hasBeside; rw [h]; simp
theorem has_more {S : CS} (h : S.more = false) : S.hasBeside = false := by unfold CS.hasBeside; rw [h, Bool.and_false]
theorem has_yes {S : CS} (h1 : ¬ S.p.hedge ≤ 0) (h2 : ¬ S.open_ = []) (h : S.more = true) : S.hasBeside = true := by
  unfold CS.hasBeside
  rw [h, decide_eq_true (by omega : 0 < S.p.hedge)]
  cases hl : S.open_ with
  | nil => exact absurd hl h2
  | cons a l => rfl

set_option maxRecDepth 8000 in
theorem beside_any {w : World} {cb mb bb : Nat} {S : CS} (h : CallW w cb mb bb S) (hok : S.Ok) :
    Calls Tryz.prog 48 #[.pointer (some ⟨cb, 0, none⟩)] w fun e w' => e = .returned (.tuple #[.int .i64 S.besideT, .bool S.hasBeside]) ∧ Below w.heap.size w w' := by
  have c1 := h.cell 12 (.int .i64 S.p.hedge) rfl
  have c2 := h.cell 17 (.map (some mb)) rfl
  have c3 := h.cell 20 (.int .i64 S.frm) rfl
  have hlen := open_len h
  have hh := hok.hedge
  have hf := hok.frm
  have HMO := Lib.hid (more_any h)
  clear h hok
  by_cases h1 : S.p.hedge ≤ 0
  · have t1 : decide (S.p.hedge ≤ 0) = true := decide_eq_true h1
    have HM := Lib.hid (has_hedge h1)
    go_enter Tryz.func48, Tryz.ntmps48
    go_wp2_with fail
    go_ret2
    rw [HM.out, besideT_no HM.out]
    exact ⟨rfl, Below.refl _ _⟩
  · have t1 : decide (S.p.hedge ≤ 0) = false := decide_eq_false h1
    by_cases h2 : S.open_ = []
    · have HM := Lib.hid (has_open h2)
      rw [h2] at hlen
      replace hlen : _ = Result.ok (Value.int .i64 0) w := hlen
      clear h2
      go_enter Tryz.func48, Tryz.ntmps48
      go_wp2_with fail
      go_ret2
      rw [HM.out, besideT_no HM.out]
      exact ⟨rfl, Below.refl _ _⟩
    · have hzz : ((S.open_.length : Int) == 0) = false := by rw [beq_eq_false_iff_ne]; intro e; exact h2 (List.eq_nil_of_length_eq_zero (by omega))
      obtain ⟨L, hL⟩ : ∃ L : Int, L = S.open_.length := ⟨_, rfl⟩
      rw [← hL] at hlen hzz
      have H2 := Lib.hid h2
      clear h2 hL
      cases hm : S.more with
      | false =>
        have HM := Lib.hid (has_more hm)
        rw [hm] at HMO
        go_enter Tryz.func48, Tryz.ntmps48
        go_wp2_with fail
        refine HMO.out.mono ?_
        rintro e w' ⟨rfl, hb⟩
        go_wp2_with fail
        go_ret2
        rw [HM.out, besideT_no HM.out]
        exact ⟨rfl, hb⟩
      | true =>
        have HM := Lib.hid (has_yes h1 H2.out hm)
        rw [hm] at HMO
        go_enter Tryz.func48, Tryz.ntmps48
        go_wp2_with fail
        refine HMO.out.mono ?_
        rintro e w' ⟨rfl, hb'⟩
        have d1 := bkeep hb' c1
        have d3 := bkeep hb' c3
        go_wp2_with fail
        go_quiet (fail)
        go_wp2_with fail
        go_ret2
        rw [HM.out, besideT_yes HM.out]
        exact ⟨rfl, below_drewN hb'⟩

/-- Errors that end a call. -/
def finalE (e : Int) : Bool := e == 32 || e == 34 || e == 17 || e == 4 || e == 15 || e == 1

theorem final_any (e : Int) (w : World) :
    Calls Tryz.prog 51 #[.int .i64 e] w fun r w' => r = .returned (.bool (finalE e)) ∧ w' = w := by
  have HF : Hid (∀ b, finalE e = b → Ending.returned (.bool b) = .returned (.bool (finalE e))) := fun b h => by rw [h]
  by_cases h1 : e = 32
  · subst h1
    go_enter Tryz.func51, Tryz.ntmps51
    go_wp2
    go_ret
    exact ⟨HF.out _ rfl, rfl⟩
  have t1 : (e == 32) = false := beq_eq_false_iff_ne.2 h1
  by_cases h2 : e = 34
  · subst h2
    go_enter Tryz.func51, Tryz.ntmps51
    go_wp2
    go_ret
    exact ⟨HF.out _ rfl, rfl⟩
  have t2 : (e == 34) = false := beq_eq_false_iff_ne.2 h2
  by_cases h3 : e = 17
  · subst h3
    go_enter Tryz.func51, Tryz.ntmps51
    go_wp2
    go_ret
    exact ⟨HF.out _ rfl, rfl⟩
  have t3 : (e == 17) = false := beq_eq_false_iff_ne.2 h3
  by_cases h4 : e = 4
  · subst h4
    go_enter Tryz.func51, Tryz.ntmps51
    go_wp2
    go_ret
    exact ⟨HF.out _ rfl, rfl⟩
  have t4 : (e == 4) = false := beq_eq_false_iff_ne.2 h4
  by_cases h5 : e = 15
  · subst h5
    go_enter Tryz.func51, Tryz.ntmps51
    go_wp2
    go_ret
    exact ⟨HF.out _ rfl, rfl⟩
  have t5 : (e == 15) = false := beq_eq_false_iff_ne.2 h5
  by_cases h6 : e = 1
  · subst h6
    go_enter Tryz.func51, Tryz.ntmps51
    go_wp2
    go_ret
    exact ⟨HF.out _ rfl, rfl⟩
  have t6 : (e == 1) = false := beq_eq_false_iff_ne.2 h6
  have HN : Hid (finalE e = false) := by unfold finalE Hid; rw [t1, t2, t3, t4, t5, t6]; rfl
  clear h1 h2 h3 h4 h5 h6
  go_enter Tryz.func51, Tryz.ntmps51
  go_wp2
  go_ret
  exact ⟨HF.out _ HN.out, rfl⟩

theorem try_any (c : Cx) (n p : Int) (w : World) :
    Calls Tryz.prog 32 #[.agg #[.int .i64 c.req, .string c.call, .int .i64 c.try_, .bool c.idem, .bool c.shadow, .int .i64 c.dl, .int .i64 c.purse, .int .i64 c.ver, .int .i64 c.prio], .int .i64 n, .int .i64 p] w fun e w' =>
      e = .returned (.agg #[.int .i64 c.req, .string c.call, .int .i64 n, .bool c.idem, .bool c.shadow, .int .i64 c.dl, .int .i64 p, .int .i64 c.ver, .int .i64 c.prio]) ∧ Below w.heap.size w w' := by
  go_enter Tryz.func32, Tryz.ntmps32
  go_wp2
  go_returns
  exact ⟨rfl, ((Below.refl _ _).alloc (Nat.le_refl _) _).alloc (by simp) _⟩

end Go.Proofs.YtkpjjhiighakfaaGreatDoor
