/- CallBeside. -/
import Derived.Test.YtipmajcefcfnlaaB29
namespace Go.Proofs.Ytipmajcefcfnlaa
open Go.RowKit
attribute [local go_sem ↓] Go.wp_at_zero Go.wp_at_succ

theorem left_any {w : World} {bb : Nat} {B : Bk} (h : BkAt w bb B) (hok : B.Ok) :
    Calls Try.prog 25 #[.pointer (some ⟨bb, 0, none⟩)] w fun e w' => e = .returned (.int .i64 (B.parts / B.of)) ∧ Below w.heap.size w w' := by
  have c1 := block_cell h 1 _ rfl
  have c3 := block_cell h 3 _ rfl
  obtain ⟨⟨o1, o2⟩, _, ⟨p1, p2⟩, m1⟩ := hok
  have t1 : decide (B.of < 1) = false := decide_eq_false (by omega)
  clear h
  go_enter Try.func25, Try.ntmps25
  go_wp2_with fail
  refine wp_region_split_held 8 (fun w' => w'.cell? ⟨bb, 1, none⟩ = some (.int .i64 B.of) ∧ w'.cell? ⟨bb, 3, none⟩ = some (.int .i64 B.parts)) (by kernel_rfl) (by kernel_rfl) ⟨c1, c3⟩ (fun K0 hK0 hHeld => ?_)
  simp only [List.take_succ_cons, List.take_zero]
  refine wpAnyH_take (i := 0) (v := ?_) rfl (by kernel_rfl) (by kernel_rfl) (by kernel_rfl) (fun _ _ _ h => h) (Or.inl ⟨by rfl, ?_⟩) (by assumption) ?_
  rotate_left
  · (intro w hSw; (try dsimp only at hSw); go_simp; try with_reducible rfl)
  try simp only [Act.put]
  refine wpAnyH_take (i := 1) (v := ?_) rfl (by kernel_rfl) (by kernel_rfl) (by kernel_rfl) (fun _ _ _ h => h) (Or.inl ⟨by rfl, ?_⟩) (by assumption) ?_
  rotate_left
  · (intro w hSw; (try dsimp only at hSw); go_simp; try with_reducible rfl)
  try simp only [Act.put]
  refine wpAnyH_take (i := 2) (v := ?_) rfl (by kernel_rfl) (by kernel_rfl) (by kernel_rfl) (fun _ _ _ h => h) (Or.inl ⟨by rfl, ?_⟩) (by assumption) ?_
  rotate_left
  · (intro w hSw; (try dsimp only at hSw); go_simp; try with_reducible rfl)
  try simp only [Act.put]
  refine wpAnyH_take (i := 3) (v := ?_) rfl (by kernel_rfl) (by kernel_rfl) (by kernel_rfl) (fun _ _ _ h => h) (Or.inl ⟨by rfl, ?_⟩) (by assumption) ?_
  rotate_left
  · (intro w hSw; (try dsimp only at hSw); go_simp; try with_reducible rfl)
  try simp only [Act.put]
  refine wpAnyH_take (i := 4) (v := ?_) rfl (by kernel_rfl) (by kernel_rfl) (by kernel_rfl) (fun _ _ _ h => h) (Or.inl ⟨by rfl, ?_⟩) (by assumption) ?_
  rotate_left
  · (intro w hSw; (try dsimp only at hSw); go_simp; try with_reducible rfl)
  try simp only [Act.put]
  refine wpAnyH_take (i := 5) (v := ?_) rfl (by kernel_rfl) (by kernel_rfl) (by kernel_rfl) (fun _ _ _ h => h) (Or.inl ⟨by rfl, ?_⟩) (by assumption) ?_
  rotate_left
  · (intro w hSw; (try dsimp only at hSw); go_simp; try with_reducible rfl)
  try simp only [Act.put]
  refine wpAnyH_take (i := 6) (v := ?_) rfl (by kernel_rfl) (by kernel_rfl) (by kernel_rfl) (fun _ _ _ h => h) (Or.inl ⟨by rfl, ?_⟩) (by assumption) ?_
  rotate_left
  · (intro w hSw; (try dsimp only at hSw); go_simp; try with_reducible rfl)
  try simp only [Act.put]
  refine wpAnyH_take (i := 7) (v := ?_) rfl (by kernel_rfl) (by kernel_rfl) (by kernel_rfl) (fun _ _ _ h => h) (Or.inl ⟨by rfl, ?_⟩) (by assumption) ?_
  rotate_left
  · (intro w hSw; (try dsimp only at hSw); go_simp; try with_reducible rfl)
  try simp only [Act.put]
  refine wpAnyH_done (by kernel_rfl) ?_ _
  simp only [Exit.then]
  refine hK0 _ _ ?_
  clear hK0 K0 hHeld
  try simp only [Act.put]
  go_wp2_with fail
  refine (down_any B.parts B.of _ p1 (by omega) o1 (by omega)).mono ?_
  rintro e w' ⟨rfl, rfl⟩
  go_wp2_with fail
  go_ret
  exact ⟨rfl, (Below.refl _ _).drew⟩

/-- Open, of a call. -/
theorem own_any {w : World} {cb mb bb : Nat} {S : CS} (h : CallW w cb mb bb S) (hok : S.Ok) :
    Calls Try.prog 13 #[.pointer (some ⟨cb, 0, none⟩)] w (OpenPost w (S.open_.map (·.1))) := by
  have hmk : (openM S).map (·.1) = S.open_.map (·.1) := by unfold openM; rw [List.map_map]; rfl
  have hlen := hok.len
  rw [← hmk]
  exact open_any (h.cell 17 _ rfl) h.map (fun p hp => by obtain ⟨o, ho, rfl⟩ := List.mem_map.1 hp; have h1 := hok.keyb o ho; have h2 := hok.made; exact wf_i64 (by show _ ≤ o.1; omega) (by show o.1 ≤ _; omega)) (by unfold openM; rw [List.length_map]; omega) (by rw [hmk]; exact hok.keys.imp (fun h => Int.le_of_lt h))

/-! The plain law. -/

def firstC (x : Cx) : Cx := { x with try_ := 1, purse := x.purse / 2 }
theorem first_eq {x : Cx} {y : Pol} (h : 1 ≤ x.dl) : (newS x y).first = ⟨x, y, [(1, 0, firstC x)], 1, x.purse - x.purse / 2, 0, false, 0, 0, false, 0⟩ := by
  have e : (newS x y).beginS 0 = ⟨x, y, [(1, 0, firstC x)], 1, x.purse - x.purse / 2, 0, false, 0, 0, false, 0⟩ := by
    unfold CS.beginS
    rw [if_neg (by show ¬ x.dl ≤ 0; omega)]
    rfl
  unfold CS.first actS
  rw [if_neg (by show ¬ false = true; decide), e]
  rfl

def mayB (x : Cx) (y : Pol) : Bool := decide (2 ≤ y.tries) && decide (1 ≤ x.purse - x.purse / 2) && decide (1 ≤ y.burst)

/-- Behind the wake at the tick before. -/
theorem beside_wait {x : Cx} {y : Pol} {S : CS} (hS : S = ⟨x, y, [(1, 0, firstC x)], 1, x.purse - x.purse / 2, 0, false, 0, 0, false, 0⟩) {now : Int} (h1 : now < y.tmo) (h2 : now < x.dl) (h3 : now < y.hedge) (B : Bk) :
    actS S (S.wakeS now B) = S ∧ actB S B (S.wakeB now B) = B := by
  have ht : S.toS now = (S, []) := by
    unfold CS.toS
    rw [hS]
    show toStep now _ (1, 0, firstC x) = _
    unfold toStep
    rw [if_pos (by rw [Bool.or_eq_true]; exact .inr (decide_eq_true (by show now - 0 < y.tmo; omega)))]
  have hb : (S.hasBeside && decide (S.besideT ≤ now)) = false := by
    cases hh : S.hasBeside with
    | false => rfl
    | true =>
      rw [besideT_yes hh, Bool.true_and]
      exact decide_eq_false (by rw [hS]; show ¬ (0 + y.hedge ≤ now); omega)
  have hd : (S.due && decide (S.dueAt ≤ now)) = false := by rw [hS]; rfl
  have hg := goR_not (B := B) hd hb
  have ho : S.over = false := by rw [hS]
  have e : S.wakeS now B = S ∧ S.wakeB now B = B := by
    unfold CS.wakeS CS.wakeB
    have : ¬ S.c.dl ≤ now := by rw [hS]; show ¬ x.dl ≤ now; omega
    rw [if_neg this, if_neg this, ht]
    have : ¬ S.over = true := by rw [ho]; decide
    rw [if_neg this, if_neg this]
    exact ⟨hg.s, hg.k⟩
  rw [e.1, e.2]
  unfold actS actB CS.fin
  rw [ho]
  exact ⟨rfl, rfl⟩

/-- Behind the wake at the tick itself. -/
theorem beside_goes {x : Cx} {y : Pol} {S : CS} (hS : S = ⟨x, y, [(1, 0, firstC x)], 1, x.purse - x.purse / 2, 0, false, 0, 0, false, 0⟩) (h0 : 1 ≤ y.hedge) (h1 : y.hedge < y.tmo) (h2 : y.hedge < x.dl) (ho : 1 ≤ y.of ∧ y.of ≤ 7) (hbu : 0 ≤ y.burst ∧ y.burst < 6) :
    (actS S (S.wakeS y.hedge (fullBk y))).made = (if mayB x y then 2 else 1) ∧ (actS S (S.wakeS y.hedge (fullBk y))).open_.length = (if mayB x y then 2 else 1) := by
  have ht : S.toS y.hedge = (S, []) := by
    unfold CS.toS
    rw [hS]
    show toStep y.hedge _ (1, 0, firstC x) = _
    unfold toStep
    rw [if_pos (by rw [Bool.or_eq_true]; exact .inr (decide_eq_true (by show y.hedge - 0 < y.tmo; omega)))]
  have hov : S.over = false := by rw [hS]
  have hdl : ¬ S.c.dl ≤ y.hedge := by rw [hS]; show ¬ x.dl ≤ y.hedge; omega
  have ew : S.wakeS y.hedge (fullBk y) = S.goS y.hedge (fullBk y) := by
    unfold CS.wakeS
    rw [if_neg hdl, ht]
    rw [if_neg (by rw [hov]; decide)]
  have hd : (S.due && decide (S.dueAt ≤ y.hedge)) = false := by rw [hS]; rfl
  have hmore : S.more = (decide (2 ≤ y.tries) && decide (1 ≤ x.purse - x.purse / 2)) := by
    rw [hS]; unfold CS.more
    congr 1
  have hbk : (fullBk y).may = decide (1 ≤ y.burst) := by
    unfold Bk.may
    show decide (y.of ≤ y.burst * y.of) = _
    rw [Bool.eq_iff_iff, decide_eq_true_iff, decide_eq_true_iff]
    constructor
    · intro h
      rcases (show y.burst = 0 ∨ 1 ≤ y.burst by omega) with e | e
      · rw [e, Int.zero_mul] at h; omega
      · exact e
    · intro h
      have := Int.mul_le_mul_of_nonneg_right h (show 0 ≤ y.of by omega)
      omega
  have hin : ∀ S1 : CS, S1.over = false → actS S S1 = S1 := fun S1 h => by
    unfold actS CS.fin; rw [hov, h]; rfl
  cases hm : S.more with
  | false =>
    have hb : (S.hasBeside && decide (S.besideT ≤ y.hedge)) = false := by rw [has_more hm]; rfl
    have hg := goR_not (B := fullBk y) hd hb
    have hmay : mayB x y = false := by unfold mayB; rw [← hmore, hm]; rfl
    rw [ew, hg.s, hin S hov, hmay, hS]
    exact ⟨rfl, rfl⟩
  | true =>
    have hh : S.hasBeside = true := has_yes (by rw [hS]; show ¬ y.hedge ≤ 0; omega) (by rw [hS]; simp) hm
    have hb : (S.hasBeside && decide (S.besideT ≤ y.hedge)) = true := by
      rw [hh, besideT_yes hh, Bool.true_and]
      exact decide_eq_true (by rw [hS]; show 0 + y.hedge ≤ y.hedge; omega)
    have hmay : S.mayS y.hedge (fullBk y) = mayB x y := by
      unfold CS.mayS mayB
      rw [← hmore, hbk, hm, decide_eq_true (show y.hedge < S.c.dl by omega)]; rfl
    have hg := goR_beside hd hb (furR_any S y.hedge (fullBk y))
    rw [hmay] at hg
    cases hmb : mayB x y with
    | false =>
      rw [hmb] at hg
      rw [ew, hg.s]
      show (actS S { S with frm := y.hedge }).made = 1 ∧ (actS S { S with frm := y.hedge }).open_.length = 1
      rw [hin { S with frm := y.hedge } hov, hS]
      exact ⟨rfl, rfl⟩
    | true =>
      rw [hmb] at hg hmay
      have hr := furR_yes hmay
      rw [ew, hg.s, if_pos rfl, hr.s, hin (CS.att { S with left := S.left - 1 } y.hedge) hov, hS]
      exact ⟨rfl, rfl⟩

end Go.Proofs.Ytipmajcefcfnlaa
