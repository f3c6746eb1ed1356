/- Check. -/
import Derived.Test.YtjollcacgnfabaaDoorC9
import Derived.Shelf.Strings.Search3
namespace Go.Proofs.YtjollcacgnfabaaDoor
open Go.RowKit
attribute [local go_sem ↓] Go.wp_at_zero Go.wp_at_succ

def wi (n low high : Int) : Bool := decide (low ≤ n) && decide (n ≤ high)
theorem within_any (n low high : Int) (w : World) :
    Calls Tryd.prog 39 #[.int .i64 n, .int .i64 low, .int .i64 high] w fun e w' => e = .returned (.bool (wi n low high)) ∧ w' = w := by
  unfold wi
  by_cases h1 : low ≤ n
  · by_cases h2 : n ≤ high
    · rw [decide_eq_true h1, decide_eq_true h2]
      go_enter Tryd.func39, Tryd.ntmps39
      go_wp2_with fail
      go_ret
      exact ⟨rfl, rfl⟩
    · rw [decide_eq_true h1, decide_eq_false h2]
      go_enter Tryd.func39, Tryd.ntmps39
      go_wp2_with fail
      go_ret
      exact ⟨rfl, rfl⟩
  · rw [decide_eq_false h1, Bool.false_and]
    go_enter Tryd.func39, Tryd.ntmps39
    go_wp2_with fail
    go_ret
    exact ⟨rfl, rfl⟩

/-- Has a name the sign of a copy? -/
def tilde (s : ByteArray) : Bool := s.data.toList.contains 126
theorem tilde_any (s : ByteArray) (w : World) :
    Calls Tryd.prog 40 #[.string s, .string ⟨#[126]⟩] w fun e w' => e = .returned (.bool (tilde s)) ∧ w' = w := by
  have h : tilde s = decide (0 ≤ Lib.indexByte s.data.toList 126) := by
    unfold tilde
    have hge := Lib.indexByte_ge s.data.toList 126
    by_cases h1 : Lib.indexByte s.data.toList 126 = -1
    · rw [h1, decide_eq_false (by omega)]
      cases hc : s.data.toList.contains 126 with
      | false => rfl
      | true =>
        obtain ⟨k, hk⟩ := List.getElem?_of_mem (List.contains_iff_mem.1 hc)
        exact absurd hk (Lib.indexByte_none h1 k)
    · obtain ⟨o, ho⟩ : ∃ o : Nat, Lib.indexByte s.data.toList 126 = o := ⟨(Lib.indexByte s.data.toList 126).toNat, by omega⟩
      rw [decide_eq_true (by omega)]
      exact List.contains_iff_mem.2 (List.mem_of_getElem? (Lib.indexByte_some ho).1)
  exact (Any.strings_Contains_one Tryd.lays144 s 126 w).mono fun e w' ⟨he, hw⟩ => ⟨by rw [he, h], hw⟩

def chk (b1 b2 b3 b4 b5 b6 b7 b8 b9 b10 : Bool) : Int := if b1 && b2 && b3 && b4 && b5 && b6 && b7 && b8 && b9 && b10 then 0 else 1
def Cx.check (c : Cx) : Int := chk (reqOk c.call) (c.req == reqV c.call) (wi (reqV c.call) 1 300) (wi c.try_ 0 8) (c.shadow == tilde c.call) (wi c.dl (-2147483647) 4294967294) (wi c.purse 0 64) (!c.shadow || c.purse == 0) (wi c.ver 0 50) (wi c.prio 0 3)

set_option maxRecDepth 8000 in
set_option maxHeartbeats 2000000 in
theorem check_any (c : Cx) (hs : c.call.size ≤ 1000000) (w : World) :
    Calls Tryd.prog 13 #[cxV c] w fun e w' => e = .returned (.int .i64 c.check) ∧ Below w.heap.size w w' := by
  obtain ⟨q, s, t, a, b, d, u, v, z⟩ := c
  dsimp only at hs
  have HRQ := Lib.hid (fun w => request_any s hs w)
  have HTI := Lib.hid (fun w => tilde_any s w)
  unfold Cx.check cxV cxCells
  dsimp only
  obtain ⟨rv, hrv⟩ : ∃ rv, rv = reqV s := ⟨_, rfl⟩
  have HW3 := Lib.hid (fun w => within_any rv 1 300 w)
  have HW4 := Lib.hid (fun w => within_any t 0 8 w)
  have HW6 := Lib.hid (fun w => within_any d (-2147483647) 4294967294 w)
  have HW7 := Lib.hid (fun w => within_any u 0 64 w)
  have HW9 := Lib.hid (fun w => within_any v 0 50 w)
  have HW10 := Lib.hid (fun w => within_any z 0 3 w)
  rw [← hrv] at HRQ ⊢
  obtain ⟨b1, h1⟩ : ∃ b, b = reqOk s := ⟨_, rfl⟩
  rw [← h1] at HRQ ⊢
  obtain ⟨tl, h5⟩ : ∃ b, b = tilde s := ⟨_, rfl⟩
  rw [← h5] at HTI ⊢
  obtain ⟨b3, h3⟩ : ∃ b, b = wi rv 1 300 := ⟨_, rfl⟩
  rw [← h3] at HW3 ⊢
  obtain ⟨b4, h4⟩ : ∃ b, b = wi t 0 8 := ⟨_, rfl⟩
  rw [← h4] at HW4 ⊢
  obtain ⟨b6, h6⟩ : ∃ b, b = wi d (-2147483647) 4294967294 := ⟨_, rfl⟩
  rw [← h6] at HW6 ⊢
  obtain ⟨b7, h7⟩ : ∃ b, b = wi u 0 64 := ⟨_, rfl⟩
  rw [← h7] at HW7 ⊢
  obtain ⟨b9, h9⟩ : ∃ b, b = wi v 0 50 := ⟨_, rfl⟩
  rw [← h9] at HW9 ⊢
  obtain ⟨b10, h10⟩ : ∃ b, b = wi z 0 3 := ⟨_, rfl⟩
  rw [← h10] at HW10 ⊢
  obtain ⟨b2, h2⟩ : ∃ b, (q == rv) = b := ⟨_, rfl⟩
  have h2' : (q != rv) = !b2 := by rw [← h2]; rfl
  obtain ⟨b8, h8⟩ : ∃ b, (u == 0) = b := ⟨_, rfl⟩
  have h8' : (u != 0) = !b8 := by rw [← h8]; rfl
  rw [h2, h8]
  clear h1 h3 h4 h5 h6 h7 h9 h10 hrv
  obtain ⟨W, hW⟩ : ∃ W, w.alloc (.cells #[.int .i64 q, .string s, .int .i64 t, .bool a, .bool b, .int .i64 d, .int .i64 u, .int .i64 v, .int .i64 z] 24) = W := ⟨_, rfl⟩
  have hbx := heap_alloc_new w (.cells #[.int .i64 q, .string s, .int .i64 t, .bool a, .bool b, .int .i64 d, .int .i64 u, .int .i64 v, .int .i64 z] 24)
  have hb : Below w.heap.size w W := by rw [← hW]; exact (Below.refl _ _).alloc (Nat.le_refl _) _
  rw [hW] at hbx
  have HB := Lib.hid hb
  have HBX := Lib.hid hbx
  have r0 := block_cell hbx 0 _ rfl
  have r1 := block_cell hbx 1 _ rfl
  have r2 := block_cell hbx 2 _ rfl
  have r3 := block_cell hbx 3 _ rfl
  have r4 := block_cell hbx 4 _ rfl
  have r5 := block_cell hbx 5 _ rfl
  have r6 := block_cell hbx 6 _ rfl
  have r7 := block_cell hbx 7 _ rfl
  have r8 := block_cell hbx 8 _ rfl
  clear hbx hb
  go_enter Tryd.func13, Tryd.ntmps13
  go_wp2_with fail
  refine (HRQ.out _).mono ?_
  rintro e w1 ⟨rfl, hb1⟩
  have m1 := (hb1.block w.heap.size (Array.getElem?_eq_some_iff.1 HBX.out).1).trans HBX.out
  have HB1 := Lib.hid (btrans HB.out hb1)
  clear hW r0 r1 r2 r3 r4 r5 r6 r7 r8 hb1 HBX HB HRQ
  have r0 := block_cell m1 0 _ rfl
  have r1 := block_cell m1 1 _ rfl
  have r2 := block_cell m1 2 _ rfl
  have r3 := block_cell m1 3 _ rfl
  have r4 := block_cell m1 4 _ rfl
  have r5 := block_cell m1 5 _ rfl
  have r6 := block_cell m1 6 _ rfl
  have r7 := block_cell m1 7 _ rfl
  have r8 := block_cell m1 8 _ rfl
  clear m1
  cases b1 with
  | false =>
    go_wp2_with fail
    go_ret
    exact ⟨rfl, HB1.out⟩
  | true =>
    cases b2 with
    | false =>
      go_wp2_with fail
      go_ret
      exact ⟨rfl, HB1.out⟩
    | true =>
      go_wp2_with fail
      refine (HW3.out _).mono ?_
      rintro e w2 ⟨rfl, rfl⟩
      cases b3 with
      | false =>
        go_wp2_with fail
        go_ret
        exact ⟨rfl, HB1.out⟩
      | true =>
        go_wp2_with fail
        have d2 : ∀ (nq : Nat), (w2.drewN nq).cell? ⟨w.heap.size, 2, none⟩ = some (.int .i64 t) := fun _ => r2
        have d4 : ∀ (nq : Nat), (w2.drewN nq).cell? ⟨w.heap.size, 4, none⟩ = some (.bool b) := fun _ => r4
        have d5 : ∀ (nq : Nat), (w2.drewN nq).cell? ⟨w.heap.size, 5, none⟩ = some (.int .i64 d) := fun _ => r5
        have d6 : ∀ (nq : Nat), (w2.drewN nq).cell? ⟨w.heap.size, 6, none⟩ = some (.int .i64 u) := fun _ => r6
        have d7 : ∀ (nq : Nat), (w2.drewN nq).cell? ⟨w.heap.size, 7, none⟩ = some (.int .i64 v) := fun _ => r7
        have d8 : ∀ (nq : Nat), (w2.drewN nq).cell? ⟨w.heap.size, 8, none⟩ = some (.int .i64 z) := fun _ => r8
        cases b4 with
        | false =>
          go_quiet (first | (go_at_call 39; with_reducible exact Calls.quiet_of_same (HW4.out _)) | (go_at_call 40; with_reducible exact Calls.quiet_of_same (HTI.out _)))
          go_wp2_with fail
          go_ret
          exact ⟨rfl, below_drewN HB1.out⟩
        | true =>
          go_quiet (first | (go_at_call 39; with_reducible exact Calls.quiet_of_same (HW4.out _)) | (go_at_call 40; with_reducible exact Calls.quiet_of_same (HTI.out _)))
          cases hbt : (b == tl) with
          | false =>
            have hbt' : (b != tl) = true := by show (!(b == tl)) = true; rw [hbt]; rfl
            go_wp2_with fail
            go_ret
            rw [hbt]
            exact ⟨rfl, below_drewN HB1.out⟩
          | true =>
            have hbt' : (b != tl) = false := by show (!(b == tl)) = false; rw [hbt]; rfl
            go_wp2_with fail
            refine (HW6.out _).mono ?_
            rintro e w3 ⟨rfl, rfl⟩
            cases b6 with
            | false =>
              go_wp2_with fail
              go_ret
              rw [hbt]
              exact ⟨rfl, below_drewN HB1.out⟩
            | true =>
              go_wp2_with fail
              refine (HW7.out _).mono ?_
              rintro e w3 ⟨rfl, rfl⟩
              cases b7 with
              | false =>
                go_wp2_with fail
                go_ret
                rw [hbt]
                exact ⟨rfl, below_drewN HB1.out⟩
              | true =>
                cases hb8 : (!b || b8) with
                | false =>
                  have hbT : b = true := by cases b with
                    | true => rfl
                    | false => cases hb8
                  have hb8F : b8 = false := by subst hbT; exact hb8
                  subst hbT hb8F
                  go_wp2_with fail
                  go_ret
                  rw [hbt]
                  exact ⟨rfl, below_drewN HB1.out⟩
                | true =>
                  have HL : Hid (∀ X Y : Bool, chk true true true true (b == tl) true true (!b || b8) X Y = chk true true true true true true true true X Y) := fun X Y => by rw [hbt, hb8]
                  cases hbb : b with
                  | false =>
                    rw [hbb] at HL d4 r4
                    clear hb8
                    subst hbb
                    go_wp2_with fail
                    refine (HW9.out _).mono ?_
                    rintro e w3 ⟨rfl, rfl⟩
                    cases b9 with
                    | false =>
                      go_wp2_with fail
                      go_ret
                      rw [HL.out]
                      exact ⟨rfl, below_drewN HB1.out⟩
                    | true =>
                      go_wp2_with fail
                      refine (HW10.out _).mono ?_
                      rintro e w3 ⟨rfl, rfl⟩
                      cases b10 with
                      | false =>
                        go_wp2_with fail
                        go_ret
                        rw [HL.out]
                        exact ⟨rfl, below_drewN HB1.out⟩
                      | true =>
                        go_wp2_with fail
                        go_ret
                        rw [HL.out]
                        exact ⟨rfl, below_drewN HB1.out⟩
                  | true =>
                    have hb8T : b8 = true := by rw [hbb] at hb8; exact hb8
                    rw [hbb] at HL d4 r4
                    clear hb8
                    subst hbb hb8T
                    go_wp2_with fail
                    refine (HW9.out _).mono ?_
                    rintro e w3 ⟨rfl, rfl⟩
                    cases b9 with
                    | false =>
                      go_wp2_with fail
                      go_ret
                      rw [HL.out]
                      exact ⟨rfl, below_drewN HB1.out⟩
                    | true =>
                      go_wp2_with fail
                      refine (HW10.out _).mono ?_
                      rintro e w3 ⟨rfl, rfl⟩
                      cases b10 with
                      | false =>
                        go_wp2_with fail
                        go_ret
                        rw [HL.out]
                        exact ⟨rfl, below_drewN HB1.out⟩
                      | true =>
                        go_wp2_with fail
                        go_ret
                        rw [HL.out]
                        exact ⟨rfl, below_drewN HB1.out⟩

end Go.Proofs.YtjollcacgnfabaaDoor
