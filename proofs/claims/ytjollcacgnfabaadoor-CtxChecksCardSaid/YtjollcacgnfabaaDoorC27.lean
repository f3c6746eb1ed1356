/- The document's Check. -/
import Derived.Test.YtjollcacgnfabaaDoorC26
namespace Go.Proofs.YtjollcacgnfabaaDoor
open Go.RowKit
attribute [local go_sem ↓] Go.wp_at_zero Go.wp_at_succ

def rchk (b2 b3 b4 b5 b6 b7 b8 b9 b10 : Bool) : Int := if b2 && b3 && b4 && b5 && b6 && b7 && b8 && b9 && b10 then 0 else 1
theorem check_ref (c : Cx) : c.check = rchk (reqV c.call == c.req) (wi c.req 1 300) (wi c.try_ 0 8) (c.shadow == tilde c.call) (wi c.dl (-2147483647) 4294967294) (wi c.purse 0 64) (!tilde c.call || c.purse == 0) (wi c.ver 0 50) (wi c.prio 0 3) := by
  unfold Cx.check chk rchk
  by_cases h : reqV c.call = c.req
  · rw [h, beq_self_eq_true]
    by_cases h3 : wi c.req 1 300 = true
    · have hok : reqOk c.call = true := by
        cases ho : reqOk c.call with
        | true => rfl
        | false =>
          have hv : reqV c.call = 0 := by unfold reqV; rw [ho]; rfl
          unfold wi at h3
          rw [← h, hv] at h3
          exact absurd h3 (by decide)
      rw [hok]
      cases hs : (c.shadow == tilde c.call) with
      | true => rw [eq_of_beq hs]; rfl
      | false => simp
    · have h3' : wi c.req 1 300 = false := by cases e : wi c.req 1 300 with
        | true => exact absurd e h3
        | false => rfl
      rw [h3']
      simp
  · rw [beq_eq_false_iff_ne.2 h, beq_eq_false_iff_ne.2 (fun e => h e.symm)]
    simp

set_option maxRecDepth 8000 in
set_option maxHeartbeats 4000000 in
theorem rcheck_any (c : Cx) (hs : c.call.size ≤ 1000000) (w : World) :
    Calls Tryd.prog 14 #[cxV c] w fun e w' => e = .returned (.int .i64 c.check) ∧ Below w.heap.size w w' := by
  rw [check_ref c]
  obtain ⟨q, s, t, a, b, d, u, v, z⟩ := c
  dsimp only at hs
  have HCL := Lib.hid (fun w => rcall_any s hs w)
  have HTI := Lib.hid (fun w => rhas_any s hs w)
  unfold cxV cxCells
  dsimp only
  obtain ⟨rv, hrv⟩ : ∃ rv, rv = reqV s := ⟨_, rfl⟩
  have HW3 := Lib.hid (fun w => rwithin_any q 1 300 w)
  have HW4 := Lib.hid (fun w => rwithin_any t 0 8 w)
  have HW6 := Lib.hid (fun w => rwithin_any d (-2147483647) 4294967294 w)
  have HW7 := Lib.hid (fun w => rwithin_any u 0 64 w)
  have HW9 := Lib.hid (fun w => rwithin_any v 0 50 w)
  have HW10 := Lib.hid (fun w => rwithin_any z 0 3 w)
  rw [← hrv] at HCL ⊢
  obtain ⟨tl, h5⟩ : ∃ b, b = tilde s := ⟨_, rfl⟩
  rw [← h5] at HTI ⊢
  obtain ⟨b3, h3⟩ : ∃ b, b = wi q 1 300 := ⟨_, rfl⟩
  rw [← h3] at HW3 ⊢
  obtain ⟨b4, h4⟩ : ∃ b, b = wi t 0 8 := ⟨_, rfl⟩
  rw [← h4] at HW4 ⊢
  obtain ⟨b6, h6⟩ : ∃ b, b = wi d (-2147483647) 4294967294 := ⟨_, rfl⟩
  rw [← h6] at HW6 ⊢
  obtain ⟨b7, h7⟩ : ∃ b, b = wi u 0 64 := ⟨_, rfl⟩
  rw [← h7] at HW7 ⊢
  obtain ⟨b9, h9⟩ : ∃ b, b = wi v 0 50 := ⟨_, rfl⟩
  rw [← h9] at HW9 ⊢
  obtain ⟨b10, h10⟩ : ∃ b, b = wi z 0 3 := ⟨_, rfl⟩
  rw [← h10] at HW10 ⊢
  obtain ⟨b2, h2⟩ : ∃ b, (rv == q) = b := ⟨_, rfl⟩
  have h2' : (rv != q) = !b2 := by rw [← h2]; rfl
  obtain ⟨b8, h8⟩ : ∃ b, (u == 0) = b := ⟨_, rfl⟩
  have h8' : (u != 0) = !b8 := by rw [← h8]; rfl
  rw [h2, h8]
  clear h3 h4 h5 h6 h7 h9 h10 hrv
  obtain ⟨W, hW⟩ : ∃ W, w.alloc (.cells #[.int .i64 q, .string s, .int .i64 t, .bool a, .bool b, .int .i64 d, .int .i64 u, .int .i64 v, .int .i64 z] 24) = W := ⟨_, rfl⟩
  have hbx := heap_alloc_new w (.cells #[.int .i64 q, .string s, .int .i64 t, .bool a, .bool b, .int .i64 d, .int .i64 u, .int .i64 v, .int .i64 z] 24)
  have hb : Below w.heap.size w W := by rw [← hW]; exact (Below.refl _ _).alloc (Nat.le_refl _) _
  rw [hW] at hbx
  have HB1 := Lib.hid hb
  have r0 := block_cell hbx 0 _ rfl
  have r1 := block_cell hbx 1 _ rfl
  have r2 := block_cell hbx 2 _ rfl
  have r3 := block_cell hbx 3 _ rfl
  have r4 := block_cell hbx 4 _ rfl
  have r5 := block_cell hbx 5 _ rfl
  have r6 := block_cell hbx 6 _ rfl
  have r7 := block_cell hbx 7 _ rfl
  have r8 := block_cell hbx 8 _ rfl
  clear hbx hb
  go_enter Tryd.func14, Tryd.ntmps14
  go_wp2_with fail
  refine (HTI.out _).mono ?_
  rintro e w1 ⟨rfl, rfl⟩
  clear hW
  go_wp2_with fail
  cases b2 with
  | false =>
    go_quiet (first | (go_at_call 42; with_reducible exact Calls.quiet_of_same (HCL.out _)) | (go_at_call 43; first | with_reducible exact Calls.quiet_of_same (HW3.out _) | with_reducible exact Calls.quiet_of_same (HW4.out _)))
    go_wp2_with fail
    go_ret
    exact ⟨rfl, below_drewN HB1.out⟩
  | true =>
    cases b3 with
    | false =>
      go_quiet (first | (go_at_call 42; with_reducible exact Calls.quiet_of_same (HCL.out _)) | (go_at_call 43; first | with_reducible exact Calls.quiet_of_same (HW3.out _) | with_reducible exact Calls.quiet_of_same (HW4.out _)))
      go_wp2_with fail
      go_ret
      exact ⟨rfl, below_drewN HB1.out⟩
    | true =>
      cases b4 with
      | false =>
        go_quiet (first | (go_at_call 42; with_reducible exact Calls.quiet_of_same (HCL.out _)) | (go_at_call 43; first | with_reducible exact Calls.quiet_of_same (HW3.out _) | with_reducible exact Calls.quiet_of_same (HW4.out _)))
        go_wp2_with fail
        go_ret
        exact ⟨rfl, below_drewN HB1.out⟩
      | true =>
        cases hbt : (b == tl) with
        | false =>
          have hbt' : (b != tl) = true := by show (!(b == tl)) = true; rw [hbt]; rfl
          go_quiet (first | (go_at_call 42; with_reducible exact Calls.quiet_of_same (HCL.out _)) | (go_at_call 43; first | with_reducible exact Calls.quiet_of_same (HW3.out _) | with_reducible exact Calls.quiet_of_same (HW4.out _)))
          go_wp2_with fail
          go_ret
          rw [hbt]
          exact ⟨rfl, below_drewN HB1.out⟩
        | true =>
          have hbt' : (b != tl) = false := by show (!(b == tl)) = false; rw [hbt]; rfl
          go_quiet (first | (go_at_call 42; with_reducible exact Calls.quiet_of_same (HCL.out _)) | (go_at_call 43; first | with_reducible exact Calls.quiet_of_same (HW3.out _) | with_reducible exact Calls.quiet_of_same (HW4.out _)))
          have d5 : ∀ (nq : Nat), (w1.drewN nq).cell? ⟨w.heap.size, 5, none⟩ = some (.int .i64 d) := fun _ => r5
          have d6 : ∀ (nq : Nat), (w1.drewN nq).cell? ⟨w.heap.size, 6, none⟩ = some (.int .i64 u) := fun _ => r6
          have d7 : ∀ (nq : Nat), (w1.drewN nq).cell? ⟨w.heap.size, 7, none⟩ = some (.int .i64 v) := fun _ => r7
          have d8 : ∀ (nq : Nat), (w1.drewN nq).cell? ⟨w.heap.size, 8, none⟩ = some (.int .i64 z) := fun _ => r8
          go_wp2_with fail
          refine (HW6.out _).mono ?_
          rintro e wb ⟨rfl, rfl⟩
          cases b6 with
          | false =>
            go_wp2_with fail
            go_ret
            rw [hbt]
            exact ⟨rfl, below_drewN HB1.out⟩
          | true =>
            go_wp2_with fail
            refine (HW7.out _).mono ?_
            rintro e wc ⟨rfl, rfl⟩
            cases b7 with
            | false =>
              go_wp2_with fail
              go_ret
              rw [hbt]
              exact ⟨rfl, below_drewN HB1.out⟩
            | true =>
              cases hb8 : (!tl || b8) with
              | false =>
                have htT : tl = true := by cases tl with
                  | true => rfl
                  | false => cases hb8
                have hb8F : b8 = false := by subst htT; exact hb8
                subst htT hb8F
                go_wp2_with fail
                go_ret
                rw [hbt]
                exact ⟨rfl, below_drewN HB1.out⟩
              | true =>
                have HL : Hid (∀ X Y : Bool, rchk true true true (b == tl) true true (!tl || b8) X Y = rchk true true true true true true true X Y) := fun X Y => by rw [hbt, hb8]
                cases htl : tl with
                | false =>
                  rw [htl] at HL
                  clear hb8 hbt hbt'
                  subst htl
                  go_wp2_with fail
                  refine (HW9.out _).mono ?_
                  rintro e wd ⟨rfl, rfl⟩
                  cases b9 with
                  | false =>
                    go_wp2_with fail
                    go_ret
                    rw [HL.out]
                    exact ⟨rfl, below_drewN HB1.out⟩
                  | true =>
                    go_wp2_with fail
                    refine (HW10.out _).mono ?_
                    rintro e we ⟨rfl, rfl⟩
                    cases b10 with
                    | false =>
                      go_wp2_with fail
                      go_ret
                      rw [HL.out]
                      exact ⟨rfl, below_drewN HB1.out⟩
                    | true =>
                      go_wp2_with fail
                      go_ret
                      rw [HL.out]
                      exact ⟨rfl, below_drewN HB1.out⟩
                | true =>
                  have hb8T : b8 = true := by rw [htl] at hb8; exact hb8
                  rw [htl] at HL
                  clear hb8 hbt hbt'
                  subst htl hb8T
                  go_wp2_with fail
                  refine (HW9.out _).mono ?_
                  rintro e wd ⟨rfl, rfl⟩
                  cases b9 with
                  | false =>
                    go_wp2_with fail
                    go_ret
                    rw [HL.out]
                    exact ⟨rfl, below_drewN HB1.out⟩
                  | true =>
                    go_wp2_with fail
                    refine (HW10.out _).mono ?_
                    rintro e we ⟨rfl, rfl⟩
                    cases b10 with
                    | false =>
                      go_wp2_with fail
                      go_ret
                      rw [HL.out]
                      exact ⟨rfl, below_drewN HB1.out⟩
                    | true =>
                      go_wp2_with fail
                      go_ret
                      rw [HL.out]
                      exact ⟨rfl, below_drewN HB1.out⟩

end Go.Proofs.YtjollcacgnfabaaDoor
