/- A fresh request's call: ctx's Root, and the document's. -/
import Derived.Test.YtjollcacgnfabaaDoorC15
import Derived.Test.YtjollcacgnfabaaDoorC12
import Derived.Test.YtjollcacgnfabaaDoorSplit
import Derived.Test.YtjollcacgnfabaaDoorNum
namespace Go.Proofs.YtjollcacgnfabaaDoor
open Go.RowKit
attribute [local go_sem ↓] Go.wp_at_zero Go.wp_at_succ

structure Rq where
  id : Int
  at_ : Int
  path : ByteArray
  heads : Value
  prio : Int
  idem : Bool
  life : Int
  purse : Int
def rqCells (r : Rq) : List Value := [.int .i64 r.id, .int .i64 r.at_, .string r.path, r.heads, .int .i64 r.prio, .bool r.idem, .int .i64 r.life, .int .i64 r.purse]
def rqV (r : Rq) : Value := .agg (rqCells r).toArray
def confCells (life purse : Int) : List Value := [.slice none 0 0, .slice none 0 0, .slice none 0 0, .slice none 0 0, .int .i64 0, .int .i64 0, .int .i64 0, .int .i64 0, .int .i64 0, .int .i64 0, .int .i64 0, .int .i64 0, .int .i64 0, .int .i64 0, .int .i64 0, .int .i64 0, .int .i64 life, .int .i64 purse, .int .i64 0, .int .i64 0]
def confV (life purse : Int) : Value := .agg (confCells life purse).toArray
def clamp3 (n : Int) : Int := if n < 0 then 0 else if 3 < n then 3 else n
def rootOf (r : Rq) (version life most : Int) : Cx := ⟨r.id, numText r.id, 0, r.idem, false, r.at_ + min r.life life, min r.purse most, version, clamp3 r.prio⟩

theorem clamp_any (n : Int) (w : World) :
    Calls Tryd.prog 51 #[.int .i64 n, .int .i64 0, .int .i64 3] w fun e w' => e = .returned (.int .i64 (clamp3 n)) ∧ w' = w := by
  by_cases h1 : n < 0
  · have HE : Hid (clamp3 n = 0) := if_pos h1
    go_enter Tryd.func51, Tryd.ntmps51
    go_wp2_with fail
    go_ret
    rw [HE.out]
    exact ⟨rfl, rfl⟩
  · by_cases h2 : 3 < n
    · have HE : Hid (clamp3 n = 3) := (if_neg h1).trans (if_pos h2)
      go_enter Tryd.func51, Tryd.ntmps51
      go_wp2_with fail
      go_ret
      rw [HE.out]
      exact ⟨rfl, rfl⟩
    · have HE : Hid (clamp3 n = n) := (if_neg h1).trans (if_neg h2)
      go_enter Tryd.func51, Tryd.ntmps51
      go_wp2_with fail
      go_ret
      rw [HE.out]
      exact ⟨rfl, rfl⟩

theorem rclamp_any (n : Int) (w : World) :
    Calls Tryd.prog 52 #[.int .i64 n, .int .i64 0, .int .i64 3] w fun e w' => e = .returned (.int .i64 (clamp3 n)) ∧ w' = w := by
  by_cases h1 : n < 0
  · have HE : Hid (clamp3 n = 0) := if_pos h1
    go_enter Tryd.func52, Tryd.ntmps52
    go_wp2_with fail
    go_ret
    rw [HE.out]
    exact ⟨rfl, rfl⟩
  · by_cases h2 : 3 < n
    · have HE : Hid (clamp3 n = 3) := (if_neg h1).trans (if_pos h2)
      go_enter Tryd.func52, Tryd.ntmps52
      go_wp2_with fail
      go_ret
      rw [HE.out]
      exact ⟨rfl, rfl⟩
    · have HE : Hid (clamp3 n = n) := (if_neg h1).trans (if_neg h2)
      go_enter Tryd.func52, Tryd.ntmps52
      go_wp2_with fail
      go_ret
      rw [HE.out]
      exact ⟨rfl, rfl⟩

set_option maxRecDepth 8000 in
set_option maxHeartbeats 1000000 in
theorem root_any (r : Rq) (version life most : Int) (hid : -9223372036854775808 ≤ r.id ∧ r.id ≤ 9223372036854775807) (hat : 0 ≤ r.at_ ∧ r.at_ ≤ 20000) (hl : 0 ≤ r.life ∧ r.life ≤ 20000) (hl2 : 0 ≤ life ∧ life ≤ 20000) (w : World) (hP : PowAt w) :
    Calls Tryd.prog 31 #[rqV r, .int .i64 version, confV life most] w fun e w' => e = .returned (cxV (rootOf r version life most)) ∧ Below w.heap.size w w' := by
  have HI := Lib.hid (fun w => itoa_all r.id hid w)
  have HCL := Lib.hid (fun w => clamp_any r.prio w)
  have hz := numText_size r.id hid
  have HRE : Hid (cxV (rootOf r version life most) = .agg #[.int .i64 r.id, .string (numText r.id), .int .i64 0, .bool r.idem, .bool false, .int .i64 (r.at_ + min r.life life), .int .i64 (min r.purse most), .int .i64 version, .int .i64 (clamp3 r.prio)]) := rfl
  rw [HRE.out]
  clear HRE
  obtain ⟨id, at_, path, heads, prio, idem, rl, rp⟩ := r
  dsimp only at *
  obtain ⟨tx, htx⟩ : ∃ tx, tx = numText id := ⟨_, rfl⟩
  obtain ⟨cp, hcp⟩ : ∃ cp, cp = clamp3 prio := ⟨_, rfl⟩
  rw [← htx] at HI hz ⊢
  rw [← hcp] at HCL ⊢
  clear htx hcp
  unfold rqV rqCells confV confCells
  dsimp only
  obtain ⟨W, hW, hb, hsz, n1, n2, n3⟩ := blocks3 w #[.int .i64 id, .int .i64 at_, .string path, heads, .int .i64 prio, .bool idem, .int .i64 rl, .int .i64 rp] #[.slice none 0 0, .slice none 0 0, .slice none 0 0, .slice none 0 0, .int .i64 0, .int .i64 0, .int .i64 0, .int .i64 0, .int .i64 0, .int .i64 0, .int .i64 0, .int .i64 0, .int .i64 0, .int .i64 0, .int .i64 0, .int .i64 0, .int .i64 life, .int .i64 most, .int .i64 0, .int .i64 0] #[.int .i64 0, .string ⟨#[]⟩, .int .i64 0, .bool false, .bool false, .int .i64 0, .int .i64 0, .int .i64 0, .int .i64 0] 51 59 24
  have HP := Lib.hid (hP.keep hb (Nat.le_refl _))
  have HB := Lib.hid hb
  have HSZ := Lib.hid hsz
  have HN3 := Lib.hid n3
  have HSX : Hid (∀ w', Below W.heap.size W w' → w'.cell? ⟨w.heap.size, 0, none⟩ = some (.int .i64 id) ∧ w'.cell? ⟨w.heap.size, 1, none⟩ = some (.int .i64 at_) ∧ w'.cell? ⟨w.heap.size, 4, none⟩ = some (.int .i64 prio) ∧ w'.cell? ⟨w.heap.size, 5, none⟩ = some (.bool idem) ∧ w'.cell? ⟨w.heap.size, 6, none⟩ = some (.int .i64 rl) ∧ w'.cell? ⟨w.heap.size, 7, none⟩ = some (.int .i64 rp) ∧ w'.cell? ⟨w.heap.size + 1, 16, none⟩ = some (.int .i64 life) ∧ w'.cell? ⟨w.heap.size + 1, 17, none⟩ = some (.int .i64 most)) := fun w' hb => by
    have m1 := (hb.block _ (by have := HSZ.out; omega)).trans n1
    have m2 := (hb.block _ (by have := HSZ.out; omega)).trans n2
    exact ⟨block_cell m1 0 _ rfl, block_cell m1 1 _ rfl, block_cell m1 4 _ rfl, block_cell m1 5 _ rfl, block_cell m1 6 _ rfl, block_cell m1 7 _ rfl, block_cell m2 16 _ rfl, block_cell m2 17 _ rfl⟩
  have g1 : IntKind.i64.wrap (at_ + min rl life) = at_ + min rl life := IntWalk.i64_in _ (by omega)
  clear hP hb hsz n1 n2 n3
  go_enter Tryd.func31, Tryd.ntmps31
  go_wp2_with fail
  clear hW
  refine wp_region_split_held 25 (fun w' => w'.cell? ⟨w.heap.size, 0, none⟩ = some (.int .i64 id) ∧ w'.cell? ⟨w.heap.size, 1, none⟩ = some (.int .i64 at_) ∧ w'.cell? ⟨w.heap.size, 4, none⟩ = some (.int .i64 prio) ∧ w'.cell? ⟨w.heap.size, 5, none⟩ = some (.bool idem) ∧ w'.cell? ⟨w.heap.size, 6, none⟩ = some (.int .i64 rl) ∧ w'.cell? ⟨w.heap.size, 7, none⟩ = some (.int .i64 rp) ∧ w'.cell? ⟨w.heap.size + 1, 16, none⟩ = some (.int .i64 life) ∧ w'.cell? ⟨w.heap.size + 1, 17, none⟩ = some (.int .i64 most)) (by kernel_rfl) (by kernel_rfl) (HSX.out _ (Below.refl _ _).drew) (fun K0 hK0 hHeld => ?_)
  simp only [List.take_succ_cons, List.take_zero]
  refine wpAnyH_take (i := 0) (v := ?_) rfl (by kernel_rfl) (by kernel_rfl) (by kernel_rfl) (fun _ _ _ h => h) (Or.inl ⟨by kernel_rfl, ?_⟩) (by assumption) ?_
  rotate_left
  · (intro w hSw; (try dsimp only at hSw); go_simp; (try rw [if_neg (by (try simp only [ByteArray.size_append]); omega)]); (try with_reducible rfl))
  try simp only [Act.put]
  refine wpAnyH_take (i := 1) (v := ?_) rfl (by kernel_rfl) (by kernel_rfl) (by kernel_rfl) (fun _ _ _ h => h) (Or.inl ⟨by kernel_rfl, ?_⟩) (by assumption) ?_
  rotate_left
  · (intro w hSw; (try dsimp only at hSw); go_simp; (try rw [if_neg (by (try simp only [ByteArray.size_append]); omega)]); (try with_reducible rfl))
  try simp only [Act.put]
  refine wpAnyH_take (i := 2) (v := ?_) rfl (by kernel_rfl) (by kernel_rfl) (by kernel_rfl) (fun _ _ _ h => h) (Or.inl ⟨by kernel_rfl, ?_⟩) (by assumption) ?_
  rotate_left
  · (intro w hSw; (try dsimp only at hSw); go_simp; (try rw [if_neg (by (try simp only [ByteArray.size_append]); omega)]); (try with_reducible rfl))
  try simp only [Act.put]
  refine wpAnyH_take (i := 3) (v := ?_) rfl (by kernel_rfl) (by kernel_rfl) (by kernel_rfl) (fun _ _ _ h => h) (Or.inl ⟨by kernel_rfl, ?_⟩) (by assumption) ?_
  rotate_left
  · (intro w hSw; (try dsimp only at hSw); go_simp; (try rw [if_neg (by (try simp only [ByteArray.size_append]); omega)]); (try with_reducible rfl))
  try simp only [Act.put]
  refine wpAnyH_take (i := 5) (v := ?_) rfl (by kernel_rfl) (by kernel_rfl) (by kernel_rfl) (fun _ _ _ h => h) (Or.inl ⟨by kernel_rfl, ?_⟩) (by assumption) ?_
  rotate_left
  · (intro w hSw; (try dsimp only at hSw); go_simp; (try rw [if_neg (by (try simp only [ByteArray.size_append]); omega)]); (try with_reducible rfl))
  try simp only [Act.put]
  refine wpAnyH_take (i := 6) (v := ?_) rfl (by kernel_rfl) (by kernel_rfl) (by kernel_rfl) (fun _ _ _ h => h) (Or.inl ⟨by kernel_rfl, ?_⟩) (by assumption) ?_
  rotate_left
  · (intro w hSw; (try dsimp only at hSw); go_simp; (try rw [if_neg (by (try simp only [ByteArray.size_append]); omega)]); (try with_reducible rfl))
  try simp only [Act.put]
  refine wpAnyH_take (i := 7) (v := ?_) rfl (by kernel_rfl) (by kernel_rfl) (by kernel_rfl) (fun _ _ _ h => h) (Or.inl ⟨by kernel_rfl, ?_⟩) (by assumption) ?_
  rotate_left
  · (intro w hSw; (try dsimp only at hSw); go_simp; (try rw [if_neg (by (try simp only [ByteArray.size_append]); omega)]); (try with_reducible rfl))
  try simp only [Act.put]
  refine wpAnyH_take (i := 8) (v := ?_) rfl (by kernel_rfl) (by kernel_rfl) (by kernel_rfl) (fun _ _ _ h => h) (Or.inl ⟨by kernel_rfl, ?_⟩) (by assumption) ?_
  rotate_left
  · (intro w hSw; (try dsimp only at hSw); go_simp; (try rw [if_neg (by (try simp only [ByteArray.size_append]); omega)]); (try with_reducible rfl))
  try simp only [Act.put]
  refine wpAnyH_take (i := 9) (v := ?_) rfl (by kernel_rfl) (by kernel_rfl) (by kernel_rfl) (fun _ _ _ h => h) (Or.inl ⟨by kernel_rfl, ?_⟩) (by assumption) ?_
  rotate_left
  · (intro w hSw; (try dsimp only at hSw); go_simp; (try rw [if_neg (by (try simp only [ByteArray.size_append]); omega)]); (try with_reducible rfl))
  try simp only [Act.put]
  refine wpAnyH_take (i := 10) (v := ?_) rfl (by kernel_rfl) (by kernel_rfl) (by kernel_rfl) (fun _ _ _ h => h) (Or.inl ⟨by kernel_rfl, ?_⟩) (by assumption) ?_
  rotate_left
  · (intro w hSw; (try dsimp only at hSw); go_simp; (try rw [if_neg (by (try simp only [ByteArray.size_append]); omega)]); (try with_reducible rfl))
  try simp only [Act.put]
  refine wpAnyH_take (i := 11) (v := ?_) rfl (by kernel_rfl) (by kernel_rfl) (by kernel_rfl) (fun _ _ _ h => h) (Or.inl ⟨by kernel_rfl, ?_⟩) (by assumption) ?_
  rotate_left
  · (intro w hSw; (try dsimp only at hSw); go_simp; (try rw [if_neg (by (try simp only [ByteArray.size_append]); omega)]); (try with_reducible rfl))
  try simp only [Act.put]
  refine wpAnyH_take (i := 12) (v := ?_) rfl (by kernel_rfl) (by kernel_rfl) (by kernel_rfl) (fun _ _ _ h => h) (Or.inl ⟨by kernel_rfl, ?_⟩) (by assumption) ?_
  rotate_left
  · (intro w hSw; (try dsimp only at hSw); go_simp; (try rw [if_neg (by (try simp only [ByteArray.size_append]); omega)]); (try with_reducible rfl))
  try simp only [Act.put]
  refine wpAnyH_take (i := 13) (v := ?_) rfl (by kernel_rfl) (by kernel_rfl) (by kernel_rfl) (fun _ _ _ h => h) (Or.inl ⟨by kernel_rfl, ?_⟩) (by assumption) ?_
  rotate_left
  · (intro w hSw; (try dsimp only at hSw); go_simp; (try rw [if_neg (by (try simp only [ByteArray.size_append]); omega)]); (try with_reducible rfl))
  try simp only [Act.put]
  refine wpAnyH_take (i := 14) (v := ?_) rfl (by kernel_rfl) (by kernel_rfl) (by kernel_rfl) (fun _ _ _ h => h) (Or.inl ⟨by kernel_rfl, ?_⟩) (by assumption) ?_
  rotate_left
  · (intro w hSw; (try dsimp only at hSw); go_simp; (try rw [if_neg (by (try simp only [ByteArray.size_append]); omega)]); (try with_reducible rfl))
  try simp only [Act.put]
  refine wpAnyH_take (i := 15) (v := ?_) rfl (by kernel_rfl) (by kernel_rfl) (by kernel_rfl) (fun _ _ _ h => h) (Or.inl ⟨by kernel_rfl, ?_⟩) (by assumption) ?_
  rotate_left
  · (intro w hSw; (try dsimp only at hSw); go_simp; (try rw [if_neg (by (try simp only [ByteArray.size_append]); omega)]); (try with_reducible rfl))
  try simp only [Act.put]
  refine wpAnyH_take (i := 16) (v := ?_) rfl (by kernel_rfl) (by kernel_rfl) (by kernel_rfl) (fun _ _ _ h => h) (Or.inl ⟨by kernel_rfl, ?_⟩) (by assumption) ?_
  rotate_left
  · (intro w hSw; (try dsimp only at hSw); go_simp; (try rw [if_neg (by (try simp only [ByteArray.size_append]); omega)]); (try with_reducible rfl))
  try simp only [Act.put]
  refine wpAnyH_take (i := 17) (v := ?_) rfl (by kernel_rfl) (by kernel_rfl) (by kernel_rfl) (fun _ _ _ h => h) (Or.inl ⟨by kernel_rfl, ?_⟩) (by assumption) ?_
  rotate_left
  · (intro w hSw; (try dsimp only at hSw); go_simp; (try rw [if_neg (by (try simp only [ByteArray.size_append]); omega)]); (try with_reducible rfl))
  try simp only [Act.put]
  refine wpAnyH_take (i := 18) (v := ?_) rfl (by kernel_rfl) (by kernel_rfl) (by kernel_rfl) (fun _ _ _ h => h) (Or.inl ⟨by kernel_rfl, ?_⟩) (by assumption) ?_
  rotate_left
  · (intro w hSw; (try dsimp only at hSw); go_simp; (try rw [if_neg (by (try simp only [ByteArray.size_append]); omega)]); (try with_reducible rfl))
  try simp only [Act.put]
  refine wpAnyH_take (i := 19) (v := ?_) rfl (by kernel_rfl) (by kernel_rfl) (by kernel_rfl) (fun _ _ _ h => h) (Or.inl ⟨by kernel_rfl, ?_⟩) (by assumption) ?_
  rotate_left
  · (intro w hSw; (try dsimp only at hSw); go_simp; (try rw [if_neg (by (try simp only [ByteArray.size_append]); omega)]); (try with_reducible rfl))
  try simp only [Act.put]
  refine wpAnyH_take (i := 20) (v := ?_) rfl (by kernel_rfl) (by kernel_rfl) (by kernel_rfl) (fun _ _ _ h => h) (Or.inl ⟨by kernel_rfl, ?_⟩) (by assumption) ?_
  rotate_left
  · (intro w hSw; (try dsimp only at hSw); go_simp; (try rw [if_neg (by (try simp only [ByteArray.size_append]); omega)]); (try with_reducible rfl))
  try simp only [Act.put]
  refine wpAnyH_take (i := 21) (v := ?_) rfl (by kernel_rfl) (by kernel_rfl) (by kernel_rfl) (fun _ _ _ h => h) (Or.inl ⟨by kernel_rfl, ?_⟩) (by assumption) ?_
  rotate_left
  · (intro w hSw; (try dsimp only at hSw); go_simp; (try rw [if_neg (by (try simp only [ByteArray.size_append]); omega)]); (try with_reducible rfl))
  try simp only [Act.put]
  refine wpAnyH_take (i := 22) (v := ?_) rfl (by kernel_rfl) (by kernel_rfl) (by kernel_rfl) (fun _ _ _ h => h) (Or.inl ⟨by kernel_rfl, ?_⟩) (by assumption) ?_
  rotate_left
  · (intro w hSw; (try dsimp only at hSw); go_simp; (try rw [if_neg (by (try simp only [ByteArray.size_append]); omega)]); (try with_reducible rfl))
  try simp only [Act.put]
  refine wpAnyH_ready (rs := [4]) (by kernel_rfl) (by simp) ?_
  refine AllReadyH.cons rfl (fun K hK => ?_) AllReadyH.nil
  go_simp
  refine (HI.out _ (HP.out.keep ((Below.refl _ _).drew) (Nat.le_refl _))).mono ?_
  rintro e w1 ⟨rfl, hb1⟩
  have hb1 := bdrew hb1
  refine hK.out _ _ (HSX.out _ hb1) (fun hHeld => ?_)
  clear hK K
  try simp only [Act.put]
  refine wpAnyH_ready (rs := [23]) (by kernel_rfl) (by simp) ?_
  refine AllReadyH.cons rfl (fun K hK => ?_) AllReadyH.nil
  go_simp
  refine (HCL.out _).mono ?_
  rintro e wq ⟨rfl, rfl⟩
  refine hK.out _ _ hHeld (fun hHeld => ?_)
  clear hK K
  try simp only [Act.put]
  refine wpAnyH_take (i := 24) (v := ?_) rfl (by kernel_rfl) (by kernel_rfl) (by kernel_rfl) (fun _ _ _ h => h) (Or.inl ⟨by kernel_rfl, ?_⟩) (by assumption) ?_
  rotate_left
  · (intro w hSw; (try dsimp only at hSw); go_simp; (try rw [if_neg (by (try simp only [ByteArray.size_append]); omega)]); (try with_reducible rfl))
  try simp only [Act.put]
  refine wpAnyH_done (by kernel_rfl) ?_ _
  simp only [Exit.then]
  refine hK0 _ _ ?_
  clear hK0 K0 hHeld
  try simp only [Act.put]
  have m3 := (hb1.block _ (by have := HSZ.out; omega)).trans HN3.out
  obtain ⟨W6, hW6, hu, u1⟩ := copy_out ⟨id, tx, 0, idem, false, at_ + min rl life, min rp most, version, cp⟩ m3 (btrans HB.out hb1) (by show w.heap.size ≤ w.heap.size + 1 + 1; omega)
  simp only [cxCells, setsFrom, Nat.reduceAdd] at hW6
  dsimp only [cxCells] at u1
  have HU := Lib.hid hu
  have e0 := block_cell u1 0 _ rfl
  have e1 := block_cell u1 1 _ rfl
  have e2 := block_cell u1 2 _ rfl
  have e3 := block_cell u1 3 _ rfl
  have e4 := block_cell u1 4 _ rfl
  have e5 := block_cell u1 5 _ rfl
  have e6 := block_cell u1 6 _ rfl
  have e7 := block_cell u1 7 _ rfl
  have e8 := block_cell u1 8 _ rfl
  have g0 := block_free m3 0
  have g1 := block_free m3 1
  have g2 := block_free m3 2
  have g3 := block_free m3 3
  have g4 := block_free m3 4
  have g5 := block_free m3 5
  have g6 := block_free m3 6
  have g7 := block_free m3 7
  have g8 := block_free m3 8
  have c0 := block_cell m3 0 _ rfl
  have c1 := block_cell m3 1 _ rfl
  have c2 := block_cell m3 2 _ rfl
  have c3 := block_cell m3 3 _ rfl
  have c4 := block_cell m3 4 _ rfl
  have c5 := block_cell m3 5 _ rfl
  have c6 := block_cell m3 6 _ rfl
  have c7 := block_cell m3 7 _ rfl
  have c8 := block_cell m3 8 _ rfl
  clear hb1 m3 hu u1
  go_wp2_with fail
  exact bodyPost_ret (v := .agg #[.int .i64 id, .string tx, .int .i64 0, .bool idem, .bool false, .int .i64 (at_ + min rl life), .int .i64 (min rp most), .int .i64 version, .int .i64 cp]) (by simp [results, Tryd.results31, go_sem, e0, e1, e2, e3, e4, e5, e6, e7, e8]) rfl ⟨rfl, HU.out⟩

end Go.Proofs.YtjollcacgnfabaaDoor
