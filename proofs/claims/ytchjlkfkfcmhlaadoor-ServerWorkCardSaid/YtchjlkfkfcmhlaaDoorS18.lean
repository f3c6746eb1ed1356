/- The acts, made of numbers. -/
import Derived.Test.YtchjlkfkfcmhlaaDoorQ5
import Derived.Test.YtchjlkfkfcmhlaaDoorRec
import Derived.Test.YtchjlkfkfcmhlaaDoorArgB
import Derived.Test.YtchjlkfkfcmhlaaDoorStrong
namespace Go.Proofs.YtchjlkfkfcmhlaaDoor
open Go.RowKit
attribute [local go_sem ↓] Go.wp_at_zero Go.wp_at_succ

structure Ac where
  later : Int
  do_ : Int
  n : Int
  paused : Bool
  sick : Int
  lazy : Int
def acCells (a : Ac) : List Value := [.int .i64 a.later, .int .i64 a.do_, .int .i64 a.n, .bool a.paused, .int .i64 a.sick, .int .i64 a.lazy]
structure Ac.Ok (a : Ac) : Prop where
  later : 0 ≤ a.later ∧ a.later ≤ 9
  n : 0 ≤ a.n ∧ a.n ≤ 100000000
  sick : 0 ≤ a.sick ∧ a.sick ≤ 3
  lazy : 1 ≤ a.lazy ∧ a.lazy ≤ 2
def acK : Kd Tryd.prog Ac where
  f := acCells
  s := 6
  bytes := 48
  T := 74
  T' := 71
  z := .agg #[.int .i64 0, .int .i64 0, .int .i64 0, .bool false, .int .i64 0, .int .i64 0]
  len := fun _ => rfl
  one := fun a u hu => by
    simp only [acCells, List.mem_cons, List.not_mem_nil, or_false] at hu
    rcases hu with rfl | rfl | rfl | rfl | rfl | rfl <;> rfl
  zs := rfl
  small := by decide
  under := Tryd.underlying71
  info := by kernel_rfl

theorem blocks1 (w : World) (o : Obj) : (w.alloc o).drew.heap[w.heap.size]? = some o := heap_alloc_new w o
theorem blocks2 (w : World) (o o2 : Obj) : ((w.alloc o).alloc o2).drew.heap[w.heap.size]? = some o ∧ ((w.alloc o).alloc o2).drew.heap[w.heap.size + 1]? = some o2 := by
  have e : (w.alloc o).heap.size = w.heap.size + 1 := by simp
  have h := heap_alloc_new (w.alloc o) o2
  rw [e] at h
  exact ⟨(heap_alloc_old _ _ (by rw [e]; omega)).trans (heap_alloc_new w o), h⟩
theorem blocks3 (w : World) (o o2 o3 : Obj) : (((w.alloc o).alloc o2).alloc o3).drew.heap[w.heap.size]? = some o ∧ (((w.alloc o).alloc o2).alloc o3).drew.heap[w.heap.size + 1]? = some o2 ∧ (((w.alloc o).alloc o2).alloc o3).drew.heap[w.heap.size + 2]? = some o3 := by
  have e : ((w.alloc o).alloc o2).heap.size = w.heap.size + 2 := by simp
  have h := heap_alloc_new ((w.alloc o).alloc o2) o3
  rw [e] at h
  obtain ⟨h1, h2⟩ := blocks2 w o o2
  exact ⟨(heap_alloc_old _ _ (by rw [e]; omega)).trans h1, (heap_alloc_old _ _ (by rw [e]; omega)).trans h2, h⟩
theorem fill6 {W : World} {R : Nat} {z0 z1 z2 z3 z4 z5 : Value} {T : TypeId} (h : W.heap[R]? = some (.cells #[z0, z1, z2, z3, z4, z5] T (0, 0))) (a b c d e f : Value) :
    ∃ W6, (((((W.setCell ⟨R, 0, none⟩ a).setCell ⟨R, 1, none⟩ b).setCell ⟨R, 2, none⟩ c).setCell ⟨R, 3, none⟩ d).setCell ⟨R, 4, none⟩ e).setCell ⟨R, 5, none⟩ f = W6 ∧ W6.heap[R]? = some (.cells #[a, b, c, d, e, f] T (0, 0)) ∧ Fr (fun k => k = R) W W6 := by
  have u := setsFrom_block R T [a, b, c, d, e, f] 0 W _ h
  simp only [arrFrom, Nat.reduceAdd, List.setIfInBounds_toArray, List.set_cons_zero, List.set_cons_succ] at u
  exact ⟨_, rfl, u, setsFrom_fr R [a, b, c, d, e, f] 0 W⟩

def ActsPost (w : World) (N : Nat) (e : Ending) (w' : World) : Prop := ∃ A v, e = .returned v ∧ acK.New w w' v A ∧ A.length = N ∧ ∀ a ∈ A, a.Ok

set_option maxRecDepth 8000 in
set_option maxHeartbeats 8000000 in
theorem acts_any {w : World} {A : Option Addr} {n : Nat} {l : List Int} (h : ArgInts w A n l) (cap : Nat) :
    Calls Tryd.prog 33 #[.slice A n cap] w (ActsPost w (min n 40)) := by
  obtain ⟨h0, h1, h2, h3⟩ := h
  have HL := Lib.hid h3
  have HBD := Lib.hid h2
  have H0 := Lib.hid h0
  clear h0 h2 h3
  go_enter Tryd.func33, Tryd.ntmps33
  go_wp2_with fail
  go_loopw [3, 4] (fun vo vi wr => ∃ (k : Nat) (L : List Ac), vi = .int .i64 k ∧ k ≤ min n 40 ∧ Hid (k = L.length ∧ (∀ a ∈ L, a.Ok)) ∧ (∃ la lc, vo = .slice la k lc) ∧ acK.New w wr vo L) (fun _ vi _ => (40 - intOf vi).toNat)
  case atStart => exact ⟨0, [], rfl, Nat.zero_le _, ⟨rfl, by simp⟩, ⟨_, _, rfl⟩, Kd.New.start _ _⟩
  case round =>
    obtain ⟨k, L, rfl, hk, hok, ⟨la, lc, rfl⟩, hinv⟩ := hrel
    have HI := Lib.hid hinv
    clear hinv
    by_cases hlt : k < n ∧ k < 40
    · obtain ⟨l1, l2⟩ := hlt
      have t1 : decide ((k : Int) < (n : Int)) = true := decide_eq_true (by omega)
      have t2 : decide ((k : Int) < 40) = true := decide_eq_true (by omega)
      obtain ⟨b, off, rfl, hc⟩ := HL.out.resolve_left (by omega)
      have c0 := bkeep HI.out.below (hc k (by rw [H0.out]; omega))
      have hbd := HBD.out (l[k]'(by rw [H0.out]; omega)) (List.getElem_mem _)
      obtain ⟨y, hy⟩ : ∃ y, y = l[k]'(by rw [H0.out]; omega) := ⟨_, rfl⟩
      rw [← hy] at c0 hbd
      obtain ⟨x, hx⟩ : ∃ x, x = around y 100000000 := ⟨_, rfl⟩
      obtain ⟨x0, x1⟩ := around_bd y (m := 100000000) (by omega)
      have HA := Lib.hid (around_any y 100000000 wr hbd.1 hbd.2 (by omega) (by omega))
      rw [← hx] at x0 x1 HA
      clear hy hx
      go_wp2_with fail
      refine HA.out.mono ?_
      rintro e w' ⟨rfl, rfl⟩
      obtain ⟨d1, hd1, hdb⟩ : ∃ d, (#[.int .i64 0, .int .i64 1, .int .i64 0, .int .i64 1, .int .i64 2, .int .i64 9] : Array Value)[(x % 6).toNat]? = some (.int .i64 d) ∧ 0 ≤ d ∧ d ≤ 9 := by
        rcases (show (x % 6).toNat = 0 ∨ (x % 6).toNat = 1 ∨ (x % 6).toNat = 2 ∨ (x % 6).toNat = 3 ∨ (x % 6).toNat = 4 ∨ (x % 6).toNat = 5 by omega) with e | e | e | e | e | e <;> rw [e] <;> exact ⟨_, rfl, by omega, by omega⟩
      obtain ⟨d2, hd2⟩ : ∃ d, (#[.int .i64 0, .int .i64 1, .int .i64 2, .int .i64 3, .int .i64 4, .int .i64 5, .int .i64 6, .int .i64 0, .int .i64 3, .int .i64 7, .int .i64 8, .int .i64 8] : Array Value)[(x / 6 % 12).toNat]? = some (.int .i64 d) := by
        have hlt : (x / 6 % 12).toNat < 12 := by omega
        rcases (show (x / 6 % 12).toNat = 0 ∨ (x / 6 % 12).toNat = 1 ∨ (x / 6 % 12).toNat = 2 ∨ (x / 6 % 12).toNat = 3 ∨ (x / 6 % 12).toNat = 4 ∨ (x / 6 % 12).toNat = 5 ∨ (x / 6 % 12).toNat = 6 ∨ (x / 6 % 12).toNat = 7 ∨ (x / 6 % 12).toNat = 8 ∨ (x / 6 % 12).toNat = 9 ∨ (x / 6 % 12).toNat = 10 ∨ (x / 6 % 12).toNat = 11 by omega) with e | e | e | e | e | e | e | e | e | e | e | e <;> rw [e] <;> exact ⟨_, rfl⟩
      have y1 : 0 ≤ x % 6 := by omega
      have y2 : x % 6 < 6 := by omega
      have y3 : 0 ≤ x / 6 % 12 := by omega
      have y4 : x / 6 % 12 < 12 := by omega
      go_wp2_with fail
      go_cut [6] from 22 to 35 (fun v wx => ∃ B, v = .pointer (some ⟨B, 0, none⟩) ∧ wr.heap.size ≤ B ∧ Below wr.heap.size wr wx ∧ wx.heap[B]? = some (.cells (acCells ⟨d1, d2, x / 72, false, 0, 1⟩).toArray 74 (0, 0)))
      case first =>
        have g0 : x.tmod 6 = x % 6 := Int.tmod_eq_emod_of_nonneg x0
        have g1 : x.tdiv 6 = x / 6 := Int.tdiv_eq_ediv_of_nonneg x0
        have g2 : (x / 6).tmod 12 = x / 6 % 12 := Int.tmod_eq_emod_of_nonneg (by omega)
        have g3 : x.tdiv 72 = x / 72 := Int.tdiv_eq_ediv_of_nonneg x0
        have g5 : IntKind.i64.wrap (x / 6) = x / 6 := IntWalk.i64_in _ (by omega)
        have g6 : IntKind.i64.wrap (x / 72) = x / 72 := IntWalk.i64_in _ (by omega)
        refine wp_region_split_held 15 (fun _ => True) (by kernel_rfl) (by kernel_rfl) trivial (fun K0 hK0 hHeld => ?_)
        simp only [List.take_succ_cons, List.take_zero]
        refine wpAnyH_take (i := 1) (v := ?_) rfl (by kernel_rfl) (by kernel_rfl) (by kernel_rfl) (fun _ _ _ h => h) (Or.inl ⟨by kernel_rfl, ?_⟩) (by assumption) ?_
        rotate_left
        · (intro w hSw; (try dsimp only at hSw); go_simp; (try rw [if_neg (by (try simp only [ByteArray.size_append]); omega)]); (try with_reducible rfl))
        try simp only [Act.put]
        refine wpAnyH_take (i := 2) (v := ?_) rfl (by kernel_rfl) (by kernel_rfl) (by kernel_rfl) (fun _ _ _ h => h) (Or.inl ⟨by kernel_rfl, ?_⟩) (by assumption) ?_
        rotate_left
        · (intro w hSw; (try dsimp only at hSw); go_simp; (try rw [if_neg (by (try simp only [ByteArray.size_append]); omega)]); (try with_reducible rfl))
        try simp only [Act.put]
        refine wpAnyH_take (i := 6) (v := ?_) rfl (by kernel_rfl) (by kernel_rfl) (by kernel_rfl) (fun _ _ _ h => h) (Or.inl ⟨by kernel_rfl, ?_⟩) (by assumption) ?_
        rotate_left
        · (intro w hSw; (try dsimp only at hSw); go_simp; (try rw [if_neg (by (try simp only [ByteArray.size_append]); omega)]); (try with_reducible rfl))
        try simp only [Act.put]
        refine wpAnyH_take (i := 7) (v := ?_) rfl (by kernel_rfl) (by kernel_rfl) (by kernel_rfl) (fun _ _ _ h => h) (Or.inl ⟨by kernel_rfl, ?_⟩) (by assumption) ?_
        rotate_left
        · (intro w hSw; (try dsimp only at hSw); go_simp; (try rw [if_neg (by (try simp only [ByteArray.size_append]); omega)]); (try with_reducible rfl))
        try simp only [Act.put]
        refine wpAnyH_take (i := 8) (v := ?_) rfl (by kernel_rfl) (by kernel_rfl) (by kernel_rfl) (fun _ _ _ h => h) (Or.inl ⟨by kernel_rfl, ?_⟩) (by assumption) ?_
        rotate_left
        · (intro w hSw; (try dsimp only at hSw); go_simp; (try rw [if_neg (by (try simp only [ByteArray.size_append]); omega)]); (try with_reducible rfl))
        try simp only [Act.put]
        refine wpAnyH_take (i := 11) (v := ?_) rfl (by kernel_rfl) (by kernel_rfl) (by kernel_rfl) (fun _ _ _ h => h) (Or.inl ⟨by kernel_rfl, ?_⟩) (by assumption) ?_
        rotate_left
        · (intro w hSw; (try dsimp only at hSw); go_simp; (try rw [if_neg (by (try simp only [ByteArray.size_append]); omega)]); (try with_reducible rfl))
        try simp only [Act.put]
        refine wpAnyH_take (i := 12) (v := ?_) rfl (by kernel_rfl) (by kernel_rfl) (by kernel_rfl) (fun _ _ _ h => h) (Or.inl ⟨by kernel_rfl, ?_⟩) (by assumption) ?_
        rotate_left
        · (intro w hSw; (try dsimp only at hSw); go_simp; (try rw [if_neg (by (try simp only [ByteArray.size_append]); omega)]); (try with_reducible rfl))
        try simp only [Act.put]
        refine wpAnyH_ready (rs := [0, 5, 14]) (by kernel_rfl) (by simp) ?_
        refine AllReadyH.cons rfl (fun K hK => ?_) (AllReadyH.cons rfl (fun K hK => ?_) (AllReadyH.cons rfl (fun K hK => ?_) AllReadyH.nil))
        · go_simp
          refine hK.out _ _ trivial (fun _ => ?_)
          clear hK K
          try simp only [Act.put]
          refine wpAnyH_strong (S' := fun w' => w'.cell? ⟨wr.heap.size, (x % 6).toNat, none⟩ = some (.int .i64 d1)) (fun _ _ => trivial) ?_
          have hHeld : ((wr.alloc (.cells #[.int .i64 0, .int .i64 1, .int .i64 0, .int .i64 1, .int .i64 2, .int .i64 9] 3)).drew).cell? ⟨wr.heap.size, (x % 6).toNat, none⟩ = some (.int .i64 d1) := (block_cell (blocks1 wr _) _ _ hd1)
          refine wpAnyH_take (i := 3) (v := ?_) rfl (by kernel_rfl) (by kernel_rfl) (by kernel_rfl) (fun _ _ _ h => h) (Or.inl ⟨by kernel_rfl, ?_⟩) (by assumption) ?_
          rotate_left
          · (intro w hSw; (try dsimp only at hSw); go_simp; (try rw [if_neg (by (try simp only [ByteArray.size_append]); omega)]); (try with_reducible rfl))
          try simp only [Act.put]
          refine wpAnyH_take (i := 4) (v := ?_) rfl (by kernel_rfl) (by kernel_rfl) (by kernel_rfl) (fun _ _ _ h => h) (Or.inl ⟨by kernel_rfl, ?_⟩) (by assumption) ?_
          rotate_left
          · (intro w hSw; (try dsimp only at hSw); go_simp; (try rw [if_neg (by (try simp only [ByteArray.size_append]); omega)]); (try with_reducible rfl))
          try simp only [Act.put]
          refine wpAnyH_ready (rs := [5, 14]) (by kernel_rfl) (by simp) ?_
          refine AllReadyH.cons rfl (fun K hK => ?_) (AllReadyH.cons rfl (fun K hK => ?_) AllReadyH.nil)
          · go_simp
            refine hK.out _ _ (block_cell (blocks2 wr _ _).1 _ _ hd1) (fun _ => ?_)
            clear hK K
            try simp only [Act.put]
            refine wpAnyH_strong (S' := fun w' => w'.cell? ⟨wr.heap.size, (x % 6).toNat, none⟩ = some (.int .i64 d1) ∧ w'.cell? ⟨wr.heap.size + 1, (x / 6 % 12).toNat, none⟩ = some (.int .i64 d2)) (fun _ h => h.1) ?_
            have hHeld : (((wr.alloc (.cells #[.int .i64 0, .int .i64 1, .int .i64 0, .int .i64 1, .int .i64 2, .int .i64 9] 3)).alloc (.cells #[.int .i64 0, .int .i64 1, .int .i64 2, .int .i64 3, .int .i64 4, .int .i64 5, .int .i64 6, .int .i64 0, .int .i64 3, .int .i64 7, .int .i64 8, .int .i64 8] 3)).drew).cell? ⟨wr.heap.size, (x % 6).toNat, none⟩ = some (.int .i64 d1) ∧ (((wr.alloc (.cells #[.int .i64 0, .int .i64 1, .int .i64 0, .int .i64 1, .int .i64 2, .int .i64 9] 3)).alloc (.cells #[.int .i64 0, .int .i64 1, .int .i64 2, .int .i64 3, .int .i64 4, .int .i64 5, .int .i64 6, .int .i64 0, .int .i64 3, .int .i64 7, .int .i64 8, .int .i64 8] 3)).drew).cell? ⟨wr.heap.size + 1, (x / 6 % 12).toNat, none⟩ = some (.int .i64 d2) := ⟨(block_cell (blocks2 wr _ _).1 _ _ hd1), (block_cell (blocks2 wr _ _).2 _ _ hd2)⟩
            refine wpAnyH_take (i := 9) (v := ?_) rfl (by kernel_rfl) (by kernel_rfl) (by kernel_rfl) (fun _ _ _ h => h) (Or.inl ⟨by kernel_rfl, ?_⟩) (by assumption) ?_
            rotate_left
            · (intro w hSw; (try dsimp only at hSw); go_simp; (try rw [if_neg (by (try simp only [ByteArray.size_append]); omega)]); (try with_reducible rfl))
            try simp only [Act.put]
            refine wpAnyH_take (i := 10) (v := ?_) rfl (by kernel_rfl) (by kernel_rfl) (by kernel_rfl) (fun _ _ _ h => h) (Or.inl ⟨by kernel_rfl, ?_⟩) (by assumption) ?_
            rotate_left
            · (intro w hSw; (try dsimp only at hSw); go_simp; (try rw [if_neg (by (try simp only [ByteArray.size_append]); omega)]); (try with_reducible rfl))
            try simp only [Act.put]
            refine wpAnyH_take (i := 13) (v := ?_) rfl (by kernel_rfl) (by kernel_rfl) (by kernel_rfl) (fun _ _ _ h => h) (Or.inl ⟨by kernel_rfl, ?_⟩) (by assumption) ?_
            rotate_left
            · (intro w hSw; (try dsimp only at hSw); go_simp; (try rw [if_neg (by (try simp only [ByteArray.size_append]); omega)]); (try with_reducible rfl))
            try simp only [Act.put]
            refine wpAnyH_ready (rs := [14]) (by kernel_rfl) (by simp) ?_
            refine AllReadyH.cons rfl (fun K hK => ?_) AllReadyH.nil
            go_simp
            refine hK.out _ _ ⟨(block_cell (blocks3 wr _ _ _).1 _ _ hd1), (block_cell (blocks3 wr _ _ _).2.1 _ _ hd2)⟩ (fun _ => ?_)
            clear hK K
            try simp only [Act.put]
            refine wpAnyH_strong (S' := fun w' => w'.cell? ⟨wr.heap.size, (x % 6).toNat, none⟩ = some (.int .i64 d1) ∧ w'.cell? ⟨wr.heap.size + 1, (x / 6 % 12).toNat, none⟩ = some (.int .i64 d2) ∧ w'.heap[wr.heap.size + 2]? = some (.cells #[.int .i64 0, .int .i64 0, .int .i64 0, .bool false, .int .i64 0, .int .i64 0] 74 (0, 0))) (fun _ h => ⟨h.1, h.2.1⟩) ?_
            have hHeld : ((((wr.alloc (.cells #[.int .i64 0, .int .i64 1, .int .i64 0, .int .i64 1, .int .i64 2, .int .i64 9] 3)).alloc (.cells #[.int .i64 0, .int .i64 1, .int .i64 2, .int .i64 3, .int .i64 4, .int .i64 5, .int .i64 6, .int .i64 0, .int .i64 3, .int .i64 7, .int .i64 8, .int .i64 8] 3)).alloc (.cells #[.int .i64 0, .int .i64 0, .int .i64 0, .bool false, .int .i64 0, .int .i64 0] 74)).drew).cell? ⟨wr.heap.size, (x % 6).toNat, none⟩ = some (.int .i64 d1) ∧ ((((wr.alloc (.cells #[.int .i64 0, .int .i64 1, .int .i64 0, .int .i64 1, .int .i64 2, .int .i64 9] 3)).alloc (.cells #[.int .i64 0, .int .i64 1, .int .i64 2, .int .i64 3, .int .i64 4, .int .i64 5, .int .i64 6, .int .i64 0, .int .i64 3, .int .i64 7, .int .i64 8, .int .i64 8] 3)).alloc (.cells #[.int .i64 0, .int .i64 0, .int .i64 0, .bool false, .int .i64 0, .int .i64 0] 74)).drew).cell? ⟨wr.heap.size + 1, (x / 6 % 12).toNat, none⟩ = some (.int .i64 d2) ∧ ((((wr.alloc (.cells #[.int .i64 0, .int .i64 1, .int .i64 0, .int .i64 1, .int .i64 2, .int .i64 9] 3)).alloc (.cells #[.int .i64 0, .int .i64 1, .int .i64 2, .int .i64 3, .int .i64 4, .int .i64 5, .int .i64 6, .int .i64 0, .int .i64 3, .int .i64 7, .int .i64 8, .int .i64 8] 3)).alloc (.cells #[.int .i64 0, .int .i64 0, .int .i64 0, .bool false, .int .i64 0, .int .i64 0] 74)).drew).heap[wr.heap.size + 2]? = some (.cells #[.int .i64 0, .int .i64 0, .int .i64 0, .bool false, .int .i64 0, .int .i64 0] 74 (0, 0)) := ⟨(block_cell (blocks3 wr _ _ _).1 _ _ hd1), (block_cell (blocks3 wr _ _ _).2.1 _ _ hd2), (blocks3 wr _ _ _).2.2⟩
            refine wpAnyH_done (by kernel_rfl) ?_ _
            simp only [Exit.then]
            refine hK0 _ _ ?_
            clear hK0 K0 hHeld
            try simp only [Act.put]
            have hb : Below wr.heap.size wr (((wr.alloc (.cells #[.int .i64 0, .int .i64 1, .int .i64 0, .int .i64 1, .int .i64 2, .int .i64 9] 3)).alloc (.cells #[.int .i64 0, .int .i64 1, .int .i64 2, .int .i64 3, .int .i64 4, .int .i64 5, .int .i64 6, .int .i64 0, .int .i64 3, .int .i64 7, .int .i64 8, .int .i64 8] 3)).alloc (.cells #[.int .i64 0, .int .i64 0, .int .i64 0, .bool false, .int .i64 0, .int .i64 0] 74)).drew := (((Below.refl _ _).alloc (Nat.le_refl _) _).alloc (by simp) _ |>.alloc (by simp; omega) _).drew
            have hk : (((wr.alloc (.cells #[.int .i64 0, .int .i64 1, .int .i64 0, .int .i64 1, .int .i64 2, .int .i64 9] 3)).alloc (.cells #[.int .i64 0, .int .i64 1, .int .i64 2, .int .i64 3, .int .i64 4, .int .i64 5, .int .i64 6, .int .i64 0, .int .i64 3, .int .i64 7, .int .i64 8, .int .i64 8] 3)).alloc (.cells #[.int .i64 0, .int .i64 0, .int .i64 0, .bool false, .int .i64 0, .int .i64 0] 74)).drew.heap[wr.heap.size + 2]? = some (.cells #[.int .i64 0, .int .i64 0, .int .i64 0, .bool false, .int .i64 0, .int .i64 0] 74 (0, 0)) := (blocks3 wr _ _ _).2.2
            obtain ⟨D, hD⟩ : ∃ D, D = (((wr.alloc (.cells #[.int .i64 0, .int .i64 1, .int .i64 0, .int .i64 1, .int .i64 2, .int .i64 9] 3)).alloc (.cells #[.int .i64 0, .int .i64 1, .int .i64 2, .int .i64 3, .int .i64 4, .int .i64 5, .int .i64 6, .int .i64 0, .int .i64 3, .int .i64 7, .int .i64 8, .int .i64 8] 3)).alloc (.cells #[.int .i64 0, .int .i64 0, .int .i64 0, .bool false, .int .i64 0, .int .i64 0] 74)).drew := ⟨_, rfl⟩
            rw [← hD] at hb hk ⊢
            clear hD
            obtain ⟨W9, hW9, u9, f9⟩ := fill6 hk (.int .i64 d1) (.int .i64 d2) (.int .i64 (x / 72)) (.bool false) (.int .i64 0) (.int .i64 1)
            have hb9 : Below wr.heap.size wr W9 := ((Fr.ofBelow (F := fun _ => False) hb).trans f9 (fun b hb => .inr (by rw [hb]; omega))).toBelow fun _ _ h => h
            have k0 := block_cell hk 0 _ rfl
            have k1 := block_cell hk 1 _ rfl
            have k2 := block_cell hk 2 _ rfl
            have k3 := block_cell hk 3 _ rfl
            have k4 := block_cell hk 4 _ rfl
            have k5 := block_cell hk 5 _ rfl
            have f0 := block_free hk 0
            have f1 := block_free hk 1
            have f2 := block_free hk 2
            have f3 := block_free hk 3
            have f4 := block_free hk 4
            have f5 := block_free hk 5
            have HU9 := Lib.hid u9
            have HB9 := Lib.hid hb9
            clear hb hk u9 f9 hb9
            go_wp2_with fail
            go_meet
            exact ⟨_, rfl, by omega, HB9.out, HU9.out⟩
          · go_simp
            refine hK.out _ _ (block_cell (blocks2 wr _ _).1 _ _ hd1) (fun _ => ?_)
            clear hK K
            try simp only [Act.put]
            refine wpAnyH_strong (S' := fun w' => w'.cell? ⟨wr.heap.size, (x % 6).toNat, none⟩ = some (.int .i64 d1) ∧ w'.heap[wr.heap.size + 1]? = some (.cells #[.int .i64 0, .int .i64 0, .int .i64 0, .bool false, .int .i64 0, .int .i64 0] 74 (0, 0))) (fun _ h => h.1) ?_
            have hHeld : (((wr.alloc (.cells #[.int .i64 0, .int .i64 1, .int .i64 0, .int .i64 1, .int .i64 2, .int .i64 9] 3)).alloc (.cells #[.int .i64 0, .int .i64 0, .int .i64 0, .bool false, .int .i64 0, .int .i64 0] 74)).drew).cell? ⟨wr.heap.size, (x % 6).toNat, none⟩ = some (.int .i64 d1) ∧ (((wr.alloc (.cells #[.int .i64 0, .int .i64 1, .int .i64 0, .int .i64 1, .int .i64 2, .int .i64 9] 3)).alloc (.cells #[.int .i64 0, .int .i64 0, .int .i64 0, .bool false, .int .i64 0, .int .i64 0] 74)).drew).heap[wr.heap.size + 1]? = some (.cells #[.int .i64 0, .int .i64 0, .int .i64 0, .bool false, .int .i64 0, .int .i64 0] 74 (0, 0)) := ⟨(block_cell (blocks2 wr _ _).1 _ _ hd1), (blocks2 wr _ _).2⟩
            refine wpAnyH_ready (rs := [5]) (by kernel_rfl) (by simp) ?_
            refine AllReadyH.cons rfl (fun K hK => ?_) AllReadyH.nil
            go_simp
            refine hK.out _ _ ⟨(block_cell (blocks3 wr _ _ _).1 _ _ hd1), (blocks3 wr _ _ _).2.1⟩ (fun _ => ?_)
            clear hK K
            try simp only [Act.put]
            refine wpAnyH_strong (S' := fun w' => w'.cell? ⟨wr.heap.size, (x % 6).toNat, none⟩ = some (.int .i64 d1) ∧ w'.heap[wr.heap.size + 1]? = some (.cells #[.int .i64 0, .int .i64 0, .int .i64 0, .bool false, .int .i64 0, .int .i64 0] 74 (0, 0)) ∧ w'.cell? ⟨wr.heap.size + 2, (x / 6 % 12).toNat, none⟩ = some (.int .i64 d2)) (fun _ h => ⟨h.1, h.2.1⟩) ?_
            have hHeld : ((((wr.alloc (.cells #[.int .i64 0, .int .i64 1, .int .i64 0, .int .i64 1, .int .i64 2, .int .i64 9] 3)).alloc (.cells #[.int .i64 0, .int .i64 0, .int .i64 0, .bool false, .int .i64 0, .int .i64 0] 74)).alloc (.cells #[.int .i64 0, .int .i64 1, .int .i64 2, .int .i64 3, .int .i64 4, .int .i64 5, .int .i64 6, .int .i64 0, .int .i64 3, .int .i64 7, .int .i64 8, .int .i64 8] 3)).drew).cell? ⟨wr.heap.size, (x % 6).toNat, none⟩ = some (.int .i64 d1) ∧ ((((wr.alloc (.cells #[.int .i64 0, .int .i64 1, .int .i64 0, .int .i64 1, .int .i64 2, .int .i64 9] 3)).alloc (.cells #[.int .i64 0, .int .i64 0, .int .i64 0, .bool false, .int .i64 0, .int .i64 0] 74)).alloc (.cells #[.int .i64 0, .int .i64 1, .int .i64 2, .int .i64 3, .int .i64 4, .int .i64 5, .int .i64 6, .int .i64 0, .int .i64 3, .int .i64 7, .int .i64 8, .int .i64 8] 3)).drew).heap[wr.heap.size + 1]? = some (.cells #[.int .i64 0, .int .i64 0, .int .i64 0, .bool false, .int .i64 0, .int .i64 0] 74 (0, 0)) ∧ ((((wr.alloc (.cells #[.int .i64 0, .int .i64 1, .int .i64 0, .int .i64 1, .int .i64 2, .int .i64 9] 3)).alloc (.cells #[.int .i64 0, .int .i64 0, .int .i64 0, .bool false, .int .i64 0, .int .i64 0] 74)).alloc (.cells #[.int .i64 0, .int .i64 1, .int .i64 2, .int .i64 3, .int .i64 4, .int .i64 5, .int .i64 6, .int .i64 0, .int .i64 3, .int .i64 7, .int .i64 8, .int .i64 8] 3)).drew).cell? ⟨wr.heap.size + 2, (x / 6 % 12).toNat, none⟩ = some (.int .i64 d2) := ⟨(block_cell (blocks3 wr _ _ _).1 _ _ hd1), (blocks3 wr _ _ _).2.1, (block_cell (blocks3 wr _ _ _).2.2 _ _ hd2)⟩
            refine wpAnyH_take (i := 9) (v := ?_) rfl (by kernel_rfl) (by kernel_rfl) (by kernel_rfl) (fun _ _ _ h => h) (Or.inl ⟨by kernel_rfl, ?_⟩) (by assumption) ?_
            rotate_left
            · (intro w hSw; (try dsimp only at hSw); go_simp; (try rw [if_neg (by (try simp only [ByteArray.size_append]); omega)]); (try with_reducible rfl))
            try simp only [Act.put]
            refine wpAnyH_take (i := 10) (v := ?_) rfl (by kernel_rfl) (by kernel_rfl) (by kernel_rfl) (fun _ _ _ h => h) (Or.inl ⟨by kernel_rfl, ?_⟩) (by assumption) ?_
            rotate_left
            · (intro w hSw; (try dsimp only at hSw); go_simp; (try rw [if_neg (by (try simp only [ByteArray.size_append]); omega)]); (try with_reducible rfl))
            try simp only [Act.put]
            refine wpAnyH_take (i := 13) (v := ?_) rfl (by kernel_rfl) (by kernel_rfl) (by kernel_rfl) (fun _ _ _ h => h) (Or.inl ⟨by kernel_rfl, ?_⟩) (by assumption) ?_
            rotate_left
            · (intro w hSw; (try dsimp only at hSw); go_simp; (try rw [if_neg (by (try simp only [ByteArray.size_append]); omega)]); (try with_reducible rfl))
            try simp only [Act.put]
            refine wpAnyH_done (by kernel_rfl) ?_ _
            simp only [Exit.then]
            refine hK0 _ _ ?_
            clear hK0 K0 hHeld
            try simp only [Act.put]
            have hb : Below wr.heap.size wr (((wr.alloc (.cells #[.int .i64 0, .int .i64 1, .int .i64 0, .int .i64 1, .int .i64 2, .int .i64 9] 3)).alloc (.cells #[.int .i64 0, .int .i64 0, .int .i64 0, .bool false, .int .i64 0, .int .i64 0] 74)).alloc (.cells #[.int .i64 0, .int .i64 1, .int .i64 2, .int .i64 3, .int .i64 4, .int .i64 5, .int .i64 6, .int .i64 0, .int .i64 3, .int .i64 7, .int .i64 8, .int .i64 8] 3)).drew := (((Below.refl _ _).alloc (Nat.le_refl _) _).alloc (by simp) _ |>.alloc (by simp; omega) _).drew
            have hk : (((wr.alloc (.cells #[.int .i64 0, .int .i64 1, .int .i64 0, .int .i64 1, .int .i64 2, .int .i64 9] 3)).alloc (.cells #[.int .i64 0, .int .i64 0, .int .i64 0, .bool false, .int .i64 0, .int .i64 0] 74)).alloc (.cells #[.int .i64 0, .int .i64 1, .int .i64 2, .int .i64 3, .int .i64 4, .int .i64 5, .int .i64 6, .int .i64 0, .int .i64 3, .int .i64 7, .int .i64 8, .int .i64 8] 3)).drew.heap[wr.heap.size + 1]? = some (.cells #[.int .i64 0, .int .i64 0, .int .i64 0, .bool false, .int .i64 0, .int .i64 0] 74 (0, 0)) := (blocks3 wr _ _ _).2.1
            obtain ⟨D, hD⟩ : ∃ D, D = (((wr.alloc (.cells #[.int .i64 0, .int .i64 1, .int .i64 0, .int .i64 1, .int .i64 2, .int .i64 9] 3)).alloc (.cells #[.int .i64 0, .int .i64 0, .int .i64 0, .bool false, .int .i64 0, .int .i64 0] 74)).alloc (.cells #[.int .i64 0, .int .i64 1, .int .i64 2, .int .i64 3, .int .i64 4, .int .i64 5, .int .i64 6, .int .i64 0, .int .i64 3, .int .i64 7, .int .i64 8, .int .i64 8] 3)).drew := ⟨_, rfl⟩
            rw [← hD] at hb hk ⊢
            clear hD
            obtain ⟨W9, hW9, u9, f9⟩ := fill6 hk (.int .i64 d1) (.int .i64 d2) (.int .i64 (x / 72)) (.bool false) (.int .i64 0) (.int .i64 1)
            have hb9 : Below wr.heap.size wr W9 := ((Fr.ofBelow (F := fun _ => False) hb).trans f9 (fun b hb => .inr (by rw [hb]; omega))).toBelow fun _ _ h => h
            have k0 := block_cell hk 0 _ rfl
            have k1 := block_cell hk 1 _ rfl
            have k2 := block_cell hk 2 _ rfl
            have k3 := block_cell hk 3 _ rfl
            have k4 := block_cell hk 4 _ rfl
            have k5 := block_cell hk 5 _ rfl
            have f0 := block_free hk 0
            have f1 := block_free hk 1
            have f2 := block_free hk 2
            have f3 := block_free hk 3
            have f4 := block_free hk 4
            have f5 := block_free hk 5
            have HU9 := Lib.hid u9
            have HB9 := Lib.hid hb9
            clear hb hk u9 f9 hb9
            go_wp2_with fail
            go_meet
            exact ⟨_, rfl, by omega, HB9.out, HU9.out⟩
        · go_simp
          refine hK.out _ _ trivial (fun _ => ?_)
          clear hK K
          try simp only [Act.put]
          refine wpAnyH_strong (S' := fun w' => w'.cell? ⟨wr.heap.size, (x / 6 % 12).toNat, none⟩ = some (.int .i64 d2)) (fun _ _ => trivial) ?_
          have hHeld : ((wr.alloc (.cells #[.int .i64 0, .int .i64 1, .int .i64 2, .int .i64 3, .int .i64 4, .int .i64 5, .int .i64 6, .int .i64 0, .int .i64 3, .int .i64 7, .int .i64 8, .int .i64 8] 3)).drew).cell? ⟨wr.heap.size, (x / 6 % 12).toNat, none⟩ = some (.int .i64 d2) := (block_cell (blocks1 wr _) _ _ hd2)
          refine wpAnyH_take (i := 9) (v := ?_) rfl (by kernel_rfl) (by kernel_rfl) (by kernel_rfl) (fun _ _ _ h => h) (Or.inl ⟨by kernel_rfl, ?_⟩) (by assumption) ?_
          rotate_left
          · (intro w hSw; (try dsimp only at hSw); go_simp; (try rw [if_neg (by (try simp only [ByteArray.size_append]); omega)]); (try with_reducible rfl))
          try simp only [Act.put]
          refine wpAnyH_take (i := 10) (v := ?_) rfl (by kernel_rfl) (by kernel_rfl) (by kernel_rfl) (fun _ _ _ h => h) (Or.inl ⟨by kernel_rfl, ?_⟩) (by assumption) ?_
          rotate_left
          · (intro w hSw; (try dsimp only at hSw); go_simp; (try rw [if_neg (by (try simp only [ByteArray.size_append]); omega)]); (try with_reducible rfl))
          try simp only [Act.put]
          refine wpAnyH_ready (rs := [0, 14]) (by kernel_rfl) (by simp) ?_
          refine AllReadyH.cons rfl (fun K hK => ?_) (AllReadyH.cons rfl (fun K hK => ?_) AllReadyH.nil)
          · go_simp
            refine hK.out _ _ (block_cell (blocks2 wr _ _).1 _ _ hd2) (fun _ => ?_)
            clear hK K
            try simp only [Act.put]
            refine wpAnyH_strong (S' := fun w' => w'.cell? ⟨wr.heap.size, (x / 6 % 12).toNat, none⟩ = some (.int .i64 d2) ∧ w'.cell? ⟨wr.heap.size + 1, (x % 6).toNat, none⟩ = some (.int .i64 d1)) (fun _ h => h.1) ?_
            have hHeld : (((wr.alloc (.cells #[.int .i64 0, .int .i64 1, .int .i64 2, .int .i64 3, .int .i64 4, .int .i64 5, .int .i64 6, .int .i64 0, .int .i64 3, .int .i64 7, .int .i64 8, .int .i64 8] 3)).alloc (.cells #[.int .i64 0, .int .i64 1, .int .i64 0, .int .i64 1, .int .i64 2, .int .i64 9] 3)).drew).cell? ⟨wr.heap.size, (x / 6 % 12).toNat, none⟩ = some (.int .i64 d2) ∧ (((wr.alloc (.cells #[.int .i64 0, .int .i64 1, .int .i64 2, .int .i64 3, .int .i64 4, .int .i64 5, .int .i64 6, .int .i64 0, .int .i64 3, .int .i64 7, .int .i64 8, .int .i64 8] 3)).alloc (.cells #[.int .i64 0, .int .i64 1, .int .i64 0, .int .i64 1, .int .i64 2, .int .i64 9] 3)).drew).cell? ⟨wr.heap.size + 1, (x % 6).toNat, none⟩ = some (.int .i64 d1) := ⟨(block_cell (blocks2 wr _ _).1 _ _ hd2), (block_cell (blocks2 wr _ _).2 _ _ hd1)⟩
            refine wpAnyH_take (i := 3) (v := ?_) rfl (by kernel_rfl) (by kernel_rfl) (by kernel_rfl) (fun _ _ _ h => h) (Or.inl ⟨by kernel_rfl, ?_⟩) (by assumption) ?_
            rotate_left
            · (intro w hSw; (try dsimp only at hSw); go_simp; (try rw [if_neg (by (try simp only [ByteArray.size_append]); omega)]); (try with_reducible rfl))
            try simp only [Act.put]
            refine wpAnyH_take (i := 4) (v := ?_) rfl (by kernel_rfl) (by kernel_rfl) (by kernel_rfl) (fun _ _ _ h => h) (Or.inl ⟨by kernel_rfl, ?_⟩) (by assumption) ?_
            rotate_left
            · (intro w hSw; (try dsimp only at hSw); go_simp; (try rw [if_neg (by (try simp only [ByteArray.size_append]); omega)]); (try with_reducible rfl))
            try simp only [Act.put]
            refine wpAnyH_take (i := 13) (v := ?_) rfl (by kernel_rfl) (by kernel_rfl) (by kernel_rfl) (fun _ _ _ h => h) (Or.inl ⟨by kernel_rfl, ?_⟩) (by assumption) ?_
            rotate_left
            · (intro w hSw; (try dsimp only at hSw); go_simp; (try rw [if_neg (by (try simp only [ByteArray.size_append]); omega)]); (try with_reducible rfl))
            try simp only [Act.put]
            refine wpAnyH_ready (rs := [14]) (by kernel_rfl) (by simp) ?_
            refine AllReadyH.cons rfl (fun K hK => ?_) AllReadyH.nil
            go_simp
            refine hK.out _ _ ⟨(block_cell (blocks3 wr _ _ _).1 _ _ hd2), (block_cell (blocks3 wr _ _ _).2.1 _ _ hd1)⟩ (fun _ => ?_)
            clear hK K
            try simp only [Act.put]
            refine wpAnyH_strong (S' := fun w' => w'.cell? ⟨wr.heap.size, (x / 6 % 12).toNat, none⟩ = some (.int .i64 d2) ∧ w'.cell? ⟨wr.heap.size + 1, (x % 6).toNat, none⟩ = some (.int .i64 d1) ∧ w'.heap[wr.heap.size + 2]? = some (.cells #[.int .i64 0, .int .i64 0, .int .i64 0, .bool false, .int .i64 0, .int .i64 0] 74 (0, 0))) (fun _ h => ⟨h.1, h.2.1⟩) ?_
            have hHeld : ((((wr.alloc (.cells #[.int .i64 0, .int .i64 1, .int .i64 2, .int .i64 3, .int .i64 4, .int .i64 5, .int .i64 6, .int .i64 0, .int .i64 3, .int .i64 7, .int .i64 8, .int .i64 8] 3)).alloc (.cells #[.int .i64 0, .int .i64 1, .int .i64 0, .int .i64 1, .int .i64 2, .int .i64 9] 3)).alloc (.cells #[.int .i64 0, .int .i64 0, .int .i64 0, .bool false, .int .i64 0, .int .i64 0] 74)).drew).cell? ⟨wr.heap.size, (x / 6 % 12).toNat, none⟩ = some (.int .i64 d2) ∧ ((((wr.alloc (.cells #[.int .i64 0, .int .i64 1, .int .i64 2, .int .i64 3, .int .i64 4, .int .i64 5, .int .i64 6, .int .i64 0, .int .i64 3, .int .i64 7, .int .i64 8, .int .i64 8] 3)).alloc (.cells #[.int .i64 0, .int .i64 1, .int .i64 0, .int .i64 1, .int .i64 2, .int .i64 9] 3)).alloc (.cells #[.int .i64 0, .int .i64 0, .int .i64 0, .bool false, .int .i64 0, .int .i64 0] 74)).drew).cell? ⟨wr.heap.size + 1, (x % 6).toNat, none⟩ = some (.int .i64 d1) ∧ ((((wr.alloc (.cells #[.int .i64 0, .int .i64 1, .int .i64 2, .int .i64 3, .int .i64 4, .int .i64 5, .int .i64 6, .int .i64 0, .int .i64 3, .int .i64 7, .int .i64 8, .int .i64 8] 3)).alloc (.cells #[.int .i64 0, .int .i64 1, .int .i64 0, .int .i64 1, .int .i64 2, .int .i64 9] 3)).alloc (.cells #[.int .i64 0, .int .i64 0, .int .i64 0, .bool false, .int .i64 0, .int .i64 0] 74)).drew).heap[wr.heap.size + 2]? = some (.cells #[.int .i64 0, .int .i64 0, .int .i64 0, .bool false, .int .i64 0, .int .i64 0] 74 (0, 0)) := ⟨(block_cell (blocks3 wr _ _ _).1 _ _ hd2), (block_cell (blocks3 wr _ _ _).2.1 _ _ hd1), (blocks3 wr _ _ _).2.2⟩
            refine wpAnyH_done (by kernel_rfl) ?_ _
            simp only [Exit.then]
            refine hK0 _ _ ?_
            clear hK0 K0 hHeld
            try simp only [Act.put]
            have hb : Below wr.heap.size wr (((wr.alloc (.cells #[.int .i64 0, .int .i64 1, .int .i64 2, .int .i64 3, .int .i64 4, .int .i64 5, .int .i64 6, .int .i64 0, .int .i64 3, .int .i64 7, .int .i64 8, .int .i64 8] 3)).alloc (.cells #[.int .i64 0, .int .i64 1, .int .i64 0, .int .i64 1, .int .i64 2, .int .i64 9] 3)).alloc (.cells #[.int .i64 0, .int .i64 0, .int .i64 0, .bool false, .int .i64 0, .int .i64 0] 74)).drew := (((Below.refl _ _).alloc (Nat.le_refl _) _).alloc (by simp) _ |>.alloc (by simp; omega) _).drew
            have hk : (((wr.alloc (.cells #[.int .i64 0, .int .i64 1, .int .i64 2, .int .i64 3, .int .i64 4, .int .i64 5, .int .i64 6, .int .i64 0, .int .i64 3, .int .i64 7, .int .i64 8, .int .i64 8] 3)).alloc (.cells #[.int .i64 0, .int .i64 1, .int .i64 0, .int .i64 1, .int .i64 2, .int .i64 9] 3)).alloc (.cells #[.int .i64 0, .int .i64 0, .int .i64 0, .bool false, .int .i64 0, .int .i64 0] 74)).drew.heap[wr.heap.size + 2]? = some (.cells #[.int .i64 0, .int .i64 0, .int .i64 0, .bool false, .int .i64 0, .int .i64 0] 74 (0, 0)) := (blocks3 wr _ _ _).2.2
            obtain ⟨D, hD⟩ : ∃ D, D = (((wr.alloc (.cells #[.int .i64 0, .int .i64 1, .int .i64 2, .int .i64 3, .int .i64 4, .int .i64 5, .int .i64 6, .int .i64 0, .int .i64 3, .int .i64 7, .int .i64 8, .int .i64 8] 3)).alloc (.cells #[.int .i64 0, .int .i64 1, .int .i64 0, .int .i64 1, .int .i64 2, .int .i64 9] 3)).alloc (.cells #[.int .i64 0, .int .i64 0, .int .i64 0, .bool false, .int .i64 0, .int .i64 0] 74)).drew := ⟨_, rfl⟩
            rw [← hD] at hb hk ⊢
            clear hD
            obtain ⟨W9, hW9, u9, f9⟩ := fill6 hk (.int .i64 d1) (.int .i64 d2) (.int .i64 (x / 72)) (.bool false) (.int .i64 0) (.int .i64 1)
            have hb9 : Below wr.heap.size wr W9 := ((Fr.ofBelow (F := fun _ => False) hb).trans f9 (fun b hb => .inr (by rw [hb]; omega))).toBelow fun _ _ h => h
            have k0 := block_cell hk 0 _ rfl
            have k1 := block_cell hk 1 _ rfl
            have k2 := block_cell hk 2 _ rfl
            have k3 := block_cell hk 3 _ rfl
            have k4 := block_cell hk 4 _ rfl
            have k5 := block_cell hk 5 _ rfl
            have f0 := block_free hk 0
            have f1 := block_free hk 1
            have f2 := block_free hk 2
            have f3 := block_free hk 3
            have f4 := block_free hk 4
            have f5 := block_free hk 5
            have HU9 := Lib.hid u9
            have HB9 := Lib.hid hb9
            clear hb hk u9 f9 hb9
            go_wp2_with fail
            go_meet
            exact ⟨_, rfl, by omega, HB9.out, HU9.out⟩
          · go_simp
            refine hK.out _ _ (block_cell (blocks2 wr _ _).1 _ _ hd2) (fun _ => ?_)
            clear hK K
            try simp only [Act.put]
            refine wpAnyH_strong (S' := fun w' => w'.cell? ⟨wr.heap.size, (x / 6 % 12).toNat, none⟩ = some (.int .i64 d2) ∧ w'.heap[wr.heap.size + 1]? = some (.cells #[.int .i64 0, .int .i64 0, .int .i64 0, .bool false, .int .i64 0, .int .i64 0] 74 (0, 0))) (fun _ h => h.1) ?_
            have hHeld : (((wr.alloc (.cells #[.int .i64 0, .int .i64 1, .int .i64 2, .int .i64 3, .int .i64 4, .int .i64 5, .int .i64 6, .int .i64 0, .int .i64 3, .int .i64 7, .int .i64 8, .int .i64 8] 3)).alloc (.cells #[.int .i64 0, .int .i64 0, .int .i64 0, .bool false, .int .i64 0, .int .i64 0] 74)).drew).cell? ⟨wr.heap.size, (x / 6 % 12).toNat, none⟩ = some (.int .i64 d2) ∧ (((wr.alloc (.cells #[.int .i64 0, .int .i64 1, .int .i64 2, .int .i64 3, .int .i64 4, .int .i64 5, .int .i64 6, .int .i64 0, .int .i64 3, .int .i64 7, .int .i64 8, .int .i64 8] 3)).alloc (.cells #[.int .i64 0, .int .i64 0, .int .i64 0, .bool false, .int .i64 0, .int .i64 0] 74)).drew).heap[wr.heap.size + 1]? = some (.cells #[.int .i64 0, .int .i64 0, .int .i64 0, .bool false, .int .i64 0, .int .i64 0] 74 (0, 0)) := ⟨(block_cell (blocks2 wr _ _).1 _ _ hd2), (blocks2 wr _ _).2⟩
            refine wpAnyH_ready (rs := [0]) (by kernel_rfl) (by simp) ?_
            refine AllReadyH.cons rfl (fun K hK => ?_) AllReadyH.nil
            go_simp
            refine hK.out _ _ ⟨(block_cell (blocks3 wr _ _ _).1 _ _ hd2), (blocks3 wr _ _ _).2.1⟩ (fun _ => ?_)
            clear hK K
            try simp only [Act.put]
            refine wpAnyH_strong (S' := fun w' => w'.cell? ⟨wr.heap.size, (x / 6 % 12).toNat, none⟩ = some (.int .i64 d2) ∧ w'.heap[wr.heap.size + 1]? = some (.cells #[.int .i64 0, .int .i64 0, .int .i64 0, .bool false, .int .i64 0, .int .i64 0] 74 (0, 0)) ∧ w'.cell? ⟨wr.heap.size + 2, (x % 6).toNat, none⟩ = some (.int .i64 d1)) (fun _ h => ⟨h.1, h.2.1⟩) ?_
            have hHeld : ((((wr.alloc (.cells #[.int .i64 0, .int .i64 1, .int .i64 2, .int .i64 3, .int .i64 4, .int .i64 5, .int .i64 6, .int .i64 0, .int .i64 3, .int .i64 7, .int .i64 8, .int .i64 8] 3)).alloc (.cells #[.int .i64 0, .int .i64 0, .int .i64 0, .bool false, .int .i64 0, .int .i64 0] 74)).alloc (.cells #[.int .i64 0, .int .i64 1, .int .i64 0, .int .i64 1, .int .i64 2, .int .i64 9] 3)).drew).cell? ⟨wr.heap.size, (x / 6 % 12).toNat, none⟩ = some (.int .i64 d2) ∧ ((((wr.alloc (.cells #[.int .i64 0, .int .i64 1, .int .i64 2, .int .i64 3, .int .i64 4, .int .i64 5, .int .i64 6, .int .i64 0, .int .i64 3, .int .i64 7, .int .i64 8, .int .i64 8] 3)).alloc (.cells #[.int .i64 0, .int .i64 0, .int .i64 0, .bool false, .int .i64 0, .int .i64 0] 74)).alloc (.cells #[.int .i64 0, .int .i64 1, .int .i64 0, .int .i64 1, .int .i64 2, .int .i64 9] 3)).drew).heap[wr.heap.size + 1]? = some (.cells #[.int .i64 0, .int .i64 0, .int .i64 0, .bool false, .int .i64 0, .int .i64 0] 74 (0, 0)) ∧ ((((wr.alloc (.cells #[.int .i64 0, .int .i64 1, .int .i64 2, .int .i64 3, .int .i64 4, .int .i64 5, .int .i64 6, .int .i64 0, .int .i64 3, .int .i64 7, .int .i64 8, .int .i64 8] 3)).alloc (.cells #[.int .i64 0, .int .i64 0, .int .i64 0, .bool false, .int .i64 0, .int .i64 0] 74)).alloc (.cells #[.int .i64 0, .int .i64 1, .int .i64 0, .int .i64 1, .int .i64 2, .int .i64 9] 3)).drew).cell? ⟨wr.heap.size + 2, (x % 6).toNat, none⟩ = some (.int .i64 d1) := ⟨(block_cell (blocks3 wr _ _ _).1 _ _ hd2), (blocks3 wr _ _ _).2.1, (block_cell (blocks3 wr _ _ _).2.2 _ _ hd1)⟩
            refine wpAnyH_take (i := 3) (v := ?_) rfl (by kernel_rfl) (by kernel_rfl) (by kernel_rfl) (fun _ _ _ h => h) (Or.inl ⟨by kernel_rfl, ?_⟩) (by assumption) ?_
            rotate_left
            · (intro w hSw; (try dsimp only at hSw); go_simp; (try rw [if_neg (by (try simp only [ByteArray.size_append]); omega)]); (try with_reducible rfl))
            try simp only [Act.put]
            refine wpAnyH_take (i := 4) (v := ?_) rfl (by kernel_rfl) (by kernel_rfl) (by kernel_rfl) (fun _ _ _ h => h) (Or.inl ⟨by kernel_rfl, ?_⟩) (by assumption) ?_
            rotate_left
            · (intro w hSw; (try dsimp only at hSw); go_simp; (try rw [if_neg (by (try simp only [ByteArray.size_append]); omega)]); (try with_reducible rfl))
            try simp only [Act.put]
            refine wpAnyH_take (i := 13) (v := ?_) rfl (by kernel_rfl) (by kernel_rfl) (by kernel_rfl) (fun _ _ _ h => h) (Or.inl ⟨by kernel_rfl, ?_⟩) (by assumption) ?_
            rotate_left
            · (intro w hSw; (try dsimp only at hSw); go_simp; (try rw [if_neg (by (try simp only [ByteArray.size_append]); omega)]); (try with_reducible rfl))
            try simp only [Act.put]
            refine wpAnyH_done (by kernel_rfl) ?_ _
            simp only [Exit.then]
            refine hK0 _ _ ?_
            clear hK0 K0 hHeld
            try simp only [Act.put]
            have hb : Below wr.heap.size wr (((wr.alloc (.cells #[.int .i64 0, .int .i64 1, .int .i64 2, .int .i64 3, .int .i64 4, .int .i64 5, .int .i64 6, .int .i64 0, .int .i64 3, .int .i64 7, .int .i64 8, .int .i64 8] 3)).alloc (.cells #[.int .i64 0, .int .i64 0, .int .i64 0, .bool false, .int .i64 0, .int .i64 0] 74)).alloc (.cells #[.int .i64 0, .int .i64 1, .int .i64 0, .int .i64 1, .int .i64 2, .int .i64 9] 3)).drew := (((Below.refl _ _).alloc (Nat.le_refl _) _).alloc (by simp) _ |>.alloc (by simp; omega) _).drew
            have hk : (((wr.alloc (.cells #[.int .i64 0, .int .i64 1, .int .i64 2, .int .i64 3, .int .i64 4, .int .i64 5, .int .i64 6, .int .i64 0, .int .i64 3, .int .i64 7, .int .i64 8, .int .i64 8] 3)).alloc (.cells #[.int .i64 0, .int .i64 0, .int .i64 0, .bool false, .int .i64 0, .int .i64 0] 74)).alloc (.cells #[.int .i64 0, .int .i64 1, .int .i64 0, .int .i64 1, .int .i64 2, .int .i64 9] 3)).drew.heap[wr.heap.size + 1]? = some (.cells #[.int .i64 0, .int .i64 0, .int .i64 0, .bool false, .int .i64 0, .int .i64 0] 74 (0, 0)) := (blocks3 wr _ _ _).2.1
            obtain ⟨D, hD⟩ : ∃ D, D = (((wr.alloc (.cells #[.int .i64 0, .int .i64 1, .int .i64 2, .int .i64 3, .int .i64 4, .int .i64 5, .int .i64 6, .int .i64 0, .int .i64 3, .int .i64 7, .int .i64 8, .int .i64 8] 3)).alloc (.cells #[.int .i64 0, .int .i64 0, .int .i64 0, .bool false, .int .i64 0, .int .i64 0] 74)).alloc (.cells #[.int .i64 0, .int .i64 1, .int .i64 0, .int .i64 1, .int .i64 2, .int .i64 9] 3)).drew := ⟨_, rfl⟩
            rw [← hD] at hb hk ⊢
            clear hD
            obtain ⟨W9, hW9, u9, f9⟩ := fill6 hk (.int .i64 d1) (.int .i64 d2) (.int .i64 (x / 72)) (.bool false) (.int .i64 0) (.int .i64 1)
            have hb9 : Below wr.heap.size wr W9 := ((Fr.ofBelow (F := fun _ => False) hb).trans f9 (fun b hb => .inr (by rw [hb]; omega))).toBelow fun _ _ h => h
            have k0 := block_cell hk 0 _ rfl
            have k1 := block_cell hk 1 _ rfl
            have k2 := block_cell hk 2 _ rfl
            have k3 := block_cell hk 3 _ rfl
            have k4 := block_cell hk 4 _ rfl
            have k5 := block_cell hk 5 _ rfl
            have f0 := block_free hk 0
            have f1 := block_free hk 1
            have f2 := block_free hk 2
            have f3 := block_free hk 3
            have f4 := block_free hk 4
            have f5 := block_free hk 5
            have HU9 := Lib.hid u9
            have HB9 := Lib.hid hb9
            clear hb hk u9 f9 hb9
            go_wp2_with fail
            go_meet
            exact ⟨_, rfl, by omega, HB9.out, HU9.out⟩
        · go_simp
          refine hK.out _ _ trivial (fun _ => ?_)
          clear hK K
          try simp only [Act.put]
          refine wpAnyH_strong (S' := fun w' => w'.heap[wr.heap.size]? = some (.cells #[.int .i64 0, .int .i64 0, .int .i64 0, .bool false, .int .i64 0, .int .i64 0] 74 (0, 0))) (fun _ _ => trivial) ?_
          have hHeld : ((wr.alloc (.cells #[.int .i64 0, .int .i64 0, .int .i64 0, .bool false, .int .i64 0, .int .i64 0] 74)).drew).heap[wr.heap.size]? = some (.cells #[.int .i64 0, .int .i64 0, .int .i64 0, .bool false, .int .i64 0, .int .i64 0] 74 (0, 0)) := (blocks1 wr _)
          refine wpAnyH_ready (rs := [0, 5]) (by kernel_rfl) (by simp) ?_
          refine AllReadyH.cons rfl (fun K hK => ?_) (AllReadyH.cons rfl (fun K hK => ?_) AllReadyH.nil)
          · go_simp
            refine hK.out _ _ (blocks2 wr _ _).1 (fun _ => ?_)
            clear hK K
            try simp only [Act.put]
            refine wpAnyH_strong (S' := fun w' => w'.heap[wr.heap.size]? = some (.cells #[.int .i64 0, .int .i64 0, .int .i64 0, .bool false, .int .i64 0, .int .i64 0] 74 (0, 0)) ∧ w'.cell? ⟨wr.heap.size + 1, (x % 6).toNat, none⟩ = some (.int .i64 d1)) (fun _ h => h.1) ?_
            have hHeld : (((wr.alloc (.cells #[.int .i64 0, .int .i64 0, .int .i64 0, .bool false, .int .i64 0, .int .i64 0] 74)).alloc (.cells #[.int .i64 0, .int .i64 1, .int .i64 0, .int .i64 1, .int .i64 2, .int .i64 9] 3)).drew).heap[wr.heap.size]? = some (.cells #[.int .i64 0, .int .i64 0, .int .i64 0, .bool false, .int .i64 0, .int .i64 0] 74 (0, 0)) ∧ (((wr.alloc (.cells #[.int .i64 0, .int .i64 0, .int .i64 0, .bool false, .int .i64 0, .int .i64 0] 74)).alloc (.cells #[.int .i64 0, .int .i64 1, .int .i64 0, .int .i64 1, .int .i64 2, .int .i64 9] 3)).drew).cell? ⟨wr.heap.size + 1, (x % 6).toNat, none⟩ = some (.int .i64 d1) := ⟨(blocks2 wr _ _).1, (block_cell (blocks2 wr _ _).2 _ _ hd1)⟩
            refine wpAnyH_take (i := 3) (v := ?_) rfl (by kernel_rfl) (by kernel_rfl) (by kernel_rfl) (fun _ _ _ h => h) (Or.inl ⟨by kernel_rfl, ?_⟩) (by assumption) ?_
            rotate_left
            · (intro w hSw; (try dsimp only at hSw); go_simp; (try rw [if_neg (by (try simp only [ByteArray.size_append]); omega)]); (try with_reducible rfl))
            try simp only [Act.put]
            refine wpAnyH_take (i := 4) (v := ?_) rfl (by kernel_rfl) (by kernel_rfl) (by kernel_rfl) (fun _ _ _ h => h) (Or.inl ⟨by kernel_rfl, ?_⟩) (by assumption) ?_
            rotate_left
            · (intro w hSw; (try dsimp only at hSw); go_simp; (try rw [if_neg (by (try simp only [ByteArray.size_append]); omega)]); (try with_reducible rfl))
            try simp only [Act.put]
            refine wpAnyH_ready (rs := [5]) (by kernel_rfl) (by simp) ?_
            refine AllReadyH.cons rfl (fun K hK => ?_) AllReadyH.nil
            go_simp
            refine hK.out _ _ ⟨(blocks3 wr _ _ _).1, (block_cell (blocks3 wr _ _ _).2.1 _ _ hd1)⟩ (fun _ => ?_)
            clear hK K
            try simp only [Act.put]
            refine wpAnyH_strong (S' := fun w' => w'.heap[wr.heap.size]? = some (.cells #[.int .i64 0, .int .i64 0, .int .i64 0, .bool false, .int .i64 0, .int .i64 0] 74 (0, 0)) ∧ w'.cell? ⟨wr.heap.size + 1, (x % 6).toNat, none⟩ = some (.int .i64 d1) ∧ w'.cell? ⟨wr.heap.size + 2, (x / 6 % 12).toNat, none⟩ = some (.int .i64 d2)) (fun _ h => ⟨h.1, h.2.1⟩) ?_
            have hHeld : ((((wr.alloc (.cells #[.int .i64 0, .int .i64 0, .int .i64 0, .bool false, .int .i64 0, .int .i64 0] 74)).alloc (.cells #[.int .i64 0, .int .i64 1, .int .i64 0, .int .i64 1, .int .i64 2, .int .i64 9] 3)).alloc (.cells #[.int .i64 0, .int .i64 1, .int .i64 2, .int .i64 3, .int .i64 4, .int .i64 5, .int .i64 6, .int .i64 0, .int .i64 3, .int .i64 7, .int .i64 8, .int .i64 8] 3)).drew).heap[wr.heap.size]? = some (.cells #[.int .i64 0, .int .i64 0, .int .i64 0, .bool false, .int .i64 0, .int .i64 0] 74 (0, 0)) ∧ ((((wr.alloc (.cells #[.int .i64 0, .int .i64 0, .int .i64 0, .bool false, .int .i64 0, .int .i64 0] 74)).alloc (.cells #[.int .i64 0, .int .i64 1, .int .i64 0, .int .i64 1, .int .i64 2, .int .i64 9] 3)).alloc (.cells #[.int .i64 0, .int .i64 1, .int .i64 2, .int .i64 3, .int .i64 4, .int .i64 5, .int .i64 6, .int .i64 0, .int .i64 3, .int .i64 7, .int .i64 8, .int .i64 8] 3)).drew).cell? ⟨wr.heap.size + 1, (x % 6).toNat, none⟩ = some (.int .i64 d1) ∧ ((((wr.alloc (.cells #[.int .i64 0, .int .i64 0, .int .i64 0, .bool false, .int .i64 0, .int .i64 0] 74)).alloc (.cells #[.int .i64 0, .int .i64 1, .int .i64 0, .int .i64 1, .int .i64 2, .int .i64 9] 3)).alloc (.cells #[.int .i64 0, .int .i64 1, .int .i64 2, .int .i64 3, .int .i64 4, .int .i64 5, .int .i64 6, .int .i64 0, .int .i64 3, .int .i64 7, .int .i64 8, .int .i64 8] 3)).drew).cell? ⟨wr.heap.size + 2, (x / 6 % 12).toNat, none⟩ = some (.int .i64 d2) := ⟨(blocks3 wr _ _ _).1, (block_cell (blocks3 wr _ _ _).2.1 _ _ hd1), (block_cell (blocks3 wr _ _ _).2.2 _ _ hd2)⟩
            refine wpAnyH_take (i := 9) (v := ?_) rfl (by kernel_rfl) (by kernel_rfl) (by kernel_rfl) (fun _ _ _ h => h) (Or.inl ⟨by kernel_rfl, ?_⟩) (by assumption) ?_
            rotate_left
            · (intro w hSw; (try dsimp only at hSw); go_simp; (try rw [if_neg (by (try simp only [ByteArray.size_append]); omega)]); (try with_reducible rfl))
            try simp only [Act.put]
            refine wpAnyH_take (i := 10) (v := ?_) rfl (by kernel_rfl) (by kernel_rfl) (by kernel_rfl) (fun _ _ _ h => h) (Or.inl ⟨by kernel_rfl, ?_⟩) (by assumption) ?_
            rotate_left
            · (intro w hSw; (try dsimp only at hSw); go_simp; (try rw [if_neg (by (try simp only [ByteArray.size_append]); omega)]); (try with_reducible rfl))
            try simp only [Act.put]
            refine wpAnyH_take (i := 13) (v := ?_) rfl (by kernel_rfl) (by kernel_rfl) (by kernel_rfl) (fun _ _ _ h => h) (Or.inl ⟨by kernel_rfl, ?_⟩) (by assumption) ?_
            rotate_left
            · (intro w hSw; (try dsimp only at hSw); go_simp; (try rw [if_neg (by (try simp only [ByteArray.size_append]); omega)]); (try with_reducible rfl))
            try simp only [Act.put]
            refine wpAnyH_done (by kernel_rfl) ?_ _
            simp only [Exit.then]
            refine hK0 _ _ ?_
            clear hK0 K0 hHeld
            try simp only [Act.put]
            have hb : Below wr.heap.size wr (((wr.alloc (.cells #[.int .i64 0, .int .i64 0, .int .i64 0, .bool false, .int .i64 0, .int .i64 0] 74)).alloc (.cells #[.int .i64 0, .int .i64 1, .int .i64 0, .int .i64 1, .int .i64 2, .int .i64 9] 3)).alloc (.cells #[.int .i64 0, .int .i64 1, .int .i64 2, .int .i64 3, .int .i64 4, .int .i64 5, .int .i64 6, .int .i64 0, .int .i64 3, .int .i64 7, .int .i64 8, .int .i64 8] 3)).drew := (((Below.refl _ _).alloc (Nat.le_refl _) _).alloc (by simp) _ |>.alloc (by simp; omega) _).drew
            have hk : (((wr.alloc (.cells #[.int .i64 0, .int .i64 0, .int .i64 0, .bool false, .int .i64 0, .int .i64 0] 74)).alloc (.cells #[.int .i64 0, .int .i64 1, .int .i64 0, .int .i64 1, .int .i64 2, .int .i64 9] 3)).alloc (.cells #[.int .i64 0, .int .i64 1, .int .i64 2, .int .i64 3, .int .i64 4, .int .i64 5, .int .i64 6, .int .i64 0, .int .i64 3, .int .i64 7, .int .i64 8, .int .i64 8] 3)).drew.heap[wr.heap.size]? = some (.cells #[.int .i64 0, .int .i64 0, .int .i64 0, .bool false, .int .i64 0, .int .i64 0] 74 (0, 0)) := (blocks3 wr _ _ _).1
            obtain ⟨D, hD⟩ : ∃ D, D = (((wr.alloc (.cells #[.int .i64 0, .int .i64 0, .int .i64 0, .bool false, .int .i64 0, .int .i64 0] 74)).alloc (.cells #[.int .i64 0, .int .i64 1, .int .i64 0, .int .i64 1, .int .i64 2, .int .i64 9] 3)).alloc (.cells #[.int .i64 0, .int .i64 1, .int .i64 2, .int .i64 3, .int .i64 4, .int .i64 5, .int .i64 6, .int .i64 0, .int .i64 3, .int .i64 7, .int .i64 8, .int .i64 8] 3)).drew := ⟨_, rfl⟩
            rw [← hD] at hb hk ⊢
            clear hD
            obtain ⟨W9, hW9, u9, f9⟩ := fill6 hk (.int .i64 d1) (.int .i64 d2) (.int .i64 (x / 72)) (.bool false) (.int .i64 0) (.int .i64 1)
            have hb9 : Below wr.heap.size wr W9 := ((Fr.ofBelow (F := fun _ => False) hb).trans f9 (fun b hb => .inr (by rw [hb]; omega))).toBelow fun _ _ h => h
            have k0 := block_cell hk 0 _ rfl
            have k1 := block_cell hk 1 _ rfl
            have k2 := block_cell hk 2 _ rfl
            have k3 := block_cell hk 3 _ rfl
            have k4 := block_cell hk 4 _ rfl
            have k5 := block_cell hk 5 _ rfl
            have f0 := block_free hk 0
            have f1 := block_free hk 1
            have f2 := block_free hk 2
            have f3 := block_free hk 3
            have f4 := block_free hk 4
            have f5 := block_free hk 5
            have HU9 := Lib.hid u9
            have HB9 := Lib.hid hb9
            clear hb hk u9 f9 hb9
            go_wp2_with fail
            go_meet
            exact ⟨_, rfl, by omega, HB9.out, HU9.out⟩
          · go_simp
            refine hK.out _ _ (blocks2 wr _ _).1 (fun _ => ?_)
            clear hK K
            try simp only [Act.put]
            refine wpAnyH_strong (S' := fun w' => w'.heap[wr.heap.size]? = some (.cells #[.int .i64 0, .int .i64 0, .int .i64 0, .bool false, .int .i64 0, .int .i64 0] 74 (0, 0)) ∧ w'.cell? ⟨wr.heap.size + 1, (x / 6 % 12).toNat, none⟩ = some (.int .i64 d2)) (fun _ h => h.1) ?_
            have hHeld : (((wr.alloc (.cells #[.int .i64 0, .int .i64 0, .int .i64 0, .bool false, .int .i64 0, .int .i64 0] 74)).alloc (.cells #[.int .i64 0, .int .i64 1, .int .i64 2, .int .i64 3, .int .i64 4, .int .i64 5, .int .i64 6, .int .i64 0, .int .i64 3, .int .i64 7, .int .i64 8, .int .i64 8] 3)).drew).heap[wr.heap.size]? = some (.cells #[.int .i64 0, .int .i64 0, .int .i64 0, .bool false, .int .i64 0, .int .i64 0] 74 (0, 0)) ∧ (((wr.alloc (.cells #[.int .i64 0, .int .i64 0, .int .i64 0, .bool false, .int .i64 0, .int .i64 0] 74)).alloc (.cells #[.int .i64 0, .int .i64 1, .int .i64 2, .int .i64 3, .int .i64 4, .int .i64 5, .int .i64 6, .int .i64 0, .int .i64 3, .int .i64 7, .int .i64 8, .int .i64 8] 3)).drew).cell? ⟨wr.heap.size + 1, (x / 6 % 12).toNat, none⟩ = some (.int .i64 d2) := ⟨(blocks2 wr _ _).1, (block_cell (blocks2 wr _ _).2 _ _ hd2)⟩
            refine wpAnyH_take (i := 9) (v := ?_) rfl (by kernel_rfl) (by kernel_rfl) (by kernel_rfl) (fun _ _ _ h => h) (Or.inl ⟨by kernel_rfl, ?_⟩) (by assumption) ?_
            rotate_left
            · (intro w hSw; (try dsimp only at hSw); go_simp; (try rw [if_neg (by (try simp only [ByteArray.size_append]); omega)]); (try with_reducible rfl))
            try simp only [Act.put]
            refine wpAnyH_take (i := 10) (v := ?_) rfl (by kernel_rfl) (by kernel_rfl) (by kernel_rfl) (fun _ _ _ h => h) (Or.inl ⟨by kernel_rfl, ?_⟩) (by assumption) ?_
            rotate_left
            · (intro w hSw; (try dsimp only at hSw); go_simp; (try rw [if_neg (by (try simp only [ByteArray.size_append]); omega)]); (try with_reducible rfl))
            try simp only [Act.put]
            refine wpAnyH_ready (rs := [0]) (by kernel_rfl) (by simp) ?_
            refine AllReadyH.cons rfl (fun K hK => ?_) AllReadyH.nil
            go_simp
            refine hK.out _ _ ⟨(blocks3 wr _ _ _).1, (block_cell (blocks3 wr _ _ _).2.1 _ _ hd2)⟩ (fun _ => ?_)
            clear hK K
            try simp only [Act.put]
            refine wpAnyH_strong (S' := fun w' => w'.heap[wr.heap.size]? = some (.cells #[.int .i64 0, .int .i64 0, .int .i64 0, .bool false, .int .i64 0, .int .i64 0] 74 (0, 0)) ∧ w'.cell? ⟨wr.heap.size + 1, (x / 6 % 12).toNat, none⟩ = some (.int .i64 d2) ∧ w'.cell? ⟨wr.heap.size + 2, (x % 6).toNat, none⟩ = some (.int .i64 d1)) (fun _ h => ⟨h.1, h.2.1⟩) ?_
            have hHeld : ((((wr.alloc (.cells #[.int .i64 0, .int .i64 0, .int .i64 0, .bool false, .int .i64 0, .int .i64 0] 74)).alloc (.cells #[.int .i64 0, .int .i64 1, .int .i64 2, .int .i64 3, .int .i64 4, .int .i64 5, .int .i64 6, .int .i64 0, .int .i64 3, .int .i64 7, .int .i64 8, .int .i64 8] 3)).alloc (.cells #[.int .i64 0, .int .i64 1, .int .i64 0, .int .i64 1, .int .i64 2, .int .i64 9] 3)).drew).heap[wr.heap.size]? = some (.cells #[.int .i64 0, .int .i64 0, .int .i64 0, .bool false, .int .i64 0, .int .i64 0] 74 (0, 0)) ∧ ((((wr.alloc (.cells #[.int .i64 0, .int .i64 0, .int .i64 0, .bool false, .int .i64 0, .int .i64 0] 74)).alloc (.cells #[.int .i64 0, .int .i64 1, .int .i64 2, .int .i64 3, .int .i64 4, .int .i64 5, .int .i64 6, .int .i64 0, .int .i64 3, .int .i64 7, .int .i64 8, .int .i64 8] 3)).alloc (.cells #[.int .i64 0, .int .i64 1, .int .i64 0, .int .i64 1, .int .i64 2, .int .i64 9] 3)).drew).cell? ⟨wr.heap.size + 1, (x / 6 % 12).toNat, none⟩ = some (.int .i64 d2) ∧ ((((wr.alloc (.cells #[.int .i64 0, .int .i64 0, .int .i64 0, .bool false, .int .i64 0, .int .i64 0] 74)).alloc (.cells #[.int .i64 0, .int .i64 1, .int .i64 2, .int .i64 3, .int .i64 4, .int .i64 5, .int .i64 6, .int .i64 0, .int .i64 3, .int .i64 7, .int .i64 8, .int .i64 8] 3)).alloc (.cells #[.int .i64 0, .int .i64 1, .int .i64 0, .int .i64 1, .int .i64 2, .int .i64 9] 3)).drew).cell? ⟨wr.heap.size + 2, (x % 6).toNat, none⟩ = some (.int .i64 d1) := ⟨(blocks3 wr _ _ _).1, (block_cell (blocks3 wr _ _ _).2.1 _ _ hd2), (block_cell (blocks3 wr _ _ _).2.2 _ _ hd1)⟩
            refine wpAnyH_take (i := 3) (v := ?_) rfl (by kernel_rfl) (by kernel_rfl) (by kernel_rfl) (fun _ _ _ h => h) (Or.inl ⟨by kernel_rfl, ?_⟩) (by assumption) ?_
            rotate_left
            · (intro w hSw; (try dsimp only at hSw); go_simp; (try rw [if_neg (by (try simp only [ByteArray.size_append]); omega)]); (try with_reducible rfl))
            try simp only [Act.put]
            refine wpAnyH_take (i := 4) (v := ?_) rfl (by kernel_rfl) (by kernel_rfl) (by kernel_rfl) (fun _ _ _ h => h) (Or.inl ⟨by kernel_rfl, ?_⟩) (by assumption) ?_
            rotate_left
            · (intro w hSw; (try dsimp only at hSw); go_simp; (try rw [if_neg (by (try simp only [ByteArray.size_append]); omega)]); (try with_reducible rfl))
            try simp only [Act.put]
            refine wpAnyH_take (i := 13) (v := ?_) rfl (by kernel_rfl) (by kernel_rfl) (by kernel_rfl) (fun _ _ _ h => h) (Or.inl ⟨by kernel_rfl, ?_⟩) (by assumption) ?_
            rotate_left
            · (intro w hSw; (try dsimp only at hSw); go_simp; (try rw [if_neg (by (try simp only [ByteArray.size_append]); omega)]); (try with_reducible rfl))
            try simp only [Act.put]
            refine wpAnyH_done (by kernel_rfl) ?_ _
            simp only [Exit.then]
            refine hK0 _ _ ?_
            clear hK0 K0 hHeld
            try simp only [Act.put]
            have hb : Below wr.heap.size wr (((wr.alloc (.cells #[.int .i64 0, .int .i64 0, .int .i64 0, .bool false, .int .i64 0, .int .i64 0] 74)).alloc (.cells #[.int .i64 0, .int .i64 1, .int .i64 2, .int .i64 3, .int .i64 4, .int .i64 5, .int .i64 6, .int .i64 0, .int .i64 3, .int .i64 7, .int .i64 8, .int .i64 8] 3)).alloc (.cells #[.int .i64 0, .int .i64 1, .int .i64 0, .int .i64 1, .int .i64 2, .int .i64 9] 3)).drew := (((Below.refl _ _).alloc (Nat.le_refl _) _).alloc (by simp) _ |>.alloc (by simp; omega) _).drew
            have hk : (((wr.alloc (.cells #[.int .i64 0, .int .i64 0, .int .i64 0, .bool false, .int .i64 0, .int .i64 0] 74)).alloc (.cells #[.int .i64 0, .int .i64 1, .int .i64 2, .int .i64 3, .int .i64 4, .int .i64 5, .int .i64 6, .int .i64 0, .int .i64 3, .int .i64 7, .int .i64 8, .int .i64 8] 3)).alloc (.cells #[.int .i64 0, .int .i64 1, .int .i64 0, .int .i64 1, .int .i64 2, .int .i64 9] 3)).drew.heap[wr.heap.size]? = some (.cells #[.int .i64 0, .int .i64 0, .int .i64 0, .bool false, .int .i64 0, .int .i64 0] 74 (0, 0)) := (blocks3 wr _ _ _).1
            obtain ⟨D, hD⟩ : ∃ D, D = (((wr.alloc (.cells #[.int .i64 0, .int .i64 0, .int .i64 0, .bool false, .int .i64 0, .int .i64 0] 74)).alloc (.cells #[.int .i64 0, .int .i64 1, .int .i64 2, .int .i64 3, .int .i64 4, .int .i64 5, .int .i64 6, .int .i64 0, .int .i64 3, .int .i64 7, .int .i64 8, .int .i64 8] 3)).alloc (.cells #[.int .i64 0, .int .i64 1, .int .i64 0, .int .i64 1, .int .i64 2, .int .i64 9] 3)).drew := ⟨_, rfl⟩
            rw [← hD] at hb hk ⊢
            clear hD
            obtain ⟨W9, hW9, u9, f9⟩ := fill6 hk (.int .i64 d1) (.int .i64 d2) (.int .i64 (x / 72)) (.bool false) (.int .i64 0) (.int .i64 1)
            have hb9 : Below wr.heap.size wr W9 := ((Fr.ofBelow (F := fun _ => False) hb).trans f9 (fun b hb => .inr (by rw [hb]; omega))).toBelow fun _ _ h => h
            have k0 := block_cell hk 0 _ rfl
            have k1 := block_cell hk 1 _ rfl
            have k2 := block_cell hk 2 _ rfl
            have k3 := block_cell hk 3 _ rfl
            have k4 := block_cell hk 4 _ rfl
            have k5 := block_cell hk 5 _ rfl
            have f0 := block_free hk 0
            have f1 := block_free hk 1
            have f2 := block_free hk 2
            have f3 := block_free hk 3
            have f4 := block_free hk 4
            have f5 := block_free hk 5
            have HU9 := Lib.hid u9
            have HB9 := Lib.hid hb9
            clear hb hk u9 f9 hb9
            go_wp2_with fail
            go_meet
            exact ⟨_, rfl, by omega, HB9.out, HU9.out⟩
      case rest =>
        obtain ⟨N, rfl, hNw, hbx, hbox⟩ := hcut
        have HNW := Lib.hid hNw
        have HBX := Lib.hid hbx
        have HBOX := Lib.hid hbox
        have g3 : x.tdiv 72 = x / 72 := Int.tdiv_eq_ediv_of_nonneg x0
        have g6 : IntKind.i64.wrap (x / 72) = x / 72 := IntWalk.i64_in _ (by omega)
        have g7 : (x / 72).tmod 11 = x / 72 % 11 := Int.tmod_eq_emod_of_nonneg (by omega)
        have g8 : (x / 72).tmod 5 = x / 72 % 5 := Int.tmod_eq_emod_of_nonneg (by omega)
        have g9 : (x / 72).tmod 7 = x / 72 % 7 := Int.tmod_eq_emod_of_nonneg (by omega)
        have g10 : x.tdiv 792 = x / 792 := Int.tdiv_eq_ediv_of_nonneg x0
        have v10 : IntKind.i64.wrap (x / 792) = x / 792 := IntWalk.i64_in _ (by omega)
        have g11 : (x / 792).tmod 3 = x / 792 % 3 := Int.tmod_eq_emod_of_nonneg (by omega)
        have v11 : IntKind.i64.wrap (1 + x / 792 % 3) = 1 + x / 792 % 3 := IntWalk.i64_in _ (by omega)
        have v12 : IntKind.i64.wrap ((k : Int) + 1) = (k : Int) + 1 := IntWalk.i64_in _ (by omega)
        have HX := Lib.hid (show 0 ≤ x ∧ x < 100000000 by omega)
        have HDB := Lib.hid hdb
        have HOK := Lib.hid hok.out
        clear hNw hbx hbox hdb hd1 hd2 hok y1 y2 y3 y4
        rcases Classical.em (x / 72 % 11 = 3) with q1 | q1 <;> rcases Classical.em (x / 72 % 5 = 2) with q2 | q2 <;> rcases Classical.em (x / 72 % 7 = 2) with q3 | q3
        · have t3 : (x / 72 % 11 == 3) = true := beq_iff_eq.2 q1
          have t4 : (x / 72 % 5 == 2) = true := beq_iff_eq.2 q2
          have t5 : (x / 72 % 7 == 2) = true := beq_iff_eq.2 q3
          have e1 := setCell_block wc N 3 _ _ (0, 0) (.bool true) HBOX.out
          simp only [acCells, List.setIfInBounds_toArray, List.set_cons_zero, List.set_cons_succ] at e1
          have c1 := block_cell HBOX.out 3 _ rfl
          have f1 := block_free HBOX.out 3
          have fr1 : Fr (fun k => k = N) wc (wc.setCell ⟨N, 3, none⟩ (.bool true)) := Fr.setCell _ wc ⟨N, 3, none⟩ _ rfl
          obtain ⟨V1, hV1⟩ : ∃ V1, wc.setCell ⟨N, 3, none⟩ (.bool true) = V1 := ⟨_, rfl⟩
          rw [hV1] at e1 fr1
          have e2 := setCell_block V1 N 4 _ _ (0, 0) (.int .i64 (1 + x / 792 % 3)) e1
          simp only [List.setIfInBounds_toArray, List.set_cons_zero, List.set_cons_succ] at e2
          have c2 := block_cell e1 4 _ rfl
          have f2 := block_free e1 4
          have fr2 : Fr (fun k => k = N) V1 (V1.setCell ⟨N, 4, none⟩ (.int .i64 (1 + x / 792 % 3))) := Fr.setCell _ V1 ⟨N, 4, none⟩ _ rfl
          obtain ⟨V2, hV2⟩ : ∃ V2, V1.setCell ⟨N, 4, none⟩ (.int .i64 (1 + x / 792 % 3)) = V2 := ⟨_, rfl⟩
          rw [hV2] at e2 fr2
          have e3 := setCell_block V2 N 5 _ _ (0, 0) (.int .i64 2) e2
          simp only [List.setIfInBounds_toArray, List.set_cons_zero, List.set_cons_succ] at e3
          have c3 := block_cell e2 5 _ rfl
          have f3 := block_free e2 5
          have fr3 : Fr (fun k => k = N) V2 (V2.setCell ⟨N, 5, none⟩ (.int .i64 2)) := Fr.setCell _ V2 ⟨N, 5, none⟩ _ rfl
          obtain ⟨V3, hV3⟩ : ∃ V3, V2.setCell ⟨N, 5, none⟩ (.int .i64 2) = V3 := ⟨_, rfl⟩
          rw [hV3] at e3 fr3
          have hbw : Below wr.heap.size wr V3 := ((Fr.ofBelow (F := fun _ => False) HBX.out).trans ((fr1.trans fr2 (fun _ h => .inl h)).trans fr3 (fun _ h => .inl h)) (fun b hb => .inr (by rw [hb]; exact HNW.out))).toBelow fun _ _ h => h
          have b9 : V3.heap[N]? = some (.cells #[.int .i64 d1, .int .i64 d2, .int .i64 (x / 72), .bool true, .int .i64 (1 + x / 792 % 3), .int .i64 2] 74 (0, 0)) := e3
          have hb2 : Below wr.heap.size wr (V3.alloc (.cells #[.int .i64 d1, .int .i64 d2, .int .i64 (x / 72), .bool true, .int .i64 (1 + x / 792 % 3), .int .i64 2] 74)) := hbw.alloc hbw.size _
          have hz2 := heap_alloc_new V3 (.cells #[.int .i64 d1, .int .i64 d2, .int .i64 (x / 72), .bool true, .int .i64 (1 + x / 792 % 3), .int .i64 2] 74)
          obtain ⟨la2, lc2, w2, happ, hnew, _⟩ := (HI.out.keep hb2).push HOK.out.1 (by have := HOK.out.1; omega) (z := V3.heap.size) (a := ⟨d1, d2, x / 72, true, (1 + x / 792 % 3), 2⟩) hz2 1
          have HNEW := Lib.hid hnew
          have k0 := block_cell b9 0 _ rfl
          have k1 := block_cell b9 1 _ rfl
          have k2 := block_cell b9 2 _ rfl
          have k3 := block_cell b9 3 _ rfl
          have k4 := block_cell b9 4 _ rfl
          have k5 := block_cell b9 5 _ rfl
          clear q1 q2 q3 hbw b9 hb2 hz2 hnew fr1 fr2 fr3 e1 e2 e3
          go_wp2_with (at_builtin; refine wpList_run (by rfl) (exec_append _ _ _ _ (by rfl) _ _ (by rfl) (by rfl) happ) ?_)
          go_roundw
          case rel => exact ⟨k + 1, _, by go_num, by omega, ⟨by rw [List.length_append, ← HOK.out.1]; rfl, fun a ha => by
            rcases List.mem_append.1 ha with h | h
            · exact HOK.out.2 a h
            · rw [List.mem_singleton.1 h]
              have := HX.out
              have := HDB.out
              exact ⟨by dsimp only; omega, by dsimp only; omega, by dsimp only; omega, by dsimp only; omega⟩⟩, ⟨_, _, rfl⟩, HNEW.out⟩
          case measure => simp [intOf]; omega
        · have t3 : (x / 72 % 11 == 3) = true := beq_iff_eq.2 q1
          have t4 : (x / 72 % 5 == 2) = true := beq_iff_eq.2 q2
          have t5 : (x / 72 % 7 == 2) = false := beq_eq_false_iff_ne.2 q3
          have e1 := setCell_block wc N 3 _ _ (0, 0) (.bool true) HBOX.out
          simp only [acCells, List.setIfInBounds_toArray, List.set_cons_zero, List.set_cons_succ] at e1
          have c1 := block_cell HBOX.out 3 _ rfl
          have f1 := block_free HBOX.out 3
          have fr1 : Fr (fun k => k = N) wc (wc.setCell ⟨N, 3, none⟩ (.bool true)) := Fr.setCell _ wc ⟨N, 3, none⟩ _ rfl
          obtain ⟨V1, hV1⟩ : ∃ V1, wc.setCell ⟨N, 3, none⟩ (.bool true) = V1 := ⟨_, rfl⟩
          rw [hV1] at e1 fr1
          have e2 := setCell_block V1 N 4 _ _ (0, 0) (.int .i64 (1 + x / 792 % 3)) e1
          simp only [List.setIfInBounds_toArray, List.set_cons_zero, List.set_cons_succ] at e2
          have c2 := block_cell e1 4 _ rfl
          have f2 := block_free e1 4
          have fr2 : Fr (fun k => k = N) V1 (V1.setCell ⟨N, 4, none⟩ (.int .i64 (1 + x / 792 % 3))) := Fr.setCell _ V1 ⟨N, 4, none⟩ _ rfl
          obtain ⟨V2, hV2⟩ : ∃ V2, V1.setCell ⟨N, 4, none⟩ (.int .i64 (1 + x / 792 % 3)) = V2 := ⟨_, rfl⟩
          rw [hV2] at e2 fr2
          have hbw : Below wr.heap.size wr V2 := ((Fr.ofBelow (F := fun _ => False) HBX.out).trans (fr1.trans fr2 (fun _ h => .inl h)) (fun b hb => .inr (by rw [hb]; exact HNW.out))).toBelow fun _ _ h => h
          have b9 : V2.heap[N]? = some (.cells #[.int .i64 d1, .int .i64 d2, .int .i64 (x / 72), .bool true, .int .i64 (1 + x / 792 % 3), .int .i64 1] 74 (0, 0)) := e2
          have hb2 : Below wr.heap.size wr (V2.alloc (.cells #[.int .i64 d1, .int .i64 d2, .int .i64 (x / 72), .bool true, .int .i64 (1 + x / 792 % 3), .int .i64 1] 74)) := hbw.alloc hbw.size _
          have hz2 := heap_alloc_new V2 (.cells #[.int .i64 d1, .int .i64 d2, .int .i64 (x / 72), .bool true, .int .i64 (1 + x / 792 % 3), .int .i64 1] 74)
          obtain ⟨la2, lc2, w2, happ, hnew, _⟩ := (HI.out.keep hb2).push HOK.out.1 (by have := HOK.out.1; omega) (z := V2.heap.size) (a := ⟨d1, d2, x / 72, true, (1 + x / 792 % 3), 1⟩) hz2 1
          have HNEW := Lib.hid hnew
          have k0 := block_cell b9 0 _ rfl
          have k1 := block_cell b9 1 _ rfl
          have k2 := block_cell b9 2 _ rfl
          have k3 := block_cell b9 3 _ rfl
          have k4 := block_cell b9 4 _ rfl
          have k5 := block_cell b9 5 _ rfl
          clear q1 q2 q3 hbw b9 hb2 hz2 hnew fr1 fr2 e1 e2
          go_wp2_with (at_builtin; refine wpList_run (by rfl) (exec_append _ _ _ _ (by rfl) _ _ (by rfl) (by rfl) happ) ?_)
          go_roundw
          case rel => exact ⟨k + 1, _, by go_num, by omega, ⟨by rw [List.length_append, ← HOK.out.1]; rfl, fun a ha => by
            rcases List.mem_append.1 ha with h | h
            · exact HOK.out.2 a h
            · rw [List.mem_singleton.1 h]
              have := HX.out
              have := HDB.out
              exact ⟨by dsimp only; omega, by dsimp only; omega, by dsimp only; omega, by dsimp only; omega⟩⟩, ⟨_, _, rfl⟩, HNEW.out⟩
          case measure => simp [intOf]; omega
        · have t3 : (x / 72 % 11 == 3) = true := beq_iff_eq.2 q1
          have t4 : (x / 72 % 5 == 2) = false := beq_eq_false_iff_ne.2 q2
          have t5 : (x / 72 % 7 == 2) = true := beq_iff_eq.2 q3
          have e1 := setCell_block wc N 3 _ _ (0, 0) (.bool true) HBOX.out
          simp only [acCells, List.setIfInBounds_toArray, List.set_cons_zero, List.set_cons_succ] at e1
          have c1 := block_cell HBOX.out 3 _ rfl
          have f1 := block_free HBOX.out 3
          have fr1 : Fr (fun k => k = N) wc (wc.setCell ⟨N, 3, none⟩ (.bool true)) := Fr.setCell _ wc ⟨N, 3, none⟩ _ rfl
          obtain ⟨V1, hV1⟩ : ∃ V1, wc.setCell ⟨N, 3, none⟩ (.bool true) = V1 := ⟨_, rfl⟩
          rw [hV1] at e1 fr1
          have e2 := setCell_block V1 N 5 _ _ (0, 0) (.int .i64 2) e1
          simp only [List.setIfInBounds_toArray, List.set_cons_zero, List.set_cons_succ] at e2
          have c2 := block_cell e1 5 _ rfl
          have f2 := block_free e1 5
          have fr2 : Fr (fun k => k = N) V1 (V1.setCell ⟨N, 5, none⟩ (.int .i64 2)) := Fr.setCell _ V1 ⟨N, 5, none⟩ _ rfl
          obtain ⟨V2, hV2⟩ : ∃ V2, V1.setCell ⟨N, 5, none⟩ (.int .i64 2) = V2 := ⟨_, rfl⟩
          rw [hV2] at e2 fr2
          have hbw : Below wr.heap.size wr V2 := ((Fr.ofBelow (F := fun _ => False) HBX.out).trans (fr1.trans fr2 (fun _ h => .inl h)) (fun b hb => .inr (by rw [hb]; exact HNW.out))).toBelow fun _ _ h => h
          have b9 : V2.heap[N]? = some (.cells #[.int .i64 d1, .int .i64 d2, .int .i64 (x / 72), .bool true, .int .i64 0, .int .i64 2] 74 (0, 0)) := e2
          have hb2 : Below wr.heap.size wr (V2.alloc (.cells #[.int .i64 d1, .int .i64 d2, .int .i64 (x / 72), .bool true, .int .i64 0, .int .i64 2] 74)) := hbw.alloc hbw.size _
          have hz2 := heap_alloc_new V2 (.cells #[.int .i64 d1, .int .i64 d2, .int .i64 (x / 72), .bool true, .int .i64 0, .int .i64 2] 74)
          obtain ⟨la2, lc2, w2, happ, hnew, _⟩ := (HI.out.keep hb2).push HOK.out.1 (by have := HOK.out.1; omega) (z := V2.heap.size) (a := ⟨d1, d2, x / 72, true, 0, 2⟩) hz2 1
          have HNEW := Lib.hid hnew
          have k0 := block_cell b9 0 _ rfl
          have k1 := block_cell b9 1 _ rfl
          have k2 := block_cell b9 2 _ rfl
          have k3 := block_cell b9 3 _ rfl
          have k4 := block_cell b9 4 _ rfl
          have k5 := block_cell b9 5 _ rfl
          clear q1 q2 q3 hbw b9 hb2 hz2 hnew fr1 fr2 e1 e2
          go_wp2_with (at_builtin; refine wpList_run (by rfl) (exec_append _ _ _ _ (by rfl) _ _ (by rfl) (by rfl) happ) ?_)
          go_roundw
          case rel => exact ⟨k + 1, _, by go_num, by omega, ⟨by rw [List.length_append, ← HOK.out.1]; rfl, fun a ha => by
            rcases List.mem_append.1 ha with h | h
            · exact HOK.out.2 a h
            · rw [List.mem_singleton.1 h]
              have := HX.out
              have := HDB.out
              exact ⟨by dsimp only; omega, by dsimp only; omega, by dsimp only; omega, by dsimp only; omega⟩⟩, ⟨_, _, rfl⟩, HNEW.out⟩
          case measure => simp [intOf]; omega
        · have t3 : (x / 72 % 11 == 3) = true := beq_iff_eq.2 q1
          have t4 : (x / 72 % 5 == 2) = false := beq_eq_false_iff_ne.2 q2
          have t5 : (x / 72 % 7 == 2) = false := beq_eq_false_iff_ne.2 q3
          have e1 := setCell_block wc N 3 _ _ (0, 0) (.bool true) HBOX.out
          simp only [acCells, List.setIfInBounds_toArray, List.set_cons_zero, List.set_cons_succ] at e1
          have c1 := block_cell HBOX.out 3 _ rfl
          have f1 := block_free HBOX.out 3
          have fr1 : Fr (fun k => k = N) wc (wc.setCell ⟨N, 3, none⟩ (.bool true)) := Fr.setCell _ wc ⟨N, 3, none⟩ _ rfl
          obtain ⟨V1, hV1⟩ : ∃ V1, wc.setCell ⟨N, 3, none⟩ (.bool true) = V1 := ⟨_, rfl⟩
          rw [hV1] at e1 fr1
          have hbw : Below wr.heap.size wr V1 := ((Fr.ofBelow (F := fun _ => False) HBX.out).trans fr1 (fun b hb => .inr (by rw [hb]; exact HNW.out))).toBelow fun _ _ h => h
          have b9 : V1.heap[N]? = some (.cells #[.int .i64 d1, .int .i64 d2, .int .i64 (x / 72), .bool true, .int .i64 0, .int .i64 1] 74 (0, 0)) := e1
          have hb2 : Below wr.heap.size wr (V1.alloc (.cells #[.int .i64 d1, .int .i64 d2, .int .i64 (x / 72), .bool true, .int .i64 0, .int .i64 1] 74)) := hbw.alloc hbw.size _
          have hz2 := heap_alloc_new V1 (.cells #[.int .i64 d1, .int .i64 d2, .int .i64 (x / 72), .bool true, .int .i64 0, .int .i64 1] 74)
          obtain ⟨la2, lc2, w2, happ, hnew, _⟩ := (HI.out.keep hb2).push HOK.out.1 (by have := HOK.out.1; omega) (z := V1.heap.size) (a := ⟨d1, d2, x / 72, true, 0, 1⟩) hz2 1
          have HNEW := Lib.hid hnew
          have k0 := block_cell b9 0 _ rfl
          have k1 := block_cell b9 1 _ rfl
          have k2 := block_cell b9 2 _ rfl
          have k3 := block_cell b9 3 _ rfl
          have k4 := block_cell b9 4 _ rfl
          have k5 := block_cell b9 5 _ rfl
          clear q1 q2 q3 hbw b9 hb2 hz2 hnew fr1 e1
          go_wp2_with (at_builtin; refine wpList_run (by rfl) (exec_append _ _ _ _ (by rfl) _ _ (by rfl) (by rfl) happ) ?_)
          go_roundw
          case rel => exact ⟨k + 1, _, by go_num, by omega, ⟨by rw [List.length_append, ← HOK.out.1]; rfl, fun a ha => by
            rcases List.mem_append.1 ha with h | h
            · exact HOK.out.2 a h
            · rw [List.mem_singleton.1 h]
              have := HX.out
              have := HDB.out
              exact ⟨by dsimp only; omega, by dsimp only; omega, by dsimp only; omega, by dsimp only; omega⟩⟩, ⟨_, _, rfl⟩, HNEW.out⟩
          case measure => simp [intOf]; omega
        · have t3 : (x / 72 % 11 == 3) = false := beq_eq_false_iff_ne.2 q1
          have t4 : (x / 72 % 5 == 2) = true := beq_iff_eq.2 q2
          have t5 : (x / 72 % 7 == 2) = true := beq_iff_eq.2 q3
          have e1 := setCell_block wc N 4 _ _ (0, 0) (.int .i64 (1 + x / 792 % 3)) HBOX.out
          simp only [acCells, List.setIfInBounds_toArray, List.set_cons_zero, List.set_cons_succ] at e1
          have c1 := block_cell HBOX.out 4 _ rfl
          have f1 := block_free HBOX.out 4
          have fr1 : Fr (fun k => k = N) wc (wc.setCell ⟨N, 4, none⟩ (.int .i64 (1 + x / 792 % 3))) := Fr.setCell _ wc ⟨N, 4, none⟩ _ rfl
          obtain ⟨V1, hV1⟩ : ∃ V1, wc.setCell ⟨N, 4, none⟩ (.int .i64 (1 + x / 792 % 3)) = V1 := ⟨_, rfl⟩
          rw [hV1] at e1 fr1
          have e2 := setCell_block V1 N 5 _ _ (0, 0) (.int .i64 2) e1
          simp only [List.setIfInBounds_toArray, List.set_cons_zero, List.set_cons_succ] at e2
          have c2 := block_cell e1 5 _ rfl
          have f2 := block_free e1 5
          have fr2 : Fr (fun k => k = N) V1 (V1.setCell ⟨N, 5, none⟩ (.int .i64 2)) := Fr.setCell _ V1 ⟨N, 5, none⟩ _ rfl
          obtain ⟨V2, hV2⟩ : ∃ V2, V1.setCell ⟨N, 5, none⟩ (.int .i64 2) = V2 := ⟨_, rfl⟩
          rw [hV2] at e2 fr2
          have hbw : Below wr.heap.size wr V2 := ((Fr.ofBelow (F := fun _ => False) HBX.out).trans (fr1.trans fr2 (fun _ h => .inl h)) (fun b hb => .inr (by rw [hb]; exact HNW.out))).toBelow fun _ _ h => h
          have b9 : V2.heap[N]? = some (.cells #[.int .i64 d1, .int .i64 d2, .int .i64 (x / 72), .bool false, .int .i64 (1 + x / 792 % 3), .int .i64 2] 74 (0, 0)) := e2
          have hb2 : Below wr.heap.size wr (V2.alloc (.cells #[.int .i64 d1, .int .i64 d2, .int .i64 (x / 72), .bool false, .int .i64 (1 + x / 792 % 3), .int .i64 2] 74)) := hbw.alloc hbw.size _
          have hz2 := heap_alloc_new V2 (.cells #[.int .i64 d1, .int .i64 d2, .int .i64 (x / 72), .bool false, .int .i64 (1 + x / 792 % 3), .int .i64 2] 74)
          obtain ⟨la2, lc2, w2, happ, hnew, _⟩ := (HI.out.keep hb2).push HOK.out.1 (by have := HOK.out.1; omega) (z := V2.heap.size) (a := ⟨d1, d2, x / 72, false, (1 + x / 792 % 3), 2⟩) hz2 1
          have HNEW := Lib.hid hnew
          have k0 := block_cell b9 0 _ rfl
          have k1 := block_cell b9 1 _ rfl
          have k2 := block_cell b9 2 _ rfl
          have k3 := block_cell b9 3 _ rfl
          have k4 := block_cell b9 4 _ rfl
          have k5 := block_cell b9 5 _ rfl
          clear q1 q2 q3 hbw b9 hb2 hz2 hnew fr1 fr2 e1 e2
          go_wp2_with (at_builtin; refine wpList_run (by rfl) (exec_append _ _ _ _ (by rfl) _ _ (by rfl) (by rfl) happ) ?_)
          go_roundw
          case rel => exact ⟨k + 1, _, by go_num, by omega, ⟨by rw [List.length_append, ← HOK.out.1]; rfl, fun a ha => by
            rcases List.mem_append.1 ha with h | h
            · exact HOK.out.2 a h
            · rw [List.mem_singleton.1 h]
              have := HX.out
              have := HDB.out
              exact ⟨by dsimp only; omega, by dsimp only; omega, by dsimp only; omega, by dsimp only; omega⟩⟩, ⟨_, _, rfl⟩, HNEW.out⟩
          case measure => simp [intOf]; omega
        · have t3 : (x / 72 % 11 == 3) = false := beq_eq_false_iff_ne.2 q1
          have t4 : (x / 72 % 5 == 2) = true := beq_iff_eq.2 q2
          have t5 : (x / 72 % 7 == 2) = false := beq_eq_false_iff_ne.2 q3
          have e1 := setCell_block wc N 4 _ _ (0, 0) (.int .i64 (1 + x / 792 % 3)) HBOX.out
          simp only [acCells, List.setIfInBounds_toArray, List.set_cons_zero, List.set_cons_succ] at e1
          have c1 := block_cell HBOX.out 4 _ rfl
          have f1 := block_free HBOX.out 4
          have fr1 : Fr (fun k => k = N) wc (wc.setCell ⟨N, 4, none⟩ (.int .i64 (1 + x / 792 % 3))) := Fr.setCell _ wc ⟨N, 4, none⟩ _ rfl
          obtain ⟨V1, hV1⟩ : ∃ V1, wc.setCell ⟨N, 4, none⟩ (.int .i64 (1 + x / 792 % 3)) = V1 := ⟨_, rfl⟩
          rw [hV1] at e1 fr1
          have hbw : Below wr.heap.size wr V1 := ((Fr.ofBelow (F := fun _ => False) HBX.out).trans fr1 (fun b hb => .inr (by rw [hb]; exact HNW.out))).toBelow fun _ _ h => h
          have b9 : V1.heap[N]? = some (.cells #[.int .i64 d1, .int .i64 d2, .int .i64 (x / 72), .bool false, .int .i64 (1 + x / 792 % 3), .int .i64 1] 74 (0, 0)) := e1
          have hb2 : Below wr.heap.size wr (V1.alloc (.cells #[.int .i64 d1, .int .i64 d2, .int .i64 (x / 72), .bool false, .int .i64 (1 + x / 792 % 3), .int .i64 1] 74)) := hbw.alloc hbw.size _
          have hz2 := heap_alloc_new V1 (.cells #[.int .i64 d1, .int .i64 d2, .int .i64 (x / 72), .bool false, .int .i64 (1 + x / 792 % 3), .int .i64 1] 74)
          obtain ⟨la2, lc2, w2, happ, hnew, _⟩ := (HI.out.keep hb2).push HOK.out.1 (by have := HOK.out.1; omega) (z := V1.heap.size) (a := ⟨d1, d2, x / 72, false, (1 + x / 792 % 3), 1⟩) hz2 1
          have HNEW := Lib.hid hnew
          have k0 := block_cell b9 0 _ rfl
          have k1 := block_cell b9 1 _ rfl
          have k2 := block_cell b9 2 _ rfl
          have k3 := block_cell b9 3 _ rfl
          have k4 := block_cell b9 4 _ rfl
          have k5 := block_cell b9 5 _ rfl
          clear q1 q2 q3 hbw b9 hb2 hz2 hnew fr1 e1
          go_wp2_with (at_builtin; refine wpList_run (by rfl) (exec_append _ _ _ _ (by rfl) _ _ (by rfl) (by rfl) happ) ?_)
          go_roundw
          case rel => exact ⟨k + 1, _, by go_num, by omega, ⟨by rw [List.length_append, ← HOK.out.1]; rfl, fun a ha => by
            rcases List.mem_append.1 ha with h | h
            · exact HOK.out.2 a h
            · rw [List.mem_singleton.1 h]
              have := HX.out
              have := HDB.out
              exact ⟨by dsimp only; omega, by dsimp only; omega, by dsimp only; omega, by dsimp only; omega⟩⟩, ⟨_, _, rfl⟩, HNEW.out⟩
          case measure => simp [intOf]; omega
        · have t3 : (x / 72 % 11 == 3) = false := beq_eq_false_iff_ne.2 q1
          have t4 : (x / 72 % 5 == 2) = false := beq_eq_false_iff_ne.2 q2
          have t5 : (x / 72 % 7 == 2) = true := beq_iff_eq.2 q3
          have e1 := setCell_block wc N 5 _ _ (0, 0) (.int .i64 2) HBOX.out
          simp only [acCells, List.setIfInBounds_toArray, List.set_cons_zero, List.set_cons_succ] at e1
          have c1 := block_cell HBOX.out 5 _ rfl
          have f1 := block_free HBOX.out 5
          have fr1 : Fr (fun k => k = N) wc (wc.setCell ⟨N, 5, none⟩ (.int .i64 2)) := Fr.setCell _ wc ⟨N, 5, none⟩ _ rfl
          obtain ⟨V1, hV1⟩ : ∃ V1, wc.setCell ⟨N, 5, none⟩ (.int .i64 2) = V1 := ⟨_, rfl⟩
          rw [hV1] at e1 fr1
          have hbw : Below wr.heap.size wr V1 := ((Fr.ofBelow (F := fun _ => False) HBX.out).trans fr1 (fun b hb => .inr (by rw [hb]; exact HNW.out))).toBelow fun _ _ h => h
          have b9 : V1.heap[N]? = some (.cells #[.int .i64 d1, .int .i64 d2, .int .i64 (x / 72), .bool false, .int .i64 0, .int .i64 2] 74 (0, 0)) := e1
          have hb2 : Below wr.heap.size wr (V1.alloc (.cells #[.int .i64 d1, .int .i64 d2, .int .i64 (x / 72), .bool false, .int .i64 0, .int .i64 2] 74)) := hbw.alloc hbw.size _
          have hz2 := heap_alloc_new V1 (.cells #[.int .i64 d1, .int .i64 d2, .int .i64 (x / 72), .bool false, .int .i64 0, .int .i64 2] 74)
          obtain ⟨la2, lc2, w2, happ, hnew, _⟩ := (HI.out.keep hb2).push HOK.out.1 (by have := HOK.out.1; omega) (z := V1.heap.size) (a := ⟨d1, d2, x / 72, false, 0, 2⟩) hz2 1
          have HNEW := Lib.hid hnew
          have k0 := block_cell b9 0 _ rfl
          have k1 := block_cell b9 1 _ rfl
          have k2 := block_cell b9 2 _ rfl
          have k3 := block_cell b9 3 _ rfl
          have k4 := block_cell b9 4 _ rfl
          have k5 := block_cell b9 5 _ rfl
          clear q1 q2 q3 hbw b9 hb2 hz2 hnew fr1 e1
          go_wp2_with (at_builtin; refine wpList_run (by rfl) (exec_append _ _ _ _ (by rfl) _ _ (by rfl) (by rfl) happ) ?_)
          go_roundw
          case rel => exact ⟨k + 1, _, by go_num, by omega, ⟨by rw [List.length_append, ← HOK.out.1]; rfl, fun a ha => by
            rcases List.mem_append.1 ha with h | h
            · exact HOK.out.2 a h
            · rw [List.mem_singleton.1 h]
              have := HX.out
              have := HDB.out
              exact ⟨by dsimp only; omega, by dsimp only; omega, by dsimp only; omega, by dsimp only; omega⟩⟩, ⟨_, _, rfl⟩, HNEW.out⟩
          case measure => simp [intOf]; omega
        · have t3 : (x / 72 % 11 == 3) = false := beq_eq_false_iff_ne.2 q1
          have t4 : (x / 72 % 5 == 2) = false := beq_eq_false_iff_ne.2 q2
          have t5 : (x / 72 % 7 == 2) = false := beq_eq_false_iff_ne.2 q3
          have hbw : Below wr.heap.size wr wc := HBX.out
          have b9 : wc.heap[N]? = some (.cells #[.int .i64 d1, .int .i64 d2, .int .i64 (x / 72), .bool false, .int .i64 0, .int .i64 1] 74 (0, 0)) := HBOX.out
          have hb2 : Below wr.heap.size wr (wc.alloc (.cells #[.int .i64 d1, .int .i64 d2, .int .i64 (x / 72), .bool false, .int .i64 0, .int .i64 1] 74)) := hbw.alloc hbw.size _
          have hz2 := heap_alloc_new wc (.cells #[.int .i64 d1, .int .i64 d2, .int .i64 (x / 72), .bool false, .int .i64 0, .int .i64 1] 74)
          obtain ⟨la2, lc2, w2, happ, hnew, _⟩ := (HI.out.keep hb2).push HOK.out.1 (by have := HOK.out.1; omega) (z := wc.heap.size) (a := ⟨d1, d2, x / 72, false, 0, 1⟩) hz2 1
          have HNEW := Lib.hid hnew
          have k0 := block_cell b9 0 _ rfl
          have k1 := block_cell b9 1 _ rfl
          have k2 := block_cell b9 2 _ rfl
          have k3 := block_cell b9 3 _ rfl
          have k4 := block_cell b9 4 _ rfl
          have k5 := block_cell b9 5 _ rfl
          clear q1 q2 q3 hbw b9 hb2 hz2 hnew
          go_wp2_with (at_builtin; refine wpList_run (by rfl) (exec_append _ _ _ _ (by rfl) _ _ (by rfl) (by rfl) happ) ?_)
          go_roundw
          case rel => exact ⟨k + 1, _, by go_num, by omega, ⟨by rw [List.length_append, ← HOK.out.1]; rfl, fun a ha => by
            rcases List.mem_append.1 ha with h | h
            · exact HOK.out.2 a h
            · rw [List.mem_singleton.1 h]
              have := HX.out
              have := HDB.out
              exact ⟨by dsimp only; omega, by dsimp only; omega, by dsimp only; omega, by dsimp only; omega⟩⟩, ⟨_, _, rfl⟩, HNEW.out⟩
          case measure => simp [intOf]; omega
    · have hkm : k = min n 40 := by omega
      have HKM := Lib.hid hkm
      by_cases l1 : k < n
      · have t2 : decide ((k : Int) < (n : Int)) = true := decide_eq_true (by omega)
        have t3 : decide ((k : Int) < 40) = false := decide_eq_false (by omega)
        have t4 : ¬ (k : Int) < 40 := by omega
        clear hkm hk hlt
        go_wp2_with fail
        go_ret
        exact ⟨L, .slice la k lc, rfl, HI.out, by rw [← hok.out.1]; exact HKM.out, hok.out.2⟩
      · have t2 : decide ((k : Int) < (n : Int)) = false := decide_eq_false (by omega)
        clear hkm hk hlt
        go_wp2_with fail
        go_ret
        exact ⟨L, .slice la k lc, rfl, HI.out, by rw [← hok.out.1]; exact HKM.out, hok.out.2⟩

end Go.Proofs.YtchjlkfkfcmhlaaDoor
