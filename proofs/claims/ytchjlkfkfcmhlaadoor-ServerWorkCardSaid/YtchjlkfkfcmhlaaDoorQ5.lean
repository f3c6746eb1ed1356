/- A service, made of a number; An attempt, made of a number. -/
import Derived.Test.YtchjlkfkfcmhlaaDoorQ4
import Derived.Test.YtchjlkfkfcmhlaaDoorStr
import Derived.Test.YtchjlkfkfcmhlaaDoorQ1
namespace Go.Proofs.YtchjlkfkfcmhlaaDoor
open Go.RowKit
attribute [local go_sem ↓] Go.wp_at_zero Go.wp_at_succ

/-! A service, made of a number. -/

structure Sv where
  id : Int
  work : Int
  slots : Int
  queue : Int
  bal : Int
  warm : Int
def svCells (s : Sv) : List Value := [.int .i64 s.id, .slice none 0 0, .int .i64 s.work, .int .i64 s.slots, .int .i64 s.queue, .int .i64 s.bal, .int .i64 s.warm]
def svV (s : Sv) : Value := .agg (svCells s).toArray
def svOf (n : Int) : Sv := ⟨1, 1 + around n 1000000 % 4, 1 + around n 1000000 / 4 % 3, 1 + around n 1000000 / 12 % 4, 1, around n 1000000 / 48 % 4 * 2⟩
theorem svOf_bd (n : Int) : (1 ≤ (svOf n).work ∧ (svOf n).work ≤ 4) ∧ (1 ≤ (svOf n).slots ∧ (svOf n).slots ≤ 3) ∧ (1 ≤ (svOf n).queue ∧ (svOf n).queue ≤ 4) ∧ (0 ≤ (svOf n).warm ∧ (svOf n).warm ≤ 6) := by
  unfold svOf
  dsimp only
  omega

set_option maxRecDepth 8000 in
set_option maxHeartbeats 2000000 in
theorem service_any (n : Int) (hn : -9223372036854775808 ≤ n ∧ n ≤ 9223372036854775807) (w : World) :
    Calls Tryd.prog 9 #[.int .i64 n] w fun e w' => e = .returned (svV (svOf n)) ∧ Below w.heap.size w w' := by
  have HA := Lib.hid (fun w => around_any n 1000000 w hn.1 hn.2 (by omega) (by omega))
  obtain ⟨x0, x1⟩ := around_bd n (m := 1000000) (by omega)
  have HE : Hid (svV (svOf n) = .agg #[.int .i64 1, .slice none 0 0, .int .i64 (1 + around n 1000000 % 4), .int .i64 (1 + around n 1000000 / 4 % 3), .int .i64 (1 + around n 1000000 / 12 % 4), .int .i64 1, .int .i64 (around n 1000000 / 48 % 4 * 2)]) := rfl
  rw [HE.out]
  obtain ⟨x, hx⟩ : ∃ x, x = around n 1000000 := ⟨_, rfl⟩
  rw [← hx] at x0 x1 HA ⊢
  have g1 : x.tmod 4 = x % 4 := Int.tmod_eq_emod_of_nonneg x0
  have w1 : IntKind.i64.wrap (1 + x % 4) = 1 + x % 4 := IntWalk.i64_in _ (by omega)
  have g2 : x.tdiv 4 = x / 4 := Int.tdiv_eq_ediv_of_nonneg x0
  have v2 : IntKind.i64.wrap (x / 4) = x / 4 := IntWalk.i64_in _ (by omega)
  have g3 : (x / 4).tmod 3 = x / 4 % 3 := Int.tmod_eq_emod_of_nonneg (by omega)
  have w3 : IntKind.i64.wrap (1 + x / 4 % 3) = 1 + x / 4 % 3 := IntWalk.i64_in _ (by omega)
  have g4 : x.tdiv 12 = x / 12 := Int.tdiv_eq_ediv_of_nonneg x0
  have v4 : IntKind.i64.wrap (x / 12) = x / 12 := IntWalk.i64_in _ (by omega)
  have g5 : (x / 12).tmod 4 = x / 12 % 4 := Int.tmod_eq_emod_of_nonneg (by omega)
  have w5 : IntKind.i64.wrap (1 + x / 12 % 4) = 1 + x / 12 % 4 := IntWalk.i64_in _ (by omega)
  have g6 : x.tdiv 48 = x / 48 := Int.tdiv_eq_ediv_of_nonneg x0
  have v6 : IntKind.i64.wrap (x / 48) = x / 48 := IntWalk.i64_in _ (by omega)
  have g7 : (x / 48).tmod 4 = x / 48 % 4 := Int.tmod_eq_emod_of_nonneg (by omega)
  have w7 : IntKind.i64.wrap (x / 48 % 4 * 2) = x / 48 % 4 * 2 := IntWalk.i64_in _ (by omega)
  obtain ⟨W1, hW1⟩ : ∃ W1, w.alloc (.cells #[.int .i64 0, .slice none 0 0, .int .i64 0, .int .i64 0, .int .i64 0, .int .i64 0, .int .i64 0] 25) = W1 := ⟨_, rfl⟩
  have n1 : W1.heap[w.heap.size]? = some (.cells #[.int .i64 0, .slice none 0 0, .int .i64 0, .int .i64 0, .int .i64 0, .int .i64 0, .int .i64 0] 25 (0, 0)) := by rw [← hW1]; exact heap_alloc_new w _
  have b1 : Below w.heap.size w W1 := by rw [← hW1]; exact (Below.refl _ _).alloc (Nat.le_refl _) _
  obtain ⟨W2, hW2⟩ : ∃ W2, W1.setRow w.heap.size #[.int .i64 1, .slice none 0 0, .int .i64 (1 + x % 4), .int .i64 (1 + x / 4 % 3), .int .i64 (1 + x / 12 % 4), .int .i64 1, .int .i64 (x / 48 % 4 * 2)] = W2 := ⟨_, rfl⟩
  have n2 : W2.heap[w.heap.size]? = some (.cells #[.int .i64 1, .slice none 0 0, .int .i64 (1 + x % 4), .int .i64 (1 + x / 4 % 3), .int .i64 (1 + x / 12 % 4), .int .i64 1, .int .i64 (x / 48 % 4 * 2)] 25 (0, 0)) := by rw [← hW2]; exact setRow_heap W1 _ _ _ _ _ n1
  have HB := Lib.hid (show Below w.heap.size w W2 by rw [← hW2]; exact below_setRow b1 (Nat.le_refl _) _)
  have z0 := block_cell n2 0 _ rfl
  have z1 := block_cell n2 1 _ rfl
  have z2 := block_cell n2 2 _ rfl
  have z3 := block_cell n2 3 _ rfl
  have z4 := block_cell n2 4 _ rfl
  have z5 := block_cell n2 5 _ rfl
  have z6 := block_cell n2 6 _ rfl
  clear hx x1 b1 n2 HE hn
  go_enter Tryd.func9, Tryd.ntmps9
  go_wp2_with fail
  refine (HA.out _).mono ?_
  rintro e wq ⟨rfl, rfl⟩
  clear hW1
  go_wp2_with (refine wpList_buildTo rfl 25 _ rfl (some 21) rfl #[.int .i64 1, .slice none 0 0, .int .i64 (1 + x % 4), .int .i64 (1 + x / 4 % 3), .int .i64 (1 + x / 12 % 4), .int .i64 1, .int .i64 (x / 48 % 4 * 2)] (by kernel_rfl) (wpList_store_rowTo rfl 25 _ _ rfl rfl w.heap.size #[.int .i64 1, .slice none 0 0, .int .i64 (1 + x % 4), .int .i64 (1 + x / 4 % 3), .int .i64 (1 + x / 12 % 4), .int .i64 1, .int .i64 (x / 48 % 4 * 2)] (by kernel_rfl) (by kernel_rfl) 25 _ n1 (by kernel_rfl) rfl (by kernel_rfl) ?_); (try simp only [Act.put]); rw [hW2])
  exact bodyPost_ret (v := .agg #[.int .i64 1, .slice none 0 0, .int .i64 (1 + x % 4), .int .i64 (1 + x / 4 % 3), .int .i64 (1 + x / 12 % 4), .int .i64 1, .int .i64 (x / 48 % 4 * 2)]) (by simp [results, Tryd.results9, go_sem, z0, z1, z2, z3, z4, z5, z6]) rfl ⟨rfl, HB.out⟩

/-! An attempt, made of a number. -/

theorem copy_out {w W : World} {a : Nat} {z0 z1 z2 z3 z4 z5 z6 z7 z8 : Value} {T : TypeId} (c : Cx) (ha : W.heap[a]? = some (.cells #[z0, z1, z2, z3, z4, z5, z6, z7, z8] T (0, 0))) {n : Nat} (hb : Below n w W) (hn : n ≤ a) :
    ∃ W6, setsFrom W a 0 (cxCells c) = W6 ∧ Below n w W6 ∧ W6.heap[a]? = some (.cells (cxCells c).toArray T (0, 0)) := by
  have u1 := setsFrom_block a T (cxCells c) 0 W _ ha
  refine ⟨_, rfl, setsFrom_below a hn (cxCells c) 0 W hb, ?_⟩
  unfold cxCells at *
  simp only [arrFrom, Nat.reduceAdd, List.setIfInBounds_toArray, List.set_cons_zero, List.set_cons_succ] at u1
  exact u1

def kidT : ByteArray := ⟨#[58, 49, 47, 48]⟩
def attName (k : Int) : ByteArray :=
  (if k / 432 % 2 = 1 then digit (1 + k % 4).toNat ++ ⟨#[58, 49, 47, 48]⟩ else digit (1 + k % 4).toNat) ++ (if k / 864 % 5 = 1 then ⟨#[126]⟩ else ⟨#[]⟩)
def attC (k now : Int) : Cx := ⟨1 + k % 4, attName k, 1 + k / 4 % 3, k / 12 % 3 == 0, decide (k / 864 % 5 = 1), now + k / 36 % 12, 0, 1, k / 7 % 4⟩
def atOf (n now : Int) : Cx := attC (around n 1000000) now
theorem append_nil_bytes (s : ByteArray) : s ++ ⟨#[]⟩ = s := bytes_ext (by rw [data_append]; simp)

set_option maxRecDepth 8000 in
set_option maxHeartbeats 4000000 in
theorem attempt_any (n now : Int) (hn : -9223372036854775808 ≤ n ∧ n ≤ 9223372036854775807) (hw : 0 ≤ now ∧ now ≤ 1000000) (w : World) :
    Calls Tryd.prog 12 #[.int .i64 n, .int .i64 now] w fun e w' => e = .returned (cxV (atOf n now)) ∧ Below w.heap.size w w' := by
  have HA := Lib.hid (fun w => around_any n 1000000 w hn.1 hn.2 (by omega) (by omega))
  obtain ⟨x0, x1⟩ := around_bd n (m := 1000000) (by omega)
  unfold atOf
  obtain ⟨x, hx⟩ : ∃ x, x = around n 1000000 := ⟨_, rfl⟩
  rw [← hx] at x0 x1 HA ⊢
  have g1 : x.tmod 4 = x % 4 := Int.tmod_eq_emod_of_nonneg x0
  obtain ⟨r, hr⟩ : ∃ r : Nat, (r : Int) = 1 + x % 4 := ⟨(1 + x % 4).toNat, by omega⟩
  have w1 : IntKind.i64.wrap (1 + x % 4) = (r : Int) := by rw [IntWalk.i64_in _ (by omega), hr]
  have g2 : x.tdiv 4 = x / 4 := Int.tdiv_eq_ediv_of_nonneg x0
  have v2 : IntKind.i64.wrap (x / 4) = x / 4 := IntWalk.i64_in _ (by omega)
  have g3 : (x / 4).tmod 3 = x / 4 % 3 := Int.tmod_eq_emod_of_nonneg (by omega)
  have w3 : IntKind.i64.wrap (1 + x / 4 % 3) = 1 + x / 4 % 3 := IntWalk.i64_in _ (by omega)
  have g4 : x.tdiv 12 = x / 12 := Int.tdiv_eq_ediv_of_nonneg x0
  have v4 : IntKind.i64.wrap (x / 12) = x / 12 := IntWalk.i64_in _ (by omega)
  have g5 : (x / 12).tmod 3 = x / 12 % 3 := Int.tmod_eq_emod_of_nonneg (by omega)
  have g6 : x.tdiv 36 = x / 36 := Int.tdiv_eq_ediv_of_nonneg x0
  have v6 : IntKind.i64.wrap (x / 36) = x / 36 := IntWalk.i64_in _ (by omega)
  have g7 : (x / 36).tmod 12 = x / 36 % 12 := Int.tmod_eq_emod_of_nonneg (by omega)
  have w7 : IntKind.i64.wrap (now + x / 36 % 12) = now + x / 36 % 12 := IntWalk.i64_in _ (by omega)
  have g8 : x.tdiv 7 = x / 7 := Int.tdiv_eq_ediv_of_nonneg x0
  have v8 : IntKind.i64.wrap (x / 7) = x / 7 := IntWalk.i64_in _ (by omega)
  have g9 : (x / 7).tmod 4 = x / 7 % 4 := Int.tmod_eq_emod_of_nonneg (by omega)
  have g10 : x.tdiv 432 = x / 432 := Int.tdiv_eq_ediv_of_nonneg x0
  have v10 : IntKind.i64.wrap (x / 432) = x / 432 := IntWalk.i64_in _ (by omega)
  have g11 : (x / 432).tmod 2 = x / 432 % 2 := Int.tmod_eq_emod_of_nonneg (by omega)
  have g12 : x.tdiv 864 = x / 864 := Int.tdiv_eq_ediv_of_nonneg x0
  have v12 : IntKind.i64.wrap (x / 864) = x / 864 := IntWalk.i64_in _ (by omega)
  have g13 : (x / 864).tmod 5 = x / 864 % 5 := Int.tmod_eq_emod_of_nonneg (by omega)
  have HD := Lib.hid (fun w => dec1 r w (by omega))
  have HRR : Hid ((1 + x % 4).toNat = r) := by show _ = r; omega
  have HRE : Hid (1 + x % 4 = (r : Int)) := hr.symm
  have hr4 : 1 ≤ r ∧ r ≤ 4 := by omega
  obtain ⟨W1, hW1⟩ : ∃ W1, w.alloc (.cells #[.int .i64 0, .string ⟨#[]⟩, .int .i64 0, .bool false, .bool false, .int .i64 0, .int .i64 0, .int .i64 0, .int .i64 0] 31) = W1 := ⟨_, rfl⟩
  have n1 : W1.heap[w.heap.size]? = some (.cells #[.int .i64 0, .string ⟨#[]⟩, .int .i64 0, .bool false, .bool false, .int .i64 0, .int .i64 0, .int .i64 0, .int .i64 0] 31 (0, 0)) := by rw [← hW1]; exact heap_alloc_new w _
  have b1 : Below w.heap.size w W1 := by rw [← hW1]; exact (Below.refl _ _).alloc (Nat.le_refl _) _
  have z1 : W1.heap.size = w.heap.size + 1 := by rw [← hW1]; simp
  have HN1 := Lib.hid n1
  have HB1 := Lib.hid b1
  have HZ1 := Lib.hid z1
  have hdz : (digit r).size = 1 := rfl
  clear hx x1 b1 n1 hn z1 hr hr4
  go_enter Tryd.func12, Tryd.ntmps12
  go_wp2_with fail
  refine (HA.out _).mono ?_
  rintro e wq ⟨rfl, rfl⟩
  go_wp2_with fail
  refine (HD.out _).mono ?_
  rintro e w2 ⟨rfl, hb2⟩
  have hb3 : Below w2.heap.size w2 (w2.alloc (.cells #[.int .i64 r, .string (digit r), .int .i64 (1 + x / 4 % 3), .bool (x / 12 % 3 == 0), .bool false, .int .i64 (now + x / 36 % 12), .int .i64 0, .int .i64 1, .int .i64 (x / 7 % 4)] 31)) := (Below.refl _ _).alloc (Nat.le_refl _) _
  obtain ⟨W3, hW3⟩ : ∃ W3, w2.alloc (.cells #[.int .i64 r, .string (digit r), .int .i64 (1 + x / 4 % 3), .bool (x / 12 % 3 == 0), .bool false, .int .i64 (now + x / 36 % 12), .int .i64 0, .int .i64 1, .int .i64 (x / 7 % 4)] 31) = W3 := ⟨_, rfl⟩
  obtain ⟨N3, hN3⟩ : ∃ N3, w2.heap.size = N3 := ⟨_, rfl⟩
  have n3 : W3.heap[N3]? = some (.cells #[.int .i64 r, .string (digit r), .int .i64 (1 + x / 4 % 3), .bool (x / 12 % 3 == 0), .bool false, .int .i64 (now + x / 36 % 12), .int .i64 0, .int .i64 1, .int .i64 (x / 7 % 4)] 31 (0, 0)) := by rw [← hW3, ← hN3]; exact heap_alloc_new w2 _
  rw [hW3] at hb3
  have hb13 := btrans hb2 hb3
  have hne : Hid (w.heap.size ≠ N3) := by have h1 := hb2.size; have h2 := HZ1.out; show _ ≠ N3; omega
  have HNW : Hid (w.heap.size ≤ N3) := by have h1 := hb2.size; have h2 := HZ1.out; show _ ≤ N3; omega
  have HR3 := Lib.hid ((hb13.block w.heap.size (by have := HZ1.out; omega)).trans HN1.out)
  have HB3 := Lib.hid (btrans HB1.out hb13)
  have HN3 := Lib.hid n3
  have hk4 : (⟨#[58, 49, 47, 48]⟩ : ByteArray).size = 4 := rfl
  have hk1 : (⟨#[126]⟩ : ByteArray).size = 1 := rfl
  have hdk : (digit r ++ ⟨#[58, 49, 47, 48]⟩ : ByteArray).size = 5 := by rw [ByteArray.size_append]; rfl
  have c31 := block_cell n3 1 _ rfl
  have f31 := block_free n3 1
  clear hb2 hb3 hb13 n3
  by_cases h1 : x / 432 % 2 = 1
  · by_cases h2 : x / 864 % 5 = 1
    · have t1 : (x / 432 % 2 == 1) = true := beq_iff_eq.2 h1
      have t2 : (x / 864 % 5 == 1) = true := beq_iff_eq.2 h2
      have qW4 := setCell_block W3 N3 1 _ _ (0, 0) (.string (digit r ++ ⟨#[58, 49, 47, 48]⟩)) HN3.out
      simp only [List.setIfInBounds_toArray, List.set_cons_zero, List.set_cons_succ] at qW4
      have frW4 : Fr (fun k => k = N3) W3 (W3.setCell ⟨N3, 1, none⟩ (.string (digit r ++ ⟨#[58, 49, 47, 48]⟩))) := Fr.setCell _ W3 ⟨N3, 1, none⟩ _ rfl
      obtain ⟨W4, hW4⟩ : ∃ W4, W3.setCell ⟨N3, 1, none⟩ (.string (digit r ++ ⟨#[58, 49, 47, 48]⟩)) = W4 := ⟨_, rfl⟩
      rw [hW4] at qW4 frW4
      have c41 := block_cell qW4 1 _ rfl
      have f41 := block_free qW4 1
      have qW5 := setCell_block W4 N3 1 _ _ (0, 0) (.string (digit r ++ ⟨#[58, 49, 47, 48]⟩ ++ ⟨#[126]⟩)) qW4
      simp only [List.setIfInBounds_toArray, List.set_cons_zero, List.set_cons_succ] at qW5
      have frW5 : Fr (fun k => k = N3) W4 (W4.setCell ⟨N3, 1, none⟩ (.string (digit r ++ ⟨#[58, 49, 47, 48]⟩ ++ ⟨#[126]⟩))) := Fr.setCell _ W4 ⟨N3, 1, none⟩ _ rfl
      obtain ⟨W5, hW5⟩ : ∃ W5, W4.setCell ⟨N3, 1, none⟩ (.string (digit r ++ ⟨#[58, 49, 47, 48]⟩ ++ ⟨#[126]⟩)) = W5 := ⟨_, rfl⟩
      rw [hW5] at qW5 frW5
      have c54 := block_cell qW5 4 _ rfl
      have f54 := block_free qW5 4
      have qW6 := setCell_block W5 N3 4 _ _ (0, 0) (.bool true) qW5
      simp only [List.setIfInBounds_toArray, List.set_cons_zero, List.set_cons_succ] at qW6
      have frW6 : Fr (fun k => k = N3) W5 (W5.setCell ⟨N3, 4, none⟩ (.bool true)) := Fr.setCell _ W5 ⟨N3, 4, none⟩ _ rfl
      obtain ⟨W6, hW6⟩ : ∃ W6, W5.setCell ⟨N3, 4, none⟩ (.bool true) = W6 := ⟨_, rfl⟩
      rw [hW6] at qW6 frW6
      have fr : Fr (fun k => k = N3) W3 W6 := ((frW4.trans frW5 (fun _ h => .inl h)).trans frW6 (fun _ h => .inl h))
      obtain ⟨W9, hW9, hb9, u9⟩ := copy_out ⟨r, (digit r ++ ⟨#[58, 49, 47, 48]⟩ ++ ⟨#[126]⟩), 1 + x / 4 % 3, x / 12 % 3 == 0, true, now + x / 36 % 12, 0, 1, x / 7 % 4⟩ ((fr.block _ (Array.getElem?_eq_some_iff.1 HR3.out).1 hne.out).trans HR3.out) (((Fr.ofBelow (F := fun _ => False) HB3.out).trans fr (fun b hb => .inr (by rw [hb]; exact HNW.out))).toBelow fun _ _ h => h) (Nat.le_refl _)
      simp only [cxCells, setsFrom, Nat.reduceAdd] at hW9
      dsimp only [cxCells] at u9
      have HB9 := Lib.hid hb9
      have HE : Hid (cxV (attC x now) = .agg #[.int .i64 r, .string (digit r ++ ⟨#[58, 49, 47, 48]⟩ ++ ⟨#[126]⟩), .int .i64 (1 + x / 4 % 3), .bool (x / 12 % 3 == 0), .bool true, .int .i64 (now + x / 36 % 12), .int .i64 0, .int .i64 1, .int .i64 (x / 7 % 4)]) := by
        unfold cxV cxCells attC attName Hid
        dsimp only
        rw [HRR.out, HRE.out, if_pos h1, if_pos h2, decide_eq_true h2]
      have z0 := block_cell u9 0 _ rfl
      have z1 := block_cell u9 1 _ rfl
      have z2 := block_cell u9 2 _ rfl
      have z3 := block_cell u9 3 _ rfl
      have z4 := block_cell u9 4 _ rfl
      have z5 := block_cell u9 5 _ rfl
      have z6 := block_cell u9 6 _ rfl
      have z7 := block_cell u9 7 _ rfl
      have z8 := block_cell u9 8 _ rfl
      have r9 := (fr.block _ (Array.getElem?_eq_some_iff.1 HR3.out).1 hne.out).trans HR3.out
      have b9 := qW6
      have y0 := block_cell r9 0 _ rfl
      have y1 := block_cell r9 1 _ rfl
      have y2 := block_cell r9 2 _ rfl
      have y3 := block_cell r9 3 _ rfl
      have y4 := block_cell r9 4 _ rfl
      have y5 := block_cell r9 5 _ rfl
      have y6 := block_cell r9 6 _ rfl
      have y7 := block_cell r9 7 _ rfl
      have y8 := block_cell r9 8 _ rfl
      have q0 := block_free r9 0
      have q1 := block_free r9 1
      have q2 := block_free r9 2
      have q3 := block_free r9 3
      have q4 := block_free r9 4
      have q5 := block_free r9 5
      have q6 := block_free r9 6
      have q7 := block_free r9 7
      have q8 := block_free r9 8
      have k0 := block_cell b9 0 _ rfl
      have k1 := block_cell b9 1 _ rfl
      have k2 := block_cell b9 2 _ rfl
      have k3 := block_cell b9 3 _ rfl
      have k4 := block_cell b9 4 _ rfl
      have k5 := block_cell b9 5 _ rfl
      have k6 := block_cell b9 6 _ rfl
      have k7 := block_cell b9 7 _ rfl
      have k8 := block_cell b9 8 _ rfl
      clear hb9 u9 r9 b9 h1 h2 fr
      clear frW4 frW5 frW6 qW4 qW5 qW6
      go_wp2_with fail
      rw [HE.out]
      exact bodyPost_ret (v := .agg #[.int .i64 r, .string (digit r ++ ⟨#[58, 49, 47, 48]⟩ ++ ⟨#[126]⟩), .int .i64 (1 + x / 4 % 3), .bool (x / 12 % 3 == 0), .bool true, .int .i64 (now + x / 36 % 12), .int .i64 0, .int .i64 1, .int .i64 (x / 7 % 4)]) (by simp [results, Tryd.results12, go_sem, z0, z1, z2, z3, z4, z5, z6, z7, z8]) rfl ⟨rfl, HB9.out⟩
    · have t1 : (x / 432 % 2 == 1) = true := beq_iff_eq.2 h1
      have t2 : (x / 864 % 5 == 1) = false := beq_eq_false_iff_ne.2 h2
      have qW4 := setCell_block W3 N3 1 _ _ (0, 0) (.string (digit r ++ ⟨#[58, 49, 47, 48]⟩)) HN3.out
      simp only [List.setIfInBounds_toArray, List.set_cons_zero, List.set_cons_succ] at qW4
      have frW4 : Fr (fun k => k = N3) W3 (W3.setCell ⟨N3, 1, none⟩ (.string (digit r ++ ⟨#[58, 49, 47, 48]⟩))) := Fr.setCell _ W3 ⟨N3, 1, none⟩ _ rfl
      obtain ⟨W4, hW4⟩ : ∃ W4, W3.setCell ⟨N3, 1, none⟩ (.string (digit r ++ ⟨#[58, 49, 47, 48]⟩)) = W4 := ⟨_, rfl⟩
      rw [hW4] at qW4 frW4
      have c41 := block_cell qW4 1 _ rfl
      have f41 := block_free qW4 1
      have fr : Fr (fun k => k = N3) W3 W4 := frW4
      obtain ⟨W9, hW9, hb9, u9⟩ := copy_out ⟨r, (digit r ++ ⟨#[58, 49, 47, 48]⟩), 1 + x / 4 % 3, x / 12 % 3 == 0, false, now + x / 36 % 12, 0, 1, x / 7 % 4⟩ ((fr.block _ (Array.getElem?_eq_some_iff.1 HR3.out).1 hne.out).trans HR3.out) (((Fr.ofBelow (F := fun _ => False) HB3.out).trans fr (fun b hb => .inr (by rw [hb]; exact HNW.out))).toBelow fun _ _ h => h) (Nat.le_refl _)
      simp only [cxCells, setsFrom, Nat.reduceAdd] at hW9
      dsimp only [cxCells] at u9
      have HB9 := Lib.hid hb9
      have HE : Hid (cxV (attC x now) = .agg #[.int .i64 r, .string (digit r ++ ⟨#[58, 49, 47, 48]⟩), .int .i64 (1 + x / 4 % 3), .bool (x / 12 % 3 == 0), .bool false, .int .i64 (now + x / 36 % 12), .int .i64 0, .int .i64 1, .int .i64 (x / 7 % 4)]) := by
        unfold cxV cxCells attC attName Hid
        dsimp only
        rw [HRR.out, HRE.out, if_pos h1, if_neg h2, decide_eq_false h2, append_nil_bytes]
      have z0 := block_cell u9 0 _ rfl
      have z1 := block_cell u9 1 _ rfl
      have z2 := block_cell u9 2 _ rfl
      have z3 := block_cell u9 3 _ rfl
      have z4 := block_cell u9 4 _ rfl
      have z5 := block_cell u9 5 _ rfl
      have z6 := block_cell u9 6 _ rfl
      have z7 := block_cell u9 7 _ rfl
      have z8 := block_cell u9 8 _ rfl
      have r9 := (fr.block _ (Array.getElem?_eq_some_iff.1 HR3.out).1 hne.out).trans HR3.out
      have b9 := qW4
      have y0 := block_cell r9 0 _ rfl
      have y1 := block_cell r9 1 _ rfl
      have y2 := block_cell r9 2 _ rfl
      have y3 := block_cell r9 3 _ rfl
      have y4 := block_cell r9 4 _ rfl
      have y5 := block_cell r9 5 _ rfl
      have y6 := block_cell r9 6 _ rfl
      have y7 := block_cell r9 7 _ rfl
      have y8 := block_cell r9 8 _ rfl
      have q0 := block_free r9 0
      have q1 := block_free r9 1
      have q2 := block_free r9 2
      have q3 := block_free r9 3
      have q4 := block_free r9 4
      have q5 := block_free r9 5
      have q6 := block_free r9 6
      have q7 := block_free r9 7
      have q8 := block_free r9 8
      have k0 := block_cell b9 0 _ rfl
      have k1 := block_cell b9 1 _ rfl
      have k2 := block_cell b9 2 _ rfl
      have k3 := block_cell b9 3 _ rfl
      have k4 := block_cell b9 4 _ rfl
      have k5 := block_cell b9 5 _ rfl
      have k6 := block_cell b9 6 _ rfl
      have k7 := block_cell b9 7 _ rfl
      have k8 := block_cell b9 8 _ rfl
      clear hb9 u9 r9 b9 h1 h2 fr
      clear frW4 qW4
      go_wp2_with fail
      rw [HE.out]
      exact bodyPost_ret (v := .agg #[.int .i64 r, .string (digit r ++ ⟨#[58, 49, 47, 48]⟩), .int .i64 (1 + x / 4 % 3), .bool (x / 12 % 3 == 0), .bool false, .int .i64 (now + x / 36 % 12), .int .i64 0, .int .i64 1, .int .i64 (x / 7 % 4)]) (by simp [results, Tryd.results12, go_sem, z0, z1, z2, z3, z4, z5, z6, z7, z8]) rfl ⟨rfl, HB9.out⟩
  · by_cases h2 : x / 864 % 5 = 1
    · have t1 : (x / 432 % 2 == 1) = false := beq_eq_false_iff_ne.2 h1
      have t2 : (x / 864 % 5 == 1) = true := beq_iff_eq.2 h2
      have qW5 := setCell_block W3 N3 1 _ _ (0, 0) (.string (digit r ++ ⟨#[126]⟩)) HN3.out
      simp only [List.setIfInBounds_toArray, List.set_cons_zero, List.set_cons_succ] at qW5
      have frW5 : Fr (fun k => k = N3) W3 (W3.setCell ⟨N3, 1, none⟩ (.string (digit r ++ ⟨#[126]⟩))) := Fr.setCell _ W3 ⟨N3, 1, none⟩ _ rfl
      obtain ⟨W5, hW5⟩ : ∃ W5, W3.setCell ⟨N3, 1, none⟩ (.string (digit r ++ ⟨#[126]⟩)) = W5 := ⟨_, rfl⟩
      rw [hW5] at qW5 frW5
      have c54 := block_cell qW5 4 _ rfl
      have f54 := block_free qW5 4
      have qW6 := setCell_block W5 N3 4 _ _ (0, 0) (.bool true) qW5
      simp only [List.setIfInBounds_toArray, List.set_cons_zero, List.set_cons_succ] at qW6
      have frW6 : Fr (fun k => k = N3) W5 (W5.setCell ⟨N3, 4, none⟩ (.bool true)) := Fr.setCell _ W5 ⟨N3, 4, none⟩ _ rfl
      obtain ⟨W6, hW6⟩ : ∃ W6, W5.setCell ⟨N3, 4, none⟩ (.bool true) = W6 := ⟨_, rfl⟩
      rw [hW6] at qW6 frW6
      have fr : Fr (fun k => k = N3) W3 W6 := (frW5.trans frW6 (fun _ h => .inl h))
      obtain ⟨W9, hW9, hb9, u9⟩ := copy_out ⟨r, (digit r ++ ⟨#[126]⟩), 1 + x / 4 % 3, x / 12 % 3 == 0, true, now + x / 36 % 12, 0, 1, x / 7 % 4⟩ ((fr.block _ (Array.getElem?_eq_some_iff.1 HR3.out).1 hne.out).trans HR3.out) (((Fr.ofBelow (F := fun _ => False) HB3.out).trans fr (fun b hb => .inr (by rw [hb]; exact HNW.out))).toBelow fun _ _ h => h) (Nat.le_refl _)
      simp only [cxCells, setsFrom, Nat.reduceAdd] at hW9
      dsimp only [cxCells] at u9
      have HB9 := Lib.hid hb9
      have HE : Hid (cxV (attC x now) = .agg #[.int .i64 r, .string (digit r ++ ⟨#[126]⟩), .int .i64 (1 + x / 4 % 3), .bool (x / 12 % 3 == 0), .bool true, .int .i64 (now + x / 36 % 12), .int .i64 0, .int .i64 1, .int .i64 (x / 7 % 4)]) := by
        unfold cxV cxCells attC attName Hid
        dsimp only
        rw [HRR.out, HRE.out, if_neg h1, if_pos h2, decide_eq_true h2]
      have z0 := block_cell u9 0 _ rfl
      have z1 := block_cell u9 1 _ rfl
      have z2 := block_cell u9 2 _ rfl
      have z3 := block_cell u9 3 _ rfl
      have z4 := block_cell u9 4 _ rfl
      have z5 := block_cell u9 5 _ rfl
      have z6 := block_cell u9 6 _ rfl
      have z7 := block_cell u9 7 _ rfl
      have z8 := block_cell u9 8 _ rfl
      have r9 := (fr.block _ (Array.getElem?_eq_some_iff.1 HR3.out).1 hne.out).trans HR3.out
      have b9 := qW6
      have y0 := block_cell r9 0 _ rfl
      have y1 := block_cell r9 1 _ rfl
      have y2 := block_cell r9 2 _ rfl
      have y3 := block_cell r9 3 _ rfl
      have y4 := block_cell r9 4 _ rfl
      have y5 := block_cell r9 5 _ rfl
      have y6 := block_cell r9 6 _ rfl
      have y7 := block_cell r9 7 _ rfl
      have y8 := block_cell r9 8 _ rfl
      have q0 := block_free r9 0
      have q1 := block_free r9 1
      have q2 := block_free r9 2
      have q3 := block_free r9 3
      have q4 := block_free r9 4
      have q5 := block_free r9 5
      have q6 := block_free r9 6
      have q7 := block_free r9 7
      have q8 := block_free r9 8
      have k0 := block_cell b9 0 _ rfl
      have k1 := block_cell b9 1 _ rfl
      have k2 := block_cell b9 2 _ rfl
      have k3 := block_cell b9 3 _ rfl
      have k4 := block_cell b9 4 _ rfl
      have k5 := block_cell b9 5 _ rfl
      have k6 := block_cell b9 6 _ rfl
      have k7 := block_cell b9 7 _ rfl
      have k8 := block_cell b9 8 _ rfl
      clear hb9 u9 r9 b9 h1 h2 fr
      clear frW5 frW6 qW5 qW6
      go_wp2_with fail
      rw [HE.out]
      exact bodyPost_ret (v := .agg #[.int .i64 r, .string (digit r ++ ⟨#[126]⟩), .int .i64 (1 + x / 4 % 3), .bool (x / 12 % 3 == 0), .bool true, .int .i64 (now + x / 36 % 12), .int .i64 0, .int .i64 1, .int .i64 (x / 7 % 4)]) (by simp [results, Tryd.results12, go_sem, z0, z1, z2, z3, z4, z5, z6, z7, z8]) rfl ⟨rfl, HB9.out⟩
    · have t1 : (x / 432 % 2 == 1) = false := beq_eq_false_iff_ne.2 h1
      have t2 : (x / 864 % 5 == 1) = false := beq_eq_false_iff_ne.2 h2
      obtain ⟨W9, hW9, hb9, u9⟩ := copy_out ⟨r, (digit r), 1 + x / 4 % 3, x / 12 % 3 == 0, false, now + x / 36 % 12, 0, 1, x / 7 % 4⟩ ((HR3.out)) HB3.out (Nat.le_refl _)
      simp only [cxCells, setsFrom, Nat.reduceAdd] at hW9
      dsimp only [cxCells] at u9
      have HB9 := Lib.hid hb9
      have HE : Hid (cxV (attC x now) = .agg #[.int .i64 r, .string (digit r), .int .i64 (1 + x / 4 % 3), .bool (x / 12 % 3 == 0), .bool false, .int .i64 (now + x / 36 % 12), .int .i64 0, .int .i64 1, .int .i64 (x / 7 % 4)]) := by
        unfold cxV cxCells attC attName Hid
        dsimp only
        rw [HRR.out, HRE.out, if_neg h1, if_neg h2, decide_eq_false h2, append_nil_bytes]
      have z0 := block_cell u9 0 _ rfl
      have z1 := block_cell u9 1 _ rfl
      have z2 := block_cell u9 2 _ rfl
      have z3 := block_cell u9 3 _ rfl
      have z4 := block_cell u9 4 _ rfl
      have z5 := block_cell u9 5 _ rfl
      have z6 := block_cell u9 6 _ rfl
      have z7 := block_cell u9 7 _ rfl
      have z8 := block_cell u9 8 _ rfl
      have r9 := HR3.out
      have b9 := HN3.out
      have y0 := block_cell r9 0 _ rfl
      have y1 := block_cell r9 1 _ rfl
      have y2 := block_cell r9 2 _ rfl
      have y3 := block_cell r9 3 _ rfl
      have y4 := block_cell r9 4 _ rfl
      have y5 := block_cell r9 5 _ rfl
      have y6 := block_cell r9 6 _ rfl
      have y7 := block_cell r9 7 _ rfl
      have y8 := block_cell r9 8 _ rfl
      have q0 := block_free r9 0
      have q1 := block_free r9 1
      have q2 := block_free r9 2
      have q3 := block_free r9 3
      have q4 := block_free r9 4
      have q5 := block_free r9 5
      have q6 := block_free r9 6
      have q7 := block_free r9 7
      have q8 := block_free r9 8
      have k0 := block_cell b9 0 _ rfl
      have k1 := block_cell b9 1 _ rfl
      have k2 := block_cell b9 2 _ rfl
      have k3 := block_cell b9 3 _ rfl
      have k4 := block_cell b9 4 _ rfl
      have k5 := block_cell b9 5 _ rfl
      have k6 := block_cell b9 6 _ rfl
      have k7 := block_cell b9 7 _ rfl
      have k8 := block_cell b9 8 _ rfl
      clear hb9 u9 r9 b9 h1 h2
      go_wp2_with fail
      rw [HE.out]
      exact bodyPost_ret (v := .agg #[.int .i64 r, .string (digit r), .int .i64 (1 + x / 4 % 3), .bool (x / 12 % 3 == 0), .bool false, .int .i64 (now + x / 36 % 12), .int .i64 0, .int .i64 1, .int .i64 (x / 7 % 4)]) (by simp [results, Tryd.results12, go_sem, z0, z1, z2, z3, z4, z5, z6, z7, z8]) rfl ⟨rfl, HB9.out⟩

end Go.Proofs.YtchjlkfkfcmhlaaDoor
