/- CtxChecks: the walk. -/
import Derived.Test.YtjollcacgnfabaaDoorC28
namespace Go.Proofs.YtjollcacgnfabaaDoor
open Go.RowKit
attribute [local go_sem ↓] Go.wp_at_zero Go.wp_at_succ

theorem St.name_set {w0 w : World} {a b : Nat} {A c : Cx} (h : St w0 w [(a, A), (b, c)]) (hab : a ≠ b) (hb : w0.heap.size ≤ b) (t : ByteArray) : St w0 (w.setCell ⟨b, 1, none⟩ (.string t)) [(a, A), (b, { c with call := t })] := by
  refine ⟨fun p hp => ?_, h.below.setCell (p := ⟨b, 1, none⟩) hb _⟩
  simp only [List.mem_cons, List.not_mem_nil, or_false] at hp
  rcases hp with rfl | rfl
  · exact (Below.heap_setCell w ⟨b, 1, none⟩ _ a hab).trans (h.boxes (a, A) (by simp))
  · have k := setCell_block w b 1 _ _ _ (.string t) (h.boxes (b, c) (by simp))
    simp only [cxCells, List.setIfInBounds_toArray, List.set_cons_zero, List.set_cons_succ] at k
    exact k

theorem tdiv_bd {a k : Int} (hk : 2 ≤ k) (h : -9223372036854775808 ≤ a ∧ a ≤ 9223372036854775807) : -9223372036854775808 ≤ Int.tdiv a k ∧ Int.tdiv a k ≤ 9223372036854775807 := by
  have h1 : (Int.tdiv a k).natAbs = a.natAbs / k.natAbs := Int.natAbs_tdiv a k
  have h2 : a.natAbs / k.natAbs ≤ a.natAbs / 2 := Nat.div_le_div_left (by omega) (by decide)
  omega

theorem St.row {w0 w : World} {L : List (Nat × Cx)} (h : St w0 w L) (vs : Array Value) : ∃ W, w.alloc (.cells vs 24) = W ∧ St w0 W L ∧ W.heap[w.heap.size]? = some (.cells vs 24 (0, 0)) :=
  ⟨_, rfl, h.call ((Below.refl _ _).alloc (Nat.le_refl _) _), heap_alloc_new w _⟩

set_option maxRecDepth 8000 in
set_option maxHeartbeats 2000000 in
theorem checks_walk {w : World} {A : Option Addr} {k0 : Nat} {l : List Int} (h : ArgInts w A k0 l) (cap : Nat) (how n : Int) (s : ByteArray) (c0 : Cx) (hh : -9223372036854775808 ≤ how ∧ how ≤ 9223372036854775807) (hn : -9223372036854775808 ≤ n ∧ n ≤ 9223372036854775807) (hL : MaxLenAt w) :
    Calls Tryd.prog 3 #[.slice A k0 cap, .int .i64 how, .int .i64 n, .string s, cxV c0] w fun e w' => e = .returned (.bool true) ∧ Below w.heap.size w w' := by
  obtain ⟨q, t, tr, b1, b2, d, u, v, z⟩ := c0
  dsimp only [cxV, cxCells]
  have S0 : Hid (St w w []) := ⟨(fun p hp => by cases hp), Below.refl _ _⟩
  have S1 := Lib.hid (S0.out.push ⟨q, t, tr, b1, b2, d, u, v, z⟩)
  dsimp only [cxCells] at S1
  have HC := Lib.hid (ctx_any (h.keep S1.out.below) cap)
  have HSH := Lib.hid (fun w => short_any t 30 (by decide) w)
  obtain ⟨t3, ht3⟩ : ∃ t3, t3 = shortOf t 30 := ⟨_, rfl⟩
  rw [← ht3] at HSH
  have hz3 : t3.size ≤ 30 := by rw [ht3]; exact shortOf_size t 30
  obtain ⟨c, hc⟩ : ∃ c, c = ctxOf l := ⟨_, rfl⟩
  rw [← hc] at HC
  have hsA : c.call.size ≤ 29 := by have := (ctxOf_in l).size; rw [← hc] at this; omega
  have HB1 := Lib.hid (fun w => bent_any c (by omega) how n s hh hn w)
  have hsB := bentOf_size c how n s
  obtain ⟨c2, hc2⟩ : ∃ c2, c2 = bentOf c how n s := ⟨_, rfl⟩
  rw [← hc2] at HB1 hsB
  have hh9 : -9223372036854775808 ≤ Int.tdiv how 9 ∧ Int.tdiv how 9 ≤ 9223372036854775807 := tdiv_bd (by decide) hh
  have hn2 : -9223372036854775808 ≤ Int.tdiv n 2 ∧ Int.tdiv n 2 ≤ 9223372036854775807 := tdiv_bd (by decide) hn
  have i9 := IntWalk.i64_in (Int.tdiv how 9) hh9
  have i2 := IntWalk.i64_in (Int.tdiv n 2) hn2
  have HB2 := Lib.hid (fun w => bent_any c2 (by omega) (Int.tdiv how 9) (Int.tdiv n 2) s hh9 hn2 w)
  have hsC := bentOf_size c2 (Int.tdiv how 9) (Int.tdiv n 2) s
  obtain ⟨c3, hc3⟩ : ∃ c3, c3 = bentOf c2 (Int.tdiv how 9) (Int.tdiv n 2) s := ⟨_, rfl⟩
  rw [← hc3] at HB2 hsC
  have HKA := Lib.hid (fun w => check_any c (by omega) w)
  have HRA := Lib.hid (fun w => rcheck_any c (by omega) w)
  have HKB := Lib.hid (fun w => check_any c2 (by omega) w)
  have HRB := Lib.hid (fun w => rcheck_any c2 (by omega) w)
  have HKC := Lib.hid (fun w => check_any c3 (by omega) w)
  have HRC := Lib.hid (fun w => rcheck_any c3 (by omega) w)
  have HKD := Lib.hid (fun w => check_any ⟨q, t3, tr, b1, b2, d, u, v, z⟩ (by dsimp only; omega) w)
  have HRD := Lib.hid (fun w => rcheck_any ⟨q, t3, tr, b1, b2, d, u, v, z⟩ (by dsimp only; omega) w)
  obtain ⟨xa, hxa⟩ : ∃ x, x = c.check := ⟨_, rfl⟩
  obtain ⟨xb, hxb⟩ : ∃ x, x = c2.check := ⟨_, rfl⟩
  obtain ⟨xc, hxc⟩ : ∃ x, x = c3.check := ⟨_, rfl⟩
  obtain ⟨xd, hxd⟩ : ∃ x, x = (⟨q, t3, tr, b1, b2, d, u, v, z⟩ : Cx).check := ⟨_, rfl⟩
  rw [← hxa] at HKA HRA
  rw [← hxb] at HKB HRB
  rw [← hxc] at HKC HRC
  rw [← hxd] at HKD HRD
  have HLV := Lib.hid (fun w' (hb : Below w.heap.size w w') => lives_any w' (hL.below hL.lt hb))
  clear hsA hsB hsC hxa hxb hxc hxd hc2 hc3 hh9 hn2 hL hz3
  obtain ⟨q', t', tr', b1', b2', d', u', v', z'⟩ := c
  obtain ⟨q₂, t₂, tr₂, b1₂, b2₂, d₂, u₂, v₂, z₂⟩ := c2
  obtain ⟨q₃, t₃, tr₃, b1₃, b2₃, d₃, u₃, v₃, z₃⟩ := c3
  dsimp only [cxV, cxCells] at HC HB1 HB2 HKA HRA HKB HRB HKC HRC HKD HRD
  clear hc ht3 S0 h hh hn
  go_enter Tryd.func3, Tryd.ntmps3
  go_wp2_with fail
  refine HC.out.mono ?_
  rintro e w1 ⟨rfl, hb1⟩
  have S2 := Lib.hid ((S1.out.call hb1).push ⟨q', t', tr', b1', b2', d', u', v', z'⟩)
  dsimp only [cxCells] at S2
  have HNE : Hid (w1.heap.size ≠ w.heap.size) := by
    have := hb1.size
    simp at this
    exact fun e => by omega
  clear hb1 S1
  have mb := S2.out.boxes (w.heap.size, ⟨q, t, tr, b1, b2, d, u, v, z⟩) (by simp)
  dsimp only [cxCells] at mb
  have r0 := block_cell mb 0 _ rfl
  have r1 := block_cell mb 1 _ rfl
  have r2 := block_cell mb 2 _ rfl
  have r3 := block_cell mb 3 _ rfl
  have r4 := block_cell mb 4 _ rfl
  have r5 := block_cell mb 5 _ rfl
  have r6 := block_cell mb 6 _ rfl
  have r7 := block_cell mb 7 _ rfl
  have r8 := block_cell mb 8 _ rfl
  have f0 := block_free mb 0
  have f1 := block_free mb 1
  have f2 := block_free mb 2
  have f3 := block_free mb 3
  have f4 := block_free mb 4
  have f5 := block_free mb 5
  have f6 := block_free mb 6
  have f7 := block_free mb 7
  have f8 := block_free mb 8
  clear mb
  go_wp2_with fail
  refine (HSH.out _).mono ?_
  rintro e wq ⟨rfl, rfl⟩
  go_wp2_with fail
  obtain ⟨W2, hW2⟩ : ∃ W2, (w1.alloc (.cells #[.int .i64 q', .string t', .int .i64 tr', .bool b1', .bool b2', .int .i64 d', .int .i64 u', .int .i64 v', .int .i64 z'] 24)).setCell ⟨w.heap.size, 1, none⟩ (.string t3) = W2 := ⟨_, rfl⟩
  have S3 := Lib.hid (S2.out.name_set HNE.out (Nat.le_refl _) t3)
  dsimp only at S3
  rw [hW2] at S3 ⊢
  clear hW2 S2 r0 r1 r2 r3 r4 r5 r6 r7 r8 f0 f1 f2 f3 f4 f5 f6 f7 f8
  have HSX : Hid (∀ w', St w w' [(w1.heap.size, ⟨q', t', tr', b1', b2', d', u', v', z'⟩), (w.heap.size, ⟨q, t3, tr, b1, b2, d, u, v, z⟩)] → (w'.cell? ⟨w1.heap.size, 0, none⟩ = some (.int .i64 q') ∧ w'.cell? ⟨w1.heap.size, 1, none⟩ = some (.string t') ∧ w'.cell? ⟨w1.heap.size, 2, none⟩ = some (.int .i64 tr') ∧ w'.cell? ⟨w1.heap.size, 3, none⟩ = some (.bool b1') ∧ w'.cell? ⟨w1.heap.size, 4, none⟩ = some (.bool b2') ∧ w'.cell? ⟨w1.heap.size, 5, none⟩ = some (.int .i64 d') ∧ w'.cell? ⟨w1.heap.size, 6, none⟩ = some (.int .i64 u') ∧ w'.cell? ⟨w1.heap.size, 7, none⟩ = some (.int .i64 v') ∧ w'.cell? ⟨w1.heap.size, 8, none⟩ = some (.int .i64 z')) ∧ (w'.cell? ⟨w.heap.size, 0, none⟩ = some (.int .i64 q) ∧ w'.cell? ⟨w.heap.size, 1, none⟩ = some (.string t3) ∧ w'.cell? ⟨w.heap.size, 2, none⟩ = some (.int .i64 tr) ∧ w'.cell? ⟨w.heap.size, 3, none⟩ = some (.bool b1) ∧ w'.cell? ⟨w.heap.size, 4, none⟩ = some (.bool b2) ∧ w'.cell? ⟨w.heap.size, 5, none⟩ = some (.int .i64 d) ∧ w'.cell? ⟨w.heap.size, 6, none⟩ = some (.int .i64 u) ∧ w'.cell? ⟨w.heap.size, 7, none⟩ = some (.int .i64 v) ∧ w'.cell? ⟨w.heap.size, 8, none⟩ = some (.int .i64 z))) := fun w' h => ⟨nine (h.boxes (w1.heap.size, ⟨q', t', tr', b1', b2', d', u', v', z'⟩) (by simp)), nine (h.boxes (w.heap.size, ⟨q, t3, tr, b1, b2, d, u, v, z⟩) (by simp))⟩
  refine wp_region_held_drew (S := fun w' => (w'.cell? ⟨w1.heap.size, 0, none⟩ = some (.int .i64 q') ∧ w'.cell? ⟨w1.heap.size, 1, none⟩ = some (.string t') ∧ w'.cell? ⟨w1.heap.size, 2, none⟩ = some (.int .i64 tr') ∧ w'.cell? ⟨w1.heap.size, 3, none⟩ = some (.bool b1') ∧ w'.cell? ⟨w1.heap.size, 4, none⟩ = some (.bool b2') ∧ w'.cell? ⟨w1.heap.size, 5, none⟩ = some (.int .i64 d') ∧ w'.cell? ⟨w1.heap.size, 6, none⟩ = some (.int .i64 u') ∧ w'.cell? ⟨w1.heap.size, 7, none⟩ = some (.int .i64 v') ∧ w'.cell? ⟨w1.heap.size, 8, none⟩ = some (.int .i64 z')) ∧ (w'.cell? ⟨w.heap.size, 0, none⟩ = some (.int .i64 q) ∧ w'.cell? ⟨w.heap.size, 1, none⟩ = some (.string t3) ∧ w'.cell? ⟨w.heap.size, 2, none⟩ = some (.int .i64 tr) ∧ w'.cell? ⟨w.heap.size, 3, none⟩ = some (.bool b1) ∧ w'.cell? ⟨w.heap.size, 4, none⟩ = some (.bool b2) ∧ w'.cell? ⟨w.heap.size, 5, none⟩ = some (.int .i64 d) ∧ w'.cell? ⟨w.heap.size, 6, none⟩ = some (.int .i64 u) ∧ w'.cell? ⟨w.heap.size, 7, none⟩ = some (.int .i64 v) ∧ w'.cell? ⟨w.heap.size, 8, none⟩ = some (.int .i64 z))) (by kernel_rfl) (HSX.out _ (S3.out.call (Below.refl _ _).drew)) (fun hHeld => ?_)
  refine wpAnyH_take (i := 0) (v := ?_) rfl (by kernel_rfl) (by kernel_rfl) (by kernel_rfl) (fun _ _ _ h => h) (Or.inl ⟨by kernel_rfl, ?_⟩) (by assumption) ?_
  rotate_left
  · (intro w hSw; (try dsimp only at hSw); go_simp; (try rw [if_neg (by (try simp only [ByteArray.size_append]); omega)]); (try with_reducible rfl))
  try simp only [Act.put]
  refine wpAnyH_take (i := 1) (v := ?_) rfl (by kernel_rfl) (by kernel_rfl) (by kernel_rfl) (fun _ _ _ h => h) (Or.inl ⟨by kernel_rfl, ?_⟩) (by assumption) ?_
  rotate_left
  · (intro w hSw; (try dsimp only at hSw); go_simp; (try rw [if_neg (by (try simp only [ByteArray.size_append]); omega)]); (try with_reducible rfl))
  try simp only [Act.put]
  refine wpAnyH_take (i := 2) (v := ?_) rfl (by kernel_rfl) (by kernel_rfl) (by kernel_rfl) (fun _ _ _ h => h) (Or.inl ⟨by kernel_rfl, ?_⟩) (by assumption) ?_
  rotate_left
  · (intro w hSw; (try dsimp only at hSw); go_simp; (try rw [if_neg (by (try simp only [ByteArray.size_append]); omega)]); (try with_reducible rfl))
  try simp only [Act.put]
  refine wpAnyH_take (i := 3) (v := ?_) rfl (by kernel_rfl) (by kernel_rfl) (by kernel_rfl) (fun _ _ _ h => h) (Or.inl ⟨by kernel_rfl, ?_⟩) (by assumption) ?_
  rotate_left
  · (intro w hSw; (try dsimp only at hSw); go_simp; (try rw [if_neg (by (try simp only [ByteArray.size_append]); omega)]); (try with_reducible rfl))
  try simp only [Act.put]
  refine wpAnyH_take (i := 4) (v := ?_) rfl (by kernel_rfl) (by kernel_rfl) (by kernel_rfl) (fun _ _ _ h => h) (Or.inl ⟨by kernel_rfl, ?_⟩) (by assumption) ?_
  rotate_left
  · (intro w hSw; (try dsimp only at hSw); go_simp; (try rw [if_neg (by (try simp only [ByteArray.size_append]); omega)]); (try with_reducible rfl))
  try simp only [Act.put]
  refine wpAnyH_take (i := 6) (v := ?_) rfl (by kernel_rfl) (by kernel_rfl) (by kernel_rfl) (fun _ _ _ h => h) (Or.inl ⟨by kernel_rfl, ?_⟩) (by assumption) ?_
  rotate_left
  · (intro w hSw; (try dsimp only at hSw); go_simp; (try rw [if_neg (by (try simp only [ByteArray.size_append]); omega)]); (try with_reducible rfl))
  try simp only [Act.put]
  refine wpAnyH_take (i := 7) (v := ?_) rfl (by kernel_rfl) (by kernel_rfl) (by kernel_rfl) (fun _ _ _ h => h) (Or.inl ⟨by kernel_rfl, ?_⟩) (by assumption) ?_
  rotate_left
  · (intro w hSw; (try dsimp only at hSw); go_simp; (try rw [if_neg (by (try simp only [ByteArray.size_append]); omega)]); (try with_reducible rfl))
  try simp only [Act.put]
  refine wpAnyH_take (i := 8) (v := ?_) rfl (by kernel_rfl) (by kernel_rfl) (by kernel_rfl) (fun _ _ _ h => h) (Or.inl ⟨by kernel_rfl, ?_⟩) (by assumption) ?_
  rotate_left
  · (intro w hSw; (try dsimp only at hSw); go_simp; (try rw [if_neg (by (try simp only [ByteArray.size_append]); omega)]); (try with_reducible rfl))
  try simp only [Act.put]
  refine wpAnyH_take (i := 9) (v := ?_) rfl (by kernel_rfl) (by kernel_rfl) (by kernel_rfl) (fun _ _ _ h => h) (Or.inl ⟨by kernel_rfl, ?_⟩) (by assumption) ?_
  rotate_left
  · (intro w hSw; (try dsimp only at hSw); go_simp; (try rw [if_neg (by (try simp only [ByteArray.size_append]); omega)]); (try with_reducible rfl))
  try simp only [Act.put]
  refine wpAnyH_take (i := 11) (v := ?_) rfl (by kernel_rfl) (by kernel_rfl) (by kernel_rfl) (fun _ _ _ h => h) (Or.inl ⟨by kernel_rfl, ?_⟩) (by assumption) ?_
  rotate_left
  · (intro w hSw; (try dsimp only at hSw); go_simp; (try rw [if_neg (by (try simp only [ByteArray.size_append]); omega)]); (try with_reducible rfl))
  try simp only [Act.put]
  refine wpAnyH_take (i := 12) (v := ?_) rfl (by kernel_rfl) (by kernel_rfl) (by kernel_rfl) (fun _ _ _ h => h) (Or.inl ⟨by kernel_rfl, ?_⟩) (by assumption) ?_
  rotate_left
  · (intro w hSw; (try dsimp only at hSw); go_simp; (try rw [if_neg (by (try simp only [ByteArray.size_append]); omega)]); (try with_reducible rfl))
  try simp only [Act.put]
  refine wpAnyH_take (i := 13) (v := ?_) rfl (by kernel_rfl) (by kernel_rfl) (by kernel_rfl) (fun _ _ _ h => h) (Or.inl ⟨by kernel_rfl, ?_⟩) (by assumption) ?_
  rotate_left
  · (intro w hSw; (try dsimp only at hSw); go_simp; (try rw [if_neg (by (try simp only [ByteArray.size_append]); omega)]); (try with_reducible rfl))
  try simp only [Act.put]
  refine wpAnyH_take (i := 14) (v := ?_) rfl (by kernel_rfl) (by kernel_rfl) (by kernel_rfl) (fun _ _ _ h => h) (Or.inl ⟨by kernel_rfl, ?_⟩) (by assumption) ?_
  rotate_left
  · (intro w hSw; (try dsimp only at hSw); go_simp; (try rw [if_neg (by (try simp only [ByteArray.size_append]); omega)]); (try with_reducible rfl))
  try simp only [Act.put]
  refine wpAnyH_take (i := 15) (v := ?_) rfl (by kernel_rfl) (by kernel_rfl) (by kernel_rfl) (fun _ _ _ h => h) (Or.inl ⟨by kernel_rfl, ?_⟩) (by assumption) ?_
  rotate_left
  · (intro w hSw; (try dsimp only at hSw); go_simp; (try rw [if_neg (by (try simp only [ByteArray.size_append]); omega)]); (try with_reducible rfl))
  try simp only [Act.put]
  refine wpAnyH_take (i := 17) (v := ?_) rfl (by kernel_rfl) (by kernel_rfl) (by kernel_rfl) (fun _ _ _ h => h) (Or.inl ⟨by kernel_rfl, ?_⟩) (by assumption) ?_
  rotate_left
  · (intro w hSw; (try dsimp only at hSw); go_simp; (try rw [if_neg (by (try simp only [ByteArray.size_append]); omega)]); (try with_reducible rfl))
  try simp only [Act.put]
  refine wpAnyH_ready (rs := [5]) (by kernel_rfl) (by simp) ?_
  refine AllReadyH.cons rfl (fun K hK => ?_) AllReadyH.nil
  go_simp
  try rw [if_neg (by assumption)]
  refine (HB1.out _).mono ?_
  rintro e wa ⟨rfl, hb⟩
  replace hb := bdrew hb
  have S4 := Lib.hid (S3.out.call hb)
  refine hK.out _ _ (HSX.out _ S4.out) (fun hHeld => ?_)
  clear hK K hb S3
  try simp only [Act.put]
  refine wpAnyH_ready (rs := [10]) (by kernel_rfl) (by simp) ?_
  refine AllReadyH.cons rfl (fun K hK => ?_) AllReadyH.nil
  go_simp
  try rw [if_neg (by assumption)]
  refine (HB1.out _).mono ?_
  rintro e wb ⟨rfl, hb⟩
  have S5 := Lib.hid (S4.out.call hb)
  refine hK.out _ _ (HSX.out _ S5.out) (fun hHeld => ?_)
  clear hK K hb S4
  try simp only [Act.put]
  refine wpAnyH_ready (rs := [16]) (by kernel_rfl) (by simp) ?_
  refine AllReadyH.cons rfl (fun K hK => ?_) AllReadyH.nil
  go_simp
  try rw [if_neg (by assumption)]
  refine (HB2.out _).mono ?_
  rintro e wd ⟨rfl, hb⟩
  have S6 := Lib.hid (S5.out.call hb)
  refine hK.out _ _ (HSX.out _ S6.out) (fun hHeld => ?_)
  clear hK K hb S5
  try simp only [Act.put]
  obtain ⟨W7, hW7, hst7, hrow7⟩ := S6.out.row #[.int .i64 q', .string t', .int .i64 tr', .bool b1', .bool b2', .int .i64 d', .int .i64 u', .int .i64 v', .int .i64 z', .int .i64 q₂, .string t₂, .int .i64 tr₂, .bool b1₂, .bool b2₂, .int .i64 d₂, .int .i64 u₂, .int .i64 v₂, .int .i64 z₂, .int .i64 q₃, .string t₃, .int .i64 tr₃, .bool b1₃, .bool b2₃, .int .i64 d₃, .int .i64 u₃, .int .i64 v₃, .int .i64 z₃, .int .i64 q, .string t3, .int .i64 tr, .bool b1, .bool b2, .int .i64 d, .int .i64 u, .int .i64 v, .int .i64 z]
  dsimp only at hW7 hrow7
  have S7 := Lib.hid hst7
  refine wpAnyH_ready (rs := [18]) (by kernel_rfl) (by simp) ?_
  refine AllReadyH.cons rfl (fun K hK => ?_) AllReadyH.nil
  go_simp
  refine hK.out _ _ ((HSX.out _ S7.out)) (fun hHeld => ?_)
  clear hK K
  try simp only [Act.put]
  refine wpAnyH_take (i := 19) (v := ?_) rfl (by kernel_rfl) (by kernel_rfl) (by kernel_rfl) (fun _ _ _ h => h) (Or.inl ⟨by kernel_rfl, ?_⟩) (by assumption) ?_
  rotate_left
  · (intro w hSw; (try dsimp only at hSw); go_simp; (try rw [if_neg (by (try simp only [ByteArray.size_append]); omega)]); (try with_reducible rfl))
  try simp only [Act.put]
  refine wpAnyH_done (by kernel_rfl) ?_ _
  try simp only [Act.put]
  clear HSX hHeld
  go_simp
  have HROW : Hid (∀ w', Below W7.heap.size W7 w' → w'.heap[wd.heap.size]? = W7.heap[wd.heap.size]?) := fun w' hb => hb.block _ (Array.getElem?_eq_some_iff.1 hrow7).1
  replace hrow7 := Lib.hid hrow7
  have HBW := Lib.hid S7.out.below
  clear hW7 hst7 S6 S7 HNE
  go_wp2_with fail
  go_loopw [13] (fun vi wr => ∃ i : Nat, vi = .int .i64 i ∧ i ≤ 4 ∧ Below W7.heap.size W7 wr) (fun vi _ => (4 - intOf vi).toNat)
  case atStart => exact ⟨0, rfl, by omega, Below.refl _ _⟩
  case round =>
    obtain ⟨i, rfl, hi, hbr⟩ := hrel
    rcases (show i = 0 ∨ i = 1 ∨ i = 2 ∨ i = 3 ∨ i = 4 by omega) with rfl | rfl | rfl | rfl | rfl
    · have HSX : Hid (∀ w', Below W7.heap.size W7 w' → w'.cell? ⟨wd.heap.size, 0, none⟩ = some (.int .i64 q') ∧ w'.cell? ⟨wd.heap.size, 1, none⟩ = some (.string t') ∧ w'.cell? ⟨wd.heap.size, 2, none⟩ = some (.int .i64 tr') ∧ w'.cell? ⟨wd.heap.size, 3, none⟩ = some (.bool b1') ∧ w'.cell? ⟨wd.heap.size, 4, none⟩ = some (.bool b2') ∧ w'.cell? ⟨wd.heap.size, 5, none⟩ = some (.int .i64 d') ∧ w'.cell? ⟨wd.heap.size, 6, none⟩ = some (.int .i64 u') ∧ w'.cell? ⟨wd.heap.size, 7, none⟩ = some (.int .i64 v') ∧ w'.cell? ⟨wd.heap.size, 8, none⟩ = some (.int .i64 z')) := fun w' hb => by
        have m := (HROW.out w' hb).trans hrow7.out
        exact ⟨block_cell m 0 _ rfl, block_cell m 1 _ rfl, block_cell m 2 _ rfl, block_cell m 3 _ rfl, block_cell m 4 _ rfl, block_cell m 5 _ rfl, block_cell m 6 _ rfl, block_cell m 7 _ rfl, block_cell m 8 _ rfl⟩
      go_wp2_with fail
      refine wp_region_held_drew (S := fun w' => w'.cell? ⟨wd.heap.size, 0, none⟩ = some (.int .i64 q') ∧ w'.cell? ⟨wd.heap.size, 1, none⟩ = some (.string t') ∧ w'.cell? ⟨wd.heap.size, 2, none⟩ = some (.int .i64 tr') ∧ w'.cell? ⟨wd.heap.size, 3, none⟩ = some (.bool b1') ∧ w'.cell? ⟨wd.heap.size, 4, none⟩ = some (.bool b2') ∧ w'.cell? ⟨wd.heap.size, 5, none⟩ = some (.int .i64 d') ∧ w'.cell? ⟨wd.heap.size, 6, none⟩ = some (.int .i64 u') ∧ w'.cell? ⟨wd.heap.size, 7, none⟩ = some (.int .i64 v') ∧ w'.cell? ⟨wd.heap.size, 8, none⟩ = some (.int .i64 z')) (by kernel_rfl) (HSX.out _ hbr.drew) (fun hHeld => ?_)
      refine wpAnyH_take (i := 0) (v := ?_) rfl (by kernel_rfl) (by kernel_rfl) (by kernel_rfl) (fun _ _ _ h => h) (Or.inl ⟨by kernel_rfl, ?_⟩) (by assumption) ?_
      rotate_left
      · (intro w hSw; (try dsimp only at hSw); go_simp; (try rw [if_neg (by (try simp only [ByteArray.size_append]); omega)]); (try with_reducible rfl))
      try simp only [Act.put]
      refine wpAnyH_take (i := 1) (v := ?_) rfl (by kernel_rfl) (by kernel_rfl) (by kernel_rfl) (fun _ _ _ h => h) (Or.inl ⟨by kernel_rfl, ?_⟩) (by assumption) ?_
      rotate_left
      · (intro w hSw; (try dsimp only at hSw); go_simp; (try rw [if_neg (by (try simp only [ByteArray.size_append]); omega)]); (try with_reducible rfl))
      try simp only [Act.put]
      refine wpAnyH_take (i := 2) (v := ?_) rfl (by kernel_rfl) (by kernel_rfl) (by kernel_rfl) (fun _ _ _ h => h) (Or.inl ⟨by kernel_rfl, ?_⟩) (by assumption) ?_
      rotate_left
      · (intro w hSw; (try dsimp only at hSw); go_simp; (try rw [if_neg (by (try simp only [ByteArray.size_append]); omega)]); (try with_reducible rfl))
      try simp only [Act.put]
      refine wpAnyH_take (i := 3) (v := ?_) rfl (by kernel_rfl) (by kernel_rfl) (by kernel_rfl) (fun _ _ _ h => h) (Or.inl ⟨by kernel_rfl, ?_⟩) (by assumption) ?_
      rotate_left
      · (intro w hSw; (try dsimp only at hSw); go_simp; (try rw [if_neg (by (try simp only [ByteArray.size_append]); omega)]); (try with_reducible rfl))
      try simp only [Act.put]
      refine wpAnyH_take (i := 5) (v := ?_) rfl (by kernel_rfl) (by kernel_rfl) (by kernel_rfl) (fun _ _ _ h => h) (Or.inl ⟨by kernel_rfl, ?_⟩) (by assumption) ?_
      rotate_left
      · (intro w hSw; (try dsimp only at hSw); go_simp; (try rw [if_neg (by (try simp only [ByteArray.size_append]); omega)]); (try with_reducible rfl))
      try simp only [Act.put]
      refine wpAnyH_take (i := 6) (v := ?_) rfl (by kernel_rfl) (by kernel_rfl) (by kernel_rfl) (fun _ _ _ h => h) (Or.inl ⟨by kernel_rfl, ?_⟩) (by assumption) ?_
      rotate_left
      · (intro w hSw; (try dsimp only at hSw); go_simp; (try rw [if_neg (by (try simp only [ByteArray.size_append]); omega)]); (try with_reducible rfl))
      try simp only [Act.put]
      refine wpAnyH_take (i := 7) (v := ?_) rfl (by kernel_rfl) (by kernel_rfl) (by kernel_rfl) (fun _ _ _ h => h) (Or.inl ⟨by kernel_rfl, ?_⟩) (by assumption) ?_
      rotate_left
      · (intro w hSw; (try dsimp only at hSw); go_simp; (try rw [if_neg (by (try simp only [ByteArray.size_append]); omega)]); (try with_reducible rfl))
      try simp only [Act.put]
      refine wpAnyH_take (i := 8) (v := ?_) rfl (by kernel_rfl) (by kernel_rfl) (by kernel_rfl) (fun _ _ _ h => h) (Or.inl ⟨by kernel_rfl, ?_⟩) (by assumption) ?_
      rotate_left
      · (intro w hSw; (try dsimp only at hSw); go_simp; (try rw [if_neg (by (try simp only [ByteArray.size_append]); omega)]); (try with_reducible rfl))
      try simp only [Act.put]
      refine wpAnyH_ready (rs := [4]) (by kernel_rfl) (by simp) ?_
      refine AllReadyH.cons rfl (fun K hK => ?_) AllReadyH.nil
      go_simp
      refine (HKA.out _).mono ?_
      rintro e wx ⟨rfl, hb⟩
      replace hb := bdrew hb
      have wxb := btrans hbr hb
      refine hK.out _ _ (HSX.out _ wxb) (fun hHeld => ?_)
      clear hK K hb
      try simp only [Act.put]
      refine wpAnyH_ready (rs := [9]) (by kernel_rfl) (by simp) ?_
      refine AllReadyH.cons rfl (fun K hK => ?_) AllReadyH.nil
      go_simp
      refine (HRA.out _).mono ?_
      rintro e wy ⟨rfl, hb⟩
      have wyb := btrans wxb hb
      refine hK.out _ _ (HSX.out _ wyb) (fun hHeld => ?_)
      clear hK K hb
      try simp only [Act.put]
      refine wpAnyH_take (i := 10) (v := ?_) rfl (by kernel_rfl) (by kernel_rfl) (by kernel_rfl) (fun _ _ _ h => h) (Or.inl ⟨by kernel_rfl, ?_⟩) (by assumption) ?_
      rotate_left
      · (intro w hSw; (try dsimp only at hSw); go_simp; (try rw [if_neg (by (try simp only [ByteArray.size_append]); omega)]); (try with_reducible rfl))
      try simp only [Act.put]
      refine wpAnyH_done (by kernel_rfl) ?_ _
      try simp only [Act.put]
      clear HSX hHeld
      go_simp
      go_wp2_with fail
      go_roundw
      case rel => exact ⟨1, by go_num, by omega, wyb⟩
      case measure => simp [intOf]
    · have HSX : Hid (∀ w', Below W7.heap.size W7 w' → w'.cell? ⟨wd.heap.size, 9, none⟩ = some (.int .i64 q₂) ∧ w'.cell? ⟨wd.heap.size, 10, none⟩ = some (.string t₂) ∧ w'.cell? ⟨wd.heap.size, 11, none⟩ = some (.int .i64 tr₂) ∧ w'.cell? ⟨wd.heap.size, 12, none⟩ = some (.bool b1₂) ∧ w'.cell? ⟨wd.heap.size, 13, none⟩ = some (.bool b2₂) ∧ w'.cell? ⟨wd.heap.size, 14, none⟩ = some (.int .i64 d₂) ∧ w'.cell? ⟨wd.heap.size, 15, none⟩ = some (.int .i64 u₂) ∧ w'.cell? ⟨wd.heap.size, 16, none⟩ = some (.int .i64 v₂) ∧ w'.cell? ⟨wd.heap.size, 17, none⟩ = some (.int .i64 z₂)) := fun w' hb => by
        have m := (HROW.out w' hb).trans hrow7.out
        exact ⟨block_cell m 9 _ rfl, block_cell m 10 _ rfl, block_cell m 11 _ rfl, block_cell m 12 _ rfl, block_cell m 13 _ rfl, block_cell m 14 _ rfl, block_cell m 15 _ rfl, block_cell m 16 _ rfl, block_cell m 17 _ rfl⟩
      go_wp2_with fail
      refine wp_region_held_drew (S := fun w' => w'.cell? ⟨wd.heap.size, 9, none⟩ = some (.int .i64 q₂) ∧ w'.cell? ⟨wd.heap.size, 10, none⟩ = some (.string t₂) ∧ w'.cell? ⟨wd.heap.size, 11, none⟩ = some (.int .i64 tr₂) ∧ w'.cell? ⟨wd.heap.size, 12, none⟩ = some (.bool b1₂) ∧ w'.cell? ⟨wd.heap.size, 13, none⟩ = some (.bool b2₂) ∧ w'.cell? ⟨wd.heap.size, 14, none⟩ = some (.int .i64 d₂) ∧ w'.cell? ⟨wd.heap.size, 15, none⟩ = some (.int .i64 u₂) ∧ w'.cell? ⟨wd.heap.size, 16, none⟩ = some (.int .i64 v₂) ∧ w'.cell? ⟨wd.heap.size, 17, none⟩ = some (.int .i64 z₂)) (by kernel_rfl) (HSX.out _ hbr.drew) (fun hHeld => ?_)
      refine wpAnyH_take (i := 0) (v := ?_) rfl (by kernel_rfl) (by kernel_rfl) (by kernel_rfl) (fun _ _ _ h => h) (Or.inl ⟨by kernel_rfl, ?_⟩) (by assumption) ?_
      rotate_left
      · (intro w hSw; (try dsimp only at hSw); go_simp; (try rw [if_neg (by (try simp only [ByteArray.size_append]); omega)]); (try with_reducible rfl))
      try simp only [Act.put]
      refine wpAnyH_take (i := 1) (v := ?_) rfl (by kernel_rfl) (by kernel_rfl) (by kernel_rfl) (fun _ _ _ h => h) (Or.inl ⟨by kernel_rfl, ?_⟩) (by assumption) ?_
      rotate_left
      · (intro w hSw; (try dsimp only at hSw); go_simp; (try rw [if_neg (by (try simp only [ByteArray.size_append]); omega)]); (try with_reducible rfl))
      try simp only [Act.put]
      refine wpAnyH_take (i := 2) (v := ?_) rfl (by kernel_rfl) (by kernel_rfl) (by kernel_rfl) (fun _ _ _ h => h) (Or.inl ⟨by kernel_rfl, ?_⟩) (by assumption) ?_
      rotate_left
      · (intro w hSw; (try dsimp only at hSw); go_simp; (try rw [if_neg (by (try simp only [ByteArray.size_append]); omega)]); (try with_reducible rfl))
      try simp only [Act.put]
      refine wpAnyH_take (i := 3) (v := ?_) rfl (by kernel_rfl) (by kernel_rfl) (by kernel_rfl) (fun _ _ _ h => h) (Or.inl ⟨by kernel_rfl, ?_⟩) (by assumption) ?_
      rotate_left
      · (intro w hSw; (try dsimp only at hSw); go_simp; (try rw [if_neg (by (try simp only [ByteArray.size_append]); omega)]); (try with_reducible rfl))
      try simp only [Act.put]
      refine wpAnyH_take (i := 5) (v := ?_) rfl (by kernel_rfl) (by kernel_rfl) (by kernel_rfl) (fun _ _ _ h => h) (Or.inl ⟨by kernel_rfl, ?_⟩) (by assumption) ?_
      rotate_left
      · (intro w hSw; (try dsimp only at hSw); go_simp; (try rw [if_neg (by (try simp only [ByteArray.size_append]); omega)]); (try with_reducible rfl))
      try simp only [Act.put]
      refine wpAnyH_take (i := 6) (v := ?_) rfl (by kernel_rfl) (by kernel_rfl) (by kernel_rfl) (fun _ _ _ h => h) (Or.inl ⟨by kernel_rfl, ?_⟩) (by assumption) ?_
      rotate_left
      · (intro w hSw; (try dsimp only at hSw); go_simp; (try rw [if_neg (by (try simp only [ByteArray.size_append]); omega)]); (try with_reducible rfl))
      try simp only [Act.put]
      refine wpAnyH_take (i := 7) (v := ?_) rfl (by kernel_rfl) (by kernel_rfl) (by kernel_rfl) (fun _ _ _ h => h) (Or.inl ⟨by kernel_rfl, ?_⟩) (by assumption) ?_
      rotate_left
      · (intro w hSw; (try dsimp only at hSw); go_simp; (try rw [if_neg (by (try simp only [ByteArray.size_append]); omega)]); (try with_reducible rfl))
      try simp only [Act.put]
      refine wpAnyH_take (i := 8) (v := ?_) rfl (by kernel_rfl) (by kernel_rfl) (by kernel_rfl) (fun _ _ _ h => h) (Or.inl ⟨by kernel_rfl, ?_⟩) (by assumption) ?_
      rotate_left
      · (intro w hSw; (try dsimp only at hSw); go_simp; (try rw [if_neg (by (try simp only [ByteArray.size_append]); omega)]); (try with_reducible rfl))
      try simp only [Act.put]
      refine wpAnyH_ready (rs := [4]) (by kernel_rfl) (by simp) ?_
      refine AllReadyH.cons rfl (fun K hK => ?_) AllReadyH.nil
      go_simp
      refine (HKB.out _).mono ?_
      rintro e wx ⟨rfl, hb⟩
      replace hb := bdrew hb
      have wxb := btrans hbr hb
      refine hK.out _ _ (HSX.out _ wxb) (fun hHeld => ?_)
      clear hK K hb
      try simp only [Act.put]
      refine wpAnyH_ready (rs := [9]) (by kernel_rfl) (by simp) ?_
      refine AllReadyH.cons rfl (fun K hK => ?_) AllReadyH.nil
      go_simp
      refine (HRB.out _).mono ?_
      rintro e wy ⟨rfl, hb⟩
      have wyb := btrans wxb hb
      refine hK.out _ _ (HSX.out _ wyb) (fun hHeld => ?_)
      clear hK K hb
      try simp only [Act.put]
      refine wpAnyH_take (i := 10) (v := ?_) rfl (by kernel_rfl) (by kernel_rfl) (by kernel_rfl) (fun _ _ _ h => h) (Or.inl ⟨by kernel_rfl, ?_⟩) (by assumption) ?_
      rotate_left
      · (intro w hSw; (try dsimp only at hSw); go_simp; (try rw [if_neg (by (try simp only [ByteArray.size_append]); omega)]); (try with_reducible rfl))
      try simp only [Act.put]
      refine wpAnyH_done (by kernel_rfl) ?_ _
      try simp only [Act.put]
      clear HSX hHeld
      go_simp
      go_wp2_with fail
      go_roundw
      case rel => exact ⟨2, by go_num, by omega, wyb⟩
      case measure => simp [intOf]
    · have HSX : Hid (∀ w', Below W7.heap.size W7 w' → w'.cell? ⟨wd.heap.size, 18, none⟩ = some (.int .i64 q₃) ∧ w'.cell? ⟨wd.heap.size, 19, none⟩ = some (.string t₃) ∧ w'.cell? ⟨wd.heap.size, 20, none⟩ = some (.int .i64 tr₃) ∧ w'.cell? ⟨wd.heap.size, 21, none⟩ = some (.bool b1₃) ∧ w'.cell? ⟨wd.heap.size, 22, none⟩ = some (.bool b2₃) ∧ w'.cell? ⟨wd.heap.size, 23, none⟩ = some (.int .i64 d₃) ∧ w'.cell? ⟨wd.heap.size, 24, none⟩ = some (.int .i64 u₃) ∧ w'.cell? ⟨wd.heap.size, 25, none⟩ = some (.int .i64 v₃) ∧ w'.cell? ⟨wd.heap.size, 26, none⟩ = some (.int .i64 z₃)) := fun w' hb => by
        have m := (HROW.out w' hb).trans hrow7.out
        exact ⟨block_cell m 18 _ rfl, block_cell m 19 _ rfl, block_cell m 20 _ rfl, block_cell m 21 _ rfl, block_cell m 22 _ rfl, block_cell m 23 _ rfl, block_cell m 24 _ rfl, block_cell m 25 _ rfl, block_cell m 26 _ rfl⟩
      go_wp2_with fail
      refine wp_region_held_drew (S := fun w' => w'.cell? ⟨wd.heap.size, 18, none⟩ = some (.int .i64 q₃) ∧ w'.cell? ⟨wd.heap.size, 19, none⟩ = some (.string t₃) ∧ w'.cell? ⟨wd.heap.size, 20, none⟩ = some (.int .i64 tr₃) ∧ w'.cell? ⟨wd.heap.size, 21, none⟩ = some (.bool b1₃) ∧ w'.cell? ⟨wd.heap.size, 22, none⟩ = some (.bool b2₃) ∧ w'.cell? ⟨wd.heap.size, 23, none⟩ = some (.int .i64 d₃) ∧ w'.cell? ⟨wd.heap.size, 24, none⟩ = some (.int .i64 u₃) ∧ w'.cell? ⟨wd.heap.size, 25, none⟩ = some (.int .i64 v₃) ∧ w'.cell? ⟨wd.heap.size, 26, none⟩ = some (.int .i64 z₃)) (by kernel_rfl) (HSX.out _ hbr.drew) (fun hHeld => ?_)
      refine wpAnyH_take (i := 0) (v := ?_) rfl (by kernel_rfl) (by kernel_rfl) (by kernel_rfl) (fun _ _ _ h => h) (Or.inl ⟨by kernel_rfl, ?_⟩) (by assumption) ?_
      rotate_left
      · (intro w hSw; (try dsimp only at hSw); go_simp; (try rw [if_neg (by (try simp only [ByteArray.size_append]); omega)]); (try with_reducible rfl))
      try simp only [Act.put]
      refine wpAnyH_take (i := 1) (v := ?_) rfl (by kernel_rfl) (by kernel_rfl) (by kernel_rfl) (fun _ _ _ h => h) (Or.inl ⟨by kernel_rfl, ?_⟩) (by assumption) ?_
      rotate_left
      · (intro w hSw; (try dsimp only at hSw); go_simp; (try rw [if_neg (by (try simp only [ByteArray.size_append]); omega)]); (try with_reducible rfl))
      try simp only [Act.put]
      refine wpAnyH_take (i := 2) (v := ?_) rfl (by kernel_rfl) (by kernel_rfl) (by kernel_rfl) (fun _ _ _ h => h) (Or.inl ⟨by kernel_rfl, ?_⟩) (by assumption) ?_
      rotate_left
      · (intro w hSw; (try dsimp only at hSw); go_simp; (try rw [if_neg (by (try simp only [ByteArray.size_append]); omega)]); (try with_reducible rfl))
      try simp only [Act.put]
      refine wpAnyH_take (i := 3) (v := ?_) rfl (by kernel_rfl) (by kernel_rfl) (by kernel_rfl) (fun _ _ _ h => h) (Or.inl ⟨by kernel_rfl, ?_⟩) (by assumption) ?_
      rotate_left
      · (intro w hSw; (try dsimp only at hSw); go_simp; (try rw [if_neg (by (try simp only [ByteArray.size_append]); omega)]); (try with_reducible rfl))
      try simp only [Act.put]
      refine wpAnyH_take (i := 5) (v := ?_) rfl (by kernel_rfl) (by kernel_rfl) (by kernel_rfl) (fun _ _ _ h => h) (Or.inl ⟨by kernel_rfl, ?_⟩) (by assumption) ?_
      rotate_left
      · (intro w hSw; (try dsimp only at hSw); go_simp; (try rw [if_neg (by (try simp only [ByteArray.size_append]); omega)]); (try with_reducible rfl))
      try simp only [Act.put]
      refine wpAnyH_take (i := 6) (v := ?_) rfl (by kernel_rfl) (by kernel_rfl) (by kernel_rfl) (fun _ _ _ h => h) (Or.inl ⟨by kernel_rfl, ?_⟩) (by assumption) ?_
      rotate_left
      · (intro w hSw; (try dsimp only at hSw); go_simp; (try rw [if_neg (by (try simp only [ByteArray.size_append]); omega)]); (try with_reducible rfl))
      try simp only [Act.put]
      refine wpAnyH_take (i := 7) (v := ?_) rfl (by kernel_rfl) (by kernel_rfl) (by kernel_rfl) (fun _ _ _ h => h) (Or.inl ⟨by kernel_rfl, ?_⟩) (by assumption) ?_
      rotate_left
      · (intro w hSw; (try dsimp only at hSw); go_simp; (try rw [if_neg (by (try simp only [ByteArray.size_append]); omega)]); (try with_reducible rfl))
      try simp only [Act.put]
      refine wpAnyH_take (i := 8) (v := ?_) rfl (by kernel_rfl) (by kernel_rfl) (by kernel_rfl) (fun _ _ _ h => h) (Or.inl ⟨by kernel_rfl, ?_⟩) (by assumption) ?_
      rotate_left
      · (intro w hSw; (try dsimp only at hSw); go_simp; (try rw [if_neg (by (try simp only [ByteArray.size_append]); omega)]); (try with_reducible rfl))
      try simp only [Act.put]
      refine wpAnyH_ready (rs := [4]) (by kernel_rfl) (by simp) ?_
      refine AllReadyH.cons rfl (fun K hK => ?_) AllReadyH.nil
      go_simp
      refine (HKC.out _).mono ?_
      rintro e wx ⟨rfl, hb⟩
      replace hb := bdrew hb
      have wxb := btrans hbr hb
      refine hK.out _ _ (HSX.out _ wxb) (fun hHeld => ?_)
      clear hK K hb
      try simp only [Act.put]
      refine wpAnyH_ready (rs := [9]) (by kernel_rfl) (by simp) ?_
      refine AllReadyH.cons rfl (fun K hK => ?_) AllReadyH.nil
      go_simp
      refine (HRC.out _).mono ?_
      rintro e wy ⟨rfl, hb⟩
      have wyb := btrans wxb hb
      refine hK.out _ _ (HSX.out _ wyb) (fun hHeld => ?_)
      clear hK K hb
      try simp only [Act.put]
      refine wpAnyH_take (i := 10) (v := ?_) rfl (by kernel_rfl) (by kernel_rfl) (by kernel_rfl) (fun _ _ _ h => h) (Or.inl ⟨by kernel_rfl, ?_⟩) (by assumption) ?_
      rotate_left
      · (intro w hSw; (try dsimp only at hSw); go_simp; (try rw [if_neg (by (try simp only [ByteArray.size_append]); omega)]); (try with_reducible rfl))
      try simp only [Act.put]
      refine wpAnyH_done (by kernel_rfl) ?_ _
      try simp only [Act.put]
      clear HSX hHeld
      go_simp
      go_wp2_with fail
      go_roundw
      case rel => exact ⟨3, by go_num, by omega, wyb⟩
      case measure => simp [intOf]
    · have HSX : Hid (∀ w', Below W7.heap.size W7 w' → w'.cell? ⟨wd.heap.size, 27, none⟩ = some (.int .i64 q) ∧ w'.cell? ⟨wd.heap.size, 28, none⟩ = some (.string t3) ∧ w'.cell? ⟨wd.heap.size, 29, none⟩ = some (.int .i64 tr) ∧ w'.cell? ⟨wd.heap.size, 30, none⟩ = some (.bool b1) ∧ w'.cell? ⟨wd.heap.size, 31, none⟩ = some (.bool b2) ∧ w'.cell? ⟨wd.heap.size, 32, none⟩ = some (.int .i64 d) ∧ w'.cell? ⟨wd.heap.size, 33, none⟩ = some (.int .i64 u) ∧ w'.cell? ⟨wd.heap.size, 34, none⟩ = some (.int .i64 v) ∧ w'.cell? ⟨wd.heap.size, 35, none⟩ = some (.int .i64 z)) := fun w' hb => by
        have m := (HROW.out w' hb).trans hrow7.out
        exact ⟨block_cell m 27 _ rfl, block_cell m 28 _ rfl, block_cell m 29 _ rfl, block_cell m 30 _ rfl, block_cell m 31 _ rfl, block_cell m 32 _ rfl, block_cell m 33 _ rfl, block_cell m 34 _ rfl, block_cell m 35 _ rfl⟩
      go_wp2_with fail
      refine wp_region_held_drew (S := fun w' => w'.cell? ⟨wd.heap.size, 27, none⟩ = some (.int .i64 q) ∧ w'.cell? ⟨wd.heap.size, 28, none⟩ = some (.string t3) ∧ w'.cell? ⟨wd.heap.size, 29, none⟩ = some (.int .i64 tr) ∧ w'.cell? ⟨wd.heap.size, 30, none⟩ = some (.bool b1) ∧ w'.cell? ⟨wd.heap.size, 31, none⟩ = some (.bool b2) ∧ w'.cell? ⟨wd.heap.size, 32, none⟩ = some (.int .i64 d) ∧ w'.cell? ⟨wd.heap.size, 33, none⟩ = some (.int .i64 u) ∧ w'.cell? ⟨wd.heap.size, 34, none⟩ = some (.int .i64 v) ∧ w'.cell? ⟨wd.heap.size, 35, none⟩ = some (.int .i64 z)) (by kernel_rfl) (HSX.out _ hbr.drew) (fun hHeld => ?_)
      refine wpAnyH_take (i := 0) (v := ?_) rfl (by kernel_rfl) (by kernel_rfl) (by kernel_rfl) (fun _ _ _ h => h) (Or.inl ⟨by kernel_rfl, ?_⟩) (by assumption) ?_
      rotate_left
      · (intro w hSw; (try dsimp only at hSw); go_simp; (try rw [if_neg (by (try simp only [ByteArray.size_append]); omega)]); (try with_reducible rfl))
      try simp only [Act.put]
      refine wpAnyH_take (i := 1) (v := ?_) rfl (by kernel_rfl) (by kernel_rfl) (by kernel_rfl) (fun _ _ _ h => h) (Or.inl ⟨by kernel_rfl, ?_⟩) (by assumption) ?_
      rotate_left
      · (intro w hSw; (try dsimp only at hSw); go_simp; (try rw [if_neg (by (try simp only [ByteArray.size_append]); omega)]); (try with_reducible rfl))
      try simp only [Act.put]
      refine wpAnyH_take (i := 2) (v := ?_) rfl (by kernel_rfl) (by kernel_rfl) (by kernel_rfl) (fun _ _ _ h => h) (Or.inl ⟨by kernel_rfl, ?_⟩) (by assumption) ?_
      rotate_left
      · (intro w hSw; (try dsimp only at hSw); go_simp; (try rw [if_neg (by (try simp only [ByteArray.size_append]); omega)]); (try with_reducible rfl))
      try simp only [Act.put]
      refine wpAnyH_take (i := 3) (v := ?_) rfl (by kernel_rfl) (by kernel_rfl) (by kernel_rfl) (fun _ _ _ h => h) (Or.inl ⟨by kernel_rfl, ?_⟩) (by assumption) ?_
      rotate_left
      · (intro w hSw; (try dsimp only at hSw); go_simp; (try rw [if_neg (by (try simp only [ByteArray.size_append]); omega)]); (try with_reducible rfl))
      try simp only [Act.put]
      refine wpAnyH_take (i := 5) (v := ?_) rfl (by kernel_rfl) (by kernel_rfl) (by kernel_rfl) (fun _ _ _ h => h) (Or.inl ⟨by kernel_rfl, ?_⟩) (by assumption) ?_
      rotate_left
      · (intro w hSw; (try dsimp only at hSw); go_simp; (try rw [if_neg (by (try simp only [ByteArray.size_append]); omega)]); (try with_reducible rfl))
      try simp only [Act.put]
      refine wpAnyH_take (i := 6) (v := ?_) rfl (by kernel_rfl) (by kernel_rfl) (by kernel_rfl) (fun _ _ _ h => h) (Or.inl ⟨by kernel_rfl, ?_⟩) (by assumption) ?_
      rotate_left
      · (intro w hSw; (try dsimp only at hSw); go_simp; (try rw [if_neg (by (try simp only [ByteArray.size_append]); omega)]); (try with_reducible rfl))
      try simp only [Act.put]
      refine wpAnyH_take (i := 7) (v := ?_) rfl (by kernel_rfl) (by kernel_rfl) (by kernel_rfl) (fun _ _ _ h => h) (Or.inl ⟨by kernel_rfl, ?_⟩) (by assumption) ?_
      rotate_left
      · (intro w hSw; (try dsimp only at hSw); go_simp; (try rw [if_neg (by (try simp only [ByteArray.size_append]); omega)]); (try with_reducible rfl))
      try simp only [Act.put]
      refine wpAnyH_take (i := 8) (v := ?_) rfl (by kernel_rfl) (by kernel_rfl) (by kernel_rfl) (fun _ _ _ h => h) (Or.inl ⟨by kernel_rfl, ?_⟩) (by assumption) ?_
      rotate_left
      · (intro w hSw; (try dsimp only at hSw); go_simp; (try rw [if_neg (by (try simp only [ByteArray.size_append]); omega)]); (try with_reducible rfl))
      try simp only [Act.put]
      refine wpAnyH_ready (rs := [4]) (by kernel_rfl) (by simp) ?_
      refine AllReadyH.cons rfl (fun K hK => ?_) AllReadyH.nil
      go_simp
      refine (HKD.out _).mono ?_
      rintro e wx ⟨rfl, hb⟩
      replace hb := bdrew hb
      have wxb := btrans hbr hb
      refine hK.out _ _ (HSX.out _ wxb) (fun hHeld => ?_)
      clear hK K hb
      try simp only [Act.put]
      refine wpAnyH_ready (rs := [9]) (by kernel_rfl) (by simp) ?_
      refine AllReadyH.cons rfl (fun K hK => ?_) AllReadyH.nil
      go_simp
      refine (HRD.out _).mono ?_
      rintro e wy ⟨rfl, hb⟩
      have wyb := btrans wxb hb
      refine hK.out _ _ (HSX.out _ wyb) (fun hHeld => ?_)
      clear hK K hb
      try simp only [Act.put]
      refine wpAnyH_take (i := 10) (v := ?_) rfl (by kernel_rfl) (by kernel_rfl) (by kernel_rfl) (fun _ _ _ h => h) (Or.inl ⟨by kernel_rfl, ?_⟩) (by assumption) ?_
      rotate_left
      · (intro w hSw; (try dsimp only at hSw); go_simp; (try rw [if_neg (by (try simp only [ByteArray.size_append]); omega)]); (try with_reducible rfl))
      try simp only [Act.put]
      refine wpAnyH_done (by kernel_rfl) ?_ _
      try simp only [Act.put]
      clear HSX hHeld
      go_simp
      go_wp2_with fail
      go_roundw
      case rel => exact ⟨4, by go_num, by omega, wyb⟩
      case measure => simp [intOf]
    · go_wp2_with fail
      refine (HLV.out _ (btrans HBW.out hbr)).mono ?_
      rintro e wl ⟨rfl, hb⟩
      have HF := Lib.hid (btrans (btrans HBW.out hbr) hb)
      clear hb
      go_wp2_with fail
      go_ret
      exact ⟨rfl, HF.out⟩

end Go.Proofs.YtjollcacgnfabaaDoor
