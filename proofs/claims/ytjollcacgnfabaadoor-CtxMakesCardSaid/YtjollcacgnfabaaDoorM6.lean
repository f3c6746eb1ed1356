/- CtxMakes: the walk. -/
import Derived.Test.YtjollcacgnfabaaDoorM5
import Derived.Test.YtjollcacgnfabaaDoorM3
import Derived.Test.YtjollcacgnfabaaDoorM2
import Derived.Test.YtjollcacgnfabaaDoorC16
import Derived.Test.YtjollcacgnfabaaDoorStr
namespace Go.Proofs.YtjollcacgnfabaaDoor
open Go.RowKit
attribute [local go_sem ↓] Go.wp_at_zero Go.wp_at_succ

set_option maxRecDepth 8000 in
set_option maxHeartbeats 4000000 in
theorem makes_walk {w : World} {A : Option Addr} {k0 : Nat} {l : List Int} (h : ArgInts w A k0 l) (cap : Nat) (r : Rq) (version life most i n hop : Int) (hid : -9223372036854775808 ≤ r.id ∧ r.id ≤ 9223372036854775807) (hat : -9223372036854775808 ≤ r.at_ ∧ r.at_ ≤ 9223372036854775807) (hrl : -9223372036854775808 ≤ r.life ∧ r.life ≤ 9223372036854775807) (hlife : -9223372036854775808 ≤ life ∧ life ≤ 9223372036854775807) (hi : -9223372036854775808 ≤ i ∧ i ≤ 9223372036854775807) (hn : -9223372036854775808 ≤ n ∧ n ≤ 9223372036854775807) (hhop : -9223372036854775808 ≤ hop ∧ hop ≤ 9223372036854775807) (hL : MaxLenAt w) (hP : PowAt w) :
    Calls Tryd.prog 9 #[.slice A k0 cap, rqV r, .int .i64 version, .int .i64 life, .int .i64 most, .int .i64 i, .int .i64 n, .int .i64 hop] w fun e w' => e = .returned (.bool true) ∧ Below w.heap.size w w' := by
  obtain ⟨id, at_, path, heads, prio, idem, rl, rp⟩ := r
  unfold rqV rqCells
  dsimp only at *
  have HAT := Lib.hid (fun w => around_any at_ 20001 w hat.1 hat.2 (by decide) (by decide))
  have HRL := Lib.hid (fun w => around_any rl 20001 w hrl.1 hrl.2 (by decide) (by decide))
  have HLF := Lib.hid (fun w => around_any life 20001 w hlife.1 hlife.2 (by decide) (by decide))
  have ba := around_bd at_ (show (1 : Int) ≤ 20001 by decide)
  have bl := around_bd rl (show (1 : Int) ≤ 20001 by decide)
  have bf := around_bd life (show (1 : Int) ≤ 20001 by decide)
  obtain ⟨a1, ha1⟩ : ∃ x, x = around at_ 20001 := ⟨_, rfl⟩
  obtain ⟨l1, hl1⟩ : ∃ x, x = around rl 20001 := ⟨_, rfl⟩
  obtain ⟨l2, hl2⟩ : ∃ x, x = around life 20001 := ⟨_, rfl⟩
  rw [← ha1] at HAT ba
  rw [← hl1] at HRL bl
  rw [← hl2] at HLF bf
  have HRT := Lib.hid (fun w hP => root_any ⟨id, a1, path, heads, prio, idem, l1, rp⟩ version l2 most hid (by dsimp only; omega) (by dsimp only; omega) (by omega) w hP)
  have HRR := Lib.hid (fun w => rroot_any ⟨id, a1, path, heads, prio, idem, l1, rp⟩ version l2 most hid (by dsimp only; omega) (by dsimp only; omega) (by omega) w)
  obtain ⟨c9, hc9⟩ : ∃ x, x = rootOf ⟨id, a1, path, heads, prio, idem, l1, rp⟩ version l2 most := ⟨_, rfl⟩
  rw [← hc9] at HRT HRR
  obtain ⟨q₉, t₉, tr₉, b1₉, b2₉, d₉, u₉, v₉, z₉⟩ := c9
  dsimp only [cxV, cxCells, rqV, rqCells, confV, confCells] at HRT HRR
  have HK6 := Lib.hid (fun w => around_any n 6 w hn.1 hn.2 (by decide) (by decide))
  obtain ⟨y0, y1⟩ := around_bd n (show (1 : Int) ≤ 6 by decide)
  obtain ⟨k, hk⟩ : ∃ k : Nat, (k : Int) = around n 6 := ⟨(around n 6).toNat, by omega⟩
  have HHP := Lib.hid (fun w => around_any hop 101 w hhop.1 hhop.2 (by decide) (by decide))
  obtain ⟨g0, g1⟩ := around_bd hop (show (1 : Int) ≤ 101 by decide)
  obtain ⟨g, hg⟩ : ∃ g, g = around hop 101 := ⟨_, rfl⟩
  rw [← hk] at HK6 y0 y1
  rw [← hg] at HHP g0 g1
  have HC := Lib.hid (fun w' (hb : Below w.heap.size w w') => ctx_any (h.keep hb) cap)
  have HIN := ctxOf_in l
  obtain ⟨c, hc⟩ : ∃ c, c = ctxOf l := ⟨_, rfl⟩
  rw [← hc] at HC HIN
  obtain ⟨n1, n2, n3, n4, n5, n6, n7⟩ := HIN
  have HTR := Lib.hid (fun w => try_any c i n w)
  have HTD := Lib.hid (fun w => rtry_any c i n w)
  have HCO := Lib.hid (fun w => copy_any c (by omega) w)
  have HCD := Lib.hid (fun w => rcopy_any c (by omega) w)
  have HSP := Lib.hid (fun w => span_any c (by omega) (by omega) w)
  have HSD := Lib.hid (fun w => rspan_any c (by omega) (by omega) w)
  have HKY := Lib.hid (fun w hL => key_any c (by omega) w hL)
  have HKE := Lib.hid (fun w => rkey_any c (by omega) w)
  have HK1 := Lib.hid (fun w hP => kidN_any c (k - 1) k g (by omega) (by omega) (by omega) (by omega) (by omega) (by omega) (by omega) w hP)
  have HD1 := Lib.hid (fun w => rkidN_any c (k - 1) k g (by omega) (by omega) (by omega) (by omega) (by omega) (by omega) (by omega) w)
  have HK2 := Lib.hid (fun w hP => kidN_any c i k g (by omega) (by omega) hi (by omega) (by omega) (by omega) (by omega) w hP)
  have HD2 := Lib.hid (fun w => rkidN_any c i k g (by omega) (by omega) hi (by omega) (by omega) (by omega) (by omega) w)
  obtain ⟨c1, hc1⟩ : ∃ x, x = c.tried i n := ⟨_, rfl⟩
  obtain ⟨c2, hc2⟩ : ∃ x, x = c.copy := ⟨_, rfl⟩
  obtain ⟨c3, hc3⟩ : ∃ x, x = c.kidN (k - 1) k g := ⟨_, rfl⟩
  obtain ⟨c4, hc4⟩ : ∃ x, x = c.kidN i k g := ⟨_, rfl⟩
  obtain ⟨sp, hsp⟩ : ∃ x, x = c.span := ⟨_, rfl⟩
  obtain ⟨ky, hky⟩ : ∃ x, x = keyOf c.call := ⟨_, rfl⟩
  rw [← hc1] at HTR HTD
  rw [← hc2] at HCO HCD
  rw [← hsp] at HSP HSD
  rw [← hky] at HKY HKE
  rw [← hc3] at HK1 HD1
  rw [← hc4] at HK2 HD2
  have g2 : IntKind.i64.wrap ((k : Int) - 1) = (k : Int) - 1 := IntWalk.i64_in _ (by omega)
  have HLV := Lib.hid (fun w' (hb : Below w.heap.size w w') => lives_any w' (hL.below hL.lt hb))
  have HM := Lib.hid (fun w' (hb : Below w.heap.size w w') => hL.below hL.lt hb)
  have HP := Lib.hid (fun w' (hb : Below w.heap.size w w') => hP.keep hb (Nat.le_refl _))
  clear hc1 hc2 hc3 hc4 hsp hky n1 n2 n3 n4 n5 n6 n7 ha1 hl1 hl2 hc9 hc hk hg
  obtain ⟨q, t, tr, b1, b2, d, u, v, z⟩ := c
  obtain ⟨q₁, t₁, tr₁, b1₁, b2₁, d₁, u₁, v₁, z₁⟩ := c1
  obtain ⟨q₂, t₂, tr₂, b1₂, b2₂, d₂, u₂, v₂, z₂⟩ := c2
  obtain ⟨q₃, t₃, tr₃, b1₃, b2₃, d₃, u₃, v₃, z₃⟩ := c3
  obtain ⟨q₄, t₄, tr₄, b1₄, b2₄, d₄, u₄, v₄, z₄⟩ := c4
  dsimp only [cxV, cxCells] at HC HTR HTD HCO HCD HSP HSD HKY HKE HK1 HD1 HK2 HD2
  obtain ⟨W0, hW0⟩ : ∃ W0, w.alloc (.cells #[.int .i64 id, .int .i64 at_, .string path, heads, .int .i64 prio, .bool idem, .int .i64 rl, .int .i64 rp] 51) = W0 := ⟨_, rfl⟩
  have n0 : W0.heap[w.heap.size]? = some (.cells #[.int .i64 id, .int .i64 at_, .string path, heads, .int .i64 prio, .bool idem, .int .i64 rl, .int .i64 rp] 51 (0, 0)) := by rw [← hW0]; exact heap_alloc_new w _
  have z0 : W0.heap.size = w.heap.size + 1 := by rw [← hW0]; simp
  have b0 : Below w.heap.size w W0 := by rw [← hW0]; exact (Below.refl _ _).alloc (Nat.le_refl _) _
  obtain ⟨W1, hW1⟩ : ∃ W1, W0.setCell ⟨w.heap.size, 1, none⟩ (.int .i64 a1) = W1 := ⟨_, rfl⟩
  have n1 : W1.heap[w.heap.size]? = some (.cells #[.int .i64 id, .int .i64 a1, .string path, heads, .int .i64 prio, .bool idem, .int .i64 rl, .int .i64 rp] 51 (0, 0)) := by rw [← hW1]; exact setCell_block W0 w.heap.size 1 _ _ _ (.int .i64 a1) n0
  have z1 : W1.heap.size = w.heap.size + 1 := by rw [← hW1]; simpa [World.setCell] using z0
  have bb1 : Below w.heap.size w W1 := by rw [← hW1]; exact b0.setCell (p := ⟨w.heap.size, 1, none⟩) (Nat.le_refl _) _
  obtain ⟨W2, hW2⟩ : ∃ W2, W1.setCell ⟨w.heap.size, 6, none⟩ (.int .i64 l1) = W2 := ⟨_, rfl⟩
  have n2 : W2.heap[w.heap.size]? = some (.cells #[.int .i64 id, .int .i64 a1, .string path, heads, .int .i64 prio, .bool idem, .int .i64 l1, .int .i64 rp] 51 (0, 0)) := by rw [← hW2]; exact setCell_block W1 w.heap.size 6 _ _ _ (.int .i64 l1) n1
  have z2 : W2.heap.size = w.heap.size + 1 := by rw [← hW2]; simpa [World.setCell] using z1
  have bb2 : Below w.heap.size w W2 := by rw [← hW2]; exact bb1.setCell (p := ⟨w.heap.size, 6, none⟩) (Nat.le_refl _) _
  have k1 := block_cell n0 1 _ rfl
  have f1 := block_free n0 1
  have k6 := block_cell n1 6 _ rfl
  have f6 := block_free n1 6
  obtain ⟨N3, hN3⟩ : ∃ N3, W2.heap.size = N3 := ⟨_, rfl⟩
  obtain ⟨W3, hW3⟩ : ∃ W3, W2.alloc (.cells #[.slice none 0 0, .slice none 0 0, .slice none 0 0, .slice none 0 0, .int .i64 0, .int .i64 0, .int .i64 0, .int .i64 0, .int .i64 0, .int .i64 0, .int .i64 0, .int .i64 0, .int .i64 0, .int .i64 0, .int .i64 0, .int .i64 0, .int .i64 0, .int .i64 0, .int .i64 0, .int .i64 0] 59) = W3 := ⟨_, rfl⟩
  have n3 : W3.heap[N3]? = some (.cells #[.slice none 0 0, .slice none 0 0, .slice none 0 0, .slice none 0 0, .int .i64 0, .int .i64 0, .int .i64 0, .int .i64 0, .int .i64 0, .int .i64 0, .int .i64 0, .int .i64 0, .int .i64 0, .int .i64 0, .int .i64 0, .int .i64 0, .int .i64 0, .int .i64 0, .int .i64 0, .int .i64 0] 59 (0, 0)) := by rw [← hW3, ← hN3]; exact heap_alloc_new W2 _
  have z3 : N3 = w.heap.size + 1 := by rw [← hN3]; exact z2
  have e0 := n3
  have b00 : Below w.heap.size w W3 := by rw [← hW3]; exact bb2.alloc bb2.size _
  have n2x : W3.heap[w.heap.size]? = some (.cells #[.int .i64 id, .int .i64 a1, .string path, heads, .int .i64 prio, .bool idem, .int .i64 l1, .int .i64 rp] 51 (0, 0)) := by rw [← hW3]; exact (((Below.refl W2.heap.size W2).alloc (Nat.le_refl _) _).block w.heap.size (by omega)).trans n2
  obtain ⟨X, hX⟩ : ∃ X, W3.setRow N3 #[.slice none 0 0, .slice none 0 0, .slice none 0 0, .slice none 0 0, .int .i64 0, .int .i64 0, .int .i64 0, .int .i64 0, .int .i64 0, .int .i64 0, .int .i64 0, .int .i64 0, .int .i64 0, .int .i64 0, .int .i64 0, .int .i64 0, .int .i64 l2, .int .i64 most, .int .i64 0, .int .i64 0] = X := ⟨_, rfl⟩
  have e20 : X.heap[N3]? = some (.cells #[.slice none 0 0, .slice none 0 0, .slice none 0 0, .slice none 0 0, .int .i64 0, .int .i64 0, .int .i64 0, .int .i64 0, .int .i64 0, .int .i64 0, .int .i64 0, .int .i64 0, .int .i64 0, .int .i64 0, .int .i64 0, .int .i64 0, .int .i64 l2, .int .i64 most, .int .i64 0, .int .i64 0] 59 (0, 0)) := by rw [← hX]; exact setRow_heap W3 N3 _ _ _ _ n3
  have b20 : Below w.heap.size w X := by rw [← hX]; exact below_setRow b00 (by omega) _
  have n2x : X.heap[w.heap.size]? = some (.cells #[.int .i64 id, .int .i64 a1, .string path, heads, .int .i64 prio, .bool idem, .int .i64 l1, .int .i64 rp] 51 (0, 0)) := by rw [← hX]; exact ((below_setRow (Below.refl N3 W3) (Nat.le_refl _) _).block w.heap.size (by omega)).trans n2x
  clear b00
  have n3 := n3
  have HN2 := Lib.hid n2x
  have HN3 := Lib.hid e20
  have HZ2 := Lib.hid z3
  have HB2 := Lib.hid b20
  clear n0 n1 n2 n2x z0 z1 z2 z3 b0 bb1 bb2 b20 e20 hL hP hat hrl hlife hn hhop hi hid ba bl bf y0 y1 g0 g1 h
  go_enter Tryd.func9, Tryd.ntmps9
  go_wp2_with fail
  refine (HAT.out _).mono ?_
  rintro e wz ⟨rfl, rfl⟩
  go_wp2_with fail
  refine (HRL.out _).mono ?_
  rintro e wz ⟨rfl, rfl⟩
  clear hW0 k1 f1
  go_wp2_with fail
  refine (HLF.out _).mono ?_
  rintro e wz ⟨rfl, rfl⟩
  clear hW1 hW2 k6 f6
  go_wp2_with (refine wpList_buildTo rfl 59 _ rfl (some 33) rfl #[.slice none 0 0, .slice none 0 0, .slice none 0 0, .slice none 0 0, .int .i64 0, .int .i64 0, .int .i64 0, .int .i64 0, .int .i64 0, .int .i64 0, .int .i64 0, .int .i64 0, .int .i64 0, .int .i64 0, .int .i64 0, .int .i64 0, .int .i64 l2, .int .i64 most, .int .i64 0, .int .i64 0] (by kernel_rfl) (Go.Great.wpList_runTo rfl (some 17) rfl (.pointer (some ⟨N3, 0, none⟩)) W3 (by rw [← hN3, ← hW3]; kernel_rfl) (wpList_store_rowTo rfl 59 _ _ rfl rfl N3 #[.slice none 0 0, .slice none 0 0, .slice none 0 0, .slice none 0 0, .int .i64 0, .int .i64 0, .int .i64 0, .int .i64 0, .int .i64 0, .int .i64 0, .int .i64 0, .int .i64 0, .int .i64 0, .int .i64 0, .int .i64 0, .int .i64 0, .int .i64 l2, .int .i64 most, .int .i64 0, .int .i64 0] (by kernel_rfl) (by kernel_rfl) 59 _ n3 (by kernel_rfl) rfl (by kernel_rfl) ?_)); (try simp only [Act.put]); rw [hX])
  clear hX n3 hN3 hW3
  have HSX : Hid (∀ w', Below X.heap.size X w' → (w'.heap[w.heap.size]? = some (.cells #[.int .i64 id, .int .i64 a1, .string path, heads, .int .i64 prio, .bool idem, .int .i64 l1, .int .i64 rp] 51 (0, 0)) ∧ w'.heap[N3]? = some (.cells #[.slice none 0 0, .slice none 0 0, .slice none 0 0, .slice none 0 0, .int .i64 0, .int .i64 0, .int .i64 0, .int .i64 0, .int .i64 0, .int .i64 0, .int .i64 0, .int .i64 0, .int .i64 0, .int .i64 0, .int .i64 0, .int .i64 0, .int .i64 l2, .int .i64 most, .int .i64 0, .int .i64 0] 59 (0, 0)))) := fun w' hb => by
    exact ⟨(hb.block _ (Array.getElem?_eq_some_iff.1 HN2.out).1).trans HN2.out, (hb.block _ (Array.getElem?_eq_some_iff.1 HN3.out).1).trans HN3.out⟩
  refine wp_region_held_drew (S := fun w' => w'.heap[w.heap.size]? = some (.cells #[.int .i64 id, .int .i64 a1, .string path, heads, .int .i64 prio, .bool idem, .int .i64 l1, .int .i64 rp] 51 (0, 0)) ∧ w'.heap[N3]? = some (.cells #[.slice none 0 0, .slice none 0 0, .slice none 0 0, .slice none 0 0, .int .i64 0, .int .i64 0, .int .i64 0, .int .i64 0, .int .i64 0, .int .i64 0, .int .i64 0, .int .i64 0, .int .i64 0, .int .i64 0, .int .i64 0, .int .i64 0, .int .i64 l2, .int .i64 most, .int .i64 0, .int .i64 0] 59 (0, 0))) (by kernel_rfl) (HSX.out _ (Below.refl _ _).drew) (fun hHeld => ?_)
  refine wpAnyH_take (i := 0) (v := ?_) rfl (by kernel_rfl) (by kernel_rfl) (by kernel_rfl) (fun _ _ _ h => h) (Or.inl ⟨by kernel_rfl, ?_⟩) (by assumption) ?_
  rotate_left
  · (intro wS hSw; refine (exec_load_row 51 _ rfl _ (by kernel_rfl) _ _ _ _ (hSw.1) Tryd.underlying51 rfl (by kernel_rfl)).trans ?_; with_reducible rfl)
  try simp only [Act.put]
  refine wpAnyH_take (i := 1) (v := ?_) rfl (by kernel_rfl) (by kernel_rfl) (by kernel_rfl) (fun _ _ _ h => h) (Or.inl ⟨by kernel_rfl, ?_⟩) (by assumption) ?_
  rotate_left
  · (intro w hSw; (try dsimp only at hSw); go_simp; (try rw [if_neg (by (try simp only [ByteArray.size_append]); omega)]); (try with_reducible rfl))
  try simp only [Act.put]
  refine wpAnyH_take (i := 2) (v := ?_) rfl (by kernel_rfl) (by kernel_rfl) (by kernel_rfl) (fun _ _ _ h => h) (Or.inl ⟨by kernel_rfl, ?_⟩) (by assumption) ?_
  rotate_left
  · (intro wS hSw; refine (exec_load_row 59 _ rfl _ (by kernel_rfl) _ _ _ _ (hSw.2) Tryd.underlying59 rfl (by kernel_rfl)).trans ?_; with_reducible rfl)
  try simp only [Act.put]
  refine wpAnyH_take (i := 4) (v := ?_) rfl (by kernel_rfl) (by kernel_rfl) (by kernel_rfl) (fun _ _ _ h => h) (Or.inl ⟨by kernel_rfl, ?_⟩) (by assumption) ?_
  rotate_left
  · (intro wS hSw; refine (exec_load_row 51 _ rfl _ (by kernel_rfl) _ _ _ _ (hSw.1) Tryd.underlying51 rfl (by kernel_rfl)).trans ?_; with_reducible rfl)
  try simp only [Act.put]
  refine wpAnyH_take (i := 5) (v := ?_) rfl (by kernel_rfl) (by kernel_rfl) (by kernel_rfl) (fun _ _ _ h => h) (Or.inl ⟨by kernel_rfl, ?_⟩) (by assumption) ?_
  rotate_left
  · (intro w hSw; (try dsimp only at hSw); go_simp; (try rw [if_neg (by (try simp only [ByteArray.size_append]); omega)]); (try with_reducible rfl))
  try simp only [Act.put]
  refine wpAnyH_take (i := 6) (v := ?_) rfl (by kernel_rfl) (by kernel_rfl) (by kernel_rfl) (fun _ _ _ h => h) (Or.inl ⟨by kernel_rfl, ?_⟩) (by assumption) ?_
  rotate_left
  · (intro w hSw; (try dsimp only at hSw); go_simp; (try rw [if_neg (by (try simp only [ByteArray.size_append]); omega)]); (try with_reducible rfl))
  try simp only [Act.put]
  refine wpAnyH_take (i := 7) (v := ?_) rfl (by kernel_rfl) (by kernel_rfl) (by kernel_rfl) (fun _ _ _ h => h) (Or.inl ⟨by kernel_rfl, ?_⟩) (by assumption) ?_
  rotate_left
  · (intro w hSw; (try dsimp only at hSw); go_simp; (try rw [if_neg (by (try simp only [ByteArray.size_append]); omega)]); (try with_reducible rfl))
  try simp only [Act.put]
  refine wpAnyH_ready (rs := [3]) (by kernel_rfl) (by simp) ?_
  refine AllReadyH.cons rfl (fun K hK => ?_) AllReadyH.nil
  go_simp
  refine (HRT.out _ (HP.out _ (HB2.out.drew))).mono ?_
  rintro e wa ⟨rfl, hb⟩
  replace hb := bdrew hb
  have hbwa := hb
  refine hK.out _ _ (HSX.out _ hbwa) (fun hHeld => ?_)
  clear hK K hb
  try simp only [Act.put]
  refine wpAnyH_ready (rs := [8]) (by kernel_rfl) (by simp) ?_
  refine AllReadyH.cons rfl (fun K hK => ?_) AllReadyH.nil
  go_simp
  refine (HRR.out _).mono ?_
  rintro e wb ⟨rfl, hb⟩
  have hbwb := btrans hbwa hb
  refine hK.out _ _ (HSX.out _ hbwb) (fun hHeld => ?_)
  clear hK K hb
  try simp only [Act.put]
  refine wpAnyH_take (i := 9) (v := ?_) rfl (by kernel_rfl) (by kernel_rfl) (by kernel_rfl) (fun _ _ _ h => h) (Or.inl ⟨by kernel_rfl, ?_⟩) (by assumption) ?_
  rotate_left
  · (intro w hSw; (try dsimp only at hSw); go_simp; (try rw [if_neg (by (try simp only [ByteArray.size_append]); omega)]); (try with_reducible rfl))
  try simp only [Act.put]
  refine wpAnyH_done (by kernel_rfl) ?_ _
  try simp only [Act.put]
  clear HSX hHeld
  go_simp
  clear HN2 HN3 HZ2 HRT HRR HAT HRL HLF
  go_wp2_with fail
  refine (HC.out _ (btrans HB2.out hbwb)).mono ?_
  rintro e w5 ⟨rfl, hb5⟩
  have hb6 := (btrans (btrans HB2.out hbwb) hb5)
  have hb7 := hb6.alloc hb6.size (.cells #[.int .i64 q, .string t, .int .i64 tr, .bool b1, .bool b2, .int .i64 d, .int .i64 u, .int .i64 v, .int .i64 z] 24)
  have hk7 := heap_alloc_new w5 (.cells #[.int .i64 q, .string t, .int .i64 tr, .bool b1, .bool b2, .int .i64 d, .int .i64 u, .int .i64 v, .int .i64 z] 24)
  obtain ⟨W5, hW5⟩ : ∃ W5, w5.alloc (.cells #[.int .i64 q, .string t, .int .i64 tr, .bool b1, .bool b2, .int .i64 d, .int .i64 u, .int .i64 v, .int .i64 z] 24) = W5 := ⟨_, rfl⟩
  obtain ⟨B5, hB5⟩ : ∃ B5, w5.heap.size = B5 := ⟨_, rfl⟩
  rw [hW5] at hb7 hk7
  rw [hB5] at hk7
  have HB7 := Lib.hid hb7
  have HK7 := Lib.hid hk7
  clear hb5 hb6 hb7 hk7 hbwb hbwa HB2
  go_wp2_with fail
  refine (HK6.out _).mono ?_
  rintro e wz ⟨rfl, rfl⟩
  go_wp2_with fail
  refine (HHP.out _).mono ?_
  rintro e wz ⟨rfl, rfl⟩
  go_wp2_with fail
  clear hW5 hB5 HC HK6 HHP
  have HSX : Hid (∀ w', Below W5.heap.size W5 w' → w'.heap[B5]? = some (.cells #[.int .i64 q, .string t, .int .i64 tr, .bool b1, .bool b2, .int .i64 d, .int .i64 u, .int .i64 v, .int .i64 z] 24 (0, 0))) := fun w' hb => (hb.block _ (Array.getElem?_eq_some_iff.1 HK7.out).1).trans HK7.out
  refine wp_region_held_drew (S := fun w' => w'.heap[B5]? = some (.cells #[.int .i64 q, .string t, .int .i64 tr, .bool b1, .bool b2, .int .i64 d, .int .i64 u, .int .i64 v, .int .i64 z] 24 (0, 0))) (by kernel_rfl) (HSX.out _ (Below.refl _ _).drew) (fun hHeld => ?_)
  refine wpAnyH_take (i := 0) (v := ?_) rfl (by kernel_rfl) (by kernel_rfl) (by kernel_rfl) (fun _ _ _ h => h) (Or.inl ⟨by kernel_rfl, ?_⟩) (by assumption) ?_
  rotate_left
  · (intro wS hSw; refine (exec_load_row 24 _ rfl _ (by kernel_rfl) _ _ _ _ (hSw) Tryd.underlying24 rfl (by kernel_rfl)).trans ?_; with_reducible rfl)
  try simp only [Act.put]
  refine wpAnyH_take (i := 1) (v := ?_) rfl (by kernel_rfl) (by kernel_rfl) (by kernel_rfl) (fun _ _ _ h => h) (Or.inl ⟨by kernel_rfl, ?_⟩) (by assumption) ?_
  rotate_left
  · (intro w hSw; (try dsimp only at hSw); go_simp; (try rw [if_neg (by (try simp only [ByteArray.size_append]); omega)]); (try with_reducible rfl))
  try simp only [Act.put]
  refine wpAnyH_take (i := 2) (v := ?_) rfl (by kernel_rfl) (by kernel_rfl) (by kernel_rfl) (fun _ _ _ h => h) (Or.inl ⟨by kernel_rfl, ?_⟩) (by assumption) ?_
  rotate_left
  · (intro w hSw; (try dsimp only at hSw); go_simp; (try rw [if_neg (by (try simp only [ByteArray.size_append]); omega)]); (try with_reducible rfl))
  try simp only [Act.put]
  refine wpAnyH_take (i := 4) (v := ?_) rfl (by kernel_rfl) (by kernel_rfl) (by kernel_rfl) (fun _ _ _ h => h) (Or.inl ⟨by kernel_rfl, ?_⟩) (by assumption) ?_
  rotate_left
  · (intro wS hSw; refine (exec_load_row 24 _ rfl _ (by kernel_rfl) _ _ _ _ (hSw) Tryd.underlying24 rfl (by kernel_rfl)).trans ?_; with_reducible rfl)
  try simp only [Act.put]
  refine wpAnyH_take (i := 5) (v := ?_) rfl (by kernel_rfl) (by kernel_rfl) (by kernel_rfl) (fun _ _ _ h => h) (Or.inl ⟨by kernel_rfl, ?_⟩) (by assumption) ?_
  rotate_left
  · (intro w hSw; (try dsimp only at hSw); go_simp; (try rw [if_neg (by (try simp only [ByteArray.size_append]); omega)]); (try with_reducible rfl))
  try simp only [Act.put]
  refine wpAnyH_take (i := 6) (v := ?_) rfl (by kernel_rfl) (by kernel_rfl) (by kernel_rfl) (fun _ _ _ h => h) (Or.inl ⟨by kernel_rfl, ?_⟩) (by assumption) ?_
  rotate_left
  · (intro w hSw; (try dsimp only at hSw); go_simp; (try rw [if_neg (by (try simp only [ByteArray.size_append]); omega)]); (try with_reducible rfl))
  try simp only [Act.put]
  refine wpAnyH_ready (rs := [3]) (by kernel_rfl) (by simp) ?_
  refine AllReadyH.cons rfl (fun K hK => ?_) AllReadyH.nil
  go_simp
  refine (HTR.out _).mono ?_
  rintro e wc ⟨rfl, hb⟩
  replace hb := bdrew hb
  have hbwc := hb
  refine hK.out _ _ (HSX.out _ hbwc) (fun hHeld => ?_)
  clear hK K hb
  try simp only [Act.put]
  refine wpAnyH_ready (rs := [7]) (by kernel_rfl) (by simp) ?_
  refine AllReadyH.cons rfl (fun K hK => ?_) AllReadyH.nil
  go_simp
  refine (HTD.out _).mono ?_
  rintro e wd ⟨rfl, hb⟩
  have hbwd := btrans hbwc hb
  refine hK.out _ _ (HSX.out _ hbwd) (fun hHeld => ?_)
  clear hK K hb
  try simp only [Act.put]
  refine wpAnyH_take (i := 8) (v := ?_) rfl (by kernel_rfl) (by kernel_rfl) (by kernel_rfl) (fun _ _ _ h => h) (Or.inl ⟨by kernel_rfl, ?_⟩) (by assumption) ?_
  rotate_left
  · (intro w hSw; (try dsimp only at hSw); go_simp; (try rw [if_neg (by (try simp only [ByteArray.size_append]); omega)]); (try with_reducible rfl))
  try simp only [Act.put]
  refine wpAnyH_take (i := 9) (v := ?_) rfl (by kernel_rfl) (by kernel_rfl) (by kernel_rfl) (fun _ _ _ h => h) (Or.inl ⟨by kernel_rfl, ?_⟩) (by assumption) ?_
  rotate_left
  · (intro w hSw; (try dsimp only at hSw); go_simp; (try rw [if_neg (by (try simp only [ByteArray.size_append]); omega)]); (try with_reducible rfl))
  try simp only [Act.put]
  refine wpAnyH_take (i := 10) (v := ?_) rfl (by kernel_rfl) (by kernel_rfl) (by kernel_rfl) (fun _ _ _ h => h) (Or.inl ⟨by kernel_rfl, ?_⟩) (by assumption) ?_
  rotate_left
  · (intro wS hSw; refine (exec_load_row 24 _ rfl _ (by kernel_rfl) _ _ _ _ (hSw) Tryd.underlying24 rfl (by kernel_rfl)).trans ?_; with_reducible rfl)
  try simp only [Act.put]
  refine wpAnyH_take (i := 12) (v := ?_) rfl (by kernel_rfl) (by kernel_rfl) (by kernel_rfl) (fun _ _ _ h => h) (Or.inl ⟨by kernel_rfl, ?_⟩) (by assumption) ?_
  rotate_left
  · (intro wS hSw; refine (exec_load_row 24 _ rfl _ (by kernel_rfl) _ _ _ _ (hSw) Tryd.underlying24 rfl (by kernel_rfl)).trans ?_; with_reducible rfl)
  try simp only [Act.put]
  refine wpAnyH_ready (rs := [11]) (by kernel_rfl) (by simp) ?_
  refine AllReadyH.cons rfl (fun K hK => ?_) AllReadyH.nil
  go_simp
  refine (HCO.out _).mono ?_
  rintro e we ⟨rfl, hb⟩
  have hbwe := btrans hbwd hb
  refine hK.out _ _ (HSX.out _ hbwe) (fun hHeld => ?_)
  clear hK K hb
  try simp only [Act.put]
  refine wpAnyH_ready (rs := [13]) (by kernel_rfl) (by simp) ?_
  refine AllReadyH.cons rfl (fun K hK => ?_) AllReadyH.nil
  go_simp
  refine (HCD.out _).mono ?_
  rintro e wf ⟨rfl, hb⟩
  have hbwf := btrans hbwe hb
  refine hK.out _ _ (HSX.out _ hbwf) (fun hHeld => ?_)
  clear hK K hb
  try simp only [Act.put]
  refine wpAnyH_take (i := 14) (v := ?_) rfl (by kernel_rfl) (by kernel_rfl) (by kernel_rfl) (fun _ _ _ h => h) (Or.inl ⟨by kernel_rfl, ?_⟩) (by assumption) ?_
  rotate_left
  · (intro w hSw; (try dsimp only at hSw); go_simp; (try rw [if_neg (by (try simp only [ByteArray.size_append]); omega)]); (try with_reducible rfl))
  try simp only [Act.put]
  refine wpAnyH_take (i := 15) (v := ?_) rfl (by kernel_rfl) (by kernel_rfl) (by kernel_rfl) (fun _ _ _ h => h) (Or.inl ⟨by kernel_rfl, ?_⟩) (by assumption) ?_
  rotate_left
  · (intro w hSw; (try dsimp only at hSw); go_simp; (try rw [if_neg (by (try simp only [ByteArray.size_append]); omega)]); (try with_reducible rfl))
  try simp only [Act.put]
  refine wpAnyH_take (i := 16) (v := ?_) rfl (by kernel_rfl) (by kernel_rfl) (by kernel_rfl) (fun _ _ _ h => h) (Or.inl ⟨by kernel_rfl, ?_⟩) (by assumption) ?_
  rotate_left
  · (intro w hSw; (try dsimp only at hSw); go_simp; (try rw [if_neg (by (try simp only [ByteArray.size_append]); omega)]); (try with_reducible rfl))
  try simp only [Act.put]
  refine wpAnyH_take (i := 17) (v := ?_) rfl (by kernel_rfl) (by kernel_rfl) (by kernel_rfl) (fun _ _ _ h => h) (Or.inl ⟨by kernel_rfl, ?_⟩) (by assumption) ?_
  rotate_left
  · (intro wS hSw; refine (exec_load_row 24 _ rfl _ (by kernel_rfl) _ _ _ _ (hSw) Tryd.underlying24 rfl (by kernel_rfl)).trans ?_; with_reducible rfl)
  try simp only [Act.put]
  refine wpAnyH_take (i := 19) (v := ?_) rfl (by kernel_rfl) (by kernel_rfl) (by kernel_rfl) (fun _ _ _ h => h) (Or.inl ⟨by kernel_rfl, ?_⟩) (by assumption) ?_
  rotate_left
  · (intro wS hSw; refine (exec_load_row 24 _ rfl _ (by kernel_rfl) _ _ _ _ (hSw) Tryd.underlying24 rfl (by kernel_rfl)).trans ?_; with_reducible rfl)
  try simp only [Act.put]
  refine wpAnyH_ready (rs := [18]) (by kernel_rfl) (by simp) ?_
  refine AllReadyH.cons rfl (fun K hK => ?_) AllReadyH.nil
  go_simp
  refine (HSP.out _).mono ?_
  rintro e wg ⟨rfl, hb⟩
  have hbwg := btrans hbwf hb
  refine hK.out _ _ (HSX.out _ hbwg) (fun hHeld => ?_)
  clear hK K hb
  try simp only [Act.put]
  refine wpAnyH_ready (rs := [20]) (by kernel_rfl) (by simp) ?_
  refine AllReadyH.cons rfl (fun K hK => ?_) AllReadyH.nil
  go_simp
  refine (HSD.out _).mono ?_
  rintro e wh ⟨rfl, hb⟩
  have hbwh := btrans hbwg hb
  refine hK.out _ _ (HSX.out _ hbwh) (fun hHeld => ?_)
  clear hK K hb
  try simp only [Act.put]
  refine wpAnyH_take (i := 21) (v := ?_) rfl (by kernel_rfl) (by kernel_rfl) (by kernel_rfl) (fun _ _ _ h => h) (Or.inl ⟨by kernel_rfl, ?_⟩) (by assumption) ?_
  rotate_left
  · (intro w hSw; (try dsimp only at hSw); go_simp; (try rw [if_neg (by (try simp only [ByteArray.size_append]); omega)]); (try with_reducible rfl))
  try simp only [Act.put]
  refine wpAnyH_take (i := 22) (v := ?_) rfl (by kernel_rfl) (by kernel_rfl) (by kernel_rfl) (fun _ _ _ h => h) (Or.inl ⟨by kernel_rfl, ?_⟩) (by assumption) ?_
  rotate_left
  · (intro w hSw; (try dsimp only at hSw); go_simp; (try rw [if_neg (by (try simp only [ByteArray.size_append]); omega)]); (try with_reducible rfl))
  try simp only [Act.put]
  refine wpAnyH_take (i := 23) (v := ?_) rfl (by kernel_rfl) (by kernel_rfl) (by kernel_rfl) (fun _ _ _ h => h) (Or.inl ⟨by kernel_rfl, ?_⟩) (by assumption) ?_
  rotate_left
  · (intro w hSw; (try dsimp only at hSw); go_simp; (try rw [if_neg (by (try simp only [ByteArray.size_append]); omega)]); (try with_reducible rfl))
  try simp only [Act.put]
  refine wpAnyH_take (i := 24) (v := ?_) rfl (by kernel_rfl) (by kernel_rfl) (by kernel_rfl) (fun _ _ _ h => h) (Or.inl ⟨by kernel_rfl, ?_⟩) (by assumption) ?_
  rotate_left
  · (intro wS hSw; refine (exec_load_row 24 _ rfl _ (by kernel_rfl) _ _ _ _ (hSw) Tryd.underlying24 rfl (by kernel_rfl)).trans ?_; with_reducible rfl)
  try simp only [Act.put]
  refine wpAnyH_take (i := 26) (v := ?_) rfl (by kernel_rfl) (by kernel_rfl) (by kernel_rfl) (fun _ _ _ h => h) (Or.inl ⟨by kernel_rfl, ?_⟩) (by assumption) ?_
  rotate_left
  · (intro wS hSw; refine (exec_load_row 24 _ rfl _ (by kernel_rfl) _ _ _ _ (hSw) Tryd.underlying24 rfl (by kernel_rfl)).trans ?_; with_reducible rfl)
  try simp only [Act.put]
  refine wpAnyH_ready (rs := [25]) (by kernel_rfl) (by simp) ?_
  refine AllReadyH.cons rfl (fun K hK => ?_) AllReadyH.nil
  go_simp
  refine (HKY.out _ (HM.out _ (btrans HB7.out hbwh))).mono ?_
  rintro e wi ⟨rfl, hb⟩
  have hbwi := btrans hbwh hb
  refine hK.out _ _ (HSX.out _ hbwi) (fun hHeld => ?_)
  clear hK K hb
  try simp only [Act.put]
  refine wpAnyH_ready (rs := [27]) (by kernel_rfl) (by simp) ?_
  refine AllReadyH.cons rfl (fun K hK => ?_) AllReadyH.nil
  go_simp
  refine (HKE.out _).mono ?_
  rintro e wj ⟨rfl, hb⟩
  have hbwj := btrans hbwi hb
  refine hK.out _ _ (HSX.out _ hbwj) (fun hHeld => ?_)
  clear hK K hb
  try simp only [Act.put]
  refine wpAnyH_take (i := 28) (v := ?_) rfl (by kernel_rfl) (by kernel_rfl) (by kernel_rfl) (fun _ _ _ h => h) (Or.inl ⟨by kernel_rfl, ?_⟩) (by assumption) ?_
  rotate_left
  · (intro w hSw; (try dsimp only at hSw); go_simp; (try rw [if_neg (by (try simp only [ByteArray.size_append]); omega)]); (try with_reducible rfl))
  try simp only [Act.put]
  refine wpAnyH_take (i := 29) (v := ?_) rfl (by kernel_rfl) (by kernel_rfl) (by kernel_rfl) (fun _ _ _ h => h) (Or.inl ⟨by kernel_rfl, ?_⟩) (by assumption) ?_
  rotate_left
  · (intro w hSw; (try dsimp only at hSw); go_simp; (try rw [if_neg (by (try simp only [ByteArray.size_append]); omega)]); (try with_reducible rfl))
  try simp only [Act.put]
  refine wpAnyH_done (by kernel_rfl) ?_ _
  try simp only [Act.put]
  clear hHeld hbwc hbwd hbwe hbwf hbwg hbwh hbwi HTR HTD HCO HCD HSP HSD HKY HKE
  go_simp
  go_wp2_with fail
  refine wp_region_held_drew (S := fun w' => w'.heap[B5]? = some (.cells #[.int .i64 q, .string t, .int .i64 tr, .bool b1, .bool b2, .int .i64 d, .int .i64 u, .int .i64 v, .int .i64 z] 24 (0, 0))) (by kernel_rfl) (HSX.out _ hbwj.drew) (fun hHeld => ?_)
  refine wpAnyH_take (i := 0) (v := ?_) rfl (by kernel_rfl) (by kernel_rfl) (by kernel_rfl) (fun _ _ _ h => h) (Or.inl ⟨by kernel_rfl, ?_⟩) (by assumption) ?_
  rotate_left
  · (intro wS hSw; refine (exec_load_row 24 _ rfl _ (by kernel_rfl) _ _ _ _ (hSw) Tryd.underlying24 rfl (by kernel_rfl)).trans ?_; with_reducible rfl)
  try simp only [Act.put]
  refine wpAnyH_take (i := 1) (v := ?_) rfl (by kernel_rfl) (by kernel_rfl) (by kernel_rfl) (fun _ _ _ h => h) (Or.inl ⟨by kernel_rfl, ?_⟩) (by assumption) ?_
  rotate_left
  · (intro w hSw; (try dsimp only at hSw); go_simp; (try rw [if_neg (by (try simp only [ByteArray.size_append]); omega)]); (try with_reducible rfl))
  try simp only [Act.put]
  refine wpAnyH_take (i := 2) (v := ?_) rfl (by kernel_rfl) (by kernel_rfl) (by kernel_rfl) (fun _ _ _ h => h) (Or.inl ⟨by kernel_rfl, ?_⟩) (by assumption) ?_
  rotate_left
  · (intro w hSw; (try dsimp only at hSw); go_simp; (try rw [if_neg (by (try simp only [ByteArray.size_append]); omega)]); (try with_reducible rfl))
  try simp only [Act.put]
  refine wpAnyH_take (i := 3) (v := ?_) rfl (by kernel_rfl) (by kernel_rfl) (by kernel_rfl) (fun _ _ _ h => h) (Or.inl ⟨by kernel_rfl, ?_⟩) (by assumption) ?_
  rotate_left
  · (intro w hSw; (try dsimp only at hSw); go_simp; (try rw [if_neg (by (try simp only [ByteArray.size_append]); omega)]); (try with_reducible rfl))
  try simp only [Act.put]
  refine wpAnyH_take (i := 4) (v := ?_) rfl (by kernel_rfl) (by kernel_rfl) (by kernel_rfl) (fun _ _ _ h => h) (Or.inl ⟨by kernel_rfl, ?_⟩) (by assumption) ?_
  rotate_left
  · (intro w hSw; (try dsimp only at hSw); go_simp; (try rw [if_neg (by (try simp only [ByteArray.size_append]); omega)]); (try with_reducible rfl))
  try simp only [Act.put]
  refine wpAnyH_take (i := 6) (v := ?_) rfl (by kernel_rfl) (by kernel_rfl) (by kernel_rfl) (fun _ _ _ h => h) (Or.inl ⟨by kernel_rfl, ?_⟩) (by assumption) ?_
  rotate_left
  · (intro wS hSw; refine (exec_load_row 24 _ rfl _ (by kernel_rfl) _ _ _ _ (hSw) Tryd.underlying24 rfl (by kernel_rfl)).trans ?_; with_reducible rfl)
  try simp only [Act.put]
  refine wpAnyH_take (i := 7) (v := ?_) rfl (by kernel_rfl) (by kernel_rfl) (by kernel_rfl) (fun _ _ _ h => h) (Or.inl ⟨by kernel_rfl, ?_⟩) (by assumption) ?_
  rotate_left
  · (intro w hSw; (try dsimp only at hSw); go_simp; (try rw [if_neg (by (try simp only [ByteArray.size_append]); omega)]); (try with_reducible rfl))
  try simp only [Act.put]
  refine wpAnyH_take (i := 8) (v := ?_) rfl (by kernel_rfl) (by kernel_rfl) (by kernel_rfl) (fun _ _ _ h => h) (Or.inl ⟨by kernel_rfl, ?_⟩) (by assumption) ?_
  rotate_left
  · (intro w hSw; (try dsimp only at hSw); go_simp; (try rw [if_neg (by (try simp only [ByteArray.size_append]); omega)]); (try with_reducible rfl))
  try simp only [Act.put]
  refine wpAnyH_take (i := 9) (v := ?_) rfl (by kernel_rfl) (by kernel_rfl) (by kernel_rfl) (fun _ _ _ h => h) (Or.inl ⟨by kernel_rfl, ?_⟩) (by assumption) ?_
  rotate_left
  · (intro w hSw; (try dsimp only at hSw); go_simp; (try rw [if_neg (by (try simp only [ByteArray.size_append]); omega)]); (try with_reducible rfl))
  try simp only [Act.put]
  refine wpAnyH_take (i := 10) (v := ?_) rfl (by kernel_rfl) (by kernel_rfl) (by kernel_rfl) (fun _ _ _ h => h) (Or.inl ⟨by kernel_rfl, ?_⟩) (by assumption) ?_
  rotate_left
  · (intro w hSw; (try dsimp only at hSw); go_simp; (try rw [if_neg (by (try simp only [ByteArray.size_append]); omega)]); (try with_reducible rfl))
  try simp only [Act.put]
  refine wpAnyH_ready (rs := [5]) (by kernel_rfl) (by simp) ?_
  refine AllReadyH.cons rfl (fun K hK => ?_) AllReadyH.nil
  go_simp
  refine (HK1.out _ (HP.out _ (btrans HB7.out hbwj.drew))).mono ?_
  rintro e wk ⟨rfl, hb⟩
  replace hb := bdrew hb
  have hbwk := btrans hbwj hb
  refine hK.out _ _ (HSX.out _ hbwk) (fun hHeld => ?_)
  clear hK K hb
  try simp only [Act.put]
  refine wpAnyH_ready (rs := [11]) (by kernel_rfl) (by simp) ?_
  refine AllReadyH.cons rfl (fun K hK => ?_) AllReadyH.nil
  go_simp
  refine (HD1.out _).mono ?_
  rintro e wl ⟨rfl, hb⟩
  have hbwl := btrans hbwk hb
  refine hK.out _ _ (HSX.out _ hbwl) (fun hHeld => ?_)
  clear hK K hb
  try simp only [Act.put]
  refine wpAnyH_take (i := 12) (v := ?_) rfl (by kernel_rfl) (by kernel_rfl) (by kernel_rfl) (fun _ _ _ h => h) (Or.inl ⟨by kernel_rfl, ?_⟩) (by assumption) ?_
  rotate_left
  · (intro w hSw; (try dsimp only at hSw); go_simp; (try rw [if_neg (by (try simp only [ByteArray.size_append]); omega)]); (try with_reducible rfl))
  try simp only [Act.put]
  refine wpAnyH_take (i := 13) (v := ?_) rfl (by kernel_rfl) (by kernel_rfl) (by kernel_rfl) (fun _ _ _ h => h) (Or.inl ⟨by kernel_rfl, ?_⟩) (by assumption) ?_
  rotate_left
  · (intro w hSw; (try dsimp only at hSw); go_simp; (try rw [if_neg (by (try simp only [ByteArray.size_append]); omega)]); (try with_reducible rfl))
  try simp only [Act.put]
  refine wpAnyH_take (i := 14) (v := ?_) rfl (by kernel_rfl) (by kernel_rfl) (by kernel_rfl) (fun _ _ _ h => h) (Or.inl ⟨by kernel_rfl, ?_⟩) (by assumption) ?_
  rotate_left
  · (intro wS hSw; refine (exec_load_row 24 _ rfl _ (by kernel_rfl) _ _ _ _ (hSw) Tryd.underlying24 rfl (by kernel_rfl)).trans ?_; with_reducible rfl)
  try simp only [Act.put]
  refine wpAnyH_take (i := 15) (v := ?_) rfl (by kernel_rfl) (by kernel_rfl) (by kernel_rfl) (fun _ _ _ h => h) (Or.inl ⟨by kernel_rfl, ?_⟩) (by assumption) ?_
  rotate_left
  · (intro w hSw; (try dsimp only at hSw); go_simp; (try rw [if_neg (by (try simp only [ByteArray.size_append]); omega)]); (try with_reducible rfl))
  try simp only [Act.put]
  refine wpAnyH_take (i := 16) (v := ?_) rfl (by kernel_rfl) (by kernel_rfl) (by kernel_rfl) (fun _ _ _ h => h) (Or.inl ⟨by kernel_rfl, ?_⟩) (by assumption) ?_
  rotate_left
  · (intro w hSw; (try dsimp only at hSw); go_simp; (try rw [if_neg (by (try simp only [ByteArray.size_append]); omega)]); (try with_reducible rfl))
  try simp only [Act.put]
  refine wpAnyH_take (i := 17) (v := ?_) rfl (by kernel_rfl) (by kernel_rfl) (by kernel_rfl) (fun _ _ _ h => h) (Or.inl ⟨by kernel_rfl, ?_⟩) (by assumption) ?_
  rotate_left
  · (intro w hSw; (try dsimp only at hSw); go_simp; (try rw [if_neg (by (try simp only [ByteArray.size_append]); omega)]); (try with_reducible rfl))
  try simp only [Act.put]
  refine wpAnyH_take (i := 19) (v := ?_) rfl (by kernel_rfl) (by kernel_rfl) (by kernel_rfl) (fun _ _ _ h => h) (Or.inl ⟨by kernel_rfl, ?_⟩) (by assumption) ?_
  rotate_left
  · (intro wS hSw; refine (exec_load_row 24 _ rfl _ (by kernel_rfl) _ _ _ _ (hSw) Tryd.underlying24 rfl (by kernel_rfl)).trans ?_; with_reducible rfl)
  try simp only [Act.put]
  refine wpAnyH_take (i := 20) (v := ?_) rfl (by kernel_rfl) (by kernel_rfl) (by kernel_rfl) (fun _ _ _ h => h) (Or.inl ⟨by kernel_rfl, ?_⟩) (by assumption) ?_
  rotate_left
  · (intro w hSw; (try dsimp only at hSw); go_simp; (try rw [if_neg (by (try simp only [ByteArray.size_append]); omega)]); (try with_reducible rfl))
  try simp only [Act.put]
  refine wpAnyH_take (i := 21) (v := ?_) rfl (by kernel_rfl) (by kernel_rfl) (by kernel_rfl) (fun _ _ _ h => h) (Or.inl ⟨by kernel_rfl, ?_⟩) (by assumption) ?_
  rotate_left
  · (intro w hSw; (try dsimp only at hSw); go_simp; (try rw [if_neg (by (try simp only [ByteArray.size_append]); omega)]); (try with_reducible rfl))
  try simp only [Act.put]
  refine wpAnyH_take (i := 22) (v := ?_) rfl (by kernel_rfl) (by kernel_rfl) (by kernel_rfl) (fun _ _ _ h => h) (Or.inl ⟨by kernel_rfl, ?_⟩) (by assumption) ?_
  rotate_left
  · (intro w hSw; (try dsimp only at hSw); go_simp; (try rw [if_neg (by (try simp only [ByteArray.size_append]); omega)]); (try with_reducible rfl))
  try simp only [Act.put]
  refine wpAnyH_ready (rs := [18]) (by kernel_rfl) (by simp) ?_
  refine AllReadyH.cons rfl (fun K hK => ?_) AllReadyH.nil
  go_simp
  refine (HK2.out _ (HP.out _ (btrans HB7.out hbwl))).mono ?_
  rintro e wm ⟨rfl, hb⟩
  have hbwm := btrans hbwl hb
  refine hK.out _ _ (HSX.out _ hbwm) (fun hHeld => ?_)
  clear hK K hb
  try simp only [Act.put]
  refine wpAnyH_ready (rs := [23]) (by kernel_rfl) (by simp) ?_
  refine AllReadyH.cons rfl (fun K hK => ?_) AllReadyH.nil
  go_simp
  refine (HD2.out _).mono ?_
  rintro e wn ⟨rfl, hb⟩
  have hbwn := btrans hbwm hb
  refine hK.out _ _ (HSX.out _ hbwn) (fun hHeld => ?_)
  clear hK K hb
  try simp only [Act.put]
  refine wpAnyH_take (i := 24) (v := ?_) rfl (by kernel_rfl) (by kernel_rfl) (by kernel_rfl) (fun _ _ _ h => h) (Or.inl ⟨by kernel_rfl, ?_⟩) (by assumption) ?_
  rotate_left
  · (intro w hSw; (try dsimp only at hSw); go_simp; (try rw [if_neg (by (try simp only [ByteArray.size_append]); omega)]); (try with_reducible rfl))
  try simp only [Act.put]
  refine wpAnyH_take (i := 25) (v := ?_) rfl (by kernel_rfl) (by kernel_rfl) (by kernel_rfl) (fun _ _ _ h => h) (Or.inl ⟨by kernel_rfl, ?_⟩) (by assumption) ?_
  rotate_left
  · (intro w hSw; (try dsimp only at hSw); go_simp; (try rw [if_neg (by (try simp only [ByteArray.size_append]); omega)]); (try with_reducible rfl))
  try simp only [Act.put]
  refine wpAnyH_take (i := 26) (v := ?_) rfl (by kernel_rfl) (by kernel_rfl) (by kernel_rfl) (fun _ _ _ h => h) (Or.inl ⟨by kernel_rfl, ?_⟩) (by assumption) ?_
  rotate_left
  · (intro w hSw; (try dsimp only at hSw); go_simp; (try rw [if_neg (by (try simp only [ByteArray.size_append]); omega)]); (try with_reducible rfl))
  try simp only [Act.put]
  refine wpAnyH_ready (rs := [27]) (by kernel_rfl) (by simp) ?_
  refine AllReadyH.cons rfl (fun K hK => ?_) AllReadyH.nil
  go_simp
  refine (HLV.out _ (btrans HB7.out hbwn)).mono ?_
  rintro e wo ⟨rfl, hb⟩
  have hbwo := btrans hbwn hb
  refine hK.out _ _ (HSX.out _ hbwo) (fun hHeld => ?_)
  clear hK K hb
  try simp only [Act.put]
  refine wpAnyH_take (i := 28) (v := ?_) rfl (by kernel_rfl) (by kernel_rfl) (by kernel_rfl) (fun _ _ _ h => h) (Or.inl ⟨by kernel_rfl, ?_⟩) (by assumption) ?_
  rotate_left
  · (intro w hSw; (try dsimp only at hSw); go_simp; (try rw [if_neg (by (try simp only [ByteArray.size_append]); omega)]); (try with_reducible rfl))
  try simp only [Act.put]
  refine wpAnyH_take (i := 29) (v := ?_) rfl (by kernel_rfl) (by kernel_rfl) (by kernel_rfl) (fun _ _ _ h => h) (Or.inl ⟨by kernel_rfl, ?_⟩) (by assumption) ?_
  rotate_left
  · (intro w hSw; (try dsimp only at hSw); go_simp; (try rw [if_neg (by (try simp only [ByteArray.size_append]); omega)]); (try with_reducible rfl))
  try simp only [Act.put]
  refine wpAnyH_done (by kernel_rfl) ?_ _
  try simp only [Act.put]
  clear hHeld HSX
  go_simp
  have HF := Lib.hid (btrans HB7.out hbwo)
  clear hbwj hbwk hbwl hbwm hbwn hbwo
  go_wp2_with fail
  go_ret
  exact ⟨rfl, HF.out⟩

end Go.Proofs.YtjollcacgnfabaaDoor
