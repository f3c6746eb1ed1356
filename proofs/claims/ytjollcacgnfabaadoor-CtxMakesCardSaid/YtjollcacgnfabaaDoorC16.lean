/- CtxKeys. -/
import Derived.Test.YtjollcacgnfabaaDoorC15
namespace Go.Proofs.YtjollcacgnfabaaDoor
open Go.RowKit
attribute [local go_sem ↓] Go.wp_at_zero Go.wp_at_succ

theorem key_more : ∀ (l m : List UInt8) (k : Bool), ∃ k', keyFrom k (l ++ m) = keyFrom k l ++ keyFrom k' m
  | [], m, k => ⟨k, rfl⟩
  | x :: t, m, k => by
    rw [List.cons_append, keyFrom, keyFrom]
    by_cases h : x = 58 ∨ (k = true ∧ isDig x = true)
    · obtain ⟨k', e⟩ := key_more t m true
      exact ⟨k', by rw [if_pos h, if_pos h, e]⟩
    · obtain ⟨k', e⟩ := key_more t m false
      exact ⟨k', by rw [if_neg h, if_neg h, e]; rfl⟩
theorem isDig_digit {i : Nat} (hi : i ≤ 9) : isDig (UInt8.ofNat (48 + i)) = true := by
  rw [isDig_iff, UInt8.toNat_ofNat']
  omega
theorem digit_ne58 {i : Nat} (hi : i ≤ 9) : UInt8.ofNat (48 + i) ≠ 58 := by
  intro e
  have := congrArg UInt8.toNat e
  rw [UInt8.toNat_ofNat'] at this
  have h2 : (58 : UInt8).toNat = 58 := rfl
  omega
theorem keyFrom_kid (k : Bool) {m i : Nat} (hm : m ≤ 9) (hi : i ≤ 9) : keyFrom k [58, UInt8.ofNat (48 + m), 47, UInt8.ofNat (48 + i)] = [47, UInt8.ofNat (48 + i)] := by
  rw [keyFrom, if_pos (Or.inl rfl), keyFrom, if_pos (Or.inr ⟨rfl, isDig_digit hm⟩), keyFrom, if_neg (by intro h; rcases h with h | h; exact absurd h (by decide); exact absurd h.2 (by decide)), keyFrom, if_neg (by intro h; rcases h with h | h; exact digit_ne58 hi h; exact absurd h.1 (by decide)), keyFrom]
theorem key_kid (s : ByteArray) {m i : Nat} (hm : m ≤ 9) (hi : i ≤ 9) : (keyOf (s ++ ⟨#[58]⟩ ++ digit m ++ ⟨#[47]⟩ ++ digit i)).data.toList = (keyOf s).data.toList ++ [47, UInt8.ofNat (48 + i)] := by
  unfold keyOf
  show keyFrom false (s ++ ⟨#[58]⟩ ++ digit m ++ ⟨#[47]⟩ ++ digit i).data.toList = keyFrom false s.data.toList ++ _
  have e : (s ++ ⟨#[58]⟩ ++ digit m ++ ⟨#[47]⟩ ++ digit i).data.toList = s.data.toList ++ [58, UInt8.ofNat (48 + m), 47, UInt8.ofNat (48 + i)] := by
    simp only [data_append, digit_data, List.append_assoc]
    rfl
  obtain ⟨k', h⟩ := key_more s.data.toList [58, UInt8.ofNat (48 + m), 47, UInt8.ofNat (48 + i)] false
  rw [e, h, keyFrom_kid k' hm hi]
theorem key_copy (s : ByteArray) : (keyOf (s ++ ⟨#[126]⟩)).data.toList = (keyOf s).data.toList ++ [126] := by
  unfold keyOf
  show keyFrom false (s ++ ⟨#[126]⟩).data.toList = keyFrom false s.data.toList ++ _
  obtain ⟨k', h⟩ := key_more s.data.toList [126] false
  rw [data_append]
  show keyFrom false (s.data.toList ++ [126]) = _
  rw [h, keyFrom, if_neg (by intro h; rcases h with h | h; exact absurd h (by decide); exact absurd h.2 (by decide)), keyFrom]

set_option maxRecDepth 8000 in
set_option maxHeartbeats 4000000 in
theorem keys_walk {w : World} {A : Option Addr} {k0 : Nat} {l : List Int} (h : ArgInts w A k0 l) (cap : Nat) (n a b i j : Int) (hn : -9223372036854775808 ≤ n ∧ n ≤ 9223372036854775807) (ha : -9223372036854775808 ≤ a ∧ a ≤ 9223372036854775807) (hbb : -9223372036854775808 ≤ b ∧ b ≤ 9223372036854775807) (hi : -9223372036854775808 ≤ i ∧ i ≤ 9223372036854775807) (hj : -9223372036854775808 ≤ j ∧ j ≤ 9223372036854775807) (hL : MaxLenAt w) :
    Calls Tryd.prog 6 #[.slice A k0 cap, .int .i64 n, .int .i64 a, .int .i64 b, .int .i64 i, .int .i64 j] w fun e w' => e = .returned (.bool true) ∧ Below w.heap.size w w' := by
  have HAT := Lib.hid (attempt_any h cap n hn)
  have HIN := Lib.hid (attOf_in l n)
  obtain ⟨c, hc⟩ : ∃ c, c = attOf l n := ⟨_, rfl⟩
  rw [← hc] at HAT HIN
  obtain ⟨q, s, tr, b1, b2, d, u, v, z⟩ := c
  dsimp only [cxV, cxCells] at HAT HIN
  clear hc
  have HA8 := Lib.hid (fun w => around_any a 8 w ha.1 ha.2 (by decide) (by decide))
  obtain ⟨x0, x1⟩ := around_bd a (show (1 : Int) ≤ 8 by decide)
  obtain ⟨x, hx⟩ : ∃ x, x = around a 8 := ⟨_, rfl⟩
  rw [← hx] at HA8 x0 x1
  have HB8 := Lib.hid (fun w => around_any b 8 w hbb.1 hbb.2 (by decide) (by decide))
  obtain ⟨y0, y1⟩ := around_bd b (show (1 : Int) ≤ 8 by decide)
  obtain ⟨y, hy⟩ : ∃ y, y = around b 8 := ⟨_, rfl⟩
  rw [← hy] at HB8 y0 y1
  have HI4 := Lib.hid (fun w => around_any i 4 w hi.1 hi.2 (by decide) (by decide))
  obtain ⟨p, hp, hpb⟩ : ∃ p : Nat, (p : Int) = around i 4 ∧ p < 4 := by
    obtain ⟨x0, x1⟩ := around_bd i (show (1 : Int) ≤ 4 by decide)
    exact ⟨(around i 4).toNat, by omega, by omega⟩
  rw [← hp] at HI4
  have HJ4 := Lib.hid (fun w => around_any j 4 w hj.1 hj.2 (by decide) (by decide))
  obtain ⟨r, hr, hrb⟩ : ∃ r : Nat, (r : Int) = around j 4 ∧ r < 4 := by
    obtain ⟨x0, x1⟩ := around_bd j (show (1 : Int) ≤ 4 by decide)
    exact ⟨(around j 4).toNat, by omega, by omega⟩
  rw [← hr] at HJ4
  have hssz : s.size ≤ 29 := HIN.out.1
  have HM : Hid (∀ w', Below w.heap.size w w' → MaxLenAt w') := fun w' hb => hL.below hL.lt hb
  have HT0 : Hid (∀ w, Calls Tryd.prog 24 #[cxV ⟨q, s, tr, b1, b2, d, u, v, z⟩, .int .i64 0, .int .i64 u] w fun e w' => e = .returned (cxV ⟨q, s, 0, b1, b2, d, u, v, z⟩) ∧ Below w.heap.size w w') := fun w => try_any ⟨q, s, tr, b1, b2, d, u, v, z⟩ 0 u w
  have HTX : Hid (∀ y w, Calls Tryd.prog 24 #[cxV ⟨q, s, 0, b1, b2, d, u, v, z⟩, .int .i64 y, .int .i64 0] w fun e w' => e = .returned (cxV ⟨q, s, y, b1, b2, d, 0, v, z⟩) ∧ Below w.heap.size w w') := fun y w => try_any ⟨q, s, 0, b1, b2, d, u, v, z⟩ y 0 w
  obtain ⟨d1, hd1⟩ : ∃ d1, d1 = d - 1 := ⟨_, rfl⟩
  have hspan : ∀ m : Int, 0 ≤ m → (⟨q, s, 1 + m, b1, b2, d, 0, v, z⟩ : Cx).span = s ++ ⟨#[58]⟩ ++ digit (1 + m).toNat := fun m hm => if_pos (show 0 < 1 + m by omega)
  have hkid : ∀ (m : Int) (i4 : Nat), 0 ≤ m → m < 8 → i4 < 4 → ∀ w, Calls Tryd.prog 23 #[cxV ⟨q, s, 1 + m, b1, b2, d, 0, v, z⟩, .int .i64 i4, .int .i64 4, .int .i64 1] w fun e w' => e = .returned (cxV ⟨q, s ++ ⟨#[58]⟩ ++ digit (1 + m).toNat ++ ⟨#[47]⟩ ++ digit i4, 0, b1, b2, d1, shareAt 0 4 i4, v, z⟩) ∧ Below w.heap.size w w' := fun m i4 hm0 hm1 h4 w => by
    have h := kid_any ⟨q, s, 1 + m, b1, b2, d, 0, v, z⟩ i4 4 1 (by dsimp only; omega) (by dsimp only; omega) (by omega) (by omega) (by dsimp only; omega) (by have := HIN.out; dsimp only; omega) (by omega) w
    have e : (⟨q, s, 1 + m, b1, b2, d, 0, v, z⟩ : Cx).kid i4 4 1 = ⟨q, s ++ ⟨#[58]⟩ ++ digit (1 + m).toNat ++ ⟨#[47]⟩ ++ digit i4, 0, b1, b2, d1, shareAt 0 4 i4, v, z⟩ := by
      rw [hd1, ← hspan m hm0]; exact rfl
    rw [e] at h
    exact h
  have hksz : ∀ m i4 : Nat, (s ++ ⟨#[58]⟩ ++ digit m ++ ⟨#[47]⟩ ++ digit i4).size ≤ 33 := fun m i4 => by
    rw [ByteArray.size_append, ByteArray.size_append, ByteArray.size_append, ByteArray.size_append]
    show s.size + 1 + 1 + 1 + 1 ≤ 33
    omega
  obtain ⟨us, hus⟩ : ∃ us, us = s ++ ⟨#[58]⟩ ++ digit (1 + x).toNat ++ ⟨#[47]⟩ ++ digit p := ⟨_, rfl⟩
  obtain ⟨vs, hvs⟩ : ∃ vs, vs = s ++ ⟨#[58]⟩ ++ digit (1 + y).toNat ++ ⟨#[47]⟩ ++ digit p := ⟨_, rfl⟩
  obtain ⟨ws, hws⟩ : ∃ ws, ws = s ++ ⟨#[58]⟩ ++ digit (1 + x).toNat ++ ⟨#[47]⟩ ++ digit r := ⟨_, rfl⟩
  obtain ⟨pu, hpu⟩ : ∃ pu, pu = shareAt 0 4 p := ⟨_, rfl⟩
  obtain ⟨pw, hpw⟩ : ∃ pw, pw = shareAt 0 4 r := ⟨_, rfl⟩
  have HKU := Lib.hid (hkid x p x0 x1 hpb)
  have HKV := Lib.hid (hkid y p y0 y1 hpb)
  have HKW := Lib.hid (hkid x r x0 x1 hrb)
  rw [← hus, ← hpu] at HKU
  rw [← hvs, ← hpu] at HKV
  rw [← hws, ← hpw] at HKW
  obtain ⟨kk, hkk⟩ : ∃ kk, kk = keyOf s := ⟨_, rfl⟩
  have HKEY : Hid (∀ (r pu : Int) w, MaxLenAt w → Calls Tryd.prog 26 #[cxV ⟨q, s, r, b1, b2, d, pu, v, z⟩] w fun e w' => e = .returned (.string kk) ∧ Below w.heap.size w w') := fun r pu w hm => by
    have h := key_any ⟨q, s, r, b1, b2, d, pu, v, z⟩ (by dsimp only; omega) w hm
    rw [hkk]; exact h
  obtain ⟨ku, hku⟩ : ∃ ku, ku = keyOf us := ⟨_, rfl⟩
  have hkudata : ku.data.toList = kk.data.toList ++ [47, UInt8.ofNat (48 + p)] := by rw [hku, hkk, hus]; exact key_kid s (by omega) (by omega)
  have hkv : keyOf vs = ku := bytes_ext (by rw [hkudata, hkk, hvs]; exact key_kid s (by omega) (by omega))
  obtain ⟨kw, hkw⟩ : ∃ kw, kw = keyOf ws := ⟨_, rfl⟩
  have hkwdata : kw.data.toList = kk.data.toList ++ [47, UInt8.ofNat (48 + r)] := by rw [hkw, hkk, hws]; exact key_kid s (by omega) (by omega)
  have HK2 : Hid (∀ w, MaxLenAt w → Calls Tryd.prog 26 #[cxV ⟨q, us, 0, b1, b2, d1, pu, v, z⟩] w fun e w' => e = .returned (.string ku) ∧ Below w.heap.size w w') := fun w hm => by
    have h := key_any ⟨q, us, 0, b1, b2, d1, pu, v, z⟩ (by have := hksz (1 + x).toNat p; dsimp only; rw [hus]; omega) w hm
    rw [hku]; exact h
  have HK3 : Hid (∀ w, MaxLenAt w → Calls Tryd.prog 26 #[cxV ⟨q, vs, 0, b1, b2, d1, pu, v, z⟩] w fun e w' => e = .returned (.string ku) ∧ Below w.heap.size w w') := fun w hm => by
    have h := key_any ⟨q, vs, 0, b1, b2, d1, pu, v, z⟩ (by have := hksz (1 + y).toNat p; dsimp only; rw [hvs]; omega) w hm
    rw [← hkv]; exact h
  have HK4 : Hid (∀ w, MaxLenAt w → Calls Tryd.prog 26 #[cxV ⟨q, ws, 0, b1, b2, d1, pw, v, z⟩] w fun e w' => e = .returned (.string kw) ∧ Below w.heap.size w w') := fun w hm => by
    have h := key_any ⟨q, ws, 0, b1, b2, d1, pw, v, z⟩ (by have := hksz (1 + x).toNat r; dsimp only; rw [hws]; omega) w hm
    rw [hkw]; exact h
  obtain ⟨cs, hcs⟩ : ∃ cs, cs = s ++ ⟨#[126]⟩ := ⟨_, rfl⟩
  have HCO : Hid (∀ w, Calls Tryd.prog 25 #[cxV ⟨q, s, 0, b1, b2, d, u, v, z⟩] w fun e w' => e = .returned (cxV ⟨q, cs, 0, b1, true, d, 0, v, z⟩) ∧ Below w.heap.size w w') := fun w => by
    have h := copy_any ⟨q, s, 0, b1, b2, d, u, v, z⟩ (by dsimp only; omega) w
    rw [show (⟨q, s, 0, b1, b2, d, u, v, z⟩ : Cx).copy = ⟨q, cs, 0, b1, true, d, 0, v, z⟩ by rw [hcs]; exact rfl] at h
    exact h
  obtain ⟨kc, hkc⟩ : ∃ kc, kc = keyOf cs := ⟨_, rfl⟩
  have HK5 : Hid (∀ w, MaxLenAt w → Calls Tryd.prog 26 #[cxV ⟨q, cs, 0, b1, true, d, 0, v, z⟩] w fun e w' => e = .returned (.string kc) ∧ Below w.heap.size w w') := fun w hm => by
    have h := key_any ⟨q, cs, 0, b1, true, d, 0, v, z⟩ (by dsimp only; rw [hcs, ByteArray.size_append]; show s.size + 1 ≤ _; omega) w hm
    rw [hkc]; exact h
  have hne1 : kc ≠ kk := fun e => by
    have h := key_copy s
    rw [← hcs, ← hkc, ← hkk, e] at h
    have := congrArg List.length h
    simp at this
  have hne2 : ku ≠ kk := fun e => by
    rw [e] at hkudata
    have := congrArg List.length hkudata
    simp at this
  have hiff : ku = kw ↔ p = r := by
    constructor
    · intro e
      rw [e, hkwdata] at hkudata
      have e3 := List.append_cancel_left hkudata
      have e4 : UInt8.ofNat (48 + r) = UInt8.ofNat (48 + p) := by simpa using e3
      have e5 := congrArg UInt8.toNat e4
      rw [UInt8.toNat_ofNat', UInt8.toNat_ofNat'] at e5
      omega
    · intro e
      exact bytes_ext (by rw [hkudata, hkwdata, e])
  have t1 := toList_ne hne1
  have t2 := toList_ne hne2
  have q1 := beq_eq_false_iff_ne.2 t1
  have q2 := beq_eq_false_iff_ne.2 t2
  have HIFF := Lib.hid hiff
  have g1 : IntKind.i64.wrap (1 + x) = 1 + x := IntWalk.i64_in _ (by omega)
  have g2 : IntKind.i64.wrap (1 + y) = 1 + y := IntWalk.i64_in _ (by omega)
  dsimp only [cxV, cxCells] at HT0 HTX HKU HKV HKW HKEY HK2 HK3 HK4 HK5 HCO
  have HLV := Lib.hid (fun w' (hb : Below w.heap.size w w') => lives_any w' (hL.below hL.lt hb))
  clear hx hy hp hr hssz hd1 hspan hkid hksz hus hvs hws hpu hpw hkk hku hkudata hkv hkw hkwdata hcs hkc hne1 hne2 hiff HIN hL h hn ha hbb hi hj
  go_enter Tryd.func6, Tryd.ntmps6
  go_wp2_with fail
  refine HAT.out.mono ?_
  rintro e w1 ⟨rfl, hb1⟩
  have S1 : Hid (St w w1 []) := ⟨(fun p hp => by cases hp), hb1⟩
  have S2 := Lib.hid (S1.out.push ⟨q, s, tr, b1, b2, d, u, v, z⟩)
  dsimp only [cxCells] at S2
  have m := S2.out.boxes (w1.heap.size, ⟨q, s, tr, b1, b2, d, u, v, z⟩) (by simp)
  dsimp only [cxCells] at m
  have r0 := block_cell m 0 _ rfl
  have r1 := block_cell m 1 _ rfl
  have r2 := block_cell m 2 _ rfl
  have r3 := block_cell m 3 _ rfl
  have r4 := block_cell m 4 _ rfl
  have r5 := block_cell m 5 _ rfl
  have r6 := block_cell m 6 _ rfl
  have r7 := block_cell m 7 _ rfl
  have r8 := block_cell m 8 _ rfl
  clear m
  clear hb1
  go_wp2_with fail
  refine (HT0.out _).mono ?_
  rintro e w2 ⟨rfl, hb2⟩
  have S3 := Lib.hid ((S2.out.call hb2).push ⟨q, s, 0, b1, b2, d, u, v, z⟩)
  dsimp only [cxCells] at S3
  clear hb2 S1 S2
  clear r0 r1 r2 r3 r4 r5 r6 r7 r8
  go_wp2_with fail
  obtain ⟨W3, hW3⟩ : ∃ W3, w2.alloc (.cells #[.int .i64 q, .string s, .int .i64 0, .bool b1, .bool b2, .int .i64 d, .int .i64 u, .int .i64 v, .int .i64 z] 24) = W3 := ⟨_, rfl⟩
  rw [hW3] at S3 ⊢
  clear hW3
  have m := S3.out.boxes (w2.heap.size, ⟨q, s, 0, b1, b2, d, u, v, z⟩) (by simp)
  dsimp only [cxCells] at m
  have r0 := block_cell m 0 _ rfl
  have r1 := block_cell m 1 _ rfl
  have r2 := block_cell m 2 _ rfl
  have r3 := block_cell m 3 _ rfl
  have r4 := block_cell m 4 _ rfl
  have r5 := block_cell m 5 _ rfl
  have r6 := block_cell m 6 _ rfl
  have r7 := block_cell m 7 _ rfl
  have r8 := block_cell m 8 _ rfl
  clear m
  go_cut [15] from 29 to 33 (fun vv wx => ∃ B, vv = .pointer (some ⟨B, 0, none⟩) ∧ St w wx ((B, ⟨q, s, 1 + x, b1, b2, d, 0, v, z⟩) :: [(w2.heap.size, ⟨q, s, 0, b1, b2, d, u, v, z⟩), (w1.heap.size, ⟨q, s, tr, b1, b2, d, u, v, z⟩)]))
  case first =>
    refine wp_region_split_held 6 (fun w' => w'.cell? ⟨w2.heap.size, 0, none⟩ = some (.int .i64 q) ∧ w'.cell? ⟨w2.heap.size, 1, none⟩ = some (.string s) ∧ w'.cell? ⟨w2.heap.size, 2, none⟩ = some (.int .i64 0) ∧ w'.cell? ⟨w2.heap.size, 3, none⟩ = some (.bool b1) ∧ w'.cell? ⟨w2.heap.size, 4, none⟩ = some (.bool b2) ∧ w'.cell? ⟨w2.heap.size, 5, none⟩ = some (.int .i64 d) ∧ w'.cell? ⟨w2.heap.size, 6, none⟩ = some (.int .i64 u) ∧ w'.cell? ⟨w2.heap.size, 7, none⟩ = some (.int .i64 v) ∧ w'.cell? ⟨w2.heap.size, 8, none⟩ = some (.int .i64 z)) (by kernel_rfl) (by kernel_rfl) ⟨r0, r1, r2, r3, r4, r5, r6, r7, r8⟩ (fun K0 hK0 hHeld => ?_)
    simp only [List.take_succ_cons, List.take_zero]
    refine wpAnyH_take (i := 0) (v := ?_) rfl (by kernel_rfl) (by kernel_rfl) (by kernel_rfl) (fun _ _ _ h => h) (Or.inl ⟨by kernel_rfl, ?_⟩) (by assumption) ?_
    rotate_left
    · (intro w hSw; (try dsimp only at hSw); go_simp; (try rw [if_neg (by (try simp only [ByteArray.size_append]); omega)]); (try with_reducible rfl))
    try simp only [Act.put]
    refine wpAnyH_take (i := 1) (v := ?_) rfl (by kernel_rfl) (by kernel_rfl) (by kernel_rfl) (fun _ _ _ h => h) (Or.inl ⟨by kernel_rfl, ?_⟩) (by assumption) ?_
    rotate_left
    · (intro w hSw; (try dsimp only at hSw); go_simp; (try rw [if_neg (by (try simp only [ByteArray.size_append]); omega)]); (try with_reducible rfl))
    try simp only [Act.put]
    refine wpAnyH_ready (rs := [2, 5]) (by kernel_rfl) (by simp) ?_
    refine AllReadyH.cons rfl (fun K hK => ?_) (AllReadyH.cons rfl (fun K hK => ?_) AllReadyH.nil)
    · go_simp
      refine (HA8.out _).mono ?_
      rintro e wq ⟨rfl, rfl⟩
      refine hK.out _ _ hHeld (fun hHeld => ?_)
      clear hK K
      try simp only [Act.put]
      refine wpAnyH_take (i := 3) (v := ?_) rfl (by kernel_rfl) (by kernel_rfl) (by kernel_rfl) (fun _ _ _ h => h) (Or.inl ⟨by kernel_rfl, ?_⟩) (by assumption) ?_
      rotate_left
      · (intro w hSw; (try dsimp only at hSw); go_simp; (try rw [if_neg (by (try simp only [ByteArray.size_append]); omega)]); (try with_reducible rfl))
      try simp only [Act.put]
      refine wpAnyH_ready (rs := [4, 5]) (by kernel_rfl) (by simp) ?_
      refine AllReadyH.cons rfl (fun K hK => ?_) (AllReadyH.cons rfl (fun K hK => ?_) AllReadyH.nil)
      · go_simp
        refine (HTX.out _ _).mono ?_
        rintro e wk ⟨rfl, hbk⟩
        refine hK.out _ _ ⟨bkeep hbk hHeld.1, bkeep hbk hHeld.2.1, bkeep hbk hHeld.2.2.1, bkeep hbk hHeld.2.2.2.1, bkeep hbk hHeld.2.2.2.2.1, bkeep hbk hHeld.2.2.2.2.2.1, bkeep hbk hHeld.2.2.2.2.2.2.1, bkeep hbk hHeld.2.2.2.2.2.2.2.1, bkeep hbk hHeld.2.2.2.2.2.2.2.2⟩ (fun hHeld => ?_)
        clear hK K
        try simp only [Act.put]
        refine wpAnyH_ready (rs := [5]) (by kernel_rfl) (by simp) ?_
        refine AllReadyH.cons rfl (fun K hK => ?_) AllReadyH.nil
        go_simp
        refine hK.out _ _ ⟨bkeep ((Below.refl _ _).alloc (Nat.le_refl _) _) hHeld.1, bkeep ((Below.refl _ _).alloc (Nat.le_refl _) _) hHeld.2.1, bkeep ((Below.refl _ _).alloc (Nat.le_refl _) _) hHeld.2.2.1, bkeep ((Below.refl _ _).alloc (Nat.le_refl _) _) hHeld.2.2.2.1, bkeep ((Below.refl _ _).alloc (Nat.le_refl _) _) hHeld.2.2.2.2.1, bkeep ((Below.refl _ _).alloc (Nat.le_refl _) _) hHeld.2.2.2.2.2.1, bkeep ((Below.refl _ _).alloc (Nat.le_refl _) _) hHeld.2.2.2.2.2.2.1, bkeep ((Below.refl _ _).alloc (Nat.le_refl _) _) hHeld.2.2.2.2.2.2.2.1, bkeep ((Below.refl _ _).alloc (Nat.le_refl _) _) hHeld.2.2.2.2.2.2.2.2⟩ (fun hHeld => ?_)
        clear hK K
        try simp only [Act.put]
        refine wpAnyH_done (by kernel_rfl) ?_ _
        simp only [Exit.then]
        refine hK0 _ _ ?_
        clear hK0 K0 hHeld
        try simp only [Act.put]
        go_wp2_with fail
        go_meet
        exact ⟨_, rfl, (S3.out.call (bdrew hbk)).push ⟨q, s, 1 + x, b1, b2, d, 0, v, z⟩⟩
      · go_simp
        have hbn : Below W3.heap.size W3 ((W3.alloc (.cells #[.int .i64 0, .string ⟨#[]⟩, .int .i64 0, .bool false, .bool false, .int .i64 0, .int .i64 0, .int .i64 0, .int .i64 0] 24)).drew) := ((Below.refl _ _).alloc (Nat.le_refl _) _).drew
        refine hK.out _ _ ⟨bkeep ((Below.refl _ _).alloc (Nat.le_refl _) _) hHeld.1, bkeep ((Below.refl _ _).alloc (Nat.le_refl _) _) hHeld.2.1, bkeep ((Below.refl _ _).alloc (Nat.le_refl _) _) hHeld.2.2.1, bkeep ((Below.refl _ _).alloc (Nat.le_refl _) _) hHeld.2.2.2.1, bkeep ((Below.refl _ _).alloc (Nat.le_refl _) _) hHeld.2.2.2.2.1, bkeep ((Below.refl _ _).alloc (Nat.le_refl _) _) hHeld.2.2.2.2.2.1, bkeep ((Below.refl _ _).alloc (Nat.le_refl _) _) hHeld.2.2.2.2.2.2.1, bkeep ((Below.refl _ _).alloc (Nat.le_refl _) _) hHeld.2.2.2.2.2.2.2.1, bkeep ((Below.refl _ _).alloc (Nat.le_refl _) _) hHeld.2.2.2.2.2.2.2.2⟩ (fun hHeld => ?_)
        clear hK K
        try simp only [Act.put]
        refine wpAnyH_ready (rs := [4]) (by kernel_rfl) (by simp) ?_
        refine AllReadyH.cons rfl (fun K hK => ?_) AllReadyH.nil
        go_simp
        refine (HTX.out _ _).mono ?_
        rintro e wk ⟨rfl, hbk⟩
        have hbb := btrans hbn hbk
        have kN : wk.heap[W3.heap.size]? = some (.cells #[.int .i64 0, .string ⟨#[]⟩, .int .i64 0, .bool false, .bool false, .int .i64 0, .int .i64 0, .int .i64 0, .int .i64 0] 24 (0, 0)) := (hbk.block W3.heap.size (by simp)).trans (heap_alloc_new W3 _)
        refine hK.out _ _ ⟨bkeep hbk hHeld.1, bkeep hbk hHeld.2.1, bkeep hbk hHeld.2.2.1, bkeep hbk hHeld.2.2.2.1, bkeep hbk hHeld.2.2.2.2.1, bkeep hbk hHeld.2.2.2.2.2.1, bkeep hbk hHeld.2.2.2.2.2.2.1, bkeep hbk hHeld.2.2.2.2.2.2.2.1, bkeep hbk hHeld.2.2.2.2.2.2.2.2⟩ (fun hHeld => ?_)
        clear hK K
        try simp only [Act.put]
        refine wpAnyH_done (by kernel_rfl) ?_ _
        simp only [Exit.then]
        refine hK0 _ _ ?_
        clear hK0 K0 hHeld
        try simp only [Act.put]
        obtain ⟨W6, hW6, hst6⟩ := S3.out.fill hbb kN ⟨q, s, 1 + x, b1, b2, d, 0, v, z⟩
        simp only [cxCells, setsFrom, Nat.reduceAdd] at hW6
        have HST6 := Lib.hid hst6
        have x0 := block_cell kN 0 _ rfl
        have x1 := block_cell kN 1 _ rfl
        have x2 := block_cell kN 2 _ rfl
        have x3 := block_cell kN 3 _ rfl
        have x4 := block_cell kN 4 _ rfl
        have x5 := block_cell kN 5 _ rfl
        have x6 := block_cell kN 6 _ rfl
        have x7 := block_cell kN 7 _ rfl
        have x8 := block_cell kN 8 _ rfl
        have f0 := block_free kN 0
        have f1 := block_free kN 1
        have f2 := block_free kN 2
        have f3 := block_free kN 3
        have f4 := block_free kN 4
        have f5 := block_free kN 5
        have f6 := block_free kN 6
        have f7 := block_free kN 7
        have f8 := block_free kN 8
        clear kN hst6 hbb hbk hbn
        go_wp2_with fail
        go_meet
        exact ⟨_, rfl, HST6.out⟩
    · go_simp
      have hbn : Below W3.heap.size W3 ((W3.alloc (.cells #[.int .i64 0, .string ⟨#[]⟩, .int .i64 0, .bool false, .bool false, .int .i64 0, .int .i64 0, .int .i64 0, .int .i64 0] 24)).drew) := ((Below.refl _ _).alloc (Nat.le_refl _) _).drew
      refine hK.out _ _ ⟨bkeep ((Below.refl _ _).alloc (Nat.le_refl _) _) hHeld.1, bkeep ((Below.refl _ _).alloc (Nat.le_refl _) _) hHeld.2.1, bkeep ((Below.refl _ _).alloc (Nat.le_refl _) _) hHeld.2.2.1, bkeep ((Below.refl _ _).alloc (Nat.le_refl _) _) hHeld.2.2.2.1, bkeep ((Below.refl _ _).alloc (Nat.le_refl _) _) hHeld.2.2.2.2.1, bkeep ((Below.refl _ _).alloc (Nat.le_refl _) _) hHeld.2.2.2.2.2.1, bkeep ((Below.refl _ _).alloc (Nat.le_refl _) _) hHeld.2.2.2.2.2.2.1, bkeep ((Below.refl _ _).alloc (Nat.le_refl _) _) hHeld.2.2.2.2.2.2.2.1, bkeep ((Below.refl _ _).alloc (Nat.le_refl _) _) hHeld.2.2.2.2.2.2.2.2⟩ (fun hHeld => ?_)
      clear hK K
      try simp only [Act.put]
      refine wpAnyH_ready (rs := [2]) (by kernel_rfl) (by simp) ?_
      refine AllReadyH.cons rfl (fun K hK => ?_) AllReadyH.nil
      go_simp
      refine (HA8.out _).mono ?_
      rintro e wq ⟨rfl, rfl⟩
      refine hK.out _ _ hHeld (fun hHeld => ?_)
      clear hK K
      try simp only [Act.put]
      refine wpAnyH_take (i := 3) (v := ?_) rfl (by kernel_rfl) (by kernel_rfl) (by kernel_rfl) (fun _ _ _ h => h) (Or.inl ⟨by kernel_rfl, ?_⟩) (by assumption) ?_
      rotate_left
      · (intro w hSw; (try dsimp only at hSw); go_simp; (try rw [if_neg (by (try simp only [ByteArray.size_append]); omega)]); (try with_reducible rfl))
      try simp only [Act.put]
      refine wpAnyH_ready (rs := [4]) (by kernel_rfl) (by simp) ?_
      refine AllReadyH.cons rfl (fun K hK => ?_) AllReadyH.nil
      go_simp
      refine (HTX.out _ _).mono ?_
      rintro e wk ⟨rfl, hbk⟩
      have hbb := btrans hbn hbk
      have kN : wk.heap[W3.heap.size]? = some (.cells #[.int .i64 0, .string ⟨#[]⟩, .int .i64 0, .bool false, .bool false, .int .i64 0, .int .i64 0, .int .i64 0, .int .i64 0] 24 (0, 0)) := (hbk.block W3.heap.size (by simp)).trans (heap_alloc_new W3 _)
      refine hK.out _ _ ⟨bkeep hbk hHeld.1, bkeep hbk hHeld.2.1, bkeep hbk hHeld.2.2.1, bkeep hbk hHeld.2.2.2.1, bkeep hbk hHeld.2.2.2.2.1, bkeep hbk hHeld.2.2.2.2.2.1, bkeep hbk hHeld.2.2.2.2.2.2.1, bkeep hbk hHeld.2.2.2.2.2.2.2.1, bkeep hbk hHeld.2.2.2.2.2.2.2.2⟩ (fun hHeld => ?_)
      clear hK K
      try simp only [Act.put]
      refine wpAnyH_done (by kernel_rfl) ?_ _
      simp only [Exit.then]
      refine hK0 _ _ ?_
      clear hK0 K0 hHeld
      try simp only [Act.put]
      obtain ⟨W6, hW6, hst6⟩ := S3.out.fill hbb kN ⟨q, s, 1 + x, b1, b2, d, 0, v, z⟩
      simp only [cxCells, setsFrom, Nat.reduceAdd] at hW6
      have HST6 := Lib.hid hst6
      have x0 := block_cell kN 0 _ rfl
      have x1 := block_cell kN 1 _ rfl
      have x2 := block_cell kN 2 _ rfl
      have x3 := block_cell kN 3 _ rfl
      have x4 := block_cell kN 4 _ rfl
      have x5 := block_cell kN 5 _ rfl
      have x6 := block_cell kN 6 _ rfl
      have x7 := block_cell kN 7 _ rfl
      have x8 := block_cell kN 8 _ rfl
      have f0 := block_free kN 0
      have f1 := block_free kN 1
      have f2 := block_free kN 2
      have f3 := block_free kN 3
      have f4 := block_free kN 4
      have f5 := block_free kN 5
      have f6 := block_free kN 6
      have f7 := block_free kN 7
      have f8 := block_free kN 8
      clear kN hst6 hbb hbk hbn
      go_wp2_with fail
      go_meet
      exact ⟨_, rfl, HST6.out⟩
  case rest =>
    obtain ⟨B1, rfl, hst⟩ := hcut
    have S4 := Lib.hid hst
    clear hst S3
    clear r0 r1 r2 r3 r4 r5 r6 r7 r8
    have m := S4.out.boxes (w2.heap.size, ⟨q, s, 0, b1, b2, d, u, v, z⟩) (by simp)
    dsimp only [cxCells] at m
    have r0 := block_cell m 0 _ rfl
    have r1 := block_cell m 1 _ rfl
    have r2 := block_cell m 2 _ rfl
    have r3 := block_cell m 3 _ rfl
    have r4 := block_cell m 4 _ rfl
    have r5 := block_cell m 5 _ rfl
    have r6 := block_cell m 6 _ rfl
    have r7 := block_cell m 7 _ rfl
    have r8 := block_cell m 8 _ rfl
    clear m
    go_wp2_with fail
    go_cut [16] from 34 to 38 (fun vv wx => ∃ B, vv = .pointer (some ⟨B, 0, none⟩) ∧ St w wx ((B, ⟨q, s, 1 + y, b1, b2, d, 0, v, z⟩) :: [(B1, ⟨q, s, 1 + x, b1, b2, d, 0, v, z⟩), (w2.heap.size, ⟨q, s, 0, b1, b2, d, u, v, z⟩), (w1.heap.size, ⟨q, s, tr, b1, b2, d, u, v, z⟩)]))
    case first =>
      refine wp_region_split_held 6 (fun w' => w'.cell? ⟨w2.heap.size, 0, none⟩ = some (.int .i64 q) ∧ w'.cell? ⟨w2.heap.size, 1, none⟩ = some (.string s) ∧ w'.cell? ⟨w2.heap.size, 2, none⟩ = some (.int .i64 0) ∧ w'.cell? ⟨w2.heap.size, 3, none⟩ = some (.bool b1) ∧ w'.cell? ⟨w2.heap.size, 4, none⟩ = some (.bool b2) ∧ w'.cell? ⟨w2.heap.size, 5, none⟩ = some (.int .i64 d) ∧ w'.cell? ⟨w2.heap.size, 6, none⟩ = some (.int .i64 u) ∧ w'.cell? ⟨w2.heap.size, 7, none⟩ = some (.int .i64 v) ∧ w'.cell? ⟨w2.heap.size, 8, none⟩ = some (.int .i64 z)) (by kernel_rfl) (by kernel_rfl) ⟨r0, r1, r2, r3, r4, r5, r6, r7, r8⟩ (fun K0 hK0 hHeld => ?_)
      simp only [List.take_succ_cons, List.take_zero]
      refine wpAnyH_take (i := 0) (v := ?_) rfl (by kernel_rfl) (by kernel_rfl) (by kernel_rfl) (fun _ _ _ h => h) (Or.inl ⟨by kernel_rfl, ?_⟩) (by assumption) ?_
      rotate_left
      · (intro w hSw; (try dsimp only at hSw); go_simp; (try rw [if_neg (by (try simp only [ByteArray.size_append]); omega)]); (try with_reducible rfl))
      try simp only [Act.put]
      refine wpAnyH_take (i := 1) (v := ?_) rfl (by kernel_rfl) (by kernel_rfl) (by kernel_rfl) (fun _ _ _ h => h) (Or.inl ⟨by kernel_rfl, ?_⟩) (by assumption) ?_
      rotate_left
      · (intro w hSw; (try dsimp only at hSw); go_simp; (try rw [if_neg (by (try simp only [ByteArray.size_append]); omega)]); (try with_reducible rfl))
      try simp only [Act.put]
      refine wpAnyH_ready (rs := [2, 5]) (by kernel_rfl) (by simp) ?_
      refine AllReadyH.cons rfl (fun K hK => ?_) (AllReadyH.cons rfl (fun K hK => ?_) AllReadyH.nil)
      · go_simp
        refine (HB8.out _).mono ?_
        rintro e wq ⟨rfl, rfl⟩
        refine hK.out _ _ hHeld (fun hHeld => ?_)
        clear hK K
        try simp only [Act.put]
        refine wpAnyH_take (i := 3) (v := ?_) rfl (by kernel_rfl) (by kernel_rfl) (by kernel_rfl) (fun _ _ _ h => h) (Or.inl ⟨by kernel_rfl, ?_⟩) (by assumption) ?_
        rotate_left
        · (intro w hSw; (try dsimp only at hSw); go_simp; (try rw [if_neg (by (try simp only [ByteArray.size_append]); omega)]); (try with_reducible rfl))
        try simp only [Act.put]
        refine wpAnyH_ready (rs := [4, 5]) (by kernel_rfl) (by simp) ?_
        refine AllReadyH.cons rfl (fun K hK => ?_) (AllReadyH.cons rfl (fun K hK => ?_) AllReadyH.nil)
        · go_simp
          refine (HTX.out _ _).mono ?_
          rintro e wk ⟨rfl, hbk⟩
          refine hK.out _ _ ⟨bkeep hbk hHeld.1, bkeep hbk hHeld.2.1, bkeep hbk hHeld.2.2.1, bkeep hbk hHeld.2.2.2.1, bkeep hbk hHeld.2.2.2.2.1, bkeep hbk hHeld.2.2.2.2.2.1, bkeep hbk hHeld.2.2.2.2.2.2.1, bkeep hbk hHeld.2.2.2.2.2.2.2.1, bkeep hbk hHeld.2.2.2.2.2.2.2.2⟩ (fun hHeld => ?_)
          clear hK K
          try simp only [Act.put]
          refine wpAnyH_ready (rs := [5]) (by kernel_rfl) (by simp) ?_
          refine AllReadyH.cons rfl (fun K hK => ?_) AllReadyH.nil
          go_simp
          refine hK.out _ _ ⟨bkeep ((Below.refl _ _).alloc (Nat.le_refl _) _) hHeld.1, bkeep ((Below.refl _ _).alloc (Nat.le_refl _) _) hHeld.2.1, bkeep ((Below.refl _ _).alloc (Nat.le_refl _) _) hHeld.2.2.1, bkeep ((Below.refl _ _).alloc (Nat.le_refl _) _) hHeld.2.2.2.1, bkeep ((Below.refl _ _).alloc (Nat.le_refl _) _) hHeld.2.2.2.2.1, bkeep ((Below.refl _ _).alloc (Nat.le_refl _) _) hHeld.2.2.2.2.2.1, bkeep ((Below.refl _ _).alloc (Nat.le_refl _) _) hHeld.2.2.2.2.2.2.1, bkeep ((Below.refl _ _).alloc (Nat.le_refl _) _) hHeld.2.2.2.2.2.2.2.1, bkeep ((Below.refl _ _).alloc (Nat.le_refl _) _) hHeld.2.2.2.2.2.2.2.2⟩ (fun hHeld => ?_)
          clear hK K
          try simp only [Act.put]
          refine wpAnyH_done (by kernel_rfl) ?_ _
          simp only [Exit.then]
          refine hK0 _ _ ?_
          clear hK0 K0 hHeld
          try simp only [Act.put]
          go_wp2_with fail
          go_meet
          exact ⟨_, rfl, (S4.out.call (bdrew hbk)).push ⟨q, s, 1 + y, b1, b2, d, 0, v, z⟩⟩
        · go_simp
          have hbn : Below wc.heap.size wc ((wc.alloc (.cells #[.int .i64 0, .string ⟨#[]⟩, .int .i64 0, .bool false, .bool false, .int .i64 0, .int .i64 0, .int .i64 0, .int .i64 0] 24)).drew) := ((Below.refl _ _).alloc (Nat.le_refl _) _).drew
          refine hK.out _ _ ⟨bkeep ((Below.refl _ _).alloc (Nat.le_refl _) _) hHeld.1, bkeep ((Below.refl _ _).alloc (Nat.le_refl _) _) hHeld.2.1, bkeep ((Below.refl _ _).alloc (Nat.le_refl _) _) hHeld.2.2.1, bkeep ((Below.refl _ _).alloc (Nat.le_refl _) _) hHeld.2.2.2.1, bkeep ((Below.refl _ _).alloc (Nat.le_refl _) _) hHeld.2.2.2.2.1, bkeep ((Below.refl _ _).alloc (Nat.le_refl _) _) hHeld.2.2.2.2.2.1, bkeep ((Below.refl _ _).alloc (Nat.le_refl _) _) hHeld.2.2.2.2.2.2.1, bkeep ((Below.refl _ _).alloc (Nat.le_refl _) _) hHeld.2.2.2.2.2.2.2.1, bkeep ((Below.refl _ _).alloc (Nat.le_refl _) _) hHeld.2.2.2.2.2.2.2.2⟩ (fun hHeld => ?_)
          clear hK K
          try simp only [Act.put]
          refine wpAnyH_ready (rs := [4]) (by kernel_rfl) (by simp) ?_
          refine AllReadyH.cons rfl (fun K hK => ?_) AllReadyH.nil
          go_simp
          refine (HTX.out _ _).mono ?_
          rintro e wk ⟨rfl, hbk⟩
          have hbb := btrans hbn hbk
          have kN : wk.heap[wc.heap.size]? = some (.cells #[.int .i64 0, .string ⟨#[]⟩, .int .i64 0, .bool false, .bool false, .int .i64 0, .int .i64 0, .int .i64 0, .int .i64 0] 24 (0, 0)) := (hbk.block wc.heap.size (by simp)).trans (heap_alloc_new wc _)
          refine hK.out _ _ ⟨bkeep hbk hHeld.1, bkeep hbk hHeld.2.1, bkeep hbk hHeld.2.2.1, bkeep hbk hHeld.2.2.2.1, bkeep hbk hHeld.2.2.2.2.1, bkeep hbk hHeld.2.2.2.2.2.1, bkeep hbk hHeld.2.2.2.2.2.2.1, bkeep hbk hHeld.2.2.2.2.2.2.2.1, bkeep hbk hHeld.2.2.2.2.2.2.2.2⟩ (fun hHeld => ?_)
          clear hK K
          try simp only [Act.put]
          refine wpAnyH_done (by kernel_rfl) ?_ _
          simp only [Exit.then]
          refine hK0 _ _ ?_
          clear hK0 K0 hHeld
          try simp only [Act.put]
          obtain ⟨W6, hW6, hst6⟩ := S4.out.fill hbb kN ⟨q, s, 1 + y, b1, b2, d, 0, v, z⟩
          simp only [cxCells, setsFrom, Nat.reduceAdd] at hW6
          have HST6 := Lib.hid hst6
          have x0 := block_cell kN 0 _ rfl
          have x1 := block_cell kN 1 _ rfl
          have x2 := block_cell kN 2 _ rfl
          have x3 := block_cell kN 3 _ rfl
          have x4 := block_cell kN 4 _ rfl
          have x5 := block_cell kN 5 _ rfl
          have x6 := block_cell kN 6 _ rfl
          have x7 := block_cell kN 7 _ rfl
          have x8 := block_cell kN 8 _ rfl
          have f0 := block_free kN 0
          have f1 := block_free kN 1
          have f2 := block_free kN 2
          have f3 := block_free kN 3
          have f4 := block_free kN 4
          have f5 := block_free kN 5
          have f6 := block_free kN 6
          have f7 := block_free kN 7
          have f8 := block_free kN 8
          clear kN hst6 hbb hbk hbn
          go_wp2_with fail
          go_meet
          exact ⟨_, rfl, HST6.out⟩
      · go_simp
        have hbn : Below wc.heap.size wc ((wc.alloc (.cells #[.int .i64 0, .string ⟨#[]⟩, .int .i64 0, .bool false, .bool false, .int .i64 0, .int .i64 0, .int .i64 0, .int .i64 0] 24)).drew) := ((Below.refl _ _).alloc (Nat.le_refl _) _).drew
        refine hK.out _ _ ⟨bkeep ((Below.refl _ _).alloc (Nat.le_refl _) _) hHeld.1, bkeep ((Below.refl _ _).alloc (Nat.le_refl _) _) hHeld.2.1, bkeep ((Below.refl _ _).alloc (Nat.le_refl _) _) hHeld.2.2.1, bkeep ((Below.refl _ _).alloc (Nat.le_refl _) _) hHeld.2.2.2.1, bkeep ((Below.refl _ _).alloc (Nat.le_refl _) _) hHeld.2.2.2.2.1, bkeep ((Below.refl _ _).alloc (Nat.le_refl _) _) hHeld.2.2.2.2.2.1, bkeep ((Below.refl _ _).alloc (Nat.le_refl _) _) hHeld.2.2.2.2.2.2.1, bkeep ((Below.refl _ _).alloc (Nat.le_refl _) _) hHeld.2.2.2.2.2.2.2.1, bkeep ((Below.refl _ _).alloc (Nat.le_refl _) _) hHeld.2.2.2.2.2.2.2.2⟩ (fun hHeld => ?_)
        clear hK K
        try simp only [Act.put]
        refine wpAnyH_ready (rs := [2]) (by kernel_rfl) (by simp) ?_
        refine AllReadyH.cons rfl (fun K hK => ?_) AllReadyH.nil
        go_simp
        refine (HB8.out _).mono ?_
        rintro e wq ⟨rfl, rfl⟩
        refine hK.out _ _ hHeld (fun hHeld => ?_)
        clear hK K
        try simp only [Act.put]
        refine wpAnyH_take (i := 3) (v := ?_) rfl (by kernel_rfl) (by kernel_rfl) (by kernel_rfl) (fun _ _ _ h => h) (Or.inl ⟨by kernel_rfl, ?_⟩) (by assumption) ?_
        rotate_left
        · (intro w hSw; (try dsimp only at hSw); go_simp; (try rw [if_neg (by (try simp only [ByteArray.size_append]); omega)]); (try with_reducible rfl))
        try simp only [Act.put]
        refine wpAnyH_ready (rs := [4]) (by kernel_rfl) (by simp) ?_
        refine AllReadyH.cons rfl (fun K hK => ?_) AllReadyH.nil
        go_simp
        refine (HTX.out _ _).mono ?_
        rintro e wk ⟨rfl, hbk⟩
        have hbb := btrans hbn hbk
        have kN : wk.heap[wc.heap.size]? = some (.cells #[.int .i64 0, .string ⟨#[]⟩, .int .i64 0, .bool false, .bool false, .int .i64 0, .int .i64 0, .int .i64 0, .int .i64 0] 24 (0, 0)) := (hbk.block wc.heap.size (by simp)).trans (heap_alloc_new wc _)
        refine hK.out _ _ ⟨bkeep hbk hHeld.1, bkeep hbk hHeld.2.1, bkeep hbk hHeld.2.2.1, bkeep hbk hHeld.2.2.2.1, bkeep hbk hHeld.2.2.2.2.1, bkeep hbk hHeld.2.2.2.2.2.1, bkeep hbk hHeld.2.2.2.2.2.2.1, bkeep hbk hHeld.2.2.2.2.2.2.2.1, bkeep hbk hHeld.2.2.2.2.2.2.2.2⟩ (fun hHeld => ?_)
        clear hK K
        try simp only [Act.put]
        refine wpAnyH_done (by kernel_rfl) ?_ _
        simp only [Exit.then]
        refine hK0 _ _ ?_
        clear hK0 K0 hHeld
        try simp only [Act.put]
        obtain ⟨W6, hW6, hst6⟩ := S4.out.fill hbb kN ⟨q, s, 1 + y, b1, b2, d, 0, v, z⟩
        simp only [cxCells, setsFrom, Nat.reduceAdd] at hW6
        have HST6 := Lib.hid hst6
        have x0 := block_cell kN 0 _ rfl
        have x1 := block_cell kN 1 _ rfl
        have x2 := block_cell kN 2 _ rfl
        have x3 := block_cell kN 3 _ rfl
        have x4 := block_cell kN 4 _ rfl
        have x5 := block_cell kN 5 _ rfl
        have x6 := block_cell kN 6 _ rfl
        have x7 := block_cell kN 7 _ rfl
        have x8 := block_cell kN 8 _ rfl
        have f0 := block_free kN 0
        have f1 := block_free kN 1
        have f2 := block_free kN 2
        have f3 := block_free kN 3
        have f4 := block_free kN 4
        have f5 := block_free kN 5
        have f6 := block_free kN 6
        have f7 := block_free kN 7
        have f8 := block_free kN 8
        clear kN hst6 hbb hbk hbn
        go_wp2_with fail
        go_meet
        exact ⟨_, rfl, HST6.out⟩
    case rest =>
      obtain ⟨B2, rfl, hst⟩ := hcut
      have S5 := Lib.hid hst
      clear hst S4
      clear r0 r1 r2 r3 r4 r5 r6 r7 r8
      have m := S5.out.boxes (B1, ⟨q, s, 1 + x, b1, b2, d, 0, v, z⟩) (by simp)
      dsimp only [cxCells] at m
      have r0 := block_cell m 0 _ rfl
      have r1 := block_cell m 1 _ rfl
      have r2 := block_cell m 2 _ rfl
      have r3 := block_cell m 3 _ rfl
      have r4 := block_cell m 4 _ rfl
      have r5 := block_cell m 5 _ rfl
      have r6 := block_cell m 6 _ rfl
      have r7 := block_cell m 7 _ rfl
      have r8 := block_cell m 8 _ rfl
      clear m
      have m := S5.out.boxes (B2, ⟨q, s, 1 + y, b1, b2, d, 0, v, z⟩) (by simp)
      dsimp only [cxCells] at m
      have t0 := block_cell m 0 _ rfl
      have t1 := block_cell m 1 _ rfl
      have t2 := block_cell m 2 _ rfl
      have t3 := block_cell m 3 _ rfl
      have t4 := block_cell m 4 _ rfl
      have t5 := block_cell m 5 _ rfl
      have t6 := block_cell m 6 _ rfl
      have t7 := block_cell m 7 _ rfl
      have t8 := block_cell m 8 _ rfl
      clear m
      go_wp2_with fail
      refine (HI4.out _).mono ?_
      rintro e wq1 ⟨rfl, rfl⟩
      go_wp2_with fail
      refine (HJ4.out _).mono ?_
      rintro e wq2 ⟨rfl, rfl⟩
      go_wp2_with fail
      refine (HKU.out _).mono ?_
      rintro e w3 ⟨rfl, hb⟩
      have S6 := Lib.hid ((S5.out.call hb).push ⟨q, us, 0, b1, b2, d1, pu, v, z⟩)
      dsimp only [cxCells] at S6
      clear hb S5
      clear r0 r1 r2 r3 r4 r5 r6 r7 r8
      clear t0 t1 t2 t3 t4 t5 t6 t7 t8
      have m := S6.out.boxes (B2, ⟨q, s, 1 + y, b1, b2, d, 0, v, z⟩) (by simp)
      dsimp only [cxCells] at m
      have t0 := block_cell m 0 _ rfl
      have t1 := block_cell m 1 _ rfl
      have t2 := block_cell m 2 _ rfl
      have t3 := block_cell m 3 _ rfl
      have t4 := block_cell m 4 _ rfl
      have t5 := block_cell m 5 _ rfl
      have t6 := block_cell m 6 _ rfl
      have t7 := block_cell m 7 _ rfl
      have t8 := block_cell m 8 _ rfl
      clear m
      go_wp2_with fail
      refine (HKV.out _).mono ?_
      rintro e w4 ⟨rfl, hb⟩
      have S7 := Lib.hid ((S6.out.call hb).push ⟨q, vs, 0, b1, b2, d1, pu, v, z⟩)
      dsimp only [cxCells] at S7
      clear hb S6
      clear t0 t1 t2 t3 t4 t5 t6 t7 t8
      have m := S7.out.boxes (B1, ⟨q, s, 1 + x, b1, b2, d, 0, v, z⟩) (by simp)
      dsimp only [cxCells] at m
      have r0 := block_cell m 0 _ rfl
      have r1 := block_cell m 1 _ rfl
      have r2 := block_cell m 2 _ rfl
      have r3 := block_cell m 3 _ rfl
      have r4 := block_cell m 4 _ rfl
      have r5 := block_cell m 5 _ rfl
      have r6 := block_cell m 6 _ rfl
      have r7 := block_cell m 7 _ rfl
      have r8 := block_cell m 8 _ rfl
      clear m
      go_wp2_with fail
      refine (HKW.out _).mono ?_
      rintro e w5 ⟨rfl, hb⟩
      have S8 := Lib.hid ((S7.out.call hb).push ⟨q, ws, 0, b1, b2, d1, pw, v, z⟩)
      dsimp only [cxCells] at S8
      clear hb S7
      clear r0 r1 r2 r3 r4 r5 r6 r7 r8
      go_wp2_with fail
      obtain ⟨W5, hW5⟩ : ∃ W5, w5.alloc (.cells #[.int .i64 q, .string ws, .int .i64 0, .bool b1, .bool b2, .int .i64 d1, .int .i64 pw, .int .i64 v, .int .i64 z] 24) = W5 := ⟨_, rfl⟩
      rw [hW5] at S8 ⊢
      clear hW5
      have HSX : Hid (∀ w', St w w' [(w5.heap.size, ⟨q, ws, 0, b1, b2, d1, pw, v, z⟩), (w4.heap.size, ⟨q, vs, 0, b1, b2, d1, pu, v, z⟩), (w3.heap.size, ⟨q, us, 0, b1, b2, d1, pu, v, z⟩), (B2, ⟨q, s, 1 + y, b1, b2, d, 0, v, z⟩), (B1, ⟨q, s, 1 + x, b1, b2, d, 0, v, z⟩), (w2.heap.size, ⟨q, s, 0, b1, b2, d, u, v, z⟩), (w1.heap.size, ⟨q, s, tr, b1, b2, d, u, v, z⟩)] → (w'.cell? ⟨B1, 0, none⟩ = some (.int .i64 q) ∧ w'.cell? ⟨B1, 1, none⟩ = some (.string s) ∧ w'.cell? ⟨B1, 2, none⟩ = some (.int .i64 (1 + x)) ∧ w'.cell? ⟨B1, 3, none⟩ = some (.bool b1) ∧ w'.cell? ⟨B1, 4, none⟩ = some (.bool b2) ∧ w'.cell? ⟨B1, 5, none⟩ = some (.int .i64 d) ∧ w'.cell? ⟨B1, 6, none⟩ = some (.int .i64 0) ∧ w'.cell? ⟨B1, 7, none⟩ = some (.int .i64 v) ∧ w'.cell? ⟨B1, 8, none⟩ = some (.int .i64 z)) ∧ (w'.cell? ⟨w2.heap.size, 0, none⟩ = some (.int .i64 q) ∧ w'.cell? ⟨w2.heap.size, 1, none⟩ = some (.string s) ∧ w'.cell? ⟨w2.heap.size, 2, none⟩ = some (.int .i64 0) ∧ w'.cell? ⟨w2.heap.size, 3, none⟩ = some (.bool b1) ∧ w'.cell? ⟨w2.heap.size, 4, none⟩ = some (.bool b2) ∧ w'.cell? ⟨w2.heap.size, 5, none⟩ = some (.int .i64 d) ∧ w'.cell? ⟨w2.heap.size, 6, none⟩ = some (.int .i64 u) ∧ w'.cell? ⟨w2.heap.size, 7, none⟩ = some (.int .i64 v) ∧ w'.cell? ⟨w2.heap.size, 8, none⟩ = some (.int .i64 z)) ∧ (w'.cell? ⟨B2, 0, none⟩ = some (.int .i64 q) ∧ w'.cell? ⟨B2, 1, none⟩ = some (.string s) ∧ w'.cell? ⟨B2, 2, none⟩ = some (.int .i64 (1 + y)) ∧ w'.cell? ⟨B2, 3, none⟩ = some (.bool b1) ∧ w'.cell? ⟨B2, 4, none⟩ = some (.bool b2) ∧ w'.cell? ⟨B2, 5, none⟩ = some (.int .i64 d) ∧ w'.cell? ⟨B2, 6, none⟩ = some (.int .i64 0) ∧ w'.cell? ⟨B2, 7, none⟩ = some (.int .i64 v) ∧ w'.cell? ⟨B2, 8, none⟩ = some (.int .i64 z)) ∧ (w'.cell? ⟨w3.heap.size, 0, none⟩ = some (.int .i64 q) ∧ w'.cell? ⟨w3.heap.size, 1, none⟩ = some (.string us) ∧ w'.cell? ⟨w3.heap.size, 2, none⟩ = some (.int .i64 0) ∧ w'.cell? ⟨w3.heap.size, 3, none⟩ = some (.bool b1) ∧ w'.cell? ⟨w3.heap.size, 4, none⟩ = some (.bool b2) ∧ w'.cell? ⟨w3.heap.size, 5, none⟩ = some (.int .i64 d1) ∧ w'.cell? ⟨w3.heap.size, 6, none⟩ = some (.int .i64 pu) ∧ w'.cell? ⟨w3.heap.size, 7, none⟩ = some (.int .i64 v) ∧ w'.cell? ⟨w3.heap.size, 8, none⟩ = some (.int .i64 z)) ∧ (w'.cell? ⟨w4.heap.size, 0, none⟩ = some (.int .i64 q) ∧ w'.cell? ⟨w4.heap.size, 1, none⟩ = some (.string vs) ∧ w'.cell? ⟨w4.heap.size, 2, none⟩ = some (.int .i64 0) ∧ w'.cell? ⟨w4.heap.size, 3, none⟩ = some (.bool b1) ∧ w'.cell? ⟨w4.heap.size, 4, none⟩ = some (.bool b2) ∧ w'.cell? ⟨w4.heap.size, 5, none⟩ = some (.int .i64 d1) ∧ w'.cell? ⟨w4.heap.size, 6, none⟩ = some (.int .i64 pu) ∧ w'.cell? ⟨w4.heap.size, 7, none⟩ = some (.int .i64 v) ∧ w'.cell? ⟨w4.heap.size, 8, none⟩ = some (.int .i64 z))) := fun w' h => ⟨nine (h.boxes (B1, ⟨q, s, 1 + x, b1, b2, d, 0, v, z⟩) (by simp)), nine (h.boxes (w2.heap.size, ⟨q, s, 0, b1, b2, d, u, v, z⟩) (by simp)), nine (h.boxes (B2, ⟨q, s, 1 + y, b1, b2, d, 0, v, z⟩) (by simp)), nine (h.boxes (w3.heap.size, ⟨q, us, 0, b1, b2, d1, pu, v, z⟩) (by simp)), nine (h.boxes (w4.heap.size, ⟨q, vs, 0, b1, b2, d1, pu, v, z⟩) (by simp))⟩
      refine wp_region_held_drew (S := fun w' => (w'.cell? ⟨B1, 0, none⟩ = some (.int .i64 q) ∧ w'.cell? ⟨B1, 1, none⟩ = some (.string s) ∧ w'.cell? ⟨B1, 2, none⟩ = some (.int .i64 (1 + x)) ∧ w'.cell? ⟨B1, 3, none⟩ = some (.bool b1) ∧ w'.cell? ⟨B1, 4, none⟩ = some (.bool b2) ∧ w'.cell? ⟨B1, 5, none⟩ = some (.int .i64 d) ∧ w'.cell? ⟨B1, 6, none⟩ = some (.int .i64 0) ∧ w'.cell? ⟨B1, 7, none⟩ = some (.int .i64 v) ∧ w'.cell? ⟨B1, 8, none⟩ = some (.int .i64 z)) ∧ (w'.cell? ⟨w2.heap.size, 0, none⟩ = some (.int .i64 q) ∧ w'.cell? ⟨w2.heap.size, 1, none⟩ = some (.string s) ∧ w'.cell? ⟨w2.heap.size, 2, none⟩ = some (.int .i64 0) ∧ w'.cell? ⟨w2.heap.size, 3, none⟩ = some (.bool b1) ∧ w'.cell? ⟨w2.heap.size, 4, none⟩ = some (.bool b2) ∧ w'.cell? ⟨w2.heap.size, 5, none⟩ = some (.int .i64 d) ∧ w'.cell? ⟨w2.heap.size, 6, none⟩ = some (.int .i64 u) ∧ w'.cell? ⟨w2.heap.size, 7, none⟩ = some (.int .i64 v) ∧ w'.cell? ⟨w2.heap.size, 8, none⟩ = some (.int .i64 z)) ∧ (w'.cell? ⟨B2, 0, none⟩ = some (.int .i64 q) ∧ w'.cell? ⟨B2, 1, none⟩ = some (.string s) ∧ w'.cell? ⟨B2, 2, none⟩ = some (.int .i64 (1 + y)) ∧ w'.cell? ⟨B2, 3, none⟩ = some (.bool b1) ∧ w'.cell? ⟨B2, 4, none⟩ = some (.bool b2) ∧ w'.cell? ⟨B2, 5, none⟩ = some (.int .i64 d) ∧ w'.cell? ⟨B2, 6, none⟩ = some (.int .i64 0) ∧ w'.cell? ⟨B2, 7, none⟩ = some (.int .i64 v) ∧ w'.cell? ⟨B2, 8, none⟩ = some (.int .i64 z)) ∧ (w'.cell? ⟨w3.heap.size, 0, none⟩ = some (.int .i64 q) ∧ w'.cell? ⟨w3.heap.size, 1, none⟩ = some (.string us) ∧ w'.cell? ⟨w3.heap.size, 2, none⟩ = some (.int .i64 0) ∧ w'.cell? ⟨w3.heap.size, 3, none⟩ = some (.bool b1) ∧ w'.cell? ⟨w3.heap.size, 4, none⟩ = some (.bool b2) ∧ w'.cell? ⟨w3.heap.size, 5, none⟩ = some (.int .i64 d1) ∧ w'.cell? ⟨w3.heap.size, 6, none⟩ = some (.int .i64 pu) ∧ w'.cell? ⟨w3.heap.size, 7, none⟩ = some (.int .i64 v) ∧ w'.cell? ⟨w3.heap.size, 8, none⟩ = some (.int .i64 z)) ∧ (w'.cell? ⟨w4.heap.size, 0, none⟩ = some (.int .i64 q) ∧ w'.cell? ⟨w4.heap.size, 1, none⟩ = some (.string vs) ∧ w'.cell? ⟨w4.heap.size, 2, none⟩ = some (.int .i64 0) ∧ w'.cell? ⟨w4.heap.size, 3, none⟩ = some (.bool b1) ∧ w'.cell? ⟨w4.heap.size, 4, none⟩ = some (.bool b2) ∧ w'.cell? ⟨w4.heap.size, 5, none⟩ = some (.int .i64 d1) ∧ w'.cell? ⟨w4.heap.size, 6, none⟩ = some (.int .i64 pu) ∧ w'.cell? ⟨w4.heap.size, 7, none⟩ = some (.int .i64 v) ∧ w'.cell? ⟨w4.heap.size, 8, none⟩ = some (.int .i64 z))) (by kernel_rfl) (HSX.out _ (S8.out.call (Below.refl _ _).drew)) (fun hHeld => ?_)
      refine wpAnyH_take (i := 0) (v := ?_) rfl (by kernel_rfl) (by kernel_rfl) (by kernel_rfl) (fun _ _ _ h => h) (Or.inl ⟨by kernel_rfl, ?_⟩) (by assumption) ?_
      rotate_left
      · (intro w hSw; (try dsimp only at hSw); go_simp; (try rw [if_neg (by (try simp only [ByteArray.size_append]); omega)]); (try with_reducible rfl))
      try simp only [Act.put]
      refine wpAnyH_take (i := 2) (v := ?_) rfl (by kernel_rfl) (by kernel_rfl) (by kernel_rfl) (fun _ _ _ h => h) (Or.inl ⟨by kernel_rfl, ?_⟩) (by assumption) ?_
      rotate_left
      · (intro w hSw; (try dsimp only at hSw); go_simp; (try rw [if_neg (by (try simp only [ByteArray.size_append]); omega)]); (try with_reducible rfl))
      try simp only [Act.put]
      refine wpAnyH_ready (rs := [1]) (by kernel_rfl) (by simp) ?_
      refine AllReadyH.cons rfl (fun K hK => ?_) AllReadyH.nil
      go_simp
      try rw [if_neg (by assumption)]
      refine (HKEY.out _ _ _ (HM.out _ (S8.out.call (Below.refl _ _).drew).below)).mono ?_
      rintro e wa ⟨rfl, hb⟩
      replace hb := bdrew hb
      have S9 := Lib.hid (S8.out.call hb)
      refine hK.out _ _ (HSX.out _ S9.out) (fun hHeld => ?_)
      clear hK K hb S8
      try simp only [Act.put]
      refine wpAnyH_ready (rs := [3]) (by kernel_rfl) (by simp) ?_
      refine AllReadyH.cons rfl (fun K hK => ?_) AllReadyH.nil
      go_simp
      try rw [if_neg (by assumption)]
      refine (HKEY.out _ _ _ (HM.out _ S9.out.below)).mono ?_
      rintro e wb ⟨rfl, hb⟩
      have S10 := Lib.hid (S9.out.call hb)
      refine hK.out _ _ (HSX.out _ S10.out) (fun hHeld => ?_)
      clear hK K hb S9
      try simp only [Act.put]
      refine wpAnyH_take (i := 4) (v := ?_) rfl (by kernel_rfl) (by kernel_rfl) (by kernel_rfl) (fun _ _ _ h => h) (Or.inl ⟨by kernel_rfl, ?_⟩) (by assumption) ?_
      rotate_left
      · (intro w hSw; (try dsimp only at hSw); go_simp; (try rw [if_neg (by (try simp only [ByteArray.size_append]); omega)]); (try with_reducible rfl))
      try simp only [Act.put]
      refine wpAnyH_take (i := 5) (v := ?_) rfl (by kernel_rfl) (by kernel_rfl) (by kernel_rfl) (fun _ _ _ h => h) (Or.inl ⟨by kernel_rfl, ?_⟩) (by assumption) ?_
      rotate_left
      · (intro w hSw; (try dsimp only at hSw); go_simp; (try rw [if_neg (by (try simp only [ByteArray.size_append]); omega)]); (try with_reducible rfl))
      try simp only [Act.put]
      refine wpAnyH_take (i := 6) (v := ?_) rfl (by kernel_rfl) (by kernel_rfl) (by kernel_rfl) (fun _ _ _ h => h) (Or.inl ⟨by kernel_rfl, ?_⟩) (by assumption) ?_
      rotate_left
      · (intro w hSw; (try dsimp only at hSw); go_simp; (try rw [if_neg (by (try simp only [ByteArray.size_append]); omega)]); (try with_reducible rfl))
      try simp only [Act.put]
      refine wpAnyH_take (i := 8) (v := ?_) rfl (by kernel_rfl) (by kernel_rfl) (by kernel_rfl) (fun _ _ _ h => h) (Or.inl ⟨by kernel_rfl, ?_⟩) (by assumption) ?_
      rotate_left
      · (intro w hSw; (try dsimp only at hSw); go_simp; (try rw [if_neg (by (try simp only [ByteArray.size_append]); omega)]); (try with_reducible rfl))
      try simp only [Act.put]
      refine wpAnyH_ready (rs := [7]) (by kernel_rfl) (by simp) ?_
      refine AllReadyH.cons rfl (fun K hK => ?_) AllReadyH.nil
      go_simp
      try rw [if_neg (by assumption)]
      refine (HKEY.out _ _ _ (HM.out _ S10.out.below)).mono ?_
      rintro e wd ⟨rfl, hb⟩
      have S11 := Lib.hid (S10.out.call hb)
      refine hK.out _ _ (HSX.out _ S11.out) (fun hHeld => ?_)
      clear hK K hb S10
      try simp only [Act.put]
      refine wpAnyH_ready (rs := [9]) (by kernel_rfl) (by simp) ?_
      refine AllReadyH.cons rfl (fun K hK => ?_) AllReadyH.nil
      go_simp
      try rw [if_neg (by assumption)]
      refine (HKEY.out _ _ _ (HM.out _ S11.out.below)).mono ?_
      rintro e we ⟨rfl, hb⟩
      have S12 := Lib.hid (S11.out.call hb)
      refine hK.out _ _ (HSX.out _ S12.out) (fun hHeld => ?_)
      clear hK K hb S11
      try simp only [Act.put]
      refine wpAnyH_take (i := 10) (v := ?_) rfl (by kernel_rfl) (by kernel_rfl) (by kernel_rfl) (fun _ _ _ h => h) (Or.inl ⟨by kernel_rfl, ?_⟩) (by assumption) ?_
      rotate_left
      · (intro w hSw; (try dsimp only at hSw); go_simp; (try rw [if_neg (by (try simp only [ByteArray.size_append]); omega)]); (try with_reducible rfl))
      try simp only [Act.put]
      refine wpAnyH_take (i := 11) (v := ?_) rfl (by kernel_rfl) (by kernel_rfl) (by kernel_rfl) (fun _ _ _ h => h) (Or.inl ⟨by kernel_rfl, ?_⟩) (by assumption) ?_
      rotate_left
      · (intro w hSw; (try dsimp only at hSw); go_simp; (try rw [if_neg (by (try simp only [ByteArray.size_append]); omega)]); (try with_reducible rfl))
      try simp only [Act.put]
      refine wpAnyH_take (i := 12) (v := ?_) rfl (by kernel_rfl) (by kernel_rfl) (by kernel_rfl) (fun _ _ _ h => h) (Or.inl ⟨by kernel_rfl, ?_⟩) (by assumption) ?_
      rotate_left
      · (intro w hSw; (try dsimp only at hSw); go_simp; (try rw [if_neg (by (try simp only [ByteArray.size_append]); omega)]); (try with_reducible rfl))
      try simp only [Act.put]
      refine wpAnyH_take (i := 13) (v := ?_) rfl (by kernel_rfl) (by kernel_rfl) (by kernel_rfl) (fun _ _ _ h => h) (Or.inl ⟨by kernel_rfl, ?_⟩) (by assumption) ?_
      rotate_left
      · (intro w hSw; (try dsimp only at hSw); go_simp; (try rw [if_neg (by (try simp only [ByteArray.size_append]); omega)]); (try with_reducible rfl))
      try simp only [Act.put]
      refine wpAnyH_take (i := 15) (v := ?_) rfl (by kernel_rfl) (by kernel_rfl) (by kernel_rfl) (fun _ _ _ h => h) (Or.inl ⟨by kernel_rfl, ?_⟩) (by assumption) ?_
      rotate_left
      · (intro w hSw; (try dsimp only at hSw); go_simp; (try rw [if_neg (by (try simp only [ByteArray.size_append]); omega)]); (try with_reducible rfl))
      try simp only [Act.put]
      refine wpAnyH_ready (rs := [14]) (by kernel_rfl) (by simp) ?_
      refine AllReadyH.cons rfl (fun K hK => ?_) AllReadyH.nil
      go_simp
      try rw [if_neg (by assumption)]
      refine (HK2.out _ (HM.out _ S12.out.below)).mono ?_
      rintro e wf ⟨rfl, hb⟩
      have S13 := Lib.hid (S12.out.call hb)
      refine hK.out _ _ (HSX.out _ S13.out) (fun hHeld => ?_)
      clear hK K hb S12
      try simp only [Act.put]
      refine wpAnyH_ready (rs := [16]) (by kernel_rfl) (by simp) ?_
      refine AllReadyH.cons rfl (fun K hK => ?_) AllReadyH.nil
      go_simp
      try rw [if_neg (by assumption)]
      refine (HK3.out _ (HM.out _ S13.out.below)).mono ?_
      rintro e wg ⟨rfl, hb⟩
      have S14 := Lib.hid (S13.out.call hb)
      refine hK.out _ _ (HSX.out _ S14.out) (fun hHeld => ?_)
      clear hK K hb S13
      try simp only [Act.put]
      refine wpAnyH_take (i := 17) (v := ?_) rfl (by kernel_rfl) (by kernel_rfl) (by kernel_rfl) (fun _ _ _ h => h) (Or.inl ⟨by kernel_rfl, ?_⟩) (by assumption) ?_
      rotate_left
      · (intro w hSw; (try dsimp only at hSw); go_simp; (try rw [if_neg (by (try simp only [ByteArray.size_append]); omega)]); (try with_reducible rfl))
      try simp only [Act.put]
      refine wpAnyH_take (i := 18) (v := ?_) rfl (by kernel_rfl) (by kernel_rfl) (by kernel_rfl) (fun _ _ _ h => h) (Or.inl ⟨by kernel_rfl, ?_⟩) (by assumption) ?_
      rotate_left
      · (intro w hSw; (try dsimp only at hSw); go_simp; (try rw [if_neg (by (try simp only [ByteArray.size_append]); omega)]); (try with_reducible rfl))
      try simp only [Act.put]
      refine wpAnyH_take (i := 19) (v := ?_) rfl (by kernel_rfl) (by kernel_rfl) (by kernel_rfl) (fun _ _ _ h => h) (Or.inl ⟨by kernel_rfl, ?_⟩) (by assumption) ?_
      rotate_left
      · (intro w hSw; (try dsimp only at hSw); go_simp; (try rw [if_neg (by (try simp only [ByteArray.size_append]); omega)]); (try with_reducible rfl))
      try simp only [Act.put]
      refine wpAnyH_take (i := 20) (v := ?_) rfl (by kernel_rfl) (by kernel_rfl) (by kernel_rfl) (fun _ _ _ h => h) (Or.inl ⟨by kernel_rfl, ?_⟩) (by assumption) ?_
      rotate_left
      · (intro w hSw; (try dsimp only at hSw); go_simp; (try rw [if_neg (by (try simp only [ByteArray.size_append]); omega)]); (try with_reducible rfl))
      try simp only [Act.put]
      refine wpAnyH_take (i := 22) (v := ?_) rfl (by kernel_rfl) (by kernel_rfl) (by kernel_rfl) (fun _ _ _ h => h) (Or.inl ⟨by kernel_rfl, ?_⟩) (by assumption) ?_
      rotate_left
      · (intro w hSw; (try dsimp only at hSw); go_simp; (try rw [if_neg (by (try simp only [ByteArray.size_append]); omega)]); (try with_reducible rfl))
      try simp only [Act.put]
      refine wpAnyH_ready (rs := [21]) (by kernel_rfl) (by simp) ?_
      refine AllReadyH.cons rfl (fun K hK => ?_) AllReadyH.nil
      go_simp
      try rw [if_neg (by assumption)]
      refine (HK2.out _ (HM.out _ S14.out.below)).mono ?_
      rintro e wh ⟨rfl, hb⟩
      have S15 := Lib.hid (S14.out.call hb)
      refine hK.out _ _ (HSX.out _ S15.out) (fun hHeld => ?_)
      clear hK K hb S14
      try simp only [Act.put]
      refine wpAnyH_ready (rs := [23]) (by kernel_rfl) (by simp) ?_
      refine AllReadyH.cons rfl (fun K hK => ?_) AllReadyH.nil
      go_simp
      try rw [if_neg (by assumption)]
      refine (HKEY.out _ _ _ (HM.out _ S15.out.below)).mono ?_
      rintro e wi ⟨rfl, hb⟩
      have S16 := Lib.hid (S15.out.call hb)
      refine hK.out _ _ (HSX.out _ S16.out) (fun hHeld => ?_)
      clear hK K hb S15
      try simp only [Act.put]
      refine wpAnyH_take (i := 24) (v := ?_) rfl (by kernel_rfl) (by kernel_rfl) (by kernel_rfl) (fun _ _ _ h => h) (Or.inl ⟨by kernel_rfl, ?_⟩) (by assumption) ?_
      rotate_left
      · (intro w hSw; (try dsimp only at hSw); go_simp; (try simp only [q2, Bool.not_false]); (try with_reducible rfl))
      try simp only [Act.put]
      refine wpAnyH_take (i := 25) (v := ?_) rfl (by kernel_rfl) (by kernel_rfl) (by kernel_rfl) (fun _ _ _ h => h) (Or.inl ⟨by kernel_rfl, ?_⟩) (by assumption) ?_
      rotate_left
      · (intro w hSw; (try dsimp only at hSw); go_simp; (try rw [if_neg (by (try simp only [ByteArray.size_append]); omega)]); (try with_reducible rfl))
      try simp only [Act.put]
      refine wpAnyH_done (by kernel_rfl) ?_ _
      try simp only [Act.put]
      clear HSX hHeld
      go_simp
      go_wp2_with fail
      by_cases hpr : p = r
      · have hkw := HIFF.out.2 hpr
        subst hpr hkw
        have HSX : Hid (∀ w', St w w' [(w5.heap.size, ⟨q, ws, 0, b1, b2, d1, pw, v, z⟩), (w4.heap.size, ⟨q, vs, 0, b1, b2, d1, pu, v, z⟩), (w3.heap.size, ⟨q, us, 0, b1, b2, d1, pu, v, z⟩), (B2, ⟨q, s, 1 + y, b1, b2, d, 0, v, z⟩), (B1, ⟨q, s, 1 + x, b1, b2, d, 0, v, z⟩), (w2.heap.size, ⟨q, s, 0, b1, b2, d, u, v, z⟩), (w1.heap.size, ⟨q, s, tr, b1, b2, d, u, v, z⟩)] → (w'.cell? ⟨w3.heap.size, 0, none⟩ = some (.int .i64 q) ∧ w'.cell? ⟨w3.heap.size, 1, none⟩ = some (.string us) ∧ w'.cell? ⟨w3.heap.size, 2, none⟩ = some (.int .i64 0) ∧ w'.cell? ⟨w3.heap.size, 3, none⟩ = some (.bool b1) ∧ w'.cell? ⟨w3.heap.size, 4, none⟩ = some (.bool b2) ∧ w'.cell? ⟨w3.heap.size, 5, none⟩ = some (.int .i64 d1) ∧ w'.cell? ⟨w3.heap.size, 6, none⟩ = some (.int .i64 pu) ∧ w'.cell? ⟨w3.heap.size, 7, none⟩ = some (.int .i64 v) ∧ w'.cell? ⟨w3.heap.size, 8, none⟩ = some (.int .i64 z)) ∧ (w'.cell? ⟨w5.heap.size, 0, none⟩ = some (.int .i64 q) ∧ w'.cell? ⟨w5.heap.size, 1, none⟩ = some (.string ws) ∧ w'.cell? ⟨w5.heap.size, 2, none⟩ = some (.int .i64 0) ∧ w'.cell? ⟨w5.heap.size, 3, none⟩ = some (.bool b1) ∧ w'.cell? ⟨w5.heap.size, 4, none⟩ = some (.bool b2) ∧ w'.cell? ⟨w5.heap.size, 5, none⟩ = some (.int .i64 d1) ∧ w'.cell? ⟨w5.heap.size, 6, none⟩ = some (.int .i64 pw) ∧ w'.cell? ⟨w5.heap.size, 7, none⟩ = some (.int .i64 v) ∧ w'.cell? ⟨w5.heap.size, 8, none⟩ = some (.int .i64 z)) ∧ (w'.cell? ⟨w2.heap.size, 0, none⟩ = some (.int .i64 q) ∧ w'.cell? ⟨w2.heap.size, 1, none⟩ = some (.string s) ∧ w'.cell? ⟨w2.heap.size, 2, none⟩ = some (.int .i64 0) ∧ w'.cell? ⟨w2.heap.size, 3, none⟩ = some (.bool b1) ∧ w'.cell? ⟨w2.heap.size, 4, none⟩ = some (.bool b2) ∧ w'.cell? ⟨w2.heap.size, 5, none⟩ = some (.int .i64 d) ∧ w'.cell? ⟨w2.heap.size, 6, none⟩ = some (.int .i64 u) ∧ w'.cell? ⟨w2.heap.size, 7, none⟩ = some (.int .i64 v) ∧ w'.cell? ⟨w2.heap.size, 8, none⟩ = some (.int .i64 z))) := fun w' h => ⟨nine (h.boxes (w3.heap.size, ⟨q, us, 0, b1, b2, d1, pu, v, z⟩) (by simp)), nine (h.boxes (w5.heap.size, ⟨q, ws, 0, b1, b2, d1, pw, v, z⟩) (by simp)), nine (h.boxes (w2.heap.size, ⟨q, s, 0, b1, b2, d, u, v, z⟩) (by simp))⟩
        refine wp_region_held_drew (S := fun w' => (w'.cell? ⟨w3.heap.size, 0, none⟩ = some (.int .i64 q) ∧ w'.cell? ⟨w3.heap.size, 1, none⟩ = some (.string us) ∧ w'.cell? ⟨w3.heap.size, 2, none⟩ = some (.int .i64 0) ∧ w'.cell? ⟨w3.heap.size, 3, none⟩ = some (.bool b1) ∧ w'.cell? ⟨w3.heap.size, 4, none⟩ = some (.bool b2) ∧ w'.cell? ⟨w3.heap.size, 5, none⟩ = some (.int .i64 d1) ∧ w'.cell? ⟨w3.heap.size, 6, none⟩ = some (.int .i64 pu) ∧ w'.cell? ⟨w3.heap.size, 7, none⟩ = some (.int .i64 v) ∧ w'.cell? ⟨w3.heap.size, 8, none⟩ = some (.int .i64 z)) ∧ (w'.cell? ⟨w5.heap.size, 0, none⟩ = some (.int .i64 q) ∧ w'.cell? ⟨w5.heap.size, 1, none⟩ = some (.string ws) ∧ w'.cell? ⟨w5.heap.size, 2, none⟩ = some (.int .i64 0) ∧ w'.cell? ⟨w5.heap.size, 3, none⟩ = some (.bool b1) ∧ w'.cell? ⟨w5.heap.size, 4, none⟩ = some (.bool b2) ∧ w'.cell? ⟨w5.heap.size, 5, none⟩ = some (.int .i64 d1) ∧ w'.cell? ⟨w5.heap.size, 6, none⟩ = some (.int .i64 pw) ∧ w'.cell? ⟨w5.heap.size, 7, none⟩ = some (.int .i64 v) ∧ w'.cell? ⟨w5.heap.size, 8, none⟩ = some (.int .i64 z)) ∧ (w'.cell? ⟨w2.heap.size, 0, none⟩ = some (.int .i64 q) ∧ w'.cell? ⟨w2.heap.size, 1, none⟩ = some (.string s) ∧ w'.cell? ⟨w2.heap.size, 2, none⟩ = some (.int .i64 0) ∧ w'.cell? ⟨w2.heap.size, 3, none⟩ = some (.bool b1) ∧ w'.cell? ⟨w2.heap.size, 4, none⟩ = some (.bool b2) ∧ w'.cell? ⟨w2.heap.size, 5, none⟩ = some (.int .i64 d) ∧ w'.cell? ⟨w2.heap.size, 6, none⟩ = some (.int .i64 u) ∧ w'.cell? ⟨w2.heap.size, 7, none⟩ = some (.int .i64 v) ∧ w'.cell? ⟨w2.heap.size, 8, none⟩ = some (.int .i64 z))) (by kernel_rfl) (HSX.out _ (S16.out.call (Below.refl _ _).drew)) (fun hHeld => ?_)
        refine wpAnyH_take (i := 0) (v := ?_) rfl (by kernel_rfl) (by kernel_rfl) (by kernel_rfl) (fun _ _ _ h => h) (Or.inl ⟨by kernel_rfl, ?_⟩) (by assumption) ?_
        rotate_left
        · (intro w hSw; (try dsimp only at hSw); go_simp; (try rw [if_neg (by (try simp only [ByteArray.size_append]); omega)]); (try with_reducible rfl))
        try simp only [Act.put]
        refine wpAnyH_take (i := 2) (v := ?_) rfl (by kernel_rfl) (by kernel_rfl) (by kernel_rfl) (fun _ _ _ h => h) (Or.inl ⟨by kernel_rfl, ?_⟩) (by assumption) ?_
        rotate_left
        · (intro w hSw; (try dsimp only at hSw); go_simp; (try rw [if_neg (by (try simp only [ByteArray.size_append]); omega)]); (try with_reducible rfl))
        try simp only [Act.put]
        refine wpAnyH_take (i := 5) (v := ?_) rfl (by kernel_rfl) (by kernel_rfl) (by kernel_rfl) (fun _ _ _ h => h) (Or.inl ⟨by kernel_rfl, ?_⟩) (by assumption) ?_
        rotate_left
        · (intro w hSw; (try dsimp only at hSw); go_simp; (try rw [if_neg (by (try simp only [ByteArray.size_append]); omega)]); (try with_reducible rfl))
        try simp only [Act.put]
        refine wpAnyH_take (i := 6) (v := ?_) rfl (by kernel_rfl) (by kernel_rfl) (by kernel_rfl) (fun _ _ _ h => h) (Or.inl ⟨by kernel_rfl, ?_⟩) (by assumption) ?_
        rotate_left
        · (intro w hSw; (try dsimp only at hSw); go_simp; (try rw [if_neg (by (try simp only [ByteArray.size_append]); omega)]); (try with_reducible rfl))
        try simp only [Act.put]
        refine wpAnyH_take (i := 7) (v := ?_) rfl (by kernel_rfl) (by kernel_rfl) (by kernel_rfl) (fun _ _ _ h => h) (Or.inl ⟨by kernel_rfl, ?_⟩) (by assumption) ?_
        rotate_left
        · (intro w hSw; (try dsimp only at hSw); go_simp; (try rw [if_neg (by (try simp only [ByteArray.size_append]); omega)]); (try with_reducible rfl))
        try simp only [Act.put]
        refine wpAnyH_ready (rs := [1]) (by kernel_rfl) (by simp) ?_
        refine AllReadyH.cons rfl (fun K hK => ?_) AllReadyH.nil
        go_simp
        try rw [if_neg (by assumption)]
        refine (HK2.out _ (HM.out _ (S16.out.call (Below.refl _ _).drew).below)).mono ?_
        rintro e wj ⟨rfl, hb⟩
        replace hb := bdrew hb
        have S17 := Lib.hid (S16.out.call hb)
        refine hK.out _ _ (HSX.out _ S17.out) (fun hHeld => ?_)
        clear hK K hb S16
        try simp only [Act.put]
        refine wpAnyH_ready (rs := [3]) (by kernel_rfl) (by simp) ?_
        refine AllReadyH.cons rfl (fun K hK => ?_) AllReadyH.nil
        go_simp
        try rw [if_neg (by assumption)]
        refine (HK4.out _ (HM.out _ S17.out.below)).mono ?_
        rintro e wk ⟨rfl, hb⟩
        have S18 := Lib.hid (S17.out.call hb)
        refine hK.out _ _ (HSX.out _ S18.out) (fun hHeld => ?_)
        clear hK K hb S17
        try simp only [Act.put]
        refine wpAnyH_take (i := 4) (v := ?_) rfl (by kernel_rfl) (by kernel_rfl) (by kernel_rfl) (fun _ _ _ h => h) (Or.inl ⟨by kernel_rfl, ?_⟩) (by assumption) ?_
        rotate_left
        · (intro w hSw; (try dsimp only at hSw); go_simp; (try rw [if_neg (by (try simp only [ByteArray.size_append]); omega)]); (try with_reducible rfl))
        try simp only [Act.put]
        refine wpAnyH_take (i := 8) (v := ?_) rfl (by kernel_rfl) (by kernel_rfl) (by kernel_rfl) (fun _ _ _ h => h) (Or.inl ⟨by kernel_rfl, ?_⟩) (by assumption) ?_
        rotate_left
        · (intro w hSw; (try dsimp only at hSw); go_simp; (try rw [if_neg (by (try simp only [ByteArray.size_append]); omega)]); (try with_reducible rfl))
        try simp only [Act.put]
        refine wpAnyH_take (i := 9) (v := ?_) rfl (by kernel_rfl) (by kernel_rfl) (by kernel_rfl) (fun _ _ _ h => h) (Or.inl ⟨by kernel_rfl, ?_⟩) (by assumption) ?_
        rotate_left
        · (intro w hSw; (try dsimp only at hSw); go_simp; (try rw [if_neg (by (try simp only [ByteArray.size_append]); omega)]); (try with_reducible rfl))
        try simp only [Act.put]
        refine wpAnyH_take (i := 10) (v := ?_) rfl (by kernel_rfl) (by kernel_rfl) (by kernel_rfl) (fun _ _ _ h => h) (Or.inl ⟨by kernel_rfl, ?_⟩) (by assumption) ?_
        rotate_left
        · (intro w hSw; (try dsimp only at hSw); go_simp; (try rw [if_neg (by (try simp only [ByteArray.size_append]); omega)]); (try with_reducible rfl))
        try simp only [Act.put]
        refine wpAnyH_take (i := 13) (v := ?_) rfl (by kernel_rfl) (by kernel_rfl) (by kernel_rfl) (fun _ _ _ h => h) (Or.inl ⟨by kernel_rfl, ?_⟩) (by assumption) ?_
        rotate_left
        · (intro w hSw; (try dsimp only at hSw); go_simp; (try rw [if_neg (by (try simp only [ByteArray.size_append]); omega)]); (try with_reducible rfl))
        try simp only [Act.put]
        refine wpAnyH_ready (rs := [11]) (by kernel_rfl) (by simp) ?_
        refine AllReadyH.cons rfl (fun K hK => ?_) AllReadyH.nil
        go_simp
        try rw [if_neg (by assumption)]
        refine (HCO.out _).mono ?_
        rintro e wl ⟨rfl, hb⟩
        have S19 := Lib.hid (S18.out.call hb)
        refine hK.out _ _ (HSX.out _ S19.out) (fun hHeld => ?_)
        clear hK K hb S18
        try simp only [Act.put]
        refine wpAnyH_ready (rs := [12]) (by kernel_rfl) (by simp) ?_
        refine AllReadyH.cons rfl (fun K hK => ?_) AllReadyH.nil
        go_simp
        try rw [if_neg (by assumption)]
        refine (HK5.out _ (HM.out _ S19.out.below)).mono ?_
        rintro e wm ⟨rfl, hb⟩
        have S20 := Lib.hid (S19.out.call hb)
        refine hK.out _ _ (HSX.out _ S20.out) (fun hHeld => ?_)
        clear hK K hb S19
        try simp only [Act.put]
        refine wpAnyH_ready (rs := [14]) (by kernel_rfl) (by simp) ?_
        refine AllReadyH.cons rfl (fun K hK => ?_) AllReadyH.nil
        go_simp
        try rw [if_neg (by assumption)]
        refine (HKEY.out _ _ _ (HM.out _ S20.out.below)).mono ?_
        rintro e wn ⟨rfl, hb⟩
        have S21 := Lib.hid (S20.out.call hb)
        refine hK.out _ _ (HSX.out _ S21.out) (fun hHeld => ?_)
        clear hK K hb S20
        try simp only [Act.put]
        refine wpAnyH_take (i := 15) (v := ?_) rfl (by kernel_rfl) (by kernel_rfl) (by kernel_rfl) (fun _ _ _ h => h) (Or.inl ⟨by kernel_rfl, ?_⟩) (by assumption) ?_
        rotate_left
        · (intro w hSw; (try dsimp only at hSw); go_simp; (try simp only [q1, Bool.not_false]); (try with_reducible rfl))
        try simp only [Act.put]
        refine wpAnyH_take (i := 16) (v := ?_) rfl (by kernel_rfl) (by kernel_rfl) (by kernel_rfl) (fun _ _ _ h => h) (Or.inl ⟨by kernel_rfl, ?_⟩) (by assumption) ?_
        rotate_left
        · (intro w hSw; (try dsimp only at hSw); go_simp; (try rw [if_neg (by (try simp only [ByteArray.size_append]); omega)]); (try with_reducible rfl))
        try simp only [Act.put]
        refine wpAnyH_take (i := 17) (v := ?_) rfl (by kernel_rfl) (by kernel_rfl) (by kernel_rfl) (fun _ _ _ h => h) (Or.inl ⟨by kernel_rfl, ?_⟩) (by assumption) ?_
        rotate_left
        · (intro w hSw; (try dsimp only at hSw); go_simp; (try rw [if_neg (by (try simp only [ByteArray.size_append]); omega)]); (try with_reducible rfl))
        try simp only [Act.put]
        refine wpAnyH_ready (rs := [18]) (by kernel_rfl) (by simp) ?_
        refine AllReadyH.cons rfl (fun K hK => ?_) AllReadyH.nil
        go_simp
        try rw [if_neg (by assumption)]
        refine (HLV.out _ S21.out.below).mono ?_
        rintro e wo ⟨rfl, hb⟩
        have S22 := Lib.hid (S21.out.call hb)
        refine hK.out _ _ (HSX.out _ S22.out) (fun hHeld => ?_)
        clear hK K hb S21
        try simp only [Act.put]
        refine wpAnyH_take (i := 19) (v := ?_) rfl (by kernel_rfl) (by kernel_rfl) (by kernel_rfl) (fun _ _ _ h => h) (Or.inl ⟨by kernel_rfl, ?_⟩) (by assumption) ?_
        rotate_left
        · (intro w hSw; (try dsimp only at hSw); go_simp; (try rw [if_neg (by (try simp only [ByteArray.size_append]); omega)]); (try with_reducible rfl))
        try simp only [Act.put]
        refine wpAnyH_ready (rs := [20]) (by kernel_rfl) (by simp) ?_
        refine AllReadyH.cons rfl (fun K hK => ?_) AllReadyH.nil
        go_simp
        refine hK.out _ _ ((HSX.out _ S22.out)) (fun hHeld => ?_)
        clear hK K
        try simp only [Act.put]
        refine wpAnyH_done (by kernel_rfl) ?_ _
        try simp only [Act.put]
        have HF := Lib.hid S22.out.below
        clear S22 HSX hHeld
        go_wp2_with fail
        go_ret
        exact ⟨rfl, HF.out⟩
      · have qe1 := beq_eq_false_iff_ne.2 (toList_ne (fun e => hpr (HIFF.out.1 e)))
        have qe2 : ((p : Int) == (r : Int)) = false := beq_eq_false_iff_ne.2 (by omega)
        have HSX : Hid (∀ w', St w w' [(w5.heap.size, ⟨q, ws, 0, b1, b2, d1, pw, v, z⟩), (w4.heap.size, ⟨q, vs, 0, b1, b2, d1, pu, v, z⟩), (w3.heap.size, ⟨q, us, 0, b1, b2, d1, pu, v, z⟩), (B2, ⟨q, s, 1 + y, b1, b2, d, 0, v, z⟩), (B1, ⟨q, s, 1 + x, b1, b2, d, 0, v, z⟩), (w2.heap.size, ⟨q, s, 0, b1, b2, d, u, v, z⟩), (w1.heap.size, ⟨q, s, tr, b1, b2, d, u, v, z⟩)] → (w'.cell? ⟨w3.heap.size, 0, none⟩ = some (.int .i64 q) ∧ w'.cell? ⟨w3.heap.size, 1, none⟩ = some (.string us) ∧ w'.cell? ⟨w3.heap.size, 2, none⟩ = some (.int .i64 0) ∧ w'.cell? ⟨w3.heap.size, 3, none⟩ = some (.bool b1) ∧ w'.cell? ⟨w3.heap.size, 4, none⟩ = some (.bool b2) ∧ w'.cell? ⟨w3.heap.size, 5, none⟩ = some (.int .i64 d1) ∧ w'.cell? ⟨w3.heap.size, 6, none⟩ = some (.int .i64 pu) ∧ w'.cell? ⟨w3.heap.size, 7, none⟩ = some (.int .i64 v) ∧ w'.cell? ⟨w3.heap.size, 8, none⟩ = some (.int .i64 z)) ∧ (w'.cell? ⟨w5.heap.size, 0, none⟩ = some (.int .i64 q) ∧ w'.cell? ⟨w5.heap.size, 1, none⟩ = some (.string ws) ∧ w'.cell? ⟨w5.heap.size, 2, none⟩ = some (.int .i64 0) ∧ w'.cell? ⟨w5.heap.size, 3, none⟩ = some (.bool b1) ∧ w'.cell? ⟨w5.heap.size, 4, none⟩ = some (.bool b2) ∧ w'.cell? ⟨w5.heap.size, 5, none⟩ = some (.int .i64 d1) ∧ w'.cell? ⟨w5.heap.size, 6, none⟩ = some (.int .i64 pw) ∧ w'.cell? ⟨w5.heap.size, 7, none⟩ = some (.int .i64 v) ∧ w'.cell? ⟨w5.heap.size, 8, none⟩ = some (.int .i64 z)) ∧ (w'.cell? ⟨w2.heap.size, 0, none⟩ = some (.int .i64 q) ∧ w'.cell? ⟨w2.heap.size, 1, none⟩ = some (.string s) ∧ w'.cell? ⟨w2.heap.size, 2, none⟩ = some (.int .i64 0) ∧ w'.cell? ⟨w2.heap.size, 3, none⟩ = some (.bool b1) ∧ w'.cell? ⟨w2.heap.size, 4, none⟩ = some (.bool b2) ∧ w'.cell? ⟨w2.heap.size, 5, none⟩ = some (.int .i64 d) ∧ w'.cell? ⟨w2.heap.size, 6, none⟩ = some (.int .i64 u) ∧ w'.cell? ⟨w2.heap.size, 7, none⟩ = some (.int .i64 v) ∧ w'.cell? ⟨w2.heap.size, 8, none⟩ = some (.int .i64 z))) := fun w' h => ⟨nine (h.boxes (w3.heap.size, ⟨q, us, 0, b1, b2, d1, pu, v, z⟩) (by simp)), nine (h.boxes (w5.heap.size, ⟨q, ws, 0, b1, b2, d1, pw, v, z⟩) (by simp)), nine (h.boxes (w2.heap.size, ⟨q, s, 0, b1, b2, d, u, v, z⟩) (by simp))⟩
        refine wp_region_held_drew (S := fun w' => (w'.cell? ⟨w3.heap.size, 0, none⟩ = some (.int .i64 q) ∧ w'.cell? ⟨w3.heap.size, 1, none⟩ = some (.string us) ∧ w'.cell? ⟨w3.heap.size, 2, none⟩ = some (.int .i64 0) ∧ w'.cell? ⟨w3.heap.size, 3, none⟩ = some (.bool b1) ∧ w'.cell? ⟨w3.heap.size, 4, none⟩ = some (.bool b2) ∧ w'.cell? ⟨w3.heap.size, 5, none⟩ = some (.int .i64 d1) ∧ w'.cell? ⟨w3.heap.size, 6, none⟩ = some (.int .i64 pu) ∧ w'.cell? ⟨w3.heap.size, 7, none⟩ = some (.int .i64 v) ∧ w'.cell? ⟨w3.heap.size, 8, none⟩ = some (.int .i64 z)) ∧ (w'.cell? ⟨w5.heap.size, 0, none⟩ = some (.int .i64 q) ∧ w'.cell? ⟨w5.heap.size, 1, none⟩ = some (.string ws) ∧ w'.cell? ⟨w5.heap.size, 2, none⟩ = some (.int .i64 0) ∧ w'.cell? ⟨w5.heap.size, 3, none⟩ = some (.bool b1) ∧ w'.cell? ⟨w5.heap.size, 4, none⟩ = some (.bool b2) ∧ w'.cell? ⟨w5.heap.size, 5, none⟩ = some (.int .i64 d1) ∧ w'.cell? ⟨w5.heap.size, 6, none⟩ = some (.int .i64 pw) ∧ w'.cell? ⟨w5.heap.size, 7, none⟩ = some (.int .i64 v) ∧ w'.cell? ⟨w5.heap.size, 8, none⟩ = some (.int .i64 z)) ∧ (w'.cell? ⟨w2.heap.size, 0, none⟩ = some (.int .i64 q) ∧ w'.cell? ⟨w2.heap.size, 1, none⟩ = some (.string s) ∧ w'.cell? ⟨w2.heap.size, 2, none⟩ = some (.int .i64 0) ∧ w'.cell? ⟨w2.heap.size, 3, none⟩ = some (.bool b1) ∧ w'.cell? ⟨w2.heap.size, 4, none⟩ = some (.bool b2) ∧ w'.cell? ⟨w2.heap.size, 5, none⟩ = some (.int .i64 d) ∧ w'.cell? ⟨w2.heap.size, 6, none⟩ = some (.int .i64 u) ∧ w'.cell? ⟨w2.heap.size, 7, none⟩ = some (.int .i64 v) ∧ w'.cell? ⟨w2.heap.size, 8, none⟩ = some (.int .i64 z))) (by kernel_rfl) (HSX.out _ (S16.out.call (Below.refl _ _).drew)) (fun hHeld => ?_)
        refine wpAnyH_take (i := 0) (v := ?_) rfl (by kernel_rfl) (by kernel_rfl) (by kernel_rfl) (fun _ _ _ h => h) (Or.inl ⟨by kernel_rfl, ?_⟩) (by assumption) ?_
        rotate_left
        · (intro w hSw; (try dsimp only at hSw); go_simp; (try rw [if_neg (by (try simp only [ByteArray.size_append]); omega)]); (try with_reducible rfl))
        try simp only [Act.put]
        refine wpAnyH_take (i := 2) (v := ?_) rfl (by kernel_rfl) (by kernel_rfl) (by kernel_rfl) (fun _ _ _ h => h) (Or.inl ⟨by kernel_rfl, ?_⟩) (by assumption) ?_
        rotate_left
        · (intro w hSw; (try dsimp only at hSw); go_simp; (try rw [if_neg (by (try simp only [ByteArray.size_append]); omega)]); (try with_reducible rfl))
        try simp only [Act.put]
        refine wpAnyH_take (i := 5) (v := ?_) rfl (by kernel_rfl) (by kernel_rfl) (by kernel_rfl) (fun _ _ _ h => h) (Or.inl ⟨by kernel_rfl, ?_⟩) (by assumption) ?_
        rotate_left
        · (intro w hSw; (try dsimp only at hSw); go_simp; (try rw [if_neg (by (try simp only [ByteArray.size_append]); omega)]); (try with_reducible rfl))
        try simp only [Act.put]
        refine wpAnyH_take (i := 6) (v := ?_) rfl (by kernel_rfl) (by kernel_rfl) (by kernel_rfl) (fun _ _ _ h => h) (Or.inl ⟨by kernel_rfl, ?_⟩) (by assumption) ?_
        rotate_left
        · (intro w hSw; (try dsimp only at hSw); go_simp; (try rw [if_neg (by (try simp only [ByteArray.size_append]); omega)]); (try with_reducible rfl))
        try simp only [Act.put]
        refine wpAnyH_take (i := 7) (v := ?_) rfl (by kernel_rfl) (by kernel_rfl) (by kernel_rfl) (fun _ _ _ h => h) (Or.inl ⟨by kernel_rfl, ?_⟩) (by assumption) ?_
        rotate_left
        · (intro w hSw; (try dsimp only at hSw); go_simp; (try simp only [qe2, Bool.not_false]); (try with_reducible rfl))
        try simp only [Act.put]
        refine wpAnyH_ready (rs := [1]) (by kernel_rfl) (by simp) ?_
        refine AllReadyH.cons rfl (fun K hK => ?_) AllReadyH.nil
        go_simp
        try rw [if_neg (by assumption)]
        refine (HK2.out _ (HM.out _ (S16.out.call (Below.refl _ _).drew).below)).mono ?_
        rintro e wj ⟨rfl, hb⟩
        replace hb := bdrew hb
        have S17 := Lib.hid (S16.out.call hb)
        refine hK.out _ _ (HSX.out _ S17.out) (fun hHeld => ?_)
        clear hK K hb S16
        try simp only [Act.put]
        refine wpAnyH_ready (rs := [3]) (by kernel_rfl) (by simp) ?_
        refine AllReadyH.cons rfl (fun K hK => ?_) AllReadyH.nil
        go_simp
        try rw [if_neg (by assumption)]
        refine (HK4.out _ (HM.out _ S17.out.below)).mono ?_
        rintro e wk ⟨rfl, hb⟩
        have S18 := Lib.hid (S17.out.call hb)
        refine hK.out _ _ (HSX.out _ S18.out) (fun hHeld => ?_)
        clear hK K hb S17
        try simp only [Act.put]
        refine wpAnyH_take (i := 4) (v := ?_) rfl (by kernel_rfl) (by kernel_rfl) (by kernel_rfl) (fun _ _ _ h => h) (Or.inl ⟨by kernel_rfl, ?_⟩) (by assumption) ?_
        rotate_left
        · (intro w hSw; (try dsimp only at hSw); go_simp; (try simp only [qe1, Bool.not_false]); (try with_reducible rfl))
        try simp only [Act.put]
        refine wpAnyH_take (i := 8) (v := ?_) rfl (by kernel_rfl) (by kernel_rfl) (by kernel_rfl) (fun _ _ _ h => h) (Or.inl ⟨by kernel_rfl, ?_⟩) (by assumption) ?_
        rotate_left
        · (intro w hSw; (try dsimp only at hSw); go_simp; (try rw [if_neg (by (try simp only [ByteArray.size_append]); omega)]); (try with_reducible rfl))
        try simp only [Act.put]
        refine wpAnyH_take (i := 9) (v := ?_) rfl (by kernel_rfl) (by kernel_rfl) (by kernel_rfl) (fun _ _ _ h => h) (Or.inl ⟨by kernel_rfl, ?_⟩) (by assumption) ?_
        rotate_left
        · (intro w hSw; (try dsimp only at hSw); go_simp; (try rw [if_neg (by (try simp only [ByteArray.size_append]); omega)]); (try with_reducible rfl))
        try simp only [Act.put]
        refine wpAnyH_take (i := 10) (v := ?_) rfl (by kernel_rfl) (by kernel_rfl) (by kernel_rfl) (fun _ _ _ h => h) (Or.inl ⟨by kernel_rfl, ?_⟩) (by assumption) ?_
        rotate_left
        · (intro w hSw; (try dsimp only at hSw); go_simp; (try rw [if_neg (by (try simp only [ByteArray.size_append]); omega)]); (try with_reducible rfl))
        try simp only [Act.put]
        refine wpAnyH_take (i := 13) (v := ?_) rfl (by kernel_rfl) (by kernel_rfl) (by kernel_rfl) (fun _ _ _ h => h) (Or.inl ⟨by kernel_rfl, ?_⟩) (by assumption) ?_
        rotate_left
        · (intro w hSw; (try dsimp only at hSw); go_simp; (try rw [if_neg (by (try simp only [ByteArray.size_append]); omega)]); (try with_reducible rfl))
        try simp only [Act.put]
        refine wpAnyH_ready (rs := [11]) (by kernel_rfl) (by simp) ?_
        refine AllReadyH.cons rfl (fun K hK => ?_) AllReadyH.nil
        go_simp
        try rw [if_neg (by assumption)]
        refine (HCO.out _).mono ?_
        rintro e wl ⟨rfl, hb⟩
        have S19 := Lib.hid (S18.out.call hb)
        refine hK.out _ _ (HSX.out _ S19.out) (fun hHeld => ?_)
        clear hK K hb S18
        try simp only [Act.put]
        refine wpAnyH_ready (rs := [12]) (by kernel_rfl) (by simp) ?_
        refine AllReadyH.cons rfl (fun K hK => ?_) AllReadyH.nil
        go_simp
        try rw [if_neg (by assumption)]
        refine (HK5.out _ (HM.out _ S19.out.below)).mono ?_
        rintro e wm ⟨rfl, hb⟩
        have S20 := Lib.hid (S19.out.call hb)
        refine hK.out _ _ (HSX.out _ S20.out) (fun hHeld => ?_)
        clear hK K hb S19
        try simp only [Act.put]
        refine wpAnyH_ready (rs := [14]) (by kernel_rfl) (by simp) ?_
        refine AllReadyH.cons rfl (fun K hK => ?_) AllReadyH.nil
        go_simp
        try rw [if_neg (by assumption)]
        refine (HKEY.out _ _ _ (HM.out _ S20.out.below)).mono ?_
        rintro e wn ⟨rfl, hb⟩
        have S21 := Lib.hid (S20.out.call hb)
        refine hK.out _ _ (HSX.out _ S21.out) (fun hHeld => ?_)
        clear hK K hb S20
        try simp only [Act.put]
        refine wpAnyH_take (i := 15) (v := ?_) rfl (by kernel_rfl) (by kernel_rfl) (by kernel_rfl) (fun _ _ _ h => h) (Or.inl ⟨by kernel_rfl, ?_⟩) (by assumption) ?_
        rotate_left
        · (intro w hSw; (try dsimp only at hSw); go_simp; (try simp only [q1, Bool.not_false]); (try with_reducible rfl))
        try simp only [Act.put]
        refine wpAnyH_take (i := 16) (v := ?_) rfl (by kernel_rfl) (by kernel_rfl) (by kernel_rfl) (fun _ _ _ h => h) (Or.inl ⟨by kernel_rfl, ?_⟩) (by assumption) ?_
        rotate_left
        · (intro w hSw; (try dsimp only at hSw); go_simp; (try rw [if_neg (by (try simp only [ByteArray.size_append]); omega)]); (try with_reducible rfl))
        try simp only [Act.put]
        refine wpAnyH_take (i := 17) (v := ?_) rfl (by kernel_rfl) (by kernel_rfl) (by kernel_rfl) (fun _ _ _ h => h) (Or.inl ⟨by kernel_rfl, ?_⟩) (by assumption) ?_
        rotate_left
        · (intro w hSw; (try dsimp only at hSw); go_simp; (try rw [if_neg (by (try simp only [ByteArray.size_append]); omega)]); (try with_reducible rfl))
        try simp only [Act.put]
        refine wpAnyH_ready (rs := [18]) (by kernel_rfl) (by simp) ?_
        refine AllReadyH.cons rfl (fun K hK => ?_) AllReadyH.nil
        go_simp
        try rw [if_neg (by assumption)]
        refine (HLV.out _ S21.out.below).mono ?_
        rintro e wo ⟨rfl, hb⟩
        have S22 := Lib.hid (S21.out.call hb)
        refine hK.out _ _ (HSX.out _ S22.out) (fun hHeld => ?_)
        clear hK K hb S21
        try simp only [Act.put]
        refine wpAnyH_take (i := 19) (v := ?_) rfl (by kernel_rfl) (by kernel_rfl) (by kernel_rfl) (fun _ _ _ h => h) (Or.inl ⟨by kernel_rfl, ?_⟩) (by assumption) ?_
        rotate_left
        · (intro w hSw; (try dsimp only at hSw); go_simp; (try rw [if_neg (by (try simp only [ByteArray.size_append]); omega)]); (try with_reducible rfl))
        try simp only [Act.put]
        refine wpAnyH_ready (rs := [20]) (by kernel_rfl) (by simp) ?_
        refine AllReadyH.cons rfl (fun K hK => ?_) AllReadyH.nil
        go_simp
        refine hK.out _ _ ((HSX.out _ S22.out)) (fun hHeld => ?_)
        clear hK K
        try simp only [Act.put]
        refine wpAnyH_done (by kernel_rfl) ?_ _
        try simp only [Act.put]
        have HF := Lib.hid S22.out.below
        clear S22 HSX hHeld
        go_wp2_with fail
        go_ret
        exact ⟨rfl, HF.out⟩

end Go.Proofs.YtjollcacgnfabaaDoor
