/- The document's Key. -/
import Derived.Test.YtjollcacgnfabaaDoorC24
import Derived.Test.YtjollcacgnfabaaDoorC5
import Derived.WalkSpells
namespace Go.Proofs.YtjollcacgnfabaaDoor
open Go.RowKit
attribute [local go_sem ↓] Go.wp_at_zero Go.wp_at_succ

structure KI (s o : ByteArray) (b : Bool) (k : Nat) : Prop where
  le : k ≤ s.size
  size : o.size ≤ k
  all : o.data.toList ++ keyFrom b (s.data.toList.drop k) = keyFrom false s.data.toList
theorem KI.start (s : ByteArray) : KI s ⟨#[]⟩ false 0 := ⟨Nat.zero_le _, Nat.le_refl _, by simp⟩
theorem KI.done {s o : ByteArray} {b : Bool} {k : Nat} (h : KI s o b k) (hk : ¬ k < s.size) : o = keyOf s := by
  apply bytes_ext
  have h1 := h.all
  have h2 := Lib.size_eq s
  rw [List.drop_eq_nil_of_le (by have := h.le; omega), keyFrom, List.append_nil] at h1
  rw [h1]
  unfold keyOf
  simp
theorem KI.drop {s : ByteArray} {k : Nat} (hk : k < s.size) {x : UInt8} (hx : s[k]'hk = x) : s.data.toList.drop k = x :: s.data.toList.drop (k + 1) := by
  have h2 : k < s.data.toList.length := by rw [← Lib.size_eq s]; exact hk
  rw [List.drop_eq_getElem_cons h2]
  congr 1
theorem KI.skip {s o : ByteArray} {b : Bool} {k : Nat} (h : KI s o b k) (hk : k < s.size) {x : UInt8} (hx : s[k]'hk = x) (hs : x = 58 ∨ (b = true ∧ isDig x = true)) : KI s o true (k + 1) := by
  refine ⟨by omega, by have := h.size; omega, ?_⟩
  have h1 := h.all
  rw [KI.drop hk hx, keyFrom, if_pos hs] at h1
  exact h1
theorem KI.take {s o : ByteArray} {b : Bool} {k : Nat} (h : KI s o b k) (hk : k < s.size) {x : UInt8} (hx : s[k]'hk = x) (hs : ¬ (x = 58 ∨ (b = true ∧ isDig x = true))) : KI s (o ++ s.extract k (k + 1)) false (k + 1) := by
  have e1 : (s.extract k (k + 1)).data.toList = [x] := by
    rw [ByteArray.data_extract, Array.toList_extract]
    show (s.data.toList.drop k).take (k + 1 - k) = [x]
    rw [KI.drop hk hx, show k + 1 - k = 1 by omega]
    rfl
  have e2 : (s.extract k (k + 1)).size = 1 := by rw [ByteArray.size_extract]; omega
  refine ⟨by omega, by rw [ByteArray.size_append, e2]; have := h.size; omega, ?_⟩
  have h1 := h.all
  rw [KI.drop hk hx, keyFrom, if_neg hs] at h1
  rw [data_append, e1, List.append_assoc]
  exact h1

set_option maxRecDepth 8000 in
set_option maxHeartbeats 1000000 in
theorem rkey_any (c : Cx) (hs : c.call.size ≤ 1000000) (w : World) :
    Calls Tryd.prog 35 #[cxV c] w fun e w' => e = .returned (.string (keyOf c.call)) ∧ Below w.heap.size w w' := by
  obtain ⟨q, s, t, a, b, d, u, v, z⟩ := c
  dsimp only at hs
  unfold cxV cxCells
  dsimp only
  obtain ⟨W, hW⟩ : ∃ W, w.alloc (.cells #[.int .i64 q, .string s, .int .i64 t, .bool a, .bool b, .int .i64 d, .int .i64 u, .int .i64 v, .int .i64 z] 24) = W := ⟨_, rfl⟩
  have hbx := heap_alloc_new w (.cells #[.int .i64 q, .string s, .int .i64 t, .bool a, .bool b, .int .i64 d, .int .i64 u, .int .i64 v, .int .i64 z] 24)
  have hb : Below w.heap.size w W := by rw [← hW]; exact (Below.refl _ _).alloc (Nat.le_refl _) _
  rw [hW] at hbx
  have HB := Lib.hid hb
  have r0 := block_cell hbx 0 _ rfl
  have r1 := block_cell hbx 1 _ rfl
  have r2 := block_cell hbx 2 _ rfl
  have r3 := block_cell hbx 3 _ rfl
  have r4 := block_cell hbx 4 _ rfl
  have r5 := block_cell hbx 5 _ rfl
  have r6 := block_cell hbx 6 _ rfl
  have r7 := block_cell hbx 7 _ rfl
  have r8 := block_cell hbx 8 _ rfl
  clear hbx hb
  have HDN : Hid (∀ o b k, KI s o b k → ¬ k < s.size → o = keyOf s) := fun o b k h hk => h.done hk
  obtain ⟨ky, hky⟩ : ∃ ky, ky = keyOf s := ⟨_, rfl⟩
  rw [← hky] at HDN ⊢
  have HST := Lib.hid (KI.start s)
  clear hky
  go_enter Tryd.func35, Tryd.ntmps35
  go_wp2_with fail
  go_loopw [3, 4, 5] (fun vo vb vi wr => ∃ (o : ByteArray) (b : Bool) (k : Nat), vo = .string o ∧ vb = .bool b ∧ vi = .int .i64 k ∧ KI s o b k ∧ wr = W) (fun _ _ vi _ => (s.size - intOf vi).toNat)
  case atStart => exact ⟨_, _, 0, rfl, rfl, rfl, HST.out, rfl⟩
  case round =>
    obtain ⟨o, sk, k, rfl, rfl, rfl, hinv, rfl⟩ := hrel
    have HI := Lib.hid hinv
    have hle := hinv.le
    have hoz := hinv.size
    clear hinv
    by_cases hlt : k < s.size
    · have t1 : (k : Int) < (s.size : Int) := by omega
      have i0 : (0 : Int) ≤ (k : Int) := by omega
      have i1 : (0 : Int) ≤ (k : Int) + 1 := by omega
      have i2 : (k : Int) + 1 ≤ (s.size : Int) := by omega
      have i3 : (k : Int) ≤ (s.size : Int) := by omega
      obtain ⟨x, hx⟩ : ∃ x, s[k]'hlt = x := ⟨_, rfl⟩
      have hxb := x.toNat_lt
      have HSK := Lib.hid (HI.out.skip hlt hx)
      have HTK := Lib.hid (HI.out.take hlt hx)
      have ez : (s.extract k (k + 1)).size = 1 := by rw [ByteArray.size_extract]; omega
      obtain ⟨y, hy⟩ : ∃ y, y = s.extract k (k + 1) := ⟨_, rfl⟩
      rw [← hy] at HTK ez
      have hsl : ∀ w, (Instr.slice 9 (.string s) (some (.int .i64 (k : Int))) (some (.int .i64 ((k : Int) + 1))) none).run Tryd.prog w = .ok (.string y) w := fun w => by
        rw [hy]
        have := run_slice_string (P := Tryd.prog) w 9 s .i64 .i64 (k : Int) ((k : Int) + 1) Tryd.underlying9 (by omega) (by omega) (by omega)
        simpa using this
      by_cases h58 : x = 58
      · have HS := Lib.hid (HSK.out (.inl h58))
        have t2 : (48 : Int) ≤ (x.toNat : Int) := by rw [h58]; decide
        have t3 : ¬ (x.toNat : Int) ≤ 57 := by rw [h58]; decide
        have t4 : ((x.toNat : Int) == 58) = true := by rw [h58]; rfl
        clear h58 HSK HTK HI hy
        cases sk
        · go_wp2_with fail
          go_roundw
          case rel => exact ⟨_, _, k + 1, rfl, rfl, by go_num, HS.out, trivial⟩
          case measure => simp [intOf]; omega
        · go_wp2_with fail
          go_roundw
          case rel => exact ⟨_, _, k + 1, rfl, rfl, by go_num, HS.out, trivial⟩
          case measure => simp [intOf]; omega
      have t4 : ((x.toNat : Int) == 58) = false := beq_eq_false_iff_ne.2 (fun e => h58 (UInt8.toNat_inj.1 (by show x.toNat = 58; omega)))
      by_cases hd : isDig x = true
      · have hdd := (isDig_iff x).1 hd
        have t2 : (48 : Int) ≤ (x.toNat : Int) := by omega
        have t3 : (x.toNat : Int) ≤ 57 := by omega
        clear hdd
        cases sk
        · have HS := Lib.hid (HTK.out (by rintro (h | ⟨h, _⟩); exact h58 h; exact absurd h (by decide)))
          clear HSK HTK HI hy hd h58
          go_wp2_with fail
          go_roundw
          case rel => exact ⟨_, _, k + 1, rfl, rfl, by go_num, HS.out, trivial⟩
          case measure => simp [intOf]; omega
        · have HS := Lib.hid (HSK.out (.inr ⟨rfl, hd⟩))
          clear HSK HTK HI hy hd h58
          go_wp2_with fail
          go_roundw
          case rel => exact ⟨_, _, k + 1, rfl, rfl, by go_num, HS.out, trivial⟩
          case measure => simp [intOf]; omega
      · have HS := Lib.hid (HTK.out (by rintro (h | ⟨_, h⟩); exact h58 h; exact hd h))
        have hnd : ¬ (48 ≤ x.toNat ∧ x.toNat ≤ 57) := fun e => hd ((isDig_iff x).2 e)
        clear HSK HTK HI hy hd h58
        by_cases h48 : (48 : Int) ≤ (x.toNat : Int)
        · have t3 : ¬ (x.toNat : Int) ≤ 57 := by omega
          clear hnd
          cases sk
          · go_wp2_with fail
            go_roundw
            case rel => exact ⟨_, _, k + 1, rfl, rfl, by go_num, HS.out, trivial⟩
            case measure => simp [intOf]; omega
          · go_wp2_with fail
            go_roundw
            case rel => exact ⟨_, _, k + 1, rfl, rfl, by go_num, HS.out, trivial⟩
            case measure => simp [intOf]; omega
        · clear hnd
          cases sk
          · go_wp2_with fail
            go_roundw
            case rel => exact ⟨_, _, k + 1, rfl, rfl, by go_num, HS.out, trivial⟩
            case measure => simp [intOf]; omega
          · go_wp2_with fail
            go_roundw
            case rel => exact ⟨_, _, k + 1, rfl, rfl, by go_num, HS.out, trivial⟩
            case measure => simp [intOf]; omega
    · have HE := Lib.hid (HDN.out o sk k HI.out hlt)
      have t1 : ¬ (k : Int) < (s.size : Int) := by omega
      clear HI
      go_wp2_with fail
      go_ret
      rw [← HE.out]
      exact ⟨rfl, HB.out⟩

end Go.Proofs.YtjollcacgnfabaaDoor
