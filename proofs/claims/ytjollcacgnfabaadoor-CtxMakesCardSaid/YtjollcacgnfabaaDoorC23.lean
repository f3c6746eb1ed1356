/- The document's has, within, decimal. -/
import Derived.Test.YtjollcacgnfabaaDoorC16
namespace Go.Proofs.YtjollcacgnfabaaDoor
open Go.RowKit
attribute [local go_sem ↓] Go.wp_at_zero Go.wp_at_succ

theorem rwithin_any (n low high : Int) (w : World) :
    Calls Tryd.prog 43 #[.int .i64 n, .int .i64 low, .int .i64 high] w fun e w' => e = .returned (.bool (wi n low high)) ∧ w' = w := by
  unfold wi
  by_cases h1 : low ≤ n
  · by_cases h2 : n ≤ high
    · rw [decide_eq_true h1, decide_eq_true h2]
      go_enter Tryd.func43, Tryd.ntmps43
      go_wp2_with fail
      go_ret
      exact ⟨rfl, rfl⟩
    · rw [decide_eq_true h1, decide_eq_false h2]
      go_enter Tryd.func43, Tryd.ntmps43
      go_wp2_with fail
      go_ret
      exact ⟨rfl, rfl⟩
  · rw [decide_eq_false h1, Bool.false_and]
    go_enter Tryd.func43, Tryd.ntmps43
    go_wp2_with fail
    go_ret
    exact ⟨rfl, rfl⟩

set_option maxRecDepth 8000 in
set_option maxHeartbeats 1000000 in
theorem rhas_any (s : ByteArray) (hs : s.size ≤ 1000000) (w : World) :
    Calls Tryd.prog 41 #[.string s, .int .u8 126] w fun e w' => e = .returned (.bool (tilde s)) ∧ w' = w := by
  have HT : Hid (∀ i : Nat, s.data.toList[i]? = some 126 → tilde s = true) := fun i h => List.contains_iff_mem.2 (List.mem_of_getElem? h)
  have HF : Hid ((∀ j : Nat, j < s.size → s.data.toList[j]? ≠ some 126) → tilde s = false) := fun h => by
    cases ht : tilde s with
    | false => rfl
    | true =>
      obtain ⟨j, hj⟩ := List.getElem?_of_mem (List.contains_iff_mem.1 ht)
      have hlt := (List.getElem?_eq_some_iff.1 hj).1
      rw [← Lib.size_eq s] at hlt
      exact absurd hj (h j hlt)
  obtain ⟨y, hy⟩ : ∃ y, y = tilde s := ⟨_, rfl⟩
  rw [← hy] at HT HF ⊢
  clear hy
  go_enter Tryd.func41, Tryd.ntmps41
  go_wp2_with fail
  go_loopw [5] (fun v wr => ∃ i : Nat, v = .int .i64 i ∧ i ≤ s.size ∧ (∀ j, j < i → s.data.toList[j]? ≠ some 126) ∧ wr = w) (fun v _ => (s.size - intOf v).toNat)
  case atStart => exact ⟨0, rfl, Nat.zero_le _, fun j h => by omega, rfl⟩
  case round =>
    obtain ⟨i, rfl, hi, hno, rfl⟩ := hrel
    have HNO := Lib.hid hno
    by_cases hlt : i < s.size
    · have i0 : (0 : Int) ≤ (i : Int) := by omega
      have i1 : (i : Int) < (s.size : Int) := by omega
      obtain ⟨x, hx⟩ : ∃ x, s[i]'hlt = x := ⟨_, rfl⟩
      have hg := byte_get s i hlt
      rw [hx] at hg
      have HG := Lib.hid hg
      clear hno hg
      by_cases h47 : x = 126
      · have HE := Lib.hid (HT.out i (h47 ▸ HG.out))
        have t1 : ((x.toNat : Int) == 126) = true := by rw [h47]; rfl
        clear h47
        go_wp2_with fail
        go_ret
        rw [HE.out]
        exact ⟨rfl, rfl⟩
      · have t1 : ((x.toNat : Int) == 126) = false := beq_eq_false_iff_ne.2 (fun e => h47 (UInt8.toNat_inj.1 (by show x.toNat = 126; omega)))
        have HNEW : Hid (∀ j, j < i + 1 → s.data.toList[j]? ≠ some 126) := fun j h1 => by
          by_cases e : j = i
          · subst e; rw [HG.out]; exact fun e => h47 (Option.some.inj e)
          · exact HNO.out j (by omega)
        clear h47
        go_wp2_with fail
        go_roundw
        case rel => exact ⟨i + 1, by go_num, by omega, HNEW.out, trivial⟩
        case measure => simp [intOf]; omega
    · obtain rfl : i = s.size := by omega
      have t1 : ¬ ((s.size : Int) < (s.size : Int)) := by omega
      have HE := Lib.hid (HF.out HNO.out)
      clear hno
      go_wp2_with fail
      go_ret
      rw [HE.out]
      exact ⟨rfl, rfl⟩

/-- What decimal reads: at most eleven digits. -/
def scanC : List UInt8 → Int → Nat → Int × Nat
  | [], n, k => (n, k)
  | x :: t, n, k => if k < 11 ∧ isDig x = true then scanC t (10 * n + ((x.toNat : Int) - 48)) (k + 1) else (n, k)
def decF (s : ByteArray) : Int × Nat := scanC s.data.toList 0 0
def decBad (s : ByteArray) : Prop := (decF s).2 = 0 ∨ (1 < (decF s).2 ∧ s.data.toList[0]? = some 48) ∨ 2147483647 < (decF s).1
instance (s : ByteArray) : Decidable (decBad s) := by unfold decBad; infer_instance
def decV (s : ByteArray) : Int := if decBad s then 0 else (decF s).1
def decK (s : ByteArray) : Nat := if decBad s then 0 else (decF s).2

theorem scanB_count : ∀ (l : List UInt8) (n : Int) (k : Nat), k ≤ (scanB l n k).2
  | [], _, _ => Nat.le_refl _
  | x :: t, n, k => by
    rw [scanB]
    split
    · exact Nat.le_trans (Nat.le_succ k) (scanB_count t _ (k + 1))
    · exact Nat.le_refl _
theorem scanC_count : ∀ (l : List UInt8) (n : Int) (k : Nat), k ≤ (scanC l n k).2
  | [], _, _ => Nat.le_refl _
  | x :: t, n, k => by
    rw [scanC]
    split
    · exact Nat.le_trans (Nat.le_succ k) (scanC_count t _ (k + 1))
    · exact Nat.le_refl _
theorem scanB_great : ∀ (l : List UInt8) (n : Int) (k : Nat), 2147483647 < n → 2147483647 < (scanB l n k).1
  | [], _, _, h => h
  | x :: t, n, k, h => by
    rw [scanB]
    split
    · rw [if_neg (by omega)]; exact scanB_great t n (k + 1) h
    · exact h
theorem scanC_great : ∀ (l : List UInt8) (n : Int) (k : Nat), 2147483647 < n → 2147483647 < (scanC l n k).1
  | [], _, _, h => h
  | x :: t, n, k, h => by
    rw [scanC]
    split
    · rename_i hd
      have hb := (isDig_iff x).1 hd.2
      exact scanC_great t _ (k + 1) (by omega)
    · exact h
/-- Without a nought ahead the two ways of reading are one, or both are too great. -/
theorem scan_same : ∀ (l : List UInt8) (n : Int) (k : Nat), n ≤ 2147483647 → ((10 ^ k : Nat) : Int) ≤ n → scanB l n (k + 1) = scanC l n (k + 1) ∨ (2147483647 < (scanB l n (k + 1)).1 ∧ 2147483647 < (scanC l n (k + 1)).1)
  | [], _, _, _, _ => .inl rfl
  | x :: t, n, k, h1, h2 => by
    have hk : k < 10 := by
      by_cases e : k < 10
      · exact e
      · have h3 : 10 ^ 10 ≤ 10 ^ k := Nat.pow_le_pow_right (by decide) (by omega)
        have h4 : 10 ^ 10 = 10000000000 := by decide
        omega
    rw [scanB, scanC]
    by_cases hd : isDig x = true
    · have hb := (isDig_iff x).1 hd
      rw [if_pos hd, if_pos h1, if_pos ⟨by omega, hd⟩]
      by_cases hg : 10 * n + ((x.toNat : Int) - 48) ≤ 2147483647
      · refine scan_same t _ (k + 1) hg ?_
        rw [Nat.pow_succ]
        omega
      · exact .inr ⟨scanB_great t _ _ (by omega), scanC_great t _ _ (by omega)⟩
    · rw [if_neg hd, if_neg (fun h => hd h.2)]
      exact .inl rfl

theorem dec_num (s : ByteArray) : (decBad s ↔ numBad s 0 0) ∧ (¬ decBad s → decF s = numF s 0) := by
  unfold decBad numBad decF numF
  rw [List.drop_zero]
  cases hl : s.data.toList with
  | nil => exact ⟨⟨fun _ => .inl rfl, fun _ => .inl rfl⟩, fun _ => rfl⟩
  | cons x t =>
    rw [scanB, scanC]
    by_cases hd : isDig x = true
    · have hb := (isDig_iff x).1 hd
      rw [if_pos hd, if_pos (show (0 : Int) ≤ 2147483647 by decide), if_pos (show 0 < 11 ∧ isDig x = true from ⟨by decide, hd⟩)]
      have e0 : (10 * 0 + ((x.toNat : Int) - 48)) = (x.toNat : Int) - 48 := by omega
      rw [e0]
      by_cases h48 : x = 48
      · have ex : ((x.toNat : Int) - 48) = 0 := by rw [h48]; rfl
        rw [ex]
        cases t with
        | nil =>
          constructor
          · constructor
            · intro h; rcases h with h | ⟨h, _⟩ | h
              · cases h
              · exact absurd h (by show ¬ 1 < 1; decide)
              · exact absurd h (by show ¬ (2147483647 : Int) < 0; decide)
            · intro h; rcases h with h | ⟨h, _⟩ | h | h
              · cases h
              · exact absurd h (by show ¬ 1 < 1; decide)
              · exact absurd h (by show ¬ (0 : Int) < 0; decide)
              · exact absurd h (by show ¬ (2147483647 : Int) < 0; decide)
          · intro _; rfl
        | cons y t' =>
          rw [scanB, scanC]
          by_cases hy : isDig y = true
          · rw [if_pos hy, if_pos (show (0 : Int) ≤ 2147483647 by decide), if_pos (show 0 + 1 < 11 ∧ isDig y = true from ⟨by decide, hy⟩)]
            have cb := scanB_count t' (10 * 0 + ((y.toNat : Int) - 48)) (0 + 1 + 1)
            have cc := scanC_count t' (10 * 0 + ((y.toNat : Int) - 48)) (0 + 1 + 1)
            have hB : (x :: y :: t')[0]? = some 48 := by rw [h48]; rfl
            exact ⟨⟨fun _ => .inr (.inl ⟨by omega, hB⟩), fun _ => .inr (.inl ⟨by omega, hB⟩)⟩, fun h => absurd (.inr (.inl ⟨by omega, hB⟩)) h⟩
          · rw [if_neg hy, if_neg (fun h => hy h.2)]
            constructor
            · constructor
              · intro h; rcases h with h | ⟨h, _⟩ | h
                · cases h
                · exact absurd h (by show ¬ 1 < 1; decide)
                · exact absurd h (by show ¬ (2147483647 : Int) < 0; decide)
              · intro h; rcases h with h | ⟨h, _⟩ | h | h
                · cases h
                · exact absurd h (by show ¬ 1 < 1; decide)
                · exact absurd h (by show ¬ (0 : Int) < 0; decide)
                · exact absurd h (by show ¬ (2147483647 : Int) < 0; decide)
            · intro _; rfl
      · have hx1 : 1 ≤ (x.toNat : Int) - 48 := by
          have : x.toNat ≠ 48 := fun e => h48 (UInt8.toNat_inj.1 e)
          omega
        have hB : (x :: t)[0]? ≠ some 48 := fun e => h48 (Option.some.inj e)
        have cb := scanB_count t ((x.toNat : Int) - 48) (0 + 1)
        have cc := scanC_count t ((x.toNat : Int) - 48) (0 + 1)
        rcases scan_same t ((x.toNat : Int) - 48) 0 (by omega) (by simpa using hx1) with h | ⟨g1, g2⟩
        · rw [h] at cb ⊢
          have hpos : ∀ (l : List UInt8) (n : Int) (k : Nat), 0 ≤ n → 0 ≤ (scanC l n k).1 := by
            intro l
            induction l with
            | nil => intro n k h; exact h
            | cons a l ih =>
              intro n k h
              rw [scanC]
              split
              · rename_i hd; have := (isDig_iff a).1 hd.2; exact ih _ _ (by omega)
              · exact h
          have hp := hpos t ((x.toNat : Int) - 48) (0 + 1) (by omega)
          constructor
          · constructor
            · intro h; rcases h with h | ⟨_, h⟩ | h
              · omega
              · exact absurd h hB
              · exact .inr (.inr (.inr h))
            · intro h; rcases h with h | ⟨_, h⟩ | h | h
              · omega
              · exact absurd h hB
              · omega
              · exact .inr (.inr h)
          · intro _; rfl
        · exact ⟨⟨fun _ => .inr (.inr (.inr g1)), fun _ => .inr (.inr g2)⟩, fun h => absurd (.inr (.inr g2)) h⟩
    · rw [if_neg hd, if_neg (fun h => hd h.2)]
      exact ⟨⟨fun _ => .inl rfl, fun _ => .inl rfl⟩, fun _ => rfl⟩

end Go.Proofs.YtjollcacgnfabaaDoor
