/- Around, pick, Decimal. -/
import Derived.Test.YtkpjjhiighakfaaGreatDoorB21
import Derived.Test.YtkpjjhiighakfaaGreatDoorArgB
import Derived.Laws.IdiomStrings
namespace Go.Proofs.YtkpjjhiighakfaaGreatDoor
open Go.RowKit
attribute [local go_sem ↓] Go.wp_at_zero Go.wp_at_succ

def around (n m : Int) : Int := (if n < 0 then -(n+1) else n) % m
theorem around_bd (n : Int) {m : Int} (hm : 1 ≤ m) : 0 ≤ around n m ∧ around n m < m := ⟨Int.emod_nonneg _ (by omega), Int.emod_lt_of_pos _ (by omega)⟩

set_option maxHeartbeats 400000 in
theorem around_any (n m : Int) (w : World) (h1 : -9223372036854775808 ≤ n) (h2 : n ≤ 9223372036854775807) (hm : 1 ≤ m) (hm2 : m ≤ 9223372036854775807) :
    Calls Tryz.prog 33 #[.int .i64 n, .int .i64 m] w fun e w' => e = .returned (.int .i64 (around n m)) ∧ w = w' := by
  by_cases h : n < 0
  · go_enter Tryz.func33, Tryz.ntmps33
    go_wp2
    go_ret
    exact ⟨ret_int (by rw [around, if_pos h, ← Int.tmod_eq_emod_of_nonneg (by omega), Int.neg_tmod]), rfl⟩
  · go_enter Tryz.func33, Tryz.ntmps33
    go_wp2
    go_ret
    exact ⟨ret_int (by rw [around, if_neg (by omega)]), rfl⟩

def pickI (l : List Int) (k : Nat) (m : Int) : Int := if k < l.length then around (l.getD k 0) m else 0
theorem pick_bd (l : List Int) (k : Nat) {m : Int} (hm : 1 ≤ m) : 0 ≤ pickI l k m ∧ pickI l k m < m := by
  unfold pickI
  split
  · exact around_bd _ hm
  · omega
theorem pick_lo (l : List Int) (k : Nat) {m : Int} (hm : 1 ≤ m) : 0 ≤ pickI l k m := (pick_bd l k hm).1

set_option maxRecDepth 8000 in
theorem pick_any {w : World} {A : Option Addr} {n : Nat} {l : List Int} (h : ArgInts w A n l) (cap : Nat) (k m : Int) (j : Nat) (hj : k = j) (hj2 : j ≤ 1000) (hm : 1 ≤ m) (hm2 : m ≤ 1000000) :
    Calls Tryz.prog 19 #[.slice A n cap, .int .i64 k, .int .i64 m] w fun e w' => e = .returned (.int .i64 (pickI l j m)) ∧ w = w' := by
  subst hj
  obtain ⟨h0, h1, h2, h3⟩ := h
  by_cases hlt : j < n
  · have HP : Hid (pickI l j m = around (l.getD j 0) m) := by unfold pickI; exact if_pos (by omega)
    have hb := h2 (l.getD j 0) (by rw [List.getD_eq_getElem?_getD, List.getElem?_eq_getElem (show j < l.length by omega), Option.getD_some]; exact List.getElem_mem _)
    obtain ⟨b, off, rfl, hc⟩ := h3.resolve_left (by omega)
    have c0 := hc j (by omega)
    rw [show l[j]'(by omega) = l.getD j 0 by rw [List.getD_eq_getElem?_getD, List.getElem?_eq_getElem (show j < l.length by omega), Option.getD_some]] at c0
    obtain ⟨x, hx⟩ : ∃ x, x = l.getD j 0 := ⟨_, rfl⟩
    rw [← hx] at c0 hb HP
    have i1 : (0 : Int) ≤ (j : Int) := by omega
    have i2 : (j : Int) < (n : Int) := by omega
    have HA := Lib.hid (around_any x m w hb.1 hb.2 hm (by omega))
    clear hc h3 h2 h0 hx
    go_enter Tryz.func19, Tryz.ntmps19
    go_wp2_with fail
    refine HA.out.mono ?_
    rintro e w' ⟨rfl, rfl⟩
    go_wp2_with fail
    go_ret
    rw [HP.out]
    exact ⟨rfl, rfl⟩
  · have HP : Hid (pickI l j m = 0) := by unfold pickI; exact if_neg (by omega)
    have i2 : (n : Int) ≤ (j : Int) := by omega
    clear h3 h2 h0
    go_enter Tryz.func19, Tryz.ntmps19
    go_wp2_with fail
    go_ret
    rw [HP.out]
    exact ⟨rfl, rfl⟩

/-- Some text. -/
def SomeText (k : Nat) (w : World) (e : Ending) (w' : World) : Prop := ∃ s : ByteArray, s.size ≤ k ∧ e = .returned (.string s) ∧ Below w.heap.size w w'

theorem conv1 (w : World) (x : Int) (h0 : 0 ≤ x) (h1 : x < 10) :
    (convert 87 9 (.slice (some ⟨w.heap.size, 0, none⟩) 1 1)).run Tryz.prog (w.alloc (.cells #[.int .u8 (48 + x)] 5)) = .ok (.string ⟨[UInt8.ofNat (48 + x).toNat].toArray⟩) (w.alloc (.cells #[.int .u8 (48 + x)] 5)) := by
  refine run_convert_bytes_back (P := Tryz.prog) (w.alloc (.cells #[.int .u8 (48 + x)] 5)) 87 9 5 ⟨w.heap.size, 0, none⟩ 1 [UInt8.ofNat (48 + x).toNat] Tryz.underlying87 Tryz.underlying5 Tryz.underlying9 ?_
  intro j hj
  have : j = 0 := by simp at hj; omega
  subst this
  rw [Addr.add_lit]
  rw [block_cell (heap_alloc_new w _) 0 (.int .u8 (48 + x)) rfl]
  have : ((UInt8.ofNat (48 + x).toNat).toNat : Int) = 48 + x := by
    rw [UInt8.toNat_ofNat']; omega
  rw [show ([UInt8.ofNat (48 + x).toNat] : List UInt8)[0] = UInt8.ofNat (48 + x).toNat from rfl, this]

set_option maxRecDepth 8000 in
theorem dec1 (n : Int) (w : World) (h0 : 0 ≤ n) (h1 : n < 10) : Calls Tryz.prog 27 #[.int .i64 n] w (SomeText 1 w) := by
  have hc := conv1 w (n % 10) (by omega) (by omega)
  have t1 : decide (n % 10 < 0) = false := decide_eq_false (by omega)
  go_enter Tryz.func27, Tryz.ntmps27
  go_wp2_with fail
  go_ret
  exact ⟨_, by show (1 : Nat) ≤ 1; omega, rfl, (Below.refl _ _).alloc (Nat.le_refl _) _⟩

set_option maxRecDepth 8000 in
theorem dec_more (k : Nat) (hk : k ≤ 10) (K : Int) (hK : K ≤ 1000) (ih : ∀ (n : Int) (w : World), 0 ≤ n → n < K → Calls Tryz.prog 27 #[.int .i64 n] w (SomeText k w))
    (n : Int) (w : World) (h0 : 10 ≤ n) (h1 : n < 10 * K) : Calls Tryz.prog 27 #[.int .i64 n] w (SomeText (k + 1) w) := by
  have hc := conv1 w (n % 10) (by omega) (by omega)
  have t1 : decide (n % 10 < 0) = false := decide_eq_false (by omega)
  have IH := Lib.hid ih
  clear ih
  go_enter Tryz.func27, Tryz.ntmps27
  go_wp2_with fail
  refine (IH.out _ _ (by omega) (by omega)).mono ?_
  rintro e w2 ⟨s, hs, rfl, hb⟩
  have HB := Lib.hid (((Below.refl w.heap.size w).alloc (Nat.le_refl _) _).trans (hb.mono (by simp)))
  clear hb
  go_wp2_with fail
  go_ret
  refine ⟨_, ?_, rfl, HB.out⟩
  rw [ByteArray.size_append]
  exact Nat.succ_le_succ hs

theorem decimal_any (n : Int) (w : World) (h0 : 0 ≤ n) (h1 : n < 1000) : Calls Tryz.prog 27 #[.int .i64 n] w (SomeText 3 w) := by
  have up : ∀ {k : Nat} {e : Ending} {w' : World}, k ≤ 3 → SomeText k w e w' → SomeText 3 w e w' := fun hk ⟨s, hs, h⟩ => ⟨s, by omega, h⟩
  have h2 : ∀ (n : Int) (w : World), 0 ≤ n → n < 100 → Calls Tryz.prog 27 #[.int .i64 n] w (SomeText 2 w) := fun n w h0 h1 => by
    by_cases hn : n < 10
    · exact (dec1 n w h0 hn).mono fun _ _ ⟨s, hs, h⟩ => ⟨s, by omega, h⟩
    · exact dec_more 1 (by omega) 10 (by omega) dec1 n w (by omega) (by omega)
  by_cases hn : n < 10
  · exact (dec1 n w h0 hn).mono fun _ _ h => up (by omega) h
  · exact dec_more 2 (by omega) 100 (by omega) h2 n w (by omega) (by omega)

end Go.Proofs.YtkpjjhiighakfaaGreatDoor
