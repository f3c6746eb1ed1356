/- Digits; Around; Decimal and Itoa at one digit. -/
import Derived.Test.YtjollcacgnfabaaDoorIn
import Derived.Test.YtjollcacgnfabaaDoorPlain
import Derived.Test.YtjollcacgnfabaaDoorArgB
import Derived.Shelf.Strconv.Itoa3
import Derived.Laws.IdiomStrings
import Derived.BigQuiet
namespace Go.Proofs.YtjollcacgnfabaaDoor
open Go.RowKit Go.Lib
attribute [local go_sem ↓] Go.wp_at_zero Go.wp_at_succ

theorem below_drewN {n nq : Nat} {w w' : World} (h : Below n w w') : Below n w (w'.drewN nq) := ⟨h.os, h.tape, h.output, h.size, h.block⟩

theorem bytes_ext {s t : ByteArray} (h : s.data.toList = t.data.toList) : s = t := by
  obtain ⟨⟨a⟩⟩ := s
  obtain ⟨⟨b⟩⟩ := t
  have h' : a = b := h
  rw [h']

def digit (r : Nat) : ByteArray := ⟨#[UInt8.ofNat (48 + r)]⟩

theorem dec_facts : ∀ r : Nat, r ≤ 9 → (Lib.decDigits r) = [UInt8.ofNat (48 + r)] := by
  intro r h2
  have : r = 0 ∨ r = 1 ∨ r = 2 ∨ r = 3 ∨ r = 4 ∨ r = 5 ∨ r = 6 ∨ r = 7 ∨ r = 8 ∨ r = 9 := by omega
  rcases this with rfl | rfl | rfl | rfl | rfl | rfl | rfl | rfl | rfl | rfl <;> (unfold Lib.decDigits; rfl)

theorem itoa_any (r : Nat) (h1 : r ≤ 9) (w : World) :
    Calls Tryd.prog 46 #[.int .i64 r] w fun e w' => e = .returned (.string (digit r)) ∧ w' = w := by
  have h : Calls Tryd.prog 46 #[.int .i64 r] w fun e w' => e = .returned (.string ⟨(Lib.decDigits r).toArray⟩) ∧ w' = w := Any.strconv_Itoa_small Tryd.lays171 r (by omega) w
  rw [dec_facts r h1] at h
  exact h

def around (n m : Int) : Int := (if n < 0 then -(n+1) else n) % m
theorem around_bd (n : Int) {m : Int} (hm : 1 ≤ m) : 0 ≤ around n m ∧ around n m < m := ⟨Int.emod_nonneg _ (by omega), Int.emod_lt_of_pos _ (by omega)⟩

set_option maxHeartbeats 400000 in
theorem around_any (n m : Int) (w : World) (h1 : -9223372036854775808 ≤ n) (h2 : n ≤ 9223372036854775807) (hm : 1 ≤ m) (hm2 : m ≤ 9223372036854775807) :
    Calls Tryd.prog 22 #[.int .i64 n, .int .i64 m] w fun e w' => e = .returned (.int .i64 (around n m)) ∧ w = w' := by
  by_cases h : n < 0
  · go_enter Tryd.func22, Tryd.ntmps22
    go_wp2
    go_ret
    exact ⟨ret_int (by rw [around, if_pos h, ← Int.tmod_eq_emod_of_nonneg (by omega), Int.neg_tmod]), rfl⟩
  · go_enter Tryd.func22, Tryd.ntmps22
    go_wp2
    go_ret
    exact ⟨ret_int (by rw [around, if_neg (by omega)]), rfl⟩

theorem conv1 (w : World) (x : Int) (h0 : 0 ≤ x) (h1 : x < 10) :
    (convert 76 9 (.slice (some ⟨w.heap.size, 0, none⟩) 1 1)).run Tryd.prog (w.alloc (.cells #[.int .u8 (48 + x)] 5)) = .ok (.string ⟨[UInt8.ofNat (48 + x).toNat].toArray⟩) (w.alloc (.cells #[.int .u8 (48 + x)] 5)) := by
  refine run_convert_bytes_back (P := Tryd.prog) (w.alloc (.cells #[.int .u8 (48 + x)] 5)) 76 9 5 ⟨w.heap.size, 0, none⟩ 1 [UInt8.ofNat (48 + x).toNat] Tryd.underlying76 Tryd.underlying5 Tryd.underlying9 ?_
  intro j hj
  have : j = 0 := by simp at hj; omega
  subst this
  rw [Addr.add_lit]
  rw [block_cell (heap_alloc_new w _) 0 (.int .u8 (48 + x)) rfl]
  have : ((UInt8.ofNat (48 + x).toNat).toNat : Int) = 48 + x := by
    rw [UInt8.toNat_ofNat']; omega
  rw [show ([UInt8.ofNat (48 + x).toNat] : List UInt8)[0] = UInt8.ofNat (48 + x).toNat from rfl, this]

set_option maxRecDepth 8000 in
theorem dec1 (r : Nat) (w : World) (h1 : r < 10) : Calls Tryd.prog 37 #[.int .i64 r] w fun e w' => e = .returned (.string (digit r)) ∧ Below w.heap.size w w' := by
  have hc := conv1 w ((r : Int) % 10) (by omega) (by omega)
  have t1 : decide ((r : Int) % 10 < 0) = false := decide_eq_false (by omega)
  have hx : (48 + (r : Int) % 10).toNat = 48 + r := by omega
  rw [show (⟨[UInt8.ofNat (48 + (r : Int) % 10).toNat].toArray⟩ : ByteArray) = digit r by unfold digit; rw [hx]] at hc
  clear hx
  go_enter Tryd.func37, Tryd.ntmps37
  go_wp2_with fail
  go_ret
  exact ⟨rfl, (Below.refl _ _).alloc (Nat.le_refl _) _⟩

theorem data_append (a b : ByteArray) : (a ++ b).data.toList = a.data.toList ++ b.data.toList := by simp

end Go.Proofs.YtjollcacgnfabaaDoor
