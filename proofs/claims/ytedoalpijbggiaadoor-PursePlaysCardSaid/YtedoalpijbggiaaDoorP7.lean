/- Around; one digit; names of holders. -/
import Derived.Test.YtedoalpijbggiaaDoorP4
import Derived.Test.YtedoalpijbggiaaDoorArgB
import Derived.Laws.IdiomStrings
namespace Go.Proofs.YtedoalpijbggiaaDoor
open Go.RowKit
attribute [local go_sem ↓] Go.wp_at_zero Go.wp_at_succ

def around (n m : Int) : Int := (if n < 0 then -(n+1) else n) % m
theorem around_bd (n : Int) {m : Int} (hm : 1 ≤ m) : 0 ≤ around n m ∧ around n m < m := ⟨Int.emod_nonneg _ (by omega), Int.emod_lt_of_pos _ (by omega)⟩

set_option maxHeartbeats 400000 in
theorem around_any (n m : Int) (w : World) (h1 : -9223372036854775808 ≤ n) (h2 : n ≤ 9223372036854775807) (hm : 1 ≤ m) (hm2 : m ≤ 9223372036854775807) :
    Calls Tryd.prog 11 #[.int .i64 n, .int .i64 m] w fun e w' => e = .returned (.int .i64 (around n m)) ∧ w = w' := by
  by_cases h : n < 0
  · go_enter Tryd.func11, Tryd.ntmps11
    go_wp2
    go_ret
    exact ⟨ret_int (by rw [around, if_pos h, ← Int.tmod_eq_emod_of_nonneg (by omega), Int.neg_tmod]), rfl⟩
  · go_enter Tryd.func11, Tryd.ntmps11
    go_wp2
    go_ret
    exact ⟨ret_int (by rw [around, if_neg (by omega)]), rfl⟩

theorem conv1 (w : World) (x : Int) (h0 : 0 ≤ x) (h1 : x < 10) :
    (convert 76 9 (.slice (some ⟨w.heap.size, 0, none⟩) 1 1)).run Tryd.prog (w.alloc (.cells #[.int .u8 (48 + x)] 5)) = .ok (.string ⟨[UInt8.ofNat (48 + x).toNat].toArray⟩) (w.alloc (.cells #[.int .u8 (48 + x)] 5)) := by
  refine run_convert_bytes_back (P := Tryd.prog) (w.alloc (.cells #[.int .u8 (48 + x)] 5)) 76 9 5 ⟨w.heap.size, 0, none⟩ 1 [UInt8.ofNat (48 + x).toNat] Tryd.underlying76 Tryd.underlying5 Tryd.underlying9 ?_
  intro j hj
  have : j = 0 := by simp at hj; omega
  subst this
  rw [Addr.add_lit]
  rw [block_cell (heap_alloc_new w _) 0 (.int .u8 (48 + x)) rfl]
  have : ((UInt8.ofNat (48 + x).toNat).toNat : Int) = 48 + x := by
    rw [UInt8.toNat_ofNat']; omega
  rw [show ([UInt8.ofNat (48 + x).toNat] : List UInt8)[0] = UInt8.ofNat (48 + x).toNat from rfl, this]

set_option maxRecDepth 8000 in
theorem dec1 (r : Nat) (w : World) (h1 : r < 10) : Calls Tryd.prog 30 #[.int .i64 r] w fun e w' => e = .returned (.string (digit r)) ∧ Below w.heap.size w w' := by
  have hc := conv1 w ((r : Int) % 10) (by omega) (by omega)
  have t1 : decide ((r : Int) % 10 < 0) = false := decide_eq_false (by omega)
  have hx : (48 + (r : Int) % 10).toNat = 48 + r := by omega
  rw [show (⟨[UInt8.ofNat (48 + (r : Int) % 10).toNat].toArray⟩ : ByteArray) = digit r by unfold digit; rw [hx]] at hc
  clear hx
  go_enter Tryd.func30, Tryd.ntmps30
  go_wp2_with fail
  go_ret
  exact ⟨rfl, (Below.refl _ _).alloc (Nat.le_refl _) _⟩

/-- What may stand behind a holder's name: nothing, or a sign that parts, and what follows. -/
def TailOk (t : List UInt8) : Prop := (∀ b ∈ t, b.toNat < 128) ∧ (t = [] ∨ ∃ c t', t = c :: t' ∧ (c = 58 ∨ c = 47 ∨ c = 126))

theorem data_append (a b : ByteArray) : (a ++ b).data.toList = a.data.toList ++ b.data.toList := by simp

theorem holder_of {r : Nat} {s : ByteArray} {t : List UInt8} (h1 : 1 ≤ r) (h2 : r ≤ 9) (hs : s.data.toList = UInt8.ofNat (48 + r) :: t) (ht : TailOk t) (hz : t.length ≤ 2000000000) : Holder r s := by
  have hsz : s.size = s.data.toList.length := rfl
  rw [hs] at hsz
  refine ⟨⟨h1, h2⟩, by rw [hsz, List.length_cons]; omega, fun j b hb => ?_, by rw [hs]; rfl, ?_⟩
  · rw [hs] at hb
    cases j with
    | zero =>
      have : some (UInt8.ofNat (48 + r)) = some b := hb
      injection this with this
      subst this
      rw [UInt8.toNat_ofNat']
      omega
    | succ j => exact ht.1 b (List.mem_of_getElem? (by simpa using hb))
  · rcases ht.2 with rfl | ⟨c, t', rfl, hc⟩
    · left; rw [hsz]; rfl
    · right; exact ⟨c, by rw [hs]; rfl, hc⟩

theorem Holder.more {r : Nat} {s u : ByteArray} (h : Holder r s) (hu : ∀ b ∈ u.data.toList, b.toNat < 128) (hh : ∃ c t', u.data.toList = c :: t' ∧ (c = 58 ∨ c = 47 ∨ c = 126)) (hz : (s ++ u).size ≤ 2000000000) : Holder r (s ++ u) := by
  obtain ⟨t, ht, h1⟩ := h.cons
  have ha := h.ascii
  rw [ht] at ha
  have hd : (s ++ u).data.toList = UInt8.ofNat (48 + r) :: (t ++ u.data.toList) := by rw [data_append, ht]; rfl
  refine holder_of h.pos.1 h.pos.2 hd ⟨fun b hb => ?_, ?_⟩ ?_
  · rcases List.mem_append.1 hb with hb | hb
    · obtain ⟨j, hj, e⟩ := List.mem_iff_getElem.1 hb
      exact ha (j + 1) b (by rw [List.getElem?_cons_succ, List.getElem?_eq_getElem hj, e])
    · exact hu b hb
  · right
    rcases h1 with rfl | ⟨c, t', rfl, hc⟩
    · exact hh
    · exact ⟨c, t' ++ u.data.toList, rfl, hc⟩
  · have : (s ++ u).size = (s ++ u).data.toList.length := rfl
    rw [hd, List.length_cons] at this
    omega

def tails : List ByteArray := [⟨#[]⟩, ⟨#[58, 49]⟩, ⟨#[58, 50]⟩, ⟨#[58, 49, 47, 48]⟩, ⟨#[58, 49, 47, 48, 58, 49]⟩, ⟨#[58, 49, 47, 49]⟩, ⟨#[126]⟩, ⟨#[126, 58, 49]⟩, ⟨#[58, 50, 47, 48]⟩, ⟨#[58, 49, 50, 47, 51]⟩]

theorem tails_ok : ∀ k, k < 10 → TailOk (tails.getD k ⟨#[]⟩).data.toList ∧ (tails.getD k ⟨#[]⟩).data.toList.length ≤ 6 := by
  intro k hk
  have : k = 0 ∨ k = 1 ∨ k = 2 ∨ k = 3 ∨ k = 4 ∨ k = 5 ∨ k = 6 ∨ k = 7 ∨ k = 8 ∨ k = 9 := by omega
  rcases this with rfl | rfl | rfl | rfl | rfl | rfl | rfl | rfl | rfl | rfl
  · exact ⟨⟨by decide, .inl rfl⟩, by decide⟩
  all_goals exact ⟨⟨by decide, .inr ⟨_, _, rfl, by decide⟩⟩, by decide⟩

theorem name_holder (r : Nat) (h1 : 1 ≤ r) (h2 : r ≤ 9) (k : Nat) (hk : k < 10) : Holder r (digit r ++ tails.getD k ⟨#[]⟩) ∧ (digit r ++ tails.getD k ⟨#[]⟩).size ≤ 7 := by
  obtain ⟨h3, h4⟩ := tails_ok k hk
  have hd : (digit r ++ tails.getD k ⟨#[]⟩).data.toList = UInt8.ofNat (48 + r) :: (tails.getD k ⟨#[]⟩).data.toList := by rw [data_append]; rfl
  refine ⟨holder_of h1 h2 hd h3 (by omega), ?_⟩
  have : (digit r ++ tails.getD k ⟨#[]⟩).size = (digit r ++ tails.getD k ⟨#[]⟩).data.toList.length := rfl
  rw [this, hd, List.length_cons]
  omega

def nameOf (r : Nat) (n : Int) : ByteArray := digit r ++ tails.getD (around n 10).toNat ⟨#[]⟩
theorem nameOf_holder (r : Nat) (h1 : 1 ≤ r) (h2 : r ≤ 9) (n : Int) : Holder r (nameOf r n) ∧ (nameOf r n).size ≤ 7 := name_holder r h1 h2 _ (by have := around_bd n (m := 10) (by omega); omega)

set_option maxRecDepth 8000 in
set_option maxHeartbeats 1000000 in
theorem name_any (r : Nat) (h2 : r ≤ 9) (n : Int) (w : World) (hn : -9223372036854775808 ≤ n ∧ n ≤ 9223372036854775807) :
    Calls Tryd.prog 21 #[.int .i64 r, .int .i64 n] w fun e w' => e = .returned (.string (nameOf r n)) ∧ Below w.heap.size w w' := by
  obtain ⟨W, hW⟩ : ∃ W, w.alloc (.cells #[.string ⟨#[]⟩, .string ⟨#[58, 49]⟩, .string ⟨#[58, 50]⟩, .string ⟨#[58, 49, 47, 48]⟩, .string ⟨#[58, 49, 47, 48, 58, 49]⟩, .string ⟨#[58, 49, 47, 49]⟩, .string ⟨#[126]⟩, .string ⟨#[126, 58, 49]⟩, .string ⟨#[58, 50, 47, 48]⟩, .string ⟨#[58, 49, 50, 47, 51]⟩] 9) = W := ⟨_, rfl⟩
  have hb : Below w.heap.size w W := by rw [← hW]; exact (Below.refl _ _).alloc (Nat.le_refl _) _
  have hbx := heap_alloc_new w (.cells #[.string ⟨#[]⟩, .string ⟨#[58, 49]⟩, .string ⟨#[58, 50]⟩, .string ⟨#[58, 49, 47, 48]⟩, .string ⟨#[58, 49, 47, 48, 58, 49]⟩, .string ⟨#[58, 49, 47, 49]⟩, .string ⟨#[126]⟩, .string ⟨#[126, 58, 49]⟩, .string ⟨#[58, 50, 47, 48]⟩, .string ⟨#[58, 49, 50, 47, 51]⟩] 9)
  rw [hW] at hbx
  have hcell : ∀ k, k < 10 → W.cell? ⟨w.heap.size, k, none⟩ = some (.string (tails.getD k ⟨#[]⟩)) := by
    intro k hk
    have : k = 0 ∨ k = 1 ∨ k = 2 ∨ k = 3 ∨ k = 4 ∨ k = 5 ∨ k = 6 ∨ k = 7 ∨ k = 8 ∨ k = 9 := by omega
    rcases this with rfl | rfl | rfl | rfl | rfl | rfl | rfl | rfl | rfl | rfl <;> exact block_cell hbx _ _ rfl
  obtain ⟨hk0, hk1⟩ := around_bd n (m := 10) (by omega)
  have c := hcell (around n 10).toNat (by omega)
  have HNM : Hid (nameOf r n = digit r ++ tails.getD (around n 10).toNat ⟨#[]⟩) := rfl
  obtain ⟨t, ht⟩ : ∃ t, t = tails.getD (around n 10).toNat ⟨#[]⟩ := ⟨_, rfl⟩
  obtain ⟨k, hk⟩ : ∃ k, k = around n 10 := ⟨_, rfl⟩
  have HA := Lib.hid (fun w => around_any n 10 w hn.1 hn.2 (by omega) (by omega))
  have hts := (tails_ok (around n 10).toNat (by omega)).2
  rw [← ht] at c HNM hts
  have hts' : t.size ≤ 6 := hts
  have hds : (digit r).size = 1 := rfl
  rw [← hk] at c hk0 hk1 HA
  have HB := Lib.hid hb
  have HD := Lib.hid (fun w => dec1 r w (by omega))
  clear hcell hbx hb ht hk hts
  go_enter Tryd.func21, Tryd.ntmps21
  go_wp2_with fail
  refine (HD.out _).mono ?_
  rintro e w1 ⟨rfl, h1⟩
  have c1 := bkeep h1 c
  have HB1 := Lib.hid (btrans HB.out h1)
  clear h1 hW c
  go_wp2_with fail
  refine (HA.out _).mono ?_
  rintro e w2 ⟨rfl, rfl⟩
  go_wp2_with fail
  go_ret
  rw [HNM.out]
  exact ⟨rfl, HB1.out⟩

end Go.Proofs.YtedoalpijbggiaaDoor
