/- The ledger: a holder's request, where it is one digit. -/
import Derived.Test.YtedoalpijbggiaaDoorP1
import Derived.Test.YtedoalpijbggiaaDoorPlain
namespace Go.Proofs.YtedoalpijbggiaaDoor
open Go.RowKit Go.Lib
attribute [local go_sem ↓] Go.wp_at_zero Go.wp_at_succ

def seps : ByteArray := ⟨#[58, 47, 126]⟩

/-- A holder of a request of one digit: the digit, and a tail. -/
structure Holder (r : Nat) (s : ByteArray) : Prop where
  pos : 1 ≤ r ∧ r ≤ 9
  size : s.size ≤ 2147483647
  ascii : ∀ (j : Nat) b, s.data.toList[j]? = some b → b.toNat < 128
  head : s.data.toList[0]? = some (UInt8.ofNat (48 + r))
  tail : s.size = 1 ∨ ∃ c, s.data.toList[1]? = some c ∧ (c = 58 ∨ c = 47 ∨ c = 126)

theorem bytes_ext {s t : ByteArray} (h : s.data.toList = t.data.toList) : s = t := by
  obtain ⟨⟨a⟩⟩ := s
  obtain ⟨⟨b⟩⟩ := t
  have h' : a = b := h
  rw [h']

def digit (r : Nat) : ByteArray := ⟨#[UInt8.ofNat (48 + r)]⟩

theorem digit_facts : ∀ r : Nat, 1 ≤ r → r ≤ 9 → Lib.atoiAll (digit r).data.toList = .ok (r : Int) ∧ (Lib.decDigits r) = [UInt8.ofNat (48 + r)] ∧ seps.data.toList.contains (UInt8.ofNat (48 + r)) = false := by
  intro r h1 h2
  have : r = 1 ∨ r = 2 ∨ r = 3 ∨ r = 4 ∨ r = 5 ∨ r = 6 ∨ r = 7 ∨ r = 8 ∨ r = 9 := by omega
  rcases this with rfl | rfl | rfl | rfl | rfl | rfl | rfl | rfl | rfl <;> exact ⟨by rfl, by unfold Lib.decDigits; rfl, by rfl⟩

theorem Holder.cons {r : Nat} {s : ByteArray} (h : Holder r s) : ∃ t, s.data.toList = UInt8.ofNat (48 + r) :: t ∧ (t = [] ∨ ∃ c t', t = c :: t' ∧ (c = 58 ∨ c = 47 ∨ c = 126)) := by
  have h0 := h.head
  cases hl : s.data.toList with
  | nil => rw [hl] at h0; cases h0
  | cons a t =>
    rw [hl] at h0
    have h0' : some a = some (UInt8.ofNat (48 + r)) := h0
    injection h0' with h0'
    subst h0'
    refine ⟨t, rfl, ?_⟩
    rcases h.tail with h1 | ⟨c, h1, h2⟩
    · left
      have : s.data.toList.length = 1 := by simpa using h1
      rw [hl] at this
      simpa using this
    · right
      rw [hl] at h1
      cases t with
      | nil => simp at h1
      | cons c' t' => simp at h1; subst h1; exact ⟨_, _, rfl, h2⟩

theorem Holder.index {r : Nat} {s : ByteArray} (h : Holder r s) : (s.size = 1 ∧ s = digit r ∧ Lib.indexAny s.data.toList seps.data.toList = -1) ∨ (2 ≤ s.size ∧ s.extract 0 1 = digit r ∧ Lib.indexAny s.data.toList seps.data.toList = 1) := by
  obtain ⟨t, ht, h1⟩ := h.cons
  obtain ⟨f1, f2, f3⟩ := digit_facts r h.pos.1 h.pos.2
  have hsz : s.size = s.data.toList.length := rfl
  rcases h1 with rfl | ⟨c, t', rfl, hc⟩
  · left
    refine ⟨by rw [hsz, ht]; rfl, ?_, ?_⟩
    · exact bytes_ext (by rw [ht]; rfl)
    · rw [ht]; unfold Lib.indexAny Lib.indexAny; rw [f3]; rfl
  · right
    refine ⟨by rw [hsz, ht]; simp, ?_, ?_⟩
    · exact bytes_ext (by rw [Lib.extract_data, ht]; rfl)
    · rw [ht]
      have hcc : seps.data.toList.contains c = true := by rcases hc with rfl | rfl | rfl <;> rfl
      unfold Lib.indexAny
      rw [f3]
      unfold Lib.indexAny
      rw [hcc]
      rfl

theorem indexAny_any (s : ByteArray) (w : World) (hs : s.size ≤ 2147483647) (ha : ∀ (j : Nat) b, s.data.toList[j]? = some b → b.toNat < 128) :
    Calls Tryd.prog 44 #[.string s, .string seps] w fun e w' => e = .returned (.int .i64 (Lib.indexAny s.data.toList seps.data.toList)) ∧ Below w.heap.size w w' :=
  Any.strings_IndexAny_laid Tryd.lays153 (by kernel_rfl) s seps w (by omega) (by decide) ha (by intro j b h; match j, h with | 0, h => cases h; decide | 1, h => cases h; decide | 2, h => cases h; decide | j + 3, h => cases h)

theorem atoi_any (r : Nat) (h0 : 1 ≤ r) (h1 : r ≤ 9) (w : World) :
    Calls Tryd.prog 45 #[.string (digit r)] w fun e w' => e = .returned (.tuple #[.int .i64 r, .nilIface]) ∧ Below w.heap.size w w' := by
  have h : Calls Tryd.prog 45 #[.string (digit r)] w fun e w' => e = .returned (.tuple #[.int .i64 r, .nilIface]) ∧ (w' = w ∨ ∃ t, w' = Lib.bytesWorld w 5 t) := Any.strconv_Atoi_ok Tryd.laysC172 (digit r) (by show 1 ≤ _; omega) r (digit_facts r h0 h1).1 w
  refine h.mono ?_
  rintro e w' ⟨rfl, h⟩
  refine ⟨rfl, ?_⟩
  rcases h with rfl | ⟨t, rfl⟩
  · exact Below.refl _ _
  · exact Lib.bytesWorld_below _ _ _

theorem itoa_any (r : Nat) (h1 : r ≤ 9) (h0 : 1 ≤ r) (w : World) :
    Calls Tryd.prog 41 #[.int .i64 r] w fun e w' => e = .returned (.string (digit r)) ∧ w' = w := by
  have h : Calls Tryd.prog 41 #[.int .i64 r] w fun e w' => e = .returned (.string ⟨(Lib.decDigits r).toArray⟩) ∧ w' = w := Any.strconv_Itoa_small Tryd.lays171 r (by omega) w
  rw [(digit_facts r h0 h1).2.1] at h
  exact h

set_option maxRecDepth 8000 in
set_option maxHeartbeats 2000000 in
theorem request_any {r : Nat} {s : ByteArray} (h : Holder r s) (w : World) :
    Calls Tryd.prog 35 #[.string s] w fun e w' => e = .returned (.int .i64 r) ∧ Below w.heap.size w w' := by
  have HI := Lib.hid (fun w => indexAny_any s w h.size h.ascii)
  have HA := Lib.hid (fun w => atoi_any r h.pos.1 h.pos.2 w)
  have HT := Lib.hid (fun w => itoa_any r h.pos.2 h.pos.1 w)
  obtain ⟨p1, p2⟩ := h.pos
  have q1 : ¬ ((r : Int) < 1) := by omega
  have q2 : ¬ ((2147483647 : Int) < r) := by omega
  rcases h.index with ⟨hs, rfl, hx⟩ | ⟨hs, hd, hx⟩
  · rw [hx] at HI
    clear h hx hs
    go_enter Tryd.func35, Tryd.ntmps35
    go_wp2_with fail
    refine (HI.out _).mono ?_
    rintro e w1 ⟨rfl, h1⟩
    have H1 := Lib.hid h1
    clear h1
    go_wp2_with fail
    refine (HA.out _).mono ?_
    rintro e w2 ⟨rfl, h2⟩
    have H2 := Lib.hid (btrans H1.out h2)
    clear h2
    go_wp2_with fail
    refine (HT.out _).mono ?_
    rintro e w3 ⟨rfl, rfl⟩
    go_wp2_with fail
    go_ret
    exact ⟨rfl, H2.out⟩
  · rw [hx] at HI
    clear h hx
    go_enter Tryd.func35, Tryd.ntmps35
    go_wp2_with fail
    refine (HI.out _).mono ?_
    rintro e w1 ⟨rfl, h1⟩
    have H1 := Lib.hid h1
    clear h1
    go_wp2_with fail
    refine (HA.out _).mono ?_
    rintro e w2 ⟨rfl, h2⟩
    have H2 := Lib.hid (btrans H1.out h2)
    clear h2
    go_wp2_with fail
    refine (HT.out _).mono ?_
    rintro e w3 ⟨rfl, rfl⟩
    go_wp2_with fail
    go_ret
    exact ⟨rfl, H2.out⟩

end Go.Proofs.YtedoalpijbggiaaDoor
