/- TrimLeft at the ten digits: its loop. -/
import Derived.Test.YtkpjjhiighakfaaGreatDoorN1
import Derived.Shelf.Strings.AsciiSet
namespace Go.Proofs.YtkpjjhiighakfaaGreatDoor
open Go.RowKit
attribute [local go_sem ↓] Go.wp_at_zero Go.wp_at_succ

def ten : ByteArray := ⟨#[48, 49, 50, 51, 52, 53, 54, 55, 56, 57]⟩
def isDig (x : UInt8) : Bool := ten.data.toList.contains x
/-- A text without the digits that stand ahead. -/
def dropDig (s : ByteArray) : ByteArray := ⟨(s.data.toList.dropWhile isDig).toArray⟩

def strSize : Value → Nat
  | .string t => t.size
  | _ => 0

theorem dropDig_cons (s : ByteArray) (h : 0 < s.size) : dropDig s = if isDig (s.data.toList[0]'h) then dropDig (s.extract 1 s.size) else s := by
  obtain ⟨⟨l⟩⟩ := s
  cases l with
  | nil => exact absurd h (by decide)
  | cons a l =>
    unfold dropDig
    rw [Lib.extract_data]
    show (⟨((a :: l).dropWhile isDig).toArray⟩ : ByteArray) = if isDig a then ⟨((((a :: l).drop 1).take ((⟨⟨a :: l⟩⟩ : ByteArray).size - 1)).dropWhile isDig).toArray⟩ else ⟨⟨a :: l⟩⟩
    have e1 : (((a :: l).drop 1).take ((⟨⟨a :: l⟩⟩ : ByteArray).size - 1)) = l := by
      show l.take ((a :: l).length - 1) = l
      rw [List.length_cons, Nat.add_sub_cancel, List.take_length]
    rw [e1, List.dropWhile_cons]
    cases isDig a <;> rfl

/-- The set's cells. -/
def SetAt (w : World) (b : Nat) : Prop := ∀ x : UInt8, w.cell? ⟨b, x.toNat, none⟩ = some (.bool (isDig x))

set_option maxRecDepth 8000 in
set_option maxHeartbeats 1000000 in
theorem trimASCII_any (s : ByteArray) (b : Nat) (w : World) (hb : SetAt w b) :
    Calls Tryz.prog 43 #[.string s, .pointer (some ⟨b, 0, none⟩)] w fun e w' => e = .returned (.string (dropDig s)) ∧ w' = w := by
  have HC : Hid (∀ x : UInt8, Calls Tryz.prog 58 #[.pointer (some ⟨b, 0, none⟩), .int .u8 x.toNat] w fun e w' => e = .returned (.bool (isDig x)) ∧ w' = w) := fun x => Any.asciiSet_contains Tryz.lays228 b x (isDig x) w (hb x)
  have HS : Hid (dropDig s = dropDig s) := rfl
  obtain ⟨y, hy⟩ : ∃ y, y = dropDig s := ⟨_, rfl⟩
  rw [← hy]
  have HY := Lib.hid hy
  clear hb hy HS
  go_enter Tryz.func43, Tryz.ntmps43
  go_wp2_with fail
  go_loopw [0] (fun v wr => ∃ t : ByteArray, v = .string t ∧ Hid (dropDig t = y) ∧ wr = w) (fun v _ => strSize v)
  case atStart => exact ⟨s, rfl, HY.out.symm, rfl⟩
  case round =>
    obtain ⟨t, rfl, ht, rfl⟩ := hrel
    by_cases h0 : 0 < t.size
    · have t1 : decide ((0 : Int) < (t.size : Int)) = true := decide_eq_true (by omega)
      obtain ⟨x, hx⟩ : ∃ x : UInt8, t[0]'h0 = x := ⟨_, rfl⟩
      have hd : dropDig t = if isDig x then dropDig (t.extract 1 t.size) else t := by rw [← hx]; exact dropDig_cons t h0
      have HD := Lib.hid hd
      have h1 : (t.extract 1 t.size).size = t.size - 1 := by rw [ByteArray.size_extract]; omega
      obtain ⟨d, hdd⟩ : ∃ d, d = isDig x := ⟨_, rfl⟩
      have HX := HC.out x
      rw [← hdd] at HX HD
      have HX := Lib.hid HX
      clear hd hdd
      go_wp2_with fail
      refine HX.out.mono ?_
      rintro e w' ⟨rfl, rfl⟩
      cases d with
      | true =>
        have HD2 : Hid (dropDig (t.extract 1 t.size) = y) := HD.out.symm.trans ht.out
        go_wp2_with fail
        go_roundw
        case rel => exact ⟨_, rfl, HD2.out, trivial⟩
        case measure => simp [strSize, h1]; omega
      | false =>
        have HD2 : Hid (t = y) := HD.out.symm.trans ht.out
        go_wp2_with fail
        go_ret
        rw [HD2.out]
        exact ⟨rfl, rfl⟩
    · have h00 : t.size = 0 := by omega
      have t1 : decide ((0 : Int) < (t.size : Int)) = false := decide_eq_false (by omega)
      have HD2 : Hid (t = y) := by
        rw [← ht.out]
        obtain ⟨⟨l⟩⟩ := t
        cases l with
        | nil => rfl
        | cons a l => exact absurd h00 (by show ¬ (a :: l).length = 0; simp)
      clear h0
      go_wp2_with fail
      go_ret
      rw [HD2.out]
      exact ⟨rfl, rfl⟩

end Go.Proofs.YtkpjjhiighakfaaGreatDoor
