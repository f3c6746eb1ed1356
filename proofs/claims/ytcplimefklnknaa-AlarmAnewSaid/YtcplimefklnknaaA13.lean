/- Walks: Due, whatever the row. -/
import Derived.Test.YtcplimefklnknaaA12
namespace Go.Proofs.Ytcplimefklnknaa
open Go.RowKit
attribute [local go_sem ↓] Go.wp_at_zero Go.wp_at_succ

set_option maxHeartbeats 1000000 in
theorem due_nil {w : World} {pb mb turn : Nat} {m : List (Int × Value)} (hok : RowOk [] turn)
    (hp : w.heap[pb]? = some (.cells #[.slice none 0 0, .map (some mb), .int .i64 turn] 50 (0, 0)))
    (hm : MapAt (fun n : Int => .int .i64 n) w mb m) (hq : ∀ id, mget m id = (List.find? (fun e : Ent => decide (e.2.2 = id)) []).map entVal) (now : Int) :
    Calls Try.prog 9 #[.pointer (some ⟨pb, 0, none⟩), .int .i64 now] w (DuePost w pb mb turn none [] now) := by
  have hpm : pb ≠ mb := fun e => by obtain ⟨_, es, c, hmb, _⟩ := hm; rw [e, hmb] at hp; cases hp
  have hpw : pb < w.heap.size := (Array.getElem?_eq_some_iff.1 hp).1
  have c0 := block_cell hp 0 (.slice none 0 0) rfl
  have HFI : Hid (∀ W, Below w.heap.size w W → ∀ nb, W.cell? ⟨nb, 0, none⟩ = some (.int .i64 now) → Calls Try.prog 18 #[.pointer (some ⟨pb, 0, none⟩), .func (.func 19) #[] #[.pointer (some ⟨nb, 0, none⟩)]] W fun e w' => e = .returned (.int .i64 0) ∧ Below W.heap.size W w') := by
    intro W hW nb hnb
    have := first_any 19 (.pointer (some ⟨nb, 0, none⟩)) pb _ none [] (fun e => decide (now < e.1)) W (fun _ _ => by kernel_rfl) (bkeep hW c0) (RowAt.nil _ _ _) (fun e he => nomatch he)
    refine this.mono ?_
    rintro e w' ⟨r, rfl, h1, h2, h3, h4⟩
    obtain rfl : r = 0 := by simpa using h1
    exact ⟨rfl, h4⟩
  have hfin : ∀ W, Below w.heap.size w W → DuePost w pb mb turn none [] now (.returned (.slice none 0 0)) ((W.setCell ⟨pb, 0, none⟩ (.slice none 0 0)).setCell ⟨pb, 0, none⟩ (.slice none 0 0)) := by
    intro W hW
    have hpW := (hW.block pb hpw).trans hp
    have e1 := setCell_block _ pb 0 _ _ _ (.slice none 0 0) (setCell_block W pb 0 _ _ _ (.slice none 0 0) hpW)
    refine ⟨.slice none 0 0, none, none, rfl, RowAt.nil _ _ _, (fun g hg => nomatch hg), ⟨hok, .slice none 0 0, m, e1, RowAt.nil _ _ _, hm.keep ?_, hq⟩, ?_, .inl rfl⟩
    · exact (Below.heap_setCell _ ⟨pb, 0, none⟩ _ mb (fun e => hpm e.symm)).trans ((Below.heap_setCell _ ⟨pb, 0, none⟩ _ mb (fun e => hpm e.symm)).trans (hW.block mb hm.lt))
    · exact ((Fr.ofBelow (F := Foot pb mb none) hW).trans (Fr.setCell (Foot pb mb none) W ⟨pb, 0, none⟩ _ (.inl rfl)) (fun b h => .inl h)).trans (Fr.setCell (Foot pb mb none) _ ⟨pb, 0, none⟩ _ (.inl rfl)) (fun b h => .inl h)
  have HFIN := Lib.hid hfin
  have HP := Lib.hid hp
  clear hok hp hm hq hfin
  go_enter Try.func9, Try.ntmps9
  go_wp2_with fail
  refine (HFI.out _ ((Below.refl _ _).alloc (Nat.le_refl _) _) _ (by go_simp)).mono ?_
  rintro e w1 ⟨rfl, hb1⟩
  have hbw : Below w.heap.size w w1 := btrans ((Below.refl _ _).alloc (Nat.le_refl _) _) hb1
  have HBW := Lib.hid hbw
  have c1 := bkeep hbw c0
  have f1 := block_free ((hbw.block pb hpw).trans HP.out) 0
  clear c0 hb1 hbw
  go_wp2_with fail
  go_loopw [6, 19] (fun v vi wr => v = .slice none 0 0 ∧ vi = .int .i64 0 ∧ wr = w1) (fun _ _ _ => 0)
  case atStart => exact ⟨rfl, rfl, rfl⟩
  case round =>
    obtain ⟨rfl, rfl, rfl⟩ := hrel
    go_wp2_with fail
    go_ret
    exact HFIN.out _ HBW.out

theorem due_any {w : World} {pb mb : Nat} {sb : Option Nat} {turn : Nat} {l : List Ent} (h : AlarmW w pb mb sb turn l) (ht : turn ≤ 1000000) (now : Int) :
    Calls Try.prog 9 #[.pointer (some ⟨pb, 0, none⟩), .int .i64 now] w (DuePost w pb mb turn sb l now) := by
  obtain ⟨hok, lv, m, hp, hr, hm, hq⟩ := h
  rcases hr.2.2 with ⟨rfl, h0, rfl⟩ | ⟨g, off, cap, cur, rfl, rfl, hg, hle, hcm, hs, hc⟩
  · obtain rfl := List.eq_nil_of_length_eq_zero h0
    exact due_nil hok hp hm hq now
  · exact due_row hok (Nat.le_trans hok.len ht) hp hg hle hcm hs hc hm hq now

set_option maxHeartbeats 1000000 in
theorem next_any {w : World} {pb mb : Nat} {sb : Option Nat} {turn : Nat} {l : List Ent} (h : AlarmW w pb mb sb turn l) :
    Calls Try.prog 20 #[.pointer (some ⟨pb, 0, none⟩)] w fun e w' => e = .returned (.tuple #[.int .i64 ((l.head?.map (·.1)).getD 0), .bool l.head?.isSome]) ∧ w = w' := by
  obtain ⟨hok, lv, m, hp, hr, hm, hq⟩ := h
  have c0 := block_cell hp 0 lv rfl
  cases l with
  | nil =>
    obtain ⟨la, lc, rfl⟩ := hr.form
    clear hok hp hr hm hq
    go_enter Try.func20, Try.ntmps20
    go_wp2
    go_ret2
    exact ⟨rfl, rfl⟩
  | cons x l =>
    rcases hr.2.2 with ⟨_, h0, _⟩ | ⟨g, off, cap, cur, rfl, rfl, hg, hle, hcm, hs, hc⟩
    · simp at h0
    · have c1 := hr.cell 0 (by simp)
      rw [show (entCells (x :: l))[0]? = some (.int .i64 x.1) by simp [entCells], Nat.add_zero] at c1
      have hl : (0 : Int) < ((x :: l).length : Int) := by rw [List.length_cons]; omega
      have hl' : ((((x :: l).length : Nat) : Int) == 0) = false := by simp; omega
      obtain ⟨n, hn⟩ : ∃ n, n = (x :: l).length := ⟨_, rfl⟩
      rw [← hn] at c0 hl hl'
      clear hok hp hr hm hq hg hle hcm hs hc hn
      go_enter Try.func20, Try.ntmps20
      go_wp2
      go_ret2
      exact ⟨rfl, rfl⟩

end Go.Proofs.Ytcplimefklnknaa
