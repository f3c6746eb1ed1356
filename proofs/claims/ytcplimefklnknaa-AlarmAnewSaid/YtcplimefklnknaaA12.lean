/- Walks: Due. -/
import Derived.Test.YtcplimefklnknaaA11
namespace Go.Proofs.Ytcplimefklnknaa
open Go.RowKit
attribute [local go_sem ↓] Go.wp_at_zero Go.wp_at_succ

theorem find_drop {l : List Ent} (hn : (l.map (·.2.2)).Nodup) (k : Nat) (id : Int) :
    (l.drop k).find? (fun e => decide (e.2.2 = id)) = if id ∈ (l.take k).map (·.2.2) then none else l.find? (fun e => decide (e.2.2 = id)) := by
  have hn' : (((l.take k) ++ (l.drop k)).map (·.2.2)).Nodup := by rw [List.take_append_drop]; exact hn
  rw [List.map_append, List.nodup_append] at hn'
  split
  · rename_i h
    refine find_none_of fun x hx e => ?_
    exact hn'.2.2 _ h _ (List.mem_map.2 ⟨x, hx, rfl⟩) e.symm
  · rename_i h
    conv => rhs; rw [← List.take_append_drop k l]
    rw [List.find?_append, find_none_of (fun x hx e => h (List.mem_map.2 ⟨x, hx, e⟩))]
    rfl

theorem due_end {w wr wx : World} {pb mb turn k g : Nat} {l : List Ent} {m : List (Int × Value)} {v lv' : Value} {sb' : Option Nat} {now : Int} (hok : RowOk l turn) (hq : ∀ id, mget m id = (l.find? (fun e => decide (e.2.2 = id))).map entVal)
    (hinv : DueInv w mb l m k v wr) (h1 : l.take k = dueL l now) (h2 : l.drop k = leftL l now) (hk : k ≤ l.length) (hpw : pb < w.heap.size) (hpm : pb ≠ mb)
    (hpx : wx.heap[pb]? = some (.cells #[lv', .map (some mb), .int .i64 turn] 50 (0, 0))) (hrow : RowAt wx 45 3 lv' (leftL l now).length (entCells (leftL l now)) sb') (hfx : Fr (fun b => b = pb) wr wx) (hsb : sb' = none ∨ sb' = some g) :
    DuePost w pb mb turn (some g) l now (.returned v) wx := by
  obtain ⟨⟨sbI, hrI, hsI⟩, ⟨mk, hm, hmk⟩, hfr⟩ := hinv
  have hkl : (dueL l now).length = k := by rw [← h1, List.length_take]; omega
  refine ⟨v, sbI, sb', rfl, ?_, hsI, ⟨hok.filter _, lv', mk, hpx, hrow, hm.keep (hfx.block mb hm.lt (fun e => hpm e.symm)), fun id => ?_⟩, ?_, hsb⟩
  · rw [hkl, ← h1]
    exact hrI.below fun b hb => hfx.block b (hrI.lt b hb) (fun e => by have := hsI b hb; omega)
  · rw [hmk, ← h2, find_drop hok.ids]
    split
    · rfl
    · exact hq id
  · exact (hfr.mono (fun b h => .inr (.inl h))).trans (hfx.mono (F' := Foot pb mb (some g)) (fun b h => .inl h)) (fun b h => .inl h)

set_option maxHeartbeats 2000000 in
theorem due_row {w : World} {pb mb : Nat} {turn : Nat} {l : List Ent} {g off cap : Nat} {cur : Array Value} {m : List (Int × Value)} (hok : RowOk l turn) (hl : l.length ≤ 1000000)
    (hp : w.heap[pb]? = some (.cells #[.slice (some ⟨g, off, none⟩) l.length cap, .map (some mb), .int .i64 turn] 50 (0, 0)))
    (hg : w.heap[g]? = some (.cells cur 45 (0, 0))) (hle : l.length ≤ cap) (hcm : cap ≤ maxLen) (hs : off + cap * 3 ≤ cur.size) (ht : (cur.toList.drop off).take (l.length * 3) = entCells l)
    (hm : MapAt (fun n : Int => .int .i64 n) w mb m) (hq : ∀ id, mget m id = (l.find? (fun e => decide (e.2.2 = id))).map entVal) (now : Int) :
    Calls Try.prog 9 #[.pointer (some ⟨pb, 0, none⟩), .int .i64 now] w (DuePost w pb mb turn (some g) l now) := by
  have hrow : RowAt w 45 3 (.slice (some ⟨g, off, none⟩) l.length cap) l.length (entCells l) (some g) := ⟨entCells_length l, by omega, .inr ⟨g, off, cap, cur, rfl, rfl, hg, hle, hcm, hs, ht⟩⟩
  have hgp : g ≠ pb := fun e => by rw [e, hp] at hg; cases hg
  have hgm : g ≠ mb := fun e => by obtain ⟨_, es, c, hmb, _⟩ := hm; rw [e, hmb] at hg; cases hg
  have hpm : pb ≠ mb := fun e => by obtain ⟨_, es, c, hmb, _⟩ := hm; rw [e, hmb] at hp; cases hp
  have hpw : pb < w.heap.size := (Array.getElem?_eq_some_iff.1 hp).1
  have hgw : g < w.heap.size := (Array.getElem?_eq_some_iff.1 hg).1
  have hmw := hm.lt
  have c0 := block_cell hp 0 (.slice (some ⟨g, off, none⟩) l.length cap) rfl
  have HFI : Hid (∀ W, Below w.heap.size w W → ∀ nb, W.cell? ⟨nb, 0, none⟩ = some (.int .i64 now) → Calls Try.prog 18 #[.pointer (some ⟨pb, 0, none⟩), .func (.func 19) #[] #[.pointer (some ⟨nb, 0, none⟩)]] W fun e w' => ∃ r : Nat, e = .returned (.int .i64 r) ∧ Hid (r ≤ l.length ∧ l.take r = dueL l now ∧ l.drop r = leftL l now) ∧ Below W.heap.size W w') := by
    intro W hW nb hnb
    have := first_any 19 (.pointer (some ⟨nb, 0, none⟩)) pb _ (some g) l (fun e => decide (now < e.1)) W (fun _ _ => by kernel_rfl) (bkeep hW c0) (hrow.keep hW) (fun e _ W' hW' => due1_any e.1 e.2.1 e.2.2 now nb W' (bkeep hW' hnb))
    refine this.mono ?_
    rintro e w' ⟨r, rfl, h1, h2, h3, h4⟩
    exact ⟨r, rfl, ⟨h1, due_parts hok.sorted h1 h2 h3⟩, h4⟩
  have HOK := Lib.hid hok
  have HP := Lib.hid hp
  have HG := Lib.hid hg
  have HT := Lib.hid ht
  have HM := Lib.hid hm
  have HQ := Lib.hid hq
  have HRO := Lib.hid hrow
  clear hok hp hg ht hm hq hrow
  go_enter Try.func9, Try.ntmps9
  go_wp2_with fail
  refine (HFI.out _ ((Below.refl _ _).alloc (Nat.le_refl _) _) _ (by go_simp)).mono ?_
  rintro e w1 ⟨r, rfl, hr, hb1⟩
  have hbw : Below w.heap.size w w1 := btrans ((Below.refl _ _).alloc (Nat.le_refl _) _) hb1
  have HBW := Lib.hid hbw
  have c1 := bkeep hbw c0
  have hrl := hr.out.1
  have b1 : (0 : Int) ≤ (r : Int) := by omega
  have b2 : (r : Int) ≤ (l.length : Int) := by omega
  have b3 : (l.length : Int) ≤ (cap : Int) := by omega
  clear c0 hb1 hbw
  go_wp2_with fail
  go_loopw [6, 19] (fun v vi wr => ∃ k : Nat, vi = .int .i64 k ∧ k ≤ r ∧ (∃ la lc, v = .slice la k lc) ∧ DueInv w mb l m k v wr) (fun _ vi _ => (r - intOf vi).toNat)
  case atStart =>
    exact ⟨0, rfl, by omega, ⟨_, _, rfl⟩, ⟨⟨none, RowAt.nil _ _ _, fun g hg => nomatch hg⟩, ⟨m, HM.out.keep (HBW.out.block mb hmw), fun id => by simp⟩, Fr.ofBelow HBW.out⟩⟩
  case round =>
    obtain ⟨k, rfl, hk, ⟨la, lc, rfl⟩, hinv⟩ := hrel
    have HI := Lib.hid hinv
    clear hinv
    have d0 := HI.out.fr.cell (a := ⟨pb, 0, none⟩) (block_cell HP.out 0 (.slice (some ⟨g, off, none⟩) l.length cap) rfl) hpm
    have d1 := HI.out.fr.cell (a := ⟨pb, 1, none⟩) (block_cell HP.out 1 (.map (some mb)) rfl) hpm
    by_cases hkr : k < r
    · obtain ⟨x, hx⟩ : ∃ x, l[k]? = some x := ⟨l[k], by simp⟩
      obtain ⟨la', lc', w2, w3, hrun, hdel, hinv3, hn2, hn3, hf2⟩ := due_step HI.out hx hl hmw
      have hc := fun j hj => HRO.out.cell j hj
      have hg' := entCells_get l k x hx
      have e0 := HI.out.fr.cell (a := ⟨g, off + k * 3, none⟩) ((hc (k * 3) (by omega)).trans hg'.1) hgm
      have e1 := HI.out.fr.cell (a := ⟨g, off + k * 3 + 1, none⟩) ((hc (k * 3 + 1) (by omega)).trans hg'.2.1) hgm
      have e2 := HI.out.fr.cell (a := ⟨g, off + k * 3 + 2, none⟩) ((hc (k * 3 + 2) (by omega)).trans hg'.2.2) hgm
      have HI3 := Lib.hid hinv3
      have i1 := hf2.cell (a := ⟨pb, 1, none⟩) (block_cell HP.out 1 (.map (some mb)) rfl) hpm
      have i2 := block_cell hn2 2 (.int .i64 x.2.2) rfl
      have j1 := HI3.out.fr.cell (a := ⟨pb, 1, none⟩) (block_cell HP.out 1 (.map (some mb)) rfl) hpm
      have j2 := block_cell hn3 2 (.int .i64 x.2.2) rfl
      clear hx hc hg' hinv3 hn2 hn3 hf2
      go_wp2_with (at_builtin; refine wpList_run (by rfl) (exec_append _ _ _ _ (by rfl) _ _ (by rfl) (by rfl) hrun) ?_)
      go_region_held3 (fun w' => w'.cell? ⟨pb, 1, none⟩ = some (.map (some mb)) ∧ w'.cell? ⟨wr.heap.size, 2, none⟩ = some (.int .i64 x.2.2)) (first | go_keep | exact ⟨j1, j2⟩) (fail)
      go_wp2_with fail
      go_roundw
      case rel => exact ⟨k + 1, by go_num, by omega, ⟨_, _, rfl⟩, HI3.out⟩
      case measure => simp [intOf]; omega
    · obtain rfl : k = r := by omega
      have hpr := (HI.out.fr.block pb hpw hpm).trans HP.out
      have hgr := (HI.out.fr.block g hgw hgm).trans HG.out
      have f0 := block_free hpr 0
      by_cases hkl : k = l.length
      · have hl0 : leftL l now = [] := by rw [← hr.out.2.2, hkl, List.drop_length]
        have hfin : ∀ x, DuePost w pb mb turn (some g) l now (.returned (.slice la k lc)) ((wr.setCell ⟨pb, 0, none⟩ x).setCell ⟨pb, 0, none⟩ (.slice none 0 0)) := fun x =>
          due_end (sb' := none) (lv' := .slice none 0 0) HOK.out HQ.out HI.out hr.out.2.1 hr.out.2.2 (by omega) hpw hpm (setCell_block _ pb 0 _ _ _ _ (setCell_block _ pb 0 _ _ _ x hpr)) (by rw [hl0]; exact RowAt.nil _ _ _)
            ((Fr.setCell (fun b => b = pb) wr ⟨pb, 0, none⟩ x rfl).trans (Fr.setCell (fun b => b = pb) _ ⟨pb, 0, none⟩ _ rfl) (fun b h => .inl h)) (.inl rfl)
        have HFIN := Lib.hid hfin
        have c2 : ((l.length - k : Nat) : Int) = 0 := by omega
        have c3 : l.length - k = 0 := by omega
        clear hfin hpr hgr hl0
        by_cases hkc : k = cap
        · go_wp2_with fail
          all_goals (go_ret; exact HFIN.out _)
        · go_wp2_with fail
          all_goals (go_ret; exact HFIN.out _)
      · have hkl' : k < l.length := by omega
        have hfin : DuePost w pb mb turn (some g) l now (.returned (.slice la k lc)) (wr.setCell ⟨pb, 0, none⟩ (.slice (some ⟨g, off + k * 3, none⟩) (l.length - k) (cap - k))) := by
          refine due_end (sb' := some g) (lv' := .slice (some ⟨g, off + k * 3, none⟩) (l.length - k) (cap - k)) HOK.out HQ.out HI.out hr.out.2.1 hr.out.2.2 (by omega) hpw hpm (setCell_block _ pb 0 _ _ _ _ hpr) ?_ (Fr.setCell (fun b => b = pb) wr ⟨pb, 0, none⟩ _ rfl) (.inr rfl)
          rw [← hr.out.2.2, List.length_drop]
          refine ⟨by rw [entCells_length, List.length_drop], by omega, .inr ⟨g, off + k * 3, cap - k, cur, rfl, rfl, (Below.heap_setCell wr ⟨pb, 0, none⟩ _ g hgp).trans hgr, by omega, by omega, ?_, ?_⟩⟩
          · rw [Nat.sub_mul]; have : k * 3 ≤ cap * 3 := Nat.mul_le_mul_right _ (by omega); omega
          · rw [entCells_drop, ← HT.out, List.drop_take, List.drop_drop, Nat.sub_mul]
        have HFIN := Lib.hid hfin
        have c2 : (0 : Int) < ((l.length - k : Nat) : Int) := by omega
        have c3 : ¬ (l.length - k = 0) := by omega
        have c4 : ¬ (cap = k) := by omega
        clear hfin hpr hgr
        go_wp2_with fail
        all_goals (go_ret; exact HFIN.out)

end Go.Proofs.Ytcplimefklnknaa
