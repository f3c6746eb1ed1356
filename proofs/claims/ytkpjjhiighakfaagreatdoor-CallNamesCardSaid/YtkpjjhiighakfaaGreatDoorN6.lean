/- Key. -/
import Derived.Test.YtkpjjhiighakfaaGreatDoorN5
import Derived.Shelf.Strings.SplitShaped
import Derived.Shelf.Strings.OnBuilder
namespace Go.Proofs.YtkpjjhiighakfaaGreatDoor
open Go.RowKit
attribute [local go_sem ↓] Go.wp_at_zero Go.wp_at_succ

/-- The library's table of lengths holds a number. -/
def MaxLenAt (w : World) : Prop := ∃ m : Int, w.cell? ⟨Tryz.lays146_ren.g 1, 0, none⟩ = some (.int .i64 m)
theorem MaxLenAt.lt {w : World} (h : MaxLenAt w) : Tryz.lays146_ren.g 1 < w.heap.size := by
  obtain ⟨m, h⟩ := h
  exact World.block_lt_of_cell? _ _ h
theorem MaxLenAt.below {n : Nat} {w w' : World} (h : MaxLenAt w) (hn : Tryz.lays146_ren.g 1 < n) (hb : Below n w w') : MaxLenAt w' := by
  obtain ⟨m, h⟩ := h
  exact ⟨m, (hb.cell (p := ⟨_, 0, none⟩) hn).trans h⟩

theorem dropDig_empty (s : ByteArray) (h : ¬ 0 < s.size) : dropDig s = s := by
  obtain ⟨⟨l⟩⟩ := s
  cases l with
  | nil => rfl
  | cons a l => exact absurd (by show 0 < (a :: l).length; simp) h

set_option maxRecDepth 8000 in
theorem trim_all (s : ByteArray) (w : World) :
    Calls Tryz.prog 24 #[.string s, .string ⟨#[48, 49, 50, 51, 52, 53, 54, 55, 56, 57]⟩] w fun e w' => e = .returned (.string (dropDig s)) ∧ Below w.heap.size w w' := by
  by_cases h0 : 0 < s.size
  · exact trimLeft_any s h0 w
  · have hs : s = ⟨#[]⟩ := by
      obtain ⟨⟨l⟩⟩ := s
      cases l with
      | nil => rfl
      | cons a l => exact absurd (by show 0 < (a :: l).length; simp) h0
    rw [dropDig_empty s h0]
    subst hs
    have h1 : (⟨#[]⟩ : ByteArray).size = 0 := rfl
    go_enter Tryz.func24, Tryz.ntmps24
    go_wp2_with fail
    go_ret
    exact ⟨rfl, Below.refl _ _⟩

theorem splitSep_any (s : ByteArray) (w : World) (hs : s.size ≤ 1000000) (hL : MaxLenAt w) :
    Calls Tryz.prog 23 #[.string s, .string ⟨#[58]⟩] w fun e w' =>
      e = .returned (.slice (some ⟨w.heap.size, 0, none⟩) (piecesOf s).length (piecesOf s).length) ∧ w' = w.alloc (.cells ((piecesOf s).map Value.string).toArray 9) := by
  obtain ⟨m, hm⟩ := hL
  have h := Any.strings_Split Tryz.lays146 Tryz.laysM146.i9 s ⟨#[58]⟩ m w (by omega) hm (by decide)
  have hl : (piecesOf s).length = Lib.countB s ⟨#[58]⟩ + 1 := Lib.splitB_all ⟨#[58]⟩ (by decide) 0 _ s rfl
  rw [hl]
  exact h

structure KeyInv (w wr : World) (l : List ByteArray) (i : Nat) : Prop where
  row : ∃ cur, wr.heap[w.heap.size]? = some (.cells cur 9 (0, 0)) ∧ cur.size = l.length ∧ ∀ j x, l[j]? = some x → cur[j]? = some (Value.string (if j = 0 ∨ i < j then x else dropDig x))
  below : Below w.heap.size w wr

theorem KeyInv.start (w : World) (l : List ByteArray) : KeyInv w (w.alloc (.cells (l.map Value.string).toArray 9)) l 0 := by
  refine ⟨⟨_, heap_alloc_new w _, by simp, fun j x hx => ?_⟩, (Below.refl _ _).alloc (Nat.le_refl _) _⟩
  rw [if_pos (by omega)]
  simp [hx]

theorem KeyInv.step {w wr : World} {l : List ByteArray} {i : Nat} (h : KeyInv w wr l i) {x : ByteArray} (hx : l[i + 1]? = some x) {w1 : World} (hb : Below wr.heap.size wr w1) :
    KeyInv w (w1.setCell ⟨w.heap.size, i + 1, none⟩ (.string (dropDig x))) l (i + 1) := by
  obtain ⟨⟨cur, h1, h2, h3⟩, hbel⟩ := h
  have h1' := (hb.block w.heap.size (Array.getElem?_eq_some_iff.1 h1).1).trans h1
  refine ⟨⟨_, setCell_block w1 w.heap.size (i + 1) cur _ _ _ h1', by simp [h2], fun j y hy => ?_⟩, (hbel.trans (hb.mono hbel.size)).setCell (p := ⟨w.heap.size, i + 1, none⟩) (Nat.le_refl _) _⟩
  rw [Array.getElem?_setIfInBounds]
  by_cases e : i + 1 = j
  · subst e
    have hlt := (List.getElem?_eq_some_iff.1 hx).1
    rw [if_pos rfl, if_pos (by omega), if_neg (by omega)]
    rw [hx] at hy; cases hy; rfl
  · rw [if_neg e, h3 j y hy]
    by_cases e2 : j = 0 ∨ i < j
    · rw [if_pos e2, if_pos (by omega)]
    · rw [if_neg e2, if_neg (by omega)]

theorem KeyInv.cell {w wr : World} {l : List ByteArray} {i : Nat} (h : KeyInv w wr l i) {x : ByteArray} (hx : l[i + 1]? = some x) :
    wr.cell? ⟨w.heap.size, i + 1, none⟩ = some (.string x) := by
  obtain ⟨⟨cur, h1, h2, h3⟩, _⟩ := h
  have := h3 (i + 1) x hx
  rw [if_pos (by omega)] at this
  exact block_cell h1 (i + 1) _ this
theorem KeyInv.free {w wr : World} {l : List ByteArray} {i : Nat} (h : KeyInv w wr l i) (j : Nat) : wr.frozen? ⟨w.heap.size, j, none⟩ = false := by
  obtain ⟨⟨cur, h1, h2, h3⟩, _⟩ := h
  exact block_free h1 j

theorem join_done {w wr : World} {s : ByteArray} {i : Nat} (h : KeyInv w wr (piecesOf s) i) (hi : (piecesOf s).length = i + 1) (hs : s.size ≤ 1000000) (hn : (piecesOf s).length ≤ 1000001) :
    Calls Tryz.prog 25 #[.slice (some ⟨w.heap.size, 0, none⟩) (piecesOf s).length (piecesOf s).length, .string ⟨#[]⟩] wr fun e w' => e = .returned (.string (keyOf s)) ∧ Below w.heap.size w w' := by
  obtain ⟨⟨cur, h1, h2, h3⟩, hb⟩ := h
  have hk : Lib.join ((trimmed (piecesOf s)).map (·.data.toList)) (⟨#[]⟩ : ByteArray).data.toList = keyFrom false s.data.toList := (join_empty _).trans (key_join s)
  have hsz := Lib.size_eq s
  have hj := Any.strings_Join Tryz.lays156 Tryz.Builder_Extra_156 w.heap.size 0 (piecesOf s).length (trimmed (piecesOf s)) ⟨#[]⟩ wr (fun j x hx => by
      rw [trimmed_get] at hx
      cases hp : (piecesOf s)[j]? with
      | none => rw [hp] at hx; cases hx
      | some y =>
        rw [hp, Option.map_some] at hx
        cases hx
        have hlt := (List.getElem?_eq_some_iff.1 hp).1
        have h4 := h3 j y hp
        rw [Nat.zero_add]
        refine block_cell h1 j _ ?_
        rw [h4]
        by_cases e : j = 0
        · rw [if_pos e, if_pos (Or.inl e)]
        · rw [if_neg e, if_neg (by omega)])
    (Array.getElem?_eq_some_iff.1 h1).1 (by rw [trimmed_length]; omega) (by rw [trimmed_length]; exact Nat.le_refl _)
    (by rw [hk]; exact Nat.le_trans (keyFrom_le _ _) (by omega))
  rw [trimmed_length, hk] at hj
  exact hj.mono fun e w' ⟨he, hw⟩ => ⟨he, hb.trans (hw.mono hb.size)⟩

theorem pieces_bd (s : ByteArray) (hs : s.size ≤ 1000000) : 1 ≤ (piecesOf s).length ∧ (piecesOf s).length ≤ 1000001 := by
  have h1 : (piecesOf s).length = Lib.countB s ⟨#[58]⟩ + 1 := Lib.splitB_all ⟨#[58]⟩ (by decide) 0 _ s rfl
  have h2 := Lib.countB_le ⟨#[58]⟩ (by decide) s.size s (Nat.le_refl _)
  omega

set_option maxRecDepth 8000 in
set_option maxHeartbeats 1000000 in
theorem key_any (c : Cx) (hs : c.call.size ≤ 1000000) (w : World) (hL : MaxLenAt w) :
    Calls Tryz.prog 9 #[cxV c] w fun e w' => e = .returned (.string (keyOf c.call)) ∧ Below w.heap.size w w' := by
  obtain ⟨q, s, t, a, b, d, u, v, z⟩ := c
  dsimp only at hs
  unfold cxV cxCells
  dsimp only
  obtain ⟨p0, p1⟩ := pieces_bd s hs
  obtain ⟨W, hW⟩ : ∃ W, w.alloc (.cells #[.int .i64 q, .string s, .int .i64 t, .bool a, .bool b, .int .i64 d, .int .i64 u, .int .i64 v, .int .i64 z] 25) = W := ⟨_, rfl⟩
  have hbx := heap_alloc_new w (.cells #[.int .i64 q, .string s, .int .i64 t, .bool a, .bool b, .int .i64 d, .int .i64 u, .int .i64 v, .int .i64 z] 25)
  have hb : Below w.heap.size w W := by rw [← hW]; exact (Below.refl _ _).alloc (Nat.le_refl _) _
  rw [hW] at hbx
  have HB := Lib.hid hb
  have HSP := Lib.hid (splitSep_any s W hs (hL.below hL.lt hb))
  have HJ := Lib.hid (fun wr i => @join_done W wr s i)
  have HST := Lib.hid (KeyInv.start W (piecesOf s))
  obtain ⟨l, hl⟩ : ∃ l, l = piecesOf s := ⟨_, rfl⟩
  rw [← hl] at p0 p1 HSP HST HJ
  have r0 := block_cell hbx 0 _ rfl
  have r1 := block_cell hbx 1 _ rfl
  have r2 := block_cell hbx 2 _ rfl
  have r3 := block_cell hbx 3 _ rfl
  have r4 := block_cell hbx 4 _ rfl
  have r5 := block_cell hbx 5 _ rfl
  have r6 := block_cell hbx 6 _ rfl
  have r7 := block_cell hbx 7 _ rfl
  have r8 := block_cell hbx 8 _ rfl
  clear hbx hb hL hl
  by_cases hone : l.length = 1
  · go_enter Tryz.func9, Tryz.ntmps9
    go_wp2_with fail
    refine HSP.out.mono ?_
    rintro e w1 ⟨rfl, hw1⟩
    rw [← hw1] at HST
    clear hw1 HSP
    have HJ1 := Lib.hid (HJ.out w1 0 HST.out (by omega) hs p1)
    rw [hone] at HJ1
    rw [hone]
    clear HJ HST
    go_wp2_with fail
    go_loopw [11] (fun v wr => v = .int .i64 0 ∧ wr = w1) (fun _ _ => 0)
    case atStart => exact ⟨rfl, rfl⟩
    case round =>
      obtain ⟨rfl, rfl⟩ := hrel
      go_wp2_with fail
      refine HJ1.out.mono ?_
      rintro e w2 ⟨rfl, hb2⟩
      have HB2 := Lib.hid (btrans HB.out hb2)
      clear hb2
      go_wp2_with fail
      go_ret
      exact ⟨rfl, HB2.out⟩
  · have p2 : 2 ≤ l.length := by omega
    go_enter Tryz.func9, Tryz.ntmps9
    go_wp2_with fail
    refine HSP.out.mono ?_
    rintro e w1 ⟨rfl, hw1⟩
    rw [← hw1] at HST
    clear hw1 HSP
    go_wp2_with fail
    go_loopw [11] (fun v wr => ∃ i : Nat, v = .int .i64 i ∧ i + 1 ≤ l.length ∧ KeyInv W wr l i) (fun v _ => (l.length - intOf v).toNat)
    case atStart => exact ⟨0, rfl, by omega, HST.out⟩
    case round =>
      obtain ⟨i, rfl, hi, hinv⟩ := hrel
      have HI := Lib.hid hinv
      by_cases hik : i + 1 < l.length
      · have t1 : decide ((i : Int) < (l.length : Int) - 1) = true := decide_eq_true (by omega)
        have hx : l[i + 1]? = some l[i + 1] := List.getElem?_eq_getElem hik
        obtain ⟨x, hxx⟩ : ∃ x, x = l[i + 1] := ⟨_, rfl⟩
        rw [← hxx] at hx
        have c := hinv.cell hx
        have f := hinv.free (i + 1)
        have HT := Lib.hid (trim_all x wr)
        have HX := Lib.hid hx
        have g1 : IntKind.i64.wrap ((i : Int) + 1) = (i : Int) + 1 := IntWalk.i64_in _ (by omega)
        have i0 : (0 : Int) ≤ (i : Int) + 1 := by omega
        have i1 : (i : Int) + 1 < (l.length : Int) := by omega
        clear hx hxx
        go_wp2_with fail
        refine HT.out.mono ?_
        rintro e w2 ⟨rfl, hb2⟩
        have f2 := (hb2.frozen (p := ⟨W.heap.size, i + 1, none⟩) (World.block_lt_of_cell? _ _ c)).trans f
        have c2 := (hb2.cell (p := ⟨W.heap.size, i + 1, none⟩) (World.block_lt_of_cell? _ _ c)).trans c
        have HE : Hid (KeyInv W (w2.setCell ⟨W.heap.size, i + 1, none⟩ (.string (dropDig x))) l (i + 1)) := HI.out.step HX.out hb2
        clear hinv hb2 c f
        go_wp2_with fail
        go_roundw
        case rel => exact ⟨i + 1, by go_num, by omega, HE.out⟩
        case measure => simp [intOf]; omega
      · have hli : l.length = i + 1 := by omega
        have t1 : decide ((i : Int) < (l.length : Int) - 1) = false := decide_eq_false (by omega)
        have HJ1 := Lib.hid (HJ.out wr i hinv hli hs p1)
        clear HJ hinv hli
        go_wp2_with fail
        refine HJ1.out.mono ?_
        rintro e w2 ⟨rfl, hb2⟩
        have HB2 := Lib.hid (btrans HB.out hb2)
        clear hb2
        go_wp2_with fail
        go_ret
        exact ⟨rfl, HB2.out⟩

end Go.Proofs.YtkpjjhiighakfaaGreatDoor
