/- The list of names, HasText. -/
import Derived.Test.YtkpjjhiighakfaaGreatDoorN6
namespace Go.Proofs.YtkpjjhiighakfaaGreatDoor
open Go.RowKit
attribute [local go_sem ↓] Go.wp_at_zero Go.wp_at_succ

def strCells (l : List ByteArray) : List Value := l.map .string
theorem strCells_one (l : List ByteArray) : ∀ u ∈ strCells l, u.oneCell' = true := by
  intro u hu
  obtain ⟨s, _, rfl⟩ := List.mem_map.1 hu
  rfl
theorem infoStr : (Tryz.prog.info? 9).map (fun i => (i.zero, i.size, i.bytes)) = some (some (.string ⟨#[]⟩), 1, 16) := by kernel_rfl

theorem str_cell {w : World} {la : Option Addr} {n lc : Nat} {xs : List ByteArray} {sb : Option Nat} (h : RowAt w 9 1 (.slice la n lc) n (strCells xs) sb) {k : Nat} {x : ByteArray} (hx : xs[k]? = some x) (hk : k < n) :
    ∃ g off, la = some ⟨g, off, none⟩ ∧ w.cell? ⟨g, off + k, none⟩ = some (.string x) := by
  rcases h.2.2 with ⟨_, h0, _⟩ | ⟨g, off, cap, cur, hv, hsg, hh, _, _, _, ht⟩
  · omega
  injection hv with e1 e2 e3
  exact ⟨g, off, e1, by rw [row_cell hh ht k (by omega), strCells, List.getElem?_map, hx]; rfl⟩

set_option maxRecDepth 8000 in
set_option maxHeartbeats 1000000 in
theorem hasText_none {w : World} {la : Option Addr} {n lc : Nat} {xs : List ByteArray} {sb : Option Nat} (h : RowAt w 9 1 (.slice la n lc) n (strCells xs) sb) (hn : xs.length = n) (s : ByteArray) (hne : ∀ x ∈ xs, x ≠ s) (hbig : n ≤ 1000000) :
    Calls Tryz.prog 10 #[.slice la n lc, .string s] w fun e w' => e = .returned (.bool false) ∧ w' = w := by
  have H := Lib.hid h
  have HN := Lib.hid hne
  clear h hne
  go_enter Tryz.func10, Tryz.ntmps10
  go_wp2_with fail
  go_loopw [5] (fun vi wr => ∃ k : Nat, vi = .int .i64 k ∧ k ≤ n ∧ w = wr) (fun vi _ => (n - intOf vi).toNat)
  case atStart => exact ⟨0, rfl, Nat.zero_le _, rfl⟩
  case round =>
    obtain ⟨k, rfl, hk, rfl⟩ := hrel
    by_cases hkn : k < n
    · obtain ⟨x, hx⟩ : ∃ x, xs[k]? = some x := ⟨_, List.getElem?_eq_getElem (by omega)⟩
      obtain ⟨g, off, rfl, hc⟩ := str_cell H.out hx hkn
      have hxs := HN.out x (List.mem_of_getElem? hx)
      have b1 : (x.toList == s.toList) = false := by rw [ByteArray.toList_eq, ByteArray.toList_eq]; exact beq_eq_false_iff_ne.2 fun e => hxs (bytes_ext e)
      have i1 : (0 : Int) ≤ (k : Int) := by omega
      have i2 : (k : Int) < (n : Int) := by omega
      go_wp2_with fail
      go_roundw
      case rel => exact ⟨k + 1, by go_num, by omega, trivial⟩
      case measure => simp [intOf]; omega
    · obtain rfl : n = k := by omega
      go_wp2_with fail
      go_ret
      exact ⟨rfl, rfl⟩

structure NmInv (w0 wr : World) (names : List ByteArray) (v : Value) : Prop where
  row : ∃ sb, RowAt wr 9 1 v names.length (strCells names) sb ∧ ∀ g, sb = some g → w0.heap.size ≤ g
  below : Below w0.heap.size w0 wr
theorem NmInv.keep {w0 wr w' : World} {names : List ByteArray} {v : Value} (h : NmInv w0 wr names v) (hb : Below wr.heap.size wr w') : NmInv w0 w' names v := by
  obtain ⟨⟨sb, h1, h2⟩, h3⟩ := h
  exact ⟨⟨sb, h1.keep hb, h2⟩, btrans h3 hb⟩

theorem NmInv.push {w0 wr : World} {names : List ByteArray} {la : Option Addr} {k lc : Nat} (h : NmInv w0 wr names (.slice la k lc)) (hk : k = names.length) (hl : k ≤ 1000000) (s : ByteArray) :
    ∃ la2 lc2 w2, (Builtin.append_ #[40, 40] 40 #[.slice la k lc, .slice (some ⟨wr.heap.size, 0, none⟩) 1 1]).run Tryz.prog (wr.alloc (.cells #[.string s] 9)) = .ok (.slice la2 (k + 1) lc2) w2 ∧ NmInv w0 w2 (names ++ [s]) (.slice la2 (k + 1) lc2) := by
  subst hk
  obtain ⟨⟨sb, m1, m2⟩, m3⟩ := h
  have hb1 : Below wr.heap.size wr (wr.alloc (.cells #[.string s] 9)) := (Below.refl _ _).alloc (Nat.le_refl _) _
  have hn1 := heap_alloc_new wr (.cells #[.string s] 9)
  obtain ⟨la2, lc2, cb2, w2, hrun, hrow2, hg2, hsb2, _⟩ := row_append (P := Tryz.prog) (wr.alloc (.cells #[.string s] 9)) 40 40 9 _ 1 16 Tryz.underlying40 infoStr rfl (m1.keep hb1) ⟨wr.heap.size, 0, none⟩ 1 1 (strCells [s]) rfl
    (fun j u hj => by
      rw [Addr.add_lit, Nat.zero_add, cell_of_row _ _ j _ _ _ hn1]
      match j, hj with
      | 0, hj => cases hj; rfl
      | j + 1, hj => simp [strCells] at hj) (strCells_one _) (by omega) (by omega) (by omega)
  have hsz : (wr.alloc (.cells #[.string s] 9)).heap.size = wr.heap.size + 1 := by simp
  have h3 := m3.size
  refine ⟨la2, lc2, w2, hrun, ⟨cb2, ?_, fun g hg => ?_⟩, ?_⟩
  · rw [show strCells (names ++ [s]) = strCells names ++ strCells [s] by simp [strCells], List.length_append]; exact hrow2
  · rcases hsb2 with e | e
    · exact m2 g (e.symm.trans hg)
    · rw [hg] at e; cases e; omega
  · exact ((Fr.ofBelow (F := fun _ => False) (btrans m3 hb1)).trans (Fr.ofGrown (F := fun k => sb = some k) hg2 (fun k hk => hk)) (fun b hb => .inr (m2 b hb))).toBelow fun _ _ h => h

end Go.Proofs.YtkpjjhiighakfaaGreatDoor
