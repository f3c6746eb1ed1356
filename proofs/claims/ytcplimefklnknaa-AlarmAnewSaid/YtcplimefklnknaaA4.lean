/- Rows of cells behind a slice; walks: first, place. -/
import Derived.Test.YtcplimefklnknaaA3
import Derived.Test.YtcplimefklnknaaRow
namespace Go.Proofs.Ytcplimefklnknaa
open Go.RowKit
attribute [local go_sem ↓] Go.wp_at_zero Go.wp_at_succ

/-- The cells of entries. -/
def entCells (l : List (Int × Int × Int)) : List Value := l.flatMap fun e => [.int .i64 e.1, .int .i64 e.2.1, .int .i64 e.2.2]

theorem entCells_length (l : List (Int × Int × Int)) : (entCells l).length = l.length * 3 := by
  induction l with
  | nil => rfl
  | cons e l ih => simp only [entCells, List.flatMap_cons, List.length_append, List.length_cons, List.length_nil] at *; omega

theorem entCells_get (l : List (Int × Int × Int)) (i : Nat) (e : Int × Int × Int) (h : l[i]? = some e) :
    (entCells l)[i * 3]? = some (.int .i64 e.1) ∧ (entCells l)[i * 3 + 1]? = some (.int .i64 e.2.1) ∧ (entCells l)[i * 3 + 2]? = some (.int .i64 e.2.2) := by
  induction l generalizing i with
  | nil => simp at h
  | cons a l ih =>
    cases i with
    | zero => simp only [List.getElem?_cons_zero, Option.some.injEq] at h; subst h; simp [entCells]
    | succ i =>
      have := ih i (by simpa using h)
      have e1 : (entCells (a :: l)) = [.int .i64 a.1, .int .i64 a.2.1, .int .i64 a.2.2] ++ entCells l := by simp [entCells]
      rw [e1]
      refine ⟨?_, ?_, ?_⟩
      · rw [List.getElem?_append_right (by simp; omega)]; simpa [show (i + 1) * 3 - 3 = i * 3 by omega] using this.1
      · rw [List.getElem?_append_right (by simp; omega)]; simpa [show (i + 1) * 3 + 1 - 3 = i * 3 + 1 by omega] using this.2.1
      · rw [List.getElem?_append_right (by simp; omega)]; simpa [show (i + 1) * 3 + 2 - 3 = i * 3 + 2 by omega] using this.2.2

set_option maxHeartbeats 400000 in
theorem first_any (g : Nat) (c : Value) (pb : Nat) (lv : Value) (sb : Option Nat) (l : List (Int × Int × Int)) (q : Int × Int × Int → Bool) (w : World)
    (hcf : ∀ args W, (callFunc g args).run Try.prog W = .ok (.enter g args) W)
    (c3 : w.cell? ⟨pb, 0, none⟩ = some lv) (hr : RowAt w 45 3 lv l.length (entCells l) sb)
    (hg : ∀ e ∈ l, ∀ W, Below w.heap.size w W → Calls Try.prog g #[.agg #[.int .i64 e.1, .int .i64 e.2.1, .int .i64 e.2.2], c] W (fun e' W' => e' = .returned (.bool (q e)) ∧ Below W.heap.size W W')) :
    Calls Try.prog 18 #[.pointer (some ⟨pb, 0, none⟩), .func (.func g) #[] #[c]] w fun e w' => ∃ r : Nat, e = .returned (.int .i64 r) ∧ r ≤ l.length ∧
      (r = 0 ∨ ∃ e, l[r-1]? = some e ∧ q e = false) ∧ (r = l.length ∨ ∃ e, l[r]? = some e ∧ q e = true) ∧ Below w.heap.size w w' := by
  have hn := hr.2.1
  obtain ⟨la, lc, hlv⟩ : ∃ la lc, lv = .slice la l.length lc := by
    rcases hr.2.2 with ⟨h, h0, _⟩ | ⟨g, off, cap, cur, hv, _⟩
    · exact ⟨none, 0, by rw [h, h0]⟩
    · exact ⟨_, _, hv⟩
  subst hlv
  have HR := Lib.hid hr
  have HG := Lib.hid hg
  have c3' := fun o o' => akeep (akeep c3 o) o'
  clear hr hg
  go_enter Try.func18, Try.ntmps18
  go_wp2_with fail
  refine (search_any 25 _ _ l.length (fun i => (l[i]?.map q).getD false) _ hn (fun _ _ => by kernel_rfl) ?_).mono ?_
  · intro i W hi hb
    obtain ⟨e, he⟩ : ∃ e, l[i]? = some e := ⟨l[i], by simp [hi]⟩
    have hmem : e ∈ l := List.mem_of_getElem? he
    have hb0 : Below w.heap.size w W := btrans (btrans ((Below.refl _ _).alloc (Nat.le_refl _) _) ((Below.refl _ _).alloc (Nat.le_refl _) _)) hb
    have hr := HR.out
    rcases hr.2.2 with ⟨h, h0, _⟩ | ⟨g', off, cap, cur, hv, hs, hh, _⟩
    · omega
    · cases hv
      have hc := fun j hj => hr.cell j hj
      have hg' := entCells_get l i e he
      have k0 := bkeep hb0 (a := ⟨g', off + i * 3, none⟩) ((hc (i * 3) (by omega)).trans hg'.1)
      have k1 := bkeep hb0 (a := ⟨g', off + i * 3 + 1, none⟩) ((hc (i * 3 + 1) (by omega)).trans hg'.2.1)
      have k2 := bkeep hb0 (a := ⟨g', off + i * 3 + 2, none⟩) ((hc (i * 3 + 2) (by omega)).trans hg'.2.2)
      have := first1_any g c pb g' off l.length lc i (w.heap.size + 1) w.heap.size e.1 e.2.1 e.2.2 (q e) W hcf hi (bkeep hb (by go_simp)) (bkeep hb (by go_simp)) (bkeep hb0 c3) k0 k1 k2 (fun W' hW' => HG.out e hmem W' (btrans hb0 hW'))
      simpa [he] using this
  · rintro e w' ⟨r, rfl, hrl, hr0, hr1, hb⟩
    go_wp2
    go_ret
    refine ⟨r, rfl, hrl, ?_, ?_, btrans (btrans ((Below.refl _ _).alloc (Nat.le_refl _) _) ((Below.refl _ _).alloc (Nat.le_refl _) _)) hb⟩
    · rcases hr0 with h | h
      · exact .inl h
      · by_cases h0 : r = 0
        · exact .inl h0
        · refine .inr ⟨l[r-1], by simp, ?_⟩
          simpa [show r - 1 < l.length by omega] using h
    · rcases hr1 with h | h
      · exact .inl h
      · by_cases h0 : r = l.length
        · exact .inl h0
        · refine .inr ⟨l[r], by simp, ?_⟩
          simpa [show r < l.length by omega] using h

set_option maxHeartbeats 400000 in
theorem place_any (x y z : Int) (pb : Nat) (lv : Value) (sb : Option Nat) (l : List (Int × Int × Int)) (w : World)
    (c3 : w.cell? ⟨pb, 0, none⟩ = some lv) (hr : RowAt w 45 3 lv l.length (entCells l) sb) :
    Calls Try.prog 22 #[.pointer (some ⟨pb, 0, none⟩), .agg #[.int .i64 x, .int .i64 y, .int .i64 z]] w fun e w' => ∃ r : Nat, e = .returned (.int .i64 r) ∧ r ≤ l.length ∧
      (r = 0 ∨ ∃ e, l[r-1]? = some e ∧ geE e.1 e.2.1 x y = false) ∧ (r = l.length ∨ ∃ e, l[r]? = some e ∧ geE e.1 e.2.1 x y = true) ∧ Below w.heap.size w w' := by
  have hb : ∀ o, Below w.heap.size w (w.alloc o) := fun o => (Below.refl _ _).alloc (Nat.le_refl _) _
  have HR := Lib.hid hr
  clear hr
  go_enter Try.func22, Try.ntmps22
  go_wp2_with fail
  refine (first_any 28 _ pb lv sb l (fun e => geE e.1 e.2.1 x y) _ (fun _ _ => by kernel_rfl) (akeep c3 _) (HR.out.below ?_) ?_).mono ?_
  · intro g hg
    rcases HR.out.2.2 with ⟨_, _, h⟩ | ⟨g', off, cap, cur, hv, hs, hh, _⟩
    · rw [h] at hg; cases hg
    · rw [hs] at hg; cases hg
      exact (hb _).block _ (Array.getElem?_eq_some_iff.1 hh).1
  · intro e he W hW
    exact place1_any e.1 e.2.1 e.2.2 x y _ W (bkeep hW (by go_simp)) (bkeep hW (by go_simp))
  · rintro e w' ⟨r, rfl, hrl, hr0, hr1, hb'⟩
    go_wp2
    go_ret
    exact ⟨r, rfl, hrl, hr0, hr1, btrans (hb _) hb'⟩

end Go.Proofs.Ytcplimefklnknaa
