/- Walks: slices.Delete of one entry. -/
import Derived.Test.YtcplimefklnknaaA6
namespace Go.Proofs.Ytcplimefklnknaa
open Go.RowKit
attribute [local go_sem ↓] Go.wp_at_zero Go.wp_at_succ

/-- What stands in the block behind the move and the clearing. -/
theorem del_cells {cur : List Value} {off i n cap : Nat} {l : List (Int × Int × Int)} (e : Int × Int × Int) (hl : l.length = n) (hi : i < n) (hroom : n ≤ cap) (hs : off + cap * 3 ≤ cur.length) (ht : (cur.drop off).take (n * 3) = entCells l) :
    off + i * 3 + (entCells (l.drop (i + 1))).length ≤ cur.length ∧ off + (n - 1) * 3 + (entCells [e]).length ≤ (splice cur (off + i * 3) (entCells (l.drop (i + 1)))).length ∧
    (splice (splice cur (off + i * 3) (entCells (l.drop (i + 1)))) (off + (n - 1) * 3) (entCells [e])).length = cur.length ∧
    ((splice (splice cur (off + i * 3) (entCells (l.drop (i + 1)))) (off + (n - 1) * 3) (entCells [e])).drop off).take ((n - 1) * 3) = entCells (l.take i ++ l.drop (i + 1)) := by
  have h1 : (entCells (l.drop (i + 1))).length = (n - (i + 1)) * 3 := by rw [entCells_length, List.length_drop, hl]
  have h2 : (entCells [e]).length = 3 := by rw [entCells_length]; rfl
  have h3 : off + i * 3 + (entCells (l.drop (i + 1))).length ≤ cur.length := by rw [h1]; omega
  have h4 : off + (n - 1) * 3 + (entCells [e]).length ≤ (splice cur (off + i * 3) (entCells (l.drop (i + 1)))).length := by rw [length_splice _ _ _ h3, h2]; omega
  have h5 : (entCells (l.take i)).length = i * 3 := by rw [entCells_length, List.length_take]; omega
  refine ⟨h3, h4, by rw [length_splice _ _ _ h4, length_splice _ _ _ h3], seg_ext (by rw [entCells_length]; simp; omega) fun j hj => ?_⟩
  rw [getElem?_splice _ _ _ h4, getElem?_splice _ _ _ h3, entCells_append, h1, h2]
  rw [if_pos (by omega)]
  by_cases c1 : j < i * 3
  · rw [if_pos (by omega), List.getElem?_append_left (by rw [h5]; exact c1), entCells_take, List.getElem?_take, if_pos c1]
    exact seg_get ht j (by omega)
  · rw [if_neg (by omega), if_pos (by omega), List.getElem?_append_right (by rw [h5]; omega), h5]
    congr 1; omega

theorem run_clear_seg {P : Program} (w : World) (t ty elem : TypeId) (g o n c s : Nat) (z : Value) (cur : Array Value) (T : TypeId) (hu : P.underlying t = some (.slice elem)) (hz : (zeroValue elem).run P w = .ok z w)
    (hn : 0 < n) (cs : List Value) (hcs : (Builtin.zeroCells z.cells n).toList = cs) (hl : cs.length = s) (hg : w.heap[g]? = some (.cells cur T (0, 0))) (hfit : o + s ≤ cur.size) (h1 : ∀ v ∈ cs, v.oneCell' = true) :
    (Builtin.clear_ #[t] ty #[.slice (some ⟨g, o, none⟩) n c]).run P w = .ok (.tuple #[]) (w.setRow g (splice cur.toList o cs).toArray) := by
  have hst := run_storeCells_at P g o T cs 0 cur w hg (by rw [hl]; simpa using hfit) h1
  obtain ⟨m, rfl⟩ : ∃ m, n = m + 1 := ⟨n - 1, by omega⟩
  simp [Builtin.clear_, run_underlying hu, hz, hcs, hst, splice]

def zent : Int × Int × Int := (0, 0, 0)

/-- What Delete leaves. -/
def Deleted (g : Nat) (l : List (Int × Int × Int)) (w : World) (e : Ending) (w' : World) : Prop :=
  ∃ lv', e = .returned lv' ∧ RowAt w' 45 3 lv' l.length (entCells l) (some g) ∧ w.grownBy w' (some g)

set_option maxHeartbeats 1000000 in
theorem delete_any (w : World) (l : List (Int × Int × Int)) (g off cap i : Nat) (cur : Array Value)
    (hg : w.heap[g]? = some (.cells cur 45 (0, 0))) (hi : i < l.length) (hroom : l.length ≤ cap) (hm : cap ≤ maxLen) (hs : off + cap * 3 ≤ cur.size) (ht : (cur.toList.drop off).take (l.length * 3) = entCells l) (hn : l.length ≤ 1000000) :
    Calls Try.prog 23 #[.slice (some ⟨g, off, none⟩) l.length cap, .int .i64 i, .int .i64 ((i : Int) + 1)] w (Deleted g (l.take i ++ l.drop (i + 1)) w) := by
  obtain ⟨i0, hi0, hz0, hz1, hz2⟩ := info_parts infoEnt
  obtain ⟨k1, k2, k3, k4⟩ := del_cells (cur := cur.toList) (off := off) (i := i) (n := l.length) (cap := cap) zent rfl hi hroom (by simpa using hs) ht
  obtain ⟨A1, hA1⟩ : ∃ A1, A1 = (splice cur.toList (off + i * 3) (entCells (l.drop (i + 1)))).toArray := ⟨_, rfl⟩
  have hap : ∀ (ad : Addr) c, (i + 1 < l.length → ad = ⟨g, off + (i + 1) * 3, none⟩) → (Builtin.append_ #[47, 47] 47 #[.slice (some ⟨g, off, none⟩) i cap, .slice (some ad) (l.length - (i + 1)) c]).run Try.prog w.drew = .ok (.slice (some ⟨g, off, none⟩) (l.length - 1) cap) (w.drew.setRow g A1) := fun ad c had => by
    have := run_append_seg (P := Try.prog) w.drew 47 47 45 i0 3 Try.underlying47 hi0 hz1 g off i cap cur 45 hg ad (l.length - (i + 1)) c (entCells (l.drop (i + 1))) (by rw [entCells_length, List.length_drop]) (fun j v hj => ?_) (entCells_one _) (by omega) (by simpa using k1)
    · rw [this, hA1, show i + (l.length - (i + 1)) = l.length - 1 by omega]
    · have hj' : j < (entCells (l.drop (i + 1))).length := (List.getElem?_eq_some_iff.1 hj).1
      rw [entCells_length, List.length_drop] at hj'
      rw [had (by omega), Addr.add_lit, Nat.add_assoc]
      refine (row_cell (w := w) hg ht _ (by omega)).trans ?_
      rw [entCells_drop, List.getElem?_drop] at hj
      exact hj
  have hg1 : (w.drew.setRow g A1).heap[g]? = some (.cells A1 45 (0, 0)) := setRow_heap w.drew g cur A1 _ _ hg
  have hcl : ∀ c, (Builtin.clear_ #[47] 0 #[.slice (some ⟨g, off + (l.length - 1) * 3, none⟩) 1 c]).run Try.prog (w.drew.setRow g A1) = .ok (.tuple #[]) ((w.drew.setRow g A1).setRow g (splice A1.toList (off + (l.length - 1) * 3) (entCells [zent])).toArray) := fun c =>
    run_clear_seg _ _ _ 45 g _ 1 c 3 (.agg #[.int .i64 0, .int .i64 0, .int .i64 0]) A1 45 Try.underlying47 (by kernel_rfl) (by omega) _ (by kernel_rfl) (by rw [entCells_length]; rfl) hg1 (by rw [hA1]; simpa [entCells_length] using k2) (entCells_one _)
  have HF : Hid (Deleted g (l.take i ++ l.drop (i + 1)) w (.returned (.slice (some ⟨g, off, none⟩) (l.length - 1) cap)) ((w.drew.setRow g A1).setRow g (splice A1.toList (off + (l.length - 1) * 3) (entCells [zent])).toArray)) := by
    have hl' : (l.take i ++ l.drop (i + 1)).length = l.length - 1 := by simp; omega
    refine ⟨_, rfl, ⟨entCells_length _, by omega, .inr ⟨g, off, cap, _, by rw [hl'], rfl, setRow_heap _ g _ _ _ _ hg1, by omega, hm, ?_, ?_⟩⟩, ?_⟩
    · rw [hA1]; simp only [List.size_toArray]; rw [k3]; simpa using hs
    · rw [hA1, hl']; exact k4
    · refine ⟨rfl, rfl, rfl, by simp [World.setRow], fun k _ hk => ?_⟩
      rw [setRow_other _ g k _ (fun e => hk (by rw [e])), setRow_other _ g k _ (fun e => hk (by rw [e]))]; rfl
  clear k1 k2 k3 k4 hA1 hg1 hz0 hz1 hz2 hi0
  generalize hnn : l.length = n at *
  have HN := Lib.hid hnn
  have HT := Lib.hid ht
  have HG := Lib.hid hg
  clear hnn ht hg
  have b1 : (0 : Int) ≤ (i : Int) := by omega
  have b2 : (i : Int) < (n : Int) := by omega
  have b3 : (n : Int) ≤ (cap : Int) := by omega
  have b4 : ¬ ((i : Int) = (i : Int) + 1) := by omega
  have b5 : ((i : Int) == (i : Int) + 1) = false := beq_eq_false_iff_ne.2 b4
  unfold maxLen at hm
  go_enter Try.func23, Try.ntmps23
  go_wp2_with fail
  have c1 : (0 : Int) ≤ (i : Int) + 1 := by omega
  have c2 : ((i : Int) + 1).toNat = i + 1 := by omega
  have c6 : (i : Int) + 1 ≤ (n : Int) := by omega
  have c7 : (i : Int) ≤ (n : Int) := by omega
  have c8 : (i : Int) ≤ (cap : Int) := by omega
  have c9 : (i : Int) + 1 ≤ (cap : Int) := by omega
  by_cases hc : cap = i + 1
  · subst hc
    obtain rfl : n = i + 1 := by omega
    have e1 : (i : Int) ≤ (i : Int) + 1 := by omega
    have hap' := hap ⟨g, off, none⟩ 0 (by omega)
    rw [show i + 1 - (i + 1) = 0 by omega, show i + 1 - 1 = i by omega] at hap'
    rw [show i + 1 - 1 = i by omega] at hcl HF
    go_region_held3 (fun _ => True) (trivial) ((refine step_run (by rfl) (exec_append _ _ _ _ (by rfl) _ _ (by simp [Act.eval]) (by simp [Act.eval]) hap') ?_))
    clear c1 c2 c6 c7 c8 c9 e1
    go_wp2_with fail
    go_ret
    exact HF.out
  · have hap' := hap ⟨g, off + (i + 1) * 3, none⟩ (cap - (i + 1)) (fun _ => rfl)
    go_region_held3 (fun _ => True) (trivial) ((refine step_run (by rfl) (exec_append _ _ _ _ (by rfl) _ _ (by simp [Act.eval]) (by simp [Act.eval]) hap') ?_))
    clear c1 c2 c6 c7 c8 c9
    have d1 : ((n - 1 : Nat) : Int) ≤ (n : Int) := by omega
    have d2 : n - (n - 1) = 1 := by omega
    go_wp2_with fail
    go_ret
    exact HF.out

end Go.Proofs.Ytcplimefklnknaa
