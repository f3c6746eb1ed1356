/- Walks: slices.Insert of one entry, in the midst. -/
import Derived.Test.YtcplimefklnknaaA5
namespace Go.Proofs.Ytcplimefklnknaa
open Go.RowKit
attribute [local go_sem ↓] Go.wp_at_zero Go.wp_at_succ

/-- What stands in the block behind the two copies. -/
theorem shift_cells {cur : List Value} {off i n cap : Nat} {l : List (Int × Int × Int)} (e : Int × Int × Int) (hl : l.length = n) (hi : i < n) (hroom : n + 1 ≤ cap) (hs : off + cap * 3 ≤ cur.length) (ht : (cur.drop off).take (n * 3) = entCells l) :
    off + (i + 1) * 3 + (entCells (l.drop i)).length ≤ cur.length ∧ off + i * 3 + (entCells [e]).length ≤ (splice cur (off + (i + 1) * 3) (entCells (l.drop i))).length ∧
    (splice (splice cur (off + (i + 1) * 3) (entCells (l.drop i))) (off + i * 3) (entCells [e])).length = cur.length ∧
    ((splice (splice cur (off + (i + 1) * 3) (entCells (l.drop i))) (off + i * 3) (entCells [e])).drop off).take ((n + 1) * 3) = entCells (l.take i ++ e :: l.drop i) := by
  have h1 : (entCells (l.drop i)).length = (n - i) * 3 := by rw [entCells_length, List.length_drop, hl]
  have h2 : (entCells [e]).length = 3 := by rw [entCells_length]; rfl
  have h3 : off + (i + 1) * 3 + (entCells (l.drop i)).length ≤ cur.length := by rw [h1]; omega
  have h4 : off + i * 3 + (entCells [e]).length ≤ (splice cur (off + (i + 1) * 3) (entCells (l.drop i))).length := by rw [length_splice _ _ _ h3, h2]; omega
  have h5 : (entCells (l.take i)).length = i * 3 := by rw [entCells_length, List.length_take]; omega
  refine ⟨h3, h4, by rw [length_splice _ _ _ h4, length_splice _ _ _ h3], seg_ext (by rw [entCells_length]; simp; omega) fun j hj => ?_⟩
  rw [getElem?_splice _ _ _ h4, getElem?_splice _ _ _ h3, entCells_append, show e :: l.drop i = [e] ++ l.drop i from rfl, entCells_append, h1, h2]
  by_cases c1 : j < i * 3
  · rw [if_pos (by omega), if_pos (by omega), List.getElem?_append_left (by rw [h5]; exact c1), entCells_take, List.getElem?_take, if_pos c1]
    exact seg_get ht j (by omega)
  · rw [if_neg (by omega), List.getElem?_append_right (by rw [h5]; omega), h5]
    by_cases c2 : j < i * 3 + 3
    · rw [if_pos (by omega), List.getElem?_append_left (by rw [h2]; omega)]
      congr 1; omega
    · rw [if_neg (by omega), if_neg (by omega), if_pos (by omega), List.getElem?_append_right (by rw [h2]; omega), h2]
      congr 1; omega

set_option maxHeartbeats 1000000 in
theorem insert_shift (w : World) (l : List (Int × Int × Int)) (g off cap i : Nat) (cur : Array Value) (vb : Nat) (e : Int × Int × Int)
    (hg : w.heap[g]? = some (.cells cur 45 (0, 0))) (hi : i < l.length) (hroom : l.length + 1 ≤ cap) (hm : cap ≤ maxLen) (hs : off + cap * 3 ≤ cur.size) (ht : (cur.toList.drop off).take (l.length * 3) = entCells l) (hn : l.length ≤ 1000000)
    (hv : w.heap[vb]? = some (.cells #[.int .i64 e.1, .int .i64 e.2.1, .int .i64 e.2.2] 45 (0, 0))) (hvb : vb ≠ g) :
    Calls Try.prog 21 #[.slice (some ⟨g, off, none⟩) l.length cap, .int .i64 i, .slice (some ⟨vb, 0, none⟩) 1 1] w (Inserted (some g) (l.take i ++ e :: l.drop i) w) := by
  have hlen : (entCells l).length = l.length * 3 := entCells_length l
  have hov : ∀ lb cb, (callFunc 26 #[.slice (some ⟨vb, 0, none⟩) 1 1, .slice (some ⟨g, off + (i + 1) * 3, none⟩) lb cb]).run Try.prog w = .ok (.value (.bool false)) w := fun lb cb => by
    rw [run_callFunc_extern Try.func26 (by kernel_rfl) (by kernel_rfl) (by kernel_rfl) (e := Extern.SlicesOverlaps.overlaps #[47, 47] #[4]) (by kernel_rfl),
      Lib.run_overlaps_apart w 47 4 45 Try.underlying47 3 sizeEnt ⟨vb, 0, none⟩ ⟨g, off + (i + 1) * 3, none⟩ 1 1 lb cb hvb 45 45 3 cur.size (by simp [World.shape?, hv]) (by simp [World.shape?, hg]) (by omega) (by simp [World.frozen?, hv]) (by simp [World.frozen?, hv])]
    rfl
  obtain ⟨k1, k2, k3, k4⟩ := shift_cells (cur := cur.toList) (off := off) (i := i) (n := l.length) (cap := cap) e rfl hi hroom (by simpa using hs) ht
  have hsz : (Try.prog.info? 45).map (·.size) = some 3 := by kernel_rfl
  obtain ⟨A1, hA1⟩ : ∃ A1, A1 = (splice cur.toList (off + (i + 1) * 3) (entCells (l.drop i))).toArray := ⟨_, rfl⟩
  have hcp1 : ∀ dl sl dc sc, Nat.min sl dl = l.length - i → (Builtin.copy_ #[47, 47] 3 #[.slice (some ⟨g, off + (i + 1) * 3, none⟩) dl dc, .slice (some ⟨g, off + i * 3, none⟩) sl sc]).run Try.prog w.drew = .ok (goInt (Nat.min sl dl)) (w.drew.setRow g A1) := fun dl sl dc sc hmin => by
    rw [hA1]
    refine run_copy_seg w.drew _ _ _ 45 g _ dl dc ⟨g, off + i * 3, none⟩ sl sc 3 cur 45 (entCells (l.drop i)) Try.underlying47 hsz hg (by rw [hmin, entCells_length, List.length_drop]) (fun j v hj => ?_) (by simpa using k1) (entCells_one _)
    have hj' : j < (entCells (l.drop i)).length := (List.getElem?_eq_some_iff.1 hj).1
    rw [entCells_length, List.length_drop] at hj'
    rw [Addr.add_lit, Nat.add_assoc]
    refine (row_cell (w := w) hg ht _ (by omega)).trans ?_
    rw [entCells_drop, List.getElem?_drop] at hj
    exact hj
  have hg1 : (w.drew.setRow g A1).heap[g]? = some (.cells A1 45 (0, 0)) := setRow_heap w.drew g cur A1 _ _ hg
  have hv1 : (w.drew.setRow g A1).heap[vb]? = some (.cells #[.int .i64 e.1, .int .i64 e.2.1, .int .i64 e.2.2] 45 (0, 0)) := (setRow_other w.drew g vb A1 hvb).trans hv
  have hcp2 : ∀ dl dc, 1 ≤ dl → (Builtin.copy_ #[47, 47] 3 #[.slice (some ⟨g, off + i * 3, none⟩) dl dc, .slice (some ⟨vb, 0, none⟩) 1 1]).run Try.prog (w.drew.setRow g A1) = .ok (goInt (Nat.min 1 dl)) ((w.drew.setRow g A1).setRow g (splice A1.toList (off + i * 3) (entCells [e])).toArray) := fun dl dc hdl => by
    refine run_copy_seg _ _ _ _ 45 g _ dl dc ⟨vb, 0, none⟩ 1 1 3 A1 45 (entCells [e]) Try.underlying47 hsz hg1 (by rw [entCells_length, show Nat.min 1 dl = 1 from Nat.min_eq_left hdl]; rfl) (one_cells hv1) (by rw [hA1]; simpa using k2) (entCells_one _)
  have HF : Hid (Inserted (some g) (l.take i ++ e :: l.drop i) w (.returned (.slice (some ⟨g, off, none⟩) (l.length + 1) cap)) ((w.drew.setRow g A1).setRow g (splice A1.toList (off + i * 3) (entCells [e])).toArray)) := by
    have hl' : (l.take i ++ e :: l.drop i).length = l.length + 1 := by simp; omega
    refine ⟨_, some g, rfl, ⟨entCells_length _, by omega, .inr ⟨g, off, cap, _, by rw [hl'], rfl, setRow_heap _ g _ _ _ _ hg1, by omega, hm, ?_, ?_⟩⟩, ?_, .inl rfl⟩
    · rw [hA1]; simp only [List.size_toArray]; rw [k3]; simpa using hs
    · rw [hA1, hl']; exact k4
    · refine ⟨rfl, rfl, rfl, by simp [World.setRow], fun k _ hk => ?_⟩
      rw [setRow_other _ g k _ (fun e => hk (by rw [e])), setRow_other _ g k _ (fun e => hk (by rw [e]))]; rfl
  clear k1 k2 k3 k4 hsz hA1 hg1 hv1
  generalize hnn : l.length = n at *
  have HN := Lib.hid hnn
  have HT := Lib.hid ht
  have HG := Lib.hid hg
  have HV := Lib.hid hv
  clear hnn ht hg hv hlen
  have b1 : (0 : Int) ≤ (i : Int) := by omega
  have b2 : (i : Int) < (n : Int) := by omega
  have b3 : (n : Int) + 1 ≤ (cap : Int) := by omega
  unfold maxLen at hm
  go_enter Try.func21, Try.ntmps21
  go_wp2_with (simp only [hov])
  have c1 : (0 : Int) ≤ (i : Int) + 1 := by omega
  have c2 : ((i : Int) + 1).toNat = i + 1 := by omega
  have c3 : IntKind.i64.wrap ((i : Int) + 1) = (i : Int) + 1 := IntWalk.i64_in _ (by omega)
  have c4 : ¬ (cap = i + 1) := by omega
  have c5 : ¬ (cap = i) := by omega
  have c6 : (i : Int) + 1 ≤ (n : Int) + 1 := by omega
  have c7 : (i : Int) ≤ (n : Int) + 1 := by omega
  have c8 : (n : Int) + 1 ≤ (cap : Int) := by omega
  go_region_held3 (fun _ => True) (trivial) ((refine step_run (by rfl) (exec_copy _ _ _ _ (by rfl) _ _ (by simp [Act.eval]) (by simp [Act.eval]) (hcp1 (n - i) (n + 1 - i) (cap - (i + 1)) (cap - i) (by simp only [Nat.min_def]; split <;> omega))) ?_))
  clear c1 c2 c3 c4 c5 c6 c7 c8
  go_wp2_with fail
  rw [hcp2 _ _ (by omega)]
  go_wp2_with fail
  go_ret
  exact HF.out

/-- What stands in the new block behind the two copies. -/
theorem grow_cells {A0 : List Value} {i n : Nat} {l : List (Int × Int × Int)} (e : Int × Int × Int) (hl : l.length = n) (hi : i < n) (hs : (n + 1) * 3 ≤ A0.length) (ht : A0.take (i * 3) = entCells (l.take i)) :
    i * 3 + (entCells [e]).length ≤ A0.length ∧ (i + 1) * 3 + (entCells (l.drop i)).length ≤ (splice A0 (i * 3) (entCells [e])).length ∧
    (splice (splice A0 (i * 3) (entCells [e])) ((i + 1) * 3) (entCells (l.drop i))).length = A0.length ∧
    ((splice (splice A0 (i * 3) (entCells [e])) ((i + 1) * 3) (entCells (l.drop i))).drop 0).take ((n + 1) * 3) = entCells (l.take i ++ e :: l.drop i) := by
  have h1 : (entCells (l.drop i)).length = (n - i) * 3 := by rw [entCells_length, List.length_drop, hl]
  have h2 : (entCells [e]).length = 3 := by rw [entCells_length]; rfl
  have h3 : i * 3 + (entCells [e]).length ≤ A0.length := by rw [h2]; omega
  have h4 : (i + 1) * 3 + (entCells (l.drop i)).length ≤ (splice A0 (i * 3) (entCells [e])).length := by rw [length_splice _ _ _ h3, h1]; omega
  have h5 : (entCells (l.take i)).length = i * 3 := by rw [entCells_length, List.length_take]; omega
  refine ⟨h3, h4, by rw [length_splice _ _ _ h4, length_splice _ _ _ h3], seg_ext (by rw [entCells_length]; simp; omega) fun j hj => ?_⟩
  rw [Nat.zero_add, getElem?_splice _ _ _ h4, getElem?_splice _ _ _ h3, entCells_append, show e :: l.drop i = [e] ++ l.drop i from rfl, entCells_append, h1, h2]
  by_cases c1 : j < i * 3
  · rw [if_pos (by omega), if_pos (by omega), List.getElem?_append_left (by rw [h5]; exact c1), ← ht, List.getElem?_take, if_pos c1]
  · by_cases c2 : j < i * 3 + 3
    · rw [if_pos (by omega), if_neg (by omega), if_pos (by omega), List.getElem?_append_right (by rw [h5]; omega), h5, List.getElem?_append_left (by rw [h2]; omega)]
    · rw [if_neg (by omega), if_pos (by omega), List.getElem?_append_right (by rw [h5]; omega), h5, List.getElem?_append_right (by rw [h2]; omega), h2]
      congr 1; omega

theorem drop_zero' {α : Type} (l : List α) : l.drop 0 = l := rfl

/-- append(s[:i], make(S, n+1-i)...) at a full row. -/
theorem grow_run (w : World) (l : List (Int × Int × Int)) (g off i : Nat) (cur : Array Value) (hg : w.heap[g]? = some (.cells cur 45 (0, 0))) (hi : i < l.length) (ht : (cur.toList.drop off).take (l.length * 3) = entCells l) (hn : l.length ≤ 1000000) :
    ∃ A0 C W1, (Builtin.append_ #[47, 3] 47 #[.slice (some ⟨g, off, none⟩) i l.length, .int .i64 ((l.length : Int) + 1 - i)]).run Try.prog w = .ok (.slice (some ⟨w.heap.size, 0, none⟩) (l.length + 1) C) W1 ∧
      W1.heap[w.heap.size]? = some (.cells A0 45 (0, 0)) ∧ l.length + 1 ≤ C ∧ C ≤ maxLen ∧ A0.size = C * 3 ∧ A0.toList.take (i * 3) = entCells (l.take i) ∧ Below w.heap.size w W1 := by
  obtain ⟨i0, hi0, hz0, hz1, hz2⟩ := info_parts infoEnt
  have ht' : (cur.toList.drop off).take (i * 3) = entCells (l.take i) := by
    rw [entCells_take, ← ht, List.take_take, Nat.min_eq_left (by omega)]
  have hl' : (entCells (l.take i)).length = i * 3 := by rw [entCells_length, List.length_take]; omega
  have hold : (Builtin.firstCells i0.size i (.slice (some ⟨g, off, none⟩) i l.length)).run Try.prog w.drew = .ok (entCells (l.take i)).toArray w.drew := by
    rw [hz1]
    refine run_firstCells_some w.drew 3 i _ _ _ _ hl' fun j v hj => ?_
    have hj' := (List.getElem?_eq_some_iff.1 hj).1
    rw [Addr.add_lit, ← hj]
    exact row_cell (w := w) (s := 3) (n := i) hg ht' j (by omega)
  have hrun := Lib.run_append_grow_zeros (P := Try.prog) w 47 3 47 45 i0 _ .i64 .i64 Try.underlying47 Try.underlying3 hi0 hz0 (some ⟨g, off, none⟩) i l.length _ hold (l.length + 1 - i) (by omega) (by omega) (by omega) (by omega) (by rw [hz2]; omega) (by rw [hz2]; exact growslice_fits (by omega) (by omega))
  rw [show i + (l.length + 1 - i) = l.length + 1 by omega, show ((l.length + 1 - i : Nat) : Int) = (l.length : Int) + 1 - i by omega] at hrun
  have hge := grownCap_ge w (l.length + 1) l.length 45
  refine ⟨_, _, _, hrun, heap_alloc_new w.drew _, hge, grownCap_maxLen w (l.length + 1) l.length 45 (by omega), ?_, ?_, ⟨rfl, rfl, rfl, by simp, fun k hk => heap_alloc_old w.drew _ hk⟩⟩
  · simp only [Array.size_append, List.size_toArray, size_zeroCells, hl']
    simp [Value.cells]; omega
  · simp [hl']

set_option maxHeartbeats 1000000 in
theorem insert_grow (w : World) (l : List (Int × Int × Int)) (g off i : Nat) (cur : Array Value) (vb : Nat) (e : Int × Int × Int)
    (hg : w.heap[g]? = some (.cells cur 45 (0, 0))) (hi : i < l.length) (ht : (cur.toList.drop off).take (l.length * 3) = entCells l) (hn : l.length ≤ 1000000)
    (hv : w.heap[vb]? = some (.cells #[.int .i64 e.1, .int .i64 e.2.1, .int .i64 e.2.2] 45 (0, 0))) :
    Calls Try.prog 21 #[.slice (some ⟨g, off, none⟩) l.length l.length, .int .i64 i, .slice (some ⟨vb, 0, none⟩) 1 1] w (Inserted (some g) (l.take i ++ e :: l.drop i) w) := by
  have hsz : (Try.prog.info? 45).map (·.size) = some 3 := by kernel_rfl
  obtain ⟨A0, C, W1, hap, hb1, hC, hCm, hA0, hA0t, hbel⟩ := grow_run w l g off i cur hg hi ht hn
  obtain ⟨N, hN⟩ : ∃ N, N = w.heap.size := ⟨_, rfl⟩
  have hgN : g < N := by rw [hN]; exact (Array.getElem?_eq_some_iff.1 hg).1
  have hvN : vb < N := by rw [hN]; exact (Array.getElem?_eq_some_iff.1 hv).1
  rw [← hN] at hap hb1
  obtain ⟨k1, k2, k3, k4⟩ := grow_cells (A0 := A0.toList) (i := i) (n := l.length) e rfl hi (by simp; omega) hA0t
  obtain ⟨A1, hA1⟩ : ∃ A1, A1 = (splice A0.toList (i * 3) (entCells [e])).toArray := ⟨_, rfl⟩
  obtain ⟨A2, hA2⟩ : ∃ A2, A2 = (splice A1.toList ((i + 1) * 3) (entCells (l.drop i))).toArray := ⟨_, rfl⟩
  have hv1 : W1.heap[vb]? = some (.cells #[.int .i64 e.1, .int .i64 e.2.1, .int .i64 e.2.2] 45 (0, 0)) := (hbel.block vb (by omega)).trans hv
  have hg1 : W1.heap[g]? = some (.cells cur 45 (0, 0)) := (hbel.block g (by omega)).trans hg
  have hcp1 : ∀ dl dc, 1 ≤ dl → (Builtin.copy_ #[47, 47] 3 #[.slice (some ⟨N, i * 3, none⟩) dl dc, .slice (some ⟨vb, 0, none⟩) 1 1]).run Try.prog W1 = .ok (goInt (Nat.min 1 dl)) (W1.setRow N A1) := fun dl dc hdl => by
    rw [hA1]
    exact run_copy_seg W1 _ _ _ 45 N _ dl dc ⟨vb, 0, none⟩ 1 1 3 A0 45 (entCells [e]) Try.underlying47 hsz hb1 (by rw [entCells_length, show Nat.min 1 dl = 1 from Nat.min_eq_left hdl]; rfl) (one_cells hv1) (by simpa using k1) (entCells_one _)
  have hb2 : (W1.setRow N A1).heap[N]? = some (.cells A1 45 (0, 0)) := setRow_heap W1 N A0 A1 _ _ hb1
  have hg2 : (W1.setRow N A1).heap[g]? = some (.cells cur 45 (0, 0)) := (setRow_other W1 N g A1 (by omega)).trans hg1
  have hcp2 : ∀ dl sl dc sc, Nat.min sl dl = l.length - i → (Builtin.copy_ #[47, 47] 3 #[.slice (some ⟨N, (i + 1) * 3, none⟩) dl dc, .slice (some ⟨g, off + i * 3, none⟩) sl sc]).run Try.prog (W1.setRow N A1).drew = .ok (goInt (Nat.min sl dl)) ((W1.setRow N A1).drew.setRow N A2) := fun dl sl dc sc hmin => by
    rw [hA2]
    refine run_copy_seg (W1.setRow N A1).drew _ _ _ 45 N _ dl dc ⟨g, off + i * 3, none⟩ sl sc 3 A1 45 (entCells (l.drop i)) Try.underlying47 hsz hb2 (by rw [hmin, entCells_length, List.length_drop]) (fun j v hj => ?_) (by rw [hA1]; simpa using k2) (entCells_one _)
    have hj' : j < (entCells (l.drop i)).length := (List.getElem?_eq_some_iff.1 hj).1
    rw [entCells_length, List.length_drop] at hj'
    rw [Addr.add_lit, Nat.add_assoc]
    refine (row_cell (w := W1.setRow N A1) hg2 ht _ (by omega)).trans ?_
    rw [entCells_drop, List.getElem?_drop] at hj
    exact hj
  have HF : Hid (Inserted (some g) (l.take i ++ e :: l.drop i) w (.returned (.slice (some ⟨N, 0, none⟩) (l.length + 1) C)) ((W1.setRow N A1).drew.setRow N A2)) := by
    have hl' : (l.take i ++ e :: l.drop i).length = l.length + 1 := by simp; omega
    have hb3 : ((W1.setRow N A1).drew.setRow N A2).heap[N]? = some (.cells A2 45 (0, 0)) := setRow_heap (W1.setRow N A1).drew N A1 A2 _ _ hb2
    refine ⟨_, some N, rfl, ⟨entCells_length _, by omega, .inr ⟨N, 0, C, _, by rw [hl'], rfl, hb3, by omega, hCm, ?_, ?_⟩⟩, ?_, .inr ⟨N, rfl, by omega⟩⟩
    · rw [hA2, hA1]; simp only [List.size_toArray]; rw [k3]; simp; omega
    · rw [hA2, hA1, hl']; exact k4
    · refine ⟨hbel.os, hbel.tape, hbel.output, ?_, fun k hk _ => ?_⟩
      · have := hbel.size; simpa [World.setRow] using this
      · rw [setRow_other _ N k _ (by omega)]
        exact (setRow_other W1 N k _ (by omega)).trans (hbel.block k hk)
  clear k1 k2 k3 k4 hsz hA1 hA2 hg1 hv1 hg2 hb1 hb2 hbel hA0t hA0 hN
  generalize hnn : l.length = n at *
  have HN := Lib.hid hnn
  have HT := Lib.hid ht
  have HG := Lib.hid hg
  have HV := Lib.hid hv
  clear hnn ht hg hv
  have b1 : (0 : Int) ≤ (i : Int) := by omega
  have b2 : (i : Int) < (n : Int) := by omega
  unfold maxLen at hCm
  go_enter Try.func21, Try.ntmps21
  go_wp2_with (at_builtin; refine wpList_run (by rfl) (exec_append _ _ _ _ (by rfl) _ _ (by rfl) (by rfl) hap) ?_)
  rw [hcp1 _ _ (by omega)]
  go_wp2_with fail
  have c1 : (0 : Int) ≤ (i : Int) + 1 := by omega
  have c2 : ((i : Int) + 1).toNat = i + 1 := by omega
  have c3 : IntKind.i64.wrap ((i : Int) + 1) = (i : Int) + 1 := IntWalk.i64_in _ (by omega)
  have c4 : ¬ (C = i + 1) := by omega
  have c5 : ¬ (n = i) := by omega
  have c6 : (i : Int) + 1 ≤ (n : Int) + 1 := by omega
  have c7 : (i : Int) ≤ (n : Int) := by omega
  have c8 : (n : Int) + 1 ≤ (C : Int) := by omega
  go_region_held3 (fun _ => True) (trivial) ((refine step_run (by rfl) (exec_copy _ _ _ _ (by rfl) _ _ (by simp [Act.eval]) (by simp [Act.eval]) (hcp2 (n - i) (n - i) (C - (i + 1)) (n - i) (Nat.min_self _))) ?_))
  clear c1 c2 c3 c4 c5 c6 c7 c8
  go_wp2_with fail
  go_ret
  exact HF.out

theorem insert_any (w : World) (lv : Value) (l : List (Int × Int × Int)) (sb : Option Nat) (vb i : Nat) (e : Int × Int × Int) (h : RowAt w 45 3 lv l.length (entCells l) sb) (hi : i ≤ l.length) (hn : l.length ≤ 1000000)
    (hv : w.heap[vb]? = some (.cells #[.int .i64 e.1, .int .i64 e.2.1, .int .i64 e.2.2] 45 (0, 0))) (hvb : sb ≠ some vb) :
    Calls Try.prog 21 #[lv, .int .i64 i, .slice (some ⟨vb, 0, none⟩) 1 1] w (Inserted sb (l.take i ++ e :: l.drop i) w) := by
  by_cases hil : i = l.length
  · subst hil
    rw [List.take_length, List.drop_length]
    exact insert_end w lv l sb vb e h hn hv
  · rcases h.2.2 with ⟨h1, h2, _⟩ | ⟨g, off, cap, cur, rfl, rfl, hg, hle, hm, hs, ht⟩
    · omega
    · by_cases hr : l.length + 1 ≤ cap
      · exact insert_shift w l g off cap i cur vb e hg (by omega) hr hm hs ht hn hv (fun h => hvb (by rw [h]))
      · obtain rfl : cap = l.length := by omega
        exact insert_grow w l g off i cur vb e hg (by omega) ht hn hv

end Go.Proofs.Ytcplimefklnknaa
