/- Set: picked out of XC2, XB25; S1: picked out of XA4, XA5, XA6, XA7; Rows of a queue: next; Rows of a queue: the fullest flow; Rows of a queue: the fullest flow, by a map of counts; Rows of a queue: an item taken off; Rows of a queue: the first item of a flow. -/
import Derived.Test.YtchjlkfkfcmhlaaDoorRow
import Derived.Test.YtchjlkfkfcmhlaaDoorSplit
import Derived.Test.YtchjlkfkfcmhlaaDoorIn
import Derived.Test.YtchjlkfkfcmhlaaDoorMap
import Derived.Test.YtchjlkfkfcmhlaaDoorStr
import Derived.Test.YtchjlkfkfcmhlaaDoorPlain
import Derived.Lib.Hide
import Derived.Laws.CopyOwn
import Derived.Lib.AppendZerosOnto
import Derived.Lib.Overlaps
import Derived.BigQuiet
import Derived.Carry
namespace Go.Proofs.YtchjlkfkfcmhlaaDoor
open Go.RowKit
attribute [local go_sem ↓] Go.wp_at_zero Go.wp_at_succ

/-! Set: picked out of XC2, XB25. -/

/-- Stores into the cells of one block, one behind the other. -/
def setsFrom (w : World) (b : Nat) : Nat → List Value → World
  | _, [] => w
  | o, v :: vs => setsFrom (w.setCell ⟨b, o, none⟩ v) b (o + 1) vs

def arrFrom (cur : Array Value) : Nat → List Value → Array Value
  | _, [] => cur
  | o, v :: vs => arrFrom (cur.setIfInBounds o v) (o + 1) vs

theorem setsFrom_block (b : Nat) (T : TypeId) : ∀ (vs : List Value) (o : Nat) (w : World) (cur : Array Value), w.heap[b]? = some (.cells cur T (0, 0)) → (setsFrom w b o vs).heap[b]? = some (.cells (arrFrom cur o vs) T (0, 0))
  | [], _, _, _, h => h
  | v :: vs, o, w, cur, h => setsFrom_block b T vs (o + 1) _ _ (setCell_block w b o cur T (0, 0) v h)

theorem setsFrom_below {n : Nat} {w0 : World} (b : Nat) (hb : n ≤ b) : ∀ (vs : List Value) (o : Nat) (w : World), Below n w0 w → Below n w0 (setsFrom w b o vs)
  | [], _, _, h => h
  | v :: vs, o, _, h => setsFrom_below b hb vs (o + 1) _ (h.setCell (p := ⟨b, o, none⟩) hb v)

theorem setsFrom_other (b k : Nat) (h : k ≠ b) : ∀ (vs : List Value) (o : Nat) (w : World), (setsFrom w b o vs).heap[k]? = w.heap[k]?
  | [], _, _ => rfl
  | _ :: vs, o, w => (setsFrom_other b k h vs (o + 1) _).trans (Below.heap_setCell w ⟨b, o, none⟩ _ k h)

theorem setsFrom_size (b : Nat) : ∀ (vs : List Value) (o : Nat) (w : World), (setsFrom w b o vs).heap.size = w.heap.size
  | [], _, _ => rfl
  | _ :: vs, o, w => (setsFrom_size b vs (o + 1) _).trans (by simp [World.setCell])

theorem setsFrom_fr (b : Nat) : ∀ (vs : List Value) (o : Nat) (w : World), Fr (fun k => k = b) w (setsFrom w b o vs)
  | [], _, w => Fr.refl _ w
  | v :: vs, o, w => (Fr.setCell (fun k => k = b) w ⟨b, o, none⟩ v rfl).trans (setsFrom_fr b vs (o + 1) _) (fun _ h => .inl h)

/-- A struct of three cells, stored whole. -/
theorem fill3 {W : World} {R : Nat} {z0 z1 z2 : Value} {T : TypeId} (h : W.heap[R]? = some (.cells #[z0, z1, z2] T (0, 0))) (a b c : Value) :
    ∃ W6, ((W.setCell ⟨R, 0, none⟩ a).setCell ⟨R, 1, none⟩ b).setCell ⟨R, 2, none⟩ c = W6 ∧ W6.heap[R]? = some (.cells #[a, b, c] T (0, 0)) ∧ Fr (fun k => k = R) W W6 := by
  have u := setsFrom_block R T [a, b, c] 0 W _ h
  simp only [arrFrom, Nat.reduceAdd, List.setIfInBounds_toArray, List.set_cons_zero, List.set_cons_succ] at u
  exact ⟨_, rfl, u, setsFrom_fr R [a, b, c] 0 W⟩

/-! S1: picked out of XA4, XA5, XA6, XA7. -/

/-- The cells of entries. -/
def entCells (l : List (Int × Int × Int)) : List Value := l.flatMap fun e => [.int .i64 e.1, .int .i64 e.2.1, .int .i64 e.2.2]

theorem entCells_length (l : List (Int × Int × Int)) : (entCells l).length = l.length * 3 := by
  induction l with
  | nil => rfl
  | cons e l ih => simp only [entCells, List.flatMap_cons, List.length_append, List.length_cons, List.length_nil] at *; omega

theorem entCells_get (l : List (Int × Int × Int)) (i : Nat) (e : Int × Int × Int) (h : l[i]? = some e) :
    (entCells l)[i * 3]? = some (.int .i64 e.1) ∧ (entCells l)[i * 3 + 1]? = some (.int .i64 e.2.1) ∧ (entCells l)[i * 3 + 2]? = some (.int .i64 e.2.2) := by
  induction l generalizing i with
  | nil => simp at h
  | cons a l ih =>
    cases i with
    | zero => simp only [List.getElem?_cons_zero, Option.some.injEq] at h; subst h; simp [entCells]
    | succ i =>
      have := ih i (by simpa using h)
      have e1 : (entCells (a :: l)) = [.int .i64 a.1, .int .i64 a.2.1, .int .i64 a.2.2] ++ entCells l := by simp [entCells]
      rw [e1]
      refine ⟨?_, ?_, ?_⟩
      · rw [List.getElem?_append_right (by simp; omega)]; simpa [show (i + 1) * 3 - 3 = i * 3 by omega] using this.1
      · rw [List.getElem?_append_right (by simp; omega)]; simpa [show (i + 1) * 3 + 1 - 3 = i * 3 + 1 by omega] using this.2.1
      · rw [List.getElem?_append_right (by simp; omega)]; simpa [show (i + 1) * 3 + 2 - 3 = i * 3 + 2 by omega] using this.2.2

theorem infoEnt : (Tryd.prog.info? 67).map (fun i => (i.zero, i.size, i.bytes)) = some (some (.agg #[.int .i64 0, .int .i64 0, .int .i64 0]), 3, 24) := by kernel_rfl

theorem entCells_append (l l' : List (Int × Int × Int)) : entCells (l ++ l') = entCells l ++ entCells l' := by simp [entCells]

theorem entCells_one (l : List (Int × Int × Int)) : ∀ u ∈ entCells l, u.oneCell' = true := by
  intro u hu
  simp only [entCells, List.mem_flatMap, List.mem_cons, List.not_mem_nil, or_false] at hu
  obtain ⟨e, _, rfl | rfl | rfl⟩ := hu <;> rfl

theorem entCells_take (l : List (Int × Int × Int)) (i : Nat) : entCells (l.take i) = (entCells l).take (i * 3) := by
  induction l generalizing i with
  | nil => simp [entCells]
  | cons a l ih =>
    cases i with
    | zero => simp [entCells]
    | succ i => rw [show (i + 1) * 3 = i * 3 + 1 + 1 + 1 by omega]; simpa [entCells] using ih i

theorem entCells_drop (l : List (Int × Int × Int)) (i : Nat) : entCells (l.drop i) = (entCells l).drop (i * 3) := by
  induction l generalizing i with
  | nil => simp [entCells]
  | cons a l ih =>
    cases i with
    | zero => simp [entCells]
    | succ i => rw [show (i + 1) * 3 = i * 3 + 1 + 1 + 1 by omega]; simpa [entCells] using ih i

/-- What stands in the block behind the move and the clearing. -/
theorem del_cells {cur : List Value} {off i n cap : Nat} {l : List (Int × Int × Int)} (e : Int × Int × Int) (hl : l.length = n) (hi : i < n) (hroom : n ≤ cap) (hs : off + cap * 3 ≤ cur.length) (ht : (cur.drop off).take (n * 3) = entCells l) :
    off + i * 3 + (entCells (l.drop (i + 1))).length ≤ cur.length ∧ off + (n - 1) * 3 + (entCells [e]).length ≤ (splice cur (off + i * 3) (entCells (l.drop (i + 1)))).length ∧
    (splice (splice cur (off + i * 3) (entCells (l.drop (i + 1)))) (off + (n - 1) * 3) (entCells [e])).length = cur.length ∧
    ((splice (splice cur (off + i * 3) (entCells (l.drop (i + 1)))) (off + (n - 1) * 3) (entCells [e])).drop off).take ((n - 1) * 3) = entCells (l.take i ++ l.drop (i + 1)) := by
  have h1 : (entCells (l.drop (i + 1))).length = (n - (i + 1)) * 3 := by rw [entCells_length, List.length_drop, hl]
  have h2 : (entCells [e]).length = 3 := by rw [entCells_length]; rfl
  have h3 : off + i * 3 + (entCells (l.drop (i + 1))).length ≤ cur.length := by rw [h1]; omega
  have h4 : off + (n - 1) * 3 + (entCells [e]).length ≤ (splice cur (off + i * 3) (entCells (l.drop (i + 1)))).length := by rw [length_splice _ _ _ h3, h2]; omega
  have h5 : (entCells (l.take i)).length = i * 3 := by rw [entCells_length, List.length_take]; omega
  refine ⟨h3, h4, by rw [length_splice _ _ _ h4, length_splice _ _ _ h3], seg_ext (by rw [entCells_length]; simp; omega) fun j hj => ?_⟩
  rw [getElem?_splice _ _ _ h4, getElem?_splice _ _ _ h3, entCells_append, h1, h2]
  rw [if_pos (by omega)]
  by_cases c1 : j < i * 3
  · rw [if_pos (by omega), List.getElem?_append_left (by rw [h5]; exact c1), entCells_take, List.getElem?_take, if_pos c1]
    exact seg_get ht j (by omega)
  · rw [if_neg (by omega), if_pos (by omega), List.getElem?_append_right (by rw [h5]; omega), h5]
    congr 1; omega

theorem run_clear_seg {P : Program} (w : World) (t ty elem : TypeId) (g o n c s : Nat) (z : Value) (cur : Array Value) (T : TypeId) (hu : P.underlying t = some (.slice elem)) (hz : (zeroValue elem).run P w = .ok z w)
    (hn : 0 < n) (cs : List Value) (hcs : (Builtin.zeroCells z.cells n).toList = cs) (hl : cs.length = s) (hg : w.heap[g]? = some (.cells cur T (0, 0))) (hfit : o + s ≤ cur.size) (h1 : ∀ v ∈ cs, v.oneCell' = true) :
    (Builtin.clear_ #[t] ty #[.slice (some ⟨g, o, none⟩) n c]).run P w = .ok (.tuple #[]) (w.setRow g (splice cur.toList o cs).toArray) := by
  have hst := run_storeCells_at P g o T cs 0 cur w hg (by rw [hl]; simpa using hfit) h1
  obtain ⟨m, rfl⟩ : ∃ m, n = m + 1 := ⟨n - 1, by omega⟩
  simp [Builtin.clear_, run_underlying hu, hz, hcs, hst, splice]

def zent : Int × Int × Int := (0, 0, 0)

/-- What Delete leaves. -/
def Deleted (g : Nat) (l : List (Int × Int × Int)) (w : World) (e : Ending) (w' : World) : Prop :=
  ∃ lv', e = .returned lv' ∧ RowAt w' 67 3 lv' l.length (entCells l) (some g) ∧ w.grownBy w' (some g)

set_option maxHeartbeats 1000000 in
theorem delete_any (w : World) (l : List (Int × Int × Int)) (g off cap i : Nat) (cur : Array Value)
    (hg : w.heap[g]? = some (.cells cur 67 (0, 0))) (hi : i < l.length) (hroom : l.length ≤ cap) (hm : cap ≤ maxLen) (hs : off + cap * 3 ≤ cur.size) (ht : (cur.toList.drop off).take (l.length * 3) = entCells l) (hn : l.length ≤ 1000000) :
    Calls Tryd.prog 72 #[.slice (some ⟨g, off, none⟩) l.length cap, .int .i64 i, .int .i64 ((i : Int) + 1)] w (Deleted g (l.take i ++ l.drop (i + 1)) w) := by
  obtain ⟨i0, hi0, hz0, hz1, hz2⟩ := info_parts infoEnt
  obtain ⟨k1, k2, k3, k4⟩ := del_cells (cur := cur.toList) (off := off) (i := i) (n := l.length) (cap := cap) zent rfl hi hroom (by simpa using hs) ht
  obtain ⟨A1, hA1⟩ : ∃ A1, A1 = (splice cur.toList (off + i * 3) (entCells (l.drop (i + 1)))).toArray := ⟨_, rfl⟩
  have hap : ∀ (ad : Addr) c, (i + 1 < l.length → ad = ⟨g, off + (i + 1) * 3, none⟩) → (Builtin.append_ #[85, 85] 85 #[.slice (some ⟨g, off, none⟩) i cap, .slice (some ad) (l.length - (i + 1)) c]).run Tryd.prog w.drew = .ok (.slice (some ⟨g, off, none⟩) (l.length - 1) cap) (w.drew.setRow g A1) := fun ad c had => by
    have := run_append_seg (P := Tryd.prog) w.drew 85 85 67 i0 3 Tryd.underlying85 hi0 hz1 g off i cap cur 67 hg ad (l.length - (i + 1)) c (entCells (l.drop (i + 1))) (by rw [entCells_length, List.length_drop]) (fun j v hj => ?_) (entCells_one _) (by omega) (by simpa using k1)
    · rw [this, hA1, show i + (l.length - (i + 1)) = l.length - 1 by omega]
    · have hj' : j < (entCells (l.drop (i + 1))).length := (List.getElem?_eq_some_iff.1 hj).1
      rw [entCells_length, List.length_drop] at hj'
      rw [had (by omega), Addr.add_lit, Nat.add_assoc]
      refine (row_cell (w := w) hg ht _ (by omega)).trans ?_
      rw [entCells_drop, List.getElem?_drop] at hj
      exact hj
  have hg1 : (w.drew.setRow g A1).heap[g]? = some (.cells A1 67 (0, 0)) := setRow_heap w.drew g cur A1 _ _ hg
  have hcl : ∀ c, (Builtin.clear_ #[85] 0 #[.slice (some ⟨g, off + (l.length - 1) * 3, none⟩) 1 c]).run Tryd.prog (w.drew.setRow g A1) = .ok (.tuple #[]) ((w.drew.setRow g A1).setRow g (splice A1.toList (off + (l.length - 1) * 3) (entCells [zent])).toArray) := fun c =>
    run_clear_seg _ _ _ 67 g _ 1 c 3 (.agg #[.int .i64 0, .int .i64 0, .int .i64 0]) A1 67 Tryd.underlying85 (by kernel_rfl) (by omega) _ (by kernel_rfl) (by rw [entCells_length]; rfl) hg1 (by rw [hA1]; simpa [entCells_length] using k2) (entCells_one _)
  have HF : Hid (Deleted g (l.take i ++ l.drop (i + 1)) w (.returned (.slice (some ⟨g, off, none⟩) (l.length - 1) cap)) ((w.drew.setRow g A1).setRow g (splice A1.toList (off + (l.length - 1) * 3) (entCells [zent])).toArray)) := by
    have hl' : (l.take i ++ l.drop (i + 1)).length = l.length - 1 := by simp; omega
    refine ⟨_, rfl, ⟨entCells_length _, by omega, .inr ⟨g, off, cap, _, by rw [hl'], rfl, setRow_heap _ g _ _ _ _ hg1, by omega, hm, ?_, ?_⟩⟩, ?_⟩
    · rw [hA1]; simp only [List.size_toArray]; rw [k3]; simpa using hs
    · rw [hA1, hl']; exact k4
    · refine ⟨rfl, rfl, rfl, by simp [World.setRow], fun k _ hk => ?_⟩
      rw [setRow_other _ g k _ (fun e => hk (by rw [e])), setRow_other _ g k _ (fun e => hk (by rw [e]))]; rfl
  clear k1 k2 k3 k4 hA1 hg1 hz0 hz1 hz2 hi0
  generalize hnn : l.length = n at *
  have HN := Lib.hid hnn
  have HT := Lib.hid ht
  have HG := Lib.hid hg
  clear hnn ht hg
  have b1 : (0 : Int) ≤ (i : Int) := by omega
  have b2 : (i : Int) < (n : Int) := by omega
  have b3 : (n : Int) ≤ (cap : Int) := by omega
  have b4 : ¬ ((i : Int) = (i : Int) + 1) := by omega
  have b5 : ((i : Int) == (i : Int) + 1) = false := beq_eq_false_iff_ne.2 b4
  unfold maxLen at hm
  go_enter Tryd.func72, Tryd.ntmps72
  go_wp2_with fail
  have c1 : (0 : Int) ≤ (i : Int) + 1 := by omega
  have c2 : ((i : Int) + 1).toNat = i + 1 := by omega
  have c6 : (i : Int) + 1 ≤ (n : Int) := by omega
  have c7 : (i : Int) ≤ (n : Int) := by omega
  have c8 : (i : Int) ≤ (cap : Int) := by omega
  have c9 : (i : Int) + 1 ≤ (cap : Int) := by omega
  by_cases hc : cap = i + 1
  · subst hc
    obtain rfl : n = i + 1 := by omega
    have e1 : (i : Int) ≤ (i : Int) + 1 := by omega
    have hap' := hap ⟨g, off, none⟩ 0 (by omega)
    rw [show i + 1 - (i + 1) = 0 by omega, show i + 1 - 1 = i by omega] at hap'
    rw [show i + 1 - 1 = i by omega] at hcl HF
    go_region_held3 (fun _ => True) (trivial) ((refine step_run (by rfl) (exec_append _ _ _ _ (by rfl) _ _ (by simp [Act.eval]) (by simp [Act.eval]) hap') ?_))
    clear c1 c2 c6 c7 c8 c9 e1
    go_wp2_with fail
    go_ret
    exact HF.out
  · have hap' := hap ⟨g, off + (i + 1) * 3, none⟩ (cap - (i + 1)) (fun _ => rfl)
    go_region_held3 (fun _ => True) (trivial) ((refine step_run (by rfl) (exec_append _ _ _ _ (by rfl) _ _ (by simp [Act.eval]) (by simp [Act.eval]) hap') ?_))
    clear c1 c2 c6 c7 c8 c9
    have d1 : ((n - 1 : Nat) : Int) ≤ (n : Int) := by omega
    have d2 : n - (n - 1) = 1 := by omega
    go_wp2_with fail
    go_ret
    exact HF.out

/-! Rows of a queue: next. -/

theorem below_drewN {n nq : Nat} {w w' : World} (h : Below n w w') : Below n w (w'.drewN nq) := ⟨h.os, h.tape, h.output, h.size, h.block⟩

structure Rw where
  items : List (Int × Int × Int)
  taken : Bool
  last : Int

/-- One row, at an address inside the queue's block. -/
structure RwAt (w : World) (qb o : Nat) (r : Rw) (v : Value) (sb : Option Nat) : Prop where
  c0 : w.cell? ⟨qb, o, none⟩ = some v
  c1 : w.cell? ⟨qb, o + 1, none⟩ = some (.bool r.taken)
  c2 : w.cell? ⟨qb, o + 2, none⟩ = some (.int .i64 r.last)
  row : RowAt w 67 3 v r.items.length (entCells r.items) sb
theorem RwAt.keep {w w' : World} {qb o : Nat} {r : Rw} {v : Value} {sb : Option Nat} (h : RwAt w qb o r v sb) (hb : Below w.heap.size w w') : RwAt w' qb o r v sb :=
  ⟨bkeep hb h.c0, bkeep hb h.c1, bkeep hb h.c2, h.row.keep hb⟩

/-- The flow of an item of a row. -/
def IsFlow (l : List (Int × Int × Int)) (f : Int) : Prop := ∃ x ∈ l, x.2.2 = f
theorem IsFlow.at {l : List (Int × Int × Int)} {k : Nat} {x : Int × Int × Int} (h : l[k]? = some x) : IsFlow l x.2.2 := ⟨x, List.mem_of_getElem? h, rfl⟩
theorem IsFlow.min {l : List (Int × Int × Int)} {a b : Int} (ha : IsFlow l a) (hb : IsFlow l b) : IsFlow l (min a b) := by
  rcases Int.le_total a b with h | h
  · rw [Int.min_eq_left h]; exact ha
  · rw [Int.min_eq_right h]; exact hb

/-- What the cells of the row's items are, in each world that follows. -/
theorem item_cells {w : World} {la : Option Addr} {n lc : Nat} {l : List (Int × Int × Int)} {sb : Option Nat} (h : RowAt w 67 3 (.slice la n lc) n (entCells l) sb) (hn : l.length = n) (hp : 0 < n) :
    ∃ g off, la = some ⟨g, off, none⟩ ∧ sb = some g ∧ ∀ W, Below w.heap.size w W → ∀ (k : Nat) (x : Int × Int × Int), l[k]? = some x → W.cell? ⟨g, off + k * 3, none⟩ = some (.int .i64 x.1) ∧ W.cell? ⟨g, off + k * 3 + 1, none⟩ = some (.int .i64 x.2.1) ∧ W.cell? ⟨g, off + k * 3 + 2, none⟩ = some (.int .i64 x.2.2) := by
  rcases h.2.2 with ⟨_, h0, _⟩ | ⟨g, off, cap, cur, hv, hsg, hh, _, _, _, ht⟩
  · omega
  injection hv with e1 e2 e3
  refine ⟨g, off, e1, hsg, fun W hW k x hx => ?_⟩
  have hk : k < n := by have := (List.getElem?_eq_some_iff.1 hx).1; omega
  obtain ⟨g0, g1, g2⟩ := entCells_get l k x hx
  refine ⟨bkeep hW ((row_cell hh ht (k * 3) (by omega)).trans g0), ?_, ?_⟩
  · rw [Nat.add_assoc]; exact bkeep hW ((row_cell hh ht (k * 3 + 1) (by omega)).trans g1)
  · rw [Nat.add_assoc]; exact bkeep hW ((row_cell hh ht (k * 3 + 2) (by omega)).trans g2)

def IntPost (w : World) (P : Int → Prop) (e : Ending) (w' : World) : Prop := ∃ f, P f ∧ e = .returned (.int .i64 f) ∧ Below w.heap.size w w'

set_option maxRecDepth 8000 in
set_option maxHeartbeats 2000000 in
theorem next_any {w : World} {qb o : Nat} {r : Rw} {v : Value} {sb : Option Nat} (h : RwAt w qb o r v sb) (hp : 0 < r.items.length) (hbig : r.items.length ≤ 100000) :
    Calls Tryd.prog 58 #[.pointer (some ⟨qb, o, none⟩)] w (IntPost w (IsFlow r.items)) := by
  obtain ⟨l, taken, last⟩ := r
  obtain ⟨c0, c1, c2, hrow⟩ := h
  dsimp only at *
  obtain ⟨la, lc, rfl⟩ := hrow.form
  obtain ⟨n, hn⟩ : ∃ n, n = l.length := ⟨_, rfl⟩
  rw [← hn] at hrow hp hbig c0
  obtain ⟨g, off, rfl, _, hcell⟩ := item_cells hrow hn.symm hp
  have HCELL := Lib.hid hcell
  have HN := Lib.hid hn
  obtain ⟨x0, hx0⟩ : ∃ x, l[0]? = some x := ⟨_, List.getElem?_eq_getElem (by omega)⟩
  have HX0 := Lib.hid (IsFlow.at hx0)
  obtain ⟨_, _, d2⟩ := hcell w (Below.refl _ _) 0 x0 hx0
  rw [Nat.zero_mul, Nat.add_zero] at d2
  have HC0 := Lib.hid c0
  have HC1 := Lib.hid c1
  have HC2 := Lib.hid c2
  have i0 : (0 : Int) < (n : Int) := by omega
  clear hrow hcell hn hx0
  go_enter Tryd.func58, Tryd.ntmps58
  go_wp2_with fail
  clear d2 c0 c1 c2
  go_loopw [3, 4, 5, 20] (fun va vb vc vi wr => ∃ (k : Nat) (a b : Int) (c : Bool), va = .int .i64 a ∧ vb = .int .i64 b ∧ vc = .bool c ∧ vi = .int .i64 k ∧ k ≤ n ∧ Hid (IsFlow l a) ∧ Hid (c = true → IsFlow l b) ∧ Below w.heap.size w wr) (fun _ _ _ vi _ => (n - intOf vi).toNat)
  case atStart => exact ⟨0, x0.2.2, 0, false, rfl, rfl, rfl, rfl, Nat.zero_le _, HX0, (fun h => by cases h), Below.refl _ _⟩
  case round =>
    obtain ⟨k, a, b, c, rfl, rfl, rfl, rfl, hk, ha, hb, hbl⟩ := hrel
    have HB := Lib.hid hbl
    by_cases hkn : k < n
    · obtain ⟨x, hx⟩ : ∃ x, l[k]? = some x := ⟨_, List.getElem?_eq_getElem (by have := HN.out; omega)⟩
      have HX := Lib.hid (IsFlow.at hx)
      obtain ⟨e0, e1, e2⟩ := HCELL.out _ hbl k x hx
      have i1 : (0 : Int) ≤ (k : Int) := by omega
      have i2 : (k : Int) < (n : Int) := by omega
      obtain ⟨x1, x2, x3⟩ := x
      dsimp only at *
      clear hx hbl
      go_wp2_with fail
      have z2 : (wr.alloc (.cells #[.int .i64 x1, .int .i64 x2, .int .i64 x3] 67)).cell? ⟨wr.heap.size, 2, none⟩ = some (.int .i64 x3) := block_cell (heap_alloc_new wr _) 2 _ rfl
      have hbW : Below w.heap.size w (wr.alloc (.cells #[.int .i64 x1, .int .i64 x2, .int .i64 x3] 67)) := HB.out.alloc HB.out.size _
      obtain ⟨W, hW⟩ : ∃ W, wr.alloc (.cells #[.int .i64 x1, .int .i64 x2, .int .i64 x3] 67) = W := ⟨_, rfl⟩
      rw [hW] at z2 hbW ⊢
      have k1 := bkeep hbW HC1.out
      have k2 := bkeep hbW HC2.out
      have HBW := Lib.hid hbW
      have HMI := Lib.hid (IsFlow.min ha.out HX.out)
      obtain ⟨N, hN⟩ : ∃ N, wr.heap.size = N := ⟨_, rfl⟩
      rw [hN] at z2 ⊢
      clear hW hbW hN e0 e1 e2 HB
      cases taken with
      | false =>
        go_quiet (fail)
        go_wp2_with fail
        go_roundw
        case rel => exact ⟨k + 1, _, _, _, rfl, rfl, rfl, by go_num, by omega, HMI, hb, below_drewN HBW.out⟩
        case measure => simp [intOf]; omega
      | true =>
        by_cases h1 : last < x3
        · have t1 : decide (last < x3) = true := decide_eq_true h1
          cases c with
          | false =>
            go_quiet (fail)
            go_wp2_with fail
            go_roundw
            case rel => exact ⟨k + 1, _, _, _, rfl, rfl, rfl, by go_num, by omega, HMI, fun _ => HX.out, below_drewN HBW.out⟩
            case measure => simp [intOf]; omega
          | true =>
            by_cases h2 : x3 < b
            · have t2 : decide (x3 < b) = true := decide_eq_true h2
              go_quiet (fail)
              go_wp2_with fail
              go_roundw
              case rel => exact ⟨k + 1, _, _, _, rfl, rfl, rfl, by go_num, by omega, HMI, fun _ => HX.out, below_drewN HBW.out⟩
              case measure => simp [intOf]; omega
            · have t2 : decide (x3 < b) = false := decide_eq_false h2
              go_quiet (fail)
              go_wp2_with fail
              go_roundw
              case rel => exact ⟨k + 1, _, _, _, rfl, rfl, rfl, by go_num, by omega, HMI, hb, below_drewN HBW.out⟩
              case measure => simp [intOf]; omega
        · have t1 : decide (last < x3) = false := decide_eq_false h1
          go_quiet (fail)
          go_wp2_with fail
          go_roundw
          case rel => exact ⟨k + 1, _, _, _, rfl, rfl, rfl, by go_num, by omega, HMI, hb, below_drewN HBW.out⟩
          case measure => simp [intOf]; omega
    · obtain rfl : n = k := by omega
      clear hbl
      cases c with
      | true =>
        go_wp2_with fail
        go_ret
        exact ⟨b, hb.out trivial, rfl, HB.out⟩
      | false =>
        go_wp2_with fail
        go_ret
        exact ⟨a, ha.out, rfl, HB.out⟩

/-! Rows of a queue: the fullest flow. -/

def cmpI (a b : Int) : Int := if a < b then -1 else if b < a then 1 else 0
def orI (a b : Int) : Int := if a = 0 then b else a

set_option maxHeartbeats 1000000 in
theorem compare_any (a b : Int) (w : World) : Calls Tryd.prog 71 #[.int .i64 a, .int .i64 b] w fun e w' => e = .returned (.int .i64 (cmpI a b)) ∧ w' = w := by
  have n1 : decide (a ≠ a) = false := by simp
  have n2 : decide (b ≠ b) = false := by simp
  by_cases h1 : a < b
  · have HE : Hid (cmpI a b = -1) := if_pos h1
    go_enter Tryd.func71, Tryd.ntmps71
    go_wp2
    all_goals (go_ret; rw [HE.out]; exact ⟨rfl, rfl⟩)
  · by_cases h2 : b < a
    · have HE : Hid (cmpI a b = 1) := (if_neg h1).trans (if_pos h2)
      go_enter Tryd.func71, Tryd.ntmps71
      go_wp2
      all_goals (go_ret; rw [HE.out]; exact ⟨rfl, rfl⟩)
    · have HE : Hid (cmpI a b = 0) := (if_neg h1).trans (if_neg h2)
      go_enter Tryd.func71, Tryd.ntmps71
      go_wp2
      all_goals (go_ret; rw [HE.out]; exact ⟨rfl, rfl⟩)

set_option maxHeartbeats 1000000 in
theorem or_any {w : World} {b : Nat} {x y : Int} (h : w.heap[b]? = some (.cells #[.int .i64 x, .int .i64 y] 3 (0, 0))) :
    Calls Tryd.prog 70 #[.slice (some ⟨b, 0, none⟩) 2 2] w fun e w' => e = .returned (.int .i64 (orI x y)) ∧ w' = w := by
  have c0 := block_cell h 0 _ rfl
  have c1 := block_cell h 1 _ rfl
  have HC0 := Lib.hid c0
  have HC1 := Lib.hid c1
  clear h
  by_cases hx : x = 0
  · have b0 : (x != 0) = false := by rw [hx]; rfl
    have HE : Hid (orI x y = y) := if_pos hx
    have i1 : (0 : Int) ≤ 1 := by omega
    by_cases hy : y = 0
    · have b1 : (y != 0) = false := by rw [hy]; rfl
      have HY := Lib.hid hy
      clear hx hy
      go_enter Tryd.func70, Tryd.ntmps70
      go_wp2
      go_loopw [5, 8] (fun _ vi wr => (vi = .int .i64 0 ∨ vi = .int .i64 1 ∨ vi = .int .i64 2) ∧ wr = w) (fun _ vi _ => (2 - intOf vi).toNat)
      case atStart => exact ⟨.inl rfl, rfl⟩
      case round =>
        obtain ⟨h, rfl⟩ := hrel
        rcases h with rfl | rfl | rfl
        · have c0 := HC0.out
          go_wp2
          go_roundw
          case rel => exact ⟨.inr (.inl rfl), trivial⟩
          case measure => simp [intOf]
        · have c1 := HC1.out
          go_wp2
          go_roundw
          case rel => exact ⟨.inr (.inr rfl), trivial⟩
          case measure => simp [intOf]
        · go_wp2
          go_ret
          rw [HE.out, HY.out]
          exact ⟨rfl, rfl⟩
    · have b1 : (y != 0) = true := by simpa using hy
      clear hx hy
      go_enter Tryd.func70, Tryd.ntmps70
      go_wp2
      go_loopw [5, 8] (fun _ vi wr => (vi = .int .i64 0 ∨ vi = .int .i64 1) ∧ wr = w) (fun _ vi _ => (2 - intOf vi).toNat)
      case atStart => exact ⟨.inl rfl, rfl⟩
      case round =>
        obtain ⟨h, rfl⟩ := hrel
        rcases h with rfl | rfl
        · have c0 := HC0.out
          go_wp2
          go_roundw
          case rel => exact ⟨.inr rfl, trivial⟩
          case measure => simp [intOf]
        · have c1 := HC1.out
          go_wp2
          go_ret
          rw [HE.out]
          exact ⟨rfl, rfl⟩
  · have b0 : (x != 0) = true := by simpa using hx
    have HE : Hid (orI x y = x) := if_neg hx
    clear hx c1
    go_enter Tryd.func70, Tryd.ntmps70
    go_wp2
    go_loopw [5, 8] (fun _ vi wr => vi = .int .i64 0 ∧ wr = w) (fun _ vi _ => (2 - intOf vi).toNat)
    case atStart => exact ⟨rfl, rfl⟩
    case round =>
      obtain ⟨rfl, rfl⟩ := hrel
      have c0 := HC0.out
      go_wp2
      go_ret
      rw [HE.out]
      exact ⟨rfl, rfl⟩

/-! Rows of a queue: the fullest flow, by a map of counts. -/

def encI (n : Int) : Value := .int .i64 n
/-- A map of numbers to numbers. -/
def IntMap (w : World) (mb : Nat) : Prop := ∃ m : List (Int × Value), MapAt encI w mb m ∧ ∀ p ∈ m, ∃ c, p.2 = .int .i64 c
theorem IntMap.keep {w w' : World} {mb : Nat} (h : IntMap w mb) (hb : w'.heap[mb]? = w.heap[mb]?) : IntMap w' mb := by
  obtain ⟨m, h1, h2⟩ := h
  exact ⟨m, h1.keep hb, h2⟩
theorem IntMap.lt {w : World} {mb : Nat} (h : IntMap w mb) : mb < w.heap.size := by
  obtain ⟨m, h1, h2⟩ := h
  exact h1.lt
theorem IntMap.lookup {w : World} {mb : Nat} (h : IntMap w mb) (k : Int) : ∃ c, ∀ W : World, W.heap[mb]? = w.heap[mb]? → (Instr.lookup 127 (.map (some mb)) (.int .i64 k) false).run Tryd.prog W = .ok (.int .i64 c) W := by
  obtain ⟨m, h1, h2⟩ := h
  have hl := fun (W : World) (hW : W.heap[mb]? = w.heap[mb]?) => run_lookup_at (int_law Tryd.underlying3) (h1.keep hW) Tryd.underlying127 (z := .int .i64 0) (by kernel_rfl) k false
  cases hm : mget m k with
  | none => exact ⟨0, fun W hW => by have := hl W hW; rw [hm] at this; exact this⟩
  | some v =>
    obtain ⟨c, hc⟩ := h2 _ (mget_some_mem hm)
    dsimp only at hc
    subst hc
    exact ⟨c, fun W hW => by have := hl W hW; rw [hm] at this; exact this⟩
theorem mem_mset {κ : Type} [DecidableEq κ] {m : List (κ × Value)} {k : κ} {v : Value} {p : κ × Value} (h : p ∈ mset m k v) : p ∈ m ∨ p = (k, v) := by
  induction m with
  | nil => rw [mset_nil] at h; exact .inr (List.mem_singleton.1 h)
  | cons q m ih =>
    rw [mset_cons] at h
    split at h
    · rcases List.mem_cons.1 h with h | h
      · exact .inr h
      · exact .inl (List.mem_cons_of_mem _ h)
    · rcases List.mem_cons.1 h with h | h
      · exact .inl (by rw [h]; exact List.mem_cons_self)
      · rcases ih h with h | h
        · exact .inl (List.mem_cons_of_mem _ h)
        · exact .inr h
theorem IntMap.update {w : World} {mb : Nat} (h : IntMap w mb) (k c : Int) : ∃ w', (Instr.mapUpdate 127 (.map (some mb)) (.int .i64 k) (.int .i64 c)).run Tryd.prog w = .ok () w' ∧ IntMap w' mb ∧ w.grownBy w' (some mb) := by
  obtain ⟨m, h1, h2⟩ := h
  obtain ⟨w', e1, e2, e3⟩ := run_update_at (int_law Tryd.underlying3) h1 Tryd.underlying127 k (.int .i64 c)
  refine ⟨w', e1, ⟨_, e2, fun p hp => ?_⟩, e3⟩
  rcases mem_mset hp with h | rfl
  · exact h2 p h
  · exact ⟨c, rfl⟩

/-- The new blocks of a function alone are written. -/
theorem grown_new {w w1 w2 : World} {mb : Nat} (hb : Below w.heap.size w w1) (hg : w1.grownBy w2 (some mb)) (hm : w.heap.size ≤ mb) : Below w.heap.size w w2 :=
  ((Fr.ofBelow (F := fun _ => False) hb).trans (Fr.ofGrown (F := fun k => k = mb) hg (fun k hk => by cases hk; rfl)) (fun b hb => .inr (by rw [hb]; exact hm))).toBelow fun _ _ h => h

set_option maxRecDepth 8000 in
set_option maxHeartbeats 2000000 in
theorem fullest_any {w : World} {qb o : Nat} {r : Rw} {v : Value} {sb : Option Nat} (h : RwAt w qb o r v sb) (hp : 0 < r.items.length) (hbig : r.items.length ≤ 100000) :
    Calls Tryd.prog 55 #[.pointer (some ⟨qb, o, none⟩)] w (IntPost w (IsFlow r.items)) := by
  obtain ⟨l, taken, last⟩ := r
  obtain ⟨c0, _, _, hrow⟩ := h
  dsimp only at *
  obtain ⟨la, lc, rfl⟩ := hrow.form
  obtain ⟨n, hn⟩ : ∃ n, n = l.length := ⟨_, rfl⟩
  rw [← hn] at hrow hp hbig c0
  obtain ⟨g, off, rfl, _, hcell⟩ := item_cells hrow hn.symm hp
  have HCELL := Lib.hid hcell
  have HN := Lib.hid hn
  obtain ⟨x0, hx0⟩ : ∃ x, l[0]? = some x := ⟨_, List.getElem?_eq_getElem (by omega)⟩
  have HX0 := Lib.hid (IsFlow.at hx0)
  have HD2 := Lib.hid (fun W hW => (hcell W hW 0 x0 hx0).2.2)
  have HC0 := Lib.hid c0
  have i0 : (0 : Int) < (n : Int) := by omega
  have hmn : IntMap (w.alloc (.map #[] 0)) w.heap.size := ⟨[], mapAt_new encI w, fun p hp => by cases hp⟩
  have hb0 : Below w.heap.size w (w.alloc (.map #[] 0)) := (Below.refl _ _).alloc (Nat.le_refl _) _
  obtain ⟨W0, hW0⟩ : ∃ W0, w.alloc (.map #[] 0) = W0 := ⟨_, rfl⟩
  rw [hW0] at hmn hb0
  have k0 := bkeep hb0 c0
  have hmm := @run_makeMap Tryd.prog
  have HM0 := Lib.hid hmn
  have HB0 := Lib.hid hb0
  clear hrow hcell hn hx0 c0 hmn hb0
  go_enter Tryd.func55, Tryd.ntmps55
  go_wp2_with fail
  clear hW0 k0 hmm
  go_loopw [15] (fun vi wr => ∃ (k : Nat), vi = .int .i64 k ∧ k ≤ n ∧ IntMap wr w.heap.size ∧ Below w.heap.size w wr) (fun vi _ => (n - intOf vi).toNat)
  case atStart => exact ⟨0, rfl, Nat.zero_le _, HM0.out, HB0.out⟩
  case round =>
    obtain ⟨k, rfl, hk, hm, hbl⟩ := hrel
    have HB := Lib.hid hbl
    by_cases hkn : k < n
    · obtain ⟨x, hx⟩ : ∃ x, l[k]? = some x := ⟨_, List.getElem?_eq_getElem (by have := HN.out; omega)⟩
      obtain ⟨e0, e1, e2⟩ := HCELL.out _ hbl k x hx
      have i1 : (0 : Int) ≤ (k : Int) := by omega
      have i2 : (k : Int) < (n : Int) := by omega
      obtain ⟨x1, x2, x3⟩ := x
      dsimp only at *
      have hz := hm.lt
      obtain ⟨W, hW⟩ : ∃ W, wr.alloc (.cells #[.int .i64 x1, .int .i64 x2, .int .i64 x3] 67) = W := ⟨_, rfl⟩
      have z2 : W.cell? ⟨wr.heap.size, 2, none⟩ = some (.int .i64 x3) := by rw [← hW]; exact block_cell (heap_alloc_new wr _) 2 _ rfl
      have hbW : Below w.heap.size w W := by rw [← hW]; exact hbl.alloc hbl.size _
      have hmW : IntMap W w.heap.size := hm.keep (by rw [← hW]; exact heap_alloc_old _ _ hz)
      obtain ⟨c, hc'⟩ := hmW.lookup x3
      have hc := hc' W rfl
      obtain ⟨W2, hup, hm2, hg2⟩ := hmW.update x3 (wrap64 (c + 1))
      have hb2 := grown_new hbW hg2 (Nat.le_refl _)
      have HM2 := Lib.hid hm2
      have HB2 := Lib.hid hb2
      clear hx hbl hm hmW hm2 hg2 hb2 hbW hz HB hc'
      go_wp2_with fail
      go_roundw
      case rel => exact ⟨k + 1, by go_num, by omega, HM2.out, HB2.out⟩
      case measure => simp [intOf]; omega
    · obtain rfl : n = k := by omega
      have k0 := bkeep hbl HC0.out
      have d2 := HD2.out _ hbl
      rw [Nat.zero_mul, Nat.add_zero] at d2
      have HM := Lib.hid hm
      clear hbl hm
      go_wp2_with fail
      clear k0 d2
      have HB9 := HB
      obtain ⟨W9, hW9⟩ : ∃ W9, W9 = wr := ⟨_, rfl⟩
      subst hW9
      go_loopw [6, 37] (fun va vi wr => ∃ (k : Nat) (f : Int), va = .int .i64 f ∧ vi = .int .i64 k ∧ k ≤ n ∧ Hid (IsFlow l f) ∧ IntMap wr w.heap.size ∧ Below w.heap.size w wr) (fun _ vi _ => (n - intOf vi).toNat)
      case atStart => exact ⟨0, _, rfl, rfl, Nat.zero_le _, HX0, HM.out, HB.out⟩
      case round =>
        obtain ⟨k, f, rfl, rfl, hk, hf, hm, hbl⟩ := hrel
        have HB := Lib.hid hbl
        by_cases hkn : k < n
        · obtain ⟨x, hx⟩ : ∃ x, l[k]? = some x := ⟨_, List.getElem?_eq_getElem (by have := HN.out; omega)⟩
          have HX := Lib.hid (IsFlow.at hx)
          obtain ⟨e0, e1, e2⟩ := HCELL.out _ hbl k x hx
          have i1 : (0 : Int) ≤ (k : Int) := by omega
          have i2 : (k : Int) < (n : Int) := by omega
          obtain ⟨x1, x2, x3⟩ := x
          dsimp only at *
          have hz := hm.lt
          obtain ⟨W, hW⟩ : ∃ W, wr.alloc (.cells #[.int .i64 x1, .int .i64 x2, .int .i64 x3] 67) = W := ⟨_, rfl⟩
          obtain ⟨N, hN⟩ : ∃ N, wr.heap.size = N := ⟨_, rfl⟩
          have z2 : W.cell? ⟨N, 2, none⟩ = some (.int .i64 x3) := by rw [← hW, ← hN]; exact block_cell (heap_alloc_new wr _) 2 _ rfl
          have hbW : Below w.heap.size w W := by rw [← hW]; exact hbl.alloc hbl.size _
          have hmW : IntMap W w.heap.size := hm.keep (by rw [← hW]; exact heap_alloc_old _ _ hz)
          obtain ⟨c1, hc1⟩ := hmW.lookup x3
          obtain ⟨c2, hc2⟩ := hmW.lookup f
          have hmlt := hmW.lt
          have HSX : Hid (∀ w', Below W.heap.size W w' → (w'.cell? ⟨N, 2, none⟩ = some (.int .i64 x3) ∧ (Instr.lookup 127 (.map (some w.heap.size)) (.int .i64 x3) false).run Tryd.prog w' = .ok (.int .i64 c1) w' ∧ (Instr.lookup 127 (.map (some w.heap.size)) (.int .i64 f) false).run Tryd.prog w' = .ok (.int .i64 c2) w')) := fun w' hb =>
            ⟨bkeep hb z2, hc1 w' (hb.block _ hmlt), hc2 w' (hb.block _ hmlt)⟩
          have HMW := Lib.hid hmW
          have HBW := Lib.hid hbW
          clear hx hbl hm hz hc1 hc2 hmlt hmW hbW
          go_wp2_with fail
          clear hW hN z2 e0 e1 e2
          refine wp_region_held_drew (S := fun w' => w'.cell? ⟨N, 2, none⟩ = some (.int .i64 x3) ∧ (Instr.lookup 127 (.map (some w.heap.size)) (.int .i64 x3) false).run Tryd.prog w' = .ok (.int .i64 c1) w' ∧ (Instr.lookup 127 (.map (some w.heap.size)) (.int .i64 f) false).run Tryd.prog w' = .ok (.int .i64 c2) w') (by kernel_rfl) (HSX.out _ (Below.refl _ _).drew) (fun hHeld => ?_)
          refine wpAnyH_take (i := 0) (v := ?_) rfl (by kernel_rfl) (by kernel_rfl) (by kernel_rfl) (fun _ _ _ h => h) (Or.inl ⟨by kernel_rfl, ?_⟩) (by assumption) ?_
          rotate_left
          · (intro w hSw; (try dsimp only at hSw); go_simp; (try rw [if_neg (by (try simp only [ByteArray.size_append]); omega)]); (try with_reducible rfl))
          try simp only [Act.put]
          refine wpAnyH_take (i := 1) (v := ?_) rfl (by kernel_rfl) (by kernel_rfl) (by kernel_rfl) (fun _ _ _ h => h) (Or.inl ⟨by kernel_rfl, ?_⟩) (by assumption) ?_
          rotate_left
          · (intro w hSw; (try dsimp only at hSw); go_simp; (try rw [if_neg (by (try simp only [ByteArray.size_append]); omega)]); (try with_reducible rfl))
          try simp only [Act.put]
          refine wpAnyH_take (i := 2) (v := ?_) rfl (by kernel_rfl) (by kernel_rfl) (by kernel_rfl) (fun _ _ _ h => h) (Or.inl ⟨by kernel_rfl, ?_⟩) (by assumption) ?_
          rotate_left
          · (intro w hSw; (try dsimp only at hSw); go_simp; (try rw [if_neg (by (try simp only [ByteArray.size_append]); omega)]); (try with_reducible rfl))
          try simp only [Act.put]
          refine wpAnyH_take (i := 3) (v := ?_) rfl (by kernel_rfl) (by kernel_rfl) (by kernel_rfl) (fun _ _ _ h => h) (Or.inl ⟨by kernel_rfl, ?_⟩) (by assumption) ?_
          rotate_left
          · (intro w hSw; (try dsimp only at hSw); go_simp; (try rw [if_neg (by (try simp only [ByteArray.size_append]); omega)]); (try with_reducible rfl))
          try simp only [Act.put]
          refine wpAnyH_take (i := 4) (v := ?_) rfl (by kernel_rfl) (by kernel_rfl) (by kernel_rfl) (fun _ _ _ h => h) (Or.inl ⟨by kernel_rfl, ?_⟩) (by assumption) ?_
          rotate_left
          · (intro w hSw; (try dsimp only at hSw); go_simp; (try rw [if_neg (by (try simp only [ByteArray.size_append]); omega)]); (try with_reducible rfl))
          try simp only [Act.put]
          refine wpAnyH_take (i := 5) (v := ?_) rfl (by kernel_rfl) (by kernel_rfl) (by kernel_rfl) (fun _ _ _ h => h) (Or.inl ⟨by kernel_rfl, ?_⟩) (by assumption) ?_
          rotate_left
          · (intro w hSw; (try dsimp only at hSw); go_simp; (try rw [if_neg (by (try simp only [ByteArray.size_append]); omega)]); (try with_reducible rfl))
          try simp only [Act.put]
          refine wpAnyH_take (i := 6) (v := ?_) rfl (by kernel_rfl) (by kernel_rfl) (by kernel_rfl) (fun _ _ _ h => h) (Or.inl ⟨by kernel_rfl, ?_⟩) (by assumption) ?_
          rotate_left
          · (intro w hSw; (try dsimp only at hSw); go_simp; (try rw [if_neg (by (try simp only [ByteArray.size_append]); omega)]); (try with_reducible rfl))
          try simp only [Act.put]
          refine wpAnyH_take (i := 8) (v := ?_) rfl (by kernel_rfl) (by kernel_rfl) (by kernel_rfl) (fun _ _ _ h => h) (Or.inl ⟨by kernel_rfl, ?_⟩) (by assumption) ?_
          rotate_left
          · (intro w hSw; (try dsimp only at hSw); go_simp; (try rw [if_neg (by (try simp only [ByteArray.size_append]); omega)]); (try with_reducible rfl))
          try simp only [Act.put]
          refine wpAnyH_take (i := 9) (v := ?_) rfl (by kernel_rfl) (by kernel_rfl) (by kernel_rfl) (fun _ _ _ h => h) (Or.inl ⟨by kernel_rfl, ?_⟩) (by assumption) ?_
          rotate_left
          · (intro w hSw; (try dsimp only at hSw); go_simp; (try rw [if_neg (by (try simp only [ByteArray.size_append]); omega)]); (try with_reducible rfl))
          try simp only [Act.put]
          refine wpAnyH_take (i := 10) (v := ?_) rfl (by kernel_rfl) (by kernel_rfl) (by kernel_rfl) (fun _ _ _ h => h) (Or.inl ⟨by kernel_rfl, ?_⟩) (by assumption) ?_
          rotate_left
          · (intro w hSw; (try dsimp only at hSw); go_simp; (try rw [if_neg (by (try simp only [ByteArray.size_append]); omega)]); (try with_reducible rfl))
          try simp only [Act.put]
          refine wpAnyH_ready (rs := [7]) (by kernel_rfl) (by simp) ?_
          refine AllReadyH.cons rfl (fun K hK => ?_) AllReadyH.nil
          go_simp
          refine (compare_any _ _ _).mono ?_
          rintro e wq ⟨rfl, rfl⟩
          refine hK.out _ _ (hHeld) (fun hHeld => ?_)
          clear hK K
          try simp only [Act.put]
          refine wpAnyH_ready (rs := [11]) (by kernel_rfl) (by simp) ?_
          refine AllReadyH.cons rfl (fun K hK => ?_) AllReadyH.nil
          go_simp
          refine (compare_any _ _ _).mono ?_
          rintro e wq ⟨rfl, rfl⟩
          refine hK.out _ _ (hHeld) (fun hHeld => ?_)
          clear hK K
          try simp only [Act.put]
          refine wpAnyH_ready (rs := [12]) (by kernel_rfl) (by simp) ?_
          refine AllReadyH.cons rfl (fun K hK => ?_) AllReadyH.nil
          go_simp
          have hbn : Below W.heap.size W (W.alloc (.cells #[.int .i64 (cmpI c1 c2), .int .i64 (cmpI x3 f)] 3)).drew := ((Below.refl _ _).alloc (Nat.le_refl _) _).drew
          have hor := fun nq => or_any (w := ((W.alloc (.cells #[.int .i64 (cmpI c1 c2), .int .i64 (cmpI x3 f)] 3)).drewN nq)) (b := W.heap.size) (x := cmpI c1 c2) (y := cmpI x3 f) (heap_alloc_new W _)
          refine hK.out _ _ ((HSX.out _ hbn)) (fun hHeld => ?_)
          clear hK K
          try simp only [Act.put]
          refine wpAnyH_ready (rs := [13]) (by kernel_rfl) (by simp) ?_
          refine AllReadyH.cons rfl (fun K hK => ?_) AllReadyH.nil
          go_simp
          refine (hor 1).mono ?_
          rintro e wq ⟨rfl, rfl⟩
          refine hK.out _ _ (hHeld) (fun hHeld => ?_)
          clear hK K
          try simp only [Act.put]
          refine wpAnyH_take (i := 14) (v := ?_) rfl (by kernel_rfl) (by kernel_rfl) (by kernel_rfl) (fun _ _ _ h => h) (Or.inl ⟨by kernel_rfl, ?_⟩) (by assumption) ?_
          rotate_left
          · (intro w hSw; (try dsimp only at hSw); go_simp; (try rw [if_neg (by (try simp only [ByteArray.size_append]); omega)]); (try with_reducible rfl))
          try simp only [Act.put]
          refine wpAnyH_done (by kernel_rfl) ?_ _
          try simp only [Act.put]
          have HBN := Lib.hid (btrans HBW.out hbn)
          have HMN := Lib.hid (HMW.out.keep (hbn.block _ HMW.out.lt))
          have e3 := HSX.out _ hbn
          have z3 := e3.1
          clear hHeld HSX hor hbn e3
          obtain ⟨W2, hW2⟩ : ∃ W2, W2 = (W.alloc (.cells #[.int .i64 (cmpI c1 c2), .int .i64 (cmpI x3 f)] 3)).drewN 1 := ⟨_, rfl⟩
          replace HBN : Hid (Below w.heap.size w W2) := by rw [hW2]; exact HBN
          replace HMN : Hid (IntMap W2 w.heap.size) := by rw [hW2]; exact HMN
          replace z3 : W2.cell? ⟨N, 2, none⟩ = some (.int .i64 x3) := by rw [hW2]; exact z3
          go_simp
          rw [← hW2]
          clear hW2
          by_cases ho : 0 < orI (cmpI c1 c2) (cmpI x3 f)
          · have t1 : decide (0 < orI (cmpI c1 c2) (cmpI x3 f)) = true := decide_eq_true ho
            go_wp2_with fail
            go_roundw
            case rel => exact ⟨k + 1, _, rfl, by go_num, by omega, HX, HMN.out, HBN.out⟩
            case measure => simp [intOf]; omega
          · have t1 : decide (0 < orI (cmpI c1 c2) (cmpI x3 f)) = false := decide_eq_false ho
            go_wp2_with fail
            go_roundw
            case rel => exact ⟨k + 1, _, rfl, by go_num, by omega, hf, HMN.out, HBN.out⟩
            case measure => simp [intOf]; omega
        · obtain rfl : n = k := by omega
          clear hbl
          go_wp2_with fail
          go_ret
          exact ⟨f, hf.out, rfl, HB.out⟩

/-! Rows of a queue: an item taken off. -/

def itV (x : Int × Int × Int) : Value := .agg #[.int .i64 x.1, .int .i64 x.2.1, .int .i64 x.2.2]

def Removed (w : World) (qb o g : Nat) (cur : Array Value) (T : TypeId) (x : Int × Int × Int) (l : List (Int × Int × Int)) (e : Ending) (w' : World) : Prop :=
  ∃ v', e = .returned (itV x) ∧ w'.heap[qb]? = some (.cells (cur.setIfInBounds o v') T (0, 0)) ∧ RowAt w' 67 3 v' l.length (entCells l) (some g) ∧ Fr (fun k => k = qb ∨ k = g) w w'

set_option maxRecDepth 8000 in
set_option maxHeartbeats 2000000 in
theorem remove_any {w : World} {qb o g i : Nat} {cur : Array Value} {T : TypeId} {v : Value} {l : List (Int × Int × Int)} (hq : w.heap[qb]? = some (.cells cur T (0, 0))) (hv : cur[o]? = some v) (h : RowAt w 67 3 v l.length (entCells l) (some g)) (hne : g ≠ qb)
    {x : Int × Int × Int} (hx : l[i]? = some x) (hbig : l.length ≤ 100000) :
    Calls Tryd.prog 56 #[.pointer (some ⟨qb, o, none⟩), .int .i64 i] w (Removed w qb o g cur T x (l.eraseIdx i)) := by
  have hi := (List.getElem?_eq_some_iff.1 hx).1
  have hqz := (Array.getElem?_eq_some_iff.1 hq).1
  have hgz := h.lt g rfl
  have he : l.take i ++ l.drop (i + 1) = l.eraseIdx i := (List.eraseIdx_eq_take_drop_succ l i).symm
  obtain ⟨n, hn⟩ : ∃ n, n = l.length := ⟨_, rfl⟩
  rcases h.2.2 with ⟨_, h0, _⟩ | ⟨g', off, cap, cg, hv', hs, hh, hroom, hmax, hsz, ht⟩
  · omega
  cases hs
  subst hv'
  obtain ⟨g0, g1, g2⟩ := entCells_get l i x hx
  have d0 := (row_cell hh ht (i * 3) (by omega)).trans g0
  have d1 := (row_cell hh ht (i * 3 + 1) (by omega)).trans g1
  have d2 := (row_cell hh ht (i * 3 + 2) (by omega)).trans g2
  rw [← Nat.add_assoc] at d1 d2
  have k0 := block_cell hq o _ hv
  have hb1 : Below w.heap.size w (w.alloc (.cells #[.int .i64 0, .int .i64 0, .int .i64 0] 67)) := (Below.refl _ _).alloc (Nat.le_refl _) _
  obtain ⟨W1, hW1⟩ : ∃ W1, w.alloc (.cells #[.int .i64 0, .int .i64 0, .int .i64 0] 67) = W1 := ⟨_, rfl⟩
  have r1 : W1.heap[w.heap.size]? = some (.cells #[.int .i64 0, .int .i64 0, .int .i64 0] 67 (0, 0)) := by rw [← hW1]; exact heap_alloc_new w _
  have z1 : W1.heap.size = w.heap.size + 1 := by rw [← hW1]; simp
  rw [hW1] at hb1
  obtain ⟨x1, x2, x3⟩ := x
  dsimp only at *
  obtain ⟨W2, hW2⟩ : ∃ W2, W1.alloc (.cells #[.int .i64 x1, .int .i64 x2, .int .i64 x3] 67) = W2 := ⟨_, rfl⟩
  have hb2 : Below W1.heap.size W1 W2 := by rw [← hW2]; exact (Below.refl _ _).alloc (Nat.le_refl _) _
  have r2 : W2.heap[W1.heap.size]? = some (.cells #[.int .i64 x1, .int .i64 x2, .int .i64 x3] 67 (0, 0)) := by rw [← hW2]; exact heap_alloc_new W1 _
  have z2 : W2.heap.size = w.heap.size + 2 := by rw [← hW2]; simp; omega
  have r1' := (hb2.block _ (by omega)).trans r1
  have hb12 := btrans hb1 hb2
  have hq2 := (hb12.block _ hqz).trans hq
  have HDEL := Lib.hid (delete_any W2 l g off cap i cg ((hb12.block _ hgz).trans hh) hi hroom hmax hsz ht (by omega))
  rw [he, ← hn] at HDEL
  have k1 := bkeep hb1 k0
  have k2 := bkeep hb12 k0
  have d10 := bkeep hb1 d0
  have d11 := bkeep hb1 d1
  have d12 := bkeep hb1 d2
  have i1 : (0 : Int) ≤ (i : Int) := by omega
  have i2 : (i : Int) < (n : Int) := by omega
  have g1 : IntKind.i64.wrap ((i : Int) + 1) = (i : Int) + 1 := IntWalk.i64_in _ (by omega)
  have hlen : (l.eraseIdx i).length = n - 1 := by rw [List.length_eraseIdx, if_pos hi, hn]
  rw [← hn] at k0 k1 k2
  obtain ⟨N2, hN2⟩ : ∃ N2, W1.heap.size = N2 := ⟨_, rfl⟩
  rw [hN2] at r2
  have HV := Lib.hid hv
  have HR2 := Lib.hid r2
  have HR1 := Lib.hid r1'
  have HQ2 := Lib.hid hq2
  have HZ2 := Lib.hid z2
  have HN2 : Hid (N2 = w.heap.size + 1) := hN2.symm.trans z1
  have HB12 := Lib.hid hb12
  clear he h g0 g1 g2 d0 d1 d2 hh hsz ht hroom hmax hq hv r1 z1 r2 r1' hq2 z2 hb1 hb2 hb12 hlen hn
  go_enter Tryd.func56, Tryd.ntmps56
  go_wp2_with fail
  refine HDEL.out.mono ?_
  rintro e w3 ⟨v', rfl, hrow, hg3⟩
  obtain ⟨la, lc, rfl⟩ := hrow.form
  have f3 : Fr (fun k => k = g) W2 w3 := Fr.ofGrown hg3 (fun k hk => by cases hk; rfl)
  have hsz2 := HZ2.out
  have hn2 := HN2.out
  have q3 := (f3.block qb (by omega) (fun e => hne e.symm)).trans HQ2.out
  have r3 := (f3.block N2 (by omega) (by omega)).trans HR2.out
  have t3 := (f3.block w.heap.size (by omega) (by omega)).trans HR1.out
  have q4 := setCell_block w3 qb o cur T (0, 0) (.slice la (l.eraseIdx i).length lc) q3
  have hoth : ∀ k, k ≠ qb → (w3.setCell ⟨qb, o, none⟩ (.slice la (l.eraseIdx i).length lc)).heap[k]? = w3.heap[k]? := fun k hk => Below.heap_setCell w3 ⟨qb, o, none⟩ _ k hk
  have r4 := (hoth N2 (by omega)).trans r3
  have t4 := (hoth w.heap.size (by omega)).trans t3
  have row4 := hrow.below (w' := w3.setCell ⟨qb, o, none⟩ (.slice la (l.eraseIdx i).length lc)) (fun k hk => hoth k (by cases hk; exact hne))
  have f4 : Fr (fun k => k = qb) w3 (w3.setCell ⟨qb, o, none⟩ (.slice la (l.eraseIdx i).length lc)) := Fr.setCell _ w3 ⟨qb, o, none⟩ _ rfl
  have c0 := block_cell q3 o _ HV.out
  have c1 := block_free q3 o
  obtain ⟨W4, hW4⟩ : ∃ W4, w3.setCell ⟨qb, o, none⟩ (.slice la (l.eraseIdx i).length lc) = W4 := ⟨_, rfl⟩
  rw [hW4] at q4 r4 t4 row4 f4
  obtain ⟨W6, hW6, t6, f6⟩ := fill3 t4 (.int .i64 x1) (.int .i64 x2) (.int .i64 x3)
  have y0 := block_cell r4 0 _ rfl
  have y1 := block_cell r4 1 _ rfl
  have y2 := block_cell r4 2 _ rfl
  have j0 := block_cell t4 0 _ rfl
  have j1 := block_cell t4 1 _ rfl
  have j2 := block_cell t4 2 _ rfl
  have p0 := block_free t4 0
  have p1 := block_free t4 1
  have p2 := block_free t4 2
  have e0 := block_cell t6 0 _ rfl
  have e1 := block_cell t6 1 _ rfl
  have e2 := block_cell t6 2 _ rfl
  have q6 := (f6.block qb (Array.getElem?_eq_some_iff.1 q4).1 (by omega)).trans q4
  have row6 := row4.below (w' := W6) (fun k hk => by cases hk; exact f6.block g (row4.lt g rfl) (by omega))
  have hfr : Fr (fun k => k = qb ∨ k = g) w W6 := ((((Fr.ofBelow (F := fun k => k = qb ∨ k = g) HB12.out).trans f3 (fun b hb => .inl (.inr hb))).trans f4 (fun b hb => .inl (.inl hb))).trans f6 (fun b hb => .inr (by rw [hb]; exact Nat.le_refl _)))
  have HF : Hid (Removed w qb o g cur T (x1, x2, x3) (l.eraseIdx i) (.returned (.agg #[.int .i64 x1, .int .i64 x2, .int .i64 x3])) W6) := ⟨_, rfl, q6, row6, hfr⟩
  clear hW1 hW2 hN2 k1 k2 d10 d11 d12 hrow hg3 f3 q3 r3 t3 q4 hoth r4 t4 row4 f4 t6 f6 q6 row6 hfr hsz2 hn2
  go_wp2_with fail
  exact bodyPost_ret (v := .agg #[.int .i64 x1, .int .i64 x2, .int .i64 x3]) (by simp [results, Tryd.results56, go_sem, e0, e1, e2]) rfl HF.out

/-! Rows of a queue: the first item of a flow. -/

set_option maxHeartbeats 1000000 in
theorem isFlow_any {w : World} {kb : Nat} {f : Int} (hk : w.cell? ⟨kb, 0, none⟩ = some (.int .i64 f)) (x : Int × Int × Int) :
    Calls Tryd.prog 60 #[itV x, .pointer (some ⟨kb, 0, none⟩)] w fun e w' => e = .returned (.bool (x.2.2 == f)) ∧ Below w.heap.size w w' := by
  obtain ⟨x1, x2, x3⟩ := x
  unfold itV
  dsimp only
  have hb : Below w.heap.size w (w.alloc (.cells #[.int .i64 x1, .int .i64 x2, .int .i64 x3] 67)) := (Below.refl _ _).alloc (Nat.le_refl _) _
  have k1 := bkeep hb hk
  have HB := Lib.hid hb
  clear hk hb
  go_enter Tryd.func60, Tryd.ntmps60
  go_wp2_with fail
  go_ret
  exact ⟨rfl, HB.out⟩

def Found (w : World) (l : List (Int × Int × Int)) (f : Int) (e : Ending) (w' : World) : Prop := ∃ (i : Nat) (x : Int × Int × Int), l[i]? = some x ∧ x.2.2 = f ∧ e = .returned (.int .i64 i) ∧ Below w.heap.size w w'

set_option maxRecDepth 8000 in
set_option maxHeartbeats 1000000 in
theorem indexFunc_any {w : World} {kb : Nat} {f : Int} {l : List (Int × Int × Int)} {v : Value} {sb : Option Nat} (hk : w.cell? ⟨kb, 0, none⟩ = some (.int .i64 f)) (h : RowAt w 67 3 v l.length (entCells l) sb) (hf : IsFlow l f) (hbig : l.length ≤ 100000) :
    Calls Tryd.prog 59 #[v, .func (.func 60) #[] #[.pointer (some ⟨kb, 0, none⟩)]] w (Found w l f) := by
  obtain ⟨xf, hxf, hff⟩ := hf
  have hp : 0 < l.length := List.length_pos_of_mem hxf
  obtain ⟨la, lc, rfl⟩ := h.form
  obtain ⟨n, hn⟩ : ∃ n, n = l.length := ⟨_, rfl⟩
  rw [← hn] at h hp hbig ⊢
  obtain ⟨g, off, rfl, _, hcell⟩ := item_cells h hn.symm hp
  have HCELL := Lib.hid hcell
  have HN := Lib.hid hn
  have HXF : Hid (∃ x ∈ l, x.2.2 = f) := ⟨xf, hxf, hff⟩
  have HK := Lib.hid hk
  clear h hcell hn hxf hff hk
  go_enter Tryd.func59, Tryd.ntmps59
  go_wp2_with fail
  go_loopw [5, 8] (fun _ vi wr => ∃ (k : Nat), vi = .int .i64 k ∧ k ≤ n ∧ Hid (∀ x ∈ l.take k, x.2.2 ≠ f) ∧ Below w.heap.size w wr) (fun _ vi _ => (n - intOf vi).toNat)
  case atStart => exact ⟨0, rfl, Nat.zero_le _, (fun x hx => by simp at hx), Below.refl _ _⟩
  case round =>
    obtain ⟨k, rfl, hk, hno, hbl⟩ := hrel
    have HB := Lib.hid hbl
    by_cases hkn : k < n
    · obtain ⟨x, hx⟩ : ∃ x, l[k]? = some x := ⟨_, List.getElem?_eq_getElem (by have := HN.out; omega)⟩
      obtain ⟨e0, e1, e2⟩ := HCELL.out _ hbl k x hx
      have i1 : (0 : Int) ≤ (k : Int) := by omega
      have i2 : (k : Int) < (n : Int) := by omega
      have HIF := Lib.hid (isFlow_any (bkeep hbl HK.out) x)
      unfold itV at HIF
      have HX := Lib.hid hx
      have HMORE : Hid (x.2.2 ≠ f → ∀ y ∈ l.take (k + 1), y.2.2 ≠ f) := fun hne y hy => by
        rw [List.take_add_one, hx] at hy
        rcases List.mem_append.1 hy with h | h
        · exact hno.out y h
        · rw [List.mem_singleton.1 h]; exact hne
      clear hx hbl hno
      go_wp2_with fail
      refine HIF.out.mono ?_
      rintro e w2 ⟨rfl, hb2⟩
      have HB2 := Lib.hid (btrans HB.out hb2)
      clear hb2 e0 e1 e2
      by_cases hx3 : x.2.2 = f
      · have t1 : (x.2.2 == f) = true := beq_iff_eq.2 hx3
        go_wp2_with fail
        go_ret
        exact ⟨k, x, HX.out, hx3, rfl, HB2.out⟩
      · have t1 : (x.2.2 == f) = false := beq_eq_false_iff_ne.2 hx3
        have HM2 := Lib.hid (HMORE.out hx3)
        clear hx3
        go_wp2_with fail
        go_roundw
        case rel => exact ⟨k + 1, by go_num, by omega, HM2, HB2.out⟩
        case measure => simp [intOf]; omega
    · obtain rfl : n = k := by omega
      obtain ⟨x, hx, hxx⟩ := HXF.out
      rw [List.take_of_length_le (by rw [HN.out]; exact Nat.le_refl _)] at hno
      exact absurd hxx (hno.out x hx)

end Go.Proofs.YtchjlkfkfcmhlaaDoor
