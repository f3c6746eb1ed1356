/- Walks: Due. -/
import Derived.Test.YtcplimefklnknaaA10
import Derived.Test.YtcplimefklnknaaInts
namespace Go.Proofs.Ytcplimefklnknaa
open Go.RowKit
attribute [local go_sem ↓] Go.wp_at_zero Go.wp_at_succ

/-- What Due tells, and what is left. -/
def dueL (l : List Ent) (now : Int) : List Ent := l.filter (fun x => decide (x.1 ≤ now))
def leftL (l : List Ent) (now : Int) : List Ent := l.filter (fun x => decide (now < x.1))

theorem due_parts {l : List Ent} (hs : l.Pairwise ltE) {now : Int} {r : Nat} (hrl : r ≤ l.length) (hr0 : r = 0 ∨ ∃ x, l[r-1]? = some x ∧ decide (now < x.1) = false)
    (hr1 : r = l.length ∨ ∃ x, l[r]? = some x ∧ decide (now < x.1) = true) : l.take r = dueL l now ∧ l.drop r = leftL l now := by
  have hle : ∀ i j (hi : i < l.length) (hj : j < l.length), i ≤ j → l[i].1 ≤ l[j].1 := fun i j hi hj hij => by
    rcases Nat.lt_or_ge i j with h | h
    · have := List.pairwise_iff_getElem.1 hs i j hi hj h
      unfold ltE at this; omega
    · have : i = j := by omega
      subst this; exact Int.le_refl _
  have h1 : ∀ x ∈ l.take r, x.1 ≤ now := by
    intro x hx
    obtain ⟨j, hj, rfl⟩ := List.mem_iff_getElem.1 hx
    rw [List.length_take] at hj
    rw [List.getElem_take]
    rcases hr0 with h0 | ⟨y, hy, hg⟩
    · omega
    · obtain ⟨hyl, rfl⟩ := List.getElem?_eq_some_iff.1 hy
      have := hle j (r - 1) (by omega) hyl (by omega)
      simp at hg; omega
  have h2 : ∀ x ∈ l.drop r, now < x.1 := by
    intro x hx
    obtain ⟨j, hj, rfl⟩ := List.mem_iff_getElem.1 hx
    rw [List.length_drop] at hj
    rw [List.getElem_drop]
    rcases hr1 with h0 | ⟨y, hy, hg⟩
    · omega
    · obtain ⟨hyl, rfl⟩ := List.getElem?_eq_some_iff.1 hy
      have := hle r (r + j) hyl (by omega) (by omega)
      simp at hg; omega
  unfold dueL leftL
  constructor
  · conv => rhs; rw [← List.take_append_drop r l]
    rw [List.filter_append, List.filter_eq_self.2 (fun x hx => by simpa using h1 x hx), List.filter_eq_nil_iff.2 (fun x hx => by have := h2 x hx; simp; omega), List.append_nil]
  · conv => rhs; rw [← List.take_append_drop r l]
    rw [List.filter_append, List.filter_eq_nil_iff.2 (fun x hx => by have := h1 x hx; simp; omega), List.filter_eq_self.2 (fun x hx => by simpa using h2 x hx), List.nil_append]

/-- What Due leaves. -/
def DuePost (w : World) (pb mb turn : Nat) (sb : Option Nat) (l : List Ent) (now : Int) (e : Ending) (w' : World) : Prop :=
  ∃ v sbI sb', e = .returned v ∧ RowAt w' 3 1 v (dueL l now).length (intCells ((dueL l now).map (·.2.2))) sbI ∧ (∀ g, sbI = some g → w.heap.size ≤ g) ∧ AlarmW w' pb mb sb' turn (leftL l now) ∧ Fr (Foot pb mb sb) w w' ∧ (sb' = none ∨ sb' = sb)

/-- What a round of Due knows. -/
structure DueInv (w : World) (mb : Nat) (l : List Ent) (m : List (Int × Value)) (k : Nat) (v : Value) (wr : World) : Prop where
  row : ∃ sbI, RowAt wr 3 1 v k (intCells ((l.take k).map (·.2.2))) sbI ∧ ∀ g, sbI = some g → w.heap.size ≤ g
  map : ∃ mk, MapAt (fun n : Int => Value.int .i64 n) wr mb mk ∧ ∀ id, mget mk id = if id ∈ (l.take k).map (·.2.2) then none else mget m id
  fr : Fr (fun b => b = mb) w wr

/-- The round's memory: a box of the entry, a slice of its id, the append, the delete. -/
theorem due_step {w wr : World} {mb k : Nat} {l : List Ent} {m : List (Int × Value)} {v : Value} {x : Ent} (h : DueInv w mb l m k v wr) (hx : l[k]? = some x) (hl : l.length ≤ 1000000) (hmw : mb < w.heap.size) :
    ∃ la lc w2 w3, (Builtin.append_ #[22, 22] 22 #[v, .slice (some ⟨wr.heap.size + 1, 0, none⟩) 1 1]).run Try.prog ((wr.alloc (.cells #[.int .i64 x.1, .int .i64 x.2.1, .int .i64 x.2.2] 45)).alloc (.cells #[.int .i64 x.2.2] 3)) = .ok (.slice la (k + 1) lc) w2 ∧
      (Builtin.delete_ #[48, 3] 0 #[.map (some mb), .int .i64 x.2.2]).run Try.prog w2.drew = .ok (.tuple #[]) w3 ∧ DueInv w mb l m (k + 1) (.slice la (k + 1) lc) w3 ∧
      w2.heap[wr.heap.size]? = some (.cells #[.int .i64 x.1, .int .i64 x.2.1, .int .i64 x.2.2] 45 (0, 0)) ∧ w3.heap[wr.heap.size]? = some (.cells #[.int .i64 x.1, .int .i64 x.2.1, .int .i64 x.2.2] 45 (0, 0)) ∧ Fr (fun b => b = mb) w w2 := by
  obtain ⟨⟨sbI, hrow, hsb⟩, ⟨mk, hm, hmk⟩, hfr⟩ := h
  have hkl : k < l.length := (List.getElem?_eq_some_iff.1 hx).1
  obtain ⟨A, hA⟩ : ∃ A, A = wr.alloc (.cells #[.int .i64 x.1, .int .i64 x.2.1, .int .i64 x.2.2] 45) := ⟨_, rfl⟩
  obtain ⟨B, hB⟩ : ∃ B, B = A.alloc (.cells #[.int .i64 x.2.2] 3) := ⟨_, rfl⟩
  have hsA : A.heap.size = wr.heap.size + 1 := by rw [hA]; simp
  have hsB : B.heap.size = wr.heap.size + 2 := by rw [hB]; simp [hsA]
  have hbA : Below wr.heap.size wr A := by rw [hA]; exact (Below.refl _ _).alloc (Nat.le_refl _) _
  have hbAB : Below A.heap.size A B := by rw [hB]; exact (Below.refl _ _).alloc (Nat.le_refl _) _
  have hbB := btrans hbA hbAB
  have hAn : A.heap[wr.heap.size]? = some (.cells #[.int .i64 x.1, .int .i64 x.2.1, .int .i64 x.2.2] 45 (0, 0)) := by rw [hA]; exact heap_alloc_new _ _
  have hBn := (hbAB.block wr.heap.size (by omega)).trans hAn
  have hBi : B.heap[wr.heap.size + 1]? = some (.cells #[.int .i64 x.2.2] 3 (0, 0)) := by rw [← hsA, hB]; exact heap_alloc_new _ _
  obtain ⟨la, lc, sb2, w2, hrun, hrow2, hg2, hsb2, _⟩ := row_append (P := Try.prog) B 22 22 3 (.int .i64 0) 1 8 Try.underlying22 infoInt rfl (hrow.keep hbB) ⟨wr.heap.size + 1, 0, none⟩ 1 1 [.int .i64 x.2.2] rfl
    (fun j u hj => by
      rw [Addr.add_lit, Nat.zero_add, cell_of_row B _ j _ _ _ hBi]
      match j, hj with
      | 0, hj => simpa using hj
      | j + 1, hj => simp at hj) (by simp [Value.oneCell']) (by omega) (by omega) (by omega)
  have hslt := hrow.lt
  have hne : ∀ b, sbI = some b → b < wr.heap.size := hslt
  have hg2n : w2.heap[wr.heap.size]? = some (.cells #[.int .i64 x.1, .int .i64 x.2.1, .int .i64 x.2.2] 45 (0, 0)) :=
    (hg2.block wr.heap.size (by omega) (fun e => by have := hslt _ e.symm; omega)).trans hBn
  have hmlt := hm.lt
  have hmsb : sbI ≠ some mb := fun e => by have := hsb _ e; omega
  have hm2 : MapAt (fun n : Int => Value.int .i64 n) w2.drew mb mk := hm.keep ((hg2.block mb (by omega) (fun e => hmsb e.symm)).trans (hbB.block mb hmlt))
  obtain ⟨w3, hdel, hm3, hg3⟩ := run_delete_at (int_law Try.underlying3) hm2 Try.underlying48 3 0 x.2.2
  have hfr2 : Fr (fun b => b = mb) w w2 := by
    have h1 : Fr (fun b => b = mb) w B := hfr.trans (Fr.ofBelow (F := fun b => b = mb) hbB) (fun b h => .inl h)
    refine h1.trans (Fr.ofGrown (F := fun b => sbI = some b) hg2 (fun k hk => hk)) (fun b h => .inr (hsb b h))
  refine ⟨la, lc, w2, w3, by rw [← hA, ← hB]; exact hrun, hdel, ⟨⟨sb2, ?_, ?_⟩, ⟨_, hm3, fun id => ?_⟩, ?_⟩, hg2n, ?_, hfr2⟩
  · have e1 : (l.take (k + 1)).map (·.2.2) = (l.take k).map (·.2.2) ++ [x.2.2] := by rw [List.take_add_one, hx]; simp
    rw [e1]
    have e2 : intCells ((l.take k).map (·.2.2) ++ [x.2.2]) = intCells ((l.take k).map (·.2.2)) ++ [.int .i64 x.2.2] := by simp [intCells]
    rw [e2]
    refine hrow2.below fun g hg => hg3.block g (hrow2.lt g hg) (fun e => ?_)
    cases e
    rcases hsb2 with h | h
    · exact hmsb (h.symm.trans hg)
    · rw [hg] at h; cases h; omega
  · intro g hg
    rcases hsb2 with h | h
    · exact hsb g (h.symm.trans hg)
    · rw [hg] at h; cases h; have := hfr.size; omega
  · rw [mget_mdel _ _ _ hm2.1, hmk, List.take_add_one, hx]
    simp only [Option.toList_some, List.map_append, List.map_cons, List.map_nil, List.mem_append, List.mem_singleton]
    by_cases h1 : x.2.2 = id
    · simp [h1]
    · have : ¬ id = x.2.2 := fun e => h1 e.symm
      simp [h1, this]
  · exact (hfr2.trans (Fr.drew (fun b => b = mb) w2) (fun b h => .inl h)).trans (Fr.ofGrown (F := fun b => b = mb) hg3 (fun k hk => by cases hk; rfl)) (fun b h => .inl h)
  · refine (hg3.block wr.heap.size (by have := hg2.size; show _ < w2.heap.size; omega) (fun e => ?_)).trans hg2n
    cases e; omega

end Go.Proofs.Ytcplimefklnknaa
