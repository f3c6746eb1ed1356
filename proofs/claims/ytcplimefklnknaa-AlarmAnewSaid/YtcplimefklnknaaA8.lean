/- The alarms in memory; plain facts on their row. -/
import Derived.Test.YtcplimefklnknaaA7
import Derived.Test.YtcplimefklnknaaMap
namespace Go.Proofs.Ytcplimefklnknaa
open Go.RowKit

abbrev Ent := Int × Int × Int
def entVal (e : Ent) : Value := .agg #[.int .i64 e.1, .int .i64 e.2.1, .int .i64 e.2.2]
def ltE (a b : Ent) : Prop := a.1 < b.1 ∨ (a.1 = b.1 ∧ a.2.1 < b.2.1)

/-- The row: sorted by ticks and turns; ids are told apart; turns are no greater than the last one. -/
structure RowOk (l : List Ent) (turn : Nat) : Prop where
  sorted : l.Pairwise ltE
  ids : (l.map (·.2.2)).Nodup
  turns : ∀ e ∈ l, e.2.1 ≤ turn
  len : l.length ≤ turn

/-- Alarms that lie in the blocks pb, mb, sb. -/
structure AlarmW (w : World) (pb mb : Nat) (sb : Option Nat) (turn : Nat) (l : List Ent) : Prop where
  ok : RowOk l turn
  mem : ∃ lv m, w.heap[pb]? = some (.cells #[lv, .map (some mb), .int .i64 turn] 50 (0, 0)) ∧ RowAt w 45 3 lv l.length (entCells l) sb ∧
    MapAt (fun n : Int => .int .i64 n) w mb m ∧ ∀ id, mget m id = (l.find? (fun e => decide (e.2.2 = id))).map entVal

theorem geE_iff (e f : Ent) : geE e.1 e.2.1 f.1 f.2.1 = false ↔ ltE e f := by
  unfold geE or2 cmpI ltE
  rw [decide_eq_false_iff_not]
  by_cases h1 : e.1 < f.1
  · simp [h1]
  · by_cases h2 : f.1 < e.1
    · simp [h1, h2]; omega
    · have h3 : e.1 = f.1 := by omega
      by_cases h4 : e.2.1 < f.2.1
      · simp [h3, h4]
      · by_cases h5 : f.2.1 < e.2.1
        · simp [h3, h4, h5]
        · simp [h3, h4, h5]

theorem geE_true (e f : Ent) : geE e.1 e.2.1 f.1 f.2.1 = true ↔ ¬ ltE e f := by
  rw [← geE_iff]; simp

theorem ltE_trans {a b c : Ent} (h : ltE a b) (k : ltE b c) : ltE a c := by unfold ltE at *; omega
theorem ltE_irrefl (a : Ent) : ¬ ltE a a := by unfold ltE; omega

/-- Where an entry that stands in the row is found. -/
theorem place_found {l : List Ent} (hs : l.Pairwise ltE) {j r : Nat} {e : Ent} (hj : l[j]? = some e) (hr0 : r = 0 ∨ ∃ x, l[r-1]? = some x ∧ geE x.1 x.2.1 e.1 e.2.1 = false)
    (hr1 : r = l.length ∨ ∃ x, l[r]? = some x ∧ geE x.1 x.2.1 e.1 e.2.1 = true) : r = j := by
  rw [List.pairwise_iff_getElem] at hs
  obtain ⟨hjl, rfl⟩ := List.getElem?_eq_some_iff.1 hj
  rcases Nat.lt_trichotomy r j with h | h | h
  · rcases hr1 with h1 | ⟨x, hx, hg⟩
    · omega
    · obtain ⟨hxl, rfl⟩ := List.getElem?_eq_some_iff.1 hx
      exact absurd (hs r j hxl hjl h) ((geE_true _ _).1 hg)
  · exact h
  · rcases hr0 with h0 | ⟨x, hx, hg⟩
    · omega
    · obtain ⟨hxl, rfl⟩ := List.getElem?_eq_some_iff.1 hx
      have hlt := (geE_iff _ _).1 hg
      rcases Nat.lt_or_ge j (r - 1) with h2 | h2
      · exact absurd (ltE_trans (hs j (r-1) hjl hxl h2) hlt) (ltE_irrefl _)
      · have h3 : r - 1 = j := by omega
        subst h3
        exact absurd hlt (ltE_irrefl _)

/-- The row without an id, where the id stands at j. -/
theorem filter_at {l : List Ent} (hn : (l.map (·.2.2)).Nodup) {j : Nat} {e : Ent} (hj : l[j]? = some e) : l.take j ++ l.drop (j + 1) = l.filter (fun x => decide (x.2.2 ≠ e.2.2)) := by
  induction l generalizing j with
  | nil => simp at hj
  | cons a l ih =>
    rw [List.map_cons, List.nodup_cons] at hn
    cases j with
    | zero =>
      simp at hj; subst hj
      rw [List.filter_cons_of_neg (by simp)]
      simp only [List.take_zero, List.nil_append, Nat.zero_add, List.drop_succ_cons, List.drop_zero]
      refine (List.filter_eq_self.2 fun x hx => ?_).symm
      have : x.2.2 ≠ a.2.2 := fun e => hn.1 (List.mem_map.2 ⟨x, hx, e⟩)
      simpa using this
    | succ j =>
      simp at hj
      have h1 : a.2.2 ≠ e.2.2 := fun h => hn.1 (List.mem_map.2 ⟨e, List.mem_of_getElem? hj, h.symm⟩)
      rw [List.filter_cons_of_pos (by simpa using h1), ← ih hn.2 hj]
      rfl

theorem filter_none {l : List Ent} {id : Int} (h : l.find? (fun e => decide (e.2.2 = id)) = none) : l.filter (fun x => decide (x.2.2 ≠ id)) = l := by
  rw [List.find?_eq_none] at h
  exact List.filter_eq_self.2 fun x hx => by have := h x hx; simpa using this

theorem find_at {l : List Ent} {id : Int} {e : Ent} (h : l.find? (fun e => decide (e.2.2 = id)) = some e) : ∃ j : Nat, l[j]? = some e ∧ e.2.2 = id := by
  have h1 := List.mem_of_find?_eq_some h
  have h2 := List.find?_some h
  obtain ⟨j, hj⟩ := List.getElem?_of_mem h1
  exact ⟨j, hj, by simpa using h2⟩

theorem RowOk.filter {l : List Ent} {turn : Nat} (h : RowOk l turn) (p : Ent → Bool) : RowOk (l.filter p) turn :=
  ⟨h.sorted.sublist List.filter_sublist, h.ids.sublist (List.filter_sublist.map _), fun e he => h.turns e (List.mem_filter.1 he).1, Nat.le_trans (List.length_filter_le _ _) h.len⟩

theorem find_filter_id (l : List Ent) (id id' : Int) : (l.filter (fun x => decide (x.2.2 ≠ id))).find? (fun e => decide (e.2.2 = id')) = if id = id' then none else l.find? (fun e => decide (e.2.2 = id')) := by
  induction l with
  | nil => simp
  | cons a l ih =>
    rw [List.filter_cons]
    by_cases h : a.2.2 = id
    · rw [if_neg (by simp [h]), ih, List.find?_cons]
      by_cases h' : id = id'
      · simp [h']
      · have : ¬ a.2.2 = id' := fun e => h' (h.symm.trans e)
        simp [h', this]
    · rw [if_pos (by simp [h]), List.find?_cons, List.find?_cons, ih]
      by_cases h' : a.2.2 = id'
      · have : ¬ id = id' := fun e => h (h'.trans e.symm)
        simp [h', this]
      · simp [h']

end Go.Proofs.Ytcplimefklnknaa
