/- AlarmAnew, the plain law: of what was set anew only the last time counts. -/
import Derived.Test.YtcplimefklnknaaA19
namespace Go.Proofs.Ytcplimefklnknaa
open Go.RowKit

/-- One Set, on ticks and ids. -/
def fE (l : List (Int × Int)) (a : Ent) : List (Int × Int) := insP (l.filter (fun x => decide (x.2 ≠ a.2.2))) a.2

theorem tid_setE (l : List Ent) (t : Nat) (a : Ent) : (setE l t a.2.1 a.2.2).map tid = fE (l.map tid) a := by
  unfold setE fE
  rw [tid_insE, List.filter_map]
  rfl

theorem played_tid (L : List Ent) (h : ∀ a ∈ L, a.1 = 0) : ∀ st : Nat × List Ent, (L.foldl playE st).2.map tid = L.foldl fE (st.2.map tid) := by
  induction L with
  | nil => exact fun st => rfl
  | cons a L ih =>
    intro st
    rw [List.foldl_cons, List.foldl_cons, ih (fun b hb => h b (List.mem_cons_of_mem _ hb))]
    congr 1
    unfold playE
    rw [if_pos (h a List.mem_cons_self)]
    exact tid_setE _ _ _

/-- Of each id the last one. -/
def keepL : List Ent → List Ent
  | [] => []
  | a :: L => if a.2.2 ∈ L.map (·.2.2) then keepL L else a :: keepL L

theorem keepL_sub (L : List Ent) : ∀ a ∈ keepL L, a ∈ L := by
  induction L with
  | nil => intro a h; exact h
  | cons b L ih =>
    intro a h
    unfold keepL at h
    split at h
    · exact List.mem_cons_of_mem _ (ih a h)
    · rcases List.mem_cons.1 h with rfl | h
      · exact List.mem_cons_self
      · exact List.mem_cons_of_mem _ (ih a h)

theorem keepL_nodup (L : List Ent) : ((keepL L).map (·.2.2)).Nodup := by
  induction L with
  | nil => exact List.nodup_nil
  | cons b L ih =>
    unfold keepL
    split
    · exact ih
    · rename_i h
      rw [List.map_cons, List.nodup_cons]
      refine ⟨fun hm => h ?_, ih⟩
      obtain ⟨x, hx, hx'⟩ := List.mem_map.1 hm
      exact List.mem_map.2 ⟨x, keepL_sub L x hx, hx'⟩

def SortP (l : List (Int × Int)) : Prop := l.Pairwise (fun a b => a.1 ≤ b.1)

theorem part_P {l : List (Int × Int)} (hs : SortP l) (t : Int) : l = l.filter (fun x => decide (x.1 ≤ t)) ++ l.filter (fun x => decide (t < x.1)) := by
  induction l with
  | nil => rfl
  | cons a l ih =>
    have hs' := List.pairwise_cons.1 hs
    by_cases h : a.1 ≤ t
    · rw [List.filter_cons_of_pos (by simpa using h), List.filter_cons_of_neg (by simp; omega), List.cons_append, ← ih hs'.2]
    · have h1 : ∀ x ∈ l, t < x.1 := fun x hx => by have := hs'.1 x hx; omega
      rw [List.filter_cons_of_neg (by simpa using h), List.filter_cons_of_pos (by simp; omega)]
      rw [List.filter_eq_nil_iff.2 (fun x hx => by have := h1 x hx; simp; omega), List.filter_eq_self.2 (fun x hx => by have := h1 x hx; simpa using this)]
      rfl

theorem SortP.filter {l : List (Int × Int)} (h : SortP l) (p : Int × Int → Bool) : SortP (l.filter p) := h.sublist List.filter_sublist

theorem SortP.ins {l : List (Int × Int)} (h : SortP l) (p : Int × Int) : SortP (insP l p) := by
  unfold insP SortP
  rw [List.pairwise_append]
  refine ⟨h.filter _, List.pairwise_cons.2 ⟨fun x hx => ?_, h.filter _⟩, fun x hx y hy => ?_⟩
  · have := (List.mem_filter.1 hx).2; simp at this; omega
  · have h1 := (List.mem_filter.1 hx).2
    rcases List.mem_cons.1 hy with rfl | hy
    · simpa using h1
    · have h2 := (List.mem_filter.1 hy).2
      simp at h1 h2; omega

theorem SortP.fE {l : List (Int × Int)} (h : SortP l) (a : Ent) : SortP (fE l a) := (h.filter _).ins _

theorem filter_insP (l : List (Int × Int)) (p : Int × Int) (q : Int × Int → Bool) (hs : SortP l) :
    (insP l p).filter q = if q p then insP (l.filter q) p else l.filter q := by
  unfold insP
  rw [List.filter_append, List.filter_cons]
  split
  · rw [filter_filter_comm _ q, filter_filter_comm _ q]
  · rw [← List.filter_append, ← part_P hs]

theorem keep_fold (L : List Ent) : ∀ l : List (Int × Int), SortP l → L.foldl fE l = (keepL L).foldl fE (l.filter (fun x => decide (x.2 ∉ L.map (·.2.2)))) := by
  induction L with
  | nil => intro l _; exact (List.filter_eq_self.2 (fun x _ => by simp)).symm
  | cons a L ih =>
    intro l hs
    rw [List.foldl_cons, ih _ (hs.fE a)]
    have e1 : (l.filter (fun x => decide (x.2 ≠ a.2.2))).filter (fun x => decide (x.2 ∉ L.map (·.2.2))) = l.filter (fun x => decide (x.2 ∉ (a :: L).map (·.2.2))) := by
      rw [List.filter_filter]
      refine List.filter_congr fun x _ => ?_
      rw [Bool.eq_iff_iff]
      simp only [Bool.and_eq_true, decide_eq_true_eq, List.map_cons, List.mem_cons, not_or]
      exact And.comm
    unfold fE
    rw [filter_insP _ _ _ (hs.filter _), e1]
    by_cases h : a.2.2 ∈ L.map (·.2.2)
    · rw [if_neg (by simpa using h)]
      rw [keepL, if_pos h]
    · rw [if_pos (by simpa using h), keepL, if_neg h, List.foldl_cons]
      congr 1
      show _ = insP _ _
      congr 1
      rw [List.filter_filter]
      refine List.filter_congr fun x _ => ?_
      rw [Bool.eq_iff_iff]
      simp only [Bool.and_eq_true, decide_eq_true_eq, List.map_cons, List.mem_cons, not_or]
      exact ⟨fun h => ⟨h.1, h⟩, fun h => h.2⟩

theorem mem_insP {l : List (Int × Int)} {p x : Int × Int} (h : x ∈ insP l p) : x = p ∨ x ∈ l := by
  unfold insP at h
  rcases List.mem_append.1 h with h | h
  · exact .inr (List.mem_filter.1 h).1
  · rcases List.mem_cons.1 h with h | h
    · exact .inl h
    · exact .inr (List.mem_filter.1 h).1

theorem len_fold (L : List Ent) : ∀ l : List (Int × Int), SortP l → (L.map (·.2.2)).Nodup → (∀ x ∈ l, x.2 ∉ L.map (·.2.2)) → (L.foldl fE l).length = l.length + L.length := by
  induction L with
  | nil => intro l _ _ _; rfl
  | cons a L ih =>
    intro l hs hn hd
    rw [List.map_cons, List.nodup_cons] at hn
    have e1 : l.filter (fun x => decide (x.2 ≠ a.2.2)) = l := List.filter_eq_self.2 fun x hx => by
      have := hd x hx
      rw [List.map_cons, List.mem_cons, not_or] at this
      simpa using this.1
    have e2 : (insP l a.2).length = l.length + 1 := by
      unfold insP
      rw [List.length_append, List.length_cons]
      conv => rhs; rw [part_P hs a.2.1, List.length_append]
      omega
    rw [List.foldl_cons, ih _ (hs.fE a) hn.2, fE, e1, e2, List.length_cons]
    · omega
    · intro x hx
      rw [fE, e1] at hx
      rcases mem_insP hx with rfl | hx
      · exact hn.1
      · have := hd x hx
        rw [List.map_cons, List.mem_cons, not_or] at this
        exact this.2

theorem anew_tid (L : List Ent) (h : ∀ a ∈ L, a.1 = 0) : (played L).2.map tid = (played (keepL L)).2.map tid := by
  unfold played
  rw [played_tid L h, played_tid _ (fun a ha => h a (keepL_sub L a ha)), show List.map tid (0, ([] : List Ent)).2 = [] from rfl, keep_fold L _ List.Pairwise.nil]
  rfl

theorem anew_len (L : List Ent) (h : ∀ a ∈ L, a.1 = 0) : (played L).2.length = (keepL L).length := by
  have h1 : (played L).2.length = ((played L).2.map tid).length := by rw [List.length_map]
  rw [h1, anew_tid L h]
  unfold played
  rw [played_tid _ (fun a ha => h a (keepL_sub L a ha)), show List.map tid (0, ([] : List Ent)).2 = [] from rfl, len_fold _ _ List.Pairwise.nil (keepL_nodup L) (fun x hx => nomatch hx)]
  exact Nat.zero_add _

/-- Is the id set again, behind i and ahead of j? -/
def againL (L : List Ent) (i j : Nat) (id : Int) : Bool := ((L.drop (i + 1)).take (j - (i + 1))).any (fun e => e.2.2 == id)

theorem again_start (L : List Ent) (i : Nat) (id : Int) : againL L i (i + 1) id = false := by unfold againL; simp
theorem again_step (L : List Ent) (i j : Nat) (id : Int) (h : i + 1 ≤ j) (x : Ent) (hx : L[j]? = some x) : againL L i (j + 1) id = (againL L i j id || (x.2.2 == id)) := by
  unfold againL
  rw [show j + 1 - (i + 1) = (j - (i + 1)) + 1 by omega, List.take_add_one, List.getElem?_drop, show i + 1 + (j - (i + 1)) = j by omega, hx, List.any_append]
  simp
theorem again_end (L : List Ent) (i : Nat) (x : Ent) (hx : L[i]? = some x) (b : Bool) (h : againL L i L.length x.2.2 = b) : keepL (L.drop i) = if b then keepL (L.drop (i + 1)) else x :: keepL (L.drop (i + 1)) := by
  obtain ⟨hi, rfl⟩ := List.getElem?_eq_some_iff.1 hx
  rw [List.drop_eq_getElem_cons hi, keepL]
  unfold againL at h
  rw [List.take_of_length_le (by rw [List.length_drop]; exact Nat.le_refl _)] at h
  have e : (L[i].2.2 ∈ (L.drop (i + 1)).map (·.2.2)) ↔ b = true := by
    rw [← h, List.any_eq_true, List.mem_map]
    exact ⟨fun ⟨x, h1, h2⟩ => ⟨x, h1, by simpa using h2⟩, fun ⟨x, h1, h2⟩ => ⟨x, h1, by simpa using h2⟩⟩
  by_cases hb : b = true
  · rw [if_pos (e.2 hb), if_pos hb]
  · rw [if_neg (fun h => hb (e.1 h)), if_neg hb]

theorem take_filter_step (L : List Ent) (k : Nat) (x : Ent) (hx : L[k]? = some x) (b : Bool) (h : (x.1 == 0) = b) :
    (L.take (k + 1)).filter (fun e => e.1 == 0) = if b then (L.take k).filter (fun e => e.1 == 0) ++ [x] else (L.take k).filter (fun e => e.1 == 0) := by
  rw [List.take_add_one, hx, List.filter_append]
  subst h
  by_cases h0 : (x.1 == 0) = true
  · rw [if_pos h0]; simp [h0]
  · rw [if_neg h0]; simp [h0]

end Go.Proofs.Ytcplimefklnknaa
