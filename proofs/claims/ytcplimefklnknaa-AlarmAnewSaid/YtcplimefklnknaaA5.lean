/- Walks: slices.Insert of one entry. -/
import Derived.Test.YtcplimefklnknaaA4
namespace Go.Proofs.Ytcplimefklnknaa
open Go.RowKit
attribute [local go_sem ↓] Go.wp_at_zero Go.wp_at_succ

theorem infoEnt : (Try.prog.info? 45).map (fun i => (i.zero, i.size, i.bytes)) = some (some (.agg #[.int .i64 0, .int .i64 0, .int .i64 0]), 3, 24) := by kernel_rfl
theorem sizeEnt (w : World) : (Go.sizeOf 45).run Try.prog w = .ok 3 w := by kernel_rfl

theorem entCells_append (l l' : List (Int × Int × Int)) : entCells (l ++ l') = entCells l ++ entCells l' := by simp [entCells]
theorem entCells_one (l : List (Int × Int × Int)) : ∀ u ∈ entCells l, u.oneCell' = true := by
  intro u hu
  simp only [entCells, List.mem_flatMap, List.mem_cons, List.not_mem_nil, or_false] at hu
  obtain ⟨e, _, rfl | rfl | rfl⟩ := hu <;> rfl
theorem entCells_take (l : List (Int × Int × Int)) (i : Nat) : entCells (l.take i) = (entCells l).take (i * 3) := by
  induction l generalizing i with
  | nil => simp [entCells]
  | cons a l ih =>
    cases i with
    | zero => simp [entCells]
    | succ i => rw [show (i + 1) * 3 = i * 3 + 1 + 1 + 1 by omega]; simpa [entCells] using ih i
theorem entCells_drop (l : List (Int × Int × Int)) (i : Nat) : entCells (l.drop i) = (entCells l).drop (i * 3) := by
  induction l generalizing i with
  | nil => simp [entCells]
  | cons a l ih =>
    cases i with
    | zero => simp [entCells]
    | succ i => rw [show (i + 1) * 3 = i * 3 + 1 + 1 + 1 by omega]; simpa [entCells] using ih i

/-- What Insert leaves. -/
def Inserted (sb : Option Nat) (l : List (Int × Int × Int)) (w : World) (e : Ending) (w' : World) : Prop :=
  ∃ lv' sb', e = .returned lv' ∧ RowAt w' 45 3 lv' l.length (entCells l) sb' ∧ w.grownBy w' sb ∧ (sb' = sb ∨ ∃ k, sb' = some k ∧ w.heap.size ≤ k)

theorem one_cells {w : World} {vb : Nat} {e : Int × Int × Int} (hv : w.heap[vb]? = some (.cells #[.int .i64 e.1, .int .i64 e.2.1, .int .i64 e.2.2] 45 (0, 0))) :
    ∀ j u, (entCells [e])[j]? = some u → w.cell? ((⟨vb, 0, none⟩ : Addr).add j) = some u := by
  intro j u hj
  rw [Addr.add_lit, Nat.zero_add, cell_of_row w vb j _ _ _ hv]
  match j, hj with
  | 0, hj => simpa [entCells] using hj
  | 1, hj => simpa [entCells] using hj
  | 2, hj => simpa [entCells] using hj
  | j + 3, hj => simp [entCells] at hj

/-- append of one entry at a row's end. -/
theorem append_ent (w : World) (ty : TypeId) (lv : Value) (l : List (Int × Int × Int)) (sb : Option Nat) (vb : Nat) (e : Int × Int × Int) (h : RowAt w 45 3 lv l.length (entCells l) sb) (hn : l.length ≤ 1000000)
    (hv : w.heap[vb]? = some (.cells #[.int .i64 e.1, .int .i64 e.2.1, .int .i64 e.2.2] 45 (0, 0))) :
    ∃ lv' w', (Builtin.append_ #[47, 47] ty #[lv, .slice (some ⟨vb, 0, none⟩) 1 1]).run Try.prog w = .ok lv' w' ∧ Inserted sb (l ++ [e]) w (.returned lv') w' := by
  obtain ⟨i0, hi, hz0, hz1, hz2⟩ := info_parts infoEnt
  have hc := one_cells hv
  have hlen : (entCells [e]).length = 1 * 3 := by rw [entCells_length]; rfl
  have hfin : ∀ L : List Value, (L.take (l.length * 3) = entCells l) → (L.drop (l.length * 3)).take 3 = entCells [e] → L.take ((l ++ [e]).length * 3) = entCells (l ++ [e]) := by
    intro L h1 h2
    have h3 : (L.drop (l.length * 3)).take 3 = entCells [e] := h2
    rw [entCells_append, ← h1, ← h3, List.length_append, List.length_singleton, show (l.length + 1) * 3 = l.length * 3 + 3 by omega, List.take_add]
  by_cases hroom : ∃ g off cap cur, lv = .slice (some ⟨g, off, none⟩) l.length cap ∧ sb = some g ∧ w.heap[g]? = some (.cells cur 45 (0, 0)) ∧ l.length + 1 ≤ cap ∧ cap ≤ maxLen ∧ off + cap * 3 ≤ cur.size ∧ (cur.toList.drop off).take (l.length * 3) = entCells l
  · obtain ⟨g, off, cap, cur, rfl, rfl, hg, hr, hm, hs, ht⟩ := hroom
    have hfit : off + l.length * 3 + (entCells [e]).length ≤ cur.toList.length := by rw [hlen, show cur.toList.length = cur.size from Array.length_toList]; omega
    have hrun := run_append_seg (P := Try.prog) w 47 ty 45 i0 3 Try.underlying47 hi hz1 g off l.length cap cur 45 hg ⟨vb, 0, none⟩ 1 1 (entCells [e]) hlen hc (entCells_one _) hr (by simpa using hfit)
    refine ⟨_, _, hrun, _, some g, rfl, ⟨by rw [entCells_length], by simp; omega, .inr ⟨g, off, cap, _, by simp, rfl, setRow_heap w g _ _ _ _ hg, by simpa using hr, hm, ?_, ?_⟩⟩, ⟨rfl, rfl, rfl, by simp [World.setRow], fun k _ hk => setRow_other w g k _ (fun e => hk (by rw [e]))⟩, .inl rfl⟩
    · rw [List.size_toArray, length_splice _ _ _ hfit]; simpa using hs
    · refine seg_ext (by rw [entCells_length]) fun j hj => ?_
      rw [List.length_append, List.length_singleton] at hj
      rw [show ((splice cur.toList (off + l.length * 3) (entCells [e])).toArray).toList = splice cur.toList (off + l.length * 3) (entCells [e]) by simp, getElem?_splice _ _ _ hfit, entCells_append]
      by_cases h1 : j < l.length * 3
      · rw [if_pos (by omega), List.getElem?_append_left (by rw [entCells_length]; exact h1), seg_get ht j h1]
      · rw [if_neg (by omega), if_pos (by rw [hlen]; omega), List.getElem?_append_right (by rw [entCells_length]; omega), entCells_length]
        congr 1; omega
  · obtain ⟨la, cap, hlv⟩ := h.form
    have hcap : cap < l.length + 1 ∧ (la = none → l.length = 0 ∧ cap = 0) ∧ (∀ b, la = some b → ∀ j u, (entCells l)[j]? = some u → w.cell? (b.add j) = some u) := by
      rcases h.2.2 with ⟨h1, h2, h3⟩ | ⟨g, off, cap', cur, h1, h2, h3, h4, h5, h6, h7⟩
      · rw [h1] at hlv; injection hlv with e1 e2 e3; subst e1 e3
        exact ⟨by omega, fun _ => ⟨h2, rfl⟩, fun b hb => nomatch hb⟩
      · rw [h1] at hlv; cases hlv
        refine ⟨?_, (fun hb => nomatch hb), fun b hb j u hj => ?_⟩
        · rcases Nat.lt_or_ge cap (l.length + 1) with h8 | h8
          · exact h8
          · exact absurd ⟨g, off, cap, cur, h1, h2, h3, h8, h5, h6, h7⟩ hroom
        · cases hb
          have hjl : j < l.length * 3 := by
            rcases Nat.lt_or_ge j (l.length * 3) with h9 | h9
            · exact h9
            · rw [List.getElem?_eq_none (by rw [entCells_length]; exact h9)] at hj; cases hj
          rw [Addr.add_lit, row_cell h3 h7 j hjl, hj]
    have hrun := run_append_new (P := Try.prog) w 47 ty 45 i0 _ 3 24 Try.underlying47 hi hz0 hz1 hz2 lv l.length cap la hlv (entCells l) (entCells_length l) hcap.2.2 hcap.2.1 ⟨vb, 0, none⟩ 1 1 (entCells [e]) hlen hc hcap.1 (by omega) (by omega) (by omega)
    have hge := grownCap_ge w (l.length + 1) cap 45
    refine ⟨_, _, hrun, _, some w.heap.size, rfl, ⟨by rw [entCells_length], by simp; omega, .inr ⟨w.heap.size, 0, _, _, by simp, rfl, heap_alloc_new w.drew _, by simpa using hge, grownCap_maxLen w (l.length + 1) cap 45 (by omega), ?_, ?_⟩⟩, ⟨rfl, rfl, rfl, by simp, fun k hk _ => heap_alloc_old w.drew _ hk⟩, .inr ⟨_, rfl, Nat.le_refl _⟩⟩
    · simp only [Array.size_append, List.size_toArray, size_zeroCells, entCells_length, List.length_singleton]
      simp [Value.cells]; omega
    · rw [List.drop_zero]
      refine hfin _ ?_ ?_
      · simp [entCells_length]
      · simp [entCells_length, hlen]

set_option maxHeartbeats 1000000 in
theorem insert_end (w : World) (lv : Value) (l : List (Int × Int × Int)) (sb : Option Nat) (vb : Nat) (e : Int × Int × Int) (h : RowAt w 45 3 lv l.length (entCells l) sb) (hn : l.length ≤ 1000000)
    (hv : w.heap[vb]? = some (.cells #[.int .i64 e.1, .int .i64 e.2.1, .int .i64 e.2.2] 45 (0, 0))) :
    Calls Try.prog 21 #[lv, .int .i64 l.length, .slice (some ⟨vb, 0, none⟩) 1 1] w (Inserted sb (l ++ [e]) w) := by
  obtain ⟨lv', w', hrun, hins⟩ := append_ent w 47 lv l sb vb e h hn hv
  have HI := Lib.hid hins
  have hform : (lv = .slice none 0 0 ∧ l.length = 0) ∨ ∃ g off cap, lv = .slice (some ⟨g, off, none⟩) l.length cap ∧ l.length ≤ cap := by
    rcases h.2.2 with ⟨h1, h2, _⟩ | ⟨g, off, cap, cur, h1, _, _, h2, _⟩
    · exact .inl ⟨h1, h2⟩
    · exact .inr ⟨g, off, cap, h1, h2⟩
  clear h hv hins
  generalize hnn : l.length = n at *
  have HN := Lib.hid hnn
  clear hnn
  rcases hform with ⟨rfl, rfl⟩ | ⟨g, off, cap, rfl, hle⟩
  · go_enter Try.func21, Try.ntmps21
    go_wp2_with (at_builtin; refine wpList_run (by rfl) (exec_append _ _ _ _ (by rfl) _ _ (by rfl) (by rfl) hrun) ?_)
    go_ret
    exact HI.out
  · rcases Nat.lt_or_ge n cap with hc | hc
    · go_enter Try.func21, Try.ntmps21
      go_wp2_with (at_builtin; refine wpList_run (by rfl) (exec_append _ _ _ _ (by rfl) _ _ (by rfl) (by rfl) hrun) ?_)
      all_goals (go_ret; exact HI.out)
    · obtain rfl : cap = n := by omega
      go_enter Try.func21, Try.ntmps21
      go_wp2_with (at_builtin; refine wpList_run (by rfl) (exec_append _ _ _ _ (by rfl) _ _ (by rfl) (by rfl) hrun) ?_)
      all_goals (go_ret; exact HI.out)

end Go.Proofs.Ytcplimefklnknaa
