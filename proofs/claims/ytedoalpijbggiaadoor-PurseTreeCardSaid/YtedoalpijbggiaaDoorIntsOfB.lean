/- Walks: Ints of the references: the first numbers of a slice that came in, as a slice of one's own. -/
import Derived.Test.YtedoalpijbggiaaDoorArgB
namespace Go.Proofs.YtedoalpijbggiaaDoor
open Go.RowKit
attribute [local go_sem ↓] Go.wp_at_zero Go.wp_at_succ

def IntsPost (w : World) (l : List Int) (e : Ending) (w' : World) : Prop :=
  ∃ v sb, e = .returned v ∧ IntsAt w' v l sb ∧ (∀ g, sb = some g → w.heap.size ≤ g) ∧ Below w.heap.size w w'

theorem ints_any {w : World} {A : Option Addr} {n c : Nat} {l : List Int} (h : ArgInts w A n l) (hc : n ≤ c) (most : Nat) (hm : most ≤ 1000000) :
    Calls Tryd.prog 28 #[.slice A n c, .int .i64 most] w (IntsPost w (l.take most)) := by
  obtain ⟨h0, h1, h2, h3⟩ := h
  obtain ⟨k, hk⟩ : ∃ k, k = min n most := ⟨_, rfl⟩
  have hkl : (l.take most).length = k := by rw [List.length_take, h0, hk, Nat.min_comm]
  have hmin : min (n : Int) (most : Int) = (k : Int) := by rw [hk]; omega
  have b0 : (0 : Int) ≤ (k : Int) := by omega
  have b1 : (k : Int) ≤ (c : Int) := by omega
  rcases Nat.eq_zero_or_pos k with hk0 | hk0
  · subst hk0
    have hl0 : l.take most = [] := List.eq_nil_of_length_eq_zero hkl
    rw [hl0]
    have hap : ∀ (u : Option Addr) (d : Nat), (Builtin.append_ #[22, 22] 22 #[.slice none 0 0, .slice u 0 d]).run Tryd.prog w = .ok (.slice none 0 0) w := fun u d =>
      run_append_zero w 22 22 3 Tryd.underlying22 (by have := infoInt; cases hq : Tryd.prog.info? 3 <;> simp [hq] at this ⊢) none u 0 0 d (Nat.le_refl _)
    clear h0 h1 h2 h3 hkl hl0
    clear hmin b0
    by_cases hmn : most < n
    · obtain rfl : most = 0 := by omega
      clear hk
      go_enter Tryd.func28, Tryd.ntmps28
      go_wp2_with (at_builtin; refine wpList_run (by rfl) (exec_append _ _ _ _ (by rfl) _ _ (by rfl) (by rfl) (hap _ _)) ?_)
      go_ret
      exact ⟨_, none, rfl, RowAt.nil _ _ _, fun g hg => (nomatch hg), Below.refl _ _⟩
    · obtain rfl : n = 0 := by omega
      clear hk
      go_enter Tryd.func28, Tryd.ntmps28
      go_wp2_with (at_builtin; refine wpList_run (by rfl) (exec_append _ _ _ _ (by rfl) _ _ (by rfl) (by rfl) (hap _ _)) ?_)
      go_ret
      exact ⟨_, none, rfl, RowAt.nil _ _ _, fun g hg => (nomatch hg), Below.refl _ _⟩
  · rcases h3 with h3 | ⟨b, off, rfl, hcell⟩
    · omega
    · obtain ⟨la, lc, sb, w', hap, hrow, hgr, hsb, hsn⟩ := row_append (P := Tryd.prog) w 22 22 3 (.int .i64 0) 1 8 Tryd.underlying22 infoInt rfl (RowAt.nil w 3 1) ⟨b, off, none⟩ k c (intCells (l.take most)) (by rw [intCells_length, hkl]; omega)
        (fun j u hj => by
          rw [intCells_get] at hj
          have hj' : j < (l.take most).length := by
            rcases Nat.lt_or_ge j (l.take most).length with h | h
            · exact h
            · rw [List.getElem?_eq_none h] at hj; cases hj
          rw [List.getElem?_eq_getElem hj', List.getElem_take] at hj
          rw [Addr.add_lit, hcell j (by rw [hkl] at hj'; omega)]
          simpa using hj)
        (intCells_one _) hk0 (by omega) (by omega)
      rw [Nat.zero_add] at hap hrow
      have hfin : IntsPost w (l.take most) (.returned (.slice la k lc)) w' :=
        ⟨_, sb, rfl, by unfold IntsAt; rw [hkl]; simpa using hrow, fun g hg => by rcases hsb with h | h <;> rw [h] at hg <;> cases hg; exact Nat.le_refl _, ⟨hgr.os, hgr.tape, hgr.output, hgr.size, fun j hj => hgr.block j hj (fun e => by cases e)⟩⟩
      have HFIN := Lib.hid hfin
      clear h0 h1 h2 hcell hkl hrow hgr hsb hsn hfin hmin
      by_cases hmn : most < n
      · obtain rfl : k = most := by omega
        clear hk
        go_enter Tryd.func28, Tryd.ntmps28
        go_wp2_with (at_builtin; refine wpList_run (by rfl) (exec_append _ _ _ _ (by rfl) _ _ (by rfl) (by rfl) (hap)) ?_)
        go_ret
        exact HFIN.out
      · obtain rfl : k = n := by omega
        clear hk
        go_enter Tryd.func28, Tryd.ntmps28
        go_wp2_with (at_builtin; refine wpList_run (by rfl) (exec_append _ _ _ _ (by rfl) _ _ (by rfl) (by rfl) (hap)) ?_)
        go_ret
        exact HFIN.out

end Go.Proofs.YtedoalpijbggiaaDoor
