/- timeouts: its data. -/
import Derived.Test.YtkpjjhiighakfaaGreatDoorB13
namespace Go.Proofs.YtkpjjhiighakfaaGreatDoor
open Go.RowKit

def CS.del (S : CS) (k : Int) : CS := { S with open_ := S.open_.filter (fun x => decide (x.1 ≠ k)) }
def toStep (now : Int) (st : CS × List Ac) (o : Int × Int × Cx) : CS × List Ac :=
  if st.1.over || decide (now - o.2.1 < st.1.p.tmo) then st else ((st.1.del o.1).failS now 37 0, st.2 ++ [⟨4, 0, o.2.2, 37⟩])
/-- What drops the attempts that took too long. -/
def CS.toS (S : CS) (now : Int) : CS × List Ac := S.open_.foldl (toStep now) (S, [])

theorem CS.Ok.del {S : CS} (h : S.Ok) (k : Int) : (S.del k).Ok :=
  { h with
    keys := h.keys.sublist (List.filter_sublist.map _)
    keyb := fun x hx => h.keyb x (List.mem_filter.1 hx).1
    ats := fun x hx => h.ats x (List.mem_filter.1 hx).1 }

theorem at_bd {S : CS} (h : S.Ok) (hm : 1 ≤ S.made) {now not_ : Int} (hn : -1000000000 ≤ now ∧ now ≤ 1000000) (ht : -1000000000 ≤ not_ ∧ not_ ≤ 1000000) : -1000000000 ≤ S.at_ now not_ ∧ S.at_ now not_ ≤ 1000000000 := by
  have := back_bd h.back ⟨hm, h.made.2⟩
  unfold CS.at_; omega

theorem CS.Ok.again {S : CS} (h : S.Ok) (hm : 1 ≤ S.made) {now not_ : Int} (hn : -1000000000 ≤ now ∧ now ≤ 1000000) (ht : -1000000000 ≤ not_ ∧ not_ ≤ 1000000) : (S.againS now not_).Ok := by
  unfold CS.againS
  split
  · exact h
  · split
    · exact h
    · exact { h with dueAt := fun _ => at_bd h hm hn ht }

theorem CS.Ok.fail {S : CS} (h : S.Ok) (hm : 1 ≤ S.made) {now e not_ : Int} (hn : -1000000000 ≤ now ∧ now ≤ 1000000) (ht : -1000000000 ≤ not_ ∧ not_ ≤ 1000000) : (S.failS now e not_).Ok := by
  unfold CS.failS
  split
  · exact { h with }
  · split
    · exact CS.Ok.again (S := { S with last := e }) { h with } hm hn ht
    · split
      · exact { h with }
      · exact { h with }

theorem againS_same (S : CS) (now not_ : Int) : (S.againS now not_).open_ = S.open_ ∧ (S.againS now not_).p = S.p ∧ (S.againS now not_).c = S.c ∧ (S.againS now not_).made = S.made ∧ (S.againS now not_).left = S.left := by
  unfold CS.againS
  split
  · exact ⟨rfl, rfl, rfl, rfl, rfl⟩
  · split <;> exact ⟨rfl, rfl, rfl, rfl, rfl⟩
theorem failS_same (S : CS) (now e not_ : Int) : (S.failS now e not_).open_ = S.open_ ∧ (S.failS now e not_).p = S.p ∧ (S.failS now e not_).c = S.c ∧ (S.failS now e not_).made = S.made ∧ (S.failS now e not_).left = S.left := by
  unfold CS.failS
  split
  · exact ⟨rfl, rfl, rfl, rfl, rfl⟩
  · split
    · exact againS_same { S with last := e } now not_
    · split <;> exact ⟨rfl, rfl, rfl, rfl, rfl⟩

end Go.Proofs.YtkpjjhiighakfaaGreatDoor
