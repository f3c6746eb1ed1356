/- timeouts. -/
import Derived.Test.YtkpjjhiighakfaaGreatDoorB14
namespace Go.Proofs.YtkpjjhiighakfaaGreatDoor
open Go.RowKit
attribute [local go_sem ↓] Go.wp_at_zero Go.wp_at_succ

theorem mdel_filter : ∀ (m : List (Int × Value)) (k : Int), (m.map (·.1)).Nodup → mdel m k = m.filter (fun p => decide (p.1 ≠ k))
  | [], _, _ => rfl
  | p :: m, k, h => by
    rw [List.map_cons, List.nodup_cons] at h
    rw [mdel_cons]
    by_cases hk : p.1 = k
    · rw [if_pos hk, List.filter_cons_of_neg (by simpa using hk)]
      refine (List.filter_eq_self.2 fun x hx => ?_).symm
      have : x.1 ≠ k := fun e => h.1 (List.mem_map.2 ⟨x, hx, e.trans hk.symm⟩)
      simpa using this
    · rw [if_neg hk, List.filter_cons_of_pos (by simpa using hk), mdel_filter m k h.2]
theorem mget_mem {m : List (Int × Value)} {k : Int} {v : Value} (hn : (m.map (·.1)).Nodup) (h : (k, v) ∈ m) : mget m k = some v := by
  induction m with
  | nil => cases h
  | cons p m ih =>
    rw [List.map_cons, List.nodup_cons] at hn
    rw [mget_cons]
    rcases List.mem_cons.1 h with e | h
    · subst e; rw [if_pos rfl]
    · rw [if_neg (fun e => hn.1 (List.mem_map.2 ⟨(k, v), h, e.symm⟩))]
      exact ih hn.2 h

/-- What the loop knows. -/
structure ToInv (w0 : Base) (wr : World) (cb mb bb lb : Nat) (S : CS) (B : Bk) (L : List Ac) (now : Int) (i : Nat) (st : CS × List Ac) : Prop where
  eq : (S.open_.take i).foldl (toStep now) (S, []) = st
  cw : CW w0 wr cb mb bb lb st.1 B (L ++ st.2)
  ok : st.1.Ok
  made : st.1.made = S.made
  pol : st.1.p = S.p
  here : ∀ j o, i ≤ j → S.open_[j]? = some o → o ∈ st.1.open_
  len : st.2.length ≤ i

theorem ToInv.stay {w0 : Base} {wr w' : World} {cb mb bb lb : Nat} {S : CS} {B : Bk} {L : List Ac} {now : Int} {i : Nat} {st : CS × List Ac} {o : Int × Int × Cx} (h : ToInv w0 wr cb mb bb lb S B L now i st) (ho : S.open_[i]? = some o) (hb : Below wr.heap.size wr w')
    (hs : (st.1.over || decide (now - o.2.1 < st.1.p.tmo)) = true) : ToInv w0 w' cb mb bb lb S B L now (i + 1) st := by
  obtain ⟨h1, h2, h3, h4, h5, h6, h7⟩ := h
  refine ⟨?_, h2.keep hb, h3, h4, h5, fun j o' hj ho' => h6 j o' (by omega) ho', by omega⟩
  rw [List.take_add_one, ho, List.foldl_append, h1]
  show toStep now st o = st
  unfold toStep; rw [if_pos hs]

theorem ToInv.drop {w0 : Base} {wr w' : World} {cb mb bb lb : Nat} {S : CS} {B : Bk} {L : List Ac} {now : Int} {i : Nat} {st : CS × List Ac} {o : Int × Int × Cx} (h : ToInv w0 wr cb mb bb lb S B L now i st) (hok : S.Ok) (ho : S.open_[i]? = some o) (hn : -1000000000 ≤ now ∧ now ≤ 1000000)
    (hs : (st.1.over || decide (now - o.2.1 < st.1.p.tmo)) = false) (hc : CW w0 w' cb mb bb lb ((st.1.del o.1).failS now 37 0) B (L ++ st.2 ++ [⟨4, 0, o.2.2, 37⟩])) :
    ToInv w0 w' cb mb bb lb S B L now (i + 1) ((st.1.del o.1).failS now 37 0, st.2 ++ [⟨4, 0, o.2.2, 37⟩]) := by
  obtain ⟨h1, h2, h3, h4, h5, h6, h7⟩ := h
  have hom := List.mem_of_getElem? ho
  have hm : 1 ≤ st.1.made := by have := hok.keyb o hom; omega
  obtain ⟨f1, f2, f3, f4, f5⟩ := failS_same (st.1.del o.1) now 37 0
  refine ⟨?_, by rw [← List.append_assoc]; exact hc, CS.Ok.fail (e := 37) (not_ := 0) (h3.del o.1) hm hn ⟨by omega, by omega⟩, f4.trans h4, f2.trans h5, fun j o' hj ho' => ?_, by rw [List.length_append]; exact Nat.succ_le_succ h7⟩
  · rw [List.take_add_one, ho, List.foldl_append, h1]
    show toStep now st o = _
    unfold toStep; rw [if_neg (by rw [hs]; decide)]
  · rw [f1]
    refine List.mem_filter.2 ⟨h6 j o' (by omega) ho', ?_⟩
    have : o'.1 ≠ o.1 := fun e => by
      have hk := hok.keys
      rw [List.pairwise_map, List.pairwise_iff_getElem] at hk
      obtain ⟨hi, e1⟩ := List.getElem?_eq_some_iff.1 ho
      obtain ⟨hj', e2⟩ := List.getElem?_eq_some_iff.1 ho'
      have := hk i j hi hj' (by omega)
      rw [e1, e2] at this; omega
    simpa using this

end Go.Proofs.YtkpjjhiighakfaaGreatDoor
