/- Another base for the world while something is done. -/
import Derived.Test.YtkpjjhiighakfaaGreatDoorB15
namespace Go.Proofs.YtkpjjhiighakfaaGreatDoor
open Go.RowKit

/-- From here on: its own blocks, the box and the row of what is told. -/
theorem CW.here {w0 : Base} {wi : World} {cb mb bb lb : Nat} {S : CS} {B : Bk} {L : List Ac} (h : CW w0 wi cb mb bb lb S B L) :
    ∃ P : Nat → Prop, CW ⟨wi, P⟩ wi cb mb bb lb S B L ∧ (∀ k, P k → k < wi.heap.size ∧ (w0.P k ∨ w0.w.heap.size ≤ k)) := by
  obtain ⟨h1, h2, ⟨v, sb, h3, h4, h5⟩, h6, h6', h7, h8⟩ := h
  have hlw : lb < wi.heap.size := (Array.getElem?_eq_some_iff.1 h3).1
  have hbw : bb < wi.heap.size := (Array.getElem?_eq_some_iff.1 h2).1
  refine ⟨fun k => CFoot cb mb bb k ∨ k = lb ∨ sb = some k, ⟨h1, h2, ⟨v, sb, h3, h4, fun g hg => ⟨.inl (.inr (.inr hg)), (h5 g hg).2⟩⟩, ⟨.inl (.inr (.inl rfl)), h6.2⟩, ⟨.inl (.inl rfl), .inl (.inr (.inl rfl)), .inl (.inr (.inr rfl))⟩, h7, Fr.refl _ _⟩, ?_⟩
  rintro k ((rfl | rfl | rfl) | rfl | hk)
  · exact ⟨h1.lt.1, .inl h6'.1⟩
  · exact ⟨h1.lt.2, .inl h6'.2.1⟩
  · exact ⟨hbw, .inl h6'.2.2⟩
  · exact ⟨hlw, h6.1⟩
  · exact ⟨h4.lt k hk, (h5 k hk).1⟩

/-- The same, at a later world that has written nothing old: blocks made in between are none of these. -/
theorem CW.here' {w0 : Base} {wi w1 : World} {cb mb bb lb : Nat} {S : CS} {B : Bk} {L : List Ac} (h : CW w0 wi cb mb bb lb S B L) (hb : Below wi.heap.size wi w1) :
    ∃ P : Nat → Prop, CW ⟨w1, P⟩ w1 cb mb bb lb S B L ∧ (∀ k, P k → k < wi.heap.size ∧ (w0.P k ∨ w0.w.heap.size ≤ k)) := by
  obtain ⟨h1, h2, ⟨v, sb, h3, h4, h5⟩, h6, h6', h7, h8⟩ := h
  have hlw : lb < wi.heap.size := (Array.getElem?_eq_some_iff.1 h3).1
  have hbw : bb < wi.heap.size := (Array.getElem?_eq_some_iff.1 h2).1
  refine ⟨fun k => CFoot cb mb bb k ∨ k = lb ∨ sb = some k, ⟨h1.below hb, (hb.block _ hbw).trans h2, ⟨v, sb, (hb.block _ hlw).trans h3, h4.keep hb, fun g hg => ⟨.inl (.inr (.inr hg)), (h5 g hg).2⟩⟩, ⟨.inl (.inr (.inl rfl)), h6.2⟩, ⟨.inl (.inl rfl), .inl (.inr (.inl rfl)), .inl (.inr (.inr rfl))⟩, h7, Fr.refl _ _⟩, ?_⟩
  rintro k ((rfl | rfl | rfl) | rfl | hk)
  · exact ⟨h1.lt.1, .inl h6'.1⟩
  · exact ⟨h1.lt.2, .inl h6'.2.1⟩
  · exact ⟨hbw, .inl h6'.2.2⟩
  · exact ⟨hlw, h6.1⟩
  · exact ⟨h4.lt k hk, (h5 k hk).1⟩

/-- Back to the elder base. -/
theorem CW.back {w0 : Base} {w1 w2 : World} {P : Nat → Prop} {cb mb bb lb : Nat} {S S' : CS} {B B' : Bk} {L L' : List Ac} (h : CW w0 w1 cb mb bb lb S B L) (hP : ∀ k, P k → w0.P k ∨ w0.w.heap.size ≤ k) (k : CW ⟨w1, P⟩ w2 cb mb bb lb S' B' L') : CW w0 w2 cb mb bb lb S' B' L' := by
  obtain ⟨k1, k2, ⟨v, sb, k3, k4, k5⟩, _, _, k7, k8⟩ := k
  have hs := h.fr.size
  refine ⟨k1, k2, ⟨v, sb, k3, k4, fun g hg => ⟨?_, (k5 g hg).2⟩⟩, h.old, h.own, k7, h.fr.trans k8 (fun b hb => hP b hb)⟩
  rcases (k5 g hg).1 with h1 | h1
  · exact hP g h1
  · exact .inr (Nat.le_trans hs h1)

end Go.Proofs.YtkpjjhiighakfaaGreatDoor
