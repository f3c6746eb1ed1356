/- A region that draws its order and ends in a forced tail: the head draws, the tail goes as it stands. -/
import Derived.Test.YtedoalpijbggiaaDoorBase
import Derived.StillTail
import Derived.Deep.RegionHeld3
namespace Go.Proofs.YtedoalpijbggiaaDoor
open Go.RowKit

section
variable {P : Program} {md : Region.Mode}

theorem wpAny_more {ops : Array Oper} {Q : Exit → Act → World → Prop} : ∀ (f : Nat) (listed : Array Bool) (a : Act) (w : World), wpAny P md ops Q f listed a w → wpAny P md ops Q (f + 1) listed a w
  | 0, _, _, _, h => wpAny_done h.1 h.2 _
  | f + 1, _, _, _, h => ⟨h.1, fun i hi => wpOp_mono (fun a' w' h' => wpAny_more f _ a' w' h') (h.2 i hi)⟩

theorem wpAny_plus {ops : Array Oper} {Q : Exit → Act → World → Prop} (k f : Nat) (listed : Array Bool) (a : Act) (w : World) (h : wpAny P md ops Q f listed a w) : wpAny P md ops Q (k + f) listed a w := by
  induction k with
  | zero => rw [Nat.zero_add]; exact h
  | succ k ih => rw [show k + 1 + f = (k + f) + 1 by omega]; exact wpAny_more _ _ _ _ ih

/-- What Oper.wp asks of the post beyond what follows. -/
theorem oper_wp_post {o : Oper} {a : Act} {w : World} {K : Act → World → Prop} {Q Q' : Exit → Act → World → Prop} (hp : ∀ c a w, Q (.panic c) a w → Q' (.panic c) a w) (ho : ∀ a w, Q .outgrown a w → Q' .outgrown a w)
    (h : o.wp P a w K Q) : o.wp P a w K Q' := by
  unfold Oper.wp at *
  generalize (execOp a.eval o).run P w = r at *
  have hl : LetsOut Q → LetsOut Q' := fun ⟨a, w, q⟩ => ⟨a, w, ho _ _ q⟩
  cases r with
  | ok n w' =>
    cases n <;> simp only [Oper.upon] at h ⊢ <;>
      first
        | exact h
        | exact Calls.mono h (fun e w'' he => by cases e <;> first | exact he | exact hp _ _ _ he | exact hl he)
  | halt x w' => cases x <;> simp only [Oper.upon] at h ⊢ <;> first | exact h | exact hp _ _ _ h

/-- The tail's first waits for all of the head; the head's edges and guards lead backwards. -/
def headB (l : List Oper) (n : Nat) : Bool :=
  decide (n < l.length) &&
  ((List.range n).all fun i => match l[i]? with
    | some o => (o.after.toList.all fun e => !Region.binds .any e || decide (e.on < i)) && (match o.guard with | some (g, _) => decide (g < n) | none => true)
    | none => false) &&
  Region.sinkB .any l.toArray n && Region.chainB .any l.toArray n &&
  Region.seqB .any l.toArray (l.length - n) n (Array.replicate n true ++ Array.replicate (l.length - n) false)

/-- How the two lists of what has come up hang together. -/
structure Marks (l : List Oper) (n : Nat) (lh lf : Array Bool) : Prop where
  sh : lh.size = n
  sf : lf.size = l.length
  same : ∀ j, j < n → lh[j]? = lf[j]?
  rest : ∀ j, n ≤ j → j < l.length → lf[j]? = some false

theorem Marks.getF {l : List Oper} {n : Nat} {lh lf : Array Bool} (m : Marks l n lh lf) (j : Nat) : lh.getD j false = lf.getD j false := by
  simp only [Array.getD_eq_getD_getElem?]
  by_cases h : j < n
  · rw [m.same j h]
  · rw [Array.getElem?_eq_none (by rw [m.sh]; omega)]
    by_cases h2 : j < l.length
    · rw [m.rest j (by omega) h2]; rfl
    · rw [Array.getElem?_eq_none (by rw [m.sf]; omega)]

theorem Marks.getT {l : List Oper} {n : Nat} {lh lf : Array Bool} (m : Marks l n lh lf) (j : Nat) (h : j < n) : lh.getD j true = lf.getD j true := by
  simp only [Array.getD_eq_getD_getElem?, m.same j h]

theorem Marks.set {l : List Oper} {n : Nat} {lh lf : Array Bool} (m : Marks l n lh lf) (i : Nat) (h : i < n) : Marks l n (lh.setIfInBounds i true) (lf.setIfInBounds i true) := by
  refine ⟨by simp [m.sh], by simp [m.sf], fun j hj => ?_, fun j hj hj' => ?_⟩
  · simp only [Array.getElem?_setIfInBounds, m.same j hj]
    by_cases e : i = j
    · subst e
      have h1 : i < lh.size := by rw [m.sh]; exact h
      have h2 : i < lf.size := by
        have := m.same i h
        rw [Array.getElem?_eq_getElem h1] at this
        exact (Array.getElem?_eq_some_iff.1 this.symm).1
      simp [h1, h2]
    · simp [e]
  · rw [Array.getElem?_setIfInBounds_ne (by omega)]; exact m.rest j hj hj'

theorem wpAny_split {l : List Oper} {n : Nat} {Q Q0 : Exit → Act → World → Prop} (hB : headB l n = true) (hp : ∀ c a w, Q0 (.panic c) a w → Q (.panic c) a w) (ho : ∀ a w, Q0 .outgrown a w → Q .outgrown a w)
    (hn : ∀ a w, Q0 .normal a w → wpList P l.toArray Q (l.drop n) a w) :
    ∀ (f : Nat) (lh lf : Array Bool) (a : Act) (w : World), Marks l n lh lf → HeadInv .any l.toArray n lf → wpAny P .any (l.take n).toArray Q0 f lh a w → wpAny P .any l.toArray Q (f + (l.length - n)) lf a w := by
  simp only [headB, Bool.and_eq_true, decide_eq_true_eq] at hB
  obtain ⟨⟨⟨⟨hlen, hback⟩, hs⟩, hc⟩, hseq⟩ := hB
  have hget : ∀ i, i < n → (l.take n).toArray[i]? = l.toArray[i]? := fun i hi => by simp [hi]
  -- nothing of the head may come up: all of it has come up
  have hall : ∀ (lh lf : Array Bool), Marks l n lh lf → Region.ready .any (l.take n).toArray lh = [] → ∀ i, i < n → lh.getD i true = true := by
    intro lh lf m hr i
    induction i using Nat.strongRecOn with
    | _ i ih =>
      intro hi
      cases hl : lh.getD i true with
      | true => rfl
      | false =>
        exfalso
        have hb := List.all_eq_true.1 hback i (List.mem_range.2 hi)
        have hli : l[i]? = some l[i] := List.getElem?_eq_getElem (by omega)
        rw [hli] at hb
        simp only [Bool.and_eq_true, List.all_eq_true, Bool.or_eq_true, decide_eq_true_eq] at hb
        have : i ∈ Region.ready .any (l.take n).toArray lh := by
          rw [mem_ready]
          refine ⟨hl, l[i], by rw [hget i hi]; simp, fun e he hbd => ?_⟩
          rcases hb.1 e (Array.mem_toList_iff.2 he) with h1 | h1
          · rw [hbd] at h1; cases h1
          · have h2 := ih e.on h1 (by omega)
            have h3 : e.on < lh.size := by rw [m.sh]; omega
            simp only [Array.getD_eq_getD_getElem?, Array.getElem?_eq_getElem h3, Option.getD_some] at h2 ⊢
            exact h2
        rw [hr] at this; cases this
  -- the tail, once the head is done
  have hdone : ∀ (f : Nat) (lh lf : Array Bool) (a : Act) (w : World), Marks l n lh lf → Region.ready .any (l.take n).toArray lh = [] → Q0 .normal a w → wpAny P .any l.toArray Q (f + (l.length - n)) lf a w := by
    intro f lh lf a w m hr hq
    have hlf : lf = Array.replicate n true ++ Array.replicate (l.length - n) false := by
      apply Array.ext_getElem?
      intro j
      rw [Array.getElem?_append]
      simp only [Array.size_replicate]
      by_cases h : j < n
      · rw [if_pos h, ← m.same j h]
        have h1 := hall lh lf m hr j h
        have h2 : j < lh.size := by rw [m.sh]; exact h
        simp only [Array.getD_eq_getD_getElem?, Array.getElem?_eq_getElem h2, Option.getD_some] at h1
        rw [Array.getElem?_eq_getElem h2, h1]; simp [h]
      · rw [if_neg h]
        by_cases h2 : j < l.length
        · rw [m.rest j (by omega) h2, Array.getElem?_replicate, if_pos (by omega)]
        · rw [Array.getElem?_eq_none (by rw [m.sf]; omega)]; simp; omega
    refine wpAny_plus f _ _ _ _ ?_
    have hdl : (l.drop n).length = l.length - n := by simp
    rw [hlf, ← hdl]
    exact wpAny_of_seq (md := .any) (l.drop n) n _ a w (fun j => by simp [List.getElem?_drop]) (by rw [hdl]; exact hseq) (hn a w hq)
  intro f
  induction f with
  | zero => intro lh lf a w m _ h; exact hdone 0 lh lf a w m h.1 h.2
  | succ f ih =>
    intro lh lf a w m inv h
    by_cases hr : Region.ready .any (l.take n).toArray lh = []
    · exact hdone (f + 1) lh lf a w m hr (h.1 hr)
    · -- some of the head is left
      obtain ⟨i0, hi0⟩ := List.exists_mem_of_ne_nil _ hr
      obtain ⟨hu0, o0, ho0, _⟩ := mem_ready.1 hi0
      have hi0n : i0 < n := by
        have := (Array.getElem?_eq_some_iff.1 ho0).1
        simp at this; omega
      have hready : ∀ i, i ∈ Region.ready .any l.toArray lf → i < n ∧ i ∈ Region.ready .any (l.take n).toArray lh := by
        intro i hi
        have hin : i < n := by
          rcases Nat.lt_or_ge i n with h | h
          · exact h
          · exact absurd hi (tail_waits hs hc (by simpa using hlen) inv _ i0 rfl hi0n (by rw [← m.getT i0 hi0n]; exact hu0) i h)
        refine ⟨hin, ?_⟩
        obtain ⟨h1, o, h2, h3⟩ := mem_ready.1 hi
        exact mem_ready.2 ⟨by rw [m.getT i hin]; exact h1, o, by rw [hget i hin]; exact h2, fun e he hb => by rw [m.getF]; exact h3 e he hb⟩
      have hready' : ∀ i, i ∈ Region.ready .any (l.take n).toArray lh → i ∈ Region.ready .any l.toArray lf := by
        intro i hi
        obtain ⟨h1, o, h2, h3⟩ := mem_ready.1 hi
        have hin : i < n := by
          have := (Array.getElem?_eq_some_iff.1 h2).1
          simp at this; omega
        exact mem_ready.2 ⟨by rw [← m.getT i hin]; exact h1, o, by rw [← hget i hin]; exact h2, fun e he hb => by rw [← m.getF]; exact h3 e he hb⟩
      rw [show f + 1 + (l.length - n) = (f + (l.length - n)) + 1 by omega]
      refine ⟨fun h0 => ?_, fun i hi => ?_⟩
      · have := hready' i0 hi0; rw [h0] at this; cases this
      · obtain ⟨hin, hih⟩ := hready i hi
        have h2 := h.2 i hih
        have h3 := wpOp_mono (fun a' w' h' => ih _ (lf.setIfInBounds i true) a' w' (m.set i hin) (inv.set hi hin) h') h2
        have hli : l.toArray[i]? = some l[i] := by simp
        unfold wpOp at h3 ⊢
        rw [hget i hin, hli] at h3
        rw [hli]
        have hw : Region.wanted l[i] (yielded (l.take n).toArray a.tmps) = Region.wanted l[i] (yielded l.toArray a.tmps) := by
          have hb := List.all_eq_true.1 hback i (List.mem_range.2 hin)
          rw [List.getElem?_eq_getElem (l := l) (i := i) (by omega)] at hb
          simp only [Bool.and_eq_true] at hb
          unfold Region.wanted
          cases hg : l[i].guard with
          | none => rfl
          | some gw =>
            obtain ⟨g, want⟩ := gw
            rw [hg] at hb
            have hgn : g < n := by simpa using hb.2
            have : yielded (l.take n).toArray a.tmps g = yielded l.toArray a.tmps g := by unfold yielded; rw [hget g hgn]
            simp only [this]
        simp only [hw] at h3
        simp only
        split
        · rename_i hwt
          rw [if_pos hwt] at h3
          refine h3.imp (fun h => oper_wp_post hp ho h) (fun ⟨h1, a, w, q⟩ => ⟨h1, a, w, ho _ _ q⟩)
        · rename_i hwt
          rw [if_neg hwt] at h3
          exact h3

/-- THE LAW: walk the head as a region of its own; the tail stands behind it as a list of operations. -/
theorem wp_region_split {id : Nat} {l : List Oper} (n : Nat) {K : Act → World → Prop} {Q' : Exit → Act → World → Prop} {a : Act} {w : World} (hm : P.follows .mixedOrders = true) (hB : headB l n = true)
    (h : ∀ K0 : Act → World → Prop, (∀ a w, wpList P l.toArray (Exit.then K Q') (l.drop n) a w → K0 a w) → wpAny P .any (l.take n).toArray (Exit.then K0 Q') (l.take n).toArray.size (Array.replicate (l.take n).toArray.size false) a { w with drawn := w.drawn + 1 }) :
    (Code.region id l.toArray true).wp P (Exit.then K Q') a w := by
  have hB' := hB
  simp only [headB, Bool.and_eq_true, decide_eq_true_eq] at hB'
  have hlen := hB'.1.1.1.1
  have hsz : (l.take n).toArray.size = n := by simp; omega
  refine wp_region_any hm ?_
  have := wpAny_split (P := P) (Q := Exit.then K Q') (Q0 := Exit.then (fun a w => wpList P l.toArray (Exit.then K Q') (l.drop n) a w) Q') hB (fun _ _ _ q => q) (fun _ _ q => q) (fun _ _ q => q)
    n (Array.replicate (l.take n).toArray.size false) (Array.replicate l.toArray.size false) a { w with drawn := w.drawn + 1 } ⟨by simp; omega, by simp, fun j hj => ?_, fun j hj hj' => ?_⟩
    ⟨by simp, fun j oj _ hl => (by rw [getD_replicate_false] at hl; cases hl), fun t _ ht => getD_in (by simpa using ht) (getD_replicate_false _ _)⟩
    (by have := h _ (fun _ _ q => q); rw [hsz] at this ⊢; exact this)
  · rw [show n + (l.length - n) = l.toArray.size by simp; omega] at this
    exact this
  · rw [Array.getElem?_replicate, Array.getElem?_replicate, if_pos (by rw [hsz]; exact hj), if_pos (by simp; omega)]
  · rw [Array.getElem?_replicate, if_pos (by simpa using hj')]

/-- .. its head under a condition S on worlds (Derived/OrdersHeld.lean). -/
theorem wp_region_split_held {id : Nat} {l : List Oper} (n : Nat) (S : World → Prop) {K : Act → World → Prop} {Q' : Exit → Act → World → Prop} {a : Act} {w : World} (hm : P.follows .mixedOrders = true) (hB : headB l n = true) (hS : S w.drew)
    (h : ∀ K0 : Act → World → Prop, (∀ a w, wpList P l.toArray (Exit.then K Q') (l.drop n) a w → K0 a w) → S w.drew → wpAnyH P .any (l.take n).toArray (Exit.then K0 Q') S (l.take n).toArray.size (Array.replicate (l.take n).toArray.size false) a w.drew) :
    (Code.region id l.toArray true).wp P (Exit.then K Q') a w :=
  wp_region_split n hm hB fun K0 hK0 => wpAny_of_held _ _ _ _ (h K0 hK0 hS)

end
end Go.Proofs.YtedoalpijbggiaaDoor
