/- Two alarms that lie apart; the row behind two Sets in either row. -/
import Derived.Test.YtcplimefklnknaaA16
namespace Go.Proofs.Ytcplimefklnknaa
open Go.RowKit
attribute [local go_sem ↓] Go.wp_at_zero Go.wp_at_succ

/-- Two alarms apart, in blocks that w has not. -/
structure Two (w wi : World) (pa ma pb mb : Nat) (a b : Nat × List Ent) : Prop where
  mem : ∃ sa sb, AlarmW wi pa ma sa a.1 a.2 ∧ AlarmW wi pb mb sb b.1 b.2 ∧ (∀ k, Foot pa ma sa k → w.heap.size ≤ k) ∧ (∀ k, Foot pb mb sb k → w.heap.size ≤ k) ∧ ∀ k, Foot pa ma sa k → ¬ Foot pb mb sb k
  below : Below w.heap.size w wi

theorem Two.swap {w wi : World} {pa ma pb mb : Nat} {a b : Nat × List Ent} (h : Two w wi pa ma pb mb a b) : Two w wi pb mb pa ma b a := by
  obtain ⟨⟨sa, sb, h1, h2, h3, h4, h5⟩, hb⟩ := h
  exact ⟨⟨sb, sa, h2, h1, h4, h3, fun k hk hk' => h5 k hk' hk⟩, hb⟩
theorem Two.keep {w wi w' : World} {pa ma pb mb : Nat} {a b : Nat × List Ent} (h : Two w wi pa ma pb mb a b) (hb' : Below wi.heap.size wi w') : Two w w' pa ma pb mb a b := by
  obtain ⟨⟨sa, sb, h1, h2, h3, h4, h5⟩, hb⟩ := h
  exact ⟨⟨sa, sb, h1.keep (fun k hk => hb'.block k (h1.lt k hk)), h2.keep (fun k hk => hb'.block k (h2.lt k hk)), h3, h4, h5⟩, btrans hb hb'⟩

theorem below_fr {w wi w' : World} {F : Nat → Prop} (hb : Below w.heap.size w wi) (hf : Fr F wi w') (hF : ∀ k, F k → w.heap.size ≤ k) : Below w.heap.size w w' := by
  have hs := hb.size
  exact hb.trans ⟨hf.os, hf.tape, hf.output, hf.size, fun k hk => hf.block k (by omega) (fun h => by have := hF k h; omega)⟩

theorem two_of {w w1 w2 : World} {pa ma pb mb : Nat} {a b : Nat × List Ent} (hb1 : Below w.heap.size w w1) (ha : AlarmIn w1 w.heap.size w1.heap.size pa ma a) (hb : AlarmIn w2 w1.heap.size w2.heap.size pb mb b) (hb2 : Below w1.heap.size w1 w2) : Two w w2 pa ma pb mb a b := by
  have ha2 := ha.keep hb2
  obtain ⟨sa, h1, h2⟩ := ha2
  obtain ⟨sb, h3, h4⟩ := hb
  exact ⟨⟨sa, sb, h1, h3, fun k hk => (h2 k hk).1, fun k hk => by have := (h4 k hk).1; have := hb1.size; omega, fun k hk hk' => by have := (h2 k hk).2; have := (h4 k hk').1; omega⟩, btrans hb1 hb2⟩

def TwoSet (w : World) (pa ma pb mb : Nat) (a b : Nat × List Ent) (e : Ending) (w' : World) : Prop := e = .returned (.tuple #[]) ∧ Two w w' pa ma pb mb a b

theorem two_set {w wi : World} {pa ma pb mb : Nat} {a b : Nat × List Ent} (h : Two w wi pa ma pb mb a b) (ht : a.1 ≤ 100000) (at_ id : Int) :
    Calls Try.prog 15 #[.pointer (some ⟨pa, 0, none⟩), .int .i64 at_, .int .i64 id] wi (TwoSet w pa ma pb mb (a.1 + 1, setE a.2 a.1 at_ id) b) := by
  obtain ⟨⟨sa, sb, h1, h2, h3, h4, h5⟩, hb⟩ := h
  refine (set_any h1 ht at_ id).mono ?_
  rintro e w' ⟨sa', rfl, k1, kf, ks⟩
  have hlt := h2.lt
  have hF : ∀ k, Foot pa ma sa' k → Foot pa ma sa k ∨ wi.heap.size ≤ k := by
    rintro k (rfl | rfl | hk)
    · exact .inl (.inl rfl)
    · exact .inl (.inr (.inl rfl))
    · rcases ks with rfl | ⟨j, hj, hj'⟩
      · exact .inl (.inr (.inr hk))
      · rw [hj] at hk; cases hk; exact .inr hj'
  have hbs := hb.size
  exact ⟨rfl, ⟨sa', sb, k1, h2.frame kf (fun k hk hk' => h5 k hk' hk), fun k hk => (hF k hk).elim (h3 k) (fun h => by omega), h4, fun k hk hk' => (hF k hk).elim (fun h => h5 k h hk') (fun h => by have := hlt k hk'; omega)⟩, below_fr hb kf h3⟩

/-- Two alarms, and a slice of ints apart from both. -/
structure TwoI (w wi : World) (pa ma pb mb : Nat) (a b : Nat × List Ent) (v : Value) (l : List Int) : Prop where
  mem : ∃ sa sb s0, AlarmW wi pa ma sa a.1 a.2 ∧ AlarmW wi pb mb sb b.1 b.2 ∧ (∀ k, Foot pa ma sa k → w.heap.size ≤ k) ∧ (∀ k, Foot pb mb sb k → w.heap.size ≤ k) ∧ (∀ k, Foot pa ma sa k → ¬ Foot pb mb sb k) ∧
    IntsAt wi v l s0 ∧ ∀ g, s0 = some g → ¬ Foot pa ma sa g ∧ ¬ Foot pb mb sb g
  below : Below w.heap.size w wi

theorem TwoI.swap {w wi : World} {pa ma pb mb : Nat} {a b : Nat × List Ent} {v : Value} {l : List Int} (h : TwoI w wi pa ma pb mb a b v l) : TwoI w wi pb mb pa ma b a v l := by
  obtain ⟨⟨sa, sb, s0, h1, h2, h3, h4, h5, h6, h7⟩, hb⟩ := h
  exact ⟨⟨sb, sa, s0, h2, h1, h4, h3, fun k hk hk' => h5 k hk' hk, h6, fun g hg => ⟨(h7 g hg).2, (h7 g hg).1⟩⟩, hb⟩
theorem TwoI.two {w wi : World} {pa ma pb mb : Nat} {a b : Nat × List Ent} {v : Value} {l : List Int} (h : TwoI w wi pa ma pb mb a b v l) : Two w wi pa ma pb mb a b := by
  obtain ⟨⟨sa, sb, s0, h1, h2, h3, h4, h5, h6, h7⟩, hb⟩ := h
  exact ⟨⟨sa, sb, h1, h2, h3, h4, h5⟩, hb⟩
theorem Two.nil {w wi : World} {pa ma pb mb : Nat} {a b : Nat × List Ent} (h : Two w wi pa ma pb mb a b) : TwoI w wi pa ma pb mb a b (.slice none 0 0) [] := by
  obtain ⟨⟨sa, sb, h1, h2, h3, h4, h5⟩, hb⟩ := h
  exact ⟨⟨sa, sb, none, h1, h2, h3, h4, h5, RowAt.nil _ _ _, fun g hg => nomatch hg⟩, hb⟩

def TwoDue (w : World) (pa ma pb mb : Nat) (a b : Nat × List Ent) (v0 : Value) (l0 l : List Int) (e : Ending) (w' : World) : Prop :=
  ∃ v, e = .returned v ∧ TwoI w w' pa ma pb mb a b v0 l0 ∧ TwoI w w' pa ma pb mb a b v l

theorem two_due {w wi : World} {pa ma pb mb : Nat} {a b : Nat × List Ent} {v0 : Value} {l0 : List Int} (h : TwoI w wi pa ma pb mb a b v0 l0) (ht : a.1 ≤ 1000000) (now : Int) :
    Calls Try.prog 9 #[.pointer (some ⟨pa, 0, none⟩), .int .i64 now] wi (TwoDue w pa ma pb mb (a.1, leftL a.2 now) b v0 l0 ((dueL a.2 now).map (·.2.2))) := by
  obtain ⟨⟨sa, sb, s0, h1, h2, h3, h4, h5, h6, h7⟩, hb⟩ := h
  refine (due_any h1 ht now).mono ?_
  rintro e w' ⟨v, sI, sa', rfl, k1, k2, k3, kf, ks⟩
  have l1 := h1.lt
  have l2 := h2.lt
  have hF : ∀ k, Foot pa ma sa' k → Foot pa ma sa k := by
    rintro k (rfl | rfl | hk)
    · exact .inl rfl
    · exact .inr (.inl rfl)
    · rcases ks with rfl | rfl
      · cases hk
      · exact .inr (.inr hk)
  have hB := below_fr hb kf h3
  have hA2 := h2.frame kf (fun k hk hk' => h5 k hk' hk)
  refine ⟨v, rfl, ⟨⟨sa', sb, s0, k3, hA2, fun k hk => h3 k (hF k hk), h4, fun k hk => h5 k (hF k hk), RowAt.below h6 (fun g hg => kf.block g (RowAt.lt h6 g hg) (h7 g hg).1), fun g hg => ⟨fun hk => (h7 g hg).1 (hF g hk), (h7 g hg).2⟩⟩, hB⟩,
    ⟨⟨sa', sb, sI, k3, hA2, fun k hk => h3 k (hF k hk), h4, fun k hk => h5 k (hF k hk), ?_, fun g hg => ⟨fun hk => ?_, fun hk => ?_⟩⟩, hB⟩⟩
  · unfold IntsAt; rw [List.length_map]; exact k1
  · have := l1 g (hF g hk); have := k2 g hg; omega
  · have := l2 g hk; have := k2 g hg; omega

/-- The row, told by ticks and ids. -/
def insP (l : List (Int × Int)) (p : Int × Int) : List (Int × Int) := l.filter (fun x => decide (x.1 ≤ p.1)) ++ p :: l.filter (fun x => decide (p.1 < x.1))
def tid (e : Ent) : Int × Int := (e.1, e.2.2)

theorem tid_insE (l : List Ent) (e : Ent) : (insE l e).map tid = insP (l.map tid) (tid e) := by
  unfold insE insP
  rw [List.map_append, List.map_cons, List.filter_map, List.filter_map]
  rfl

theorem filter_insE (l : List Ent) (e : Ent) (i : Int) (h : e.2.2 ≠ i) : (insE l e).filter (fun x => decide (x.2.2 ≠ i)) = insE (l.filter (fun x => decide (x.2.2 ≠ i))) e := by
  unfold insE
  rw [List.filter_append, List.filter_cons_of_pos (by simpa using h), List.filter_filter, List.filter_filter, List.filter_filter, List.filter_filter]
  congr 2
  · funext x; exact Bool.and_comm _ _
  · congr 1; congr 1; funext x; exact Bool.and_comm _ _

theorem insP_comm1 (l : List (Int × Int)) (p q : Int × Int) (h : p.1 < q.1) : insP (insP l p) q = insP (insP l q) p := by
  unfold insP
  simp only [List.filter_append, List.filter_cons, List.filter_filter]
  rw [if_pos (by simpa using Int.le_of_lt h), if_neg (by simp; omega), if_neg (by simp; omega), if_pos (by simpa using h)]
  have e1 : l.filter (fun a => decide (a.1 ≤ q.1) && decide (a.1 ≤ p.1)) = l.filter (fun a => decide (a.1 ≤ p.1)) := List.filter_congr fun x _ => by rw [Bool.eq_iff_iff]; simp only [Bool.and_eq_true, decide_eq_true_eq]; omega
  have e2 : l.filter (fun a => decide (a.1 ≤ p.1) && decide (a.1 ≤ q.1)) = l.filter (fun a => decide (a.1 ≤ p.1)) := List.filter_congr fun x _ => by rw [Bool.eq_iff_iff]; simp only [Bool.and_eq_true, decide_eq_true_eq]; omega
  have e3 : l.filter (fun a => decide (q.1 < a.1) && decide (a.1 ≤ p.1)) = [] := List.filter_eq_nil_iff.2 fun x _ => by simp; omega
  have e4 : l.filter (fun a => decide (a.1 ≤ p.1) && decide (q.1 < a.1)) = [] := List.filter_eq_nil_iff.2 fun x _ => by simp; omega
  have e5 : l.filter (fun a => decide (q.1 < a.1) && decide (p.1 < a.1)) = l.filter (fun a => decide (q.1 < a.1)) := List.filter_congr fun x _ => by rw [Bool.eq_iff_iff]; simp only [Bool.and_eq_true, decide_eq_true_eq]; omega
  have e6 : l.filter (fun a => decide (p.1 < a.1) && decide (q.1 < a.1)) = l.filter (fun a => decide (q.1 < a.1)) := List.filter_congr fun x _ => by rw [Bool.eq_iff_iff]; simp only [Bool.and_eq_true, decide_eq_true_eq]; omega
  have e7 : l.filter (fun a => decide (a.1 ≤ q.1) && decide (p.1 < a.1)) = l.filter (fun a => decide (p.1 < a.1) && decide (a.1 ≤ q.1)) := List.filter_congr fun x _ => Bool.and_comm _ _
  simp only [e1, e2, e3, e4, e5, e6, e7, List.append_assoc, List.cons_append, List.nil_append]

theorem insP_comm (l : List (Int × Int)) (p q : Int × Int) (h : p.1 ≠ q.1) : insP (insP l p) q = insP (insP l q) p := by
  rcases Int.lt_or_gt_of_ne h with h | h
  · exact insP_comm1 l p q h
  · exact (insP_comm1 l q p h).symm

theorem filter_filter_comm {α : Type} (p q : α → Bool) (l : List α) : (l.filter p).filter q = (l.filter q).filter p := by
  rw [List.filter_filter, List.filter_filter]; congr 1; funext x; exact Bool.and_comm _ _

theorem sets_apart (l : List Ent) (t : Nat) (a1 a2 i1 i2 : Int) (h1 : a1 ≠ a2) (h2 : i1 ≠ i2) :
    (setE (setE l t a1 i1) (t + 1) a2 i2).map tid = (setE (setE l t a2 i2) (t + 1) a1 i1).map tid := by
  unfold setE
  rw [filter_insE _ _ _ h2, filter_insE _ _ _ (fun e => h2 e.symm), filter_filter_comm, tid_insE, tid_insE, tid_insE, tid_insE]
  exact insP_comm _ _ _ h1

theorem due_tid (l : List Ent) (now : Int) : (dueL l now).map (·.2.2) = ((l.map tid).filter (fun x => decide (x.1 ≤ now))).map (·.2) := by
  unfold dueL; rw [List.filter_map, List.map_map]; rfl
theorem left_tid (l : List Ent) (now : Int) : (leftL l now).length = ((l.map tid).filter (fun x => decide (now < x.1))).length := by
  unfold leftL; rw [List.filter_map, List.length_map]; rfl

theorem due_of_tid {l l' : List Ent} (h : l.map tid = l'.map tid) (now : Int) : (dueL l now).map (·.2.2) = (dueL l' now).map (·.2.2) := by rw [due_tid, due_tid, h]
theorem left_of_tid {l l' : List Ent} (h : l.map tid = l'.map tid) (now : Int) : (leftL l now).length = (leftL l' now).length := by rw [left_tid, left_tid, h]

end Go.Proofs.Ytcplimefklnknaa
