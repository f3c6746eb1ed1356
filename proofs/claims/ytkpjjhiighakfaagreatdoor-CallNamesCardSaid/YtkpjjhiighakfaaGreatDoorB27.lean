/- What a call spends: the plain law. -/
import Derived.Test.YtkpjjhiighakfaaGreatDoorB26
namespace Go.Proofs.YtkpjjhiighakfaaGreatDoor
open Go.RowKit

def NoSend (l : List Ac) : Prop := ∀ a ∈ l, a.what ≠ 1
theorem NoSend.nil : NoSend [] := fun _ h => by cases h
theorem NoSend.append {l l' : List Ac} (h : NoSend l) (h' : NoSend l') : NoSend (l ++ l') := fun a ha => (List.mem_append.1 ha).elim (h a) (h' a)

/-- What one act spends: k: what an attempt costs beside what it takes along. -/
structure Spent (k : Int) (S S' : CS) (l : List Ac) : Prop where
  c : S'.c = S.c
  p : S'.p = S.p
  how : (NoSend l ∧ S'.made = S.made ∧ S'.left = S.left) ∨
    ∃ A a F, l = A ++ a :: F ∧ NoSend A ∧ NoSend F ∧ a.what = 1 ∧ a.c.try_ = S.made + 1 ∧ 0 ≤ a.c.purse ∧ S'.made = S.made + 1 ∧ S'.left + a.c.purse + k = S.left ∧ S.made + 1 ≤ S.p.tries

theorem Spent.none {k : Int} {S S' : CS} {l : List Ac} (hc : S'.c = S.c) (hp : S'.p = S.p) (h : NoSend l) (hm : S'.made = S.made) (hl : S'.left = S.left) : Spent k S S' l := ⟨hc, hp, .inl ⟨h, hm, hl⟩⟩
theorem Spent.trans0 {k : Int} {S S' S'' : CS} {l l' : List Ac} (h : Spent k S S' l) (hc : S''.c = S'.c) (hp : S''.p = S'.p) (hn : NoSend l') (hm : S''.made = S'.made) (hl : S''.left = S'.left) : Spent k S S'' (l ++ l') := by
  refine ⟨hc.trans h.c, hp.trans h.p, ?_⟩
  rcases h.how with ⟨h1, h2, h3⟩ | ⟨A, a, F, rfl, h1, h2, h3, h4, h5, h6, h7, h8⟩
  · exact .inl ⟨h1.append hn, hm.trans h2, hl.trans h3⟩
  · exact .inr ⟨A, a, F ++ l', by simp, h1, h2.append hn, h3, h4, h5, hm.trans h6, by rw [hl]; exact h7, h8⟩
theorem Spent.before {k : Int} {S S' S'' : CS} {l l' : List Ac} (hn : NoSend l) (hc : S'.c = S.c) (hp : S'.p = S.p) (hm : S'.made = S.made) (hl : S'.left = S.left) (h : Spent k S' S'' l') : Spent k S S'' (l ++ l') := by
  refine ⟨h.c.trans hc, h.p.trans hp, ?_⟩
  rcases h.how with ⟨h1, h2, h3⟩ | ⟨A, a, F, rfl, h1, h2, h3, h4, h5, h6, h7, h8⟩
  · exact .inl ⟨hn.append h1, h2.trans hm, h3.trans hl⟩
  · exact .inr ⟨l ++ A, a, F, by simp, hn.append h1, h2, h3, by rw [h4, hm], h5, by rw [h6, hm], by rw [h7, hl], by rw [← hm, ← hp]; exact h8⟩

theorem finL_no (S : CS) : NoSend S.finL := by
  intro a ha
  unfold CS.finL at ha
  split at ha
  · rcases List.mem_append.1 ha with h | h
    · obtain ⟨o, _, rfl⟩ := List.mem_map.1 h
      show (4 : Int) ≠ 1; omega
    · rw [List.mem_singleton.1 h]; show (3 : Int) ≠ 1; omega
  · rw [List.mem_singleton.1 ha]; show (2 : Int) ≠ 1; omega
theorem fin_same (S : CS) : S.fin.c = S.c ∧ S.fin.p = S.p ∧ S.fin.made = S.made ∧ S.fin.left = S.left ∧ S.fin.over = S.over := by
  unfold CS.fin; split <;> exact ⟨rfl, rfl, rfl, rfl, rfl⟩

theorem Spent.act {k : Int} {S S1 : CS} {l : List Ac} (h : Spent k S S1 l) : Spent k S (actS S S1) (actL S S1 l) := by
  unfold actS actL
  split
  · exact .none rfl rfl .nil rfl rfl
  · obtain ⟨h1, h2, h3, h4, _⟩ := fin_same S1
    exact h.trans0 h1 h2 (finL_no S1) h3 h4

theorem begin_spent {S : CS} (hok : S.Ok) {now : Int} (hm : S.made + 1 ≤ S.p.tries) : Spent 0 S (S.beginS now) (S.beginL now) := by
  unfold CS.beginS CS.beginL
  obtain ⟨l0, _⟩ := hok.left
  split
  · exact .none rfl rfl .nil rfl rfl
  · refine ⟨rfl, rfl, .inr ⟨[], _, [], rfl, .nil, .nil, rfl, rfl, ?_, rfl, ?_, hm⟩⟩
    · show 0 ≤ S.left / 2; omega
    · show S.left - S.left / 2 + S.left / 2 + 0 = S.left; omega

theorem fur_spent {S : CS} (now : Int) (B : Bk) : Spent 1 S (S.furS now B) (S.furL now B) := by
  unfold CS.furS CS.furL
  split
  · rename_i hm
    obtain ⟨h1, h2, _, _⟩ := mayS_of hm
    refine ⟨rfl, rfl, .inr ⟨[], _, [], rfl, .nil, .nil, rfl, rfl, ?_, rfl, ?_, by omega⟩⟩
    · show 0 ≤ (S.left - 1) / 2; omega
    · show S.left - 1 - (S.left - 1) / 2 + (S.left - 1) / 2 + 1 = S.left; omega
  · exact .none rfl rfl .nil rfl rfl

theorem goS_eq (S : CS) (now : Int) (B : Bk) : (S.goS now B = S ∧ S.goL now B = []) ∨ (∃ S1 : CS, S1.c = S.c ∧ S1.p = S.p ∧ S1.made = S.made ∧ S1.left = S.left ∧ S1.open_ = S.open_ ∧ ((CS.goS S now B = S1.furS now B ∧ S.goL now B = S1.furL now B) ∨ ∃ S2 : CS, S2.c = S.c ∧ S2.p = S.p ∧ S2.made = S.made ∧ S2.left = S.left ∧ S2.open_ = S.open_ ∧ CS.goS S now B = S2 ∧ S.goL now B = [])) := by
  unfold CS.goS CS.goL
  split
  · refine .inr ⟨{ S with due := false }, rfl, rfl, rfl, rfl, rfl, ?_⟩
    split
    · exact .inl ⟨rfl, rfl⟩
    · rename_i hm
      have hm' : CS.mayS { S with due := false } now B = false := by simpa using hm
      have hr := furR_no hm'
      rw [hr.l]
      split
      · refine .inr ⟨_, ?_, ?_, ?_, ?_, ?_, rfl, rfl⟩ <;> rfl
      · refine .inr ⟨_, ?_, ?_, ?_, ?_, ?_, rfl, rfl⟩ <;> rfl
  · split
    · refine .inr ⟨S, rfl, rfl, rfl, rfl, rfl, ?_⟩
      split
      · exact .inl ⟨rfl, rfl⟩
      · rename_i hm
        have hm' : CS.mayS S now B = false := by simpa using hm
        have hr := furR_no hm'
        rw [hr.l]
        refine .inr ⟨_, ?_, ?_, ?_, ?_, ?_, rfl, rfl⟩ <;> rfl
    · exact .inl ⟨rfl, rfl⟩

theorem go_spent (S : CS) (now : Int) (B : Bk) : Spent 1 S (S.goS now B) (S.goL now B) := by
  rcases goS_eq S now B with ⟨h1, h2⟩ | ⟨S1, a1, a2, a3, a4, _, ⟨h1, h2⟩ | ⟨S2, b1, b2, b3, b4, _, h1, h2⟩⟩
  · rw [h1, h2]; exact .none rfl rfl .nil rfl rfl
  · rw [h1, h2]; exact Spent.before (l := []) .nil a1 a2 a3 a4 (fur_spent now B)
  · rw [h1, h2]; exact .none b1 b2 .nil b3 b4

theorem toStep_no (now : Int) (st : CS × List Ac) (o : Int × Int × Cx) (h : NoSend st.2) : NoSend (toStep now st o).2 := by
  unfold toStep
  split
  · exact h
  · exact h.append fun a ha => by rw [List.mem_singleton.1 ha]; show (4 : Int) ≠ 1; omega
theorem toS_no (S : CS) (now : Int) : NoSend (S.toS now).2 := by
  unfold CS.toS
  suffices ∀ (l : List (Int × Int × Cx)) (st : CS × List Ac), NoSend st.2 → NoSend (l.foldl (toStep now) st).2 from this _ _ .nil
  intro l
  induction l with
  | nil => exact fun _ h => h
  | cons o l ih => exact fun st h => ih _ (toStep_no now st o h)

theorem wake_spent {S : CS} (hok : S.Ok) {now : Int} (hn : -1000000000 ≤ now ∧ now ≤ 1000000) (B : Bk) : Spent 1 S (S.wakeS now B) (S.wakeL now B) := by
  have ht := toS_ok hok hn
  have hn' := toS_no S now
  unfold CS.wakeS CS.wakeL
  split
  · exact .none rfl rfl .nil rfl rfl
  · split
    · exact .none ht.c ht.p hn' ht.made ht.left
    · exact Spent.before hn' ht.c ht.p ht.made ht.left (go_spent _ _ _)

theorem ans_spent (S : CS) (now k e not_ : Int) : Spent 1 S (S.ansS now k e not_) [] := by
  unfold CS.ansS
  split
  · exact .none rfl rfl .nil rfl rfl
  · split
    · exact .none rfl rfl .nil rfl rfl
    · obtain ⟨f1, f2, f3, f4, f5⟩ := failS_same (S.del k) now e not_
      exact .none f3 f2 .nil f4 f5

theorem do_spent {S : CS} (hok : S.Ok) {now : Int} (hn : -1000000000 ≤ now ∧ now ≤ 1000000) (B : Bk) (t : St) : Spent 1 S (S.doS B now t) (S.doL B now t) := by
  unfold CS.doS CS.doL
  split
  · exact (ans_spent S now _ _ _).act
  · exact (wake_spent hok hn B).act

/-! All that is told. -/

def sentOf (l : List Ac) : Nat := (l.filter fun a => decide (a.what = 1)).length
def alongOf (l : List Ac) : Int := ((l.filter fun a => decide (a.what = 1)).map (·.c.purse)).sum
/-- Each attempt bears its number, and takes along what is none below 0. -/
def GoodSends (l : List Ac) : Prop := ∀ A a F, l = A ++ a :: F → a.what = 1 → 0 ≤ a.c.purse ∧ a.c.try_ = (sentOf A : Int) + 1

theorem sentOf_append (l l' : List Ac) : sentOf (l ++ l') = sentOf l + sentOf l' := by simp [sentOf]
theorem alongOf_append (l l' : List Ac) : alongOf (l ++ l') = alongOf l + alongOf l' := by simp [alongOf]
theorem filter_no {l : List Ac} (h : NoSend l) : (l.filter fun a => decide (a.what = 1)) = [] := List.filter_eq_nil_iff.2 fun a ha => by simpa using h a ha
theorem sentOf_no {l : List Ac} (h : NoSend l) : sentOf l = 0 := by unfold sentOf; rw [filter_no h]; rfl
theorem alongOf_no {l : List Ac} (h : NoSend l) : alongOf l = 0 := by unfold alongOf; rw [filter_no h]; rfl
theorem sentOf_cons (a : Ac) (l : List Ac) : sentOf (a :: l) = (if a.what = 1 then 1 else 0) + sentOf l := by
  unfold sentOf
  by_cases h : a.what = 1
  · rw [List.filter_cons_of_pos (by simpa using h), if_pos h, List.length_cons]; omega
  · rw [List.filter_cons_of_neg (by simpa using h), if_neg h]; omega
theorem alongOf_cons (a : Ac) (l : List Ac) : alongOf (a :: l) = (if a.what = 1 then a.c.purse else 0) + alongOf l := by
  unfold alongOf
  by_cases h : a.what = 1
  · rw [List.filter_cons_of_pos (by simpa using h), if_pos h]; rfl
  · rw [List.filter_cons_of_neg (by simpa using h), if_neg h]; omega

theorem append_split {α : Type} {A B C D : List α} {a b : α} (h : A ++ a :: B = C ++ b :: D) : (A = C ∧ a = b ∧ B = D) ∨ (∃ E, C = A ++ a :: E ∧ B = E ++ b :: D) ∨ (∃ E, A = C ++ b :: E ∧ D = E ++ a :: B) := by
  rcases List.append_eq_append_iff.1 h with ⟨E, h1, h2⟩ | ⟨E, h1, h2⟩
  · cases E with
    | nil => rw [List.nil_append] at h2; injection h2 with e1 e2; exact .inl ⟨by rw [h1, List.append_nil], e1, e2⟩
    | cons x E => rw [List.cons_append] at h2; injection h2 with e1 e2; exact .inr (.inl ⟨E, by rw [h1, e1], e2⟩)
  · cases E with
    | nil => rw [List.nil_append] at h2; injection h2 with e1 e2; exact .inl ⟨by rw [h1, List.append_nil], e1.symm, e2.symm⟩
    | cons x E => rw [List.cons_append] at h2; injection h2 with e1 e2; exact .inr (.inr ⟨E, by rw [h1, e1], e2⟩)

theorem good_append {l l' : List Ac} (h : GoodSends l) (h' : ∀ A a F, l' = A ++ a :: F → a.what = 1 → 0 ≤ a.c.purse ∧ a.c.try_ = (sentOf l : Int) + (sentOf A : Int) + 1) : GoodSends (l ++ l') := by
  intro A a F he ha
  rcases List.append_eq_append_iff.1 he with ⟨E, h1, h2⟩ | ⟨E, h1, h2⟩
  · have := h' E a F h2 ha
    rw [h1, sentOf_append]; refine ⟨this.1, ?_⟩; rw [this.2]; omega
  · cases E with
    | nil =>
      rw [List.nil_append] at h2
      have := h' [] a F h2.symm ha
      rw [List.append_nil] at h1
      rw [← h1]; refine ⟨this.1, ?_⟩; rw [this.2]; show _ + ((0 : Nat) : Int) + 1 = _; omega
    | cons x E =>
      rw [List.cons_append] at h2; injection h2 with e1 e2
      exact h A a E (by rw [h1, e1]) ha

/-- What has been told of a call, and what is left of it. -/
structure Paid (x : Cx) (y : Pol) (S : CS) (l : List Ac) : Prop where
  c : S.c = x
  p : S.p = y
  good : GoodSends l
  sent : (sentOf l : Int) = S.made
  some : 1 ≤ S.made ∧ S.made ≤ y.tries
  all : S.left + alongOf l + S.made - 1 = x.purse
  pos : 0 ≤ alongOf l

theorem Paid.step {x : Cx} {y : Pol} {S S' : CS} {l l' : List Ac} (h : Paid x y S l) (hs : Spent 1 S S' l') : Paid x y S' (l ++ l') := by
  obtain ⟨h1, h2, h3, h4, h5, h6, h7⟩ := h
  rcases hs.how with ⟨g1, g2, g3⟩ | ⟨A, a, F, rfl, g1, g2, g3, g4, g5, g6, g7, g8⟩
  · refine ⟨hs.c.trans h1, hs.p.trans h2, good_append h3 fun A a F he ha => absurd ha (g1 a (by rw [he]; simp)), ?_, by rw [g2]; exact h5, ?_, ?_⟩
    · rw [sentOf_append, sentOf_no g1, g2]; exact h4
    · rw [alongOf_append, alongOf_no g1, g2, g3]; omega
    · rw [alongOf_append, alongOf_no g1]; omega
  · have e1 : sentOf (A ++ a :: F) = 1 := by rw [sentOf_append, sentOf_cons, if_pos g3, sentOf_no g1, sentOf_no g2]
    have e2 : alongOf (A ++ a :: F) = a.c.purse := by rw [alongOf_append, alongOf_cons, if_pos g3, alongOf_no g1, alongOf_no g2]; omega
    refine ⟨hs.c.trans h1, hs.p.trans h2, good_append h3 fun A' a' F' he ha => ?_, ?_, ?_, ?_, ?_⟩
    · rcases append_split he with ⟨rfl, rfl, rfl⟩ | ⟨E, h8, h9⟩ | ⟨E, h8, h9⟩
      · rw [sentOf_no g1, g4]; refine ⟨g5, ?_⟩; show _ = _ + ((0 : Nat) : Int) + 1; omega
      · exact absurd ha (g2 a' (by rw [h9]; simp))
      · exact absurd ha (g1 a' (by rw [h8]; simp))
    · rw [sentOf_append, e1, g6]; omega
    · rw [g6, ← h2]; rw [← h2] at h5; omega
    · rw [alongOf_append, e2, g6]; omega
    · rw [alongOf_append, e2]; omega

theorem paid_first {x : Cx} {y : Pol} {S' : CS} {l' : List Ac} (hs : Spent 0 (newS x y) S' l') (hm : S'.made = 1) : Paid x y S' l' := by
  rcases hs.how with ⟨g1, g2, g3⟩ | ⟨A, a, F, rfl, g1, g2, g3, g4, g5, g6, g7, g8⟩
  · rw [g2] at hm; exact absurd hm (by show (0 : Int) ≠ 1; omega)
  · have e1 : sentOf (A ++ a :: F) = 1 := by rw [sentOf_append, sentOf_cons, if_pos g3, sentOf_no g1, sentOf_no g2]
    have e2 : alongOf (A ++ a :: F) = a.c.purse := by rw [alongOf_append, alongOf_cons, if_pos g3, alongOf_no g1, alongOf_no g2]; omega
    have g4' : a.c.try_ = 1 := g4
    have g7' : S'.left + a.c.purse + 0 = x.purse := g7
    refine ⟨hs.c, hs.p, fun A' a' F' he ha => ?_, by rw [e1, hm]; rfl, ⟨by omega, by rw [hm]; exact g8⟩, by rw [e2, hm]; omega, by rw [e2]; exact g5⟩
    rcases append_split he with ⟨rfl, rfl, rfl⟩ | ⟨E, h8, h9⟩ | ⟨E, h8, h9⟩
    · rw [sentOf_no g1, g4']; exact ⟨g5, rfl⟩
    · exact absurd ha (g2 a' (by rw [h9]; simp))
    · exact absurd ha (g1 a' (by rw [h8]; simp))

end Go.Proofs.YtkpjjhiighakfaaGreatDoor
