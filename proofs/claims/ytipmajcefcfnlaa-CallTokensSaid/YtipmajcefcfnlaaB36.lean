/- CallEnds: the plain law. -/
import Derived.Test.YtipmajcefcfnlaaB35
namespace Go.Proofs.Ytipmajcefcfnlaa
open Go.RowKit

/-- Nothing of a call is overdue. -/
structure Tm (S : CS) (now : Int) : Prop where
  dl : now < S.c.dl
  at_ : ∀ o ∈ S.open_, now < o.2.1 + S.p.tmo
  due : S.due = true → now ≤ S.dueAt
  bes : S.hasBeside = true → now ≤ S.besideT
  one : (S.due = true → now < S.dueAt) ∨ (S.hasBeside = true → now < S.besideT)

def Tight (S : CS) (now : Int) : Prop := (S.due = true ∧ S.dueAt = now) ∨ (S.hasBeside = true ∧ S.besideT = now)

theorem next_bd {S : CS} {now : Int} (h : Tm S now) : now ≤ S.nextT ∧ S.nextT ≤ S.c.dl ∧ (S.nextT = now → Tight S now) ∧ (S.due = true → S.nextT ≤ S.dueAt) ∧ (S.hasBeside = true → S.nextT ≤ S.besideT) ∧ (∀ o ∈ S.open_, S.nextT ≤ o.2.1 + S.p.tmo) := by
  obtain ⟨h1, h2, h3, h4, _⟩ := h
  obtain ⟨m1, m2, m3⟩ := minA_spec S.open_ S.p.tmo S.c.dl
  have m4 : now < minA S.open_ S.p.tmo S.c.dl := by
    rcases m3 with e | ⟨o, ho, e⟩
    · omega
    · have := h2 o ho; omega
  unfold CS.nextT CS.nextD Tight
  cases hd : S.due with
  | true =>
    have h3' := h3 hd
    cases hb : S.hasBeside with
    | true =>
      have h4' := h4 hb
      rw [if_pos rfl, if_pos rfl]
      refine ⟨by omega, by omega, fun e => ?_, fun _ => by omega, fun _ => by omega, fun o ho => by have := m2 o ho; omega⟩
      rcases (show S.dueAt = now ∨ S.besideT = now by omega) with e | e
      · exact .inl ⟨rfl, e⟩
      · exact .inr ⟨rfl, e⟩
    | false =>
      rw [if_neg (by decide), if_pos rfl]
      exact ⟨by omega, by omega, fun e => .inl ⟨rfl, by omega⟩, fun _ => by omega, fun e => (by cases e), fun o ho => by have := m2 o ho; omega⟩
  | false =>
    cases hb : S.hasBeside with
    | true =>
      have h4' := h4 hb
      rw [if_pos rfl, if_neg (by decide)]
      exact ⟨by omega, by omega, fun e => .inr ⟨rfl, by omega⟩, fun e => (by cases e), fun _ => by omega, fun o ho => by have := m2 o ho; omega⟩
    | false =>
      rw [if_neg (by decide), if_neg (by decide)]
      exact ⟨by omega, by omega, fun e => absurd e (by omega), fun e => (by cases e), fun e => (by cases e), fun o ho => m2 o ho⟩

theorem againS_frm (S : CS) (now not_ : Int) : (S.againS now not_).frm = S.frm ∧ (S.againS now not_).over = S.over := by
  unfold CS.againS
  split
  · exact ⟨rfl, rfl⟩
  · split <;> exact ⟨rfl, rfl⟩
theorem failS_frm (S : CS) (now e not_ : Int) : (S.failS now e not_).frm = S.frm := by
  unfold CS.failS
  split
  · rfl
  · split
    · exact (againS_frm { S with last := e } now not_).1
    · split <;> rfl

/-- What timeouts leaves. -/
structure Kept (S : CS) (now : Int) (l : List (Int × Int × Cx)) (st : CS) : Prop where
  c : st.c = S.c
  p : st.p = S.p
  made : st.made = S.made
  left : st.left = S.left
  frm : st.frm = S.frm
  sub : ∀ o ∈ st.open_, o ∈ S.open_
  strict : st.over = true ∨ ∀ o ∈ st.open_, o ∈ l ∨ now < o.2.1 + S.p.tmo

theorem kept_fold (S : CS) (now : Int) : ∀ (l : List (Int × Int × Cx)) (st : CS × List Ac), Kept S now l st.1 → Kept S now [] (l.foldl (toStep now) st).1
  | [], _, h => h
  | o :: l, st, h => by
    rw [List.foldl_cons]
    refine kept_fold S now l _ ?_
    unfold toStep
    split
    · rename_i hs
      refine { h with strict := ?_ }
      rcases h.strict with e | e
      · exact .inl e
      · cases ho : st.1.over with
        | true => exact .inl rfl
        | false =>
          rw [ho, Bool.false_or] at hs
          have hs' := of_decide_eq_true hs
          rw [h.p] at hs'
          refine .inr fun x hx => ?_
          rcases e x hx with e | e
          · rcases List.mem_cons.1 e with e | e
            · rw [e]; exact .inr (by omega)
            · exact .inl e
          · exact .inr e
    · obtain ⟨f1, f2, f3, f4, f5⟩ := failS_same (st.1.del o.1) now 37 0
      refine ⟨f3.trans h.c, f2.trans h.p, f4.trans h.made, f5.trans h.left, (failS_frm _ _ _ _).trans h.frm, fun x hx => h.sub x (by rw [f1] at hx; exact (List.mem_filter.1 hx).1), ?_⟩
      cases hov : ((st.1.del o.1).failS now 37 0).over with
      | true => exact .inl rfl
      | false =>
        refine .inr fun x hx => ?_
        rw [f1] at hx
        obtain ⟨hx1, hx2⟩ := List.mem_filter.1 hx
        rcases h.strict with e | e
        · exfalso
          have : ((st.1.del o.1).failS now 37 0).over = true := by
            unfold CS.failS
            split
            · rfl
            · split
              · rw [(againS_frm _ now 0).2]; exact e
              · split
                · rfl
                · exact e
          rw [hov] at this; cases this
        · rcases e x hx1 with e | e
          · rcases List.mem_cons.1 e with e | e
            · rw [e] at hx2; exact absurd rfl (of_decide_eq_true hx2)
            · exact .inl e
          · exact .inr e

theorem toS_kept (S : CS) (now : Int) : Kept S now [] (S.toS now).1 := kept_fold S now S.open_ (S, []) ⟨rfl, rfl, rfl, rfl, rfl, fun _ h => h, .inr fun _ h => .inl h⟩

theorem toS_same {S : CS} {now : Int} (h : ∀ o ∈ S.open_, now < o.2.1 + S.p.tmo) : S.toS now = (S, []) := by
  unfold CS.toS
  suffices ∀ l : List (Int × Int × Cx), (∀ o ∈ l, now < o.2.1 + S.p.tmo) → l.foldl (toStep now) (S, []) = (S, []) from this _ h
  intro l
  induction l with
  | nil => exact fun _ => rfl
  | cons o l ih =>
    intro hl
    rw [List.foldl_cons, show toStep now (S, []) o = (S, []) by
      unfold toStep
      rw [if_pos]
      rw [Bool.or_eq_true]
      exact .inr (decide_eq_true (by have := hl o (List.mem_cons_self ..); show now - o.2.1 < S.p.tmo; omega))]
    exact ih fun x hx => hl x (List.mem_cons_of_mem _ hx)

theorem has_sub {S st : CS} (hp : st.p = S.p) (hm : st.made = S.made) (hl : st.left = S.left) (hs : ∀ o ∈ st.open_, o ∈ S.open_) (h : st.hasBeside = true) : S.hasBeside = true := by
  unfold CS.hasBeside at h ⊢
  rw [Bool.and_eq_true, Bool.and_eq_true] at h
  obtain ⟨⟨h1, h2⟩, h3⟩ := h
  have e3 : S.more = true := by unfold CS.more at h3 ⊢; rw [← hp, ← hm, ← hl]; exact h3
  rw [e3, ← hp, h1]
  cases ho : st.open_ with
  | nil => rw [ho] at h2; cases h2
  | cons o l =>
    have := hs o (by rw [ho]; exact List.mem_cons_self ..)
    cases hS : S.open_ with
    | nil => rw [hS] at this; cases this
    | cons a b => rfl
theorem beside_pos {S : CS} (h : S.hasBeside = true) : 0 < S.p.hedge := by
  unfold CS.hasBeside at h
  rw [Bool.and_eq_true, Bool.and_eq_true] at h
  exact of_decide_eq_true h.1.1

/-- An attempt was just made. -/
theorem tm_att {S : CS} {now : Int} (h1 : now < S.c.dl) (h2 : ∀ o ∈ S.open_, now < o.2.1 + S.p.tmo) (ht : 1 ≤ S.p.tmo) (hd : S.due = true → now < S.dueAt) : Tm (S.att now) now ∧ ¬ Tight (S.att now) now := by
  have hb : (S.att now).hasBeside = true → now < (S.att now).besideT := fun hh => by
    rw [besideT_yes hh]
    have := beside_pos hh
    show now < now + S.p.hedge
    have e : (S.att now).p.hedge = S.p.hedge := rfl
    omega
  refine ⟨⟨h1, fun o ho => ?_, fun e => Int.le_of_lt (hd e), fun e => Int.le_of_lt (hb e), .inl hd⟩, ?_⟩
  · rcases List.mem_append.1 ho with h | h
    · exact h2 o h
    · rw [List.mem_singleton.1 h]; show now < now + S.p.tmo; omega
  · rintro (⟨e1, e2⟩ | ⟨e1, e2⟩)
    · have := hd e1
      have e3 : (S.att now).dueAt = S.dueAt := rfl
      omega
    · have := hb e1; omega

/-- goOn, at a tick at which nothing else is overdue. -/
theorem go_tm {S : CS} {now : Int} (B : Bk) (ho : S.over = false) (h1 : now < S.c.dl) (h2 : ∀ o ∈ S.open_, now < o.2.1 + S.p.tmo) (ht : 1 ≤ S.p.tmo) (hb : S.hasBeside = true → now ≤ S.besideT) :
    (S.goS now B).over = true ∨ ((S.goS now B).over = false ∧ Tm (S.goS now B) now ∧ (((S.due = true → now < S.dueAt) ∨ (S.hasBeside = true → now < S.besideT)) → ¬ Tight (S.goS now B) now)) := by
  unfold CS.goS
  split
  · split
    · right
      have hm : CS.mayS { S with due := false } now B = true := by assumption
      have e := (furR_yes hm).s
      rw [e]
      obtain ⟨g1, g2⟩ := tm_att (S := { ({ S with due := false } : CS) with left := S.left - 1 }) h1 h2 ht (fun e => (by cases e))
      exact ⟨ho, g1, fun _ => g2⟩
    · split
      · exact .inl rfl
      · right
        rename_i hdd _ _
        rw [Bool.and_eq_true] at hdd
        have hda := of_decide_eq_true hdd.2
        have hb' : CS.hasBeside { S with due := false } = true → S.hasBeside = true := fun e => e
        refine ⟨ho, ⟨h1, h2, fun e => (by cases e), fun e => ?_, .inl fun e => (by cases e)⟩, fun hor => ?_⟩
        · have := hb (hb' e)
          rw [besideT_yes e]
          rw [besideT_yes (hb' e)] at this
          exact this
        · rintro (⟨e1, _⟩ | ⟨e1, e2⟩)
          · cases e1
          · rcases hor with hor | hor
            · have := hor hdd.1; omega
            · have := hor (hb' e1)
              rw [besideT_yes (hb' e1)] at this
              rw [besideT_yes e1] at e2
              have e2' : S.frm + S.p.hedge = now := e2
              omega
  · rename_i hdd
    have hd : S.due = true → now < S.dueAt := fun e => by
      rw [e, Bool.true_and] at hdd
      have := of_decide_eq_false (Bool.eq_false_iff.2 hdd)
      omega
    split
    · split
      · right
        have hm : CS.mayS S now B = true := by assumption
        have e := (furR_yes hm).s
        rw [e]
        obtain ⟨g1, g2⟩ := tm_att (S := { S with left := S.left - 1 }) h1 h2 ht hd
        exact ⟨ho, g1, fun _ => g2⟩
      · right
        have hbs : CS.hasBeside { S with frm := now } = true → now < CS.besideT { S with frm := now } := fun hh => by
          rw [besideT_yes hh]
          have := beside_pos hh
          have e : (CS.p { S with frm := now }).hedge = S.p.hedge := rfl
          show now < now + S.p.hedge
          omega
        refine ⟨ho, ⟨h1, h2, fun e => Int.le_of_lt (hd e), fun e => Int.le_of_lt (hbs e), .inl hd⟩, fun _ => ?_⟩
        rintro (⟨e1, e2⟩ | ⟨e1, e2⟩)
        · have := hd e1
          have e3 : S.dueAt = now := e2
          omega
        · have := hbs e1; omega
    · right
      rename_i hbb
      have hbs : S.hasBeside = true → now < S.besideT := fun e => by
        rw [e, Bool.true_and] at hbb
        have := of_decide_eq_false (Bool.eq_false_iff.2 hbb)
        omega
      refine ⟨ho, ⟨h1, h2, fun e => Int.le_of_lt (hd e), fun e => Int.le_of_lt (hbs e), .inl hd⟩, fun _ => ?_⟩
      rintro (⟨e1, e2⟩ | ⟨e1, e2⟩)
      · have := hd e1; omega
      · have := hbs e1; omega

theorem act_over {S S1 : CS} (h : S.over = false) : (actS S S1).over = S1.over ∧ (S1.over = false → actS S S1 = S1) := by
  unfold actS
  rw [if_neg (by rw [h]; decide)]
  refine ⟨(fin_same S1).2.2.2.2, fun e => ?_⟩
  unfold CS.fin; rw [e]; rfl

/-- It is woken when it said so. -/
theorem wake_tm {S : CS} {now : Int} (B : Bk) (ho : S.over = false) (h : Tm S now) (ht : 1 ≤ S.p.tmo) :
    (actS S (S.wakeS S.nextT B)).over = true ∨ ((actS S (S.wakeS S.nextT B)).over = false ∧ Tm (actS S (S.wakeS S.nextT B)) S.nextT ∧ (S.nextT = now → ¬ Tight (actS S (S.wakeS S.nextT B)) S.nextT)) := by
  obtain ⟨n1, n2, n3, n4, n5, n6⟩ := next_bd h
  obtain ⟨a1, a2⟩ := act_over (S1 := S.wakeS S.nextT B) ho
  by_cases hd : S.c.dl ≤ S.nextT
  · left
    rw [a1]; unfold CS.wakeS; rw [if_pos hd]
  · have hk := toS_kept S S.nextT
    cases hto : (S.toS S.nextT).1.over with
    | true =>
      left
      rw [a1]; unfold CS.wakeS; rw [if_neg hd, if_pos hto]; exact hto
    | false =>
      have e : S.wakeS S.nextT B = (S.toS S.nextT).1.goS S.nextT B := by
        unfold CS.wakeS; rw [if_neg hd, if_neg (by rw [hto]; decide)]
      have hst : ∀ o ∈ (S.toS S.nextT).1.open_, S.nextT < o.2.1 + (S.toS S.nextT).1.p.tmo := fun o ho' => by
        rw [hk.p]
        exact ((hk.strict.resolve_left (by rw [hto]; decide)) o ho').resolve_left (by simp)
      have hbb : (S.toS S.nextT).1.hasBeside = true → S.hasBeside = true := has_sub hk.p hk.made hk.left hk.sub
      have hg := go_tm (S := (S.toS S.nextT).1) (now := S.nextT) B hto (by rw [hk.c]; omega) hst (by rw [hk.p]; exact ht) (fun e => by
        have h5 := n5 (hbb e)
        rw [besideT_yes (hbb e)] at h5
        rw [besideT_yes e, hk.frm, hk.p]; exact h5)
      rw [← e] at hg
      rcases hg with hg | ⟨g1, g2, g3⟩
      · left; rw [a1]; exact hg
      · right
        rw [a2 g1]
        refine ⟨g1, g2, fun en => g3 ?_⟩
        have es : S.toS S.nextT = (S, []) := toS_same fun o ho' => by rw [en]; exact h.at_ o ho'
        rw [es, en]
        exact h.one

/-- An attempt is answered ahead of that. -/
theorem ans_tm {S : CS} {now now2 : Int} (ho : S.over = false) (h : Tm S now) (h1 : now2 < S.nextT) (k e not_ : Int) (hb0 : 0 ≤ S.p.back) :
    (actS S (S.ansS now2 k e not_)).over = true ∨ ((actS S (S.ansS now2 k e not_)).over = false ∧ Tm (actS S (S.ansS now2 k e not_)) now2) := by
  obtain ⟨n1, n2, n3, n4, n5, n6⟩ := next_bd h
  obtain ⟨a1, a2⟩ := act_over (S1 := S.ansS now2 k e not_) ho
  cases hov : (S.ansS now2 k e not_).over with
  | true => left; rw [a1]; exact hov
  | false =>
    right
    rw [a2 hov]
    refine ⟨hov, ?_⟩
    have hopen := ans_open S now2 k e not_
    have hsp := ans_spent S now2 k e not_
    have hmade : (S.ansS now2 k e not_).made = S.made ∧ (S.ansS now2 k e not_).left = S.left := by
      rcases hsp.how with ⟨_, h2, h3⟩ | ⟨A, a, F, h2, _⟩
      · exact ⟨h2, h3⟩
      · simp at h2
    have hfrm : (S.ansS now2 k e not_).frm = S.frm := by
      unfold CS.ansS
      split
      · rfl
      · split
        · rfl
        · exact failS_frm (S.del k) now2 e not_
    have hbs : (S.ansS now2 k e not_).hasBeside = true → now2 < (S.ansS now2 k e not_).besideT := fun hh => by
      have hS := has_sub hsp.p hmade.1 hmade.2 (fun o ho' => by rw [hopen] at ho'; exact (List.mem_filter.1 ho').1) hh
      have h5 := n5 hS
      rw [besideT_yes hS] at h5
      rw [besideT_yes hh, hfrm, hsp.p]; omega
    have hdue : (S.ansS now2 k e not_).due = true → now2 ≤ (S.ansS now2 k e not_).dueAt := by
      unfold CS.ansS
      split
      · intro hd; have := n4 hd; omega
      · split
        · intro hd; have := n4 hd; show now2 ≤ S.dueAt; omega
        · unfold CS.failS
          have hag : (CS.againS { S.del k with last := e } now2 not_).due = true → now2 ≤ (CS.againS { S.del k with last := e } now2 not_).dueAt := by
            unfold CS.againS
            split
            · intro hd; have := n4 hd; show now2 ≤ S.dueAt; omega
            · split
              · intro hd; have := n4 hd; show now2 ≤ S.dueAt; omega
              · intro _
                show now2 ≤ CS.at_ { S.del k with last := e } now2 not_
                unfold CS.at_
                have : 0 ≤ S.p.back * 2 ^ (S.made.toNat - 1) := Int.mul_nonneg hb0 (Int.le_of_lt (Int.pow_pos (by omega)))
                show now2 ≤ max not_ (now2 + S.p.back * 2 ^ (S.made.toNat - 1))
                omega
          split
          · intro hd; have := n4 hd; show now2 ≤ S.dueAt; omega
          · split
            · exact hag
            · split
              · intro hd; have := n4 hd; show now2 ≤ S.dueAt; omega
              · intro hd; have := n4 hd; show now2 ≤ S.dueAt; omega
    refine ⟨by rw [hsp.c]; omega, fun o ho' => ?_, hdue, fun e => Int.le_of_lt (hbs e), .inr hbs⟩
    rw [hsp.p]
    rw [hopen] at ho'
    have := n6 o (List.mem_filter.1 ho').1
    omega

/-- It begins. -/
theorem begin_tm {x : Cx} {y : Pol} {now : Int} (ht : 1 ≤ y.tmo) :
    (actS (newS x y) ((newS x y).beginS now)).over = true ∨ ((actS (newS x y) ((newS x y).beginS now)).over = false ∧ Tm (actS (newS x y) ((newS x y).beginS now)) now) := by
  obtain ⟨a1, a2⟩ := act_over (S := newS x y) (S1 := (newS x y).beginS now) rfl
  by_cases hd : x.dl ≤ now
  · left
    rw [a1]; unfold CS.beginS; rw [if_pos (by exact hd)]
  · right
    have e : (newS x y).beginS now = (newS x y).att now := by unfold CS.beginS; rw [if_neg (by exact hd)]
    have ho : ((newS x y).beginS now).over = false := by rw [e]; rfl
    rw [a2 ho, e]
    exact ⟨rfl, (tm_att (S := newS x y) (by show now < x.dl; omega) (fun o ho => (by cases ho)) ht (fun e => (by cases e))).1⟩

/-! What is told. -/

/-- All but the last: attempts that are sent, ahead of the deadline, and dropped. -/
def Mid (dl now : Int) (l : List Ac) : Prop := ∀ a ∈ l, (a.what = 1 ∧ now < dl) ∨ a.what = 4
structure EndL (S : CS) (now : Int) (l : List Ac) : Prop where
  how : ∃ A a, l = A ++ [a] ∧ Mid S.c.dl now A ∧ ((S.over = true ∧ a.what = 3 ∧ a.c = S.c) ∨ (S.over = false ∧ a.what = 2 ∧ a.at_ = S.nextT))

theorem act_end {S S1 : CS} {l : List Ac} {now : Int} (ho : S.over = false) (hm : Mid S1.c.dl now l) : EndL (actS S S1) now (actL S S1 l) := by
  obtain ⟨f1, f2, f3, f4, f5⟩ := fin_same S1
  unfold actS actL
  rw [if_neg (by rw [ho]; decide), if_neg (by rw [ho]; decide)]
  refine ⟨?_⟩
  unfold CS.finL
  split
  · rename_i h
    refine ⟨l ++ S1.open_.map dropA, ⟨3, 0, S1.c, S1.end_⟩, by simp, ?_, .inl ⟨by rw [f5]; exact h, rfl, f1.symm⟩⟩
    rw [f1]
    intro a ha
    rcases List.mem_append.1 ha with ha | ha
    · exact hm a ha
    · obtain ⟨o, _, rfl⟩ := List.mem_map.1 ha
      exact .inr rfl
  · rename_i h
    have h' : S1.over = false := by simpa using h
    refine ⟨l, ⟨2, S1.nextT, cx0, 0⟩, rfl, by rw [f1]; exact hm, .inr ⟨by rw [f5]; exact h', rfl, ?_⟩⟩
    unfold CS.fin; rw [h']; rfl

theorem mid_nil (dl now : Int) : Mid dl now [] := fun _ h => (by cases h)
theorem toS_mid (dl : Int) (S : CS) (now : Int) : Mid dl now (S.toS now).2 := by
  unfold CS.toS
  suffices ∀ (l : List (Int × Int × Cx)) (st : CS × List Ac), Mid dl now st.2 → Mid dl now (l.foldl (toStep now) st).2 from this _ _ (mid_nil _ _)
  intro l
  induction l with
  | nil => exact fun _ h => h
  | cons o l ih =>
    refine fun st h => ih _ ?_
    unfold toStep
    split
    · exact h
    · intro a ha
      rcases List.mem_append.1 ha with ha | ha
      · exact h a ha
      · rw [List.mem_singleton.1 ha]; exact .inr rfl
theorem fur_mid (S : CS) (now : Int) (B : Bk) : Mid S.c.dl now (S.furL now B) := by
  unfold CS.furL
  split
  · rename_i hm
    intro a ha
    rw [List.mem_singleton.1 ha]; exact .inl ⟨rfl, (mayS_of hm).2.2.1⟩
  · exact mid_nil _ _
theorem go_mid (S : CS) (now : Int) (B : Bk) : Mid S.c.dl now (S.goL now B) := by
  rcases goS_eq S now B with ⟨h1, h2⟩ | ⟨S1, a1, a2, a3, a4, a5, ⟨h1, h2⟩ | ⟨S2, b1, b2, b3, b4, b5, h1, h2⟩⟩
  · rw [h2]; exact mid_nil _ _
  · rw [h2, ← a1]; exact fur_mid _ _ _
  · rw [h2]; exact mid_nil _ _
theorem wake_mid {S : CS} (hok : S.Ok) {now : Int} (hn : -1000000000 ≤ now ∧ now ≤ 1000000) (B : Bk) : Mid (S.wakeS now B).c.dl now (S.wakeL now B) := by
  rw [(wake_spent hok hn B).c]
  have ht := toS_ok hok hn
  unfold CS.wakeL
  split
  · exact mid_nil _ _
  · split
    · exact toS_mid _ _ _
    · intro a ha
      rcases List.mem_append.1 ha with ha | ha
      · exact toS_mid _ _ _ a ha
      · have := go_mid (S.toS now).1 now B a ha
        rwa [ht.c] at this
theorem begin_mid (S : CS) (now : Int) : Mid (S.beginS now).c.dl now (S.beginL now) := by
  unfold CS.beginS CS.beginL
  split
  · exact mid_nil _ _
  · intro a ha
    rw [List.mem_singleton.1 ha]
    exact .inl ⟨rfl, by show now < S.c.dl; omega⟩

end Go.Proofs.Ytipmajcefcfnlaa
