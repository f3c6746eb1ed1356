/- CallOpens: the plain law. -/
import Derived.Test.YtipmajcefcfnlaaB33
namespace Go.Proofs.Ytipmajcefcfnlaa
open Go.RowKit

def opnL (l : List (Int × Int × Cx)) : List Bool := (List.range 10).map fun n : Nat => l.any fun o : Int × Int × Cx => decide (o.1 = (n : Int))

theorem opnL_length (l : List (Int × Int × Cx)) : (opnL l).length = 10 := by simp [opnL]
theorem opnL_get (l : List (Int × Int × Cx)) {n : Nat} (hn : n < 10) : (opnL l)[n]? = some (l.any fun o => decide (o.1 = (n : Int))) := by
  unfold opnL
  rw [List.getElem?_map, List.getElem?_range hn]; rfl
theorem opnL_getD (l : List (Int × Int × Cx)) {n : Nat} (hn : n < 10) : (opnL l).getD n false = l.any fun o => decide (o.1 = (n : Int)) := by
  rw [List.getD_eq_getElem?_getD, opnL_get l hn]; rfl
theorem any_false {l : List (Int × Int × Cx)} {k : Int} (h : ∀ o ∈ l, o.1 ≠ k) : (l.any fun o => decide (o.1 = k)) = false := by
  rw [List.any_eq_false]; intro o ho; simpa using h o ho
theorem any_true {l : List (Int × Int × Cx)} {k : Int} {o : Int × Int × Cx} (h : o ∈ l) (e : o.1 = k) : (l.any fun o => decide (o.1 = k)) = true :=
  List.any_eq_true.2 ⟨o, h, decide_eq_true e⟩

theorem opnL_filter (l : List (Int × Int × Cx)) {k : Int} (h0 : 0 ≤ k) (h1 : k < 10) : opnL (l.filter fun x => decide (x.1 ≠ k)) = (opnL l).set k.toNat false := by
  refine List.ext_getElem? fun n => ?_
  by_cases hn : n < 10
  · rw [opnL_get _ hn, List.getElem?_set, opnL_length]
    by_cases e : k.toNat = n
    · rw [if_pos e, if_pos (by omega), any_false fun o ho => ?_]
      have := of_decide_eq_true (List.mem_filter.1 ho).2
      omega
    · rw [if_neg e, opnL_get _ hn]
      congr 1
      rw [Bool.eq_iff_iff, List.any_eq_true, List.any_eq_true]
      constructor
      · rintro ⟨o, ho, he⟩
        exact ⟨o, (List.mem_filter.1 ho).1, he⟩
      · rintro ⟨o, ho, he⟩
        refine ⟨o, List.mem_filter.2 ⟨ho, decide_eq_true ?_⟩, he⟩
        have := of_decide_eq_true he
        omega
  · rw [List.getElem?_eq_none (by rw [opnL_length]; omega), List.getElem?_eq_none (by rw [List.length_set, opnL_length]; omega)]

theorem opnL_snoc (l : List (Int × Int × Cx)) (o : Int × Int × Cx) (h0 : 0 ≤ o.1) (h1 : o.1 < 10) : opnL (l ++ [o]) = (opnL l).set o.1.toNat true := by
  refine List.ext_getElem? fun n => ?_
  by_cases hn : n < 10
  · rw [opnL_get _ hn, List.getElem?_set, opnL_length, List.any_append]
    by_cases e : o.1.toNat = n
    · rw [if_pos e, if_pos (by omega)]
      rw [show ([o].any fun o => decide (o.1 = (n : Int))) = true from any_true (List.mem_singleton.2 rfl) (by omega), Bool.or_true]
    · rw [if_neg e, opnL_get _ hn]
      rw [show ([o].any fun o => decide (o.1 = (n : Int))) = false from any_false fun x hx => by rw [List.mem_singleton.1 hx]; omega, Bool.or_false]
  · rw [List.getElem?_eq_none (by rw [opnL_length]; omega), List.getElem?_eq_none (by rw [List.length_set, opnL_length]; omega)]

theorem around_small {k m : Int} (h0 : 0 ≤ k) (h1 : k < m) : around k m = k := by
  unfold around; rw [if_neg (by omega)]; exact Int.emod_eq_of_lt h0 h1

/-! What is told, followed. -/

def trk1 (K : List Bool) (a : Ac) : Option (List Bool) :=
  if ¬ (0 ≤ a.c.try_ ∧ a.c.try_ < 10) then none else if a.what = 1 then (if K.getD (around a.c.try_ 10).toNat false then none else some (K.set (around a.c.try_ 10).toNat true))
  else if a.what = 4 then (if K.getD (around a.c.try_ 10).toNat false then some (K.set (around a.c.try_ 10).toNat false) else none) else some K
def trk : List Bool → List Ac → Option (List Bool)
  | K, [] => some K
  | K, a :: l => (trk1 K a).bind fun K' => trk K' l

theorem trk_append : ∀ (l l' : List Ac) (K K' : List Bool), trk K l = some K' → trk K (l ++ l') = trk K' l'
  | [], l', K, K', h => by injection h with h; rw [h]; rfl
  | a :: l, l', K, K', h => by
    unfold trk at h
    rw [List.cons_append]
    show (trk1 K a).bind (fun K' => trk K' (l ++ l')) = _
    cases h1 : trk1 K a with
    | none => rw [h1] at h; cases h
    | some K1 =>
      rw [h1] at h
      exact trk_append l l' K1 K' h

theorem trk_send {l : List (Int × Int × Cx)} {k : Int} (h0 : 0 ≤ k) (h1 : k < 10) (hn : ∀ o ∈ l, o.1 ≠ k) (o : Int × Int × Cx) (ho : o.1 = k) {a : Ac} (hw : a.what = 1) (ht : a.c.try_ = k) : trk (opnL l) [a] = some (opnL (l ++ [o])) := by
  show (trk1 (opnL l) a).bind (fun K' => some K') = _
  unfold trk1
  rw [if_neg (by rw [ht]; omega), if_pos hw, ht, around_small h0 h1, opnL_getD _ (by omega), any_false (fun o ho => by have := hn o ho; omega), if_neg (by decide), opnL_snoc _ _ (by omega) (by omega), ho]
  rfl
theorem trk_drop {l : List (Int × Int × Cx)} {o : Int × Int × Cx} (h0 : 0 ≤ o.1) (h1 : o.1 < 10) (ho : o ∈ l) {a : Ac} (hw : a.what = 4) (ht : a.c.try_ = o.1) : trk (opnL l) [a] = some (opnL (l.filter fun x => decide (x.1 ≠ o.1))) := by
  show (trk1 (opnL l) a).bind (fun K' => some K') = _
  unfold trk1
  rw [if_neg (by rw [ht]; omega), if_neg (by omega), if_pos hw, ht, around_small h0 h1, opnL_getD _ (by omega), any_true ho (by omega), if_pos rfl, opnL_filter _ h0 h1]
  rfl
theorem trk_none (K : List Bool) {a : Ac} (ht : a.c.try_ = 0) (h1 : a.what ≠ 1) (h4 : a.what ≠ 4) : trk K [a] = some K := by
  show (trk1 K a).bind (fun K' => some K') = _
  unfold trk1
  rw [if_neg (by rw [ht]; omega), if_neg h1, if_neg h4]; rfl

/-- Keys that rise, each its attempt's number. -/
structure OpT (l : List (Int × Int × Cx)) : Prop where
  keys : (l.map (·.1)).Pairwise (· < ·)
  bd : ∀ o ∈ l, 1 ≤ o.1 ∧ o.1 ≤ 8
  try_ : ∀ o ∈ l, o.2.2.try_ = o.1

theorem filter_head {o : Int × Int × Cx} {l : List (Int × Int × Cx)} (h : ((o :: l).map (·.1)).Pairwise (· < ·)) : ((o :: l).filter fun x => decide (x.1 ≠ o.1)) = l := by
  rw [List.map_cons, List.pairwise_cons] at h
  rw [List.filter_cons_of_neg (by simp), List.filter_eq_self.2]
  intro x hx
  have := h.1 x.1 (List.mem_map.2 ⟨x, hx, rfl⟩)
  exact decide_eq_true (by omega)

theorem trk_all : ∀ (l : List (Int × Int × Cx)), OpT l → trk (opnL l) (l.map dropA) = some (opnL [])
  | [], _ => rfl
  | o :: l, h => by
    have hb := h.bd o (List.mem_cons_self ..)
    have h1 := trk_drop (l := o :: l) (o := o) (by omega) (by omega) (List.mem_cons_self ..) (a := dropA o) rfl (h.try_ o (List.mem_cons_self ..))
    rw [filter_head h.keys] at h1
    rw [List.map_cons, show dropA o :: l.map dropA = [dropA o] ++ l.map dropA from rfl, trk_append _ _ _ _ h1]
    exact trk_all l ⟨by have := h.keys; rw [List.map_cons, List.pairwise_cons] at this; exact this.2, fun x hx => h.bd x (List.mem_cons_of_mem _ hx), fun x hx => h.try_ x (List.mem_cons_of_mem _ hx)⟩

structure OpI (S : CS) : Prop where
  ok : S.Ok
  c : S.c.try_ = 0
  t : ∀ o ∈ S.open_, o.2.2.try_ = o.1
  nil : S.over = true → S.open_ = []

theorem OpT.of {S : CS} (h : S.Ok) (t : ∀ o ∈ S.open_, o.2.2.try_ = o.1) : OpT S.open_ := ⟨h.keys, fun o ho => by have := h.keyb o ho; have := h.made; omega, t⟩

theorem fin_trk {S : CS} (h : S.Ok) (hc : S.c.try_ = 0) (t : ∀ o ∈ S.open_, o.2.2.try_ = o.1) : trk (opnL S.open_) S.finL = some (opnL S.fin.open_) ∧ OpI S.fin := by
  unfold CS.finL CS.fin
  split
  · refine ⟨?_, ⟨{ h with keys := List.Pairwise.nil, keyb := fun x hx => (by cases hx), ats := fun x hx => (by cases hx) }, hc, fun o ho => (by cases ho), fun _ => rfl⟩⟩
    rw [trk_append _ _ _ _ (trk_all _ (.of h t))]
    exact trk_none _ hc (by show (3 : Int) ≠ 1; omega) (by show (3 : Int) ≠ 4; omega)
  · rename_i ho
    exact ⟨trk_none _ rfl (by show (2 : Int) ≠ 1; omega) (by show (2 : Int) ≠ 4; omega), ⟨h, hc, t, fun e => absurd e ho⟩⟩

theorem act_trk {S S1 : CS} {l : List Ac} {K : List Bool} (hS : OpI S) (hK : S.over = true → K = opnL S.open_) (h : S1.Ok) (hc : S1.c = S.c) (t : ∀ o ∈ S1.open_, o.2.2.try_ = o.1) (hl : S.over = false → trk K l = some (opnL S1.open_)) :
    trk K (actL S S1 l) = some (opnL (actS S S1).open_) ∧ OpI (actS S S1) := by
  unfold actL actS
  cases ho : S.over with
  | true => rw [hK ho]; exact ⟨rfl, hS⟩
  | false =>
    obtain ⟨h1, h2⟩ := fin_trk h (by rw [hc]; exact hS.c) t
    refine ⟨?_, h2⟩
    show trk K (l ++ S1.finL) = some (opnL S1.fin.open_)
    rw [trk_append _ _ _ _ (hl ho)]; exact h1

theorem att_t {S : CS} (t : ∀ o ∈ S.open_, o.2.2.try_ = o.1) (now : Int) : ∀ o ∈ (S.att now).open_, o.2.2.try_ = o.1 := by
  intro o ho
  rcases List.mem_append.1 ho with h | h
  · exact t o h
  · rw [List.mem_singleton.1 h]; rfl

theorem fur_trk {S : CS} (h : S.Ok) (t : ∀ o ∈ S.open_, o.2.2.try_ = o.1) (now : Int) (B : Bk) : trk (opnL S.open_) (S.furL now B) = some (opnL (S.furS now B).open_) ∧ ∀ o ∈ (S.furS now B).open_, o.2.2.try_ = o.1 := by
  unfold CS.furL CS.furS
  split
  · rename_i hm
    obtain ⟨h1, _⟩ := mayS_of hm
    have h2 := h.tries
    have h3 := h.made
    refine ⟨?_, att_t (S := { S with left := S.left - 1 }) t now⟩
    exact trk_send (k := S.made + 1) (by omega) (by omega) (fun o ho => by have := h.keyb o ho; omega) _ rfl rfl rfl
  · exact ⟨rfl, t⟩

theorem go_trk {S : CS} (h : S.Ok) (t : ∀ o ∈ S.open_, o.2.2.try_ = o.1) (now : Int) (B : Bk) : trk (opnL S.open_) (S.goL now B) = some (opnL (S.goS now B).open_) ∧ ∀ o ∈ (S.goS now B).open_, o.2.2.try_ = o.1 := by
  rcases goS_eq S now B with ⟨h1, h2⟩ | ⟨S1, a1, a2, a3, a4, a5, ⟨h1, h2⟩ | ⟨S2, b1, b2, b3, b4, b5, h1, h2⟩⟩
  · rw [h1, h2]; exact ⟨rfl, t⟩
  · rw [h1, h2, ← a5]
    have hd : CS.Ok { S with due := false, over := false } := { h with dueAt := fun e => by cases e }
    have t1 : ∀ o ∈ S1.open_, o.2.2.try_ = o.1 := by rw [a5]; exact t
    unfold CS.furL CS.furS
    split
    · rename_i hm
      obtain ⟨g1, _⟩ := mayS_of hm
      have g2 := h.tries
      have g3 := h.made
      rw [← a2] at g2
      rw [← a3] at g3
      refine ⟨?_, att_t (S := { S1 with left := S1.left - 1 }) t1 now⟩
      exact trk_send (k := S1.made + 1) (by omega) (by omega) (fun o ho => by rw [a5] at ho; have := h.keyb o ho; rw [a3]; omega) _ rfl rfl rfl
    · exact ⟨rfl, t1⟩
  · rw [h1, h2, b5]; exact ⟨rfl, t⟩

theorem to_trk {now : Int} (hn : -1000000000 ≤ now ∧ now ≤ 1000000) {K : List Bool} : ∀ (l : List (Int × Int × Cx)) (st : CS × List Ac), (∀ o ∈ l, o ∈ st.1.open_ ∨ st.1.over = true) → (l.map (·.1)).Pairwise (· < ·) → st.1.Ok → (∀ o ∈ st.1.open_, o.2.2.try_ = o.1) → trk K st.2 = some (opnL st.1.open_) →
    trk K (l.foldl (toStep now) st).2 = some (opnL (l.foldl (toStep now) st).1.open_) ∧ ∀ o ∈ (l.foldl (toStep now) st).1.open_, o.2.2.try_ = o.1
  | [], st, _, _, _, t, h => ⟨h, t⟩
  | o :: l, st, hm, hp, hok, t, h => by
    rw [List.map_cons, List.pairwise_cons] at hp
    rw [List.foldl_cons]
    by_cases hs : (st.1.over || decide (now - o.2.1 < st.1.p.tmo)) = true
    · have e : toStep now st o = st := by unfold toStep; rw [if_pos hs]
      rw [e]
      exact to_trk hn l st (fun x hx => hm x (List.mem_cons_of_mem _ hx)) hp.2 hok t h
    · have e : toStep now st o = ((st.1.del o.1).failS now 37 0, st.2 ++ [⟨4, 0, o.2.2, 37⟩]) := by unfold toStep; rw [if_neg hs]
      have ho : o ∈ st.1.open_ := (hm o (List.mem_cons_self ..)).resolve_right fun e => hs (by rw [e]; rfl)
      have hb := hok.keyb o ho
      have hmd := hok.made
      obtain ⟨f1, _⟩ := failS_same (st.1.del o.1) now 37 0
      rw [e]
      refine to_trk hn l _ (fun x hx => ?_) hp.2 (CS.Ok.fail (e := 37) (not_ := 0) (hok.del o.1) (by show 1 ≤ st.1.made; omega) hn ⟨by omega, by omega⟩) (by rw [f1]; exact fun x hx => t x (List.mem_filter.1 hx).1) ?_
      · rcases hm x (List.mem_cons_of_mem _ hx) with h1 | h1
        · left
          rw [f1]
          refine List.mem_filter.2 ⟨h1, decide_eq_true ?_⟩
          have := hp.1 x.1 (List.mem_map.2 ⟨x, hx, rfl⟩)
          omega
        · exact absurd (by rw [h1]; rfl) hs
      · show trk K (st.2 ++ [⟨4, 0, o.2.2, 37⟩]) = some (opnL ((st.1.del o.1).failS now 37 0).open_)
        rw [trk_append _ _ _ _ h, f1]
        exact trk_drop (by omega) (by omega) ho rfl (t o ho)

theorem wake_trk {S : CS} (h : S.Ok) (t : ∀ o ∈ S.open_, o.2.2.try_ = o.1) {now : Int} (hn : -1000000000 ≤ now ∧ now ≤ 1000000) (B : Bk) :
    trk (opnL S.open_) (S.wakeL now B) = some (opnL (S.wakeS now B).open_) ∧ ∀ o ∈ (S.wakeS now B).open_, o.2.2.try_ = o.1 := by
  have ht : trk (opnL S.open_) (S.toS now).2 = some (opnL (S.toS now).1.open_) ∧ ∀ o ∈ (S.toS now).1.open_, o.2.2.try_ = o.1 := to_trk hn (K := opnL S.open_) S.open_ (S, []) (fun o ho => .inl ho) h.keys h t rfl
  have hok := toS_ok h hn
  unfold CS.wakeL CS.wakeS
  split
  · exact ⟨rfl, t⟩
  · split
    · exact ht
    · have hg := go_trk hok.ok ht.2 now B
      refine ⟨?_, hg.2⟩
      rw [trk_append _ _ _ _ ht.1]; exact hg.1

theorem ans_open (S : CS) (now k e not_ : Int) : (S.ansS now k e not_).open_ = S.open_.filter fun x => decide (x.1 ≠ k) := by
  unfold CS.ansS
  split
  · rename_i hk
    refine (List.filter_eq_self.2 fun x hx => ?_).symm
    have hne : x.1 ≠ k := fun e => by
      have : S.hasK k = true := any_true hx e
      rw [this] at hk; cases hk
    simpa using hne
  · split
    · rfl
    · exact (failS_same (S.del k) now e not_).1

/-- What the law has, ahead of what a step tells. -/
def preK (S : CS) (t : St) : List Bool := if t.do_ < 3 then (opnL S.open_).set t.try_.toNat false else opnL S.open_

theorem do_trk {S : CS} (h : OpI S) {now : Int} (hn : -1000000000 ≤ now ∧ now ≤ 1000000) (B : Bk) (t : St) (ht : -1000000000 ≤ t.not_ ∧ t.not_ ≤ 1000000) (hk : 1 ≤ t.try_ ∧ t.try_ ≤ 4) :
    trk (preK S t) (S.doL B now t) = some (opnL (S.doS B now t).open_) ∧ OpI (S.doS B now t) := by
  unfold preK CS.doL CS.doS
  split
  · refine act_trk h (fun ho => ?_) (h.ok.ans _ _ hn ht) (ans_spent S now _ _ _).c (fun o ho => ?_) (fun _ => ?_)
    · rw [← opnL_filter _ (by omega) (by omega), h.nil ho]; rfl
    · rw [ans_open] at ho; exact h.t o (List.mem_filter.1 ho).1
    · rw [ans_open, opnL_filter _ (by omega) (by omega)]; rfl
  · have hw := wake_trk h.ok h.t hn B
    exact act_trk h (fun _ => rfl) (h.ok.wake hn B) (wake_spent h.ok hn B).c hw.2 (fun _ => hw.1)

theorem first_trk {x : Cx} {y : Pol} (hok : (newS x y).Ok) (hx : x.try_ = 0) : trk (List.replicate 10 false) (newS x y).firstL = some (opnL (newS x y).first.open_) ∧ OpI (newS x y).first := by
  have h0 : OpI (newS x y) := ⟨hok, hx, fun o ho => (by cases ho), fun _ => rfl⟩
  refine act_trk h0 (fun e => by cases e) (hok.begin (by show (0 : Int) < 8; omega) (by omega)) ?_ ?_ (fun _ => ?_)
  · unfold CS.beginS; split <;> rfl
  · unfold CS.beginS
    split
    · exact fun o ho => by cases ho
    · exact att_t h0.t 0
  · unfold CS.beginS CS.beginL
    split
    · rfl
    · exact trk_send (l := []) (k := 1) (by omega) (by omega) (fun o ho => by cases ho) _ rfl rfl rfl

/-! How many. -/

def many (K : List Bool) : Nat := (K.filter fun b => b).length
theorem many_take {K : List Bool} {n : Nat} {b : Bool} (h : K[n]? = some b) : many (K.take (n + 1)) = many (K.take n) + (if b then 1 else 0) := by
  unfold many
  rw [List.take_add_one, h, List.filter_append, List.length_append]
  cases b <;> rfl
theorem many_set : ∀ (K : List Bool) (n : Nat), K[n]? = some false → many (K.set n true) = many K + 1
  | [], n, h => by simp at h
  | b :: K, 0, h => by
    have : b = false := by simpa using h
    subst this; rfl
  | b :: K, n + 1, h => by
    have := many_set K n (by simpa using h)
    unfold many at this ⊢
    rw [List.set_cons_succ]
    cases b
    · simpa using this
    · simpa using this
theorem many_open' : ∀ (r : List (Int × Int × Cx)), (r.reverse.map (·.1)).Nodup → (∀ o ∈ r.reverse, 1 ≤ o.1 ∧ o.1 ≤ 8) → many (opnL r.reverse) = r.length
  | [], _, _ => rfl
  | o :: r, hn, hb => by
    rw [List.reverse_cons] at hn hb ⊢
    rw [List.map_append, List.nodup_append] at hn
    have h1 := hb o (by simp)
    rw [opnL_snoc _ o (by omega) (by omega), many_set, many_open' r hn.1 (fun x hx => hb x (List.mem_append_left _ hx)), List.length_cons]
    rw [opnL_get _ (by omega), any_false fun x hx e => ?_]
    exact hn.2.2 x.1 (List.mem_map.2 ⟨x, hx, rfl⟩) o.1 (by simp) (by omega)
theorem many_open {l : List (Int × Int × Cx)} (h : OpT l) : many (opnL l) = l.length := by
  have := many_open' l.reverse (by rw [List.reverse_reverse]; exact h.keys.imp fun h e => by omega) (by rw [List.reverse_reverse]; exact h.bd)
  rwa [List.reverse_reverse, List.length_reverse] at this

end Go.Proofs.Ytipmajcefcfnlaa
