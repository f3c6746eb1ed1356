/- A run: all that is told is gathered. -/
import Derived.Test.YtkpjjhiighakfaaGreatDoorB27
namespace Go.Proofs.YtkpjjhiighakfaaGreatDoor
open Go.RowKit

theorem stepOf_bd (l : List Int) (i : Nat) : (0 ≤ (stepOf l i).wait ∧ (stepOf l i).wait < 40) ∧ (0 ≤ (stepOf l i).not_ ∧ (stepOf l i).not_ < 300) ∧ (1 ≤ (stepOf l i).try_ ∧ (stepOf l i).try_ ≤ 4) := by
  have h1 := pick_bd l i (m := 40) (by omega)
  have h2 := pick_bd l (i + 1) (m := 100000) (by omega)
  have h3 := pick_bd l (i + 2) (m := 300) (by omega)
  unfold stepOf
  dsimp only
  refine ⟨h1, ?_, by omega⟩
  split
  · exact h3
  · omega
theorem stepsTo_get {l : List Int} {k i : Nat} {t : St} (h : (stepsTo l k)[i]? = some t) : t = stepOf l (3 * i) ∧ i < k := by
  unfold stepsTo at h
  rw [List.getElem?_map] at h
  obtain ⟨j, hj, rfl⟩ := Option.map_eq_some_iff.1 h
  obtain ⟨h1, h2⟩ := List.getElem?_eq_some_iff.1 hj
  rw [List.getElem_range] at h2
  rw [List.length_range] at h1
  exact ⟨by rw [h2], h1⟩
theorem steps_bd {l : List Int} {i : Nat} {t : St} (h : (stepsOf l)[i]? = some t) : (0 ≤ t.wait ∧ t.wait < 40) ∧ (0 ≤ t.not_ ∧ t.not_ < 300) ∧ (1 ≤ t.try_ ∧ t.try_ ≤ 4) := by
  rw [(stepsTo_get h).1]; exact stepOf_bd l _
theorem stepsN_le (l : List Int) : stepsN l ≤ 24 := Nat.min_le_left _ _

structure Rn where
  S : CS
  B : Bk
  now : Int
  all : List Ac

def Rn.step (r : Rn) (t : St) : Rn := ⟨r.S.doS r.B (r.now + t.wait) t, r.S.doB r.B (r.now + t.wait) t, r.now + t.wait, r.all ++ r.S.doL r.B (r.now + t.wait) t⟩

theorem CS.Ok.do_ {S : CS} (h : S.Ok) {now : Int} (hn : -1000000000 ≤ now ∧ now ≤ 1000000) (B : Bk) (t : St) (ht : -1000000000 ≤ t.not_ ∧ t.not_ ≤ 1000000) : (S.doS B now t).Ok := by
  unfold CS.doS
  split
  · exact h.act (h.ans _ _ hn ht)
  · exact h.act (h.wake hn B)
theorem Bk.Ok.do_ {B : Bk} (h : B.Ok) (S : CS) (now : Int) (t : St) : (S.doB B now t).Ok := by
  unfold CS.doB
  split
  · exact h
  · exact h.act S (h.wake S now)

theorem finL_len {S : CS} (h : S.Ok) : S.finL.length ≤ 9 := by
  have := h.len
  unfold CS.finL
  split
  · rw [List.length_append, List.length_map]; simp; omega
  · simp
theorem actL_len {S S1 : CS} {l : List Ac} {n : Nat} (h : S1.Ok) (hl : l.length ≤ n) : (actL S S1 l).length ≤ n + 9 := by
  have := finL_len h
  unfold actL
  split
  · simp
  · rw [List.length_append]; omega
theorem doL_len {S : CS} (h : S.Ok) {now : Int} (hn : -1000000000 ≤ now ∧ now ≤ 1000000) (B : Bk) (t : St) (ht : -1000000000 ≤ t.not_ ∧ t.not_ ≤ 1000000) : (S.doL B now t).length ≤ 909 := by
  unfold CS.doL
  split
  · exact Nat.le_trans (actL_len (n := 0) (h.ans _ _ hn ht) (Nat.le_refl _)) (by omega)
  · exact actL_len (h.wake hn B) (wakeL_len h hn B)

/-- What the loop knows: w1: the world at its start; s0: the block of what was told first. -/
structure RInv (w1 wr : World) (cb mb bb : Nat) (s0 : Option Nat) (x : Cx) (y : Pol) (i : Nat) (v : Value) (r : Rn) : Prop where
  at_ : CallAt wr cb mb bb r.S r.B
  ok : r.S.Ok
  bok : r.B.Ok
  now : 0 ≤ r.now ∧ r.now ≤ 40 * i
  paid : Paid x y r.S r.all
  row : ∃ sb, RowAt wr 42 12 v r.all.length (acsCells r.all) sb ∧ ∀ g, sb = some g → (s0 = some g ∨ w1.heap.size ≤ g) ∧ ¬ CFoot cb mb bb g
  len : r.all.length ≤ 1000 * (i + 1)
  fr : Fr (fun k => CFoot cb mb bb k ∨ s0 = some k) w1 wr

theorem RInv.push {w1 wr w' : World} {cb mb bb : Nat} {s0 : Option Nat} {x : Cx} {y : Pol} {i : Nat} {v u : Value} {r : Rn} (h : RInv w1 wr cb mb bb s0 x y i v r) (hi : i ≤ 30) {t : St} (ht1 : 0 ≤ t.wait ∧ t.wait < 40) (ht2 : 0 ≤ t.not_ ∧ t.not_ < 300)
    (hd : GR wr w' cb mb bb (r.S.doS r.B (r.now + t.wait) t) (r.S.doB r.B (r.now + t.wait) t) (r.S.doL r.B (r.now + t.wait) t) u) :
    ∃ v2 w2, (Builtin.append_ #[32, 32] 32 #[v, u]).run Tryz.prog w' = .ok v2 w2 ∧ RInv w1 w2 cb mb bb s0 x y (i + 1) v2 (r.step t) := by
  obtain ⟨h1, h2, h3, h4, h5, ⟨sb, h6, h7⟩, h8, h9⟩ := h
  obtain ⟨g1, ⟨sc, g2, g3⟩, g4⟩ := hd
  have hn : -1000000000 ≤ r.now + t.wait ∧ r.now + t.wait ≤ 1000000 := by omega
  have ht : -1000000000 ≤ t.not_ ∧ t.not_ ≤ 1000000 := by omega
  have hlen := doL_len h2 hn r.B t ht
  have k6 : RowAt w' 42 12 v r.all.length (acsCells r.all) sb := h6.below fun g hg => g4.block g (h6.lt g hg) (h7 g hg).2
  obtain ⟨la, lc, sb', w2, e1, e2, e3, e4⟩ := row_append_row (P := Tryz.prog) w' 32 32 42 _ 12 96 Tryz.underlying32 infoAc rfl k6 g2 (acsCells_one _) (by omega) (by omega)
  have hsb : ∀ k, sb = some k → ¬ CFoot cb mb bb k := fun k hk => (h7 k hk).2
  have hlt := g1.call.lt
  have hlb := (Array.getElem?_eq_some_iff.1 g1.bk).1
  have hkeep : ∀ k, CFoot cb mb bb k → w2.heap[k]? = w'.heap[k]? := fun k hk => e3.block k (by unfold CFoot at hk; omega) (fun e => hsb k e.symm hk)
  have hz9 := h9.size
  have hz4 := g4.size
  refine ⟨_, w2, e1, ⟨⟨g1.call.keep (hkeep _ (.inl rfl)) (hkeep _ (.inr (.inl rfl))), (hkeep _ (.inr (.inr rfl))).trans g1.bk, g1.ne⟩, h2.do_ hn r.B t ht, h3.do_ r.S _ t, ⟨by show 0 ≤ r.now + t.wait; omega, by show r.now + t.wait ≤ _; omega⟩, h5.step (do_spent h2 hn r.B t), ⟨sb', ?_, ?_⟩, ?_, ?_⟩⟩
  · show RowAt w2 _ 12 _ (r.all ++ _).length (acsCells (r.all ++ _)) sb'
    rw [List.length_append, acsCells_append]; exact e2
  · intro g hg
    rcases e4 with e | e
    · exact h7 g (e.symm.trans hg)
    · rw [hg] at e; cases e
      exact ⟨.inr (by omega), by unfold CFoot; omega⟩
  · show (r.all ++ _).length ≤ _
    rw [List.length_append]; omega
  · refine (h9.trans (g4.mono (F' := fun k => CFoot cb mb bb k ∨ s0 = some k) (fun b hb => .inl hb)) (fun b hb => .inl hb)).trans (Fr.ofGrown (F := fun k => sb = some k) e3 (fun k hk => hk)) (fun b hb => ?_)
    rcases (h7 b hb).1 with e | e
    · exact .inl (.inr e)
    · exact .inr e

theorem good_nonneg {l : List Ac} (h : GoodSends l) : ∀ a ∈ l, a.what = 1 → 0 ≤ a.c.purse := by
  intro a ha hw
  obtain ⟨A, F, rfl⟩ := List.append_of_mem ha
  exact (h A a F rfl hw).1
theorem along_pos {l : List Ac} (h : ∀ a ∈ l, a.what = 1 → 0 ≤ a.c.purse) : 0 ≤ alongOf l := by
  induction l with
  | nil => exact Int.le_refl _
  | cons a l ih =>
    have := ih fun b hb => h b (List.mem_cons_of_mem _ hb)
    rw [alongOf_cons]
    split
    · rename_i hw; have := h a (List.mem_cons_self ..) hw; omega
    · omega
theorem along_take {l : List Ac} (h : GoodSends l) (i : Nat) : 0 ≤ alongOf (l.take i) ∧ alongOf (l.take i) ≤ alongOf l := by
  have hn := good_nonneg h
  refine ⟨along_pos fun a ha => hn a (List.mem_of_mem_take ha), ?_⟩
  have e : alongOf l = alongOf (l.take i) + alongOf (l.drop i) := by rw [← alongOf_append, List.take_append_drop]
  have := along_pos (l := l.drop i) fun a ha => hn a (List.mem_of_mem_drop ha)
  omega
theorem sent_take (l : List Ac) (i : Nat) : sentOf (l.take i) ≤ sentOf l := by
  have e : sentOf l = sentOf (l.take i) + sentOf (l.drop i) := by rw [← sentOf_append, List.take_append_drop]
  omega
theorem take_at {l : List Ac} {i : Nat} {a : Ac} (h : l[i]? = some a) : l.take (i + 1) = l.take i ++ [a] ∧ l = l.take i ++ a :: l.drop (i + 1) := by
  obtain ⟨hi, he⟩ := List.getElem?_eq_some_iff.1 h
  refine ⟨by rw [List.take_add_one, h]; rfl, ?_⟩
  conv => lhs; rw [← List.take_append_drop i l, List.drop_eq_getElem_cons hi, he]

end Go.Proofs.YtkpjjhiighakfaaGreatDoor
