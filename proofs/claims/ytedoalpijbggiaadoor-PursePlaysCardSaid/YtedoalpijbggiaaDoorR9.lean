/- PursePlays: what goes on, act by act (plain). -/
import Derived.Test.YtedoalpijbggiaaDoorR8
import Derived.Test.YtedoalpijbggiaaDoorP12
import Derived.Test.YtedoalpijbggiaaDoorShort
namespace Go.Proofs.YtedoalpijbggiaaDoor
open Go.RowKit Go.Lib

/-- An act of whatever numbers and texts. -/
structure PA.Any (a : PA) : Prop where
  n : -9223372036854775808 ≤ a.n ∧ a.n ≤ 9223372036854775807
  req : -9223372036854775808 ≤ a.req ∧ a.req ≤ 9223372036854775807
  from_ : a.from_.size ≤ 2147483647
  too : a.to.size ≤ 2147483647
theorem PA.Ok.any {a : PA} (h : a.Ok) : a.Any := by
  obtain ⟨r, hr, h1, h2, hh⟩ := h.req
  obtain ⟨r', h1', h2', hh'⟩ := h.to
  have := h.n
  exact ⟨by omega, by omega, hh.size, hh'.size⟩
theorem PA.Any.env {a : PA} (h : a.Any) {w : World} (hE : Env w) : ActEnv w a :=
  ⟨h.n, fun _ W hb => itoa_all a.req h.req W (hE.below hb).pow, fun _ h1 h2 => reqOf_dec h1 h2, fun _ W hb => request_all a.from_ h.from_ W (hE.below hb), fun _ W hb => request_all a.to h.too W (hE.below hb)⟩

theorem Rel.act {R : RL} {L : Led} (h : Rel R L) (a : PA) : R.actE a = L.actE a ∧ Rel (R.actS a) (L.actS a) := by
  unfold RL.actE RL.actS Led.actE Led.actS
  by_cases h0 : a.do_ = 0
  · rw [if_pos h0, if_pos h0, if_pos h0, if_pos h0]
    refine ⟨h.mintE _ _, ?_⟩
    unfold Led.mintS
    rw [h.mintE]
    split
    · rename_i e
      have : 1 ≤ a.req ∧ a.req ≤ 2147483647 := by
        unfold Led.mintE at e
        split at e
        · cases e
        · omega
      exact h.mint this.1 this.2
    · exact h
  · rw [if_neg h0, if_neg h0, if_neg h0, if_neg h0]
    by_cases h1 : a.do_ = 1
    · rw [if_pos h1, if_pos h1, if_pos h1, if_pos h1]
      refine ⟨h.moveE _ _ _, ?_⟩
      unfold Led.moveS
      rw [h.moveE]
      split
      · rename_i e; exact h.move e
      · exact h
    · rw [if_neg h1, if_neg h1, if_neg h1, if_neg h1]
      refine ⟨h.spendE _ _, ?_⟩
      unfold Led.spendS
      rw [h.spendE]
      split
      · rename_i e; exact h.spend e
      · exact h

theorem dec_size (r : Int) (h : -9223372036854775808 ≤ r ∧ r ≤ 9223372036854775807) : (dec r).size ≤ 2147483647 := by
  have := numText_size r h
  show (numText r).size ≤ _
  omega
theorem put_len (l : List Ent) (s : ByteArray) (n : Int) : (putR l s n).length ≤ l.length + 1 := by
  unfold putR
  rw [List.length_append, List.length_map]
  split <;> simp
/-- Plain facts of the two ledgers behind i acts. -/
structure PlF (R : RL) (L : Led) (i : Nat) : Prop where
  rel : Rel R L
  ok : L.Ok
  lh : R.has.length ≤ 2 * i
  lm : R.made.length ≤ i
  ls : R.spent.length ≤ i
  nz : ∀ x ∈ R.has, x.1.size ≤ 2147483647
theorem PlF.start : PlF ⟨[], [], []⟩ led0 0 := ⟨Rel.start, led0_ok, Nat.le_refl _, Nat.le_refl _, Nat.le_refl _, fun x hx => by cases hx⟩
theorem PlF.small {R : RL} {L : Led} {i : Nat} (h : PlF R L i) (hi : i ≤ 30) : R.Small := by
  have h1 := h.lh; have h2 := h.lm; have h3 := h.ls
  exact ⟨by omega, by omega, by omega⟩
theorem PlF.act {R : RL} {L : Led} {i : Nat} (h : PlF R L i) {a : PA} (ha : a.Any) (hok : (L.actS a).Ok) : PlF (R.actS a) (L.actS a) (i + 1) := by
  have h1 := h.lh; have h2 := h.lm; have h3 := h.ls
  refine ⟨(h.rel.act a).2, hok, ?_, ?_, ?_, ?_⟩
  all_goals unfold RL.actS
  · split
    · split
      · have := put_len R.has (dec a.req) a.n; show (putR R.has (dec a.req) a.n).length ≤ _; omega
      · omega
    · split
      · split
        · have e1 := put_len R.has a.from_ (-a.n); have e2 := put_len (putR R.has a.from_ (-a.n)) a.to a.n; show (putR (putR R.has a.from_ (-a.n)) a.to a.n).length ≤ _; omega
        · omega
      · split
        · have := put_len R.has a.from_ (-a.n); show (putR R.has a.from_ (-a.n)).length ≤ _; omega
        · omega
  · split
    · split
      · have := put_len R.made (dec a.req) a.n; show (putR R.made (dec a.req) a.n).length ≤ _; omega
      · omega
    · split
      · split
        · show R.made.length ≤ _; omega
        · omega
      · split
        · show R.made.length ≤ _; omega
        · omega
  · split
    · split
      · have := put_len R.spent (dec a.req) 0; show (putR R.spent (dec a.req) 0).length ≤ _; omega
      · omega
    · split
      · split
        · show R.spent.length ≤ _; omega
        · omega
      · split
        · have := put_len R.spent (dec (reqOf a.from_)) a.n; show (putR R.spent (dec (reqOf a.from_)) a.n).length ≤ _; omega
        · omega
  · have hz := h.nz
    split
    · split
      · exact mem_put (P := fun s => s.size ≤ 2147483647) hz (dec_size _ ha.req)
      · exact hz
    · split
      · split
        · exact mem_put (P := fun s => s.size ≤ 2147483647) (mem_put (P := fun s => s.size ≤ 2147483647) hz ha.from_) ha.too
        · exact hz
      · split
        · exact mem_put (P := fun s => s.size ≤ 2147483647) hz ha.from_
        · exact hz

abbrev LC (v1 v2 v3 : Value) : Obj := .cells #[v1, v2, v3] 29 (0, 0)
/-- What stands in memory between acts. -/
structure PlI (w wr : World) (gb lb sb rb : Nat) (A : List PA) (va v1 v2 v3 : Value) (L : Led) (R : RL) : Prop where
  led : LedAt wr gb lb sb L
  at_ : RLAt wr v1 v2 v3 R
  box : wr.heap[rb]? = some (LC v1 v2 v3)
  acts : ∃ ab, RowAt wr 24 5 va A.length (pasCells A) ab
  ne : ¬ LFoot gb lb sb rb
  new : w.heap.size ≤ lb ∧ w.heap.size ≤ sb ∧ w.heap.size ≤ rb
  below : Below w.heap.size w wr

theorem PlI.keep {w wr w' : World} {gb lb sb rb : Nat} {A : List PA} {va v1 v2 v3 : Value} {L : Led} {R : RL} (h : PlI w wr gb lb sb rb A va v1 v2 v3 L R) (hb : Below wr.heap.size wr w') : PlI w w' gb lb sb rb A va v1 v2 v3 L R := by
  obtain ⟨h1, h2, h3, ⟨ab, h4⟩, h5, h6, h7⟩ := h
  exact ⟨h1.below hb, h2.below hb, (hb.block _ (Array.getElem?_eq_some_iff.1 h3).1).trans h3, ⟨ab, h4.keep hb⟩, h5, h6, btrans h7 hb⟩
theorem row_ne {w : World} {T s n g b : Nat} {v : Value} {cs : List Value} {o : Obj} (h : RowAt w T s v n cs (some g)) (hb : w.heap[b]? = some o) (ho : ∀ cur, o ≠ .cells cur T (0, 0)) : g ≠ b := by
  intro e
  subst e
  rcases h.2.2 with ⟨_, _, h3⟩ | ⟨g', off, cap, cur', hv, hsg, hh, _⟩
  · cases h3
  · cases hsg
    rw [hb] at hh
    exact ho _ (Option.some.inj hh)
theorem LedAt.maps {w : World} {gb lb sb : Nat} {L : Led} (h : LedAt w gb lb sb L) : (∃ es c, w.heap[lb]? = some (.map es c)) ∧ ∃ es c, w.heap[sb]? = some (.map es c) := by
  obtain ⟨h1, ⟨m, h2, h2'⟩, ⟨m', h3, h3'⟩, h4⟩ := h
  obtain ⟨_, es, c, e, _⟩ := h2
  obtain ⟨_, es', c', e', _⟩ := h3
  exact ⟨⟨es, c, e⟩, es', c', e'⟩
theorem PlI.did {w wr w' : World} {gb lb sb rb : Nat} {A : List PA} {va v1 v2 v3 : Value} {L L' : Led} {R : RL} {er : Int} {e : Ending} (h : PlI w wr gb lb sb rb A va v1 v2 v3 L R) (hd : Did wr gb lb sb L' er e w') : PlI w w' gb lb sb rb A va v1 v2 v3 L' R := by
  obtain ⟨h1, h2, h3, ⟨ab, h4⟩, h5, h6, h7⟩ := h
  obtain ⟨_, hc, _⟩ := hd
  have hF := hc.fr
  obtain ⟨⟨es, c, e1⟩, es', c', e2⟩ := h1.maps
  have hr : ∀ {T s n g : Nat} {v : Value} {cs : List Value}, RowAt wr T s v n cs (some g) → ¬ LF lb sb g := fun hg e => by
    rcases e with e | e
    · exact row_ne hg e1 (fun _ h => by cases h) e
    · exact row_ne hg e2 (fun _ h => by cases h) e
  refine ⟨hc.at_, ?_, ?_, ⟨ab, h4.below fun g e => hF.block g (h4.lt g e) (hr (e ▸ h4))⟩, h5, h6, ?_⟩
  · obtain ⟨⟨b1, k1⟩, ⟨b2, k2⟩, b3, k3⟩ := h2
    exact ⟨⟨b1, k1.keep fun g e => hF.block g (k1.lt g e) (hr (T := oneK.T) (e ▸ k1))⟩, ⟨b2, k2.keep fun g e => hF.block g (k2.lt g e) (hr (T := oneK.T) (e ▸ k2))⟩, b3, k3.keep fun g e => hF.block g (k3.lt g e) (hr (T := oneK.T) (e ▸ k3))⟩
  · exact (hF.block _ (Array.getElem?_eq_some_iff.1 h3).1 (fun e => h5 (by rcases e with e | e; exact .inr (.inl e); exact .inr (.inr e)))).trans h3
  · exact ((Fr.ofBelow (F := LF lb sb) h7).trans hF (fun b h => .inl h)).toBelow (fun k hk e => by unfold LF at e; omega)
/-- The reference's ledger is another one. -/
theorem PlI.store {w wr W9 : World} {gb lb sb rb : Nat} {A : List PA} {va v1 v2 v3 u1 u2 u3 : Value} {L : Led} {R R' : RL} (h : PlI w wr gb lb sb rb A va v1 v2 v3 L R) (hu : RLAt wr u1 u2 u3 R') (y9 : W9.heap[rb]? = some (LC u1 u2 u3)) (f : Fr (fun k => k = rb) wr W9) : PlI w W9 gb lb sb rb A va u1 u2 u3 L R' := by
  obtain ⟨h1, h2, h3, ⟨ab, h4⟩, h5, h6, h7⟩ := h
  refine ⟨h1.keep fun k hk => f.block k (h1.lt k hk) (fun e => h5 (e ▸ hk)), hu.store h3 f, y9, ⟨ab, h4.below fun g e => f.block g (h4.lt g e) (row_ne (e ▸ h4) h3 (fun cur e2 => ?_))⟩, h5, h6, f.behind h7 h6.2.2⟩
  injection e2 with _ e3 _
  revert e3
  show (29 : Nat) = 24 → False
  decide

end Go.Proofs.YtedoalpijbggiaaDoor
