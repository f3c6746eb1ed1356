/- Walks: Set. -/
import Derived.Test.YtcplimefklnknaaA9
import Derived.Deep.DeepCutAuto
import Derived.Test.YtcplimefklnknaaSplit
namespace Go.Proofs.Ytcplimefklnknaa
open Go.RowKit
attribute [local go_sem ↓] Go.wp_at_zero Go.wp_at_succ

/-- The row with a new entry, behind all that are due by its tick. -/
def insE (l : List Ent) (e : Ent) : List Ent := l.filter (fun x => decide (x.1 ≤ e.1)) ++ e :: l.filter (fun x => decide (e.1 < x.1))

/-- A sorted row is parted by a tick. -/
theorem part_at {l : List Ent} (hs : l.Pairwise ltE) (t : Int) : l = l.filter (fun x => decide (x.1 ≤ t)) ++ l.filter (fun x => decide (t < x.1)) := by
  induction l with
  | nil => rfl
  | cons a l ih =>
    rw [List.pairwise_cons] at hs
    by_cases h : a.1 ≤ t
    · rw [List.filter_cons_of_pos (by simpa using h), List.filter_cons_of_neg (by simp; omega), List.cons_append, ← ih hs.2]
    · have h1 : ∀ x ∈ l, t < x.1 := fun x hx => by have := hs.1 x hx; unfold ltE at this; omega
      rw [List.filter_cons_of_neg (by simpa using h), List.filter_cons_of_pos (by simp; omega)]
      rw [List.filter_eq_nil_iff.2 (fun x hx => by have := h1 x hx; simp; omega), List.filter_eq_self.2 (fun x hx => by have := h1 x hx; simpa using this)]
      rfl

/-- Where a new entry is to stand. -/
theorem place_new {l : List Ent} {turn : Nat} (hok : RowOk l turn) {r : Nat} {e : Ent} (he : e.2.1 = (turn : Int) + 1) (hrl : r ≤ l.length) (hr0 : r = 0 ∨ ∃ x, l[r-1]? = some x ∧ geE x.1 x.2.1 e.1 e.2.1 = false)
    (hr1 : r = l.length ∨ ∃ x, l[r]? = some x ∧ geE x.1 x.2.1 e.1 e.2.1 = true) : l.take r ++ e :: l.drop r = insE l e := by
  have hs := hok.sorted
  have hlt : ∀ x ∈ l, ltE x e ↔ x.1 ≤ e.1 := fun x hx => by have := hok.turns x hx; unfold ltE; omega
  have h1 : ∀ x ∈ l.take r, x.1 ≤ e.1 := by
    intro x hx
    obtain ⟨j, hj, rfl⟩ := List.mem_iff_getElem.1 hx
    rw [List.length_take] at hj
    rw [List.getElem_take]
    rcases hr0 with h0 | ⟨y, hy, hg⟩
    · omega
    · obtain ⟨hyl, rfl⟩ := List.getElem?_eq_some_iff.1 hy
      have h2 := (hlt _ (List.getElem_mem hyl)).1 ((geE_iff _ _).1 hg)
      rcases Nat.lt_or_ge j (r - 1) with h3 | h3
      · have := List.pairwise_iff_getElem.1 hs j (r - 1) (by omega) hyl h3
        unfold ltE at this; omega
      · have h4 : j = r - 1 := by omega
        subst h4; exact h2
  have h2 : ∀ x ∈ l.drop r, e.1 < x.1 := by
    intro x hx
    obtain ⟨j, hj, rfl⟩ := List.mem_iff_getElem.1 hx
    rw [List.length_drop] at hj
    rw [List.getElem_drop]
    rcases hr1 with h0 | ⟨y, hy, hg⟩
    · omega
    · obtain ⟨hyl, rfl⟩ := List.getElem?_eq_some_iff.1 hy
      have h2 : ¬ l[r].1 ≤ e.1 := fun h => (geE_true _ _).1 hg ((hlt _ (List.getElem_mem hyl)).2 h)
      rcases Nat.eq_zero_or_pos j with h3 | h3
      · subst h3; simpa using h2
      · have := List.pairwise_iff_getElem.1 hs r (r + j) hyl (by omega) (by omega)
        unfold ltE at this; omega
  unfold insE
  have e1 : l.filter (fun x => decide (x.1 ≤ e.1)) = l.take r := by
    conv => lhs; rw [← List.take_append_drop r l]
    rw [List.filter_append, List.filter_eq_self.2 (fun x hx => by simpa using h1 x hx), List.filter_eq_nil_iff.2 (fun x hx => by have := h2 x hx; simp; omega), List.append_nil]
  have e2 : l.filter (fun x => decide (e.1 < x.1)) = l.drop r := by
    conv => lhs; rw [← List.take_append_drop r l]
    rw [List.filter_append, List.filter_eq_nil_iff.2 (fun x hx => by have := h1 x hx; simp; omega), List.filter_eq_self.2 (fun x hx => by simpa using h2 x hx), List.nil_append]
  rw [e1, e2]

theorem mem_insE {l : List Ent} {e x : Ent} : x ∈ insE l e ↔ x = e ∨ x ∈ l := by
  unfold insE
  simp only [List.mem_append, List.mem_cons, List.mem_filter, decide_eq_true_eq]
  constructor
  · rintro (h | h | h)
    · exact .inr h.1
    · exact .inl h
    · exact .inr h.1
  · rintro (h | h)
    · exact .inr (.inl h)
    · by_cases h' : x.1 ≤ e.1
      · exact .inl ⟨h, h'⟩
      · exact .inr (.inr ⟨h, by omega⟩)

theorem insE_perm {l : List Ent} (hs : l.Pairwise ltE) (e : Ent) : (insE l e).Perm (e :: l) := by
  conv => rhs; rw [part_at hs e.1]
  exact List.perm_middle

theorem RowOk.insert {l : List Ent} {turn : Nat} (h : RowOk l turn) {e : Ent} (he : e.2.1 = (turn : Int) + 1) (hid : ∀ x ∈ l, x.2.2 ≠ e.2.2) : RowOk (insE l e) (turn + 1) := by
  have hp := insE_perm h.sorted e
  refine ⟨?_, ?_, ?_, ?_⟩
  · unfold insE
    rw [List.pairwise_append]
    refine ⟨h.sorted.sublist List.filter_sublist, ?_, ?_⟩
    · rw [List.pairwise_cons]
      refine ⟨fun x hx => ?_, h.sorted.sublist List.filter_sublist⟩
      have := (List.mem_filter.1 hx).2
      unfold ltE; simp at this; omega
    · intro x hx y hy
      have h1 := List.mem_filter.1 hx
      have h2 : x.1 ≤ e.1 := by simpa using h1.2
      have h3 := h.turns x h1.1
      rcases List.mem_cons.1 hy with rfl | hy
      · unfold ltE; omega
      · have := (List.mem_filter.1 hy).2
        unfold ltE; simp at this; omega
  · rw [(hp.map (·.2.2)).nodup_iff, List.map_cons, List.nodup_cons]
    refine ⟨fun hm => ?_, h.ids⟩
    obtain ⟨x, hx, hx'⟩ := List.mem_map.1 hm
    exact hid x hx hx'
  · intro x hx
    rcases mem_insE.1 hx with rfl | hx
    · omega
    · have := h.turns x hx; omega
  · rw [hp.length_eq, List.length_cons]; have := h.len; omega

theorem find_none_of {l : List Ent} {id : Int} (h : ∀ x ∈ l, x.2.2 ≠ id) : l.find? (fun e => decide (e.2.2 = id)) = none := by
  rw [List.find?_eq_none]; intro x hx; simpa using h x hx

theorem find_insE {l : List Ent} {e : Ent} (hs : l.Pairwise ltE) (hid : ∀ x ∈ l, x.2.2 ≠ e.2.2) (id : Int) :
    (insE l e).find? (fun x => decide (x.2.2 = id)) = if e.2.2 = id then some e else l.find? (fun x => decide (x.2.2 = id)) := by
  by_cases h : e.2.2 = id
  · rw [if_pos h]
    unfold insE
    rw [List.find?_append, find_none_of (fun x hx => by rw [← h]; exact hid x (List.mem_filter.1 hx).1)]
    simp [h]
  · rw [if_neg h]
    conv => rhs; rw [part_at hs e.1]
    unfold insE
    rw [List.find?_append, List.find?_append, List.find?_cons]
    simp [h]

/-- The row behind a Set. -/
def setE (l : List Ent) (turn : Nat) (at_ id : Int) : List Ent := insE (l.filter (fun e => decide (e.2.2 ≠ id))) (at_, (turn : Int) + 1, id)

theorem set_place {W0 : World} {pb mb turn : Nat} {sb : Option Nat} {L : List Ent} {E : Ent} {lv : Value} {at_ id : Int} (hok : RowOk L turn) (hE : E = (at_, (turn : Int) + 1, id))
    (hp0 : W0.heap[pb]? = some (.cells #[lv, .map (some mb), .int .i64 ((turn : Int) + 1)] 50 (0, 0))) (hr0 : RowAt W0 45 3 lv L.length (entCells L) sb) :
    ∀ W, Below W0.heap.size W0 W → Calls Try.prog 22 #[.pointer (some ⟨pb, 0, none⟩), .agg #[.int .i64 at_, .int .i64 ((turn : Int) + 1), .int .i64 id]] W fun e w' => ∃ r : Nat, e = .returned (.int .i64 r) ∧ Hid (r ≤ L.length ∧ L.take r ++ E :: L.drop r = insE L E) ∧ Below W0.heap.size W0 w' ∧ Below W.heap.size W w' := by
  intro W hb
  have hc : W0.cell? ⟨pb, 0, none⟩ = some lv := block_cell hp0 0 lv rfl
  have := place_any at_ ((turn : Int) + 1) id pb lv sb L W (bkeep hb hc) (hr0.keep hb)
  refine this.mono ?_
  rintro e w' ⟨r, rfl, h1, h2, h3, h4⟩
  subst hE
  exact ⟨r, rfl, ⟨h1, place_new hok rfl h1 h2 h3⟩, btrans hb h4, h4⟩

theorem set_insert {W0 : World} {turn : Nat} {sb : Option Nat} {L : List Ent} {E : Ent} {lv : Value} {at_ id : Int} (hok : RowOk L turn) (ht : turn ≤ 1000000) (hE : E = (at_, (turn : Int) + 1, id)) (hr0 : RowAt W0 45 3 lv L.length (entCells L) sb) :
    ∀ W (vb r : Nat), Below W0.heap.size W0 W → Hid (r ≤ L.length ∧ L.take r ++ E :: L.drop r = insE L E) → W.heap[vb]? = some (.cells #[.int .i64 at_, .int .i64 ((turn : Int) + 1), .int .i64 id] 45 (0, 0)) → W0.heap.size ≤ vb →
      Calls Try.prog 21 #[lv, .int .i64 r, .slice (some ⟨vb, 0, none⟩) 1 1] W fun e w' => ∃ lv' sb', e = .returned lv' ∧ RowAt w' 45 3 lv' (insE L E).length (entCells (insE L E)) sb' ∧ W.grownBy w' sb ∧ (sb' = sb ∨ ∃ k, sb' = some k ∧ W0.heap.size ≤ k) := by
  intro W vb r hb hr hv hvb
  have := insert_any W lv L sb vb r E (hr0.keep hb) hr.out.1 (Nat.le_trans hok.len ht) (by rw [hE]; exact hv) (fun e => by have := hr0.lt vb e; omega)
  refine this.mono ?_
  rintro e w' ⟨lv', sb', rfl, h1, h2, h3⟩
  rw [hr.out.2] at h1
  exact ⟨lv', sb', rfl, h1, h2, h3.imp (fun h => h) (fun ⟨k, hk, hk'⟩ => ⟨k, hk, Nat.le_trans hb.size hk'⟩)⟩

/-- What the cut of Set says. -/
def SetMid (w : World) (pb mb turn N : Nat) (sb : Option Nat) (m : List (Int × Value)) (E : Ent) (L : List Ent) (B : Nat) (wx : World) : Prop :=
  ∃ lv' sb', wx.heap[pb]? = some (.cells #[lv', .map (some mb), .int .i64 ((turn : Int) + 1)] 50 (0, 0)) ∧ RowAt wx 45 3 lv' (insE L E).length (entCells (insE L E)) sb' ∧ MapAt (fun n : Int => Value.int .i64 n) wx mb m ∧
    wx.heap[N]? = some (.cells #[.int .i64 E.1, .int .i64 E.2.1, .int .i64 E.2.2] 45 (0, 0)) ∧ Fr (Foot pb mb sb) w wx ∧ (sb' = sb ∨ ∃ k, sb' = some k ∧ B ≤ k)

theorem set_fin {w W0 W w3 : World} {pb mb turn N : Nat} {sb sb' : Option Nat} {m : List (Int × Value)} {E : Ent} {L : List Ent} {lv lv' : Value} (hF : Fr (Foot pb mb sb) w W0)
    (hp0 : W0.heap[pb]? = some (.cells #[lv, .map (some mb), .int .i64 ((turn : Int) + 1)] 50 (0, 0))) (hm0 : MapAt (fun n : Int => Value.int .i64 n) W0 mb m)
    (hn0 : W0.heap[N]? = some (.cells #[.int .i64 E.1, .int .i64 E.2.1, .int .i64 E.2.2] 45 (0, 0))) (hb : Below W0.heap.size W0 W) (hg : W.grownBy w3 sb) (h1 : sb ≠ some pb) (h2 : sb ≠ some mb) (h3 : sb ≠ some N) (hpm : pb ≠ mb) (hpN : pb ≠ N)
    (hrow : RowAt w3 45 3 lv' (insE L E).length (entCells (insE L E)) sb') (hsb : sb' = sb ∨ ∃ k, sb' = some k ∧ W0.heap.size ≤ k) :
    SetMid w pb mb turn N sb m E L W0.heap.size (w3.setCell ⟨pb, 0, none⟩ lv') := by
  have hpw : pb < W0.heap.size := (Array.getElem?_eq_some_iff.1 hp0).1
  have hnw : N < W0.heap.size := (Array.getElem?_eq_some_iff.1 hn0).1
  have hmw := hm0.lt
  have hmN : mb ≠ N := fun e => by obtain ⟨_, es, c, hmb, _⟩ := hm0; rw [← e, hmb] at hn0; cases hn0
  have e1 : ∀ k, k < W0.heap.size → sb ≠ some k → w3.heap[k]? = W0.heap[k]? := fun k hk hs => (hg.block k (Nat.lt_of_lt_of_le hk hb.size) (fun e => hs e.symm)).trans (hb.block k hk)
  have e2 : ∀ k, k ≠ pb → (w3.setCell ⟨pb, 0, none⟩ lv').heap[k]? = w3.heap[k]? := fun k hk => Below.heap_setCell w3 ⟨pb, 0, none⟩ _ k hk
  refine ⟨lv', sb', setCell_block w3 pb 0 _ _ _ lv' ((e1 pb hpw h1).trans hp0), hrow.below fun g hgg => e2 g ?_, hm0.keep ((e2 mb (fun e => hpm e.symm)).trans (e1 mb hmw h2)), (e2 N (fun e => hpN e.symm)).trans ((e1 N hnw h3).trans hn0), ?_, hsb⟩
  · rintro rfl
    rcases hsb with h | ⟨k, hk, hk'⟩
    · exact h1 (h.symm.trans hgg)
    · rw [hgg] at hk; cases hk; omega
  · refine ((hF.trans (Fr.ofBelow (F := Foot pb mb sb) hb) (fun b h => .inl h)).trans (Fr.ofGrown (F := Foot pb mb sb) hg (fun k hk => .inr (.inr hk))) (fun b h => .inl h)).trans (Fr.setCell (Foot pb mb sb) w3 ⟨pb, 0, none⟩ lv' (.inl rfl)) (fun b h => .inl h)

set_option maxHeartbeats 1000000 in
theorem set_any {w : World} {pb mb : Nat} {sb : Option Nat} {turn : Nat} {l : List Ent} (h : AlarmW w pb mb sb turn l) (ht : turn ≤ 100000) (at_ id : Int) :
    Calls Try.prog 15 #[.pointer (some ⟨pb, 0, none⟩), .int .i64 at_, .int .i64 id] w fun e w' => ∃ sb', e = .returned (.tuple #[]) ∧ AlarmW w' pb mb sb' (turn + 1) (setE l turn at_ id) ∧ Fr (Foot pb mb sb) w w' ∧ (sb' = sb ∨ ∃ k, sb' = some k ∧ w.heap.size ≤ k) := by
  have HST := Lib.hid (stop_any h (by omega) id)
  have HH := Lib.hid h
  clear h
  go_enter Try.func15, Try.ntmps15
  go_wp2_with fail
  refine HST.out.mono ?_
  rintro e w1 ⟨rfl, h1, hf1⟩
  obtain ⟨L, hL⟩ : ∃ L, L = l.filter (fun e => decide (e.2.2 ≠ id)) := ⟨_, rfl⟩
  rw [← hL] at h1
  obtain ⟨h0, lv, m, hp, hr, hm, hq⟩ := h1
  have HL := Lib.hid hL
  have HF1 := Lib.hid hf1
  have H0 := Lib.hid h0
  have HP := Lib.hid hp
  have HR := Lib.hid hr
  have HM := Lib.hid hm
  have HQ := Lib.hid hq
  have c0 := block_cell hp 0 _ rfl
  have c1 := block_cell hp 1 (.map (some mb)) rfl
  have c2 := block_cell hp 2 (.int .i64 turn) rfl
  have f2 := block_free hp 2
  clear hL hf1 h0 hp hr hm hq
  go_wp2_with fail
  obtain ⟨W0, hW0⟩ : ∃ W0, W0 = ((w1.setCell ⟨pb, 2, none⟩ (.int .i64 (↑turn + 1))).alloc (.cells #[.int .i64 at_, .int .i64 (↑turn + 1), .int .i64 id] 45)) := ⟨_, rfl⟩
  obtain ⟨N, hN⟩ : ∃ N, N = w1.heap.size := ⟨_, rfl⟩
  rw [← hW0, ← hN]
  have hpm : pb ≠ mb := fun e => by obtain ⟨_, es, c, hmb, _⟩ := HM.out; have := HP.out; rw [e, hmb] at this; cases this
  have hsp : sb ≠ some pb := fun e => by
    rcases HR.out.2.2 with ⟨_, _, h⟩ | ⟨g, off, cap, cur, _, h, hg, _⟩
    · rw [h] at e; cases e
    · rw [h] at e; cases e; rw [HP.out] at hg; cases hg
  have hsm : sb ≠ some mb := fun e => by
    obtain ⟨_, es, c, hmb, _⟩ := HM.out
    rcases HR.out.2.2 with ⟨_, _, h⟩ | ⟨g, off, cap, cur, _, h, hg, _⟩
    · rw [h] at e; cases e
    · rw [h] at e; cases e; rw [hmb] at hg; cases hg
  have hpw : pb < w1.heap.size := (Array.getElem?_eq_some_iff.1 HP.out).1
  have hmw := HM.out.lt
  have hs1 : (w1.setCell ⟨pb, 2, none⟩ (.int .i64 (↑turn + 1))).heap.size = w1.heap.size := by simp [World.setCell]
  have hs0 : W0.heap.size = w1.heap.size + 1 := by rw [hW0]; simp [World.setCell]
  have hp0 : W0.heap[pb]? = some (.cells #[lv, .map (some mb), .int .i64 (↑turn + 1)] 50 (0, 0)) := by
    rw [hW0, heap_alloc_old _ _ (by rw [hs1]; exact hpw)]; exact setCell_block w1 pb 2 _ _ _ _ HP.out
  have hr0 : RowAt W0 45 3 lv L.length (entCells L) sb := HR.out.below fun g hg => by
    rw [hW0, heap_alloc_old _ _ (by rw [hs1]; exact HR.out.lt g hg)]; exact Below.heap_setCell w1 ⟨pb, 2, none⟩ _ g (fun e => hsp (by rw [hg, e]))
  have hm0 : MapAt (fun n : Int => Value.int .i64 n) W0 mb m := HM.out.keep (by
    rw [hW0, heap_alloc_old _ _ (by rw [hs1]; exact hmw)]; exact Below.heap_setCell w1 ⟨pb, 2, none⟩ _ mb (fun e => hpm e.symm))
  have hn0 : W0.heap[N]? = some (.cells #[.int .i64 at_, .int .i64 (↑turn + 1), .int .i64 id] 45 (0, 0)) := by
    rw [hW0, hN, ← hs1]; exact heap_alloc_new _ _
  have hf0 : Fr (Foot pb mb sb) w W0 := by
    rw [hW0]
    exact (HF1.out.trans (Fr.setCell (Foot pb mb sb) w1 ⟨pb, 2, none⟩ _ (.inl rfl)) (fun b h => .inl h)).trans (Fr.ofBelow (F := Foot pb mb sb) ((Below.refl _ _).alloc (Nat.le_refl _) _)) (fun b h => .inl h)
  obtain ⟨E, hE⟩ : ∃ E : Ent, E = (at_, (turn : Int) + 1, id) := ⟨_, rfl⟩
  have HPL := Lib.hid (set_place (E := E) H0.out hE hp0 hr0)
  have HIN := Lib.hid (set_insert (E := E) (turn := turn) H0.out (by omega) hE hr0)
  have HS1 : Hid (∀ W, Below W0.heap.size W0 W → W.cell? ⟨pb, 0, none⟩ = some lv ∧ W.cell? ⟨N, 0, none⟩ = some (.int .i64 at_) ∧ W.cell? ⟨N, 1, none⟩ = some (.int .i64 (↑turn + 1)) ∧ W.cell? ⟨N, 2, none⟩ = some (.int .i64 id)) := fun W hb =>
    ⟨bkeep hb (block_cell hp0 0 _ rfl), bkeep hb (block_cell hn0 0 _ rfl), bkeep hb (block_cell hn0 1 _ rfl), bkeep hb (block_cell hn0 2 _ rfl)⟩
  have hsn : sb ≠ some N := fun e => by have := HR.out.lt N e; omega
  have hpN : pb ≠ N := by omega
  have HS2 : Hid (∀ W W', Below W0.heap.size W0 W → W.grownBy W' sb → W'.cell? ⟨pb, 0, none⟩ = some lv ∧ W'.cell? ⟨N, 0, none⟩ = some (.int .i64 at_) ∧ W'.cell? ⟨N, 1, none⟩ = some (.int .i64 (↑turn + 1)) ∧ W'.cell? ⟨N, 2, none⟩ = some (.int .i64 id)) := fun W W' hb hg => by
    obtain ⟨a0, a1, a2, a3⟩ := HS1.out W hb
    exact ⟨hg.cell a0 (fun e => hsp e.symm), hg.cell a1 (fun e => hsn e.symm), hg.cell a2 (fun e => hsn e.symm), hg.cell a3 (fun e => hsn e.symm)⟩
  have HFZ : Hid (∀ W W', Below W0.heap.size W0 W → W.grownBy W' sb → W'.frozen? ⟨pb, 0, none⟩ = false) := fun W W' hb hg => by
    have hpw0 : pb < W0.heap.size := by omega
    exact block_free ((hg.block pb (Nat.lt_of_lt_of_le hpw0 hb.size) (fun e => hsp e.symm)).trans ((hb.block pb hpw0).trans hp0)) 0
  have HP0 := Lib.hid hp0
  have HM0 := Lib.hid hm0
  have HR0 := Lib.hid hr0
  have HN0 : Hid (W0.heap[N]? = some (.cells #[.int .i64 E.1, .int .i64 E.2.1, .int .i64 E.2.2] 45 (0, 0))) := by rw [hE]; exact hn0
  have HF0 := Lib.hid hf0
  have HE := Lib.hid hE
  have HSZ := Lib.hid hs0
  have k0 := block_cell hp0 0 _ rfl
  have k1 := block_cell hn0 0 _ rfl
  have k2 := block_cell hn0 1 _ rfl
  have k3 := block_cell hn0 2 _ rfl
  have HSP := Lib.hid hsp
  have HSM := Lib.hid hsm
  have HSN := Lib.hid hsn
  clear hp0 hr0 hm0 hn0 hf0 hE hs0 hs1 hW0 hN c0 c1 c2 f2 hsp hsm hsn
  go_cut [] (fun wx => SetMid w pb mb turn N sb m E L W0.heap.size wx)
  case first =>
    refine wp_region_split_held 11 (fun w' => w'.cell? ⟨pb, 0, none⟩ = some lv ∧ w'.cell? ⟨N, 0, none⟩ = some (.int .i64 at_) ∧ w'.cell? ⟨N, 1, none⟩ = some (.int .i64 (↑turn + 1)) ∧ w'.cell? ⟨N, 2, none⟩ = some (.int .i64 id)) (by kernel_rfl) (by kernel_rfl) (HS1.out _ (Below.refl _ _).drew) (fun K0 hK0 hHeld => ?_)
    simp only [List.take_succ_cons, List.take_zero]
    refine wpAnyH_take (i := 0) (v := ?_) rfl (by kernel_rfl) (by kernel_rfl) (by kernel_rfl) (fun _ _ _ h => h) (Or.inl ⟨by rfl, ?_⟩) (by assumption) ?_
    rotate_left
    · (intro w hSw; (try dsimp only at hSw); go_simp; try with_reducible rfl)
    try simp only [Act.put]
    refine wpAnyH_take (i := 1) (v := ?_) rfl (by kernel_rfl) (by kernel_rfl) (by kernel_rfl) (fun _ _ _ h => h) (Or.inl ⟨by rfl, ?_⟩) (by assumption) ?_
    rotate_left
    · (intro w hSw; (try dsimp only at hSw); go_simp; try with_reducible rfl)
    try simp only [Act.put]
    refine wpAnyH_take (i := 2) (v := ?_) rfl (by kernel_rfl) (by kernel_rfl) (by kernel_rfl) (fun _ _ _ h => h) (Or.inl ⟨by rfl, ?_⟩) (by assumption) ?_
    rotate_left
    · (intro w hSw; (try dsimp only at hSw); go_simp; try with_reducible rfl)
    try simp only [Act.put]
    refine wpAnyH_take (i := 3) (v := ?_) rfl (by kernel_rfl) (by kernel_rfl) (by kernel_rfl) (fun _ _ _ h => h) (Or.inl ⟨by rfl, ?_⟩) (by assumption) ?_
    rotate_left
    · (intro w hSw; (try dsimp only at hSw); go_simp; try with_reducible rfl)
    try simp only [Act.put]
    refine wpAnyH_take (i := 4) (v := ?_) rfl (by kernel_rfl) (by kernel_rfl) (by kernel_rfl) (fun _ _ _ h => h) (Or.inl ⟨by rfl, ?_⟩) (by assumption) ?_
    rotate_left
    · (intro w hSw; (try dsimp only at hSw); go_simp; try with_reducible rfl)
    try simp only [Act.put]
    refine wpAnyH_take (i := 5) (v := ?_) rfl (by kernel_rfl) (by kernel_rfl) (by kernel_rfl) (fun _ _ _ h => h) (Or.inl ⟨by rfl, ?_⟩) (by assumption) ?_
    rotate_left
    · (intro w hSw; (try dsimp only at hSw); go_simp; try with_reducible rfl)
    try simp only [Act.put]
    refine wpAnyH_take (i := 6) (v := ?_) rfl (by kernel_rfl) (by kernel_rfl) (by kernel_rfl) (fun _ _ _ h => h) (Or.inl ⟨by rfl, ?_⟩) (by assumption) ?_
    rotate_left
    · (intro w hSw; (try dsimp only at hSw); go_simp; try with_reducible rfl)
    try simp only [Act.put]
    refine wpAnyH_take (i := 8) (v := ?_) rfl (by kernel_rfl) (by kernel_rfl) (by kernel_rfl) (fun _ _ _ h => h) (Or.inl ⟨by rfl, ?_⟩) (by assumption) ?_
    rotate_left
    · (intro w hSw; (try dsimp only at hSw); go_simp; try with_reducible rfl)
    try simp only [Act.put]
    refine wpAnyH_ready (rs := [7, 9]) (by kernel_rfl) (by simp) ?_
    refine AllReadyH.cons rfl (fun K hK => ?_) ?_
    · go_simp
      refine (HPL.out _ (Below.refl _ _).drew).mono ?_
      rintro e w2 ⟨r, rfl, hr, hb2, _⟩
      refine hK.out _ _ (HS1.out _ hb2) (fun hHeld => ?_)
      clear hK K
      try simp only [Act.put]
      refine wpAnyH_ready (rs := [9]) (by kernel_rfl) (by simp) ?_
      refine AllReadyH.cons rfl (fun K hK => ?_) AllReadyH.nil
      go_simp
      refine hK.out _ _ (HS1.out _ (hb2.alloc hb2.size _)) (fun hHeld => ?_)
      clear hK K
      try simp only [Act.put]
      refine wpAnyH_ready (rs := [10]) (by kernel_rfl) (by simp) ?_
      refine AllReadyH.cons rfl (fun K hK => ?_) AllReadyH.nil
      go_simp
      refine (HIN.out _ _ _ (hb2.alloc hb2.size _) hr (heap_alloc_new _ _) hb2.size).mono ?_
      rintro e w3 ⟨lv', sb', rfl, hrow, hgr, hsb⟩
      obtain ⟨la', lc', rfl⟩ := hrow.form
      refine hK.out _ _ (HS2.out _ _ (hb2.alloc hb2.size _) hgr) (fun hHeld => ?_)
      clear hK K
      have f3 := HFZ.out _ _ (hb2.alloc hb2.size _) hgr
      have c3 := (HS2.out _ _ (hb2.alloc hb2.size _) hgr).1
      have hfin := set_fin (HF0.out) HP0.out HM0.out HN0.out (hb2.alloc hb2.size _) hgr HSP.out HSM.out HSN.out hpm (by have := HSZ.out; omega) hrow hsb
      clear hrow hgr hsb hb2
      have HFIN := Lib.hid hfin
      clear hfin
      refine wpAnyH_done (by kernel_rfl) ?_ _
      simp only [Exit.then]
      refine hK0 _ _ ?_
      clear hK0 K0 hHeld
      try simp only [Act.put]
      go_wp2_with fail
      go_meet
      exact HFIN.out
    · refine AllReadyH.cons rfl (fun K hK => ?_) AllReadyH.nil
      go_simp
      have hb1 : Below W0.heap.size W0 (W0.alloc (.cells #[.int .i64 at_, .int .i64 (↑turn + 1), .int .i64 id] 45)).drew := ((Below.refl _ _).alloc (Nat.le_refl _) _).drew
      have hv1 := heap_alloc_new W0 (.cells #[.int .i64 at_, .int .i64 (↑turn + 1), .int .i64 id] 45)
      refine hK.out _ _ (HS1.out _ hb1) (fun hHeld => ?_)
      clear hK K
      try simp only [Act.put]
      refine wpAnyH_ready (rs := [7]) (by kernel_rfl) (by simp) ?_
      refine AllReadyH.cons rfl (fun K hK => ?_) AllReadyH.nil
      go_simp
      refine (HPL.out _ hb1).mono ?_
      rintro e w2 ⟨r, rfl, hr, hb2, hb3⟩
      have hv2 := (hb3.block W0.heap.size (by simp)).trans hv1
      refine hK.out _ _ (HS1.out _ hb2) (fun hHeld => ?_)
      clear hK K
      try simp only [Act.put]
      refine wpAnyH_ready (rs := [10]) (by kernel_rfl) (by simp) ?_
      refine AllReadyH.cons rfl (fun K hK => ?_) AllReadyH.nil
      go_simp
      refine (HIN.out _ _ _ hb2 hr hv2 (Nat.le_refl _)).mono ?_
      rintro e w3 ⟨lv', sb', rfl, hrow, hgr, hsb⟩
      obtain ⟨la', lc', rfl⟩ := hrow.form
      refine hK.out _ _ (HS2.out _ _ hb2 hgr) (fun hHeld => ?_)
      clear hK K
      have f3 := HFZ.out _ _ hb2 hgr
      have c3 := (HS2.out _ _ hb2 hgr).1
      have hfin := set_fin (HF0.out) HP0.out HM0.out HN0.out hb2 hgr HSP.out HSM.out HSN.out hpm (by have := HSZ.out; omega) hrow hsb
      clear hrow hgr hsb hb2
      have HFIN := Lib.hid hfin
      clear hfin
      refine wpAnyH_done (by kernel_rfl) ?_ _
      simp only [Exit.then]
      refine hK0 _ _ ?_
      clear hK0 K0 hHeld
      try simp only [Act.put]
      go_wp2_with fail
      go_meet
      exact HFIN.out
  case rest =>
    clear k0 k1 k2 k3
    obtain ⟨lv', sb', hp, hr, hm, hn, hf, hsb⟩ := hcut
    obtain ⟨w6, hup, hm6, hg6⟩ := run_update_at (w := wc.drew) (int_law Try.underlying3) hm Try.underlying48 id (entVal E)
    have hfin : AlarmW w6 pb mb sb' (turn + 1) (setE l turn at_ id) ∧ Fr (Foot pb mb sb) w w6 ∧ (sb' = sb ∨ ∃ k, sb' = some k ∧ w.heap.size ≤ k) := by
      have hsW := HF0.out.size
      have hpw0 : pb < wc.heap.size := (Array.getElem?_eq_some_iff.1 hp).1
      have hfid : ∀ x ∈ L, x.2.2 ≠ E.2.2 := fun x hx => by rw [HL.out] at hx; have := (List.mem_filter.1 hx).2; rw [HE.out]; simpa using this
      refine ⟨⟨?_, lv', _, (hg6.block pb hpw0 (by simp; exact hpm)).trans hp, ?_, hm6, ?_⟩, ?_, hsb.imp (fun h => h) (fun ⟨k, hk, hk'⟩ => ⟨k, hk, Nat.le_trans hsW hk'⟩)⟩
      · unfold setE; rw [← HL.out, ← HE.out]; exact H0.out.insert (by rw [HE.out]) hfid
      · unfold setE; rw [← HL.out, ← HE.out]
        refine hr.below fun g hg => hg6.block g (hr.lt g hg) (fun e => ?_)
        cases e
        rcases hsb with h | ⟨k, hk, hk'⟩
        · exact HSM.out (h.symm.trans hg)
        · rw [hg] at hk; cases hk
          have := HM0.out.lt; omega
      · intro id'
        unfold setE; rw [← HL.out, ← HE.out, mget_mset, HQ.out, find_insE H0.out.sorted hfid]
        rw [show E.2.2 = id by rw [HE.out]]
        split <;> rfl
      · exact (hf.trans (Fr.drew (Foot pb mb sb) wc) (fun b h => .inl h)).trans (Fr.ofGrown (F := Foot pb mb sb) hg6 (fun k hk => .inr (.inl (by cases hk; rfl)))) (fun b h => .inl h)
    have HFIN := Lib.hid hfin
    have d1 := block_cell hp 1 (.map (some mb)) rfl
    have d2 := block_cell hn 0 _ rfl
    have d3 := block_cell hn 1 _ rfl
    have d4 := block_cell hn 2 _ rfl
    have hmN : mb ≠ N := fun e => by obtain ⟨_, es, c, hmb, _⟩ := hm; rw [← e, hmb] at hn; cases hn
    have g1 := hg6.cell (a := ⟨pb, 1, none⟩) d1 (by simp; exact hpm)
    have g2 := hg6.cell (a := ⟨N, 0, none⟩) d2 (by simp; exact fun e => hmN e.symm)
    have g3 := hg6.cell (a := ⟨N, 1, none⟩) d3 (by simp; exact fun e => hmN e.symm)
    have g4 := hg6.cell (a := ⟨N, 2, none⟩) d4 (by simp; exact fun e => hmN e.symm)
    clear hfin hp hr hm hn hf hsb hm6 hg6
    unfold entVal at hup
    rw [HE.out] at hup d2 d3 d4 g2 g3 g4
    go_wp2_with fail
    go_region_held3 (fun w' => w'.cell? ⟨pb, 1, none⟩ = some (.map (some mb)) ∧ w'.cell? ⟨N, 0, none⟩ = some (.int .i64 at_) ∧ w'.cell? ⟨N, 1, none⟩ = some (.int .i64 (↑turn + 1)) ∧ w'.cell? ⟨N, 2, none⟩ = some (.int .i64 id)) (first | go_keep | exact ⟨g1, g2, g3, g4⟩) (fail)
    go_wp2_with fail
    go_end0
    exact ⟨_, rfl, HFIN.out⟩

end Go.Proofs.Ytcplimefklnknaa
