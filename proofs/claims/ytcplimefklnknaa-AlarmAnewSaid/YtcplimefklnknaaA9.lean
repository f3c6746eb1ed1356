/- Walks: New, Len, Next, Stop. -/
import Derived.Test.YtcplimefklnknaaA8
namespace Go.Proofs.Ytcplimefklnknaa
open Go.RowKit
attribute [local go_sem ↓] Go.wp_at_zero Go.wp_at_succ

/-- The blocks of alarms. -/
def Foot (pb mb : Nat) (sb : Option Nat) (k : Nat) : Prop := k = pb ∨ k = mb ∨ sb = some k

theorem AlarmW.keep {w w' : World} {pb mb : Nat} {sb : Option Nat} {turn : Nat} {l : List Ent} (h : AlarmW w pb mb sb turn l) (hb : ∀ k, Foot pb mb sb k → w'.heap[k]? = w.heap[k]?) : AlarmW w' pb mb sb turn l := by
  obtain ⟨h0, lv, m, h1, h2, h3, h4⟩ := h
  exact ⟨h0, lv, m, (hb pb (.inl rfl)).trans h1, h2.below fun g hg => hb g (.inr (.inr hg)), h3.keep (hb mb (.inr (.inl rfl))), h4⟩

theorem AlarmW.lt {w : World} {pb mb : Nat} {sb : Option Nat} {turn : Nat} {l : List Ent} (h : AlarmW w pb mb sb turn l) : ∀ k, Foot pb mb sb k → k < w.heap.size := by
  obtain ⟨h0, lv, m, h1, h2, h3, h4⟩ := h
  rintro k (rfl | rfl | hk)
  · exact (Array.getElem?_eq_some_iff.1 h1).1
  · exact h3.lt
  · exact h2.lt k hk

theorem AlarmW.frame {w w' : World} {F : Nat → Prop} {pb mb : Nat} {sb : Option Nat} {turn : Nat} {l : List Ent} (h : AlarmW w pb mb sb turn l) (hf : Fr F w w') (hd : ∀ k, Foot pb mb sb k → ¬ F k) : AlarmW w' pb mb sb turn l :=
  h.keep fun k hk => hf.block k (h.lt k hk) (hd k hk)

theorem len_any {w : World} {pb mb : Nat} {sb : Option Nat} {turn : Nat} {l : List Ent} (h : AlarmW w pb mb sb turn l) :
    Calls Try.prog 11 #[.pointer (some ⟨pb, 0, none⟩)] w fun e w' => e = .returned (.int .i64 l.length) ∧ w = w' := by
  obtain ⟨h0, lv, m, h1, h2, h3, h4⟩ := h
  have c0 := block_cell h1 0 lv rfl
  obtain ⟨la, lc, rfl⟩ := h2.form
  clear h0 h1 h2 h3 h4
  go_enter Try.func11, Try.ntmps11
  go_wp2
  go_ret
  exact ⟨rfl, rfl⟩

theorem new_any (w : World) : Calls Try.prog 14 #[] w fun e w' => ∃ pb mb, e = .returned (.pointer (some ⟨pb, 0, none⟩)) ∧ AlarmW w' pb mb none 0 [] ∧ Below w.heap.size w w' ∧ (∀ k, Foot pb mb none k → w.heap.size ≤ k) := by
  have hmm := @run_makeMap Try.prog
  go_enter Try.func14, Try.ntmps14
  go_wp2
  go_ret
  have hb := heap_alloc_new (w.alloc (.map #[] 0)) (.cells #[.slice none 0 0, .map (some w.heap.size), .int .i64 0] 50)
  have hs : (w.alloc (.map #[] 0)).heap.size = w.heap.size + 1 := by simp
  rw [hs] at hb
  refine ⟨w.heap.size + 1, w.heap.size, rfl, ⟨⟨by simp, by simp, by simp, by simp⟩, _, [], hb, RowAt.nil _ _ _, (mapAt_new _ w).keep (heap_alloc_old _ _ (by simp)), fun id => rfl⟩,
    ((Below.refl _ _).alloc (Nat.le_refl _) _).alloc (by simp) _, fun k hk => ?_⟩
  rcases hk with rfl | rfl | hk
  · omega
  · omega
  · cases hk

theorem stop_none {w : World} {pb mb : Nat} {sb : Option Nat} {turn : Nat} {l : List Ent} (h : AlarmW w pb mb sb turn l) (id : Int) (hid : l.find? (fun e => decide (e.2.2 = id)) = none) :
    Calls Try.prog 17 #[.pointer (some ⟨pb, 0, none⟩), .int .i64 id] w fun e w' => e = .returned (.bool false) ∧ Below w.heap.size w w' := by
  obtain ⟨h0, lv, m, h1, h2, h3, h4⟩ := h
  have c1 := block_cell h1 1 (.map (some mb)) rfl
  have hl := run_lookup_at (int_law Try.underlying3) h3 Try.underlying48 (z := .agg #[.int .i64 0, .int .i64 0, .int .i64 0]) (by kernel_rfl) id true
  rw [h4, hid] at hl
  simp only [if_true, Option.map_none, Option.getD_none, Option.isSome_none] at hl
  clear h0 h1 h2 h3 h4 hid
  go_enter Try.func17, Try.ntmps17
  go_wp2
  go_ret
  exact ⟨rfl, (Below.refl _ _).alloc (Nat.le_refl _) _⟩

set_option maxHeartbeats 1000000 in
theorem stop_some {w : World} {pb mb : Nat} {sb : Option Nat} {turn : Nat} {l : List Ent} (h : AlarmW w pb mb sb turn l) (ht : turn ≤ 1000000) (id : Int) (x : Ent) (hid : l.find? (fun e => decide (e.2.2 = id)) = some x) :
    Calls Try.prog 17 #[.pointer (some ⟨pb, 0, none⟩), .int .i64 id] w fun e w' => e = .returned (.bool true) ∧ AlarmW w' pb mb sb turn (l.filter (fun e => decide (e.2.2 ≠ id))) ∧ Fr (Foot pb mb sb) w w' := by
  obtain ⟨h0, lv, m, h1, h2, h3, h4⟩ := h
  obtain ⟨j, hj, hjid⟩ := find_at hid
  have hjl : j < l.length := (List.getElem?_eq_some_iff.1 hj).1
  have hll : l.length ≤ 1000000 := Nat.le_trans h0.len ht
  have hpb : pb < w.heap.size := (Array.getElem?_eq_some_iff.1 h1).1
  rcases h2.2.2 with ⟨_, hb, _⟩ | ⟨g, off, cap, cur, rfl, rfl, hg, hle, hm, hs, hcur⟩
  · omega
  have hgp : g ≠ pb := fun e => by rw [e, h1] at hg; cases hg
  have hgm : g ≠ mb := fun e => by obtain ⟨_, es, c, hmb, _⟩ := h3; rw [e, hmb] at hg; cases hg
  have hpm : pb ≠ mb := fun e => by obtain ⟨_, es, c, hmb, _⟩ := h3; rw [e, hmb] at h1; cases h1
  have c0 := block_cell h1 0 _ rfl
  have c1 := block_cell h1 1 (.map (some mb)) rfl
  have hl := run_lookup_at (int_law Try.underlying3) h3 Try.underlying48 (z := .agg #[.int .i64 0, .int .i64 0, .int .i64 0]) (by kernel_rfl) id true
  rw [h4, hid] at hl
  simp only [if_true, Option.map_some, Option.getD_some, Option.isSome_some, entVal] at hl
  have hpl := fun W (hb : Below w.heap.size w W) => place_any x.1 x.2.1 x.2.2 pb _ (some g) l W (bkeep hb c0) (h2.keep hb)
  have HPL := Lib.hid hpl
  have H1 := Lib.hid h1
  have H2 := Lib.hid h2
  have H3 := Lib.hid h3
  have H4 := Lib.hid h4
  have HG := Lib.hid hg
  have HJ := Lib.hid hj
  have HC := Lib.hid hcur
  have HS := Lib.hid h0
  have HI := Lib.hid hjid
  have hgw : g < w.heap.size := (Array.getElem?_eq_some_iff.1 hg).1
  have hmw := h3.lt
  clear hpl h1 h2 h3 h4 hg hj hcur h0 hjid hid
  go_enter Try.func17, Try.ntmps17
  go_wp2_with fail
  refine (HPL.out _ ((Below.refl _ _).alloc (Nat.le_refl _) _)).mono ?_
  rintro e w2 ⟨r, rfl, hrl, hr0, hr1, hb2⟩
  have hrj := Lib.hid (place_found HS.out.sorted HJ.out hr0 hr1)
  obtain rfl : r = j := hrj.out
  clear hr0 hr1 hrl
  have hb2' : Below w.heap.size w w2 := btrans ((Below.refl _ _).alloc (Nat.le_refl _) _) hb2
  have HB2 := Lib.hid hb2'
  have c0' := bkeep hb2' c0
  have c1' := bkeep hb2' c1
  clear c0 c1 hl hb2 hb2'
  go_wp2_with fail
  have hd := delete_any w2 l g off cap r cur ((HB2.out.block g hgw).trans HG.out) hjl hle hm hs HC.out hll
  refine hd.mono ?_
  clear hd
  rintro e w3 ⟨lv', rfl, hrow, hgr⟩
  have HGR := Lib.hid hgr
  have c0'' := hgr.cell c0' (by simp; exact fun e => hgp e.symm)
  have c1'' := hgr.cell c1' (by simp; exact fun e => hgp e.symm)
  have f0'' : w3.frozen? ⟨pb, 0, none⟩ = false := by
    rw [World.frozen?_of_block (w := w2) (hgr.block pb (by have := HB2.out.size; omega) (by simp; exact fun e => hgp e.symm)), World.frozen?_of_block (w := w) (HB2.out.block pb hpb)]
    exact block_free H1.out 0
  have hL := filter_at HS.out.ids HJ.out
  rw [HI.out] at hL
  rw [hL] at hrow
  obtain ⟨L, hLL⟩ : ∃ L, L = l.filter (fun x => decide (x.2.2 ≠ id)) := ⟨_, rfl⟩
  rw [← hLL] at hrow
  have HR := Lib.hid hrow
  have HL := Lib.hid hLL
  clear hrow hgr c0' c1' hL hLL
  obtain ⟨la', lc', rfl⟩ := HR.out.form
  have b2 : w2.heap[pb]? = w.heap[pb]? := HB2.out.block pb hpb
  have b3 : w3.heap[pb]? = w2.heap[pb]? := HGR.out.block pb (by have := HB2.out.size; omega) (by simp; exact fun e => hgp e.symm)
  have hp4 := setCell_block w3 pb 0 _ _ _ (.slice la' L.length lc') (b3.trans (b2.trans H1.out))
  have hm4 : MapAt (fun n => Value.int .i64 n) (w3.setCell ⟨pb, 0, none⟩ (.slice la' L.length lc')) mb m :=
    H3.out.keep ((Below.heap_setCell w3 ⟨pb, 0, none⟩ _ mb (fun e => hpm e.symm)).trans ((HGR.out.block mb (by have := HB2.out.size; omega) (by simp; exact fun e => hgm e.symm)).trans (HB2.out.block mb hmw)))
  obtain ⟨w5, hdel, hm5, hg5⟩ := run_delete_at (int_law Try.underlying3) hm4 Try.underlying48 3 0 id
  have hF : AlarmW w5 pb mb (some g) turn L ∧ Fr (Foot pb mb (some g)) w w5 := by
    have hfr3 : Fr (Foot pb mb (some g)) w w3 := (Fr.ofBelow (F := Foot pb mb (some g)) HB2.out).trans (Fr.ofGrown (F := Foot pb mb (some g)) HGR.out (fun k e => .inr (.inr e))) (fun b h => .inl h)
    have hfr5 : Fr (Foot pb mb (some g)) w w5 := (hfr3.trans (Fr.setCell (Foot pb mb (some g)) w3 ⟨pb, 0, none⟩ (.slice la' L.length lc') (.inl rfl)) (fun b h => .inl h)).trans (Fr.ofGrown (F := Foot pb mb (some g)) hg5 (fun k e => .inr (.inl (by cases e; rfl)))) (fun b h => .inl h)
    have hs3 := hfr3.size
    refine ⟨⟨by rw [HL.out]; exact HS.out.filter _, _, _, (hg5.block pb (by simp [World.setCell]; omega) (by simp; exact hpm)).trans hp4, ?_, hm5, ?_⟩, hfr5⟩
    · refine HR.out.below fun k hk => ?_
      cases hk
      exact (hg5.block g (by simp [World.setCell]; omega) (by simp; exact hgm)).trans (Below.heap_setCell w3 ⟨pb, 0, none⟩ _ g hgp)
    · intro id'
      rw [mget_mdel _ _ _ hm4.1, HL.out, find_filter_id, H4.out]
      split <;> rfl
  have HF := Lib.hid hF
  clear hF hm4 hp4 hm5 hg5 b2 b3
  go_wp2_with fail
  go_ret
  exact ⟨rfl, by rw [← HL.out]; exact HF.out.1, HF.out.2⟩

theorem stop_any {w : World} {pb mb : Nat} {sb : Option Nat} {turn : Nat} {l : List Ent} (h : AlarmW w pb mb sb turn l) (ht : turn ≤ 1000000) (id : Int) :
    Calls Try.prog 17 #[.pointer (some ⟨pb, 0, none⟩), .int .i64 id] w fun e w' => e = .returned (.bool (l.any (fun e => decide (e.2.2 = id)))) ∧ AlarmW w' pb mb sb turn (l.filter (fun e => decide (e.2.2 ≠ id))) ∧ Fr (Foot pb mb sb) w w' := by
  cases hid : l.find? (fun e => decide (e.2.2 = id)) with
  | none =>
    refine (stop_none h id hid).mono ?_
    rintro e w' ⟨rfl, hb⟩
    have h1 : l.any (fun e => decide (e.2.2 = id)) = false := by
      rw [List.find?_eq_none] at hid
      rw [List.any_eq_false]; exact hid
    rw [h1, filter_none hid]
    exact ⟨rfl, h.keep (fun k hk => hb.block k (h.lt k hk)), Fr.ofBelow hb⟩
  | some x =>
    refine (stop_some h ht id x hid).mono ?_
    rintro e w' ⟨rfl, h1, h2⟩
    have h3 : l.any (fun e => decide (e.2.2 = id)) = true := by
      rw [List.any_eq_true]; exact ⟨x, List.mem_of_find?_eq_some hid, by have := List.find?_some (p := fun e : Ent => decide (e.2.2 = id)) hid; exact this⟩
    rw [h3]
    exact ⟨rfl, h1, h2⟩

end Go.Proofs.Ytcplimefklnknaa
