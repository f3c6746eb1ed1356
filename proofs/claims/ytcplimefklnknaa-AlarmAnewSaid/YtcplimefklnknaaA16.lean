/- AlarmParts: to ask at one tick and then at a later one tells what asking at the later one alone does. -/
import Derived.Test.YtcplimefklnknaaA15
namespace Go.Proofs.Ytcplimefklnknaa
open Go.RowKit
attribute [local go_sem ↓] Go.wp_at_zero Go.wp_at_succ

theorem filter_and {α : Type} (p q : α → Bool) (l : List α) : (l.filter p).filter q = l.filter (fun x => p x && q x) := by
  rw [List.filter_filter]; congr 1; funext x; exact Bool.and_comm _ _

theorem due_due {l : List Ent} (hs : l.Pairwise ltE) {one two : Int} (h : one ≤ two) : dueL l one ++ dueL (leftL l one) two = dueL l two := by
  have h1 := part_at (hs.sublist (List.filter_sublist (p := fun x => decide (x.1 ≤ two)))) one
  unfold dueL leftL
  rw [h1, filter_and, filter_and, filter_and]
  congr 1
  · apply List.filter_congr; intro x _; rw [Bool.eq_iff_iff]; simp only [Bool.and_eq_true, decide_eq_true_eq]; omega
  · apply List.filter_congr; intro x _; rw [Bool.eq_iff_iff]; simp only [Bool.and_eq_true, decide_eq_true_eq]; omega

theorem left_left (l : List Ent) {one two : Int} (h : one ≤ two) : leftL (leftL l one) two = leftL l two := by
  unfold leftL
  rw [filter_and]
  apply List.filter_congr; intro x _; rw [Bool.eq_iff_iff]; simp only [Bool.and_eq_true, decide_eq_true_eq]; omega

theorem played_ok {w : World} {pb mb : Nat} {sb : Option Nat} {turn : Nat} {l : List Ent} (h : AlarmW w pb mb sb turn l) : l.Pairwise ltE := h.ok.sorted

/-- Alarms that lie between two numbers of blocks. -/
structure AlarmIn (w : World) (lo hi pb mb : Nat) (st : Nat × List Ent) : Prop where
  mem : ∃ sb, AlarmW w pb mb sb st.1 st.2 ∧ ∀ k, Foot pb mb sb k → lo ≤ k ∧ k < hi

/-- What a walk knows of a slice of ints of its own. -/
structure IntsIn (w : World) (lo hi : Nat) (v : Value) (l : List Int) : Prop where
  mem : ∃ sb, IntsAt w v l sb ∧ ∀ k, sb = some k → lo ≤ k ∧ k < hi

theorem AlarmIn.frame {w w' : World} {lo hi pb mb : Nat} {st : Nat × List Ent} {F : Nat → Prop} (h : AlarmIn w lo hi pb mb st) (hf : Fr F w w') (hF : ∀ k, lo ≤ k → k < hi → ¬ F k) : AlarmIn w' lo hi pb mb st := by
  obtain ⟨sb, ha, hk⟩ := h
  exact ⟨sb, ha.frame hf (fun k hf => hF k (hk k hf).1 (hk k hf).2), hk⟩
theorem IntsIn.frame {w w' : World} {lo hi : Nat} {v : Value} {l : List Int} {F : Nat → Prop} (h : IntsIn w lo hi v l) (hf : Fr F w w') (hF : ∀ k, lo ≤ k → k < hi → ¬ F k) : IntsIn w' lo hi v l := by
  obtain ⟨sb, ha, hk⟩ := h
  exact ⟨sb, RowAt.below ha (fun g hg => hf.block g (RowAt.lt ha g hg) (hF g (hk g hg).1 (hk g hg).2)), hk⟩
theorem AlarmIn.keep {w w' : World} {lo hi pb mb : Nat} {st : Nat × List Ent} (h : AlarmIn w lo hi pb mb st) (hb : Below w.heap.size w w') : AlarmIn w' lo hi pb mb st :=
  h.frame (Fr.ofBelow (F := fun _ => False) hb) (fun _ _ _ h => h)
theorem IntsIn.keep {w w' : World} {lo hi : Nat} {v : Value} {l : List Int} (h : IntsIn w lo hi v l) (hb : Below w.heap.size w w') : IntsIn w' lo hi v l :=
  h.frame (Fr.ofBelow (F := fun _ => False) hb) (fun _ _ _ h => h)

/-- Due, between numbers of blocks. -/
theorem due_in {w : World} {lo hi pb mb : Nat} {st : Nat × List Ent} (h : AlarmIn w lo hi pb mb st) (ht : st.1 ≤ 1000000) (now : Int) :
    Calls Try.prog 9 #[.pointer (some ⟨pb, 0, none⟩), .int .i64 now] w fun e w' => ∃ v, e = .returned v ∧ IntsIn w' w.heap.size w'.heap.size v ((dueL st.2 now).map (·.2.2)) ∧ AlarmIn w' lo hi pb mb (st.1, leftL st.2 now) ∧ Fr (fun k => lo ≤ k ∧ k < hi) w w' := by
  obtain ⟨sb, ha, hk⟩ := h
  refine (due_any ha ht now).mono ?_
  rintro e w' ⟨v, sbI, sb', rfl, h1, h2, h3, h4, h5⟩
  refine ⟨v, rfl, ⟨sbI, ?_, fun k hk' => ⟨h2 k hk', RowAt.lt h1 k hk'⟩⟩, ⟨sb', h3, ?_⟩, h4.mono hk⟩
  · unfold IntsAt; rw [List.length_map]; exact h1
  · rintro k (rfl | rfl | hs)
    · exact hk _ (.inl rfl)
    · exact hk _ (.inr (.inl rfl))
    · rcases h5 with h | h
      · rw [h] at hs; cases hs
      · exact hk k (.inr (.inr (h.symm.trans hs)))

theorem played_in {w : World} {v : Value} {L : List Ent} {sb : Option Nat} (h : RowAt w 33 3 v L.length (entCells L) sb) (hL : L.length ≤ 1000) :
    Calls Try.prog 8 #[v] w fun e w' => ∃ pb mb, e = .returned (.pointer (some ⟨pb, 0, none⟩)) ∧ AlarmIn w' w.heap.size w'.heap.size pb mb (played L) ∧ Below w.heap.size w w' := by
  refine (played_any h hL).mono ?_
  rintro e w' ⟨pb, mb, sb, rfl, h1, h2, h3⟩
  exact ⟨pb, mb, rfl, ⟨sb, h1, fun k hk => ⟨h2 k hk, h1.lt k hk⟩⟩, h3⟩

theorem actsL_len (l : List Int) : (actsL l).length ≤ 30 := by unfold actsL; rw [List.length_map, List.length_take]; omega

theorem dueL_len (l : List Ent) (t : Int) : (dueL l t).length ≤ l.length := List.length_filter_le _ _
theorem leftL_len (l : List Ent) (t : Int) : (leftL l t).length ≤ l.length := List.length_filter_le _ _

theorem AlarmIn.len {w : World} {lo hi pb mb : Nat} {st : Nat × List Ent} (h : AlarmIn w lo hi pb mb st) : st.2.length ≤ st.1 := by
  obtain ⟨sb, ha, _⟩ := h; exact ha.ok.len

set_option maxHeartbeats 4000000 in
theorem parts_walk {w : World} {A : Option Addr} {n c : Nat} {l : List Int} (h : ArgInts w A n l) (one two : Int) :
    Calls Try.prog 3 #[.slice A n c, .int .i64 one, .int .i64 two] w fun e w' => e = .returned (.bool true) ∧ Below w.heap.size w w' := by
  have HARG := Lib.hid h
  clear h
  by_cases h12 : two < one
  · go_enter Try.func3, Try.ntmps3
    go_wp2_with fail
    refine (acts_any HARG.out).mono ?_
    rintro e w1 ⟨va, sba, rfl, hra, _, hb1⟩
    have HRA := Lib.hid hra
    have HB1 := Lib.hid hb1
    clear hra hb1
    have hL := Nat.le_trans (actsL_len l) (show 30 ≤ 1000 by omega)
    have HPT := Lib.hid (Nat.le_trans (played_turn (actsL l)) (actsL_len l))
    obtain ⟨L, hLL⟩ : ∃ L, L = actsL l := ⟨_, rfl⟩
    rw [← hLL] at HRA hL HPT
    clear hLL
    go_wp2_with fail
    refine (played_in HRA.out hL).mono ?_
    rintro e w2 ⟨pa, ma, rfl, ha, hb2⟩
    have HA := Lib.hid ha
    have HB2 := Lib.hid hb2
    clear ha hb2
    go_wp2_with fail
    refine (played_in (HRA.out.keep HB2.out) hL).mono ?_
    rintro e w3 ⟨pb, mb, rfl, hb, hb3⟩
    have HB := Lib.hid hb
    have HA3 := Lib.hid (HA.out.keep hb3)
    have HB3 := Lib.hid hb3
    have HPO := Lib.hid (show (played L).2.Pairwise ltE by obtain ⟨sb, hh, _⟩ := hb; exact hh.ok.sorted)
    have HLN := Lib.hid (show (played L).2.length ≤ 30 by have := hb.len; have := HPT.out; omega)
    clear hb hb3
    obtain ⟨st, hst⟩ : ∃ st, st = played L := ⟨_, rfl⟩
    rw [← hst] at HB HA3 HPT HPO HLN
    clear hst HA
    go_wp2_with fail
    refine (due_in HA3.out (Nat.le_trans HPT.out (by omega)) two).mono ?_
    rintro e w4 ⟨v1, rfl, hv1, ha4, hf4⟩
    have HV1 := Lib.hid hv1
    have HA4 := Lib.hid ha4
    have HF4 := Lib.hid hf4
    have HB4 := Lib.hid (HB.out.frame hf4 (fun k h1 h2 h => by have := h.2; omega))
    clear hv1 ha4 hf4
    go_wp2_with fail
    refine (due_in HA4.out (Nat.le_trans HPT.out (by omega)) one).mono ?_
    rintro e w5 ⟨v2, rfl, hv2, ha5, hf5⟩
    have HV1' := Lib.hid (HV1.out.frame hf5 (fun k h1 h2 h => by have := h.2; have := HB3.out.size; omega))
    have HA5 := Lib.hid ha5
    have HF5 := Lib.hid hf5
    have HB5 := Lib.hid (HB4.out.frame hf5 (fun k h1 h2 h => by have := h.2; omega))
    obtain ⟨s1, hs1, hk1⟩ := HV1'.out.mem
    obtain ⟨s2, hs2, hk2⟩ := hv2.mem
    obtain ⟨v3, s3, w6, hap, hI3, hg6, hs3⟩ := ints_append w5 hs1 hs2 (by simp only [List.length_map]; have h1 := dueL_len st.2 two; have h2 := dueL_len (leftL st.2 two) one; have h3 := leftL_len st.2 two; have := HLN.out; omega)
    rw [← List.map_append, due_due HPO.out (by omega)] at hI3
    have HS35 := HF5.out.size
    have HS34 := HF4.out.size
    have HG6 : Hid (Fr (fun k => w3.heap.size ≤ k) w5 w6) := Fr.ofGrown hg6 (fun k hk => (hk1 k hk).1)
    have HA6 := Lib.hid (HA5.out.frame HG6.out (fun k h1 h2 h => by have := HB3.out.size; omega))
    have HB6 := Lib.hid (HB5.out.frame HG6.out (fun k h1 h2 h => by omega))
    have HI3 := Lib.hid (show IntsIn w6 w3.heap.size w6.heap.size v3 ((dueL st.2 one).map (·.2.2)) from ⟨s3, hI3, fun k hk => ⟨hs3.elim (fun h => (hk1 k (h.symm.trans hk)).1) (fun h => by rw [hk] at h; cases h; omega), RowAt.lt hI3 k hk⟩⟩)
    clear hv2 ha5 hf5 hs1 hk1 hs2 hk2 hI3 hg6 hs3 HV1 HV1'
    go_wp2_with (at_builtin; refine wpList_run (by rfl) (exec_append _ _ _ _ (by rfl) _ _ (by rfl) (by rfl) hap) ?_)
    clear hap
    refine (due_in HB6.out (Nat.le_trans HPT.out (by omega)) one).mono ?_
    rintro e w7 ⟨v4, rfl, hv4, hb7, hf7⟩
    have HI7 := Lib.hid (HI3.out.frame hf7 (fun k h1 h2 h => by have := h.2; omega))
    have HA7 := Lib.hid (HA6.out.frame hf7 (fun k h1 h2 h => by have := h.1; omega))
    have HB7 := Lib.hid hb7
    have HF7 := Lib.hid hf7
    have HV4 := Lib.hid hv4
    clear hv4 hb7 hf7
    go_wp2_with fail
    obtain ⟨s5, h5, _⟩ := HI7.out.mem
    obtain ⟨s6, h6, _⟩ := HV4.out.mem
    refine (same_any h5 h6).mono ?_
    rintro e w8 ⟨rfl, hb8⟩
    rw [decide_eq_true rfl]
    have HA8 := Lib.hid (HA7.out.keep hb8)
    have HB8 := Lib.hid (HB7.out.keep hb8)
    have HBL8 := Lib.hid hb8
    clear h5 h6 hb8
    go_wp2_with fail
    obtain ⟨s7, h7, _⟩ := HA8.out.mem
    obtain ⟨s8, h8, _⟩ := HB8.out.mem
    refine (len_any h7).mono ?_
    rintro e w' ⟨rfl, rfl⟩
    rw [left_left _ (by omega)]
    have H8 := Lib.hid h8
    clear h7 h8
    go_wp2_with fail
    refine (len_any H8.out).mono ?_
    rintro e w' ⟨rfl, rfl⟩
    have hfin : Below w.heap.size w w8 := by
      have h1 := HB1.out.trans (HB2.out.mono HB1.out.size)
      have h2 := h1.trans (HB3.out.mono (Nat.le_trans HB1.out.size HB2.out.size))
      have q1 := HB1.out.size
      have q2 := HB2.out.size
      have q3 := HB3.out.size
      have h4 := (((((Fr.ofBelow (F := fun k => w.heap.size ≤ k) h2).trans HF4.out (fun b h => .inr (by omega))).trans HF5.out (fun b h => .inr (by omega))).trans HG6.out (fun b h => .inr (by omega))).trans HF7.out (fun b h => .inr (by omega))).trans (Fr.ofBelow (F := fun _ => False) HBL8.out) (fun b h => h.elim)
      exact h4.toBelow (fun k hk h => by omega)
    have HFIN := Lib.hid hfin
    clear hfin
    go_wp2_with fail
    refine (lives_any _).mono ?_
    rintro e w9 ⟨rfl, hb9⟩
    have HB9 := Lib.hid hb9
    clear hb9
    go_wp2_with fail
    go_ret
    exact ⟨rfl, btrans HFIN.out HB9.out⟩
  · go_enter Try.func3, Try.ntmps3
    go_wp2_with fail
    refine (acts_any HARG.out).mono ?_
    rintro e w1 ⟨va, sba, rfl, hra, _, hb1⟩
    have HRA := Lib.hid hra
    have HB1 := Lib.hid hb1
    clear hra hb1
    have hL := Nat.le_trans (actsL_len l) (show 30 ≤ 1000 by omega)
    have HPT := Lib.hid (Nat.le_trans (played_turn (actsL l)) (actsL_len l))
    obtain ⟨L, hLL⟩ : ∃ L, L = actsL l := ⟨_, rfl⟩
    rw [← hLL] at HRA hL HPT
    clear hLL
    go_wp2_with fail
    refine (played_in HRA.out hL).mono ?_
    rintro e w2 ⟨pa, ma, rfl, ha, hb2⟩
    have HA := Lib.hid ha
    have HB2 := Lib.hid hb2
    clear ha hb2
    go_wp2_with fail
    refine (played_in (HRA.out.keep HB2.out) hL).mono ?_
    rintro e w3 ⟨pb, mb, rfl, hb, hb3⟩
    have HB := Lib.hid hb
    have HA3 := Lib.hid (HA.out.keep hb3)
    have HB3 := Lib.hid hb3
    have HPO := Lib.hid (show (played L).2.Pairwise ltE by obtain ⟨sb, hh, _⟩ := hb; exact hh.ok.sorted)
    have HLN := Lib.hid (show (played L).2.length ≤ 30 by have := hb.len; have := HPT.out; omega)
    clear hb hb3
    obtain ⟨st, hst⟩ : ∃ st, st = played L := ⟨_, rfl⟩
    rw [← hst] at HB HA3 HPT HPO HLN
    clear hst HA
    go_wp2_with fail
    refine (due_in HA3.out (Nat.le_trans HPT.out (by omega)) one).mono ?_
    rintro e w4 ⟨v1, rfl, hv1, ha4, hf4⟩
    have HV1 := Lib.hid hv1
    have HA4 := Lib.hid ha4
    have HF4 := Lib.hid hf4
    have HB4 := Lib.hid (HB.out.frame hf4 (fun k h1 h2 h => by have := h.2; omega))
    clear hv1 ha4 hf4
    go_wp2_with fail
    refine (due_in HA4.out (Nat.le_trans HPT.out (by omega)) two).mono ?_
    rintro e w5 ⟨v2, rfl, hv2, ha5, hf5⟩
    have HV1' := Lib.hid (HV1.out.frame hf5 (fun k h1 h2 h => by have := h.2; have := HB3.out.size; omega))
    have HA5 := Lib.hid ha5
    have HF5 := Lib.hid hf5
    have HB5 := Lib.hid (HB4.out.frame hf5 (fun k h1 h2 h => by have := h.2; omega))
    obtain ⟨s1, hs1, hk1⟩ := HV1'.out.mem
    obtain ⟨s2, hs2, hk2⟩ := hv2.mem
    obtain ⟨v3, s3, w6, hap, hI3, hg6, hs3⟩ := ints_append w5 hs1 hs2 (by simp only [List.length_map]; have h1 := dueL_len st.2 one; have h2 := dueL_len (leftL st.2 one) two; have h3 := leftL_len st.2 one; have := HLN.out; omega)
    rw [← List.map_append, due_due HPO.out (by omega)] at hI3
    have HS35 := HF5.out.size
    have HS34 := HF4.out.size
    have HG6 : Hid (Fr (fun k => w3.heap.size ≤ k) w5 w6) := Fr.ofGrown hg6 (fun k hk => (hk1 k hk).1)
    have HA6 := Lib.hid (HA5.out.frame HG6.out (fun k h1 h2 h => by have := HB3.out.size; omega))
    have HB6 := Lib.hid (HB5.out.frame HG6.out (fun k h1 h2 h => by omega))
    have HI3 := Lib.hid (show IntsIn w6 w3.heap.size w6.heap.size v3 ((dueL st.2 two).map (·.2.2)) from ⟨s3, hI3, fun k hk => ⟨hs3.elim (fun h => (hk1 k (h.symm.trans hk)).1) (fun h => by rw [hk] at h; cases h; omega), RowAt.lt hI3 k hk⟩⟩)
    clear hv2 ha5 hf5 hs1 hk1 hs2 hk2 hI3 hg6 hs3 HV1 HV1'
    go_wp2_with (at_builtin; refine wpList_run (by rfl) (exec_append _ _ _ _ (by rfl) _ _ (by rfl) (by rfl) hap) ?_)
    clear hap
    refine (due_in HB6.out (Nat.le_trans HPT.out (by omega)) two).mono ?_
    rintro e w7 ⟨v4, rfl, hv4, hb7, hf7⟩
    have HI7 := Lib.hid (HI3.out.frame hf7 (fun k h1 h2 h => by have := h.2; omega))
    have HA7 := Lib.hid (HA6.out.frame hf7 (fun k h1 h2 h => by have := h.1; omega))
    have HB7 := Lib.hid hb7
    have HF7 := Lib.hid hf7
    have HV4 := Lib.hid hv4
    clear hv4 hb7 hf7
    go_wp2_with fail
    obtain ⟨s5, h5, _⟩ := HI7.out.mem
    obtain ⟨s6, h6, _⟩ := HV4.out.mem
    refine (same_any h5 h6).mono ?_
    rintro e w8 ⟨rfl, hb8⟩
    rw [decide_eq_true rfl]
    have HA8 := Lib.hid (HA7.out.keep hb8)
    have HB8 := Lib.hid (HB7.out.keep hb8)
    have HBL8 := Lib.hid hb8
    clear h5 h6 hb8
    go_wp2_with fail
    obtain ⟨s7, h7, _⟩ := HA8.out.mem
    obtain ⟨s8, h8, _⟩ := HB8.out.mem
    refine (len_any h7).mono ?_
    rintro e w' ⟨rfl, rfl⟩
    rw [left_left _ (by omega)]
    have H8 := Lib.hid h8
    clear h7 h8
    go_wp2_with fail
    refine (len_any H8.out).mono ?_
    rintro e w' ⟨rfl, rfl⟩
    have hfin : Below w.heap.size w w8 := by
      have h1 := HB1.out.trans (HB2.out.mono HB1.out.size)
      have h2 := h1.trans (HB3.out.mono (Nat.le_trans HB1.out.size HB2.out.size))
      have q1 := HB1.out.size
      have q2 := HB2.out.size
      have q3 := HB3.out.size
      have h4 := (((((Fr.ofBelow (F := fun k => w.heap.size ≤ k) h2).trans HF4.out (fun b h => .inr (by omega))).trans HF5.out (fun b h => .inr (by omega))).trans HG6.out (fun b h => .inr (by omega))).trans HF7.out (fun b h => .inr (by omega))).trans (Fr.ofBelow (F := fun _ => False) HBL8.out) (fun b h => h.elim)
      exact h4.toBelow (fun k hk h => by omega)
    have HFIN := Lib.hid hfin
    clear hfin
    go_wp2_with fail
    refine (lives_any _).mono ?_
    rintro e w9 ⟨rfl, hb9⟩
    have HB9 := Lib.hid hb9
    clear hb9
    go_wp2_with fail
    go_ret
    exact ⟨rfl, btrans HFIN.out HB9.out⟩

end Go.Proofs.Ytcplimefklnknaa
