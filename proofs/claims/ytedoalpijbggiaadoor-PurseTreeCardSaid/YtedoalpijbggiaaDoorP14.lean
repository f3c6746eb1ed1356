/- PurseConserves: the walk. -/
import Derived.Test.YtedoalpijbggiaaDoorP12
namespace Go.Proofs.YtedoalpijbggiaaDoor
open Go.RowKit
attribute [local go_sem ↓] Go.wp_at_zero Go.wp_at_succ

/-- Four numbers in a block. -/
def Four (w : World) (b : Nat) (f : Nat → Int) : Prop := ∃ cur, w.heap[b]? = some (.cells cur 3 (0, 0)) ∧ cur.size = 4 ∧ ∀ j, j < 4 → cur[j]? = some (.int .i64 (f j))
theorem Four.keep {w w' : World} {b : Nat} {f : Nat → Int} (h : Four w b f) (hb : w'.heap[b]? = w.heap[b]?) : Four w' b f := by
  obtain ⟨cur, h1, h2⟩ := h
  exact ⟨cur, hb.trans h1, h2⟩
theorem Four.lt {w : World} {b : Nat} {f : Nat → Int} (h : Four w b f) : b < w.heap.size := by
  obtain ⟨cur, h1, h2⟩ := h
  exact (Array.getElem?_eq_some_iff.1 h1).1
theorem Four.cell {w : World} {b : Nat} {f : Nat → Int} (h : Four w b f) (j : Nat) (hj : j < 4) : w.cell? ⟨b, j, none⟩ = some (.int .i64 (f j)) := by
  obtain ⟨cur, h1, h2, h3⟩ := h
  exact block_cell h1 j _ (h3 j hj)
theorem Four.free {w : World} {b : Nat} {f : Nat → Int} (h : Four w b f) (j : Nat) : w.frozen? ⟨b, j, none⟩ = false := by
  obtain ⟨cur, h1, h2, h3⟩ := h
  exact block_free h1 j
theorem Four.set {w : World} {b : Nat} {f : Nat → Int} (h : Four w b f) (j : Nat) (x : Int) : Four (w.setCell ⟨b, j, none⟩ (.int .i64 x)) b (fun k => if k = j then x else f k) := by
  obtain ⟨cur, h1, h2, h3⟩ := h
  refine ⟨_, setCell_block w b j cur _ _ _ h1, by simp [h2], fun k hk => ?_⟩
  rw [Array.getElem?_setIfInBounds]
  by_cases e : j = k
  · subst e; rw [if_pos rfl, if_pos (by omega)]; simp
  · rw [if_neg e, h3 k hk]; simp only [if_neg (fun e' : k = j => e e'.symm)]

theorem act_made (L : Led) (a : PA) (j : Int) : ((L.actS a).sum j).1 = if L.actE a = 0 ∧ a.do_ = 0 ∧ j = a.req then a.n else (L.sum j).1 := by
  unfold Led.actS Led.actE
  by_cases h0 : a.do_ = 0
  · simp only [h0, if_true, true_and]
    unfold Led.mintS
    by_cases hE : L.mintE a.req a.n = 0
    · simp only [hE, if_true, true_and]
      show ((L.more a.req a.n 0).sum j).1 = _
      rw [more_sum]
      by_cases e : j = a.req
      · rw [if_pos e, if_pos e]
        have : L.sum a.req = (0, 0) := by
          unfold Led.mintE at hE
          split at hE
          · cases hE
          split at hE
          · cases hE
          rename_i hn
          unfold Led.sum
          cases hs : L.sums a.req with
          | none => rfl
          | some x => rw [hs] at hn; simp at hn
        rw [this]; simp
      · rw [if_neg e, if_neg e]
    · simp only [hE, if_false, false_and]
  · simp only [h0, if_false, false_and, and_false]
    split
    · unfold Led.moveS
      split
      · show ((L.more _ 0 0).sum j).1 = _
        rw [more_sum]
        split
        · rename_i e; rw [e]; simp
        · rfl
      · rfl
    · unfold Led.spendS
      split
      · show ((L.more _ 0 _).sum j).1 = _
        rw [more_sum]
        split
        · rename_i e; rw [e]; simp
        · rfl
      · rfl

theorem act_gone (L : Led) (a : PA) (j : Int) : (L.sum j).2 ≤ ((L.actS a).sum j).2 := by
  unfold Led.actS
  split
  · unfold Led.mintS
    split
    · show _ ≤ ((L.more a.req a.n 0).sum j).2
      rw [more_sum]
      split
      · rename_i e; rw [e]; simp
      · exact Int.le_refl _
    · exact Int.le_refl _
  · split
    · unfold Led.moveS
      split
      · show _ ≤ ((L.more _ 0 0).sum j).2
        rw [more_sum]
        split
        · rename_i e; rw [e]; simp
        · exact Int.le_refl _
      · exact Int.le_refl _
    · unfold Led.spendS
      split
      · rename_i h0
        have := (spendE_ok h0).1
        show _ ≤ ((L.more _ 0 _).sum j).2
        rw [more_sum]
        split
        · rename_i e; rw [e]; simp only; omega
        · exact Int.le_refl _
      · exact Int.le_refl _

/-- What the loop knows. -/
structure CsInv (w wr : World) (gb lb sb mb kb : Nat) (A : List PA) (va : Value) (L : Led) : Prop where
  led : LedAt wr gb lb sb L
  ok : L.Ok
  acts : ∃ ab, RowAt wr 24 5 va A.length (pasCells A) ab ∧ ∀ g, ab = some g → g ≠ lb ∧ g ≠ sb ∧ g ≠ mb ∧ g ≠ kb
  made : ∃ f, Four wr mb f ∧ ∀ j : Nat, 1 ≤ j → j ≤ 3 → f j = (L.sum j).1
  gone : ∃ f, Four wr kb f ∧ ∀ j : Nat, 1 ≤ j → j ≤ 3 → f j ≤ (L.sum j).2
  ne : mb ≠ lb ∧ mb ≠ sb ∧ kb ≠ lb ∧ kb ≠ sb ∧ mb ≠ kb ∧ mb ≠ gb ∧ kb ≠ gb
  new : w.heap.size ≤ mb ∧ w.heap.size ≤ kb ∧ w.heap.size ≤ lb ∧ w.heap.size ≤ sb
  below : Below w.heap.size w wr

theorem CsInv.keep {w wr w' : World} {gb lb sb mb kb : Nat} {A : List PA} {va : Value} {L : Led} (h : CsInv w wr gb lb sb mb kb A va L) (hb : Below wr.heap.size wr w') : CsInv w w' gb lb sb mb kb A va L := by
  obtain ⟨h1, h2, ⟨ab, h3, h3'⟩, ⟨f, h4, h4'⟩, ⟨f', h5, h5'⟩, h6, h7, h8⟩ := h
  exact ⟨h1.below hb, h2, ⟨ab, h3.keep hb, h3'⟩, ⟨f, h4.keep (hb.block _ h4.lt), h4'⟩, ⟨f', h5.keep (hb.block _ h5.lt), h5'⟩, h6, h7, btrans h8 hb⟩

/-- An act is done; what was minted is not noted yet. -/
theorem CsInv.act {w wr w' : World} {gb lb sb mb kb : Nat} {A : List PA} {va : Value} {L L' : Led} {er : Int} {e : Ending} (h : CsInv w wr gb lb sb mb kb A va L) (hd : Did wr gb lb sb L' er e w') (hg : ∀ j, (L.sum j).2 ≤ (L'.sum j).2) (hm : ∀ j : Nat, 1 ≤ j → j ≤ 3 → (L'.sum j).1 = (L.sum j).1) : CsInv w w' gb lb sb mb kb A va L' := by
  obtain ⟨h1, h2, ⟨ab, h3, h3'⟩, ⟨f, h4, h4'⟩, ⟨f', h5, h5'⟩, h6, h7, h8⟩ := h
  obtain ⟨_, hc, hok⟩ := hd
  have hF := hc.fr
  refine ⟨hc.at_, hok, ⟨ab, h3.below fun g hg' => hF.block g (h3.lt g hg') (fun e => ?_), h3'⟩, ⟨f, h4.keep (hF.block _ h4.lt (fun e => ?_)), fun j j1 j2 => by rw [hm j j1 j2]; exact h4' j j1 j2⟩, ⟨f', h5.keep (hF.block _ h5.lt (fun e => ?_)), fun j j1 j2 => Int.le_trans (h5' j j1 j2) (hg j)⟩, h6, h7, ?_⟩
  · have := h3' g hg'; unfold LF at e; omega
  · unfold LF at e; omega
  · unfold LF at e; omega
  · exact ((Fr.ofBelow (F := LF lb sb) h8).trans hF (fun b h => .inl h)).toBelow (fun k hk e => by unfold LF at e; omega)

theorem CsInv.note {w wr w' : World} {gb lb sb mb kb : Nat} {A : List PA} {va : Value} {L L' : Led} {er : Int} {e : Ending} (h : CsInv w wr gb lb sb mb kb A va L) (hd : Did wr gb lb sb L' er e w') (hg : ∀ j, (L.sum j).2 ≤ (L'.sum j).2) (r : Nat) (n : Int) (hm : ∀ j : Nat, (L'.sum j).1 = if j = r then n else (L.sum j).1) : CsInv w (w'.setCell ⟨mb, r, none⟩ (.int .i64 n)) gb lb sb mb kb A va L' := by
  obtain ⟨h1, h2, ⟨ab, h3, h3'⟩, ⟨f, h4, h4'⟩, ⟨f', h5, h5'⟩, h6, h7, h8⟩ := h
  obtain ⟨_, hc, hok⟩ := hd
  have hF := hc.fr
  have hS := fun (k : Nat) (hk : k ≠ mb) => Below.heap_setCell w' ⟨mb, r, none⟩ (.int .i64 n) k hk
  have hm4 : Four w' mb f := h4.keep (hF.block _ h4.lt (fun e => by unfold LF at e; omega))
  refine ⟨hc.at_.keep fun k hk => hS k (fun e => ?_), hok, ⟨ab, (h3.below fun g hg' => hF.block g (h3.lt g hg') (fun e => ?_)).below fun g hg' => hS g (h3' g hg').2.2.1, h3'⟩, ⟨_, hm4.set r n, fun j j1 j2 => ?_⟩, ⟨f', (h5.keep (hF.block _ h5.lt (fun e => ?_))).keep (hS kb (fun e => h6.2.2.2.2.1 e.symm)), fun j j1 j2 => Int.le_trans (h5' j j1 j2) (hg j)⟩, h6, h7, ?_⟩
  · unfold LFoot at hk; omega
  · have := h3' g hg'; unfold LF at e; omega
  · rw [hm j]
    show (if j = r then n else f j) = _
    split
    · rfl
    · exact h4' j j1 j2
  · unfold LF at e; omega
  · exact (((Fr.ofBelow (F := LF lb sb) h8).trans hF (fun b h => .inl h)).toBelow (fun k hk e => by unfold LF at e; omega)).setCell (p := ⟨mb, r, none⟩) h7.1 _

theorem CsInv.gone_set {w wr : World} {gb lb sb mb kb : Nat} {A : List PA} {va : Value} {L : Led} (h : CsInv w wr gb lb sb mb kb A va L) (r : Nat) {x : Int} (hx : x = (L.sum r).2) : CsInv w (wr.setCell ⟨kb, r, none⟩ (.int .i64 x)) gb lb sb mb kb A va L := by
  obtain ⟨h1, h2, ⟨ab, h3, h3'⟩, ⟨f, h4, h4'⟩, ⟨f', h5, h5'⟩, h6, h7, h8⟩ := h
  have hS := fun (k : Nat) (hk : k ≠ kb) => Below.heap_setCell wr ⟨kb, r, none⟩ (.int .i64 x) k hk
  refine ⟨h1.keep fun k hk => hS k (fun e => ?_), h2, ⟨ab, h3.below fun g hg' => hS g (h3' g hg').2.2.2, h3'⟩, ⟨f, h4.keep (hS mb h6.2.2.2.2.1), h4'⟩, ⟨_, h5.set r x, fun j j1 j2 => ?_⟩, h6, h7, h8.setCell (p := ⟨kb, r, none⟩) h7.2.1 _⟩
  · unfold LFoot at hk; omega
  · show (if j = r then x else f' j) ≤ _
    split
    · rename_i e; rw [hx, e]; exact Int.le_refl _
    · exact h5' j j1 j2

theorem acts_cells {w : World} {A : List PA} {la : Option Addr} {n lc i : Nat} {ab : Option Nat} (h : RowAt w 24 5 (.slice la n lc) A.length (pasCells A) ab) (hi : i < A.length) {a : PA} (ha : A[i]? = some a) :
    ∃ g off, la = some ⟨g, off, none⟩ ∧ ab = some g ∧ w.cell? ⟨g, off + i * 5, none⟩ = some (.int .i64 a.do_) ∧ w.cell? ⟨g, off + i * 5 + 1, none⟩ = some (.int .i64 a.req) ∧ w.cell? ⟨g, off + i * 5 + 2, none⟩ = some (.string a.from_) ∧ w.cell? ⟨g, off + i * 5 + 3, none⟩ = some (.string a.to) ∧ w.cell? ⟨g, off + i * 5 + 4, none⟩ = some (.int .i64 a.n) := by
  rcases h.2.2 with ⟨_, h0, _⟩ | ⟨g, off, cap, cur, hv, hsg, hh, _, _, _, ht⟩
  · omega
  injection hv with e1 e2 e3
  refine ⟨g, off, e1, hsg, ?_, ?_, ?_, ?_, ?_⟩
  · rw [show off + i * 5 = off + (i * 5 + 0) by omega, row_cell hh ht _ (by omega), pasCells_get A i a ha 0 (by omega)]; rfl
  · rw [show off + i * 5 + 1 = off + (i * 5 + 1) by omega, row_cell hh ht _ (by omega), pasCells_get A i a ha 1 (by omega)]; rfl
  · rw [show off + i * 5 + 2 = off + (i * 5 + 2) by omega, row_cell hh ht _ (by omega), pasCells_get A i a ha 2 (by omega)]; rfl
  · rw [show off + i * 5 + 3 = off + (i * 5 + 3) by omega, row_cell hh ht _ (by omega), pasCells_get A i a ha 3 (by omega)]; rfl
  · rw [show off + i * 5 + 4 = off + (i * 5 + 4) by omega, row_cell hh ht _ (by omega), pasCells_get A i a ha 4 (by omega)]; rfl

set_option maxRecDepth 8000 in
set_option maxHeartbeats 8000000 in
theorem conserves_walk {w : World} {A0 : Option Addr} {n0 : Nat} {l : List Int} (h : ArgInts w A0 n0 l) (cap : Nat) :
    Calls Tryd.prog 4 #[.slice A0 n0 cap] w fun e w' => e = .returned (.bool true) ∧ Below w.heap.size w w' := by
  have HARG := Lib.hid h
  clear h
  go_enter Tryd.func4, Tryd.ntmps4
  go_wp2_with fail
  refine (new_any _).mono ?_
  rintro e w1 ⟨gb, lb, sb, rfl, hled, hnew, hb1⟩
  have HAC := Lib.hid (acts_any (HARG.out.keep hb1) cap)
  have HLED := Lib.hid hled
  have HNEW := Lib.hid hnew
  have HB1 := Lib.hid hb1
  clear hled hnew hb1
  go_wp2_with fail
  refine HAC.out.mono ?_
  rintro e w2 ⟨A, va, rfl, hA, hAl, hAok⟩
  have HAOK := Lib.hid hAok
  obtain ⟨⟨ab, hrow, hab⟩, hb2⟩ := hA
  have HSTART : Hid (CsInv w ((w2.alloc (.cells #[.int .i64 0, .int .i64 0, .int .i64 0, .int .i64 0] 3)).alloc (.cells #[.int .i64 0, .int .i64 0, .int .i64 0, .int .i64 0] 3)) gb lb sb w2.heap.size (w2.heap.size + 1) A va led0) := by
    have k1 : Below w2.heap.size w2 (w2.alloc (.cells #[.int .i64 0, .int .i64 0, .int .i64 0, .int .i64 0] 3)) := (Below.refl _ _).alloc (Nat.le_refl _) _
    have k2 : Below (w2.alloc (.cells #[.int .i64 0, .int .i64 0, .int .i64 0, .int .i64 0] 3)).heap.size (w2.alloc (.cells #[.int .i64 0, .int .i64 0, .int .i64 0, .int .i64 0] 3)) ((w2.alloc (.cells #[.int .i64 0, .int .i64 0, .int .i64 0, .int .i64 0] 3)).alloc (.cells #[.int .i64 0, .int .i64 0, .int .i64 0, .int .i64 0] 3)) := (Below.refl _ _).alloc (Nat.le_refl _) _
    have hlt := HLED.out.lt
    have hN := HNEW.out
    have s2 := hb2.size
    have s1 := HB1.out.size
    have l1 := hlt gb (.inl rfl)
    have l2 := hlt lb (.inr (.inl rfl))
    have l3 := hlt sb (.inr (.inr rfl))
    have n2 := hN lb (.inr (.inl rfl))
    have n3 := hN sb (.inr (.inr rfl))
    have four0 : ∀ (W : World) (b : Nat), W.heap[b]? = some (.cells #[.int .i64 0, .int .i64 0, .int .i64 0, .int .i64 0] 3 (0, 0)) → Four W b (fun _ => 0) := fun W b hb => ⟨_, hb, rfl, fun j hj => by
      match j, hj with
      | 0, _ => rfl | 1, _ => rfl | 2, _ => rfl | 3, _ => rfl⟩
    have h0 := heap_alloc_new w2 (.cells #[.int .i64 0, .int .i64 0, .int .i64 0, .int .i64 0] 3)
    have h1 := heap_alloc_new (w2.alloc (.cells #[.int .i64 0, .int .i64 0, .int .i64 0, .int .i64 0] 3)) (.cells #[.int .i64 0, .int .i64 0, .int .i64 0, .int .i64 0] 3)
    rw [show (w2.alloc (.cells #[.int .i64 0, .int .i64 0, .int .i64 0, .int .i64 0] 3)).heap.size = w2.heap.size + 1 by simp] at h1
    refine ⟨(HLED.out.below hb2).below (btrans k1 k2), led0_ok, ⟨ab, hrow.keep (btrans k1 k2), fun g hg => ?_⟩, ⟨_, four0 _ _ ((k2.block w2.heap.size (by simp)).trans h0), fun j _ _ => rfl⟩, ⟨_, four0 _ _ h1, fun j _ _ => Int.le_refl 0⟩, by omega, by omega, btrans HB1.out (btrans hb2 (btrans k1 k2))⟩
    have := hab g hg
    have := hrow.lt g hg
    omega
  obtain ⟨la, lc, rfl⟩ := hrow.form
  obtain ⟨n, hn⟩ : ∃ n, n = A.length := ⟨_, rfl⟩
  have HN := Lib.hid hn
  rw [← hn]
  rw [← hn] at HSTART
  have hn20 : n ≤ 20 := by omega
  clear hrow hab hb2 hAl hAok hn
  go_wp2_with fail
  go_loopw [7] (fun vi wr => ∃ (i : Nat) (L : Led), vi = .int .i64 i ∧ i ≤ n ∧ CsInv w wr gb lb sb w2.heap.size (w2.heap.size + 1) A (.slice la n lc) L) (fun vi _ => (n - intOf vi).toNat)
  case atStart => exact ⟨0, led0, rfl, by omega, HSTART.out⟩
  case round =>
    rename World => wo
    obtain ⟨i, L, rfl, hi, hinv⟩ := hrel
    have HI := Lib.hid hinv
    clear hinv
    by_cases hin : i < n
    · have t1 : decide ((i : Int) < (n : Int)) = true := decide_eq_true (by omega)
      have hil : i < A.length := by rw [← HN.out]; exact hin
      obtain ⟨a, ha⟩ : ∃ a, A[i]? = some a := ⟨A[i], by simp [hil]⟩
      obtain ⟨ab, hrow, _⟩ := HI.out.acts
      obtain ⟨g, off, rfl, _, c0, c1, c2, c3, c4⟩ := acts_cells hrow hil ha
      have haok := HAOK.out a (List.mem_of_getElem? ha)
      obtain ⟨r, hr, hr1, hr2, _⟩ := haok.req
      have HEV := Lib.hid (fun w => haok.env w)
      clear ha haok hrow
      obtain ⟨d, rq, s, t, m⟩ := a
      dsimp only at hr c0 c1 c2 c3 c4
      subst hr
      have i1 : (0 : Int) ≤ (i : Int) := by omega
      have i2 : (i : Int) < (n : Int) := by omega
      obtain ⟨W, hW⟩ : ∃ W, wo.alloc (.cells #[.int .i64 d, .int .i64 r, .string s, .string t, .int .i64 m] 24) = W := ⟨_, rfl⟩
      have hbx := heap_alloc_new wo (.cells #[.int .i64 d, .int .i64 r, .string s, .string t, .int .i64 m] 24)
      have hbw : Below wo.heap.size wo W := by rw [← hW]; exact (Below.refl _ _).alloc (Nat.le_refl _) _
      rw [hW] at hbx
      have k0 := block_cell hbx 0 _ rfl
      have k1 := block_cell hbx 1 _ rfl
      have k2 := block_cell hbx 2 _ rfl
      have k3 := block_cell hbx 3 _ rfl
      have k4 := block_cell hbx 4 _ rfl
      have HBX := Lib.hid hbx
      have hI2 := HI.out.keep hbw
      have HI2 := Lib.hid hI2
      have HD : Hid (Calls Tryd.prog 15 #[.pointer (some ⟨gb, 0, none⟩), .agg #[.int .i64 d, .int .i64 r, .string s, .string t, .int .i64 m]] W (Did W gb lb sb (L.actS ⟨d, r, s, t, m⟩) (L.actE ⟨d, r, s, t, m⟩))) := does_any hI2.led hI2.ok ⟨d, r, s, t, m⟩ (HEV.out W)
      have HLF : Hid (¬ LF lb sb wo.heap.size) := by
        have h1 := HI.out.led.lt lb (.inr (.inl rfl))
        have h2 := HI.out.led.lt sb (.inr (.inr rfl))
        show ¬ _; unfold LF; omega
      have HMB : Hid (wo.heap.size ≠ w2.heap.size ∧ wo.heap.size ≠ w2.heap.size + 1) := by
        obtain ⟨f1, h1, _⟩ := HI.out.made
        obtain ⟨f2, h2, _⟩ := HI.out.gone
        have := h1.lt; have := h2.lt
        show _ ∧ _; omega
      have HMD := Lib.hid (act_made L ⟨d, r, s, t, m⟩)
      have HGN := Lib.hid (act_gone L ⟨d, r, s, t, m⟩)
      obtain ⟨E, hE⟩ : ∃ E, E = L.actE ⟨d, r, s, t, m⟩ := ⟨_, rfl⟩
      obtain ⟨L', hL'⟩ : ∃ L', L' = L.actS ⟨d, r, s, t, m⟩ := ⟨_, rfl⟩
      rw [← hE] at HD HMD
      rw [← hL'] at HD HMD HGN
      dsimp only at HMD
      clear hbx hbw hI2 hE hL'
      go_wp2_with fail
      refine HD.out.mono ?_
      rintro e w3 hd
      have HDD := Lib.hid hd
      obtain ⟨rfl, hc, hok⟩ := hd
      have hbx3 := (hc.fr.block wo.heap.size (Array.getElem?_eq_some_iff.1 HBX.out).1 HLF.out).trans HBX.out
      have HBX3 := Lib.hid hbx3
      have m0 := block_cell hbx3 0 _ rfl
      have m1 := block_cell hbx3 1 _ rfl
      have m2 := block_cell hbx3 2 _ rfl
      have m3 := block_cell hbx3 3 _ rfl
      have m4 := block_cell hbx3 4 _ rfl
      clear hc hok hbx3 HD
      have hcases : (E = 0 ∧ d = 0) ∨ (E = 0 ∧ d ≠ 0) ∨ E ≠ 0 := by omega
      rcases hcases with ⟨hE, hd0⟩ | ⟨hE, hd0⟩ | hE
      case' inl =>
        have e1 : (E == 0) = true := by rw [hE]; rfl
        have e2 : (d == 0) = true := by rw [hd0]; rfl
        have hi3 := HI2.out.note HDD.out HGN.out r m (fun j => by
          rw [HMD.out]
          by_cases hj : j = r
          · rw [if_pos ⟨hE, hd0, by omega⟩, if_pos hj]
          · rw [if_neg (fun h => hj (by omega)), if_neg hj])
        obtain ⟨f0, h0, _⟩ := HI2.out.made
        have hbx4 : (w3.setCell ⟨w2.heap.size, r, none⟩ (.int .i64 m)).heap[wo.heap.size]? = _ := (Below.heap_setCell w3 ⟨w2.heap.size, r, none⟩ (.int .i64 m) wo.heap.size HMB.out.1).trans HBX3.out
        obtain ⟨W4, hW4⟩ : ∃ W4, w3.setCell ⟨w2.heap.size, r, none⟩ (.int .i64 m) = W4 := ⟨_, rfl⟩
        have hm3 : Four w3 w2.heap.size f0 := h0.keep (HDD.out.2.1.fr.block _ h0.lt (fun e => by have := HI2.out.ne; unfold LF at e; omega))
        have cm := hm3.cell r (by omega)
        have fm := hm3.free r
        rw [hW4] at hi3 hbx4
        have HI4 := Lib.hid hi3
        have HB4 := Lib.hid hbx4
        have r1 : (0 : Int) ≤ (r : Int) := by omega
        have r2 : (r : Int) < 4 := by omega
        clear hi3 hbx4 h0 hm3 hE hd0
      case' inr.inl =>
        have e1 : (E == 0) = true := by rw [hE]; rfl
        have e2 : (d == 0) = false := beq_eq_false_iff_ne.2 hd0
        have HI4 := Lib.hid (HI2.out.act HDD.out HGN.out (fun j _ _ => by rw [HMD.out, if_neg (fun h => hd0 h.2.1)]))
        have HB4 := HBX3
        clear hE hd0
      case' inr.inr =>
        have e1 : (E == 0) = false := beq_eq_false_iff_ne.2 hE
        have HI4 := Lib.hid (HI2.out.act HDD.out HGN.out (fun j _ _ => by rw [HMD.out, if_neg (fun h => hE h.1)]))
        have HB4 := HBX3
        clear hE
      all_goals
        go_wp2_with fail
        go_loopw [9] (fun vr wx => ∃ r' : Nat, vr = .int .i64 r' ∧ 1 ≤ r' ∧ r' ≤ 4 ∧ CsInv w wx gb lb sb w2.heap.size (w2.heap.size + 1) A (.slice (some ⟨g, off, none⟩) n lc) L' ∧ wx.heap[wo.heap.size]? = some (.cells #[.int .i64 d, .int .i64 r, .string s, .string t, .int .i64 m] 24 (0, 0))) (fun vr _ => (4 - intOf vr).toNat)
        case atStart => exact ⟨1, rfl, by omega, by omega, HI4.out, HB4.out⟩
        case round =>
          obtain ⟨r', rfl, hr1', hr2', hinv, hbox⟩ := hrel
          have HJ := Lib.hid hinv
          have HBO := Lib.hid hbox
          clear hinv hbox
          by_cases hr3 : r' ≤ 3
          · have t3 : decide ((r' : Int) ≤ 3) = true := decide_eq_true (by omega)
            obtain ⟨f1, h1, h1'⟩ := HJ.out.made
            obtain ⟨f2, h2, h2'⟩ := HJ.out.gone
            have HS := Lib.hid (sum_ok HJ.out.led HJ.out.ok r')
            have hp0 := HJ.out.ok.most r'
            have hp1 := HJ.out.ok.spent r'
            have hp2 := HJ.out.ok.held r'
            have hx1 := h1' r' hr1' hr3
            have hx2 := h2' r' hr1' hr3
            obtain ⟨p, hp⟩ : ∃ p, p = (L'.sum r').1 := ⟨_, rfl⟩
            obtain ⟨q, hq⟩ : ∃ q, q = (L'.sum r').2 := ⟨_, rfl⟩
            have HQ := Lib.hid hq
            rw [← hp, ← hq] at HS
            rw [← hp] at hp0 hp2 hx1
            rw [← hq] at hp1 hp2 hx2
            have cm1 := h1.cell r' (by omega)
            have cm2 := h2.cell r' (by omega)
            have fm2 := h2.free r'
            rw [hx1] at cm1
            obtain ⟨x2, hxx⟩ : ∃ x2, x2 = f2 r' := ⟨_, rfl⟩
            rw [← hxx] at cm2 hx2
            have d1 : decide (p - q < 0) = false := decide_eq_false (by omega)
            have d2 : decide (q < x2) = false := decide_eq_false (by omega)
            have g1 : IntKind.i64.wrap (p - q + q) = p := by rw [IntWalk.i64_in _ (by omega)]; omega
            have r1' : (0 : Int) ≤ (r' : Int) := by omega
            have r2' : (r' : Int) < 4 := by omega
            have HH2 := Lib.hid h2
            clear h1' h2' hp hq hx1 hxx h1 h2
            go_wp2_with fail
            refine HS.out.mono ?_
            rintro e wy ⟨rfl, hby⟩
            have dm1 := bkeep hby cm1
            have dm2 := bkeep hby cm2
            have df2 := (HH2.out.keep (hby.block _ HH2.out.lt)).free r'
            have HJ2 := Lib.hid ((HJ.out.keep hby).gone_set r' HQ.out)
            have HBO2 := Lib.hid ((Below.heap_setCell wy ⟨w2.heap.size + 1, r', none⟩ (.int .i64 q) wo.heap.size HMB.out.2).trans ((hby.block _ (Array.getElem?_eq_some_iff.1 HBO.out).1).trans HBO.out))
            clear hby
            go_wp2_with fail
            go_roundw
            case rel => exact ⟨r' + 1, by go_num, by omega, by omega, HJ2.out, HBO2.out⟩
            case measure => simp [intOf]; omega
          · have t3 : decide ((r' : Int) ≤ 3) = false := decide_eq_false (by omega)
            have hbx5 := HBO.out
            have z0 := block_cell hbx5 0 _ rfl
            have z1 := block_cell hbx5 1 _ rfl
            have z2 := block_cell hbx5 2 _ rfl
            have z3 := block_cell hbx5 3 _ rfl
            have z4 := block_cell hbx5 4 _ rfl
            have HL1 := Lib.hid (left_any HJ.out.led s)
            have HL2 := Lib.hid (left_any HJ.out.led t)
            have p1 := HJ.out.ok.pos s
            have p2 := HJ.out.ok.pos t
            obtain ⟨x1, hx1⟩ : ∃ x, x = L'.left s := ⟨_, rfl⟩
            obtain ⟨x2, hx2⟩ : ∃ x, x = L'.left t := ⟨_, rfl⟩
            rw [← hx1] at HL1 p1
            rw [← hx2] at HL2 p2
            have d1 : decide (x1 < 0) = false := decide_eq_false (by omega)
            have d2 : decide (x2 < 0) = false := decide_eq_false (by omega)
            clear hbx5 hx1 hx2
            go_wp2_with fail
            refine HL1.out.mono ?_
            rintro e wy ⟨rfl, rfl⟩
            go_wp2_with fail
            refine HL2.out.mono ?_
            rintro e wz ⟨rfl, rfl⟩
            go_wp2_with fail
            go_roundw
            case rel => exact ⟨i + 1, L', by go_num, by omega, HJ.out⟩
            case measure => simp [intOf]; omega
    · obtain rfl : i = n := by omega
      have t1 : decide ((i : Int) < (i : Int)) = false := decide_eq_false (by omega)
      have HLV := Lib.hid (lives_any wo)
      have HBE := Lib.hid HI.out.below
      go_wp2_with fail
      refine HLV.out.mono ?_
      rintro e w9 ⟨rfl, hb9⟩
      have HB9 := Lib.hid (btrans HBE.out hb9)
      clear hb9
      go_wp2_with fail
      go_ret
      exact ⟨rfl, HB9.out⟩

end Go.Proofs.YtedoalpijbggiaaDoor
