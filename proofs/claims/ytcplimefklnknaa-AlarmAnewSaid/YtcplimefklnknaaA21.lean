/- AlarmAnew: the walk. -/
import Derived.Test.YtcplimefklnknaaA20
namespace Go.Proofs.Ytcplimefklnknaa
open Go.RowKit
attribute [local go_sem ↓] Go.wp_at_zero Go.wp_at_succ

/-- A row of acts of one's own. -/
structure ActRow (w wr : World) (v : Value) (L : List Ent) : Prop where
  row : ∃ sb, RowAt wr 33 3 v L.length (entCells L) sb ∧ ∀ g, sb = some g → w.heap.size ≤ g
  below : Below w.heap.size w wr

theorem ActRow.nil (w : World) : ActRow w w (.slice none 0 0) [] := ⟨⟨none, RowAt.nil _ _ _, fun _ hg => nomatch hg⟩, Below.refl _ _⟩
theorem ActRow.form {w wr : World} {v : Value} {L : List Ent} (h : ActRow w wr v L) : ∃ la lc, v = .slice la L.length lc := by
  obtain ⟨⟨sb, h, _⟩, _⟩ := h; exact h.form
theorem ActRow.keep {w wr w' : World} {v : Value} {L : List Ent} (h : ActRow w wr v L) (hb : Below wr.heap.size wr w') : ActRow w w' v L := by
  obtain ⟨⟨sb, h, hs⟩, hbl⟩ := h
  exact ⟨⟨sb, h.keep hb, hs⟩, btrans hbl hb⟩

/-- Its cells. -/
theorem row_cells {w : World} {la : Option Addr} {n lc k : Nat} {L : List Ent} {sb : Option Nat} {x : Ent} (h : RowAt w 33 3 (.slice la n lc) L.length (entCells L) sb) (hx : L[k]? = some x) :
    ∃ g off, la = some ⟨g, off, none⟩ ∧ ∀ (j : Nat) (y : Ent), L[j]? = some y → ∀ W, Below w.heap.size w W → W.cell? ⟨g, off + j * 3, none⟩ = some (.int .i64 y.1) ∧ W.cell? ⟨g, off + j * 3 + 1, none⟩ = some (.int .i64 y.2.1) ∧ W.cell? ⟨g, off + j * 3 + 2, none⟩ = some (.int .i64 y.2.2) := by
  have hk := (List.getElem?_eq_some_iff.1 hx).1
  rcases h.2.2 with ⟨_, h0, _⟩ | ⟨g, off, cap, cur, hv, hsg, _⟩
  · omega
  · injection hv with e1 e2 e3
    subst e1 e2 e3
    refine ⟨g, off, rfl, fun j y hy W hW => ?_⟩
    have hj := (List.getElem?_eq_some_iff.1 hy).1
    have hc := fun i hi => h.cell i hi
    have hg := entCells_get L j y hy
    exact ⟨bkeep hW ((hc (j * 3) (by omega)).trans hg.1), bkeep hW ((hc (j * 3 + 1) (by omega)).trans hg.2.1), bkeep hW ((hc (j * 3 + 2) (by omega)).trans hg.2.2)⟩

theorem act_push {w wr : World} {v : Value} {L : List Ent} (h : ActRow w wr v L) (hk : L.length ≤ 100) (e : Ent) :
    ∃ la lc w2, (Builtin.append_ #[23, 23] 23 #[v, .slice (some ⟨wr.heap.size, 0, none⟩) 1 1]).run Try.prog (wr.alloc (.cells #[.int .i64 e.1, .int .i64 e.2.1, .int .i64 e.2.2] 33)) = .ok (.slice la (L.length + 1) lc) w2 ∧
      ActRow w w2 (.slice la (L.length + 1) lc) (L ++ [e]) := by
  obtain ⟨⟨sb, hrow, hsb⟩, hb⟩ := h
  obtain ⟨B, hB⟩ : ∃ B, B = wr.alloc (.cells #[.int .i64 e.1, .int .i64 e.2.1, .int .i64 e.2.2] 33) := ⟨_, rfl⟩
  have hbB : Below wr.heap.size wr B := by rw [hB]; exact (Below.refl _ _).alloc (Nat.le_refl _) _
  have hBi : B.heap[wr.heap.size]? = some (.cells #[.int .i64 e.1, .int .i64 e.2.1, .int .i64 e.2.2] 33 (0, 0)) := by rw [hB]; exact heap_alloc_new _ _
  obtain ⟨la, lc, sb2, w2, hrun, hrow2, hg2, hsb2, _⟩ := row_append (P := Try.prog) B 23 23 33 _ 3 24 Try.underlying23 infoAct rfl (hrow.keep hbB) ⟨wr.heap.size, 0, none⟩ 1 1 (entCells [e]) (by rw [entCells_length]; rfl) (box_cells hBi) (entCells_one _) (by omega) (by omega) (by omega)
  rw [← entCells_append] at hrow2
  rw [← hB]
  refine ⟨la, lc, w2, hrun, ⟨sb2, by rw [List.length_append]; exact hrow2, fun g hg => ?_⟩, ?_⟩
  · rcases hsb2 with h | h
    · exact hsb g (h.symm.trans hg)
    · rw [hg] at h; cases h
      exact Nat.le_trans hb.size hbB.size
  · exact (hb.trans (hbB.mono hb.size)).trans ⟨hg2.os, hg2.tape, hg2.output, hg2.size, fun b hbl => hg2.block b (by have := hbB.size; have := hb.size; omega) (fun e => by have := hsb b e.symm; omega)⟩

def setsOf (L : List Ent) : List Ent := L.filter (fun e => e.1 == 0)

set_option maxRecDepth 8000 in
set_option maxHeartbeats 4000000 in
theorem anew_walk {w : World} {A : Option Addr} {n c : Nat} {l0 : List Int} (h : ArgInts w A n l0) (now : Int) :
    Calls Try.prog 4 #[.slice A n c, .int .i64 now] w fun e w' => e = .returned (.bool true) ∧ Below w.heap.size w w' := by
  have HARG := Lib.hid h
  clear h
  go_enter Try.func4, Try.ntmps4
  go_wp2_with fail
  refine (acts_any HARG.out).mono ?_
  rintro e w1 ⟨va, sba, rfl, hra, _, hb1⟩
  have HL := Lib.hid (actsL_len l0)
  obtain ⟨L, hLL⟩ : ∃ L, L = actsL l0 := ⟨_, rfl⟩
  rw [← hLL] at HL hra
  have HRA := Lib.hid hra
  have HB1 := Lib.hid hb1
  clear hra hb1 hLL HARG
  obtain ⟨la, lc, rfl⟩ := HRA.out.form
  obtain ⟨p, hp⟩ : ∃ p, p = L.length := ⟨_, rfl⟩
  rw [← hp]
  have hp30 : p ≤ 30 := by rw [hp]; exact HL.out
  have HP := Lib.hid hp
  clear hp
  go_wp2_with fail
  go_loopw [5, 7] (fun v vi wr => ∃ k : Nat, vi = .int .i64 k ∧ k ≤ p ∧ ActRow w1 wr v (setsOf (L.take k))) (fun _ vi _ => (p - intOf vi).toNat)
  case atStart => exact ⟨0, rfl, Nat.zero_le _, ActRow.nil _⟩
  case round =>
    obtain ⟨k, rfl, hk, hinv⟩ := hrel
    obtain ⟨lb, ld, rfl⟩ := hinv.form
    have HI := Lib.hid hinv
    clear hinv
    by_cases hkp : k < p
    · obtain ⟨x, hx⟩ : ∃ x, L[k]? = some x := ⟨L[k]'(by rw [← HP.out]; exact hkp), List.getElem?_eq_getElem _⟩
      obtain ⟨g, off, rfl, hcell⟩ := row_cells (n := p) (by rw [HP.out]; exact HRA.out) hx
      obtain ⟨c0, c1, c2⟩ := hcell k x hx _ HI.out.below
      have HX := Lib.hid hx
      have i1 : (0 : Int) ≤ (k : Int) := by omega
      have i2 : (k : Int) < (p : Int) := by omega
      clear hcell hx
      cases hb : x.1 == 0 with
      | true =>
        have HST := Lib.hid (take_filter_step L k x HX.out true hb)
        obtain ⟨le, lf, w2, hrun, hnew⟩ := act_push HI.out (by unfold setsOf; have h1 := List.length_filter_le (fun e : Ent => e.1 == 0) (L.take k); have h2 := List.length_take_le k L; have := HL.out; have := HP.out; omega) x
        have HN := Lib.hid hnew
        clear hnew
        go_wp2_with (at_builtin; refine wpList_run (by rfl) (exec_append _ _ _ _ (by rfl) _ _ (by rfl) (by rfl) hrun) ?_)
        go_roundw
        case rel => exact ⟨k + 1, by go_num, by omega, by unfold setsOf; rw [HST.out]; exact HN.out⟩
        case measure => simp [intOf]; omega
      | false =>
        have HST := Lib.hid (take_filter_step L k x HX.out false hb)
        go_wp2_with fail
        go_roundw
        case rel => exact ⟨k + 1, by go_num, by omega, by unfold setsOf; rw [HST.out]; exact HI.out⟩
        case measure => simp [intOf]; omega
    · obtain rfl : p = k := by omega
      have hI := HI.out
      rw [List.take_of_length_le (by rw [← HP.out]; exact Nat.le_refl _)] at hI
      have HZ : Hid (∀ a ∈ setsOf L, a.1 = 0) := fun a ha => by have := (List.mem_filter.1 ha).2; simpa using this
      obtain ⟨S, hS⟩ : ∃ S, S = setsOf L := ⟨_, rfl⟩
      have hSL : S.length ≤ 30 := by rw [hS]; exact Nat.le_trans (List.length_filter_le _ _) HL.out
      have hlen : (setsOf (List.take p L)).length = S.length := by rw [List.take_of_length_le (by rw [← HP.out]; exact Nat.le_refl _), hS]
      rw [hlen]
      rw [← hS] at hI HZ
      obtain ⟨q, hq⟩ : ∃ q, q = S.length := ⟨_, rfl⟩
      have hI' := hI
      rw [← hq] at hI' hSL ⊢
      have HQ := Lib.hid hq
      have HI2 := Lib.hid hI'
      obtain ⟨⟨sbS, hrS, _⟩, hbS⟩ := hI
      have HRS := Lib.hid hrS
      have HBS := Lib.hid (btrans HB1.out hbS)
      clear hI' hS hlen hq hrS hbS HI HRA HL HP HB1
      obtain ⟨w2, hw2⟩ : ∃ w2, w2 = wr := ⟨_, rfl⟩
      rw [← hw2] at HI2 HRS HBS ⊢
      clear hw2
      go_wp2_with fail
      go_loopw [8, 9] (fun v vi wr => ∃ k : Nat, vi = .int .i64 k ∧ k ≤ q ∧ ∃ M, ActRow w2 wr v M ∧ M.length ≤ k ∧ M ++ keepL (S.drop k) = keepL S) (fun _ vi _ => (q - intOf vi).toNat)
      case atStart => exact ⟨0, rfl, Nat.zero_le _, [], ActRow.nil _, Nat.le_refl _, rfl⟩
      case round =>
        obtain ⟨k, rfl, hk, M, hinv, hml, hkeep⟩ := hrel
        obtain ⟨le, lf, rfl⟩ := hinv.form
        have HI := Lib.hid hinv
        have HK := Lib.hid hkeep
        clear hinv hkeep
        by_cases hkq : k < q
        · obtain ⟨x, hx⟩ : ∃ x, S[k]? = some x := ⟨S[k]'(by rw [← HQ.out]; exact hkq), List.getElem?_eq_getElem _⟩
          obtain ⟨g, off, rfl, hcell⟩ := row_cells (n := q) (by rw [HQ.out]; exact HRS.out) hx
          have HC := Lib.hid hcell
          have HX := Lib.hid hx
          have i1 : (0 : Int) ≤ (k : Int) := by omega
          have i2 : (k : Int) < (q : Int) := by omega
          clear hcell hx
          go_wp2_with fail
          go_loopw [10, 11] (fun vb vj wi => ∃ j : Nat, vb = .bool (againL S k j x.2.2) ∧ vj = .int .i64 j ∧ k + 1 ≤ j ∧ j ≤ q ∧ Below wr.heap.size wr wi) (fun _ vj _ => (q - intOf vj).toNat)
          case atStart => exact ⟨k + 1, by rw [again_start], by go_num, Nat.le_refl _, by omega, Below.refl _ _⟩
          case round =>
            obtain ⟨j, rfl, rfl, hj1, hj, hbi⟩ := hrel
            have HBI := Lib.hid hbi
            clear hbi
            by_cases hjq : j < q
            · obtain ⟨y, hy⟩ : ∃ y, S[j]? = some y := ⟨S[j]'(by rw [← HQ.out]; exact hjq), List.getElem?_eq_getElem _⟩
              have c0 := (HC.out k x HX.out _ (btrans HI.out.below HBI.out)).2.2
              have c1 := (HC.out j y hy _ (btrans HI.out.below HBI.out)).2.2
              have HS := Lib.hid (again_step S k j x.2.2 hj1 y hy)
              have i3 : (0 : Int) ≤ (j : Int) := by omega
              have i4 : (j : Int) < (q : Int) := by omega
              clear hy
              cases hb : againL S k j x.2.2 with
              | true =>
                have hs := HS.out
                rw [hb, Bool.true_or] at hs
                have HS1 := Lib.hid hs
                clear hs
                go_wp2_with fail
                go_quiet (fail)
                go_wp2_with fail
                go_roundw
                case rel => exact ⟨j + 1, by rw [HS1.out], by go_num, by omega, by omega, below_drewN HBI.out⟩
                case measure => simp [intOf]; omega
              | false =>
                have hs := HS.out
                rw [hb, Bool.false_or] at hs
                have HS1 := Lib.hid hs
                clear hs
                go_wp2_with fail
                go_quiet (fail)
                go_wp2_with fail
                go_roundw
                case rel => exact ⟨j + 1, by rw [HS1.out], by go_num, by omega, by omega, below_drewN HBI.out⟩
                case measure => simp [intOf]; omega
            · obtain rfl : q = j := by omega
              obtain ⟨c0, c1, c2⟩ := HC.out k x HX.out _ (btrans HI.out.below HBI.out)
              have HI' := Lib.hid (HI.out.keep HBI.out)
              cases hb : againL S k q x.2.2 with
              | true =>
                have hs := again_end S k x HX.out true (by rw [← HQ.out]; exact hb)
                have HS1 := Lib.hid hs
                clear hs
                go_wp2_with fail
                go_roundw
                case rel => exact ⟨k + 1, by go_num, by omega, M, HI'.out, by omega, by rw [← HK.out, HS1.out]; rfl⟩
                case measure => simp [intOf]; omega
              | false =>
                have hs := again_end S k x HX.out false (by rw [← HQ.out]; exact hb)
                have HS1 := Lib.hid hs
                obtain ⟨la2, lc2, w3, hrun, hnew⟩ := act_push HI'.out (by omega) x
                have HN := Lib.hid hnew
                clear hs hnew
                go_wp2_with (at_builtin; refine wpList_run (by rfl) (exec_append _ _ _ _ (by rfl) _ _ (by rfl) (by rfl) hrun) ?_)
                go_roundw
                case rel => exact ⟨k + 1, by go_num, by omega, M ++ [x], HN.out, by rw [List.length_append]; exact Nat.succ_le_succ hml, by rw [← HK.out, HS1.out, List.append_assoc]; rfl⟩
                case measure => simp [intOf]; omega
        · obtain rfl : q = k := by omega
          have hM : M = keepL S := by
            have := HK.out
            rwa [List.drop_of_length_le (by rw [← HQ.out]; exact Nat.le_refl _), keepL, List.append_nil] at this
          have h1 := anew_len S HZ.out
          have h2 := anew_tid S HZ.out
          rw [← hM] at h1 h2
          have HU1 := Lib.hid h1
          have HU2 := Lib.hid h2
          have hSt := Nat.le_trans (played_turn S) (show S.length ≤ 30 by rw [← HQ.out]; exact hSL)
          have hMt := Nat.le_trans (played_turn M) (Nat.le_trans hml hSL)
          obtain ⟨m, hm⟩ : ∃ m, m = M.length := ⟨_, rfl⟩
          rw [← hm]
          have HM := Lib.hid hm
          have hmq : m ≤ q := by rw [hm]; exact hml
          clear hM h1 h2 HK hml hm
          go_wp2_with fail
          refine (played_in (L := S) (by rw [← HQ.out]; have := HRS.out.keep HI.out.below; rw [← HQ.out] at this; exact this) (by rw [← HQ.out]; omega)).mono ?_
          rintro e w3 ⟨pa, ma, rfl, ha, hb3⟩
          have HA := Lib.hid ha
          have HB3 := Lib.hid hb3
          clear ha hb3
          go_wp2_with fail
          obtain ⟨sbM, hrM, _⟩ := (HI.out.keep HB3.out).row
          refine (played_in (L := M) (by rw [← HM.out] at hrM ⊢; exact hrM) (by rw [← HM.out]; omega)).mono ?_
          rintro e w4 ⟨pb, mb, rfl, hb, hb4⟩
          have HT := Lib.hid (two_of HB3.out HA.out hb hb4)
          have HB4 := Lib.hid (btrans HBS.out HI.out.below)
          clear hrM hb hb4 HA HI HRS HBS
          obtain ⟨u, hu⟩ : ∃ u, u = played S := ⟨_, rfl⟩
          obtain ⟨v, hv⟩ : ∃ v, v = played M := ⟨_, rfl⟩
          rw [← hu] at HT HU1 HU2 hSt
          rw [← hv] at HT HU2 hMt
          clear hu hv HZ HQ
          go_wp2_with fail
          obtain ⟨⟨sa, sb, g1, g2, _⟩, _⟩ := HT.out
          refine (len_any g1).mono ?_
          rintro e w' ⟨rfl, rfl⟩
          rw [HU1.out, ← HM.out]
          clear g1 g2
          have t0 : ((m : Int) == (m : Int)) = true := beq_self_eq_true _
          go_wp2_with fail
          refine (two_due HT.out.nil (by omega) now).mono ?_
          rintro e w5 ⟨v1, rfl, _, hd⟩
          have HD := Lib.hid hd
          clear hd
          go_wp2_with fail
          refine (two_due HD.out.swap (by omega) now).mono ?_
          rintro e w6 ⟨v2, rfl, hd1, hd2⟩
          have HD1 := Lib.hid hd1
          have HD2 := Lib.hid hd2
          clear hd1 hd2
          go_wp2_with fail
          obtain ⟨⟨_, _, s1, _, _, _, _, _, hi1, _⟩, _⟩ := HD1.out
          obtain ⟨⟨_, _, s2, _, _, _, _, _, hi2, _⟩, _⟩ := HD2.out
          refine (same_any hi1 hi2).mono ?_
          rintro e w7 ⟨rfl, hb7⟩
          rw [due_of_tid HU2.out now, decide_eq_true rfl]
          have HE := Lib.hid ((HD2.out.two.swap).keep hb7)
          clear hi1 hi2 hb7
          go_wp2_with fail
          obtain ⟨⟨sa, sb, h1, h2, _⟩, _⟩ := HE.out
          have H2 := Lib.hid h2
          refine (len_any h1).mono ?_
          rintro e w8 ⟨rfl, rfl⟩
          clear h1 h2
          go_wp2_with fail
          refine (len_any H2.out).mono ?_
          rintro e w8 ⟨rfl, rfl⟩
          dsimp only
          rw [left_of_tid HU2.out now]
          go_wp2_with fail
          refine (lives_any _).mono ?_
          rintro e w9 ⟨rfl, hb9⟩
          have HB9 := Lib.hid (btrans (btrans HB4.out HE.out.below) hb9)
          clear hb9
          go_wp2_with fail
          go_ret
          exact ⟨rfl, HB9.out⟩

end Go.Proofs.Ytcplimefklnknaa
