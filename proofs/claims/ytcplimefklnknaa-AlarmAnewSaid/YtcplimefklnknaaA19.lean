/- AlarmSorted: the row of numbers that are set, each as its own id at its tick. -/
import Derived.Test.YtcplimefklnknaaA17
import Derived.Test.YtcplimefklnknaaIntsOf
import Derived.BigQuiet
namespace Go.Proofs.Ytcplimefklnknaa
open Go.RowKit
attribute [local go_sem ↓] Go.wp_at_zero Go.wp_at_succ

theorem below_drewN {n nq : Nat} {w w' : World} (h : Below n w w') : Below n w (w'.drewN nq) := ⟨h.os, h.tape, h.output, h.size, h.block⟩

/-- The row behind the first k numbers. -/
def setsL (l : List Int) : Nat → List Ent
  | 0 => []
  | k + 1 => setE (setsL l k) k (l.getD k 0) k

theorem setsL_mem (l : List Int) (k : Nat) : ∀ e ∈ setsL l k, ∃ j : Nat, j < k ∧ e = (l.getD j 0, (j : Int) + 1, (j : Int)) := by
  induction k with
  | zero => intro e he; cases he
  | succ k ih =>
    intro e he
    rcases mem_insE.1 he with rfl | he
    · exact ⟨k, by omega, rfl⟩
    · obtain ⟨j, hj, h⟩ := ih e (List.mem_filter.1 he).1
      exact ⟨j, by omega, h⟩

theorem setsL_step (l : List Int) (k : Nat) : (setsL l k).filter (fun e => decide (e.2.2 ≠ (k : Int))) = setsL l k := by
  refine List.filter_eq_self.2 fun e he => ?_
  obtain ⟨j, hj, rfl⟩ := setsL_mem l k e he
  simp; omega

theorem setsL_len {l : List Int} (k : Nat) (hs : (setsL l k).Pairwise ltE) : (setsL l (k + 1)).length = (setsL l k).length + 1 := by
  show (setE _ _ _ _).length = _
  unfold setE
  rw [setsL_step, (insE_perm hs _).length_eq]; rfl

/-- What the loop knows. -/
structure SortInv (w : World) (pb mb : Nat) (l : List Int) (k : Nat) (M : Int) (wr : World) : Prop where
  inv : PlayInv w pb mb (k, setsL l k) wr
  len : (setsL l k).length = k
  max : ∀ j, j < k → l.getD j 0 ≤ M

theorem SortInv.sorted {w : World} {pb mb : Nat} {l : List Int} {k : Nat} {M : Int} {wr : World} (h : SortInv w pb mb l k M wr) : (setsL l k).Pairwise ltE := by
  obtain ⟨⟨⟨_, h, _⟩, _⟩, _, _⟩ := h; exact h.ok.sorted

theorem due_all {l : List Int} {m : Nat} {M : Int} (h : ∀ j, j < m → l.getD j 0 ≤ M) : dueL (setsL l m) M = setsL l m ∧ leftL (setsL l m) M = [] := by
  unfold dueL leftL
  constructor
  · refine List.filter_eq_self.2 fun e he => ?_
    obtain ⟨j, hj, rfl⟩ := setsL_mem l m e he
    simpa using h j hj
  · refine List.filter_eq_nil_iff.2 fun e he => ?_
    obtain ⟨j, hj, rfl⟩ := setsL_mem l m e he
    have := h j hj
    simpa using this

/-- What the second loop asks of the ids that were told. -/
theorem told {l : List Int} {m : Nat} (hs : (setsL l m).Pairwise ltE) {k : Nat} (hk : k < (setsL l m).length) :
    ∃ o : Nat, o < m ∧ ((setsL l m).map (·.2.2))[k]? = some (o : Int) ∧ ∀ k', k' + 1 = k → ∃ o' : Nat, o' < m ∧ ((setsL l m).map (·.2.2))[k']? = some (o' : Int) ∧ (l.getD o' 0 < l.getD o 0 ∨ l.getD o' 0 = l.getD o 0 ∧ o' < o) := by
  obtain ⟨o, ho, he⟩ := setsL_mem l m _ (List.getElem_mem hk)
  refine ⟨o, ho, by rw [List.getElem?_map, List.getElem?_eq_getElem hk, he]; rfl, fun k' hk' => ?_⟩
  obtain ⟨o', ho', he'⟩ := setsL_mem l m _ (List.getElem_mem (show k' < _ by omega))
  refine ⟨o', ho', by rw [List.getElem?_map, List.getElem?_eq_getElem (show k' < _ by omega), he']; rfl, ?_⟩
  have h := List.pairwise_iff_getElem.1 hs k' k (by omega) hk (by omega)
  rw [he, he'] at h
  unfold ltE at h
  simp only at h
  omega

set_option maxRecDepth 8000 in
set_option maxHeartbeats 4000000 in
theorem sorted_walk {w : World} {A : Option Addr} {n c : Nat} {l0 : List Int} (h : ArgInts w A n l0) (hc : n ≤ c) :
    Calls Try.prog 5 #[.slice A n c] w fun e w' => e = .returned (.bool true) ∧ Below w.heap.size w w' := by
  have HARG := Lib.hid h
  have HC := Lib.hid hc
  clear h hc
  go_enter Try.func5, Try.ntmps5
  go_wp2_with fail
  refine (ints_any HARG.out HC.out 30 (by omega)).mono ?_
  rintro e w1 ⟨v, sv, rfl, hi, _, hb1⟩
  have HI := Lib.hid hi
  have HB1 := Lib.hid hb1
  have hm30 : (l0.take 30).length ≤ 30 := by rw [List.length_take]; omega
  obtain ⟨l, hl⟩ : ∃ l, l = l0.take 30 := ⟨_, rfl⟩
  rw [← hl] at HI hm30
  clear hi hb1 hl HARG HC
  obtain ⟨la, lc, rfl⟩ := HI.out.form
  obtain ⟨m, hm⟩ : ∃ m, m = l.length := ⟨_, rfl⟩
  rw [← hm] at hm30 ⊢
  have HM := Lib.hid hm
  clear hm
  have HCELL : Hid (∀ k : Nat, k < m → ∃ g off, la = some ⟨g, off, none⟩ ∧ ∀ j : Nat, j < m → ∀ W, Below w1.heap.size w1 W → W.cell? ⟨g, off + j, none⟩ = some (.int .i64 (l.getD j 0))) := by
    intro k hk
    rcases HI.out.2.2 with ⟨_, h0, _⟩ | ⟨g, off, cap, cur, hv, hsg, _⟩
    · have := HM.out; omega
    · injection hv with e1 e2 e3
      refine ⟨g, off, e1, fun j hj W hW => bkeep hW ?_⟩
      have hc := RowAt.cell (cap := lc) (n := l.length) (cs := intCells l) (T := 3) (s := 1) (g := g) (off := off) (sb := sv) (w := w1) (by rw [← e1]; exact HI.out) j (by have := HM.out; omega)
      rw [hc, intCells_get, List.getElem?_eq_getElem (by have := HM.out; omega)]
      simp [List.getD, List.getElem?_eq_getElem (show j < l.length by have := HM.out; omega)]
  clear HI
  go_wp2_with fail
  refine (new_any _).mono ?_
  rintro e w2 ⟨pb, mb, rfl, ha, hb2, hft⟩
  have HS := Lib.hid (SortInv.mk (w := w1) (l := l) (k := 0) (M := 0) (PlayInv.mk (st := (0, [])) ⟨none, ha, hft⟩ hb2) rfl (fun j hj => absurd hj (by omega)))
  clear ha hft hb2
  go_wp2_with fail
  go_loopw [4, 5] (fun vm vi wr => ∃ (k : Nat) (M : Int), vm = .int .i64 M ∧ vi = .int .i64 k ∧ k ≤ m ∧ SortInv w1 pb mb l k M wr) (fun _ vi _ => (m - intOf vi).toNat)
  case atStart => exact ⟨0, 0, rfl, rfl, Nat.zero_le _, HS.out⟩
  case round =>
    obtain ⟨k, M, rfl, rfl, hk, hinv⟩ := hrel
    have HV := Lib.hid hinv
    clear hinv HS
    by_cases hkm : k < m
    · obtain ⟨g, off, rfl, hcell⟩ := HCELL.out k hkm
      have HCE := Lib.hid hcell
      have c0 := hcell k hkm _ HV.out.inv.below
      obtain ⟨x, hx⟩ : ∃ x, x = l.getD k 0 := ⟨_, rfl⟩
      rw [← hx] at c0
      have HX := Lib.hid hx
      clear hcell hx
      have i1 : (0 : Int) ≤ (k : Int) := by omega
      have i2 : (k : Int) < (m : Int) := by omega
      go_wp2_with fail
      obtain ⟨⟨sb, ha, hft⟩, hb⟩ := HV.out.inv
      refine (set_any ha (by show k ≤ _; omega) x k).mono ?_
      rintro e w3 ⟨sb1, rfl, ha1, hf1, hs1⟩
      have hI := PlayInv.step (st' := (k + 1, setsL l (k + 1))) hb hft (by show AlarmW _ _ _ _ _ (setE _ _ _ _); rw [← HX.out]; exact ha1) hf1 (hs1.imp (fun h => h) (fun ⟨k, h1, h2⟩ => .inr ⟨k, h1, Nat.le_trans hb.size h2⟩))
      have HN := Lib.hid (SortInv.mk (M := max M x) hI (by rw [setsL_len k HV.out.sorted, HV.out.len]) (fun j hj => by
        rcases Nat.lt_or_ge j k with h | h
        · have := HV.out.max j h; omega
        · obtain rfl : j = k := by omega
          rw [← HX.out]; omega))
      have c1 := HCE.out k hkm _ HN.out.inv.below
      rw [← HX.out] at c1
      clear ha hft hb ha1 hf1 hs1 hI c0
      go_wp2_with fail
      go_roundw
      case rel => exact ⟨k + 1, max M x, congrArg (Value.int .i64) (by split <;> omega), by go_num, by omega, HN.out⟩
      case measure => simp [intOf]; omega
    · obtain rfl : m = k := by omega
      obtain ⟨⟨sb, ha, hft⟩, hb⟩ := HV.out.inv
      go_wp2_with fail
      refine (due_any ha (by show m ≤ _; omega) M).mono ?_
      rintro e w3 ⟨v, sbI, sb1, rfl, hI, hIf, ha1, hf1, hs1⟩
      have HSO := Lib.hid HV.out.sorted
      have hda := due_all HV.out.max
      simp only [hda.1, hda.2, HV.out.len] at hI ha1
      have HB3 := Lib.hid (below_fr hb hf1 hft)
      have HA3 := Lib.hid ha1
      have HI3 := Lib.hid hI
      have HLEN := Lib.hid HV.out.len
      clear ha hft hb hI hIf ha1 hf1 hs1 hda HV
      obtain ⟨lb, ld, rfl⟩ := HI3.out.form
      have HOUT : Hid (∀ k : Nat, k < m → ∃ g off, lb = some ⟨g, off, none⟩ ∧ ∀ (j : Nat) (o : Int), j < m → ((setsL l m).map (·.2.2))[j]? = some o → ∀ W, Below w3.heap.size w3 W → W.cell? ⟨g, off + j, none⟩ = some (.int .i64 o)) := by
        intro k hk
        rcases HI3.out.2.2 with ⟨_, h0, _⟩ | ⟨g, off, cap, cur, hv, hsg, _⟩
        · omega
        · injection hv with e1 e2 e3
          refine ⟨g, off, e1, fun j o hj ho W hW => bkeep hW ?_⟩
          have hc := RowAt.cell (cap := ld) (n := m) (cs := intCells ((setsL l m).map (·.2.2))) (T := 3) (s := 1) (g := g) (off := off) (sb := sbI) (w := w3) (by rw [← e1]; exact HI3.out) j (by omega)
          rw [hc, intCells_get, ho]; rfl
      clear HI3
      go_wp2_with fail
      go_loopw [7] (fun vi wr => ∃ k : Nat, vi = .int .i64 k ∧ k ≤ m ∧ Below w3.heap.size w3 wr) (fun vi _ => (m - intOf vi).toNat)
      case atStart => exact ⟨0, rfl, Nat.zero_le _, Below.refl _ _⟩
      case round =>
        obtain ⟨k, rfl, hk, hbr⟩ := hrel
        have HBR := Lib.hid hbr
        clear hbr
        by_cases hkm : k < m
        · obtain ⟨g, off, rfl, hcell⟩ := HCELL.out k hkm
          obtain ⟨g2, off2, rfl, hout⟩ := HOUT.out k hkm
          obtain ⟨o, ho, hget, hprev⟩ := told HSO.out (k := k) (by rw [HLEN.out]; exact hkm)
          have c0 := hout k o hkm hget _ HBR.out
          have c1 := hcell o ho _ (btrans HB3.out HBR.out)
          have i1 : (0 : Int) ≤ (k : Int) := by omega
          have i2 : (k : Int) < (m : Int) := by omega
          have i3 : (0 : Int) ≤ (o : Int) := by omega
          have i4 : (o : Int) < (m : Int) := by omega
          by_cases hk0 : k = 0
          · subst hk0
            clear hcell hout hget hprev
            rw [Nat.add_zero] at c0
            go_wp2_with fail
            go_quiet (fail)
            go_wp2_with fail
            go_roundw
            case rel => exact ⟨1, by go_num, by omega, below_drewN HBR.out⟩
            case measure => simp [intOf]; omega
          · obtain ⟨k0, rfl⟩ : ∃ k0, k = k0 + 1 := ⟨k - 1, by omega⟩
            obtain ⟨o', ho', hget', hlt⟩ := hprev k0 rfl
            have c2 := hout k0 o' (by omega) hget' _ HBR.out
            have c3 := hcell o' ho' _ (btrans HB3.out HBR.out)
            have i5 : (0 : Int) ≤ (k0 : Int) := by omega
            have i6 : (k0 : Int) < (m : Int) := by omega
            have i7 : (0 : Int) ≤ (o' : Int) := by omega
            have i8 : (o' : Int) < (m : Int) := by omega
            obtain ⟨x, hx⟩ : ∃ x, x = l.getD o 0 := ⟨_, rfl⟩
            obtain ⟨y, hy⟩ : ∃ y, y = l.getD o' 0 := ⟨_, rfl⟩
            rw [← hx] at c1 hlt
            rw [← hy] at c3 hlt
            clear hcell hout hget hget' hprev hx hy
            have t0 : decide (x < y) = false := decide_eq_false (by omega)
            rcases hlt with hlt | ⟨hxy, hlt⟩
            · have t1 : (y == x) = false := beq_eq_false_iff_ne.2 (by omega)
              go_wp2_with fail
              go_quiet (fail)
              go_wp2_with fail
              go_roundw
              case rel => exact ⟨k0 + 1 + 1, by go_num, by omega, below_drewN HBR.out⟩
              case measure => simp [intOf]; omega
            · have t1 : (y == x) = true := beq_iff_eq.2 hxy
              have t2 : decide ((o : Int) ≤ (o' : Int)) = false := decide_eq_false (by omega)
              clear hxy
              go_wp2_with fail
              go_quiet (fail)
              go_wp2_with fail
              go_roundw
              case rel => exact ⟨k0 + 1 + 1, by go_num, by omega, below_drewN HBR.out⟩
              case measure => simp [intOf]; omega
        · obtain rfl : m = k := by omega
          go_wp2_with fail
          refine (len_any (HA3.out.keep (fun k hk => HBR.out.block k (HA3.out.lt k hk)))).mono ?_
          rintro e w8 ⟨rfl, rfl⟩
          go_wp2_with fail
          refine (lives_any _).mono ?_
          rintro e w9 ⟨rfl, hb9⟩
          have HB9 := Lib.hid (btrans (btrans (btrans HB1.out HB3.out) HBR.out) hb9)
          clear hb9
          go_wp2_with fail
          go_ret
          exact ⟨rfl, HB9.out⟩

end Go.Proofs.Ytcplimefklnknaa
