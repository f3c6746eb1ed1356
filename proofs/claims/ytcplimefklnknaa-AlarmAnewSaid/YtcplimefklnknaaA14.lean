/- Walks: Acts, played. -/
import Derived.Test.YtcplimefklnknaaA13
import Derived.Test.YtcplimefklnknaaArg
namespace Go.Proofs.Ytcplimefklnknaa
open Go.RowKit
attribute [local go_sem ↓] Go.wp_at_zero Go.wp_at_succ

theorem infoAct : (Try.prog.info? 33).map (fun i => (i.zero, i.size, i.bytes)) = some (some (.agg #[.int .i64 0, .int .i64 0, .int .i64 0]), 3, 24) := by kernel_rfl

/-- An act: what is done (0 Set, 1 Stop, 2 Due), its tick, its id. -/
def actOf (x : Int) : Ent := let n := around x 10000; (if n % 8 = 7 then 2 else if n % 8 = 6 then 1 else 0, n / 8 % 20, n / 160 % 6)
def actsL (l : List Int) : List Ent := (l.take 30).map actOf

theorem around_bd (x : Int) {m : Int} (hm : 0 < m) : 0 ≤ around x m ∧ around x m < m := ⟨Int.emod_nonneg _ (by omega), Int.emod_lt_of_pos _ hm⟩

theorem box_cells {w : World} {vb : Nat} {a b c : Int} {T : TypeId} (hv : w.heap[vb]? = some (.cells #[.int .i64 a, .int .i64 b, .int .i64 c] T (0, 0))) :
    ∀ j u, (entCells [(a, b, c)])[j]? = some u → w.cell? ((⟨vb, 0, none⟩ : Addr).add j) = some u := by
  intro j u hj
  rw [Addr.add_lit, Nat.zero_add, cell_of_row w vb j _ _ _ hv]
  match j, hj with
  | 0, hj => simpa [entCells] using hj
  | 1, hj => simpa [entCells] using hj
  | 2, hj => simpa [entCells] using hj
  | j + 3, hj => simp [entCells] at hj

/-- The append of an act. -/
theorem acts_step {w wr : World} {k : Nat} {v : Value} {sb : Option Nat} {done : List Ent} (hrow : RowAt wr 33 3 v k (entCells done) sb) (hd : done.length = k) (hk : k ≤ 100) (hsb : ∀ g, sb = some g → w.heap.size ≤ g) (hb : Below w.heap.size w wr) (a b c : Int) :
    ∃ la lc w2, (Builtin.append_ #[23, 23] 23 #[v, .slice (some ⟨wr.heap.size + 1, 0, none⟩) 1 1]).run Try.prog ((wr.alloc (.cells #[.int .i64 a, .int .i64 b, .int .i64 c] 33)).alloc (.cells #[.int .i64 a, .int .i64 b, .int .i64 c] 33)) = .ok (.slice la (k + 1) lc) w2 ∧
      (∃ sb2, RowAt w2 33 3 (.slice la (k + 1) lc) (k + 1) (entCells (done ++ [(a, b, c)])) sb2 ∧ ∀ g, sb2 = some g → w.heap.size ≤ g) ∧ Below w.heap.size w w2 := by
  obtain ⟨A, hA⟩ : ∃ A, A = wr.alloc (.cells #[.int .i64 a, .int .i64 b, .int .i64 c] 33) := ⟨_, rfl⟩
  obtain ⟨B, hB⟩ : ∃ B, B = A.alloc (.cells #[.int .i64 a, .int .i64 b, .int .i64 c] 33) := ⟨_, rfl⟩
  have hsA : A.heap.size = wr.heap.size + 1 := by rw [hA]; simp
  have hbA : Below wr.heap.size wr A := by rw [hA]; exact (Below.refl _ _).alloc (Nat.le_refl _) _
  have hbAB : Below A.heap.size A B := by rw [hB]; exact (Below.refl _ _).alloc (Nat.le_refl _) _
  have hbB := btrans hbA hbAB
  have hBi : B.heap[wr.heap.size + 1]? = some (.cells #[.int .i64 a, .int .i64 b, .int .i64 c] 33 (0, 0)) := by rw [← hsA, hB]; exact heap_alloc_new _ _
  obtain ⟨la, lc, sb2, w2, hrun, hrow2, hg2, hsb2, _⟩ := row_append (P := Try.prog) B 23 23 33 _ 3 24 Try.underlying23 infoAct rfl (hrow.keep hbB) ⟨wr.heap.size + 1, 0, none⟩ 1 1 (entCells [(a, b, c)]) (by rw [entCells_length]; rfl) (box_cells hBi) (entCells_one _) (by omega) (by omega) (by omega)
  rw [← entCells_append] at hrow2
  rw [← hA, ← hB]
  refine ⟨la, lc, w2, hrun, ⟨sb2, hrow2, fun g hg => ?_⟩, ?_⟩
  · rcases hsb2 with h | h
    · exact hsb g (h.symm.trans hg)
    · rw [hg] at h; cases h
      exact Nat.le_trans hb.size hbB.size
  · exact (hb.trans (hbB.mono hb.size)).trans ⟨hg2.os, hg2.tape, hg2.output, hg2.size, fun b hbl => hg2.block b (by have := hbB.size; have := hb.size; omega) (fun e => by have := hsb b e.symm; omega)⟩

def ActsPost (w : World) (L : List Ent) (e : Ending) (w' : World) : Prop :=
  ∃ v sb, e = .returned v ∧ RowAt w' 33 3 v L.length (entCells L) sb ∧ (∀ g, sb = some g → w.heap.size ≤ g) ∧ Below w.heap.size w w'

set_option maxHeartbeats 2000000 in
theorem acts_any {w : World} {A : Option Addr} {n c : Nat} {l : List Int} (h : ArgInts w A n l) :
    Calls Try.prog 7 #[.slice A n c] w (ActsPost w (actsL l)) := by
  obtain ⟨hln, hn, hwf, hcell⟩ := h
  have HW := Lib.hid hwf
  have HL := Lib.hid hln
  have HC := Lib.hid hcell
  clear hwf hln hcell
  go_enter Try.func7, Try.ntmps7
  go_wp2
  go_loopw [3, 4] (fun v vi wr => ∃ k : Nat, vi = .int .i64 k ∧ k ≤ n ∧ k ≤ 30 ∧ (∃ la lc, v = .slice la k lc) ∧ (∃ sb, RowAt wr 33 3 v k (entCells ((l.take k).map actOf)) sb ∧ ∀ g, sb = some g → w.heap.size ≤ g) ∧ Below w.heap.size w wr) (fun _ vi _ => (n - intOf vi).toNat)
  case atStart => exact ⟨0, rfl, Nat.zero_le _, by omega, ⟨_, _, rfl⟩, ⟨none, RowAt.nil _ _ _, fun g hg => nomatch hg⟩, Below.refl _ _⟩
  case round =>
    obtain ⟨k, rfl, hk, hk30, ⟨la, lc, rfl⟩, ⟨sb, hrow, hsb⟩, hb⟩ := hrel
    have HR := Lib.hid hrow
    have HS := Lib.hid hsb
    have HB := Lib.hid hb
    clear hrow hsb hb
    by_cases hkn : k < n ∧ k < 30
    · obtain ⟨hkn, hk3⟩ := hkn
      have hkl : k < l.length := by rw [HL.out]; exact hkn
      obtain ⟨b, off, hA, hc⟩ := HC.out.resolve_left (by omega)
      subst hA
      obtain ⟨x, hx⟩ : ∃ x, x = l[k] := ⟨_, rfl⟩
      have cx := bkeep HB.out (hc k hkl)
      rw [← hx] at cx
      have hwx := HW.out l[k] (List.getElem_mem hkl)
      rw [← hx] at hwx
      have hdone : ((l.take k).map actOf).length = k := by rw [List.length_map, List.length_take]; omega
      have htk : (l.take (k + 1)).map actOf = (l.take k).map actOf ++ [actOf x] := by rw [List.take_add_one, List.getElem?_eq_getElem hkl, ← hx]; simp
      have HTK := Lib.hid htk
      have HD := Lib.hid hdone
      obtain ⟨m, hm⟩ : ∃ m, m = around x 10000 := ⟨_, rfl⟩
      have hbd := around_bd x (m := 10000) (by omega)
      rw [← hm] at hbd
      obtain ⟨hm0, hm1⟩ := hbd
      have HM := Lib.hid hm
      have hact := fun hd : (if m % 8 = 7 then (2 : Int) else if m % 8 = 6 then 1 else 0) = (if m % 8 = 7 then (2 : Int) else if m % 8 = 6 then 1 else 0) => (show actOf x = (if m % 8 = 7 then (2 : Int) else if m % 8 = 6 then 1 else 0, m / 8 % 20, m / 160 % 6) by rw [actOf, ← hm])
      have HACT := Lib.hid (hact rfl)
      have HAR := Lib.hid (fun W => around_any x 10000 W hwx.1 hwx.2 (by omega) (by omega))
      have i1 : (0 : Int) ≤ (k : Int) := by omega
      have i2 : (k : Int) < (n : Int) := by omega
      have i3 : (k : Int) < 30 := by omega
      clear hx hdone htk hc hm hact hwx
      rcases (show m % 8 = 6 ∨ m % 8 = 7 ∨ (m % 8 ≠ 6 ∧ m % 8 ≠ 7) by omega) with h6 | h7 | ⟨h6, h7⟩
      · obtain ⟨la2, lc2, w2, hrun, hrow2, hb2⟩ := acts_step HR.out HD.out (by omega) HS.out HB.out 1 (m / 8 % 20) (m / 160 % 6)
        have HR2 := Lib.hid hrow2
        have HB2 := Lib.hid hb2
        have t1 : (m % 8 == 6) = true := by rw [h6]; rfl
        have t2 : (m % 8 == 7) = false := by rw [h6]; rfl
        have H6 := Lib.hid h6
        clear hrow2 hb2 h6
        go_wp2_with (first | (go_at_call 16; refine (HAR.out _).mono ?_; rintro e w' ⟨rfl, rfl⟩; rw [← HM.out]) | (at_builtin; refine wpList_run (by rfl) (exec_append _ _ _ _ (by rfl) _ _ (by rfl) (by rfl) hrun) ?_))
        go_roundw
        case rel => exact ⟨k + 1, by go_num, by omega, by omega, ⟨_, _, rfl⟩, by rw [HTK.out, HACT.out, H6.out]; exact HR2.out, HB2.out⟩
        case measure => simp [intOf]; omega
      · obtain ⟨la2, lc2, w2, hrun, hrow2, hb2⟩ := acts_step HR.out HD.out (by omega) HS.out HB.out 2 (m / 8 % 20) (m / 160 % 6)
        have HR2 := Lib.hid hrow2
        have HB2 := Lib.hid hb2
        have t1 : (m % 8 == 6) = false := by rw [h7]; rfl
        have t2 : (m % 8 == 7) = true := by rw [h7]; rfl
        have H7 := Lib.hid h7
        clear hrow2 hb2 h7
        go_wp2_with (first | (go_at_call 16; refine (HAR.out _).mono ?_; rintro e w' ⟨rfl, rfl⟩; rw [← HM.out]) | (at_builtin; refine wpList_run (by rfl) (exec_append _ _ _ _ (by rfl) _ _ (by rfl) (by rfl) hrun) ?_))
        go_roundw
        case rel => exact ⟨k + 1, by go_num, by omega, by omega, ⟨_, _, rfl⟩, by rw [HTK.out, HACT.out, H7.out]; exact HR2.out, HB2.out⟩
        case measure => simp [intOf]; omega
      · obtain ⟨la2, lc2, w2, hrun, hrow2, hb2⟩ := acts_step HR.out HD.out (by omega) HS.out HB.out 0 (m / 8 % 20) (m / 160 % 6)
        have HR2 := Lib.hid hrow2
        have HB2 := Lib.hid hb2
        have t1 : (m % 8 == 6) = false := beq_eq_false_iff_ne.2 h6
        have t2 : (m % 8 == 7) = false := beq_eq_false_iff_ne.2 h7
        have H6 := Lib.hid h6
        have H7 := Lib.hid h7
        clear hrow2 hb2 h6 h7
        go_wp2_with (first | (go_at_call 16; refine (HAR.out _).mono ?_; rintro e w' ⟨rfl, rfl⟩; rw [← HM.out]) | (at_builtin; refine wpList_run (by rfl) (exec_append _ _ _ _ (by rfl) _ _ (by rfl) (by rfl) hrun) ?_))
        go_roundw
        case rel => exact ⟨k + 1, by go_num, by omega, by omega, ⟨_, _, rfl⟩, by rw [HTK.out, HACT.out, if_neg H7.out, if_neg H6.out]; exact HR2.out, HB2.out⟩
        case measure => simp [intOf]; omega
    · have hfin : (actsL l).length = k ∧ actsL l = (l.take k).map actOf := by
        have : l.take 30 = l.take k := by
          have := HL.out
          by_cases h30 : k = 30
          · rw [h30]
          · rw [List.take_of_length_le (by omega), List.take_of_length_le (by omega)]
        unfold actsL
        rw [this]
        refine ⟨by rw [List.length_map, List.length_take]; have := HL.out; omega, rfl⟩
      have HF := Lib.hid hfin
      clear hfin
      by_cases hkn' : k < n
      · have h30 : ¬ ((k : Int) < 30) := by omega
        go_wp2
        go_ret
        refine ⟨_, sb, rfl, ?_, HS.out, HB.out⟩
        rw [HF.out.1, HF.out.2]; exact HR.out
      · go_wp2
        go_ret
        refine ⟨_, sb, rfl, ?_, HS.out, HB.out⟩
        rw [HF.out.1, HF.out.2]; exact HR.out

/-- Alarms behind acts: the turn, and the row. -/
def playE (st : Nat × List Ent) (a : Ent) : Nat × List Ent :=
  if a.1 = 0 then (st.1 + 1, setE st.2 st.1 a.2.1 a.2.2) else if a.1 = 1 then (st.1, st.2.filter (fun e => decide (e.2.2 ≠ a.2.2))) else (st.1, leftL st.2 a.2.1)
def played (L : List Ent) : Nat × List Ent := L.foldl playE (0, [])

theorem played_snoc (L : List Ent) (a : Ent) : played (L ++ [a]) = playE (played L) a := by unfold played; rw [List.foldl_append]; rfl
theorem played_turn' (L : List Ent) : ∀ st : Nat × List Ent, (L.foldl playE st).1 ≤ st.1 + L.length := by
  induction L with
  | nil => exact fun st => Nat.le_refl _
  | cons a L ih =>
    intro st
    have h := ih (playE st a)
    have h2 : (playE st a).1 ≤ st.1 + 1 := by
      unfold playE
      split
      · exact Nat.le_refl _
      · split
        · exact Nat.le_succ _
        · exact Nat.le_succ _
    rw [List.foldl_cons, List.length_cons]
    omega
theorem played_turn (L : List Ent) : (played L).1 ≤ L.length := by have := played_turn' L (0, []); unfold played; omega

def NewAlarms (w : World) (st : Nat × List Ent) (e : Ending) (w' : World) : Prop :=
  ∃ pb mb sb, e = .returned (.pointer (some ⟨pb, 0, none⟩)) ∧ AlarmW w' pb mb sb st.1 st.2 ∧ (∀ k, Foot pb mb sb k → w.heap.size ≤ k) ∧ Below w.heap.size w w'

/-- What the loop of played knows. -/
structure PlayInv (w : World) (pb mb : Nat) (st : Nat × List Ent) (wr : World) : Prop where
  mem : ∃ sb, AlarmW wr pb mb sb st.1 st.2 ∧ ∀ k, Foot pb mb sb k → w.heap.size ≤ k
  below : Below w.heap.size w wr

theorem PlayInv.step {w wr w' : World} {pb mb : Nat} {st' : Nat × List Ent} {sb sb' : Option Nat} (hb : Below w.heap.size w wr) (hfoot : ∀ k, Foot pb mb sb k → w.heap.size ≤ k)
    (ha : AlarmW w' pb mb sb' st'.1 st'.2) (hf : Fr (Foot pb mb sb) wr w') (hsb : sb' = sb ∨ sb' = none ∨ ∃ k, sb' = some k ∧ w.heap.size ≤ k) : PlayInv w pb mb st' w' := by
  refine ⟨⟨sb', ha, ?_⟩, ?_⟩
  · rintro k (rfl | rfl | hk)
    · exact hfoot _ (.inl rfl)
    · exact hfoot _ (.inr (.inl rfl))
    · rcases hsb with h | h | ⟨j, h, hj⟩
      · exact hfoot k (.inr (.inr (h.symm.trans hk)))
      · rw [h] at hk; cases hk
      · rw [h] at hk; cases hk; exact hj
  · have hs := hb.size
    exact hb.trans ⟨hf.os, hf.tape, hf.output, hf.size, fun k hk => hf.block k (by omega) (fun h => by have := hfoot k h; omega)⟩

set_option maxHeartbeats 2000000 in
theorem played_any {w : World} {v : Value} {L : List Ent} {sb : Option Nat} (h : RowAt w 33 3 v L.length (entCells L) sb) (hL : L.length ≤ 1000) :
    Calls Try.prog 8 #[v] w (NewAlarms w (played L)) := by
  obtain ⟨A, c, rfl⟩ := h.form
  have HR := Lib.hid h
  obtain ⟨n, hn⟩ : ∃ n, n = L.length := ⟨_, rfl⟩
  rw [← hn] at hL ⊢
  have HN := Lib.hid hn
  clear h hn
  go_enter Try.func8, Try.ntmps8
  go_wp2_with fail
  refine (new_any _).mono ?_
  rintro e w1 ⟨pb, mb, rfl, ha, hb1, hft⟩
  have HA := Lib.hid ha
  have HFT := Lib.hid hft
  have HB1 := Lib.hid hb1
  clear ha hft hb1
  go_wp2_with fail
  go_loopw [4] (fun vi wr => ∃ k : Nat, vi = .int .i64 k ∧ k ≤ n ∧ PlayInv w pb mb (played (L.take k)) wr) (fun vi _ => (n - intOf vi).toNat)
  case atStart => exact ⟨0, rfl, Nat.zero_le _, ⟨⟨none, HA.out, HFT.out⟩, HB1.out⟩⟩
  case round =>
    obtain ⟨k, rfl, hk, hinv⟩ := hrel
    obtain ⟨⟨sbr, har, hftr⟩, hbr⟩ := hinv
    have HAR := Lib.hid har
    have HFR := Lib.hid hftr
    have HBR := Lib.hid hbr
    clear har hftr hbr
    by_cases hkn : k < n
    · have hkl : k < L.length := by rw [← HN.out]; exact hkn
      obtain ⟨x, hx⟩ : ∃ x, L[k]? = some x := ⟨L[k], by simp⟩
      have htk : played (L.take (k + 1)) = playE (played (L.take k)) x := by rw [List.take_add_one, hx, ← played_snoc]; rfl
      have hturn : (played (L.take k)).1 ≤ 1000 := Nat.le_trans (played_turn _) (by rw [List.length_take]; omega)
      rcases HR.out.2.2 with ⟨_, h0, _⟩ | ⟨g, off, cap, cur, hv, hsg, _⟩
      · omega
      injection hv with e1 e2 e3
      subst e1
      have hc := fun j hj => HR.out.cell j hj
      have hg' := entCells_get L k x hx
      have c0 := bkeep HBR.out (a := ⟨g, off + k * 3, none⟩) ((hc (k * 3) (by omega)).trans hg'.1)
      have c1 := bkeep HBR.out (a := ⟨g, off + k * 3 + 1, none⟩) ((hc (k * 3 + 1) (by omega)).trans hg'.2.1)
      have c2 := bkeep HBR.out (a := ⟨g, off + k * 3 + 2, none⟩) ((hc (k * 3 + 2) (by omega)).trans hg'.2.2)
      have HTK := Lib.hid htk
      have i1 : (0 : Int) ≤ (k : Int) := by omega
      have i2 : (k : Int) < (n : Int) := by omega
      clear hc hg' htk hx hkl e2 e3
      have hgw : g < w.heap.size := HR.out.lt g hsg
      clear hsg
      have hgf : ¬ Foot pb mb sbr g := fun h => by have := HFR.out g h; omega
      have c1d : wr.drew.cell? ⟨g, off + k * 3 + 1, none⟩ = some (.int .i64 x.2.1) := c1
      have HKP := Lib.hid (fun W (hf : Fr (Foot pb mb sbr) wr W) => (⟨hf.cell c1 hgf, hf.cell c2 hgf⟩ : W.cell? ⟨g, off + k * 3 + 1, none⟩ = some (.int .i64 x.2.1) ∧ W.cell? ⟨g, off + k * 3 + 2, none⟩ = some (.int .i64 x.2.2)))
      have HAD := Lib.hid (HAR.out.keep (w' := wr.drew) (fun b _ => rfl))
      have hne1 : (1 : Int) ≠ 0 := by decide
      by_cases hx0 : x.1 = 0
      · have t0 : (x.1 == 0) = true := by rw [hx0]; rfl
        have H0 := Lib.hid hx0
        have HSET := Lib.hid (set_any HAD.out (by omega) x.2.1 x.2.2)
        clear hx0
        go_wp2_with fail
        go_region_held3 (fun w' => w'.cell? ⟨g, off + k * 3 + 1, none⟩ = some (.int .i64 x.2.1) ∧ w'.cell? ⟨g, off + k * 3 + 2, none⟩ = some (.int .i64 x.2.2)) (first | go_keep | exact HKP.out _ ((Fr.drew _ _).trans hf2 (fun b h => .inl h))) (first | (go_at_call 15; refine HSET.out.mono ?_; rintro e w2 ⟨sb2, rfl, ha2, hf2, hsb2⟩) | fail)
        have hst := PlayInv.step (st' := playE (played (L.take k)) x) HBR.out HFR.out (by unfold playE; rw [if_pos H0.out]; exact ha2) ((Fr.drew _ _).trans hf2 (fun b h => .inl h)) (hsb2.imp (fun h => h) (fun ⟨k, h1, h2⟩ => .inr ⟨k, h1, Nat.le_trans HBR.out.size h2⟩))
        have HST := Lib.hid hst
        clear hst ha2 hf2 hsb2
        go_wp2_with fail
        go_roundw
        case rel => exact ⟨k + 1, by go_num, by omega, by rw [HTK.out]; exact HST.out⟩
        case measure => simp [intOf]; omega
      · have t0 : (x.1 == 0) = false := beq_eq_false_iff_ne.2 hx0
        have H0 := Lib.hid hx0
        clear hx0
        by_cases hx1 : x.1 = 1
        · have t1 : (x.1 == 1) = true := by rw [hx1]; rfl
          have H1 := Lib.hid hx1
          have HSTOP := Lib.hid (stop_any HAR.out (by omega) x.2.2)
          clear hx1
          go_wp2_with (go_at_call 17; refine HSTOP.out.mono ?_; rintro e w2 ⟨rfl, ha2, hf2⟩; have HST := Lib.hid (PlayInv.step (st' := playE (played (L.take k)) x) HBR.out HFR.out (by unfold playE; rw [if_neg H0.out, if_pos H1.out]; exact ha2) hf2 (.inl rfl)); clear ha2 hf2)
          go_roundw
          case rel => exact ⟨k + 1, by go_num, by omega, by rw [HTK.out]; assumption⟩
          case measure => simp [intOf]; omega
        · have t1 : (x.1 == 1) = false := beq_eq_false_iff_ne.2 hx1
          have H1 := Lib.hid hx1
          have HDUE := Lib.hid (due_any HAR.out (by omega) x.2.1)
          clear hx1
          go_wp2_with (go_at_call 9; refine HDUE.out.mono ?_; rintro e w2 ⟨v2, sbI2, sb2, rfl, hI2, hIf2, ha2, hf2, hsb2⟩; have HST := Lib.hid (PlayInv.step (st' := playE (played (L.take k)) x) HBR.out HFR.out (by unfold playE; rw [if_neg H0.out, if_neg H1.out]; exact ha2) hf2 (hsb2.elim (fun h => .inr (.inl h)) (fun h => .inl h))); clear ha2 hf2 hsb2 hI2 hIf2)
          go_roundw
          case rel => exact ⟨k + 1, by go_num, by omega, by rw [HTK.out]; assumption⟩
          case measure => simp [intOf]; omega
    · obtain rfl : k = n := by omega
      go_wp2_with fail
      go_ret
      refine ⟨pb, mb, sbr, rfl, ?_, HFR.out, HBR.out⟩
      have := HAR.out
      rwa [List.take_of_length_le (by rw [← HN.out]; omega)] at this

end Go.Proofs.Ytcplimefklnknaa
