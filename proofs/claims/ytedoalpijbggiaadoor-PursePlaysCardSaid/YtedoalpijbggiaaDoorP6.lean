/- The ledger: Move, Spend. -/
import Derived.Test.YtedoalpijbggiaaDoorP5
namespace Go.Proofs.YtedoalpijbggiaaDoor
open Go.RowKit
attribute [local go_sem ↓] Go.wp_at_zero Go.wp_at_succ

def Led.moveE (L : Led) (rf rt : Int) (s : ByteArray) (n : Int) : Int := if n < 0 ∨ rf = 0 ∨ rt ≠ rf then 1 else L.hasE rf s n
def Led.spendE (L : Led) (rf : Int) (s : ByteArray) (n : Int) : Int := if n < 0 ∨ rf = 0 then 1 else L.hasE rf s n

set_option maxRecDepth 8000 in
set_option maxHeartbeats 2000000 in
theorem move1_any {w : World} {gb lb sb : Nat} {L : Led} (h : LedAt w gb lb sb L) (rf rt n : Int) (s t : ByteArray) (kn kr kt kl kf : Nat) (ht : ReqAt w t rt)
    (cn : w.cell? ⟨kn, 0, none⟩ = some (.int .i64 n)) (cr : w.cell? ⟨kr, 0, none⟩ = some (.int .i64 rf)) (ct : w.cell? ⟨kt, 0, none⟩ = some (.string t)) (cl : w.cell? ⟨kl, 0, none⟩ = some (.pointer (some ⟨gb, 0, none⟩))) (cf : w.cell? ⟨kf, 0, none⟩ = some (.string s)) :
    Calls Tryd.prog 36 #[.pointer (some ⟨kn, 0, none⟩), .pointer (some ⟨kr, 0, none⟩), .pointer (some ⟨kt, 0, none⟩), .pointer (some ⟨kl, 0, none⟩), .pointer (some ⟨kf, 0, none⟩)] w fun e w' => e = .returned (.int .i64 (L.moveE rf rt s n)) ∧ Below w.heap.size w w' := by
  have HE : Hid (L.moveE rf rt s n = if n < 0 ∨ rf = 0 ∨ rt ≠ rf then 1 else L.hasE rf s n) := rfl
  have H := Lib.hid h
  have HT := Lib.hid (ht _ (Below.refl _ _).drew)
  clear h ht
  by_cases q1 : n < 0
  · have HE2 : Hid (L.moveE rf rt s n = 1) := HE.out.trans (if_pos (.inl q1))
    go_enter Tryd.func36, Tryd.ntmps36
    go_wp2_with fail
    go_quiet (fail)
    go_wp2_with fail
    go_ret
    rw [HE2.out]
    exact ⟨rfl, below_drewN (Below.refl _ _)⟩
  by_cases q2 : rf = 0
  · have HE2 : Hid (L.moveE rf rt s n = 1) := HE.out.trans (if_pos (.inr (.inl q2)))
    subst q2
    go_enter Tryd.func36, Tryd.ntmps36
    go_wp2_with fail
    go_quiet (fail)
    go_wp2_with fail
    go_ret
    rw [HE2.out]
    exact ⟨rfl, below_drewN (Below.refl _ _)⟩
  have q2b : (rf == 0) = false := beq_eq_false_iff_ne.2 q2
  have t1 : decide (n < 0) = false := decide_eq_false q1
  go_enter Tryd.func36, Tryd.ntmps36
  go_wp2_with fail
  refine wp_region_held_drew (S := fun w' => w'.cell? ⟨kn, 0, none⟩ = some (.int .i64 n) ∧ w'.cell? ⟨kr, 0, none⟩ = some (.int .i64 rf) ∧ w'.cell? ⟨kt, 0, none⟩ = some (.string t)) (by kernel_rfl) ⟨cn, cr, ct⟩ (fun hHeld => ?_)
  refine wpAnyH_take (i := 0) (v := ?_) rfl (by kernel_rfl) (by kernel_rfl) (by kernel_rfl) (fun _ _ _ h => h) (Or.inl ⟨by kernel_rfl, ?_⟩) (by assumption) ?_
  rotate_left
  · (intro w hSw; (try dsimp only at hSw); go_simp; try with_reducible rfl)
  try simp only [Act.put]
  refine wpAnyH_take (i := 1) (v := ?_) rfl (by kernel_rfl) (by kernel_rfl) (by kernel_rfl) (fun _ _ _ h => h) (Or.inl ⟨by kernel_rfl, ?_⟩) (by assumption) ?_
  rotate_left
  · (intro w hSw; (try dsimp only at hSw); go_simp; try with_reducible rfl)
  try simp only [Act.put]
  refine wpAnyH_take (i := 2) (v := ?_) rfl (by kernel_rfl) (by kernel_rfl) (by kernel_rfl) (fun _ _ _ h => h) (Or.inl ⟨by kernel_rfl, ?_⟩) (by assumption) ?_
  rotate_left
  · (intro w hSw; (try dsimp only at hSw); go_simp; try with_reducible rfl)
  try simp only [Act.put]
  refine wpAnyH_take (i := 3) (v := ?_) rfl (by kernel_rfl) (by kernel_rfl) (by kernel_rfl) (fun _ _ _ h => h) (Or.inl ⟨by kernel_rfl, ?_⟩) (by assumption) ?_
  rotate_left
  · (intro w hSw; (try dsimp only at hSw); go_simp; try with_reducible rfl)
  try simp only [Act.put]
  refine wpAnyH_take (i := 4) (v := ?_) rfl (by kernel_rfl) (by kernel_rfl) (by kernel_rfl) (fun _ _ _ h => h) (Or.inl ⟨by kernel_rfl, ?_⟩) (by assumption) ?_
  rotate_left
  · (intro w hSw; (try dsimp only at hSw); go_simp; try with_reducible rfl)
  try simp only [Act.put]
  refine wpAnyH_take (i := 5) (v := ?_) rfl (by kernel_rfl) (by kernel_rfl) (by kernel_rfl) (fun _ _ _ h => h) (Or.inl ⟨by kernel_rfl, ?_⟩) (by assumption) ?_
  rotate_left
  · (intro w hSw; (try dsimp only at hSw); go_simp; try with_reducible rfl)
  try simp only [Act.put]
  refine wpAnyH_take (i := 6) (v := ?_) rfl (by kernel_rfl) (by kernel_rfl) (by kernel_rfl) (fun _ _ _ h => h) (Or.inl ⟨by kernel_rfl, ?_⟩) (by assumption) ?_
  rotate_left
  · (intro w hSw; (try dsimp only at hSw); go_simp; try with_reducible rfl)
  try simp only [Act.put]
  refine wpAnyH_take (i := 7) (v := ?_) rfl (by kernel_rfl) (by kernel_rfl) (by kernel_rfl) (fun _ _ _ h => h) (Or.inl ⟨by kernel_rfl, ?_⟩) (by assumption) ?_
  rotate_left
  · (intro w hSw; (try dsimp only at hSw); go_simp; try with_reducible rfl)
  try simp only [Act.put]
  refine wpAnyH_take (i := 9) (v := ?_) rfl (by kernel_rfl) (by kernel_rfl) (by kernel_rfl) (fun _ _ _ h => h) (Or.inl ⟨by kernel_rfl, ?_⟩) (by assumption) ?_
  rotate_left
  · (intro w hSw; (try dsimp only at hSw); go_simp; try with_reducible rfl)
  try simp only [Act.put]
  refine wpAnyH_ready (rs := [8]) (by kernel_rfl) (by simp) ?_
  refine AllReadyH.cons rfl (fun K hK => ?_) AllReadyH.nil
  go_simp
  refine HT.out.mono ?_
  rintro e w1 ⟨rfl, hb2⟩
  replace hb2 := bdrew hb2
  refine hK.out _ _ (⟨bkeep hb2 cn, bkeep hb2 cr, bkeep hb2 ct⟩) (fun hHeld => ?_)
  clear hK K
  try simp only [Act.put]
  refine wpAnyH_take (i := 10) (v := ?_) rfl (by kernel_rfl) (by kernel_rfl) (by kernel_rfl) (fun _ _ _ h => h) (Or.inl ⟨by kernel_rfl, ?_⟩) (by assumption) ?_
  rotate_left
  · (intro w hSw; (try dsimp only at hSw); go_simp; try with_reducible rfl)
  try simp only [Act.put]
  refine wpAnyH_ready (rs := [11]) (by kernel_rfl) (by simp) ?_
  refine AllReadyH.cons rfl (fun K hK => ?_) AllReadyH.nil
  go_simp
  refine hK.out _ _ (⟨bkeep hb2 cn, bkeep hb2 cr, bkeep hb2 ct⟩) (fun hHeld => ?_)
  clear hK K
  try simp only [Act.put]
  refine wpAnyH_done (by kernel_rfl) ?_ _
  try simp only [Act.put]
  have hdone := hb2
  have HB2 := Lib.hid hb2
  clear hHeld hdone
  by_cases q3 : rt = rf
  · have HE2 : Hid (L.moveE rf rt s n = L.hasE rf s n) := HE.out.trans (if_neg (by omega))
    have q3b : (rt == rf) = true := by rw [q3]; exact beq_self_eq_true _
    have d1 := bkeep hb2 cl
    have d2 := bkeep hb2 cr
    have d3 := bkeep hb2 cf
    have d4 := bkeep hb2 cn
    have HH := Lib.hid (has_any (H.out.below hb2) rf s n)
    clear q3 hb2
    go_wp2_with fail
    refine HH.out.mono ?_
    rintro e w2 ⟨rfl, hb3⟩
    have HB3 := Lib.hid hb3
    clear hb3
    go_wp2_with fail
    go_ret
    rw [HE2.out]
    exact ⟨rfl, btrans HB2.out HB3.out⟩
  · have HE2 : Hid (L.moveE rf rt s n = 1) := HE.out.trans (if_pos (.inr (.inr q3)))
    have q3b : (rt == rf) = false := beq_eq_false_iff_ne.2 q3
    clear q3 hb2
    go_wp2_with fail
    go_ret
    rw [HE2.out]
    exact ⟨rfl, HB2.out⟩

set_option maxRecDepth 8000 in
set_option maxHeartbeats 2000000 in
theorem spend1_any {w : World} {gb lb sb : Nat} {L : Led} (h : LedAt w gb lb sb L) (rf n : Int) (s : ByteArray) (kn kr kl kf : Nat)
    (cn : w.cell? ⟨kn, 0, none⟩ = some (.int .i64 n)) (cr : w.cell? ⟨kr, 0, none⟩ = some (.int .i64 rf)) (cl : w.cell? ⟨kl, 0, none⟩ = some (.pointer (some ⟨gb, 0, none⟩))) (cf : w.cell? ⟨kf, 0, none⟩ = some (.string s)) :
    Calls Tryd.prog 39 #[.pointer (some ⟨kn, 0, none⟩), .pointer (some ⟨kr, 0, none⟩), .pointer (some ⟨kl, 0, none⟩), .pointer (some ⟨kf, 0, none⟩)] w fun e w' => e = .returned (.int .i64 (L.spendE rf s n)) ∧ Below w.heap.size w w' := by
  have HE : Hid (L.spendE rf s n = if n < 0 ∨ rf = 0 then 1 else L.hasE rf s n) := rfl
  have H := Lib.hid h
  clear h
  by_cases q1 : n < 0
  · have HE2 : Hid (L.spendE rf s n = 1) := HE.out.trans (if_pos (.inl q1))
    go_enter Tryd.func39, Tryd.ntmps39
    go_wp2_with fail
    go_ret
    rw [HE2.out]
    exact ⟨rfl, Below.refl _ _⟩
  by_cases q2 : rf = 0
  · have HE2 : Hid (L.spendE rf s n = 1) := HE.out.trans (if_pos (.inr q2))
    subst q2
    go_enter Tryd.func39, Tryd.ntmps39
    go_wp2_with fail
    go_ret
    rw [HE2.out]
    exact ⟨rfl, Below.refl _ _⟩
  have q2b : (rf == 0) = false := beq_eq_false_iff_ne.2 q2
  have HE2 : Hid (L.spendE rf s n = L.hasE rf s n) := HE.out.trans (if_neg (by omega))
  go_enter Tryd.func39, Tryd.ntmps39
  go_wp2_with fail
  refine (has_any H.out _ _ _).mono ?_
  rintro e w1 ⟨rfl, hb1⟩
  have HB := Lib.hid hb1
  clear hb1
  go_wp2_with fail
  go_ret
  rw [HE2.out]
  exact ⟨rfl, HB.out⟩

/-- Some new one-cell blocks, one behind the other. -/
theorem box_new (w : World) (v : Value) (T : TypeId) : (w.alloc (.cells #[v] T)).cell? ⟨w.heap.size, 0, none⟩ = some v := block_cell (heap_alloc_new w _) 0 _ rfl
theorem box_below (w : World) (o : Obj) : Below w.heap.size w (w.alloc o) := (Below.refl _ _).alloc (Nat.le_refl _) _
theorem box3 (w : World) (v0 v1 v2 : Value) (T0 T1 T2 : TypeId) : ∃ W, ((w.alloc (.cells #[v0] T0)).alloc (.cells #[v1] T1)).alloc (.cells #[v2] T2) = W ∧ Below w.heap.size w W ∧ W.heap.size = w.heap.size + 3 ∧
    W.cell? ⟨w.heap.size, 0, none⟩ = some v0 ∧ W.cell? ⟨w.heap.size + 1, 0, none⟩ = some v1 ∧ W.cell? ⟨w.heap.size + 1 + 1, 0, none⟩ = some v2 := by
  have e1 : (w.alloc (.cells #[v0] T0)).heap.size = w.heap.size + 1 := by simp
  have e2 : ((w.alloc (.cells #[v0] T0)).alloc (.cells #[v1] T1)).heap.size = w.heap.size + 1 + 1 := by simp
  have b1 := box_below w (.cells #[v0] T0)
  have b2 := box_below (w.alloc (.cells #[v0] T0)) (.cells #[v1] T1)
  have b3 := box_below ((w.alloc (.cells #[v0] T0)).alloc (.cells #[v1] T1)) (.cells #[v2] T2)
  have c0 := bkeep b3 (bkeep b2 (box_new w v0 T0))
  have c1 := bkeep b3 (box_new (w.alloc (.cells #[v0] T0)) v1 T1)
  have c2 := box_new ((w.alloc (.cells #[v0] T0)).alloc (.cells #[v1] T1)) v2 T2
  rw [e1] at c1
  rw [e2] at c2
  exact ⟨_, rfl, btrans (btrans b1 b2) b3, by simp, c0, c1, c2⟩
theorem box4 (w : World) (v0 v1 v2 v3 : Value) (T0 T1 T2 T3 : TypeId) : ∃ W, (((w.alloc (.cells #[v0] T0)).alloc (.cells #[v1] T1)).alloc (.cells #[v2] T2)).alloc (.cells #[v3] T3) = W ∧ Below w.heap.size w W ∧ W.heap.size = w.heap.size + 4 ∧
    W.cell? ⟨w.heap.size, 0, none⟩ = some v0 ∧ W.cell? ⟨w.heap.size + 1, 0, none⟩ = some v1 ∧ W.cell? ⟨w.heap.size + 1 + 1, 0, none⟩ = some v2 ∧ W.cell? ⟨w.heap.size + 1 + 1 + 1, 0, none⟩ = some v3 := by
  obtain ⟨W, hW, hb, hz, c0, c1, c2⟩ := box3 w v0 v1 v2 T0 T1 T2
  rw [hW]
  have b := box_below W (.cells #[v3] T3)
  have c3 := box_new W v3 T3
  rw [hz] at c3
  exact ⟨_, rfl, btrans hb b, by simp [hz], bkeep b c0, bkeep b c1, bkeep b c2, c3⟩

set_option maxRecDepth 8000 in
set_option maxHeartbeats 2000000 in
theorem spend_any {w : World} {gb lb sb : Nat} {L : Led} (h : LedAt w gb lb sb L) (s : ByteArray) (rf n nn : Int) (hr : ReqAt w s rf)
    (hs1 : L.spendE rf s n = 0 → IntKind.i64.wrap ((L.sum rf).1 + 0) = (L.sum rf).1 + 0) (hs2 : L.spendE rf s n = 0 → IntKind.i64.wrap ((L.sum rf).2 + n) = (L.sum rf).2 + n) (hw : L.spendE rf s n = 0 → IntKind.i64.wrap (L.left s + nn) = L.left s + nn) (hneg : IntKind.i64.wrap (-n) = nn) :
    Calls Tryd.prog 23 #[.pointer (some ⟨gb, 0, none⟩), .string s, .int .i64 n] w (ChAny w gb lb sb L (L.does rf 0 n [(s, nn)]) (L.spendE rf s n)) := by
  have H := Lib.hid h
  have HR := Lib.hid hr
  have HS1 := Lib.hid hs1
  have HS2 := Lib.hid hs2
  have HW := Lib.hid hw
  obtain ⟨W, hW, hb, hz, c0, c1, c2⟩ := box3 w (.pointer (some ⟨gb, 0, none⟩)) (.string s) (.int .i64 n) 25 9 3
  have HB := Lib.hid hb
  have HZ := Lib.hid hz
  clear h hr hs1 hs2 hw hb hz
  go_enter Tryd.func23, Tryd.ntmps23
  go_wp2_with fail
  clear hW
  refine (HR.out _ HB.out).mono ?_
  rintro e w1 ⟨rfl, h1⟩
  have hbx := box_below w1 (.cells #[.int .i64 rf] 3)
  have d3 := box_new w1 (.int .i64 rf) 3
  have d0 := bkeep (btrans h1 hbx) c0
  have d1 := bkeep (btrans h1 hbx) c1
  have d2 := bkeep (btrans h1 hbx) c2
  have hbw := btrans HB.out (btrans h1 hbx)
  have hby := box_below (w1.alloc (.cells #[.int .i64 rf] 3)) (.cells #[.string s, .int .i64 nn] 74)
  have hrow := shRow1 (w1.alloc (.cells #[.int .i64 rf] 3)) (s, nn)
  rw [show (w1.alloc (.cells #[.int .i64 rf] 3)).heap.size = w1.heap.size + 1 by simp] at hrow
  have hch := change_any (H.out.below (btrans hbw hby)) _ #[.pointer (some ⟨w.heap.size + 1 + 1, 0, none⟩), .pointer (some ⟨w1.heap.size, 0, none⟩), .pointer (some ⟨w.heap.size, 0, none⟩), .pointer (some ⟨w.heap.size + 1, 0, none⟩)] enters_of_spend (L.spendE rf s n) rf 0 n [(s, nn)] hrow (fun g hg => by
      cases hg
      have := H.out.lt lb (.inr (.inl rfl))
      have := H.out.lt sb (.inr (.inr rfl))
      have h7 := hbw.size
      rw [show (w1.alloc (.cells #[.int .i64 rf] 3)).heap.size = w1.heap.size + 1 by simp] at h7
      unfold LF; omega) (by simp) (fun X hX => spend1_any (H.out.below (btrans (btrans hbw hby) hX)) rf n s _ _ _ _ (bkeep hX (bkeep hby d2)) (bkeep hX (bkeep hby d3)) (bkeep hX (bkeep hby d0)) (bkeep hX (bkeep hby d1))) HS1.out HS2.out (fun h0 k x hk => by
        match k, hk with
        | 0, hk => cases hk; exact HW.out h0
        | k + 1, hk => simp at hk)
  have HCH := Lib.hid hch
  have HFR := Lib.hid (Fr.ofBelow (F := LF lb sb) (btrans hbw hby))
  clear hch hrow hbw hby hbx h1
  go_wp2_with fail
  refine HCH.out.mono ?_
  rintro e w3 ⟨rfl, hc⟩
  have HFIN := Lib.hid (⟨hc.at_, HFR.out.trans hc.fr (fun b h => .inl h)⟩ : ChInv w w3 gb lb sb (if L.spendE rf s n = 0 then L.does rf 0 n [(s, nn)] else L))
  clear hc
  go_wp2_with fail
  go_ret
  exact ⟨rfl, HFIN.out⟩

set_option maxRecDepth 8000 in
set_option maxHeartbeats 2000000 in
theorem move_any {w : World} {gb lb sb : Nat} {L : Led} (h : LedAt w gb lb sb L) (s t : ByteArray) (rf rt n nn : Int) (hr : ReqAt w s rf) (hrt : ReqAt w t rt)
    (hs1 : L.moveE rf rt s n = 0 → IntKind.i64.wrap ((L.sum rf).1 + 0) = (L.sum rf).1 + 0) (hs2 : L.moveE rf rt s n = 0 → IntKind.i64.wrap ((L.sum rf).2 + 0) = (L.sum rf).2 + 0) (hw : L.moveE rf rt s n = 0 → IntKind.i64.wrap (L.left s + nn) = L.left s + nn)
    (hw2 : L.moveE rf rt s n = 0 → IntKind.i64.wrap ((L.shift (s, nn)).left t + n) = (L.shift (s, nn)).left t + n) (hneg : IntKind.i64.wrap (-n) = nn) :
    Calls Tryd.prog 22 #[.pointer (some ⟨gb, 0, none⟩), .string s, .string t, .int .i64 n] w (ChAny w gb lb sb L (L.does rf 0 0 [(s, nn), (t, n)]) (L.moveE rf rt s n)) := by
  have H := Lib.hid h
  have HR := Lib.hid hr
  have HT := Lib.hid hrt
  have HS1 := Lib.hid hs1
  have HS2 := Lib.hid hs2
  have HW := Lib.hid hw
  have HW2 := Lib.hid hw2
  obtain ⟨W, hW, hb, hz, c0, c1, c2, c3⟩ := box4 w (.pointer (some ⟨gb, 0, none⟩)) (.string s) (.string t) (.int .i64 n) 25 9 9 3
  have HB := Lib.hid hb
  have HZ := Lib.hid hz
  clear h hr hrt hs1 hs2 hw hw2 hb hz
  go_enter Tryd.func22, Tryd.ntmps22
  go_wp2_with fail
  clear hW
  refine (HR.out _ HB.out).mono ?_
  rintro e w1 ⟨rfl, h1⟩
  have hbx := box_below w1 (.cells #[.int .i64 rf] 3)
  have d4 := box_new w1 (.int .i64 rf) 3
  have d0 := bkeep (btrans h1 hbx) c0
  have d1 := bkeep (btrans h1 hbx) c1
  have d2 := bkeep (btrans h1 hbx) c2
  have d3 := bkeep (btrans h1 hbx) c3
  have hbw := btrans HB.out (btrans h1 hbx)
  have hby := box_below (w1.alloc (.cells #[.int .i64 rf] 3)) (.cells #[.string s, .int .i64 nn, .string t, .int .i64 n] 74)
  have hrow := shRow2 (w1.alloc (.cells #[.int .i64 rf] 3)) (s, nn) (t, n)
  rw [show (w1.alloc (.cells #[.int .i64 rf] 3)).heap.size = w1.heap.size + 1 by simp] at hrow
  have hch := change_any (H.out.below (btrans hbw hby)) _ #[.pointer (some ⟨w.heap.size + 1 + 1 + 1, 0, none⟩), .pointer (some ⟨w1.heap.size, 0, none⟩), .pointer (some ⟨w.heap.size + 1 + 1, 0, none⟩), .pointer (some ⟨w.heap.size, 0, none⟩), .pointer (some ⟨w.heap.size + 1, 0, none⟩)] enters_of_move (L.moveE rf rt s n) rf 0 0 [(s, nn), (t, n)] hrow (fun g hg => by
      cases hg
      have := H.out.lt lb (.inr (.inl rfl))
      have := H.out.lt sb (.inr (.inr rfl))
      have h7 := hbw.size
      rw [show (w1.alloc (.cells #[.int .i64 rf] 3)).heap.size = w1.heap.size + 1 by simp] at h7
      unfold LF; omega) (by simp) (fun X hX => move1_any (H.out.below (btrans (btrans hbw hby) hX)) rf rt n s t _ _ _ _ _ (HT.out.keep (btrans (btrans hbw hby) hX)) (bkeep hX (bkeep hby d3)) (bkeep hX (bkeep hby d4)) (bkeep hX (bkeep hby d2)) (bkeep hX (bkeep hby d0)) (bkeep hX (bkeep hby d1))) HS1.out HS2.out (fun h0 k x hk => by
        match k, hk with
        | 0, hk => cases hk; exact HW.out h0
        | 1, hk => cases hk; exact HW2.out h0
        | k + 2, hk => simp at hk)
  have HCH := Lib.hid hch
  have HFR := Lib.hid (Fr.ofBelow (F := LF lb sb) (btrans hbw hby))
  clear hch hrow hbw hby hbx h1
  go_wp2_with fail
  refine HCH.out.mono ?_
  rintro e w3 ⟨rfl, hc⟩
  have HFIN := Lib.hid (⟨hc.at_, HFR.out.trans hc.fr (fun b h => .inl h)⟩ : ChInv w w3 gb lb sb (if L.moveE rf rt s n = 0 then L.does rf 0 0 [(s, nn), (t, n)] else L))
  clear hc
  go_wp2_with fail
  go_ret
  exact ⟨rfl, HFIN.out⟩

end Go.Proofs.YtedoalpijbggiaaDoor
