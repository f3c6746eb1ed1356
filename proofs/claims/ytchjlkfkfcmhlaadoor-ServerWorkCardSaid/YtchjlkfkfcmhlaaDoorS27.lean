/- A server: what comes. -/
import Derived.Test.YtchjlkfkfcmhlaaDoorQ7
namespace Go.Proofs.YtchjlkfkfcmhlaaDoor
open Go.RowKit
attribute [local go_sem ↓] Go.wp_at_zero Go.wp_at_succ

theorem Mv.keep0 {w w' : World} {D D' : SD} (h : Mv w D w' D') {b : Nat} (hb : D.who b = 0) (hl : b < w.heap.size) : w'.heap[b]? = w.heap[b]? := h.1.block b hl fun e => e hb
theorem Mv.who0 {w w' : World} {D D' : SD} (h : Mv w D w' D') {b : Nat} (hb : D.who b = 0) (hl : b < w.heap.size) : D'.who b = 0 :=
  Classical.byContradiction fun hne => by
    rcases h.2 b hne with e | e
    · exact e hb
    · omega

/-- What the queue does. -/
def PutR (s : Sv) (D : SD) (x : Int × Int × Int) (D' : SD) (y : Int × Int × Int) (b : Bool) : Prop :=
  ∃ l' who, D' = { D with l := l', who := who } ∧ ((b = false ∧ (D.l.length : Int) < s.queue ∧ l' = x :: D.l) ∨ (b = true ∧ s.queue ≤ (D.l.length : Int) ∧ (y :: l').Perm (x :: D.l)))
def PutS (w : World) (sb : Nat) (hz now : Int) (s : Sv) (D : SD) (x : Int × Int × Int) (e : Ending) (w' : World) : Prop :=
  ∃ y b D', e = .returned (.tuple #[itV y, .bool b]) ∧ SR w' sb hz s now D' ∧ Mv w D w' D' ∧ PutR s D x D' y b
theorem sput_any {w : World} {sb : Nat} {hz now : Int} {s : Sv} {D : SD} (h : SR w sb hz s now D) (hbig : D.l.length ≤ 900) (x : Int × Int × Int) :
    Calls Tryd.prog 29 #[.pointer (some ⟨D.qb, 0, none⟩), itV x] w (PutS w sb hz now s D x) := by
  refine (put_q h.q hbig x).mono ?_
  rintro e w' ⟨fp', g1, g2, ⟨g3, rfl, g4⟩ | ⟨g3, y, l', rfl, g4, g5⟩⟩
  · obtain ⟨k1, k2⟩ := h.queue g4 g1 g2
    exact ⟨_, false, _, rfl, k1, k2, _, _, rfl, .inl ⟨rfl, g3, rfl⟩⟩
  · obtain ⟨k1, k2⟩ := h.queue g5 g1 g2
    exact ⟨y, true, _, rfl, k1, k2, _, _, rfl, .inr ⟨rfl, g3, g4⟩⟩
def TakeS (w : World) (sb : Nat) (hz now : Int) (s : Sv) (D : SD) (e : Ending) (w' : World) : Prop :=
  (D.l = [] ∧ e = .returned (.tuple #[itV (0, 0, 0), .bool false]) ∧ Below w.heap.size w w') ∨
  ∃ y l' who, e = .returned (.tuple #[itV y, .bool true]) ∧ (y :: l').Perm D.l ∧ SR w' sb hz s now { D with l := l', who := who } ∧ Mv w D w' { D with l := l', who := who }
theorem stake_any {w : World} {sb : Nat} {hz now : Int} {s : Sv} {D : SD} (h : SR w sb hz s now D) (hbig : D.l.length ≤ 900) :
    Calls Tryd.prog 43 #[.pointer (some ⟨D.qb, 0, none⟩)] w (TakeS w sb hz now s D) := by
  refine (take_q h.q (by omega)).mono ?_
  rintro e w' (⟨g1, g2, g3⟩ | ⟨y, l', rfl, g3, g4, g5⟩)
  · exact .inl ⟨g1, g2, g3⟩
  · obtain ⟨k1, k2⟩ := h.queue g4 (fun b hb => .inl hb) g5
    exact .inr ⟨y, l', _, rfl, g3, k1, k2⟩

def PutCut (w5 : World) (sb : Nat) (hz now : Int) (s : Sv) (D : SD) (x : Int × Int × Int) (v9 v10 : Value) (wx : World) : Prop :=
  ∃ X y b D', v9 = .pointer (some ⟨X, 0, none⟩) ∧ v10 = .bool b ∧ wx.heap[X]? = some (.cells #[.int .i64 y.1, .int .i64 y.2.1, .int .i64 y.2.2] 67 (0, 0)) ∧ D'.who X = 0 ∧ w5.heap.size ≤ X ∧ SR wx sb hz s now D' ∧ Mv w5 D wx D' ∧ PutR s D x D' y b
theorem SR.box {w5 w7 w8 : World} {sb X : Nat} {hz now : Int} {s : Sv} {D D' : SD} (h : SR w7 sb hz s now D') (m : Mv w5 D w7 D') (hw : D'.who X = 0) (hX : w5.heap.size ≤ X)
    (f : Fr (fun k => k = X) w7 w8) : SR w8 sb hz s now D' ∧ Mv w5 D w8 D' := by
  have k : ∀ b, D'.who b ≠ 0 → w8.heap[b]? = w7.heap[b]? := fun b hb => f.block b (h.lt b hb) fun e => hb (by rw [e]; exact hw)
  refine ⟨?_, ?_⟩
  · exact { blk := (k sb (by rw [h.own]; decide)).trans h.blk, own := h.own, q := h.q.keep fun b e => k b (by rw [e]; decide), t := h.t.keep fun b e => k b (by rw [e]; decide), m := h.m.keep (k _ (by rw [h.mw]; decide)), mw := h.mw, c := h.c.keep (k _ (by rw [h.cw]; decide)), cw := h.cw, wk := h.wk.keep fun g e => k g (by rw [h.ww g e]; decide), ww := h.ww, lt := fun b e => Nat.lt_of_lt_of_le (h.lt b e) f.size }
  · exact ⟨m.1.trans f (fun b e => .inr (by rw [e]; exact hX)), m.2⟩

/-- What comes, told. -/
theorem come_kept {s : Sv} {D : SD} {now : Int} {k : Nat} (h : D.Ok now k) (c : Cx) (hc : c.call.size ≤ 1000) (hd : D.down = false) (hn : c.span ∉ D.cm) {y : Int × Int × Int} {D' : SD} (hp : PutR s (D.noted c) (D.last + 1, c.prio, c.req) D' y false) :
    D'.Ok now (k + 1) ∧ ComeR s c D.t D'.t [] true := by
  obtain ⟨l', who, rfl, ⟨_, h2, rfl⟩ | ⟨h1, _⟩⟩ := hp
  · refine ⟨h.put c hc who, .inr ⟨hd, hn, rfl, (D.mm ++ [(D.last + 1, c)]).map (·.2), rfl, .inl ⟨?_, ?_, rfl⟩⟩⟩
    · show ((D.mm.map (·.2)).length : Int) < s.queue
      rw [List.length_map, ← h.len]; exact h2
    · rw [List.map_append]
      exact List.perm_append_comm (l₂ := [c])
  · cases h1
theorem come_shed {s : Sv} {D : SD} {now : Int} {k : Nat} (h : D.Ok now k) (c : Cx) (hc : c.call.size ≤ 1000) (hd : D.down = false) (hn : c.span ∉ D.cm) {y : Int × Int × Int} {D' : SD} (hp : PutR s (D.noted c) (D.last + 1, c.prio, c.req) D' y true) (hnd : (D'.mm.map (·.1)).Nodup) :
    ∃ c', (y.1, c') ∈ D'.mm ∧ ∃ mm', mdel (cxm D'.mm) y.1 = cxm mm' ∧ ({ D' with mm := mm' } : SD).Ok now (k + 1) ∧ ComeR s c D.t ({ D' with mm := mm' } : SD).t [⟨3, c', false, 3⟩] true := by
  obtain ⟨l', who, rfl, ⟨h1, _⟩ | ⟨_, h2, h3⟩⟩ := hp
  · cases h1
  · obtain ⟨c', h4, h5⟩ := (h.put c hc D.who).drop h3
    obtain ⟨mm', h6, h7⟩ := mdel_at hnd h4
    refine ⟨c', h4, mm', h6, h5 mm' h7 who, .inr ⟨hd, hn, rfl, mm'.map (·.2), rfl, .inr ⟨?_, c', ?_, rfl⟩⟩⟩
    · show s.queue ≤ ((D.mm.map (·.2)).length : Int)
      rw [List.length_map, ← h.len]; exact h2
    · have h8 := List.Perm.map (fun x : Int × Cx => x.2) h7
      refine h8.trans ?_
      show ((D.mm ++ [(D.last + 1, c)]).map (·.2)).Perm _
      rw [List.map_append]
      exact List.perm_append_comm (l₂ := [c])

set_option maxRecDepth 8000 in
set_option maxHeartbeats 8000000 in
theorem come_any {w : World} {sb : Nat} {hz now : Int} {s : Sv} {D : SD} {k : Nat} (h : SR w sb hz s now D) (hok : D.Ok now k) (hk : k ≤ 100) (c : Cx) (hc : c.call.size ≤ 1000) (ht : c.try_ ≤ 9) :
    Calls Tryd.prog 13 #[.pointer (some ⟨sb, 0, none⟩), .int .i64 now, cxV c] w (ComePost w sb hz now s c k D) := by
  have HSP := Lib.hid (fun w => span_any c (by omega) ht w)
  have hw0 : D.who w.heap.size = 0 := Classical.byContradiction fun hne => by have := h.lt _ hne; omega
  obtain ⟨W1, hW1⟩ : ∃ W1, w.alloc (.cells (cxCells c).toArray 31) = W1 := ⟨_, rfl⟩
  have n1 : W1.heap[w.heap.size]? = some (.cells (cxCells c).toArray 31 (0, 0)) := by rw [← hW1]; exact heap_alloc_new w _
  have b1 : Below w.heap.size w W1 := by rw [← hW1]; exact (Below.refl _ _).alloc (Nat.le_refl _) _
  have z1 : w.heap.size < W1.heap.size := by rw [← hW1]; simp
  have HN1 := Lib.hid n1
  have HB1 := Lib.hid b1
  have HZ1 := Lib.hid z1
  have H := Lib.hid h
  have HOK := Lib.hid hok
  have HW0 := Lib.hid hw0
  have HCV : Hid (cxV c = .agg (cxCells c).toArray) := rfl
  unfold cxCells at n1
  have a0 := block_cell n1 0 _ rfl
  have a1 := block_cell n1 1 _ rfl
  have a2 := block_cell n1 2 _ rfl
  have a3 := block_cell n1 3 _ rfl
  have a4 := block_cell n1 4 _ rfl
  have a5 := block_cell n1 5 _ rfl
  have a6 := block_cell n1 6 _ rfl
  have a7 := block_cell n1 7 _ rfl
  have a8 := block_cell n1 8 _ rfl
  clear n1 b1 z1 h hok hw0
  unfold cxCells at hW1
  rw [HCV.out]
  unfold cxCells
  go_enter Tryd.func13, Tryd.ntmps13
  go_wp2_with fail
  refine (HSP.out _).mono ?_
  rintro e W2 ⟨rfl, b2⟩
  have h2 := H.out.below (btrans HB1.out b2)
  have c14 : W2.cell? ⟨sb, 14, none⟩ = some (.bool D.down) := h2.cell rfl
  have c4 : W2.cell? ⟨sb, 4, none⟩ = some (.map (some D.cb)) := h2.cell rfl
  have hlk := run_lookup_at (string_law Tryd.underlying9) h2.c Tryd.underlying61 (z := .bool false) (by kernel_rfl) c.span false
  simp only [Bool.false_eq_true, if_false] at hlk
  have HM2 := Lib.hid ((Mv.refl w D).below (btrans HB1.out b2))
  have HF : Hid (∀ W, Below W2.heap.size W2 W → D.down = true ∨ c.span ∈ D.cm → ComePost w sb hz now s c k D (.returned (.tuple #[.slice none 0 0, .bool false])) W) := fun W hb hor =>
    ⟨D, [], _, false, rfl, h2.below hb, HOK.out.mono (Int.le_refl _) (by omega), HM2.out.below hb, OutAt.nil _ _ _, .inl ⟨hor, rfl, rfl, rfl⟩⟩
  have H2 := Lib.hid h2
  have HB2 := Lib.hid b2
  clear h2 b2 hW1
  by_cases hd : D.down = true
  · rw [hd] at c14
    clear hlk
    go_wp2_with fail
    exact bodyPost_ret (v := .tuple #[.slice none 0 0, .bool false]) (by simp [results, Tryd.results13, go_sem]) rfl (HF.out _ (Below.refl _ _) (.inl hd))
  · replace hd : D.down = false := by simpa using hd
    rw [hd] at c14
    by_cases hn : c.span ∈ D.cm
    · rw [mget_nm_in hn] at hlk
      simp only [Option.getD_some] at hlk
      go_wp2_with fail
      exact bodyPost_ret (v := .tuple #[.slice none 0 0, .bool false]) (by simp [results, Tryd.results13, go_sem]) rfl (HF.out _ (Below.refl _ _) (.inr hn))
    · rw [mget_nm_out hn] at hlk
      simp only [Option.getD_none] at hlk
      obtain ⟨W3, hup, hm3, hg3⟩ := run_update_at (w := W2) (string_law Tryd.underlying9) H2.out.c Tryd.underlying61 c.span (.bool true)
      rw [mset_fresh (fun p hp e => hn (by obtain ⟨a, ha, rfl⟩ := List.mem_map.1 hp; exact e ▸ ha)), show nmm D.cm ++ [(c.span, .bool true)] = nmm (D.cm ++ [c.span]) by simp [nmm]] at hm3
      obtain ⟨h3, m3⟩ := H2.out.came hm3 hg3
      have c1 : W3.cell? ⟨sb, 1, none⟩ = some (.int .i64 D.last) := h3.cell rfl
      have u1 := h3.free 1
      have g1 : IntKind.i64.wrap (D.last + 1) = D.last + 1 := IntWalk.i64_in _ (by have := HOK.out.last; omega)
      have e4 := setCell_block W3 sb 1 _ _ (0, 0) (.int .i64 (D.last + 1)) h3.blk
      have f4 := Fr.setCell (fun b => b = sb) W3 ⟨sb, 1, none⟩ (.int .i64 (D.last + 1)) rfl
      obtain ⟨W4, hW4⟩ : ∃ W4, W3.setCell ⟨sb, 1, none⟩ (.int .i64 (D.last + 1)) = W4 := ⟨_, rfl⟩
      rw [hW4] at e4 f4
      obtain ⟨h4, m4⟩ := h3.cells f4 (D.last + 1) D.ended D.down D.again D.up e4
      dsimp only at h4 m4
      have M4 := Lib.hid ((HM2.out.trans m3).trans m4)
      have H4 := Lib.hid h4
      have HN4 : Hid (W4.heap[w.heap.size]? = some (.cells (cxCells c).toArray 31 (0, 0))) := by
        refine ((m3.trans m4).keep0 HW0.out ?_).trans ((HB2.out.block _ HZ1.out).trans HN1.out)
        exact Nat.lt_of_lt_of_le HZ1.out HB2.out.size
      have k2 : W4.cell? ⟨sb, 2, none⟩ = some (.map (some D.mb)) := h4.cell rfl
      have k1 : W4.cell? ⟨sb, 1, none⟩ = some (.int .i64 (D.last + 1)) := h4.cell rfl
      have HDN := Lib.hid hd
      have HNN := Lib.hid hn
      have HZ4 : Hid (w.heap.size < W4.heap.size) := Nat.lt_of_lt_of_le HZ1.out (Nat.le_trans HB2.out.size (m3.trans m4).1.size)
      clear hd hn hm3 hg3 h3 m3 e4 f4 h4 m4
      go_wp2_with fail
      refine wp_region_split_held 11 (fun W => W.cell? ⟨sb, 2, none⟩ = some (.map (some D.mb)) ∧ W.cell? ⟨sb, 1, none⟩ = some (.int .i64 (D.last + 1)) ∧ W.heap[w.heap.size]? = some (.cells (cxCells c).toArray 31 (0, 0))) (by kernel_rfl) (by kernel_rfl) ⟨k2, k1, HN4.out⟩ (fun K0 hK0 hHeld => ?_)
      simp only [List.take_succ_cons, List.take_zero]
      refine wpAnyH_take (i := 0) (v := ?_) rfl (by kernel_rfl) (by kernel_rfl) (by kernel_rfl) (fun _ _ _ h => h) (Or.inl ⟨by kernel_rfl, ?_⟩) (by assumption) ?_
      rotate_left
      · (intro w hSw; (try dsimp only at hSw); go_simp; (try rw [if_neg (by (try simp only [ByteArray.size_append]); omega)]); (try with_reducible rfl))
      try simp only [Act.put]
      refine wpAnyH_take (i := 1) (v := ?_) rfl (by kernel_rfl) (by kernel_rfl) (by kernel_rfl) (fun _ _ _ h => h) (Or.inl ⟨by kernel_rfl, ?_⟩) (by assumption) ?_
      rotate_left
      · (intro w hSw; (try dsimp only at hSw); go_simp; (try rw [if_neg (by (try simp only [ByteArray.size_append]); omega)]); (try with_reducible rfl))
      try simp only [Act.put]
      refine wpAnyH_take (i := 2) (v := ?_) rfl (by kernel_rfl) (by kernel_rfl) (by kernel_rfl) (fun _ _ _ h => h) (Or.inl ⟨by kernel_rfl, ?_⟩) (by assumption) ?_
      rotate_left
      · (intro w hSw; (try dsimp only at hSw); go_simp; (try rw [if_neg (by (try simp only [ByteArray.size_append]); omega)]); (try with_reducible rfl))
      try simp only [Act.put]
      refine wpAnyH_take (i := 3) (v := ?_) rfl (by kernel_rfl) (by kernel_rfl) (by kernel_rfl) (fun _ _ _ h => h) (Or.inl ⟨by kernel_rfl, ?_⟩) (by assumption) ?_
      rotate_left
      · (intro w hSw; (try dsimp only at hSw); go_simp; (try rw [if_neg (by (try simp only [ByteArray.size_append]); omega)]); (try with_reducible rfl))
      try simp only [Act.put]
      refine wpAnyH_take (i := 4) (v := ?_) rfl (by kernel_rfl) (by kernel_rfl) (by kernel_rfl) (fun _ _ _ h => h) (Or.inl ⟨by kernel_rfl, ?_⟩) (by assumption) ?_
      rotate_left
      · (intro w hSw; (try dsimp only at hSw); go_simp; (try rw [if_neg (by (try simp only [ByteArray.size_append]); omega)]); (try with_reducible rfl))
      try simp only [Act.put]
      refine wpAnyH_take (i := 5) (v := ?_) rfl (by kernel_rfl) (by kernel_rfl) (by kernel_rfl) (fun _ _ _ h => h) (Or.inl ⟨by kernel_rfl, ?_⟩) (by assumption) ?_
      rotate_left
      · (intro w hSw; (try dsimp only at hSw); go_simp; (try rw [if_neg (by (try simp only [ByteArray.size_append]); omega)]); (try with_reducible rfl))
      try simp only [Act.put]
      refine wpAnyH_take (i := 6) (v := ?_) rfl (by kernel_rfl) (by kernel_rfl) (by kernel_rfl) (fun _ _ _ h => h) (Or.inl ⟨by kernel_rfl, ?_⟩) (by assumption) ?_
      rotate_left
      · (intro w hSw; (try dsimp only at hSw); go_simp; (try rw [if_neg (by (try simp only [ByteArray.size_append]); omega)]); (try with_reducible rfl))
      try simp only [Act.put]
      refine wpAnyH_take (i := 7) (v := ?_) rfl (by kernel_rfl) (by kernel_rfl) (by kernel_rfl) (fun _ _ _ h => h) (Or.inl ⟨by kernel_rfl, ?_⟩) (by assumption) ?_
      rotate_left
      · (intro w hSw; (try dsimp only at hSw); go_simp; (try rw [if_neg (by (try simp only [ByteArray.size_append]); omega)]); (try with_reducible rfl))
      try simp only [Act.put]
      refine wpAnyH_take (i := 8) (v := ?_) rfl (by kernel_rfl) (by kernel_rfl) (by kernel_rfl) (fun _ _ _ h => h) (Or.inl ⟨by kernel_rfl, ?_⟩) (by assumption) ?_
      rotate_left
      · (intro w hSw; (try dsimp only at hSw); go_simp; (try rw [if_neg (by (try simp only [ByteArray.size_append]); omega)]); (try with_reducible rfl))
      try simp only [Act.put]
      refine wpAnyH_take (i := 9) (v := ?_) rfl (by kernel_rfl) (by kernel_rfl) (by kernel_rfl) (fun _ _ _ h => h) (Or.inl ⟨by kernel_rfl, ?_⟩) (by assumption) ?_
      rotate_left
      · (intro w hSw; (try dsimp only at hSw); go_simp; (try rw [if_neg (by (try simp only [ByteArray.size_append]); omega)]); (try with_reducible rfl))
      try simp only [Act.put]
      refine wpAnyH_take (i := 10) (v := ?_) rfl (by kernel_rfl) (by kernel_rfl) (by kernel_rfl) (fun _ _ _ h => h) (Or.inl ⟨by kernel_rfl, ?_⟩) (by assumption) ?_
      rotate_left
      · (intro wS hSw; refine (exec_load_row 31 _ rfl _ (by kernel_rfl) _ _ _ _ (hSw.2.2) Tryd.underlying31 rfl (by kernel_rfl)).trans ?_; with_reducible rfl)
      try simp only [Act.put]
      refine wpAnyH_done (by kernel_rfl) ?_ _
      simp only [Exit.then]
      refine hK0 _ _ ?_
      clear hK0 K0 hHeld
      try simp only [Act.put]
      obtain ⟨W5, hup5, hm5, hg5⟩ := run_update_at (w := W4.drew) (int_law Tryd.underlying3) (H4.out.below ((Below.refl _ _).drew)).m Tryd.underlying59 (D.last + 1) (cxV c)
      rw [mset_fresh (fun p hp e => by obtain ⟨a, ha, rfl⟩ := List.mem_map.1 hp; exact HOK.out.fresh a ha e), show cxm D.mm ++ [(D.last + 1, cxV c)] = cxm (D.mm ++ [(D.last + 1, c)]) by simp [cxm]] at hm5
      obtain ⟨h5, m5⟩ := (H4.out.below ((Below.refl _ _).drew)).waits hm5 hg5
      have M5 := Lib.hid (Mv.trans (M4.out.below ((Below.refl _ _).drew)) m5)
      have H5 : Hid (SR W5 sb hz s now (D.noted c)) := h5
      have HN5 : Hid (W5.heap[w.heap.size]? = some (.cells (cxCells c).toArray 31 (0, 0))) := (m5.keep0 (b := w.heap.size) HW0.out HZ4.out).trans HN4.out
      have hz5 : W4.heap.size ≤ W5.heap.size := m5.1.size
      unfold cxV at hup5
      clear hm5 hg5 h5 m5
      go_wp2_with fail
      have HZ5 : Hid (w.heap.size < W5.heap.size) := Nat.lt_of_lt_of_le HZ4.out hz5
      have HX0 : Hid ((D.noted c).who W5.heap.size = 0) := Classical.byContradiction fun hne => by have := H5.out.lt _ hne; omega
      have HLEN : (D.noted c).l.length ≤ 900 := by show D.l.length ≤ 900; have := HOK.out.len; have := HOK.out.sum; omega
      have HPUT : Hid (∀ W, SR W sb hz s now (D.noted c) → Calls Tryd.prog 29 #[.pointer (some ⟨D.qb, 0, none⟩), .agg #[.int .i64 (D.last + 1), .int .i64 c.prio, .int .i64 c.req]] W (PutS W sb hz now s (D.noted c) (D.last + 1, c.prio, c.req))) := fun W hW => sput_any hW HLEN (D.last + 1, c.prio, c.req)
      have HS : Hid (∀ W D', SR W sb hz s now D' → D'.qb = D.qb ∧ D'.last = D.last + 1 → W.heap[w.heap.size]? = W5.heap[w.heap.size]? → (W.cell? ⟨sb, 0, none⟩ = some (.pointer (some ⟨D.qb, 0, none⟩)) ∧ W.cell? ⟨sb, 1, none⟩ = some (.int .i64 (D.last + 1)) ∧ W.cell? ⟨w.heap.size, 8, none⟩ = some (.int .i64 c.prio) ∧ W.cell? ⟨w.heap.size, 0, none⟩ = some (.int .i64 c.req))) := fun W D' hW hq hr => by
        have hr' := hr.trans HN5.out
        refine ⟨?_, ?_, block_cell hr' 8 _ rfl, block_cell hr' 0 _ rfl⟩
        · have g : W.cell? ⟨sb, 0, none⟩ = some (.pointer (some ⟨D'.qb, 0, none⟩)) := hW.cell rfl
          rw [hq.1] at g; exact g
        · have g : W.cell? ⟨sb, 1, none⟩ = some (.int .i64 D'.last) := hW.cell rfl
          rw [hq.2] at g; exact g
      go_cut [9, 10] from 52 to 71 (fun v9 v10 wx => PutCut W5 sb hz now s (D.noted c) (D.last + 1, c.prio, c.req) v9 v10 wx)
      case first =>
        refine wp_region_held_drew (S := fun W => W.cell? ⟨sb, 0, none⟩ = some (.pointer (some ⟨D.qb, 0, none⟩)) ∧ W.cell? ⟨sb, 1, none⟩ = some (.int .i64 (D.last + 1)) ∧ W.cell? ⟨w.heap.size, 8, none⟩ = some (.int .i64 c.prio) ∧ W.cell? ⟨w.heap.size, 0, none⟩ = some (.int .i64 c.req)) (by kernel_rfl) (HS.out W5.drew _ (H5.out.below ((Below.refl _ _).drew)) ⟨rfl, rfl⟩ rfl) (fun hHeld => ?_)
        refine wpAnyH_take (i := 0) (v := ?_) rfl (by kernel_rfl) (by kernel_rfl) (by kernel_rfl) (fun _ _ _ h => h) (Or.inl ⟨by kernel_rfl, ?_⟩) (by assumption) ?_
        rotate_left
        · (intro w hSw; (try dsimp only at hSw); go_simp; (try rw [if_neg (by (try simp only [ByteArray.size_append]); omega)]); (try with_reducible rfl))
        try simp only [Act.put]
        refine wpAnyH_take (i := 1) (v := ?_) rfl (by kernel_rfl) (by kernel_rfl) (by kernel_rfl) (fun _ _ _ h => h) (Or.inl ⟨by kernel_rfl, ?_⟩) (by assumption) ?_
        rotate_left
        · (intro w hSw; (try dsimp only at hSw); go_simp; (try rw [if_neg (by (try simp only [ByteArray.size_append]); omega)]); (try with_reducible rfl))
        try simp only [Act.put]
        refine wpAnyH_take (i := 2) (v := ?_) rfl (by kernel_rfl) (by kernel_rfl) (by kernel_rfl) (fun _ _ _ h => h) (Or.inl ⟨by kernel_rfl, ?_⟩) (by assumption) ?_
        rotate_left
        · (intro w hSw; (try dsimp only at hSw); go_simp; (try rw [if_neg (by (try simp only [ByteArray.size_append]); omega)]); (try with_reducible rfl))
        try simp only [Act.put]
        refine wpAnyH_take (i := 3) (v := ?_) rfl (by kernel_rfl) (by kernel_rfl) (by kernel_rfl) (fun _ _ _ h => h) (Or.inl ⟨by kernel_rfl, ?_⟩) (by assumption) ?_
        rotate_left
        · (intro w hSw; (try dsimp only at hSw); go_simp; (try rw [if_neg (by (try simp only [ByteArray.size_append]); omega)]); (try with_reducible rfl))
        try simp only [Act.put]
        refine wpAnyH_take (i := 4) (v := ?_) rfl (by kernel_rfl) (by kernel_rfl) (by kernel_rfl) (fun _ _ _ h => h) (Or.inl ⟨by kernel_rfl, ?_⟩) (by assumption) ?_
        rotate_left
        · (intro w hSw; (try dsimp only at hSw); go_simp; (try rw [if_neg (by (try simp only [ByteArray.size_append]); omega)]); (try with_reducible rfl))
        try simp only [Act.put]
        refine wpAnyH_take (i := 5) (v := ?_) rfl (by kernel_rfl) (by kernel_rfl) (by kernel_rfl) (fun _ _ _ h => h) (Or.inl ⟨by kernel_rfl, ?_⟩) (by assumption) ?_
        rotate_left
        · (intro w hSw; (try dsimp only at hSw); go_simp; (try rw [if_neg (by (try simp only [ByteArray.size_append]); omega)]); (try with_reducible rfl))
        try simp only [Act.put]
        refine wpAnyH_take (i := 6) (v := ?_) rfl (by kernel_rfl) (by kernel_rfl) (by kernel_rfl) (fun _ _ _ h => h) (Or.inl ⟨by kernel_rfl, ?_⟩) (by assumption) ?_
        rotate_left
        · (intro w hSw; (try dsimp only at hSw); go_simp; (try rw [if_neg (by (try simp only [ByteArray.size_append]); omega)]); (try with_reducible rfl))
        try simp only [Act.put]
        refine wpAnyH_take (i := 7) (v := ?_) rfl (by kernel_rfl) (by kernel_rfl) (by kernel_rfl) (fun _ _ _ h => h) (Or.inl ⟨by kernel_rfl, ?_⟩) (by assumption) ?_
        rotate_left
        · (intro w hSw; (try dsimp only at hSw); go_simp; (try rw [if_neg (by (try simp only [ByteArray.size_append]); omega)]); (try with_reducible rfl))
        try simp only [Act.put]
        refine wpAnyH_take (i := 8) (v := ?_) rfl (by kernel_rfl) (by kernel_rfl) (by kernel_rfl) (fun _ _ _ h => h) (Or.inl ⟨by kernel_rfl, ?_⟩) (by assumption) ?_
        rotate_left
        · (intro w hSw; (try dsimp only at hSw); go_simp; (try rw [if_neg (by (try simp only [ByteArray.size_append]); omega)]); (try with_reducible rfl))
        try simp only [Act.put]
        refine wpAnyH_take (i := 9) (v := ?_) rfl (by kernel_rfl) (by kernel_rfl) (by kernel_rfl) (fun _ _ _ h => h) (Or.inl ⟨by kernel_rfl, ?_⟩) (by assumption) ?_
        rotate_left
        · (intro w hSw; (try dsimp only at hSw); go_simp; (try rw [if_neg (by (try simp only [ByteArray.size_append]); omega)]); (try with_reducible rfl))
        try simp only [Act.put]
        refine wpAnyH_take (i := 10) (v := ?_) rfl (by kernel_rfl) (by kernel_rfl) (by kernel_rfl) (fun _ _ _ h => h) (Or.inl ⟨by kernel_rfl, ?_⟩) (by assumption) ?_
        rotate_left
        · (intro w hSw; (try dsimp only at hSw); go_simp; (try rw [if_neg (by (try simp only [ByteArray.size_append]); omega)]); (try with_reducible rfl))
        try simp only [Act.put]
        refine wpAnyH_take (i := 11) (v := ?_) rfl (by kernel_rfl) (by kernel_rfl) (by kernel_rfl) (fun _ _ _ h => h) (Or.inl ⟨by kernel_rfl, ?_⟩) (by assumption) ?_
        rotate_left
        · (intro w hSw; (try dsimp only at hSw); go_simp; (try rw [if_neg (by (try simp only [ByteArray.size_append]); omega)]); (try with_reducible rfl))
        try simp only [Act.put]
        refine wpAnyH_take (i := 12) (v := ?_) rfl (by kernel_rfl) (by kernel_rfl) (by kernel_rfl) (fun _ _ _ h => h) (Or.inl ⟨by kernel_rfl, ?_⟩) (by assumption) ?_
        rotate_left
        · (intro w hSw; (try dsimp only at hSw); go_simp; (try rw [if_neg (by (try simp only [ByteArray.size_append]); omega)]); (try with_reducible rfl))
        try simp only [Act.put]
        refine wpAnyH_take (i := 13) (v := ?_) rfl (by kernel_rfl) (by kernel_rfl) (by kernel_rfl) (fun _ _ _ h => h) (Or.inl ⟨by kernel_rfl, ?_⟩) (by assumption) ?_
        rotate_left
        · (intro w hSw; (try dsimp only at hSw); go_simp; (try rw [if_neg (by (try simp only [ByteArray.size_append]); omega)]); (try with_reducible rfl))
        try simp only [Act.put]
        refine wpAnyH_take (i := 14) (v := ?_) rfl (by kernel_rfl) (by kernel_rfl) (by kernel_rfl) (fun _ _ _ h => h) (Or.inl ⟨by kernel_rfl, ?_⟩) (by assumption) ?_
        rotate_left
        · (intro w hSw; (try dsimp only at hSw); go_simp; (try rw [if_neg (by (try simp only [ByteArray.size_append]); omega)]); (try with_reducible rfl))
        try simp only [Act.put]
        refine wpAnyH_ready (rs := [15, 19]) (by kernel_rfl) (by simp) ?_
        refine AllReadyH.cons rfl (fun K hK => ?_) (AllReadyH.cons rfl (fun K hK => ?_) AllReadyH.nil)
        · go_simp
          have h5d := H5.out.below (w' := W5.drew) ((Below.refl _ _).drew)
          refine (HPUT.out _ h5d).mono ?_
          rintro e W7 ⟨⟨y1, y2, y3⟩, b, D', rfl, h7, m7, hp7⟩
          have hD7 : D'.qb = D.qb ∧ D'.last = D.last + 1 := by obtain ⟨l', who, rfl, _⟩ := hp7; exact ⟨rfl, rfl⟩
          have m57 := Mv.pre (D := D.noted c) (w := W5) ((Below.refl _ _).drew) m7
          refine hK.out _ _ (HS.out W7 D' h7 hD7 (m57.keep0 HW0.out HZ5.out)) (fun hHeld => ?_)
          clear hK K
          try simp only [Act.put]
          unfold itV
          dsimp only
          refine wpAnyH_take (i := 16) (v := ?_) rfl (by kernel_rfl) (by kernel_rfl) (by kernel_rfl) (fun _ _ _ h => h) (Or.inl ⟨by kernel_rfl, ?_⟩) (by assumption) ?_
          rotate_left
          · (intro w hSw; (try dsimp only at hSw); go_simp; (try rw [if_neg (by (try simp only [ByteArray.size_append]); omega)]); (try with_reducible rfl))
          try simp only [Act.put]
          refine wpAnyH_take (i := 17) (v := ?_) rfl (by kernel_rfl) (by kernel_rfl) (by kernel_rfl) (fun _ _ _ h => h) (Or.inl ⟨by kernel_rfl, ?_⟩) (by assumption) ?_
          rotate_left
          · (intro w hSw; (try dsimp only at hSw); go_simp; (try rw [if_neg (by (try simp only [ByteArray.size_append]); omega)]); (try with_reducible rfl))
          try simp only [Act.put]
          refine wpAnyH_take (i := 18) (v := ?_) rfl (by kernel_rfl) (by kernel_rfl) (by kernel_rfl) (fun _ _ _ h => h) (Or.inl ⟨by kernel_rfl, ?_⟩) (by assumption) ?_
          rotate_left
          · (intro w hSw; (try dsimp only at hSw); go_simp; (try rw [if_neg (by (try simp only [ByteArray.size_append]); omega)]); (try with_reducible rfl))
          try simp only [Act.put]
          refine wpAnyH_ready (rs := [19]) (by kernel_rfl) (by simp) ?_
          refine AllReadyH.cons rfl (fun K hK => ?_) AllReadyH.nil
          go_simp
          have hb8 : Below W7.heap.size W7 (W7.alloc (.cells #[.int .i64 0, .int .i64 0, .int .i64 0] 67)) := (Below.refl _ _).alloc (Nat.le_refl _) _
          refine hK.out _ _ (HS.out _ D' (h7.below hb8) hD7 ((m57.below hb8).keep0 HW0.out HZ5.out)) (fun hHeld => ?_)
          clear hK K
          try simp only [Act.put]
          have hX7 : D'.who W7.heap.size = 0 := Classical.byContradiction fun hne => by have := h7.lt _ hne; omega
          have r7 := heap_alloc_new W7 (.cells #[.int .i64 0, .int .i64 0, .int .i64 0] 67)
          have hx8 := heap_alloc_new W7 (.cells #[.int .i64 y1, .int .i64 y2, .int .i64 y3] 67)
          have f8 : Fr (fun k => k = W7.heap.size) W7 (W7.alloc (.cells #[.int .i64 y1, .int .i64 y2, .int .i64 y3] 67)) := Fr.ofBelow ((Below.refl _ _).alloc (Nat.le_refl _) _)
          have hXs := m57.1.size
          obtain ⟨h8, m8⟩ := h7.box m57 hX7 hXs f8
          have d0 := block_cell r7 0 _ rfl
          have d1 := block_cell r7 1 _ rfl
          have d2 := block_cell r7 2 _ rfl
          have u0 := block_free r7 0
          have u1 := block_free r7 1
          have u2 := block_free r7 2
          refine wpAnyH_ready (rs := [20]) (by kernel_rfl) (by simp) ?_
          refine AllReadyH.cons rfl (fun K hK => ?_) AllReadyH.nil
          go_simp
          refine hK.out _ _ (HS.out _ D' h8 hD7 (m8.keep0 HW0.out HZ5.out)) (fun hHeld => ?_)
          clear hK K
          try simp only [Act.put]
          have HPC : Hid (PutCut W5 sb hz now s (D.noted c) (D.last + 1, c.prio, c.req) (.pointer (some ⟨W7.heap.size, 0, none⟩)) (.bool b) (W7.alloc (.cells #[.int .i64 y1, .int .i64 y2, .int .i64 y3] 67))) := ⟨_, (y1, y2, y3), b, D', rfl, rfl, hx8, hX7, hXs, h8, m8, hp7⟩
          clear h7 m7 hp7 hD7 m57 h8 m8 hx8 hX7 hXs
          refine wpAnyH_take (i := 21) (v := ?_) rfl (by kernel_rfl) (by kernel_rfl) (by kernel_rfl) (fun _ _ _ h => h) (Or.inl ⟨by kernel_rfl, ?_⟩) (by assumption) ?_
          rotate_left
          · (intro w hSw; (try dsimp only at hSw); go_simp; (try rw [if_neg (by (try simp only [ByteArray.size_append]); omega)]); (try with_reducible rfl))
          try simp only [Act.put]
          refine wpAnyH_done (by kernel_rfl) ?_ _
          try simp only [Act.put]
          clear hHeld
          go_simp
          go_wp2_with fail
          go_meet
          exact HPC.out
        · go_simp
          have hb6 : Below W5.heap.size W5 ((W5.alloc (.cells #[.int .i64 0, .int .i64 0, .int .i64 0] 67)).drew) := ((Below.refl _ _).alloc (Nat.le_refl _) _).drew
          have r6 : ((W5.alloc (.cells #[.int .i64 0, .int .i64 0, .int .i64 0] 67)).drew).heap[W5.heap.size]? = some (.cells #[.int .i64 0, .int .i64 0, .int .i64 0] 67 (0, 0)) := heap_alloc_new W5 _
          have hz6 : W5.heap.size < ((W5.alloc (.cells #[.int .i64 0, .int .i64 0, .int .i64 0] 67)).drew).heap.size := (Array.getElem?_eq_some_iff.1 r6).1
          have h6 := H5.out.below hb6
          refine hK.out _ _ (HS.out _ _ h6 ⟨rfl, rfl⟩ (hb6.block _ HZ5.out)) (fun hHeld => ?_)
          clear hK K
          try simp only [Act.put]
          refine wpAnyH_ready (rs := [15]) (by kernel_rfl) (by simp) ?_
          refine AllReadyH.cons rfl (fun K hK => ?_) AllReadyH.nil
          go_simp
          refine (HPUT.out _ h6).mono ?_
          rintro e W7 ⟨⟨y1, y2, y3⟩, b, D', rfl, h7, m7, hp7⟩
          have hD7 : D'.qb = D.qb ∧ D'.last = D.last + 1 := by obtain ⟨l', who, rfl, _⟩ := hp7; exact ⟨rfl, rfl⟩
          have m57 := Mv.pre (D := D.noted c) (w := W5) hb6 m7
          refine hK.out _ _ (HS.out W7 D' h7 hD7 (m57.keep0 HW0.out HZ5.out)) (fun hHeld => ?_)
          clear hK K
          try simp only [Act.put]
          unfold itV
          dsimp only
          refine wpAnyH_take (i := 16) (v := ?_) rfl (by kernel_rfl) (by kernel_rfl) (by kernel_rfl) (fun _ _ _ h => h) (Or.inl ⟨by kernel_rfl, ?_⟩) (by assumption) ?_
          rotate_left
          · (intro w hSw; (try dsimp only at hSw); go_simp; (try rw [if_neg (by (try simp only [ByteArray.size_append]); omega)]); (try with_reducible rfl))
          try simp only [Act.put]
          refine wpAnyH_take (i := 17) (v := ?_) rfl (by kernel_rfl) (by kernel_rfl) (by kernel_rfl) (fun _ _ _ h => h) (Or.inl ⟨by kernel_rfl, ?_⟩) (by assumption) ?_
          rotate_left
          · (intro w hSw; (try dsimp only at hSw); go_simp; (try rw [if_neg (by (try simp only [ByteArray.size_append]); omega)]); (try with_reducible rfl))
          try simp only [Act.put]
          refine wpAnyH_take (i := 18) (v := ?_) rfl (by kernel_rfl) (by kernel_rfl) (by kernel_rfl) (fun _ _ _ h => h) (Or.inl ⟨by kernel_rfl, ?_⟩) (by assumption) ?_
          rotate_left
          · (intro w hSw; (try dsimp only at hSw); go_simp; (try rw [if_neg (by (try simp only [ByteArray.size_append]); omega)]); (try with_reducible rfl))
          try simp only [Act.put]
          have hX7 : D'.who W5.heap.size = 0 := m7.who0 HX0.out hz6
          have r7 := (m7.keep0 HX0.out hz6).trans r6
          obtain ⟨W8, hW8, hx8, f8⟩ := fill3 r7 (.int .i64 y1) (.int .i64 y2) (.int .i64 y3)
          have hXs := Nat.le_refl W5.heap.size
          obtain ⟨h8, m8⟩ := h7.box m57 hX7 hXs f8
          have d0 := block_cell r7 0 _ rfl
          have d1 := block_cell r7 1 _ rfl
          have d2 := block_cell r7 2 _ rfl
          have u0 := block_free r7 0
          have u1 := block_free r7 1
          have u2 := block_free r7 2
          refine wpAnyH_ready (rs := [20]) (by kernel_rfl) (by simp) ?_
          refine AllReadyH.cons rfl (fun K hK => ?_) AllReadyH.nil
          go_simp
          refine hK.out _ _ (HS.out _ D' h8 hD7 (m8.keep0 HW0.out HZ5.out)) (fun hHeld => ?_)
          clear hK K
          try simp only [Act.put]
          have HPC : Hid (PutCut W5 sb hz now s (D.noted c) (D.last + 1, c.prio, c.req) (.pointer (some ⟨W5.heap.size, 0, none⟩)) (.bool b) W8) := ⟨_, (y1, y2, y3), b, D', rfl, rfl, hx8, hX7, hXs, h8, m8, hp7⟩
          clear h7 m7 hp7 hD7 m57 h8 m8 hx8 hX7 hXs
          refine wpAnyH_take (i := 21) (v := ?_) rfl (by kernel_rfl) (by kernel_rfl) (by kernel_rfl) (fun _ _ _ h => h) (Or.inl ⟨by kernel_rfl, ?_⟩) (by assumption) ?_
          rotate_left
          · (intro w hSw; (try dsimp only at hSw); go_simp; (try rw [if_neg (by (try simp only [ByteArray.size_append]); omega)]); (try with_reducible rfl))
          try simp only [Act.put]
          refine wpAnyH_done (by kernel_rfl) ?_ _
          try simp only [Act.put]
          clear hHeld
          go_simp
          go_wp2_with fail
          go_meet
          exact HPC.out
      case rest =>
        obtain ⟨X, ⟨y1, y2, y3⟩, b, D', rfl, rfl, hx, hX0, hXs, h8, m8, hp⟩ := hcut
        have M8 := Lib.hid (M5.out.trans m8)
        cases b with
        | false =>
          obtain ⟨ok', cr⟩ := come_kept HOK.out c hc HDN.out HNN.out hp
          have HF : Hid (ComePost w sb hz now s c k D (.returned (.tuple #[.slice none 0 0, .bool true])) wc) := ⟨D', [], _, true, rfl, h8, ok', M8.out, OutAt.nil _ _ _, cr⟩
          clear hx hX0 hXs h8 m8 hp ok' cr
          go_wp2_with fail
          exact bodyPost_ret (v := .tuple #[.slice none 0 0, .bool true]) (by simp [results, Tryd.results13, go_sem]) rfl HF.out
        | true =>
          have hnd : (D'.mm.map (·.1)).Nodup := by have := h8.m.1; rwa [cxm_keys] at this
          obtain ⟨c', hc', mm', hmd, ok', cr⟩ := come_shed HOK.out c hc HDN.out HNN.out hp hnd
          have hlk8 := fun (W : World) (hb : Below wc.heap.size wc W) => run_lookup_at (w := W) (int_law Tryd.underlying3) (h8.below hb).m Tryd.underlying59 (z := .agg #[.int .i64 0, .string ⟨#[]⟩, .int .i64 0, .bool false, .bool false, .int .i64 0, .int .i64 0, .int .i64 0, .int .i64 0]) (by kernel_rfl) y1 false
          rw [mget_at hnd hc'] at hlk8
          simp only [Bool.false_eq_true, if_false, Option.getD_some] at hlk8
          unfold cxV cxCells at hlk8
          have HL : Hid (∀ W, Below wc.heap.size wc W → (W.cell? ⟨sb, 2, none⟩ = some (.map (some D'.mb)) ∧ W.cell? ⟨X, 0, none⟩ = some (.int .i64 y1) ∧ (Instr.lookup 59 (.map (some D'.mb)) (.int .i64 y1) false).run Tryd.prog W = .ok (.agg #[.int .i64 c'.req, .string c'.call, .int .i64 c'.try_, .bool c'.idem, .bool c'.shadow, .int .i64 c'.dl, .int .i64 c'.purse, .int .i64 c'.ver, .int .i64 c'.prio]) W)) := fun W hb =>
            ⟨(h8.below hb).cell rfl, bkeep hb (block_cell hx 0 _ rfl), hlk8 W hb⟩
          clear hlk8
          obtain ⟨WA, hWA⟩ : ∃ WA, (wc.alloc (.cells #[.int .i64 3, .int .i64 c'.req, .string c'.call, .int .i64 c'.try_, .bool c'.idem, .bool c'.shadow, .int .i64 c'.dl, .int .i64 c'.purse, .int .i64 c'.ver, .int .i64 c'.prio, .bool false, .int .i64 3] 40)).drew = WA := ⟨_, rfl⟩
          have bA : Below wc.heap.size wc WA := by rw [← hWA]; exact ((Below.refl _ _).alloc (Nat.le_refl _) _).drew
          have zA : WA.heap[wc.heap.size]? = some (.cells (ouCells ⟨3, c', false, 3⟩).toArray 40 (0, 0)) := by rw [← hWA]; exact heap_alloc_new wc _
          obtain ⟨la, lc, ob, W9, happ, hrow, hg9, hob⟩ := (ouK.nil WA).push rfl (by simp) zA 1
          have b9 : Below wc.heap.size wc W9 := btrans bA ((Fr.ofGrown (F := fun _ => False) hg9 (fun k e => by cases e)).toBelow fun _ _ h => h)
          have h9 := h8.below b9
          have k2 : W9.cell? ⟨sb, 2, none⟩ = some (.map (some D'.mb)) := h9.cell rfl
          have kx : W9.cell? ⟨X, 0, none⟩ = some (.int .i64 y1) := bkeep b9 (block_cell hx 0 _ rfl)
          obtain ⟨W10, hdel, hm10, hg10⟩ := run_delete_at (w := W9.drew) (int_law Tryd.underlying3) (h9.below ((Below.refl _ _).drew)).m Tryd.underlying59 3 0 y1
          rw [hmd] at hm10
          obtain ⟨h10, m10⟩ := (h9.below ((Below.refl _ _).drew)).waits hm10 hg10
          have hOut : OutAt w W10 { D' with mm := mm' } (.slice la 1 lc) [⟨3, c', false, 3⟩] := by
            have hob' : ob = some WA.heap.size := hob.resolve_left fun e => by
              rw [e] at hrow; have := hrow.2.2; simp at this
            have hwA : w.heap.size ≤ WA.heap.size := Nat.le_trans M8.out.1.size bA.size
            have hlt9 := hrow.lt _ hob'
            refine OutAt.mv (w1 := W9.drew) (D1 := D') ⟨ob, hrow.below ((Below.refl _ _).drew), fun g e => ?_⟩ m10
            rw [hob'] at e; cases e
            refine ⟨hwA, Classical.byContradiction fun hne => ?_⟩
            have := h8.lt _ hne; have := bA.size; omega
          have HF : Hid (ComePost w sb hz now s c k D (.returned (.tuple #[.slice la 1 lc, .bool true])) W10) := ⟨_, _, _, true, rfl, h10, ok', (M8.out.below (btrans b9 ((Below.refl _ _).drew))).trans m10, hOut, cr⟩
          have HBA := Lib.hid bA
          clear hx hX0 hXs h8 m8 hp ok' cr hnd hc' hmd bA zA hrow hg9 hob b9 h9 hm10 hg10 h10 m10 hOut
          go_wp2_with fail
          refine wp_region_split_held 11 (fun W => W.cell? ⟨sb, 2, none⟩ = some (.map (some D'.mb)) ∧ W.cell? ⟨X, 0, none⟩ = some (.int .i64 y1) ∧ (Instr.lookup 59 (.map (some D'.mb)) (.int .i64 y1) false).run Tryd.prog W = .ok (.agg #[.int .i64 c'.req, .string c'.call, .int .i64 c'.try_, .bool c'.idem, .bool c'.shadow, .int .i64 c'.dl, .int .i64 c'.purse, .int .i64 c'.ver, .int .i64 c'.prio]) W) (by kernel_rfl) (by kernel_rfl) (HL.out _ (Below.refl _ _).drew) (fun K0 hK0 hHeld => ?_)
          simp only [List.take_succ_cons, List.take_zero]
          refine wpAnyH_take (i := 0) (v := ?_) rfl (by kernel_rfl) (by kernel_rfl) (by kernel_rfl) (fun _ _ _ h => h) (Or.inl ⟨by kernel_rfl, ?_⟩) (by assumption) ?_
          rotate_left
          · (intro w hSw; (try dsimp only at hSw); go_simp; (try rw [if_neg (by (try simp only [ByteArray.size_append]); omega)]); (try with_reducible rfl))
          try simp only [Act.put]
          refine wpAnyH_take (i := 1) (v := ?_) rfl (by kernel_rfl) (by kernel_rfl) (by kernel_rfl) (fun _ _ _ h => h) (Or.inl ⟨by kernel_rfl, ?_⟩) (by assumption) ?_
          rotate_left
          · (intro w hSw; (try dsimp only at hSw); go_simp; (try rw [if_neg (by (try simp only [ByteArray.size_append]); omega)]); (try with_reducible rfl))
          try simp only [Act.put]
          refine wpAnyH_take (i := 2) (v := ?_) rfl (by kernel_rfl) (by kernel_rfl) (by kernel_rfl) (fun _ _ _ h => h) (Or.inl ⟨by kernel_rfl, ?_⟩) (by assumption) ?_
          rotate_left
          · (intro w hSw; (try dsimp only at hSw); go_simp; (try rw [if_neg (by (try simp only [ByteArray.size_append]); omega)]); (try with_reducible rfl))
          try simp only [Act.put]
          refine wpAnyH_take (i := 3) (v := ?_) rfl (by kernel_rfl) (by kernel_rfl) (by kernel_rfl) (fun _ _ _ h => h) (Or.inl ⟨by kernel_rfl, ?_⟩) (by assumption) ?_
          rotate_left
          · (intro w hSw; (try dsimp only at hSw); go_simp; (try rw [if_neg (by (try simp only [ByteArray.size_append]); omega)]); (try with_reducible rfl))
          try simp only [Act.put]
          refine wpAnyH_take (i := 4) (v := ?_) rfl (by kernel_rfl) (by kernel_rfl) (by kernel_rfl) (fun _ _ _ h => h) (Or.inl ⟨by kernel_rfl, ?_⟩) (by assumption) ?_
          rotate_left
          · (intro w hSw; (try dsimp only at hSw); go_simp; (try rw [if_neg (by (try simp only [ByteArray.size_append]); omega)]); (try with_reducible rfl))
          try simp only [Act.put]
          refine wpAnyH_take (i := 5) (v := ?_) rfl (by kernel_rfl) (by kernel_rfl) (by kernel_rfl) (fun _ _ _ h => h) (Or.inl ⟨by kernel_rfl, ?_⟩) (by assumption) ?_
          rotate_left
          · (intro w hSw; (try dsimp only at hSw); go_simp; (try rw [if_neg (by (try simp only [ByteArray.size_append]); omega)]); (try with_reducible rfl))
          try simp only [Act.put]
          refine wpAnyH_take (i := 6) (v := ?_) rfl (by kernel_rfl) (by kernel_rfl) (by kernel_rfl) (fun _ _ _ h => h) (Or.inl ⟨by kernel_rfl, ?_⟩) (by assumption) ?_
          rotate_left
          · (intro w hSw; (try dsimp only at hSw); go_simp; (try rw [if_neg (by (try simp only [ByteArray.size_append]); omega)]); (try with_reducible rfl))
          try simp only [Act.put]
          refine wpAnyH_take (i := 7) (v := ?_) rfl (by kernel_rfl) (by kernel_rfl) (by kernel_rfl) (fun _ _ _ h => h) (Or.inl ⟨by kernel_rfl, ?_⟩) (by assumption) ?_
          rotate_left
          · (intro w hSw; (try dsimp only at hSw); go_simp; (try rw [if_neg (by (try simp only [ByteArray.size_append]); omega)]); (try with_reducible rfl))
          try simp only [Act.put]
          refine wpAnyH_take (i := 8) (v := ?_) rfl (by kernel_rfl) (by kernel_rfl) (by kernel_rfl) (fun _ _ _ h => h) (Or.inl ⟨by kernel_rfl, ?_⟩) (by assumption) ?_
          rotate_left
          · (intro w hSw; (try dsimp only at hSw); go_simp; (try rw [if_neg (by (try simp only [ByteArray.size_append]); omega)]); (try with_reducible rfl))
          try simp only [Act.put]
          refine wpAnyH_take (i := 9) (v := ?_) rfl (by kernel_rfl) (by kernel_rfl) (by kernel_rfl) (fun _ _ _ h => h) (Or.inl ⟨by kernel_rfl, ?_⟩) (by assumption) ?_
          rotate_left
          · (intro w hSw; (try dsimp only at hSw); go_simp; (try rw [if_neg (by (try simp only [ByteArray.size_append]); omega)]); (try with_reducible rfl))
          try simp only [Act.put]
          refine wpAnyH_ready (rs := [10]) (by kernel_rfl) (by simp) ?_
          refine AllReadyH.cons rfl (fun K hK => ?_) AllReadyH.nil
          go_simp
          refine hK.out _ _ (HL.out _ HBA.out) (fun hHeld => ?_)
          clear hK K
          try simp only [Act.put]
          refine wpAnyH_done (by kernel_rfl) ?_ _
          simp only [Exit.then]
          refine hK0 _ _ ?_
          clear hK0 K0 hHeld
          try simp only [Act.put]
          refine wpList_run (by rfl) (exec_append _ _ _ _ (by rfl) _ _ (by rfl) (by rfl) happ) ?_
          go_wp2_with fail
          refine wp_region_split_held 7 (fun W => W.cell? ⟨sb, 2, none⟩ = some (.map (some D'.mb)) ∧ W.cell? ⟨X, 0, none⟩ = some (.int .i64 y1)) (by kernel_rfl) (by kernel_rfl) ⟨k2, kx⟩ (fun K0 hK0 hHeld => ?_)
          simp only [List.take_succ_cons, List.take_zero]
          refine wpAnyH_take (i := 0) (v := ?_) rfl (by kernel_rfl) (by kernel_rfl) (by kernel_rfl) (fun _ _ _ h => h) (Or.inl ⟨by kernel_rfl, ?_⟩) (by assumption) ?_
          rotate_left
          · (intro w hSw; (try dsimp only at hSw); go_simp; (try rw [if_neg (by (try simp only [ByteArray.size_append]); omega)]); (try with_reducible rfl))
          try simp only [Act.put]
          refine wpAnyH_take (i := 1) (v := ?_) rfl (by kernel_rfl) (by kernel_rfl) (by kernel_rfl) (fun _ _ _ h => h) (Or.inl ⟨by kernel_rfl, ?_⟩) (by assumption) ?_
          rotate_left
          · (intro w hSw; (try dsimp only at hSw); go_simp; (try rw [if_neg (by (try simp only [ByteArray.size_append]); omega)]); (try with_reducible rfl))
          try simp only [Act.put]
          refine wpAnyH_take (i := 2) (v := ?_) rfl (by kernel_rfl) (by kernel_rfl) (by kernel_rfl) (fun _ _ _ h => h) (Or.inl ⟨by kernel_rfl, ?_⟩) (by assumption) ?_
          rotate_left
          · (intro w hSw; (try dsimp only at hSw); go_simp; (try rw [if_neg (by (try simp only [ByteArray.size_append]); omega)]); (try with_reducible rfl))
          try simp only [Act.put]
          refine wpAnyH_take (i := 3) (v := ?_) rfl (by kernel_rfl) (by kernel_rfl) (by kernel_rfl) (fun _ _ _ h => h) (Or.inl ⟨by kernel_rfl, ?_⟩) (by assumption) ?_
          rotate_left
          · (intro w hSw; (try dsimp only at hSw); go_simp; (try rw [if_neg (by (try simp only [ByteArray.size_append]); omega)]); (try with_reducible rfl))
          try simp only [Act.put]
          refine wpAnyH_take (i := 4) (v := ?_) rfl (by kernel_rfl) (by kernel_rfl) (by kernel_rfl) (fun _ _ _ h => h) (Or.inl ⟨by kernel_rfl, ?_⟩) (by assumption) ?_
          rotate_left
          · (intro w hSw; (try dsimp only at hSw); go_simp; (try rw [if_neg (by (try simp only [ByteArray.size_append]); omega)]); (try with_reducible rfl))
          try simp only [Act.put]
          refine wpAnyH_take (i := 5) (v := ?_) rfl (by kernel_rfl) (by kernel_rfl) (by kernel_rfl) (fun _ _ _ h => h) (Or.inl ⟨by kernel_rfl, ?_⟩) (by assumption) ?_
          rotate_left
          · (intro w hSw; (try dsimp only at hSw); go_simp; (try rw [if_neg (by (try simp only [ByteArray.size_append]); omega)]); (try with_reducible rfl))
          try simp only [Act.put]
          refine wpAnyH_take (i := 6) (v := ?_) rfl (by kernel_rfl) (by kernel_rfl) (by kernel_rfl) (fun _ _ _ h => h) (Or.inl ⟨by kernel_rfl, ?_⟩) (by assumption) ?_
          rotate_left
          · (intro w hSw; (try dsimp only at hSw); go_simp; (try rw [if_neg (by (try simp only [ByteArray.size_append]); omega)]); (try with_reducible rfl))
          try simp only [Act.put]
          refine wpAnyH_done (by kernel_rfl) ?_ _
          simp only [Exit.then]
          refine hK0 _ _ ?_
          clear hK0 K0 hHeld
          try simp only [Act.put]
          go_wp2_with fail
          exact bodyPost_ret (v := .tuple #[.slice la 1 lc, .bool true]) (by simp [results, Tryd.results13, go_sem]) rfl HF.out

end Go.Proofs.YtchjlkfkfcmhlaaDoor
