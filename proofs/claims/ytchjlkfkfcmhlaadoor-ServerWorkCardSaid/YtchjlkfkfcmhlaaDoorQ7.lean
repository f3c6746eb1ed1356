/- A server: whether what it worked at takes effect; A server: what comes (plain part). -/
import Derived.Test.YtchjlkfkfcmhlaaDoorQ6
namespace Go.Proofs.YtchjlkfkfcmhlaaDoor
open Go.RowKit
attribute [local go_sem ↓] Go.wp_at_zero Go.wp_at_succ

/-! A server: whether what it worked at takes effect. -/

/-- The library's number stands where it stood, and is not the server's. -/
def Glob (w : World) (D : SD) : Prop := MaxLenAt w ∧ D.who (Tryd.lays146_ren.g 1) = 0
theorem Glob.mv {w w' : World} {D D' : SD} (h : Glob w D) (k : Mv w D w' D') : Glob w' D' := by
  have hl := h.1.lt
  obtain ⟨⟨m, hm⟩, h0⟩ := h
  refine ⟨⟨m, k.1.cell hm (by intro e; exact e h0)⟩, Classical.byContradiction fun hne => ?_⟩
  rcases k.2 _ hne with e | e
  · exact e h0
  · omega

def EffR (hz now : Int) (c : Cx) (D : SD) (b : Bool) (D' : SD) : Prop :=
  ∃ E' kt' who', D' = { D with eff := E', kt := kt', who := who' } ∧ kt' ≤ D.kt + 1 ∧
    ((b = false ∧ E' = D.eff ∧ (c.shadow = true ∨ ∃ p ∈ D.eff, p.1 = keyOf c.call)) ∨ (b = true ∧ c.shadow = false ∧ c.idem = true ∧ E' = D.eff) ∨
      (b = true ∧ c.shadow = false ∧ c.idem = false ∧ E' = (keyOf c.call, now) :: D.eff ∧ ∀ p ∈ D.eff, p.1 = keyOf c.call → hz ≤ now - p.2))
def EffPost (w : World) (sb : Nat) (hz now : Int) (s : Sv) (c : Cx) (D : SD) (e : Ending) (w' : World) : Prop :=
  ∃ b D', e = .returned (.bool b) ∧ SR w' sb hz s now D' ∧ Mv w D w' D' ∧ EffR hz now c D b D'

set_option maxRecDepth 8000 in
set_option maxHeartbeats 4000000 in
theorem effect_any {w : World} {sb : Nat} {hz now : Int} {s : Sv} {D : SD} (h : SR w sb hz s now D) (hG : Glob w D) (c : Cx) (hc : c.call.size ≤ 1000000) (hn : 0 ≤ now ∧ now ≤ 1000000) (hK : D.kt ≤ 900) (hz1 : 1 ≤ hz) :
    Calls Tryd.prog 42 #[.pointer (some ⟨sb, 0, none⟩), .int .i64 now, cxV c] w (EffPost w sb hz now s c D) := by
  have HK := Lib.hid (fun w hL => key_any c hc w hL)
  have HP : Hid (∀ W, SR W sb hz s now D → Calls Tryd.prog 57 #[.pointer (some ⟨D.tb, 0, none⟩), .int .i64 now, .string (keyOf c.call)] W (PutE W D.tb hz now (keyOf c.call) D.eff D.kt (fun b => D.who b = 3))) :=
    fun W hW => tput_e hW.t hn hK hz1 (keyOf c.call)
  obtain ⟨W1, hW1⟩ : ∃ W1, w.alloc (.cells (cxCells c).toArray 31) = W1 := ⟨_, rfl⟩
  have n1 : W1.heap[w.heap.size]? = some (.cells (cxCells c).toArray 31 (0, 0)) := by rw [← hW1]; exact heap_alloc_new w _
  have b1 : Below w.heap.size w W1 := by rw [← hW1]; exact (Below.refl _ _).alloc (Nat.le_refl _) _
  have z1 : w.heap.size < W1.heap.size := by rw [← hW1]; simp
  have h1 := h.below b1
  have c13 : ∀ W, Below W1.heap.size W1 W → W.cell? ⟨sb, 13, none⟩ = some (.pointer (some ⟨D.tb, 0, none⟩)) := fun W hb => (h1.below hb).cell rfl
  have HS : Hid (∀ W, Below W1.heap.size W1 W → (W.cell? ⟨w.heap.size, 4, none⟩ = some (.bool c.shadow) ∧ W.cell? ⟨w.heap.size, 3, none⟩ = some (.bool c.idem) ∧ W.cell? ⟨sb, 13, none⟩ = some (.pointer (some ⟨D.tb, 0, none⟩)) ∧ W.heap[w.heap.size]? = some (.cells (cxCells c).toArray 31 (0, 0)))) :=
    fun W hb => ⟨bkeep hb (block_cell n1 4 _ rfl), bkeep hb (block_cell n1 3 _ rfl), c13 W hb, (hb.block _ z1).trans n1⟩
  have HB1 := Lib.hid b1
  have HH := Lib.hid h
  have HH1 := Lib.hid h1
  have HG := Lib.hid hG
  have HZ1 := Lib.hid z1
  have HCX : Hid (cxV c = .agg (cxCells c).toArray) := rfl
  clear n1 b1 h1 h hG c13 hn hc hK hz1 z1
  cases hs : c.shadow with
  | true =>
    rw [hs] at HS
    have HF : Hid (∀ W, Below W1.heap.size W1 W → EffPost w sb hz now s c D (.returned (.bool false)) W) := fun W hb =>
      ⟨false, D, rfl, HH1.out.below hb, (Mv.refl w D).below (btrans HB1.out hb), D.eff, D.kt, D.who, rfl, Nat.le_succ _, .inl ⟨rfl, rfl, .inl hs⟩⟩
    rw [HCX.out]
    unfold cxCells at hW1
    unfold cxCells
    rw [hs] at hW1 ⊢
    have HSH := Lib.hid hs
    clear hs
    go_enter Tryd.func42, Tryd.ntmps42
    go_wp2_with fail
    clear hW1
    refine wp_region_held_drew (S := fun W => W.cell? ⟨w.heap.size, 4, none⟩ = some (.bool true) ∧ W.cell? ⟨w.heap.size, 3, none⟩ = some (.bool c.idem) ∧ W.cell? ⟨sb, 13, none⟩ = some (.pointer (some ⟨D.tb, 0, none⟩)) ∧ W.heap[w.heap.size]? = some (.cells (cxCells c).toArray 31 (0, 0))) (by kernel_rfl) (HS.out _ (Below.refl _ _).drew) (fun hHeld => ?_)
    refine wpAnyH_take (i := 0) (v := ?_) rfl (by kernel_rfl) (by kernel_rfl) (by kernel_rfl) (fun _ _ _ h => h) (Or.inl ⟨by kernel_rfl, ?_⟩) (by assumption) ?_
    rotate_left
    · (intro w hSw; (try dsimp only at hSw); go_simp; (try rw [if_neg (by (try simp only [ByteArray.size_append]); omega)]); (try with_reducible rfl))
    try simp only [Act.put]
    refine wpAnyH_take (i := 1) (v := ?_) rfl (by kernel_rfl) (by kernel_rfl) (by kernel_rfl) (fun _ _ _ h => h) (Or.inl ⟨by kernel_rfl, ?_⟩) (by assumption) ?_
    rotate_left
    · (intro w hSw; (try dsimp only at hSw); go_simp; (try rw [if_neg (by (try simp only [ByteArray.size_append]); omega)]); (try with_reducible rfl))
    try simp only [Act.put]
    refine wpAnyH_take (i := 2) (v := ?_) rfl (by kernel_rfl) (by kernel_rfl) (by kernel_rfl) (fun _ _ _ h => h) (Or.inl ⟨by kernel_rfl, ?_⟩) (by assumption) ?_
    rotate_left
    · (intro w hSw; (try dsimp only at hSw); go_simp; (try rw [if_neg (by (try simp only [ByteArray.size_append]); omega)]); (try with_reducible rfl))
    try simp only [Act.put]
    refine wpAnyH_take (i := 3) (v := ?_) rfl (by kernel_rfl) (by kernel_rfl) (by kernel_rfl) (fun _ _ _ h => h) (Or.inl ⟨by kernel_rfl, ?_⟩) (by assumption) ?_
    rotate_left
    · (intro w hSw; (try dsimp only at hSw); go_simp; (try rw [if_neg (by (try simp only [ByteArray.size_append]); omega)]); (try with_reducible rfl))
    try simp only [Act.put]
    refine wpAnyH_take (i := 4) (v := undef) rfl (by kernel_rfl) (by kernel_rfl) (by kernel_rfl) (fun _ _ _ h => h) (Or.inr ⟨by kernel_rfl, rfl⟩) (by assumption) ?_
    try simp only [Act.put]
    refine wpAnyH_take (i := 5) (v := undef) rfl (by kernel_rfl) (by kernel_rfl) (by kernel_rfl) (fun _ _ _ h => h) (Or.inr ⟨by kernel_rfl, rfl⟩) (by assumption) ?_
    try simp only [Act.put]
    refine wpAnyH_take (i := 6) (v := undef) rfl (by kernel_rfl) (by kernel_rfl) (by kernel_rfl) (fun _ _ _ h => h) (Or.inr ⟨by kernel_rfl, rfl⟩) (by assumption) ?_
    try simp only [Act.put]
    refine wpAnyH_take (i := 7) (v := undef) rfl (by kernel_rfl) (by kernel_rfl) (by kernel_rfl) (fun _ _ _ h => h) (Or.inr ⟨by kernel_rfl, rfl⟩) (by assumption) ?_
    try simp only [Act.put]
    refine wpAnyH_take (i := 8) (v := undef) rfl (by kernel_rfl) (by kernel_rfl) (by kernel_rfl) (fun _ _ _ h => h) (Or.inr ⟨by kernel_rfl, rfl⟩) (by assumption) ?_
    try simp only [Act.put]
    refine wpAnyH_take (i := 9) (v := undef) rfl (by kernel_rfl) (by kernel_rfl) (by kernel_rfl) (fun _ _ _ h => h) (Or.inr ⟨by kernel_rfl, rfl⟩) (by assumption) ?_
    try simp only [Act.put]
    refine wpAnyH_take (i := 10) (v := undef) rfl (by kernel_rfl) (by kernel_rfl) (by kernel_rfl) (fun _ _ _ h => h) (Or.inr ⟨by kernel_rfl, rfl⟩) (by assumption) ?_
    try simp only [Act.put]
    refine wpAnyH_take (i := 11) (v := undef) rfl (by kernel_rfl) (by kernel_rfl) (by kernel_rfl) (fun _ _ _ h => h) (Or.inr ⟨by kernel_rfl, rfl⟩) (by assumption) ?_
    try simp only [Act.put]
    refine wpAnyH_take (i := 12) (v := undef) rfl (by kernel_rfl) (by kernel_rfl) (by kernel_rfl) (fun _ _ _ h => h) (Or.inr ⟨by kernel_rfl, rfl⟩) (by assumption) ?_
    try simp only [Act.put]
    refine wpAnyH_take (i := 13) (v := undef) rfl (by kernel_rfl) (by kernel_rfl) (by kernel_rfl) (fun _ _ _ h => h) (Or.inr ⟨by kernel_rfl, rfl⟩) (by assumption) ?_
    try simp only [Act.put]
    refine wpAnyH_take (i := 14) (v := undef) rfl (by kernel_rfl) (by kernel_rfl) (by kernel_rfl) (fun _ _ _ h => h) (Or.inr ⟨by kernel_rfl, rfl⟩) (by assumption) ?_
    try simp only [Act.put]
    refine wpAnyH_take (i := 15) (v := undef) rfl (by kernel_rfl) (by kernel_rfl) (by kernel_rfl) (fun _ _ _ h => h) (Or.inr ⟨by kernel_rfl, rfl⟩) (by assumption) ?_
    try simp only [Act.put]
    refine wpAnyH_take (i := 16) (v := ?_) rfl (by kernel_rfl) (by kernel_rfl) (by kernel_rfl) (fun _ _ _ h => h) (Or.inl ⟨by kernel_rfl, ?_⟩) (by assumption) ?_
    rotate_left
    · (intro w hSw; (try dsimp only at hSw); go_simp; (try rw [if_neg (by (try simp only [ByteArray.size_append]); omega)]); (try with_reducible rfl))
    try simp only [Act.put]
    refine wpAnyH_take (i := 17) (v := ?_) rfl (by kernel_rfl) (by kernel_rfl) (by kernel_rfl) (fun _ _ _ h => h) (Or.inl ⟨by kernel_rfl, ?_⟩) (by assumption) ?_
    rotate_left
    · (intro w hSw; (try dsimp only at hSw); go_simp; (try rw [if_neg (by (try simp only [ByteArray.size_append]); omega)]); (try with_reducible rfl))
    try simp only [Act.put]
    refine wpAnyH_done (by kernel_rfl) ?_ _
    try simp only [Act.put]
    clear hHeld
    go_simp
    go_wp2_with fail
    go_ret
    exact HF.out _ (Below.refl _ _).drew
  | false =>
    rw [hs] at HS
    cases hi : c.idem with
    | true =>
      rw [hi] at HS
      have HF : Hid (∀ W, Below W1.heap.size W1 W → EffPost w sb hz now s c D (.returned (.bool true)) W) := fun W hb =>
        ⟨true, D, rfl, HH1.out.below hb, (Mv.refl w D).below (btrans HB1.out hb), D.eff, D.kt, D.who, rfl, Nat.le_succ _, .inr (.inl ⟨rfl, hs, hi, rfl⟩)⟩
      rw [HCX.out]
      unfold cxCells at hW1
      unfold cxCells
      rw [hs, hi] at hW1 ⊢
      have HSH := Lib.hid hs
      have HIH := Lib.hid hi
      clear hs hi
      go_enter Tryd.func42, Tryd.ntmps42
      go_wp2_with fail
      clear hW1
      refine wp_region_held_drew (S := fun W => W.cell? ⟨w.heap.size, 4, none⟩ = some (.bool false) ∧ W.cell? ⟨w.heap.size, 3, none⟩ = some (.bool true) ∧ W.cell? ⟨sb, 13, none⟩ = some (.pointer (some ⟨D.tb, 0, none⟩)) ∧ W.heap[w.heap.size]? = some (.cells (cxCells c).toArray 31 (0, 0))) (by kernel_rfl) (HS.out _ (Below.refl _ _).drew) (fun hHeld => ?_)
      refine wpAnyH_take (i := 0) (v := ?_) rfl (by kernel_rfl) (by kernel_rfl) (by kernel_rfl) (fun _ _ _ h => h) (Or.inl ⟨by kernel_rfl, ?_⟩) (by assumption) ?_
      rotate_left
      · (intro w hSw; (try dsimp only at hSw); go_simp; (try rw [if_neg (by (try simp only [ByteArray.size_append]); omega)]); (try with_reducible rfl))
      try simp only [Act.put]
      refine wpAnyH_take (i := 1) (v := ?_) rfl (by kernel_rfl) (by kernel_rfl) (by kernel_rfl) (fun _ _ _ h => h) (Or.inl ⟨by kernel_rfl, ?_⟩) (by assumption) ?_
      rotate_left
      · (intro w hSw; (try dsimp only at hSw); go_simp; (try rw [if_neg (by (try simp only [ByteArray.size_append]); omega)]); (try with_reducible rfl))
      try simp only [Act.put]
      refine wpAnyH_take (i := 2) (v := ?_) rfl (by kernel_rfl) (by kernel_rfl) (by kernel_rfl) (fun _ _ _ h => h) (Or.inl ⟨by kernel_rfl, ?_⟩) (by assumption) ?_
      rotate_left
      · (intro w hSw; (try dsimp only at hSw); go_simp; (try rw [if_neg (by (try simp only [ByteArray.size_append]); omega)]); (try with_reducible rfl))
      try simp only [Act.put]
      refine wpAnyH_take (i := 3) (v := ?_) rfl (by kernel_rfl) (by kernel_rfl) (by kernel_rfl) (fun _ _ _ h => h) (Or.inl ⟨by kernel_rfl, ?_⟩) (by assumption) ?_
      rotate_left
      · (intro w hSw; (try dsimp only at hSw); go_simp; (try rw [if_neg (by (try simp only [ByteArray.size_append]); omega)]); (try with_reducible rfl))
      try simp only [Act.put]
      refine wpAnyH_take (i := 4) (v := ?_) rfl (by kernel_rfl) (by kernel_rfl) (by kernel_rfl) (fun _ _ _ h => h) (Or.inl ⟨by kernel_rfl, ?_⟩) (by assumption) ?_
      rotate_left
      · (intro w hSw; (try dsimp only at hSw); go_simp; (try rw [if_neg (by (try simp only [ByteArray.size_append]); omega)]); (try with_reducible rfl))
      try simp only [Act.put]
      refine wpAnyH_take (i := 5) (v := ?_) rfl (by kernel_rfl) (by kernel_rfl) (by kernel_rfl) (fun _ _ _ h => h) (Or.inl ⟨by kernel_rfl, ?_⟩) (by assumption) ?_
      rotate_left
      · (intro w hSw; (try dsimp only at hSw); go_simp; (try rw [if_neg (by (try simp only [ByteArray.size_append]); omega)]); (try with_reducible rfl))
      try simp only [Act.put]
      refine wpAnyH_take (i := 6) (v := ?_) rfl (by kernel_rfl) (by kernel_rfl) (by kernel_rfl) (fun _ _ _ h => h) (Or.inl ⟨by kernel_rfl, ?_⟩) (by assumption) ?_
      rotate_left
      · (intro w hSw; (try dsimp only at hSw); go_simp; (try rw [if_neg (by (try simp only [ByteArray.size_append]); omega)]); (try with_reducible rfl))
      try simp only [Act.put]
      refine wpAnyH_take (i := 7) (v := undef) rfl (by kernel_rfl) (by kernel_rfl) (by kernel_rfl) (fun _ _ _ h => h) (Or.inr ⟨by kernel_rfl, rfl⟩) (by assumption) ?_
      try simp only [Act.put]
      refine wpAnyH_take (i := 8) (v := undef) rfl (by kernel_rfl) (by kernel_rfl) (by kernel_rfl) (fun _ _ _ h => h) (Or.inr ⟨by kernel_rfl, rfl⟩) (by assumption) ?_
      try simp only [Act.put]
      refine wpAnyH_take (i := 9) (v := undef) rfl (by kernel_rfl) (by kernel_rfl) (by kernel_rfl) (fun _ _ _ h => h) (Or.inr ⟨by kernel_rfl, rfl⟩) (by assumption) ?_
      try simp only [Act.put]
      refine wpAnyH_take (i := 10) (v := undef) rfl (by kernel_rfl) (by kernel_rfl) (by kernel_rfl) (fun _ _ _ h => h) (Or.inr ⟨by kernel_rfl, rfl⟩) (by assumption) ?_
      try simp only [Act.put]
      refine wpAnyH_take (i := 11) (v := undef) rfl (by kernel_rfl) (by kernel_rfl) (by kernel_rfl) (fun _ _ _ h => h) (Or.inr ⟨by kernel_rfl, rfl⟩) (by assumption) ?_
      try simp only [Act.put]
      refine wpAnyH_take (i := 12) (v := undef) rfl (by kernel_rfl) (by kernel_rfl) (by kernel_rfl) (fun _ _ _ h => h) (Or.inr ⟨by kernel_rfl, rfl⟩) (by assumption) ?_
      try simp only [Act.put]
      refine wpAnyH_take (i := 13) (v := undef) rfl (by kernel_rfl) (by kernel_rfl) (by kernel_rfl) (fun _ _ _ h => h) (Or.inr ⟨by kernel_rfl, rfl⟩) (by assumption) ?_
      try simp only [Act.put]
      refine wpAnyH_take (i := 14) (v := undef) rfl (by kernel_rfl) (by kernel_rfl) (by kernel_rfl) (fun _ _ _ h => h) (Or.inr ⟨by kernel_rfl, rfl⟩) (by assumption) ?_
      try simp only [Act.put]
      refine wpAnyH_take (i := 15) (v := ?_) rfl (by kernel_rfl) (by kernel_rfl) (by kernel_rfl) (fun _ _ _ h => h) (Or.inl ⟨by kernel_rfl, ?_⟩) (by assumption) ?_
      rotate_left
      · (intro w hSw; (try dsimp only at hSw); go_simp; (try rw [if_neg (by (try simp only [ByteArray.size_append]); omega)]); (try with_reducible rfl))
      try simp only [Act.put]
      refine wpAnyH_take (i := 16) (v := ?_) rfl (by kernel_rfl) (by kernel_rfl) (by kernel_rfl) (fun _ _ _ h => h) (Or.inl ⟨by kernel_rfl, ?_⟩) (by assumption) ?_
      rotate_left
      · (intro w hSw; (try dsimp only at hSw); go_simp; (try rw [if_neg (by (try simp only [ByteArray.size_append]); omega)]); (try with_reducible rfl))
      try simp only [Act.put]
      refine wpAnyH_take (i := 17) (v := ?_) rfl (by kernel_rfl) (by kernel_rfl) (by kernel_rfl) (fun _ _ _ h => h) (Or.inl ⟨by kernel_rfl, ?_⟩) (by assumption) ?_
      rotate_left
      · (intro w hSw; (try dsimp only at hSw); go_simp; (try rw [if_neg (by (try simp only [ByteArray.size_append]); omega)]); (try with_reducible rfl))
      try simp only [Act.put]
      refine wpAnyH_done (by kernel_rfl) ?_ _
      try simp only [Act.put]
      clear hHeld
      go_simp
      go_wp2_with fail
      go_ret
      exact HF.out _ (Below.refl _ _).drew
    | false =>
      rw [hi] at HS
      have HF : Hid (∀ W W' b E' kt' fp, Below W1.heap.size W1 W → TW W' D.tb hz E' now kt' fp → (∀ b, fp b → D.who b = 3 ∨ W.heap.size ≤ b) → Fr (fun b => D.who b = 3) W W' → kt' ≤ D.kt + 1 → ((b = false ∧ E' = D.eff ∧ ∃ p ∈ D.eff, p.1 = keyOf c.call) ∨ (b = true ∧ E' = (keyOf c.call, now) :: D.eff ∧ ∀ p ∈ D.eff, p.1 = keyOf c.call → hz ≤ now - p.2)) → EffPost w sb hz now s c D (.returned (.bool b)) W') := fun W W' b E' kt' fp hb ht hfp hf hk hE => by
        obtain ⟨g1, g2⟩ := (HH1.out.below hb).table ht hfp hf
        refine ⟨b, _, rfl, g1, Mv.trans ((Mv.refl w D).below (btrans HB1.out hb)) g2, E', kt', _, rfl, hk, ?_⟩
        rcases hE with ⟨e1, e2, e3⟩ | ⟨e1, e2, e3⟩
        · exact .inl ⟨e1, e2, .inr e3⟩
        · exact .inr (.inr ⟨e1, hs, hi, e2, e3⟩)
      rw [HCX.out]
      unfold cxCells at hW1
      unfold cxCells
      rw [hs, hi] at hW1 ⊢
      have HSH := Lib.hid hs
      have HIH := Lib.hid hi
      clear hs hi
      go_enter Tryd.func42, Tryd.ntmps42
      go_wp2_with fail
      clear hW1
      refine wp_region_held_drew (S := fun W => W.cell? ⟨w.heap.size, 4, none⟩ = some (.bool false) ∧ W.cell? ⟨w.heap.size, 3, none⟩ = some (.bool false) ∧ W.cell? ⟨sb, 13, none⟩ = some (.pointer (some ⟨D.tb, 0, none⟩)) ∧ W.heap[w.heap.size]? = some (.cells (cxCells c).toArray 31 (0, 0))) (by kernel_rfl) (HS.out _ (Below.refl _ _).drew) (fun hHeld => ?_)
      refine wpAnyH_take (i := 0) (v := ?_) rfl (by kernel_rfl) (by kernel_rfl) (by kernel_rfl) (fun _ _ _ h => h) (Or.inl ⟨by kernel_rfl, ?_⟩) (by assumption) ?_
      rotate_left
      · (intro w hSw; (try dsimp only at hSw); go_simp; (try rw [if_neg (by (try simp only [ByteArray.size_append]); omega)]); (try with_reducible rfl))
      try simp only [Act.put]
      refine wpAnyH_take (i := 1) (v := ?_) rfl (by kernel_rfl) (by kernel_rfl) (by kernel_rfl) (fun _ _ _ h => h) (Or.inl ⟨by kernel_rfl, ?_⟩) (by assumption) ?_
      rotate_left
      · (intro w hSw; (try dsimp only at hSw); go_simp; (try rw [if_neg (by (try simp only [ByteArray.size_append]); omega)]); (try with_reducible rfl))
      try simp only [Act.put]
      refine wpAnyH_take (i := 2) (v := ?_) rfl (by kernel_rfl) (by kernel_rfl) (by kernel_rfl) (fun _ _ _ h => h) (Or.inl ⟨by kernel_rfl, ?_⟩) (by assumption) ?_
      rotate_left
      · (intro w hSw; (try dsimp only at hSw); go_simp; (try rw [if_neg (by (try simp only [ByteArray.size_append]); omega)]); (try with_reducible rfl))
      try simp only [Act.put]
      refine wpAnyH_take (i := 3) (v := ?_) rfl (by kernel_rfl) (by kernel_rfl) (by kernel_rfl) (fun _ _ _ h => h) (Or.inl ⟨by kernel_rfl, ?_⟩) (by assumption) ?_
      rotate_left
      · (intro w hSw; (try dsimp only at hSw); go_simp; (try rw [if_neg (by (try simp only [ByteArray.size_append]); omega)]); (try with_reducible rfl))
      try simp only [Act.put]
      refine wpAnyH_take (i := 4) (v := ?_) rfl (by kernel_rfl) (by kernel_rfl) (by kernel_rfl) (fun _ _ _ h => h) (Or.inl ⟨by kernel_rfl, ?_⟩) (by assumption) ?_
      rotate_left
      · (intro w hSw; (try dsimp only at hSw); go_simp; (try rw [if_neg (by (try simp only [ByteArray.size_append]); omega)]); (try with_reducible rfl))
      try simp only [Act.put]
      refine wpAnyH_take (i := 5) (v := ?_) rfl (by kernel_rfl) (by kernel_rfl) (by kernel_rfl) (fun _ _ _ h => h) (Or.inl ⟨by kernel_rfl, ?_⟩) (by assumption) ?_
      rotate_left
      · (intro w hSw; (try dsimp only at hSw); go_simp; (try rw [if_neg (by (try simp only [ByteArray.size_append]); omega)]); (try with_reducible rfl))
      try simp only [Act.put]
      refine wpAnyH_take (i := 6) (v := ?_) rfl (by kernel_rfl) (by kernel_rfl) (by kernel_rfl) (fun _ _ _ h => h) (Or.inl ⟨by kernel_rfl, ?_⟩) (by assumption) ?_
      rotate_left
      · (intro w hSw; (try dsimp only at hSw); go_simp; (try rw [if_neg (by (try simp only [ByteArray.size_append]); omega)]); (try with_reducible rfl))
      try simp only [Act.put]
      refine wpAnyH_take (i := 7) (v := ?_) rfl (by kernel_rfl) (by kernel_rfl) (by kernel_rfl) (fun _ _ _ h => h) (Or.inl ⟨by kernel_rfl, ?_⟩) (by assumption) ?_
      rotate_left
      · (intro w hSw; (try dsimp only at hSw); go_simp; (try rw [if_neg (by (try simp only [ByteArray.size_append]); omega)]); (try with_reducible rfl))
      try simp only [Act.put]
      refine wpAnyH_take (i := 8) (v := ?_) rfl (by kernel_rfl) (by kernel_rfl) (by kernel_rfl) (fun _ _ _ h => h) (Or.inl ⟨by kernel_rfl, ?_⟩) (by assumption) ?_
      rotate_left
      · (intro w hSw; (try dsimp only at hSw); go_simp; (try rw [if_neg (by (try simp only [ByteArray.size_append]); omega)]); (try with_reducible rfl))
      try simp only [Act.put]
      refine wpAnyH_take (i := 9) (v := ?_) rfl (by kernel_rfl) (by kernel_rfl) (by kernel_rfl) (fun _ _ _ h => h) (Or.inl ⟨by kernel_rfl, ?_⟩) (by assumption) ?_
      rotate_left
      · (intro w hSw; (try dsimp only at hSw); go_simp; (try rw [if_neg (by (try simp only [ByteArray.size_append]); omega)]); (try with_reducible rfl))
      try simp only [Act.put]
      refine wpAnyH_take (i := 10) (v := ?_) rfl (by kernel_rfl) (by kernel_rfl) (by kernel_rfl) (fun _ _ _ h => h) (Or.inl ⟨by kernel_rfl, ?_⟩) (by assumption) ?_
      rotate_left
      · (intro w hSw; (try dsimp only at hSw); go_simp; (try rw [if_neg (by (try simp only [ByteArray.size_append]); omega)]); (try with_reducible rfl))
      try simp only [Act.put]
      refine wpAnyH_take (i := 11) (v := ?_) rfl (by kernel_rfl) (by kernel_rfl) (by kernel_rfl) (fun _ _ _ h => h) (Or.inl ⟨by kernel_rfl, ?_⟩) (by assumption) ?_
      rotate_left
      · (intro w hSw; (try dsimp only at hSw); go_simp; (try rw [if_neg (by (try simp only [ByteArray.size_append]); omega)]); (try with_reducible rfl))
      try simp only [Act.put]
      refine wpAnyH_take (i := 12) (v := ?_) rfl (by kernel_rfl) (by kernel_rfl) (by kernel_rfl) (fun _ _ _ h => h) (Or.inl ⟨by kernel_rfl, ?_⟩) (by assumption) ?_
      rotate_left
      · (intro wS hSw; refine (exec_load_row 31 _ rfl _ (by kernel_rfl) _ _ _ _ (hSw.2.2.2) Tryd.underlying31 rfl (by kernel_rfl)).trans ?_; with_reducible rfl)
      try simp only [Act.put]
      refine wpAnyH_ready (rs := [13]) (by kernel_rfl) (by simp) ?_
      refine AllReadyH.cons rfl (fun K hK => ?_) AllReadyH.nil
      go_simp
      have hml : MaxLenAt W1.drew := (HG.out.mv ((Mv.refl w D).below (HB1.out.drew))).1
      refine (HK.out _ hml).mono ?_
      rintro e W2 ⟨rfl, b2⟩
      have b12 : Below W1.heap.size W1 W2 := bdrew b2
      refine hK.out _ _ ((HS.out _ b12)) (fun hHeld => ?_)
      clear hK K
      try simp only [Act.put]
      clear hml b2
      refine wpAnyH_ready (rs := [14]) (by kernel_rfl) (by simp) ?_
      refine AllReadyH.cons rfl (fun K hK => ?_) AllReadyH.nil
      go_simp
      refine (HP.out _ (HH1.out.below b12)).mono ?_
      rintro e W3 ⟨b, fp, rfl, t3, hfp, f3, hb3, hb3'⟩
      have hN : D.who w.heap.size = 0 := Classical.byContradiction fun hne => by have := HH.out.lt _ hne; omega
      have hN3 : ¬ D.who w.heap.size = 3 := by rw [hN]; decide
      have hs3 : ¬ D.who sb = 3 := by rw [HH.out.own]; decide
      have hh := HS.out _ b12
      have hk3 : W3.heap[w.heap.size]? = some (.cells (cxCells c).toArray 31 (0, 0)) := (f3.block _ (by have := b12.size; have := HZ1.out; omega) hN3).trans hh.2.2.2
      refine hK.out _ _ (⟨f3.cell hh.1 hN3, f3.cell hh.2.1 hN3, f3.cell hh.2.2.1 hs3, hk3⟩) (fun hHeld => ?_)
      clear hK K
      try simp only [Act.put]
      have HF3 := Lib.hid (HF.out W2 W3 b _ _ fp b12 t3 hfp f3 (Nat.le_refl _) (by
        cases b with
        | false => exact .inl ⟨rfl, rfl, hb3' rfl⟩
        | true => exact .inr ⟨rfl, rfl, hb3 rfl⟩))
      clear t3 hfp f3 hb3 hb3' hN hN3 hs3 hh hk3 b12 HF
      refine wpAnyH_take (i := 15) (v := ?_) rfl (by kernel_rfl) (by kernel_rfl) (by kernel_rfl) (fun _ _ _ h => h) (Or.inl ⟨by kernel_rfl, ?_⟩) (by assumption) ?_
      rotate_left
      · (intro w hSw; (try dsimp only at hSw); go_simp; (try rw [if_neg (by (try simp only [ByteArray.size_append]); omega)]); (try with_reducible rfl))
      try simp only [Act.put]
      refine wpAnyH_take (i := 16) (v := ?_) rfl (by kernel_rfl) (by kernel_rfl) (by kernel_rfl) (fun _ _ _ h => h) (Or.inl ⟨by kernel_rfl, ?_⟩) (by assumption) ?_
      rotate_left
      · (intro w hSw; (try dsimp only at hSw); go_simp; (try rw [if_neg (by (try simp only [ByteArray.size_append]); omega)]); (try with_reducible rfl))
      try simp only [Act.put]
      refine wpAnyH_take (i := 17) (v := ?_) rfl (by kernel_rfl) (by kernel_rfl) (by kernel_rfl) (fun _ _ _ h => h) (Or.inl ⟨by kernel_rfl, ?_⟩) (by assumption) ?_
      rotate_left
      · (intro w hSw; (try dsimp only at hSw); go_simp; (try rw [if_neg (by (try simp only [ByteArray.size_append]); omega)]); (try with_reducible rfl))
      try simp only [Act.put]
      refine wpAnyH_done (by kernel_rfl) ?_ _
      try simp only [Act.put]
      clear hHeld
      go_simp
      go_wp2_with fail
      go_ret
      exact HF3.out

/-! A server: what comes (plain part). -/
abbrev cxm (mm : List (Int × Cx)) : List (Int × Value) := mm.map fun p => (p.1, cxV p.2)
abbrev nmm (cm : List ByteArray) : List (ByteArray × Value) := cm.map fun n => (n, .bool true)
theorem cxm_keys (mm : List (Int × Cx)) : (cxm mm).map (·.1) = mm.map (·.1) := by simp [cxm]
theorem mset_fresh {κ : Type} [DecidableEq κ] {m : List (κ × Value)} {k : κ} (h : ∀ p ∈ m, p.1 ≠ k) (v : Value) : mset m k v = m ++ [(k, v)] := by
  induction m with
  | nil => exact mset_nil _ _
  | cons p m ih =>
    rw [mset_cons, if_neg (h p List.mem_cons_self), ih fun q hq => h q (List.mem_cons_of_mem _ hq)]
    rfl
theorem mget_at {mm : List (Int × Cx)} (hn : (mm.map (·.1)).Nodup) {k : Int} {c : Cx} (h : (k, c) ∈ mm) : mget (cxm mm) k = some (cxV c) := by
  induction mm with
  | nil => cases h
  | cons p mm ih =>
    show mget ((p.1, cxV p.2) :: cxm mm) k = _
    rw [mget_cons]
    rw [List.map_cons, List.nodup_cons] at hn
    rcases List.mem_cons.1 h with e | h
    · rw [← e, if_pos rfl]
    · rw [if_neg (fun e => hn.1 (List.mem_map.2 ⟨(k, c), h, e.symm⟩)), ih hn.2 h]
theorem mdel_at {mm : List (Int × Cx)} (hn : (mm.map (·.1)).Nodup) {k : Int} {c : Cx} (h : (k, c) ∈ mm) : ∃ mm', mdel (cxm mm) k = cxm mm' ∧ ((k, c) :: mm').Perm mm := by
  induction mm with
  | nil => cases h
  | cons p mm ih =>
    rw [List.map_cons, List.nodup_cons] at hn
    show ∃ mm', mdel ((p.1, cxV p.2) :: cxm mm) k = _ ∧ _
    rw [mdel_cons]
    rcases List.mem_cons.1 h with e | h
    · rw [← e, if_pos rfl]
      exact ⟨mm, rfl, List.Perm.refl _⟩
    · rw [if_neg (fun e => hn.1 (List.mem_map.2 ⟨(k, c), h, e.symm⟩))]
      obtain ⟨mm', e1, e2⟩ := ih hn.2 h
      exact ⟨p :: mm', by rw [e1]; rfl, (List.Perm.swap _ _ _).trans (e2.cons p)⟩
theorem mget_nm_in {cm : List ByteArray} {n : ByteArray} (h : n ∈ cm) : mget (nmm cm) n = some (.bool true) := by
  induction cm with
  | nil => cases h
  | cons a cm ih =>
    show mget ((a, .bool true) :: nmm cm) n = _
    rw [mget_cons]
    split
    · rfl
    · rename_i e
      exact ih ((List.mem_cons.1 h).resolve_left fun h => e h.symm)
theorem mget_nm_out {cm : List ByteArray} {n : ByteArray} (h : n ∉ cm) : mget (nmm cm) n = none := by
  refine mget_none.2 fun p hp e => h ?_
  obtain ⟨a, ha, rfl⟩ := List.mem_map.1 hp
  exact e ▸ ha

/-- What comes is noted. -/
def SD.noted (D : SD) (c : Cx) : SD := { D with cm := D.cm ++ [c.span], last := D.last + 1, mm := D.mm ++ [(D.last + 1, c)] }
theorem SD.Ok.fresh {D : SD} {now : Int} {k : Nat} (h : D.Ok now k) : ∀ p ∈ D.mm, p.1 ≠ D.last + 1 := fun p hp e => by have := h.le p hp; omega
theorem SD.Ok.put {D : SD} {now : Int} {k : Nat} (h : D.Ok now k) (c : Cx) (hc : c.call.size ≤ 1000) (who : Nat → Nat) :
    ({ D.noted c with l := (D.last + 1, c.prio, c.req) :: D.l, who := who } : SD).Ok now (k + 1) := by
  refine ⟨?_, fun p hp => ?_, ?_, h.ended, ?_, ?_, h.left, h.up, h.wc, fun p hp => ?_⟩
  · show ((D.last + 1) :: D.l.map (·.1)).Perm ((D.mm ++ [(D.last + 1, c)]).map (·.1))
    rw [List.map_append]
    exact (h.ids.cons _).trans (List.perm_append_comm (l₁ := [D.last + 1]))
  · show p.1 ≤ D.last + 1
    rcases List.mem_append.1 (show p ∈ D.mm ++ [(D.last + 1, c)] from hp) with e | e
    · have := h.le p e; omega
    · rw [List.mem_singleton.1 e]; exact Int.le_refl _
  · show 0 ≤ D.last + 1 ∧ D.last + 1 ≤ ((k + 1 : Nat) : Int)
    have := h.last; omega
  · show (D.kt : Int) + D.works.length + ((D.mm ++ [(D.last + 1, c)]).length : Nat) ≤ ((k + 1 : Nat) : Int)
    have := h.sum; rw [List.length_append, List.length_singleton]; omega
  · show D.ended + D.works.length + ((D.mm ++ [(D.last + 1, c)]).length : Nat) ≤ ((k + 1 : Nat) : Int)
    have := h.sum2; rw [List.length_append, List.length_singleton]; omega
  · rcases List.mem_append.1 (show p ∈ D.mm ++ [(D.last + 1, c)] from hp) with e | e
    · exact h.mc p e
    · rw [List.mem_singleton.1 e]; exact hc
/-- One that waits is let go. -/
theorem SD.Ok.drop {D : SD} {now : Int} {k : Nat} (h : D.Ok now k) {y : Int × Int × Int} {l' : List (Int × Int × Int)} (hl : (y :: l').Perm D.l) : ∃ c, (y.1, c) ∈ D.mm ∧ ∀ mm', ((y.1, c) :: mm').Perm D.mm → ∀ who, ({ D with l := l', mm := mm', who := who } : SD).Ok now k := by
  have hy : y.1 ∈ D.mm.map (·.1) := h.ids.mem_iff.1 (List.mem_map.2 ⟨y, hl.mem_iff.1 List.mem_cons_self, rfl⟩)
  obtain ⟨⟨q, c⟩, hp, e⟩ := List.mem_map.1 hy
  dsimp only at e
  subst e
  refine ⟨c, hp, fun mm' hm who => ⟨?_, fun p hp => h.le p (hm.mem_iff.1 (List.mem_cons_of_mem _ hp)), h.last, h.ended, ?_, ?_, h.left, h.up, h.wc, fun p hp => h.mc p (hm.mem_iff.1 (List.mem_cons_of_mem _ hp))⟩⟩
  · have h1 : (y.1 :: l'.map (·.1)).Perm (y.1 :: mm'.map (·.1)) := ((List.Perm.map (fun x : Int × Int × Int => x.1) hl).trans h.ids).trans (List.Perm.map (fun x : Int × Cx => x.1) hm).symm
    exact (List.perm_cons _).1 h1
  · have := h.sum; have := hm.length_eq; simp only [List.length_cons] at this
    show (D.kt : Int) + D.works.length + (mm'.length : Nat) ≤ k
    omega
  · have := h.sum2; have := hm.length_eq; simp only [List.length_cons] at this
    show D.ended + D.works.length + (mm'.length : Nat) ≤ k
    omega
theorem SD.Ok.mono {D : SD} {now now' : Int} {k k' : Nat} (h : D.Ok now k) (hn : now ≤ now') (hk : k ≤ k') : D.Ok now' k' :=
  ⟨h.ids, h.le, ⟨h.last.1, by have := h.last.2; omega⟩, h.ended, by have := h.sum; omega, by have := h.sum2; omega, h.left, ⟨h.up.1, by have := h.up.2; omega⟩, h.wc, h.mc⟩
theorem SD.Ok.len {D : SD} {now : Int} {k : Nat} (h : D.Ok now k) : D.l.length = D.mm.length := by have := h.ids.length_eq; simpa using this

def OutAt (w w' : World) (D' : SD) (v : Value) (outs : List Ou) : Prop := ∃ ob, ouK.At w' v outs ob ∧ ∀ g, ob = some g → w.heap.size ≤ g ∧ D'.who g = 0
theorem OutAt.nil (w w' : World) (D' : SD) : OutAt w w' D' (.slice none 0 0) [] := ⟨none, ouK.nil w', fun g e => by cases e⟩
theorem OutAt.mv {w w1 w2 : World} {D1 D2 : SD} {v : Value} {outs : List Ou} (h : OutAt w w1 D1 v outs) (k : Mv w1 D1 w2 D2) : OutAt w w2 D2 v outs := by
  obtain ⟨ob, h1, h2⟩ := h
  refine ⟨ob, h1.keep fun g e => k.1.block g (h1.lt g e) fun hne => hne (h2 g e).2, fun g e => ⟨(h2 g e).1, Classical.byContradiction fun hne => ?_⟩⟩
  rcases k.2 g hne with e2 | e2
  · exact e2 (h2 g e).2
  · have := h1.lt g e; omega

def ComePost (w : World) (sb : Nat) (hz now : Int) (s : Sv) (c : Cx) (k : Nat) (D : SD) (e : Ending) (w' : World) : Prop :=
  ∃ D' outs v fresh, e = .returned (.tuple #[v, .bool fresh]) ∧ SR w' sb hz s now D' ∧ D'.Ok now (k + 1) ∧ Mv w D w' D' ∧ OutAt w w' D' v outs ∧ ComeR s c D.t D'.t outs fresh

end Go.Proofs.YtchjlkfkfcmhlaaDoor
