/- The document's ledger: may, Sum. -/
import Derived.Test.YtedoalpijbggiaaDoorR5
namespace Go.Proofs.YtedoalpijbggiaaDoor
open Go.RowKit Go.Lib
attribute [local go_sem ↓] Go.wp_at_zero Go.wp_at_succ

def RLAt (w : World) (v1 v2 v3 : Value) (R : RL) : Prop := (∃ b, oneK.At w v1 R.has b) ∧ (∃ b, oneK.At w v2 R.made b) ∧ ∃ b, oneK.At w v3 R.spent b
theorem RLAt.below {w w' : World} {v1 v2 v3 : Value} {R : RL} (h : RLAt w v1 v2 v3 R) (hb : Below w.heap.size w w') : RLAt w' v1 v2 v3 R := by
  obtain ⟨⟨b1, h1⟩, ⟨b2, h2⟩, b3, h3⟩ := h
  exact ⟨⟨b1, h1.below hb⟩, ⟨b2, h2.below hb⟩, b3, h3.below hb⟩
theorem RLAt.form {w : World} {v1 v2 v3 : Value} {R : RL} (h : RLAt w v1 v2 v3 R) : ∃ a1 c1 a2 c2 a3 c3, v1 = .slice a1 R.has.length c1 ∧ v2 = .slice a2 R.made.length c2 ∧ v3 = .slice a3 R.spent.length c3 := by
  obtain ⟨⟨b1, h1⟩, ⟨b2, h2⟩, b3, h3⟩ := h
  obtain ⟨a1, c1, e1⟩ := h1.form
  obtain ⟨a2, c2, e2⟩ := h2.form
  obtain ⟨a3, c3, e3⟩ := h3.form
  exact ⟨a1, c1, a2, c2, a3, c3, e1, e2, e3⟩
def RL.Small (R : RL) : Prop := R.has.length ≤ 10000 ∧ R.made.length ≤ 10000 ∧ R.spent.length ≤ 10000
theorem Of_at {w : World} {v : Value} {l : List Ent} (h : ∃ b, oneK.At w v l b) (hl : l.length ≤ 10000) (s : ByteArray) : ∀ W, Below w.heap.size w W → Calls Tryd.prog 16 #[v, .string s] W fun e w' => e = .returned (.tuple #[.int .i64 ((ofR l s).getD 0), .bool (ofR l s).isSome]) ∧ w' = W := fun W hb => by
  obtain ⟨b, h⟩ := h
  exact of_any (h.below hb) (by omega) s

set_option maxRecDepth 8000 in
set_option maxHeartbeats 4000000 in
theorem may_any {w : World} {v1 v2 v3 : Value} {R : RL} (h : RLAt w v1 v2 v3 R) (hl : R.Small) (s : ByteArray) (hs : s.size ≤ 2147483647) (n : Int) :
    Calls Tryd.prog 43 #[.agg #[v1, v2, v3], .string s, .int .i64 n] w fun e w' => e = .returned (.int .i64 (R.mayE s n)) ∧ Below w.heap.size w w' := by
  obtain ⟨a1, c1, a2, c2, a3, c3, rfl, rfl, rfl⟩ := h.form
  obtain ⟨m1, hm1⟩ : ∃ m, m = R.has.length := ⟨_, rfl⟩
  obtain ⟨m2, hm2⟩ : ∃ m, m = R.made.length := ⟨_, rfl⟩
  obtain ⟨m3, hm3⟩ : ∃ m, m = R.spent.length := ⟨_, rfl⟩
  have hO1 := Of_at h.1 hl.1 s
  have hO2 := Of_at h.2.1 hl.2.1 (dec (reqOf s))
  rw [← hm1] at hO1 ⊢
  rw [← hm2] at hO2 ⊢
  rw [← hm3]
  have HE : Hid (R.mayE s n = if n < 0 ∨ reqOf s = 0 then 1 else if (ofR R.made (dec (reqOf s))).isSome = false then 4 else if (ofR R.has s).getD 0 < n then 30 else 0) := rfl
  obtain ⟨k, hk⟩ : ∃ k, k = (ofR R.made (dec (reqOf s))).isSome := ⟨_, rfl⟩
  obtain ⟨k0, hk0⟩ : ∃ k, k = (ofR R.made (dec (reqOf s))).getD 0 := ⟨_, rfl⟩
  obtain ⟨x, hx⟩ : ∃ x, x = (ofR R.has s).getD 0 := ⟨_, rfl⟩
  obtain ⟨x0, hx0⟩ : ∃ x, x = (ofR R.has s).isSome := ⟨_, rfl⟩
  rw [← hk, ← hk0] at hO2
  rw [← hx, ← hx0] at hO1
  rw [← hk, ← hx] at HE
  obtain ⟨r, hr⟩ : ∃ r, r = reqOf s := ⟨_, rfl⟩
  have hr0 := reqOf_nonneg s
  have hr1 : reqOf s ≤ 2147483647 := by
    unfold reqOf numOf
    split
    · split
      · rename_i h; exact h.2.1
      · decide
    · decide
  have hRQ := fun W => rrequest_all s hs W
  rw [← hr] at hO2 HE hr0 hr1 hRQ
  have HRQ := Lib.hid hRQ
  have HD := Lib.hid (fun W => dec_all r (by omega) W)
  have HO1 := Lib.hid hO1
  have HO2 := Lib.hid hO2
  obtain ⟨W1, hW1⟩ : ∃ W1, W1 = w.alloc (.cells #[.slice a1 m1 c1, .slice a2 m2 c2, .slice a3 m3 c3] 29) := ⟨_, rfl⟩
  have hb1 : Below w.heap.size w W1 := by rw [hW1]; exact (Below.refl _ _).alloc (Nat.le_refl _) _
  have z1 : W1.heap[w.heap.size]? = some (.cells #[.slice a1 m1 c1, .slice a2 m2 c2, .slice a3 m3 c3] 29 (0, 0)) := by rw [hW1]; exact heap_alloc_new w _
  have HB1 := Lib.hid hb1
  have HC : Hid (∀ W, Below W1.heap.size W1 W → W.cell? ⟨w.heap.size, 0, none⟩ = some (.slice a1 m1 c1) ∧ W.cell? ⟨w.heap.size, 1, none⟩ = some (.slice a2 m2 c2)) := fun W hb => ⟨bkeep hb (block_cell z1 0 _ rfl), bkeep hb (block_cell z1 1 _ rfl)⟩
  clear h hl hm1 hm2 hm3 hk hk0 hx hx0 hr hRQ hO1 hO2 hb1 z1 hr1
  go_enter Tryd.func43, Tryd.ntmps43
  go_wp2_with fail
  rw [← hW1]
  refine (HRQ.out _).mono ?_
  rintro e w2 ⟨rfl, b2⟩
  have HB2 := Lib.hid b2
  clear b2 hW1
  by_cases q1 : n < 0
  · have HE2 : Hid (R.mayE s n = 1) := HE.out.trans (if_pos (.inl q1))
    go_wp2_with fail
    go_ret
    rw [HE2.out]
    exact ⟨rfl, btrans HB1.out HB2.out⟩
  by_cases q2 : r = 0
  · have HE2 : Hid (R.mayE s n = 1) := HE.out.trans (if_pos (.inr q2))
    subst q2
    go_wp2_with fail
    go_ret
    rw [HE2.out]
    exact ⟨rfl, btrans HB1.out HB2.out⟩
  have q2b : (r == 0) = false := beq_eq_false_iff_ne.2 q2
  have HE2 : Hid (R.mayE s n = if k = false then 4 else if x < n then 30 else 0) := HE.out.trans (if_neg (by omega))
  clear HE q2
  go_wp2_with fail
  have hc := HC.out w2 HB2.out
  refine wp_region_held_drew (S := fun W => W.cell? ⟨w.heap.size, 1, none⟩ = some (.slice a2 m2 c2)) (by kernel_rfl) hc.2 (fun hHeld => ?_)
  clear hc
  refine wpAnyH_take (i := 0) (v := ?_) rfl (by kernel_rfl) (by kernel_rfl) (by kernel_rfl) (fun _ _ _ h => h) (Or.inl ⟨by kernel_rfl, ?_⟩) (by assumption) ?_
  rotate_left
  · (intro w hSw; (try dsimp only at hSw); go_simp; try with_reducible rfl)
  try simp only [Act.put]
  refine wpAnyH_take (i := 1) (v := ?_) rfl (by kernel_rfl) (by kernel_rfl) (by kernel_rfl) (fun _ _ _ h => h) (Or.inl ⟨by kernel_rfl, ?_⟩) (by assumption) ?_
  rotate_left
  · (intro w hSw; (try dsimp only at hSw); go_simp; try with_reducible rfl)
  try simp only [Act.put]
  refine wpAnyH_take (i := 2) (v := ?_) rfl (by kernel_rfl) (by kernel_rfl) (by kernel_rfl) (fun _ _ _ h => h) (Or.inl ⟨by kernel_rfl, ?_⟩) (by assumption) ?_
  rotate_left
  · (intro w hSw; (try dsimp only at hSw); go_simp; try with_reducible rfl)
  try simp only [Act.put]
  refine wpAnyH_ready (rs := [3]) (by kernel_rfl) (by simp) ?_
  refine AllReadyH.cons rfl (fun K hK => ?_) AllReadyH.nil
  go_simp
  refine (HD.out _).mono ?_
  rintro e w3 ⟨rfl, b3⟩
  replace b3 := bdrew b3
  have HB3 := Lib.hid (btrans HB2.out b3)
  have hc := HC.out w3 HB3.out
  refine hK.out _ _ (hc.2) (fun hHeld => ?_)
  clear hK K
  try simp only [Act.put]
  refine wpAnyH_ready (rs := [4]) (by kernel_rfl) (by simp) ?_
  refine AllReadyH.cons rfl (fun K hK => ?_) AllReadyH.nil
  go_simp
  refine (HO2.out _ (btrans HB1.out HB3.out)).mono ?_
  rintro e w4 ⟨rfl, hw4⟩
  rw [hw4]
  clear hw4 w4
  refine hK.out _ _ (hc.2) (fun hHeld => ?_)
  clear hK K
  try simp only [Act.put]
  refine wpAnyH_take (i := 5) (v := ?_) rfl (by kernel_rfl) (by kernel_rfl) (by kernel_rfl) (fun _ _ _ h => h) (Or.inl ⟨by kernel_rfl, ?_⟩) (by assumption) ?_
  rotate_left
  · (intro w hSw; (try dsimp only at hSw); go_simp; try with_reducible rfl)
  try simp only [Act.put]
  refine wpAnyH_take (i := 6) (v := ?_) rfl (by kernel_rfl) (by kernel_rfl) (by kernel_rfl) (fun _ _ _ h => h) (Or.inl ⟨by kernel_rfl, ?_⟩) (by assumption) ?_
  rotate_left
  · (intro w hSw; (try dsimp only at hSw); go_simp; try with_reducible rfl)
  try simp only [Act.put]
  refine wpAnyH_take (i := 8) (v := ?_) rfl (by kernel_rfl) (by kernel_rfl) (by kernel_rfl) (fun _ _ _ h => h) (Or.inl ⟨by kernel_rfl, ?_⟩) (by assumption) ?_
  rotate_left
  · (intro w hSw; (try dsimp only at hSw); go_simp; try with_reducible rfl)
  try simp only [Act.put]
  refine wpAnyH_take (i := 7) (v := ?_) rfl (by kernel_rfl) (by kernel_rfl) (by kernel_rfl) (fun _ _ _ h => h) (Or.inl ⟨by kernel_rfl, ?_⟩) (by assumption) ?_
  rotate_left
  · (intro w hSw; (try dsimp only at hSw); go_simp; try with_reducible rfl)
  try simp only [Act.put]
  refine wpAnyH_take (i := 9) (v := ?_) rfl (by kernel_rfl) (by kernel_rfl) (by kernel_rfl) (fun _ _ _ h => h) (Or.inl ⟨by kernel_rfl, ?_⟩) (by assumption) ?_
  rotate_left
  · (intro w hSw; (try dsimp only at hSw); go_simp; try with_reducible rfl)
  try simp only [Act.put]
  refine wpAnyH_done (by kernel_rfl) ?_ _
  try simp only [Act.put]
  have hc0 := hc.1
  clear hHeld b3 hc
  cases k with
  | false =>
    have HE3 : Hid (R.mayE s n = 4) := HE2.out
    go_simp
    go_wp2_with fail
    go_ret
    rw [HE3.out]
    exact ⟨rfl, btrans HB1.out HB3.out⟩
  | true =>
    have HO1' := Lib.hid (HO1.out w3 (btrans HB1.out HB3.out))
    by_cases q3 : x < n
    · have HE3 : Hid (R.mayE s n = 30) := HE2.out.trans (if_pos q3)
      go_simp
      go_wp2_with fail
      refine HO1'.out.mono ?_
      rintro e w4 ⟨rfl, hw4⟩
      rw [hw4]
      clear hw4 w4
      go_wp2_with fail
      go_ret
      rw [HE3.out]
      exact ⟨rfl, btrans HB1.out HB3.out⟩
    · have HE3 : Hid (R.mayE s n = 0) := HE2.out.trans (if_neg q3)
      go_simp
      go_wp2_with fail
      refine HO1'.out.mono ?_
      rintro e w4 ⟨rfl, hw4⟩
      rw [hw4]
      clear hw4 w4
      go_wp2_with fail
      go_ret
      rw [HE3.out]
      exact ⟨rfl, btrans HB1.out HB3.out⟩

theorem sumR_snoc (l : List Ent) (x : Ent) (r : Int) : sumR (l ++ [x]) r = sumR l r + if reqOf x.1 = r then x.2 else 0 := by
  unfold sumR; rw [List.map_append, List.sum_append]; simp
theorem sumR_bd {l : List Ent} (h : ∀ x ∈ l, 0 ≤ x.2 ∧ x.2 ≤ 2147483647) (r : Int) : 0 ≤ sumR l r ∧ sumR l r ≤ 2147483647 * l.length := by
  induction l with
  | nil => exact ⟨Int.le_refl _, Int.le_refl _⟩
  | cons x l ih =>
    have h1 := h x List.mem_cons_self
    have h2 := ih fun y hy => h y (List.mem_cons_of_mem _ hy)
    rw [sumR_cons, List.length_cons]
    split <;> omega

set_option maxRecDepth 8000 in
set_option maxHeartbeats 4000000 in
theorem rsum_any {w : World} {v1 v2 v3 : Value} {R : RL} (h : RLAt w v1 v2 v3 R) (hl : R.Small) (hz : ∀ x ∈ R.has, x.1.size ≤ 2147483647) (hb : ∀ x ∈ R.has, 0 ≤ x.2 ∧ x.2 ≤ 2147483647) (r : Int) (hr : 0 ≤ r ∧ r ≤ 2147483647) :
    Calls Tryd.prog 19 #[.agg #[v1, v2, v3], .int .i64 r] w fun e w' => e = .returned (.tuple #[.int .i64 (sumR R.has r), .int .i64 ((ofR R.spent (dec r)).getD 0)]) ∧ Below w.heap.size w w' := by
  obtain ⟨a1, c1, a2, c2, a3, c3, rfl, rfl, rfl⟩ := h.form
  obtain ⟨m1, hm1⟩ : ∃ m, m = R.has.length := ⟨_, rfl⟩
  obtain ⟨m2, hm2⟩ : ∃ m, m = R.made.length := ⟨_, rfl⟩
  obtain ⟨m3, hm3⟩ : ∃ m, m = R.spent.length := ⟨_, rfl⟩
  have hO3 := Of_at h.2.2 hl.2.2 (dec r)
  obtain ⟨gb, hA⟩ := h.1
  have hm1b := hl.1
  rw [← hm1] at hA hm1b ⊢
  rw [← hm2]
  rw [← hm3] at hO3 ⊢
  obtain ⟨k, hk⟩ : ∃ k, k = (ofR R.spent (dec r)).isSome := ⟨_, rfl⟩
  obtain ⟨x, hx⟩ : ∃ x, x = (ofR R.spent (dec r)).getD 0 := ⟨_, rfl⟩
  rw [← hk, ← hx] at hO3
  rw [← hx]
  obtain ⟨l, hll⟩ : ∃ l, l = R.has := ⟨_, rfl⟩
  rw [← hll] at hA hm1 hz hb ⊢
  have HA := Lib.hid hA
  have HM := Lib.hid hm1
  have HD := Lib.hid (fun W => dec_all r (by omega) W)
  have HO3 := Lib.hid hO3
  have HZ := Lib.hid hz
  have HBD := Lib.hid hb
  obtain ⟨W1, hW1⟩ : ∃ W1, W1 = w.alloc (.cells #[.slice a1 m1 c1, .slice a2 m2 c2, .slice a3 m3 c3] 29) := ⟨_, rfl⟩
  have hb1 : Below w.heap.size w W1 := by rw [hW1]; exact (Below.refl _ _).alloc (Nat.le_refl _) _
  have z1 : W1.heap[w.heap.size]? = some (.cells #[.slice a1 m1 c1, .slice a2 m2 c2, .slice a3 m3 c3] 29 (0, 0)) := by rw [hW1]; exact heap_alloc_new w _
  have HB1 := Lib.hid hb1
  have HC : Hid (∀ W, Below W1.heap.size W1 W → W.cell? ⟨w.heap.size, 0, none⟩ = some (.slice a1 m1 c1) ∧ W.cell? ⟨w.heap.size, 2, none⟩ = some (.slice a3 m3 c3)) := fun W hb => ⟨bkeep hb (block_cell z1 0 _ rfl), bkeep hb (block_cell z1 2 _ rfl)⟩
  clear h hl hA hm1 hm2 hm3 hO3 hz hb hb1 z1 hk hx hll
  go_enter Tryd.func19, Tryd.ntmps19
  go_wp2_with fail
  rw [← hW1]
  clear hW1
  go_loopw [6, 7] (fun vn vi wr => ∃ i : Nat, vi = .int .i64 i ∧ i ≤ m1 ∧ vn = .int .i64 (sumR (l.take i) r) ∧ Hid (Below W1.heap.size W1 wr)) (fun _ vi _ => (m1 - RowKit.intOf vi).toNat)
  case atStart => exact ⟨0, rfl, Nat.zero_le _, rfl, Below.refl _ _⟩
  case round =>
    obtain ⟨i, rfl, hi, rfl, hbr⟩ := hrel
    have hc := HC.out wr hbr.out
    have hc0 := hc.1
    by_cases him : i < m1
    · have t0 : decide ((i : Int) < (m1 : Int)) = true := decide_eq_true (by omega)
      obtain ⟨y, hy⟩ : ∃ y, l[i]? = some y := ⟨_, List.getElem?_eq_getElem (by have := HM.out; omega)⟩
      obtain ⟨g, off, lc', e1, e2, hcl⟩ := HA.out.cells (by have := HM.out; omega)
      have hgl : g < w.heap.size := HA.out.lt g e2
      have HQ : Hid (∀ W, Below w.heap.size w W → W.cell? ⟨g, off + i * 2, none⟩ = some (.string y.1) ∧ W.cell? ⟨g, off + i * 2 + 1, none⟩ = some (.int .i64 y.2)) := fun W hb => by
        have hq := hcl W (hb.block g hgl) i y hy
        exact ⟨hq 0 _ rfl, hq 1 _ rfl⟩
      rw [← HM.out] at e1
      injection e1 with e1 e3 e4
      subst e1
      have hq0 := (HQ.out wr (btrans HB1.out hbr.out)).1
      have i1 : (0 : Int) ≤ (i : Int) := by omega
      have i2 : (i : Int) < (m1 : Int) := by omega
      have hyb := HBD.out y (List.mem_of_getElem? hy)
      have HR := Lib.hid (fun W => rrequest_all y.1 (HZ.out y (List.mem_of_getElem? hy)) W)
      have hTK : l.take (i + 1) = l.take i ++ [y] := by rw [List.take_add_one, hy]; rfl
      have hsb := sumR_bd (l := l.take i) (fun z hz => HBD.out z (List.mem_of_mem_take hz)) r
      have hln : (l.take i).length ≤ i := by rw [List.length_take]; omega
      have HS : Hid (sumR (l.take (i + 1)) r = sumR (l.take i) r + if reqOf y.1 = r then y.2 else 0) := by show _ = _; rw [hTK, sumR_snoc]
      obtain ⟨sv, hsv⟩ : ∃ sv, sv = sumR (l.take i) r := ⟨_, rfl⟩
      rw [← hsv] at hsb HS ⊢
      have g1 : IntKind.i64.wrap (sv + y.2) = sv + y.2 := IntWalk.i64_in _ (by omega)
      clear hy e2 e3 e4 hcl hgl hTK hsb hln hsv hc
      go_wp2_with fail
      refine (HR.out _).mono ?_
      rintro e w2 ⟨rfl, b2⟩
      have HB2 := Lib.hid (btrans hbr.out b2)
      have hc2 := (HC.out w2 HB2.out).1
      have hq2 := (HQ.out w2 (btrans HB1.out HB2.out)).2
      clear b2 hbr hc0 hq0
      by_cases hq : reqOf y.1 = r
      · have u1 : (reqOf y.1 == r) = true := by rw [hq]; exact beq_self_eq_true _
        have HS2 : Hid (sumR (l.take (i + 1)) r = sv + y.2) := HS.out.trans (by rw [if_pos hq])
        clear HS hq
        go_wp2_with fail
        go_roundw
        case rel => exact ⟨i + 1, by go_num, by omega, by rw [HS2.out], HB2⟩
        case measure => simp [RowKit.intOf]; omega
      · have u1 : (reqOf y.1 == r) = false := beq_eq_false_iff_ne.2 hq
        have HS2 : Hid (sumR (l.take (i + 1)) r = sv) := HS.out.trans (by rw [if_neg hq, Int.add_zero])
        clear HS hq
        go_wp2_with fail
        go_roundw
        case rel => exact ⟨i + 1, by go_num, by omega, by rw [HS2.out], HB2⟩
        case measure => simp [RowKit.intOf]; omega
    · have t0 : decide ((i : Int) < (m1 : Int)) = false := decide_eq_false (by omega)
      have hT : l.take i = l := List.take_of_length_le (by have := HM.out; omega)
      rw [hT]
      have hc2 := hc.2
      clear hc hT
      go_wp2_with fail
      refine wp_region_held_drew (S := fun W => W.cell? ⟨w.heap.size, 2, none⟩ = some (.slice a3 m3 c3)) (by kernel_rfl) hc2 (fun hHeld => ?_)
      clear hc2 hc0
      refine wpAnyH_take (i := 0) (v := ?_) rfl (by kernel_rfl) (by kernel_rfl) (by kernel_rfl) (fun _ _ _ h => h) (Or.inl ⟨by kernel_rfl, ?_⟩) (by assumption) ?_
      rotate_left
      · (intro w hSw; (try dsimp only at hSw); go_simp; try with_reducible rfl)
      try simp only [Act.put]
      refine wpAnyH_take (i := 1) (v := ?_) rfl (by kernel_rfl) (by kernel_rfl) (by kernel_rfl) (fun _ _ _ h => h) (Or.inl ⟨by kernel_rfl, ?_⟩) (by assumption) ?_
      rotate_left
      · (intro w hSw; (try dsimp only at hSw); go_simp; try with_reducible rfl)
      try simp only [Act.put]
      refine wpAnyH_take (i := 2) (v := ?_) rfl (by kernel_rfl) (by kernel_rfl) (by kernel_rfl) (fun _ _ _ h => h) (Or.inl ⟨by kernel_rfl, ?_⟩) (by assumption) ?_
      rotate_left
      · (intro w hSw; (try dsimp only at hSw); go_simp; try with_reducible rfl)
      try simp only [Act.put]
      refine wpAnyH_ready (rs := [3]) (by kernel_rfl) (by simp) ?_
      refine AllReadyH.cons rfl (fun K hK => ?_) AllReadyH.nil
      go_simp
      refine (HD.out _).mono ?_
      rintro e w3 ⟨rfl, b3⟩
      replace b3 := bdrew b3
      have HB3 := Lib.hid (btrans hbr.out b3)
      have hc := (HC.out w3 HB3.out).2
      refine hK.out _ _ (hc) (fun hHeld => ?_)
      clear hK K
      try simp only [Act.put]
      refine wpAnyH_ready (rs := [4]) (by kernel_rfl) (by simp) ?_
      refine AllReadyH.cons rfl (fun K hK => ?_) AllReadyH.nil
      go_simp
      refine (HO3.out _ (btrans HB1.out HB3.out)).mono ?_
      rintro e w4 ⟨rfl, hw4⟩
      rw [hw4]
      clear hw4 w4
      refine hK.out _ _ (hc) (fun hHeld => ?_)
      clear hK K
      try simp only [Act.put]
      refine wpAnyH_take (i := 5) (v := ?_) rfl (by kernel_rfl) (by kernel_rfl) (by kernel_rfl) (fun _ _ _ h => h) (Or.inl ⟨by kernel_rfl, ?_⟩) (by assumption) ?_
      rotate_left
      · (intro w hSw; (try dsimp only at hSw); go_simp; try with_reducible rfl)
      try simp only [Act.put]
      refine wpAnyH_take (i := 6) (v := ?_) rfl (by kernel_rfl) (by kernel_rfl) (by kernel_rfl) (fun _ _ _ h => h) (Or.inl ⟨by kernel_rfl, ?_⟩) (by assumption) ?_
      rotate_left
      · (intro w hSw; (try dsimp only at hSw); go_simp; try with_reducible rfl)
      try simp only [Act.put]
      refine wpAnyH_take (i := 8) (v := ?_) rfl (by kernel_rfl) (by kernel_rfl) (by kernel_rfl) (fun _ _ _ h => h) (Or.inl ⟨by kernel_rfl, ?_⟩) (by assumption) ?_
      rotate_left
      · (intro w hSw; (try dsimp only at hSw); go_simp; try with_reducible rfl)
      try simp only [Act.put]
      refine wpAnyH_take (i := 7) (v := ?_) rfl (by kernel_rfl) (by kernel_rfl) (by kernel_rfl) (fun _ _ _ h => h) (Or.inl ⟨by kernel_rfl, ?_⟩) (by assumption) ?_
      rotate_left
      · (intro w hSw; (try dsimp only at hSw); go_simp; try with_reducible rfl)
      try simp only [Act.put]
      refine wpAnyH_take (i := 9) (v := ?_) rfl (by kernel_rfl) (by kernel_rfl) (by kernel_rfl) (fun _ _ _ h => h) (Or.inl ⟨by kernel_rfl, ?_⟩) (by assumption) ?_
      rotate_left
      · (intro w hSw; (try dsimp only at hSw); go_simp; try with_reducible rfl)
      try simp only [Act.put]
      refine wpAnyH_done (by kernel_rfl) ?_ _
      try simp only [Act.put]
      clear hHeld b3 hc
      go_simp
      go_wp2_with fail
      go_ret2
      exact ⟨rfl, btrans HB1.out HB3.out⟩

end Go.Proofs.YtedoalpijbggiaaDoor
