/- next. -/
import Derived.Test.YtkpjjhiighakfaaGreatDoorB10
namespace Go.Proofs.YtkpjjhiighakfaaGreatDoor
open Go.RowKit Go.Maps
attribute [local go_sem ↓] Go.wp_at_zero Go.wp_at_succ

/-- The least of the deadline and of the attempts' ends. -/
def minA (l : List (Int × Int × Cx)) (t d : Int) : Int := l.foldl (fun m o => min m (o.2.1 + t)) d
theorem minA_spec (l : List (Int × Int × Cx)) (t : Int) : ∀ d, minA l t d ≤ d ∧ (∀ o ∈ l, minA l t d ≤ o.2.1 + t) ∧ (minA l t d = d ∨ ∃ o ∈ l, minA l t d = o.2.1 + t) := by
  induction l with
  | nil => exact fun d => ⟨Int.le_refl _, (fun _ h => nomatch h), .inl rfl⟩
  | cons a l ih =>
    intro d
    obtain ⟨h1, h2, h3⟩ := ih (min d (a.2.1 + t))
    show minA l t (min d (a.2.1 + t)) ≤ d ∧ (∀ o ∈ a :: l, minA l t (min d (a.2.1 + t)) ≤ o.2.1 + t) ∧ (minA l t (min d (a.2.1 + t)) = d ∨ ∃ o ∈ a :: l, minA l t (min d (a.2.1 + t)) = o.2.1 + t)
    refine ⟨by omega, fun o ho => ?_, ?_⟩
    · rcases List.mem_cons.1 ho with rfl | ho
      · omega
      · exact h2 o ho
    · rcases h3 with h | ⟨o, ho, h⟩
      · rcases Int.le_total d (a.2.1 + t) with hle | hle
        · exact .inl (by omega)
        · exact .inr ⟨a, List.mem_cons_self, by omega⟩
      · exact .inr ⟨o, List.mem_cons_of_mem _ ho, h⟩
theorem minA_eq {l : List (Int × Int × Cx)} {t d m : Int} (h1 : m ≤ d) (h2 : ∀ o ∈ l, m ≤ o.2.1 + t) (h3 : m = d ∨ ∃ o ∈ l, m = o.2.1 + t) : m = minA l t d := by
  obtain ⟨k1, k2, k3⟩ := minA_spec l t d
  refine Int.le_antisymm ?_ ?_
  · rcases k3 with h | ⟨o, ho, h⟩
    · omega
    · have := h2 o ho; omega
  · rcases h3 with h | ⟨o, ho, h⟩
    · omega
    · have := k2 o ho; omega

theorem wf_i64 {x : Int} (h0 : -9223372036854775808 ≤ x) (h1 : x ≤ 9223372036854775807) : (Lit.int .i64 x).wf = true := by
  simp [Lit.wf, IntKind.min, IntKind.max, IntKind.signed, IntKind.bits]; omega

theorem keys_len : ∀ (l : List Int) (a b : Int), l.Pairwise (· < ·) → (∀ x ∈ l, a ≤ x ∧ x ≤ b) → (l.length : Int) ≤ max 0 (b - a + 1)
  | [], a, b, _, _ => by simp; omega
  | x :: l, a, b, hp, h => by
    have hp' := List.pairwise_cons.1 hp
    have hx := h x List.mem_cons_self
    have := keys_len l (x + 1) b hp'.2 (fun y hy => ⟨hp'.1 y hy, (h y (List.mem_cons_of_mem _ hy)).2⟩)
    rw [List.length_cons]
    omega
theorem CS.Ok.len {S : CS} (h : S.Ok) : S.open_.length ≤ 8 := by
  have h1 := keys_len _ 1 S.made h.keys (fun x hx => by obtain ⟨o, ho, rfl⟩ := List.mem_map.1 hx; exact h.keyb o ho)
  rw [List.length_map] at h1
  have := h.made
  omega

/-- When a call has to be woken. -/
def CS.nextD (S : CS) : Int := if S.due then min (minA S.open_ S.p.tmo S.c.dl) S.dueAt else minA S.open_ S.p.tmo S.c.dl
def CS.nextT (S : CS) : Int := if S.hasBeside then min S.nextD S.besideT else S.nextD

/-- What the loop over the open attempts knows. -/
structure NextInv (w wr : World) (mb r : Nat) (S : CS) (left : Lit → Bool) (cnt : Nat) (m : Int) : Prop where
  rg : wr.ranges Tryz.prog 3 atR mb r S.open_.length (mapA S.open_) left cnt
  below : Below w.heap.size w wr
  dl : m ≤ S.c.dl
  all : ∀ o ∈ S.open_, left (.int .i64 o.1) = false → m ≤ o.2.1 + S.p.tmo
  one : m = S.c.dl ∨ ∃ o ∈ S.open_, m = o.2.1 + S.p.tmo

theorem key_inj {l : List (Int × Int × Cx)} (h : (l.map (·.1)).Pairwise (· < ·)) {p o : Int × Int × Cx} (hp : p ∈ l) (ho : o ∈ l) (e : p.1 = o.1) : p = o := by
  rw [List.pairwise_map, List.pairwise_iff_getElem] at h
  obtain ⟨i, hi, rfl⟩ := List.mem_iff_getElem.1 hp
  obtain ⟨j, hj, rfl⟩ := List.mem_iff_getElem.1 ho
  rcases Nat.lt_trichotomy i j with hij | hij | hij
  · have := h i j hi hj hij; omega
  · subst hij; rfl
  · have := h j i hj hi hij; omega

theorem ranges_keep {w : World} {R : Value → Option (DataW Unit × List MemPlace)} {b r n : Nat} {D : DataW Unit} {left : Lit → Bool} {cnt : Nat} (h : w.ranges Tryz.prog 3 R b r n D left cnt) (o : Obj) (nq : Nat) :
    ((w.alloc o).drewN nq).ranges Tryz.prog 3 R b r n D left cnt := by
  obtain ⟨es, clock, since, seen, c0, h1, h2, h3, h4, h5, h6⟩ := h
  exact ⟨es, clock, since, seen, c0, (Below.heap_alloc _ _ _ (Array.getElem?_eq_some_iff.1 h1).1).trans h1, h2, h3, h4, (Below.heap_alloc _ _ _ (Array.getElem?_eq_some_iff.1 h5).1).trans h5, h6⟩

set_option maxRecDepth 8000 in
set_option maxHeartbeats 2000000 in
theorem next_any {w : World} {cb mb bb : Nat} {S : CS} (h : CallW w cb mb bb S) (hok : S.Ok) :
    Calls Tryz.prog 29 #[.pointer (some ⟨cb, 0, none⟩)] w fun e w' => e = .returned (.int .i64 S.nextT) ∧ Below w.heap.size w w' := by
  have law := int_keyed (P := Tryz.prog) Tryz.underlying3
  have hwf : ∀ x ∈ S.open_, (Lit.int .i64 x.1).wf = true := fun x hx => by
    have h1 := hok.keyb x hx
    have h2 := hok.made
    exact wf_i64 (by omega) (by omega)
  have hlen : S.open_.length ≤ maxLen := by have := hok.len; unfold maxLen; omega
  have hown := ownsA h.map hwf hlen
  have c5 := h.cell 5 (.int .i64 S.c.dl) rfl
  have c9 := h.cell 9 (.int .i64 S.p.tmo) rfl
  have c17 := h.cell 17 (.map (some mb)) rfl
  have c21 := h.cell 21 (.bool S.due) rfl
  have c22 := h.cell 22 (.int .i64 S.dueAt) rfl
  have H := Lib.hid h
  have HOK := Lib.hid hok
  clear h hok hwf hlen
  go_enter Tryz.func29, Tryz.ntmps29
  go_wp2_with (at_range; refine wpList_range_own _ rfl _ 54 rfl 3 71 law Tryz.underlying54 _ mb _ _ rfl hown ?_; intro w1 hrg0 hg0 hs0)
  go_frame
  have hb1 : Below w.heap.size w w1 := ⟨hg0.os, hg0.tape, hg0.output, hg0.size, fun k hk => hg0.block k hk (by simp)⟩
  have HI0 := Lib.hid (NextInv.mk hrg0 hb1 (Int.le_refl _) (fun o ho hl => by rw [has_open' ho] at hl; cases hl) (.inl rfl))
  clear hrg0 hg0 hs0 hb1 hown
  go_loopw [3] (fun v wr => ∃ (left : Lit → Bool) (cnt : Nat) (m : Int), v = .int .i64 m ∧ NextInv w wr mb w.heap.size S left cnt m) (fun _ wr => wr.rangeLeft mb w.heap.size)
  case atStart => exact ⟨_, _, _, rfl, HI0.out⟩
  case round =>
    obtain ⟨left, cnt, m, rfl, hinv⟩ := hrel
    have HI := Lib.hid hinv
    have hrg := hinv.rg
    clear hinv HI0
    go_wp2_with (at_next; refine wpList_next_ranges _ rfl _ rfl 3 law atR mapI attVal (fun key kl hk => by obtain ⟨x, rfl, _⟩ := Maps.keyOf_int_inv Tryz.underlying3 hk; exact ⟨x, rfl⟩) (fun v y hv => atR_inv hv) mb w.heap.size _ _ _ _ rfl hrg ?_ ?_)
    · intro hc0 hl0
      have hm := minA_eq HI.out.dl (fun o ho => HI.out.all o ho (hl0 _)) HI.out.one
      have HM := Lib.hid hm
      have hb := HI.out.below
      have d21 := bkeep hb c21
      have d22 := bkeep hb c22
      have HBES := Lib.hid (beside_any (H.out.below hb) HOK.out)
      have HB := Lib.hid hb
      clear hm hb hrg c5 c9 c17 c21 c22 hc0 hl0
      cases hd : S.due with
      | true =>
        rw [hd] at d21
        have HD : Hid (S.nextD = min m S.dueAt) := by unfold CS.nextD Hid; rw [hd, if_pos rfl, ← HM.out]
        cases hh : S.hasBeside with
        | true =>
          have HE : Hid (S.nextT = min (min m S.dueAt) S.besideT) := by unfold CS.nextT Hid; rw [hh, if_pos rfl, HD.out]
          rw [hh] at HBES
          go_wp2_with fail
          refine HBES.out.mono ?_
          rintro e w2 ⟨rfl, hb2⟩
          have HB2 := Lib.hid (btrans HB.out hb2)
          clear hb2
          go_wp2_with fail
          go_ret
          exact ⟨ret_int (by rw [HE.out]; try omega), HB2.out⟩
        | false =>
          have HE : Hid (S.nextT = min m S.dueAt) := by unfold CS.nextT Hid; rw [hh, if_neg (by decide), HD.out]
          rw [hh] at HBES
          go_wp2_with fail
          refine HBES.out.mono ?_
          rintro e w2 ⟨rfl, hb2⟩
          have HB2 := Lib.hid (btrans HB.out hb2)
          clear hb2
          go_wp2_with fail
          go_ret
          exact ⟨ret_int (by rw [HE.out]; try omega), HB2.out⟩
      | false =>
        rw [hd] at d21
        have HD : Hid (S.nextD = m) := by unfold CS.nextD Hid; rw [hd, if_neg (by decide), ← HM.out]
        cases hh : S.hasBeside with
        | true =>
          have HE : Hid (S.nextT = min (m) S.besideT) := by unfold CS.nextT Hid; rw [hh, if_pos rfl, HD.out]
          rw [hh] at HBES
          go_wp2_with fail
          refine HBES.out.mono ?_
          rintro e w2 ⟨rfl, hb2⟩
          have HB2 := Lib.hid (btrans HB.out hb2)
          clear hb2
          go_wp2_with fail
          go_ret
          exact ⟨ret_int (by rw [HE.out]; try omega), HB2.out⟩
        | false =>
          have HE : Hid (S.nextT = m) := by unfold CS.nextT Hid; rw [hh, if_neg (by decide), HD.out]
          rw [hh] at HBES
          go_wp2_with fail
          refine HBES.out.mono ?_
          rintro e w2 ⟨rfl, hb2⟩
          have HB2 := Lib.hid (btrans HB.out hb2)
          clear hb2
          go_wp2_with fail
          go_ret
          exact ⟨ret_int (by rw [HE.out]; try omega), HB2.out⟩
    · intro x a cx kl y1 y2 w2 cnt1 hkey hlk hv hat hrg1 hlt hg1 hs1 hen
      have hkl : kl = .int .i64 x := by
        obtain ⟨z, hz, hz', _⟩ := Maps.keyOf_int_inv Tryz.underlying3 hkey
        cases hz; exact hz'
      have hy1 : y1 = .lit (.int .i64 a) := by have h := hv; rw [atR_att] at h; cases h; rfl
      rw [hkl] at hat hrg1
      rw [hy1] at hat
      obtain ⟨o, ho, hox, hoa⟩ := atKey_open hat
      have hats := HOK.out.ats o ho
      rw [hoa] at hats
      obtain ⟨a0, a1⟩ := hats
      obtain ⟨t0, t1⟩ := HOK.out.tmo
      have hcw := H.out.lt.1
      have d9 : w2.cell? ⟨cb, 9, none⟩ = some (.int .i64 S.p.tmo) := hg1.cell (a := ⟨cb, 9, none⟩) (bkeep HI.out.below c9) (by simp; omega)
      have hb2 : Below w.heap.size w w2 := HI.out.below.grown hg1 HI.out.below.size (fun j hj => by cases hj; exact Nat.le_refl _)
      have hinv : ∀ o' nq, NextInv w ((w2.alloc o').drewN nq) mb w.heap.size S (fun z => left z && !z.sameKey (.int .i64 x)) cnt1 (min m (a + S.p.tmo)) := by
        intro o' nq
        refine ⟨ranges_keep hrg1 o' nq, below_drewN (hb2.alloc hb2.size _), by have := HI.out.dl; omega, fun p hp hl => ?_, ?_⟩
        · cases hlp : left (.int .i64 p.1) with
          | false => have := HI.out.all p hp hlp; omega
          | true =>
            rw [hlp, Bool.true_and] at hl
            have hpx : p.1 = x := by simpa [Lit.sameKey] using hl
            have : p = o := key_inj HOK.out.keys hp ho (by rw [hpx, hox])
            rw [this, hoa]; omega
        · rcases Int.le_total m (a + S.p.tmo) with hle | hle
          · rw [Int.min_eq_left hle]; exact HI.out.one
          · rw [Int.min_eq_right hle]; exact .inr ⟨o, ho, by rw [hoa]⟩
      have HINV := Lib.hid hinv
      have HRG := Lib.hid hrg1
      dsimp only [attVal, mapI] at hen
      have e9 := fun o => akeep d9 o
      clear hs1 hinv hrg1 hat hv hkey hlk hkl hy1 hox hoa ho hrg c5 c17 c21 c22 hg1 hb2
      go_wp2_with fail
      go_quiet (fail)
      go_wp2_with fail
      go_roundw
      case rel => exact ⟨_, cnt1, _, rfl, HINV.out _ _⟩
      case measure => rw [(HINV.out _ _).rg.left_eq, HI.out.rg.left_eq]; exact hlt

end Go.Proofs.YtkpjjhiighakfaaGreatDoor
