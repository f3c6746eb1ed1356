/- A server: what begins (printed by wip/tools/gen30s.py). -/
import Derived.Test.YtchjlkfkfcmhlaaDoorS29
namespace Go.Proofs.YtchjlkfkfcmhlaaDoor
open Go.RowKit
attribute [local go_sem ↓] Go.wp_at_zero Go.wp_at_succ

structure Sv.Ok (s : Sv) : Prop where
  work : 1 ≤ s.work ∧ s.work ≤ 4
  slots : 1 ≤ s.slots ∧ s.slots ≤ 3
  queue : 1 ≤ s.queue ∧ s.queue ≤ 4
  warm : 0 ≤ s.warm ∧ s.warm ≤ 6
theorem svOf_ok (n : Int) : (svOf n).Ok := by obtain ⟨h1, h2, h3, h4⟩ := svOf_bd n; exact ⟨h1, h2, h3, h4⟩

/-- What begins changes this alone. -/
def SameB (D D' : SD) : Prop := ∃ l mm works wv wb who, D' = { D with l := l, mm := mm, works := works, wv := wv, wb := wb, who := who }
theorem SameB.refl (D : SD) : SameB D D := ⟨_, _, _, _, _, _, rfl⟩

theorem SD.Ok.begun {D : SD} {now : Int} {k : Nat} (h : D.Ok now k) {y : Int × Int × Int} {l' : List (Int × Int × Int)} (hl : (y :: l').Perm D.l) {c : Cx} (hc : (y.1, c) ∈ D.mm) {mm' : List (Int × Cx)} (hm : ((y.1, c) :: mm').Perm D.mm)
    {x : Int} (hx : 1 ≤ x ∧ x ≤ 1000) (wv : Value) (wb : Option Nat) (who : Nat → Nat) : ({ D with l := l', mm := mm', works := D.works ++ [(c, x)], wv := wv, wb := wb, who := who } : SD).Ok now k := by
  have hlen := hm.length_eq
  rw [List.length_cons] at hlen
  refine ⟨?_, fun p hp => h.le p (hm.mem_iff.1 (List.mem_cons_of_mem _ hp)), h.last, h.ended, ?_, ?_, fun z hz => ?_, h.up, fun z hz => ?_, fun p hp => h.mc p (hm.mem_iff.1 (List.mem_cons_of_mem _ hp))⟩
  · have h1 : (y.1 :: l'.map (·.1)).Perm (y.1 :: mm'.map (·.1)) := ((List.Perm.map (fun x : Int × Int × Int => x.1) hl).trans h.ids).trans (List.Perm.map (fun x : Int × Cx => x.1) hm).symm
    exact (List.perm_cons _).1 h1
  · have := h.sum
    show (D.kt : Int) + ((D.works ++ [(c, x)]).length : Nat) + (mm'.length : Nat) ≤ k
    rw [List.length_append, List.length_singleton]; omega
  · have := h.sum2
    show D.ended + ((D.works ++ [(c, x)]).length : Nat) + (mm'.length : Nat) ≤ k
    rw [List.length_append, List.length_singleton]; omega
  · rcases List.mem_append.1 (show z ∈ D.works ++ [(c, x)] from hz) with e | e
    · exact h.left z e
    · rw [List.mem_singleton.1 e]; exact hx
  · rcases List.mem_append.1 (show z ∈ D.works ++ [(c, x)] from hz) with e | e
    · exact h.wc z e
    · rw [List.mem_singleton.1 e]; exact h.mc _ hc

def BegL (w : World) (sb : Nat) (hz now work : Int) (s : Sv) (k : Nat) (D : SD) (vo : Value) (wr : World) : Prop :=
  ∃ D' outs ob, D'.Ok now k ∧ BegR (slotsOf s D.down D.again D.up now) work now D.t.waits D.works D'.t.waits D'.works outs ∧ SameB D D' ∧ (∃ la lc, vo = .slice la outs.length lc) ∧ EI w sb hz now s D D' [] none outs ob (.slice none 0 0) vo wr

/-- What begins. -/
def BegPost (w : World) (sb : Nat) (hz now work : Int) (s : Sv) (k : Nat) (D : SD) (e : Ending) (w' : World) : Prop :=
  ∃ D' outs v, e = .returned v ∧ SR w' sb hz s now D' ∧ Mv w D w' D' ∧ OutAt w w' D' v outs ∧ D'.Ok now k ∧ SameB D D' ∧ BegR (slotsOf s D.down D.again D.up now) work now D.t.waits D.works D'.t.waits D'.works outs ∧ (slotsOf s D.down D.again D.up now ≤ (D'.works.length : Int) ∨ D'.t.waits = [])

def slen (v : Value) : Nat := match v with
  | .slice _ n _ => n
  | _ => 0

set_option maxRecDepth 8000 in
set_option maxHeartbeats 8000000 in
theorem begin_any {w : World} {sb : Nat} {hz now : Int} {s : Sv} {D : SD} {k : Nat} (h : SR w sb hz s now D) (hok : D.Ok now k) (hk : k ≤ 100) (hs : s.Ok) (hn : 0 ≤ now ∧ now ≤ 1000000) (lazy : Int) (hlz : 1 ≤ lazy ∧ lazy ≤ 4) :
    Calls Tryd.prog 31 #[.pointer (some ⟨sb, 0, none⟩), .int .i64 now, .int .i64 lazy] w (BegPost w sb hz now (s.work * lazy) s k D) := by
  have hst : BegL w sb hz now (s.work * lazy) s k D (.slice none 0 0) w := ⟨D, [], none, hok, .start, SameB.refl D, ⟨_, _, rfl⟩, h, Mv.refl w D, wkK.nil _, (fun g e => by cases e), ouK.nil _, (fun g e => by cases e), fun g e => by cases e⟩
  have HST := Lib.hid hst
  have HTM := Lib.hid (fun w => times_any s.work lazy (by have := hs.work; omega) (by omega) w)
  have HWL : Hid (1 ≤ s.work * lazy ∧ s.work * lazy ≤ 1000) := by
    have h1 : s.work * lazy ≤ 4 * 4 := Int.mul_le_mul hs.work.2 hlz.2 (by omega) (by omega)
    have h2 : 1 * 1 ≤ s.work * lazy := Int.mul_le_mul hs.work.1 hlz.1 (by omega) (by have := hs.work; omega)
    exact ⟨by omega, by omega⟩
  have HS := Lib.hid hs
  have HNW := Lib.hid hn
  have HQ0 : Hid (D.t.waits.length ≤ 100) := by show (D.mm.map (·.2)).length ≤ 100; rw [List.length_map]; have := hok.sum; omega
  clear h hst hok hs hn hlz
  go_enter Tryd.func31, Tryd.ntmps31
  go_wp2_with fail
  go_loopw [7] (fun vo wr => Hid (BegL w sb hz now (s.work * lazy) s k D vo wr)) (fun vo _ => (200 - slen vo))
  case atStart => exact HST
  case round =>
    obtain ⟨D1, outs, ob, hok, hB, ⟨l0, mm0, works0, wv0, wb0, who0, hD1⟩, ⟨la2, lc2, rfl⟩, hEI⟩ := hrel.out
    obtain ⟨m2, hm2⟩ : ∃ m2, m2 = outs.length := ⟨_, rfl⟩
    have hcnt := hB.count
    rw [← hm2] at hEI hcnt ⊢
    have hsame : D1.down = D.down ∧ D1.again = D.again ∧ D1.up = D.up := by rw [hD1]; exact ⟨rfl, rfl, rfl⟩
    obtain ⟨sl, hsl⟩ : ∃ sl, sl = slotsOf s D.down D.again D.up now := ⟨_, rfl⟩
    have hslot := slots_any hEI.sr hok.up HNW.out.2 HS.out.warm.1
    rw [hsame.1, hsame.2.1, hsame.2.2] at hslot
    rw [← hsl] at hslot hB
    obtain ⟨la0, lc0, hv⟩ := hEI.sr.wk.form
    obtain ⟨m, hm⟩ : ∃ m, m = D1.works.length := ⟨_, rfl⟩
    rw [← hm] at hv
    have HSL : Hid (∀ W, SR W sb hz s now D1 → Calls Tryd.prog 25 #[.pointer (some ⟨sb, 0, none⟩), .int .i64 now] W fun e w' => e = .returned (.int .i64 sl) ∧ Below W.heap.size W w') := fun W hW => by
      have hslot := slots_any hW hok.up HNW.out.2 HS.out.warm.1
      rw [hsame.1, hsame.2.1, hsame.2.2, ← hsl] at hslot
      exact hslot
    have HSD : Hid (SameB D D1) := ⟨l0, mm0, works0, wv0, wb0, who0, hD1⟩
    have HOK := Lib.hid hok
    have HB := Lib.hid hB
    have HEI := Lib.hid hEI
    have HM2 := Lib.hid hm2
    have HMW := Lib.hid hm
    have HV := Lib.hid hv
    have HSL0 := Lib.hid hsl
    have HC3 : Hid (∀ W, SR W sb hz s now D1 → W.cell? ⟨sb, 3, none⟩ = some (.slice la0 m lc0)) := fun W hW => by
      rw [← hv]; exact hW.cell rfl
    have HCNT : Hid (m2 ≤ 100 ∧ D1.l.length ≤ 900 ∧ m ≤ 100) := by
      have h1 := HQ0.out
      have h2 := hok.len
      have h3 := hok.sum
      exact ⟨by omega, by omega, by omega⟩
    clear hok hB hD1 hEI hm2 hm hcnt hsame hsl hslot hv hrel l0 mm0 works0 wv0 wb0 who0
    go_wp2_with fail
    refine wp_region_held_drew (S := fun W => W.cell? ⟨sb, 3, none⟩ = some (.slice la0 m lc0)) (by kernel_rfl) (HC3.out _ (HEI.out.sr.below ((Below.refl _ _).drew))) (fun hHeld => ?_)
    refine wpAnyH_take (i := 0) (v := ?_) rfl (by kernel_rfl) (by kernel_rfl) (by kernel_rfl) (fun _ _ _ h => h) (Or.inl ⟨by kernel_rfl, ?_⟩) (by assumption) ?_
    rotate_left
    · (intro w hSw; (try dsimp only at hSw); go_simp; (try rw [if_neg (by (try simp only [ByteArray.size_append]); omega)]); (try with_reducible rfl))
    try simp only [Act.put]
    refine wpAnyH_take (i := 1) (v := ?_) rfl (by kernel_rfl) (by kernel_rfl) (by kernel_rfl) (fun _ _ _ h => h) (Or.inl ⟨by kernel_rfl, ?_⟩) (by assumption) ?_
    rotate_left
    · (intro w hSw; (try dsimp only at hSw); go_simp; (try rw [if_neg (by (try simp only [ByteArray.size_append]); omega)]); (try with_reducible rfl))
    try simp only [Act.put]
    refine wpAnyH_take (i := 2) (v := ?_) rfl (by kernel_rfl) (by kernel_rfl) (by kernel_rfl) (fun _ _ _ h => h) (Or.inl ⟨by kernel_rfl, ?_⟩) (by assumption) ?_
    rotate_left
    · (intro w hSw; (try dsimp only at hSw); go_simp; (try rw [if_neg (by (try simp only [ByteArray.size_append]); omega)]); (try with_reducible rfl))
    try simp only [Act.put]
    refine wpAnyH_take (i := 3) (v := ?_) rfl (by kernel_rfl) (by kernel_rfl) (by kernel_rfl) (fun _ _ _ h => h) (Or.inl ⟨by kernel_rfl, ?_⟩) (by assumption) ?_
    rotate_left
    · (intro w hSw; (try dsimp only at hSw); go_simp; (try rw [if_neg (by (try simp only [ByteArray.size_append]); omega)]); (try with_reducible rfl))
    try simp only [Act.put]
    refine wpAnyH_take (i := 4) (v := ?_) rfl (by kernel_rfl) (by kernel_rfl) (by kernel_rfl) (fun _ _ _ h => h) (Or.inl ⟨by kernel_rfl, ?_⟩) (by assumption) ?_
    rotate_left
    · (intro w hSw; (try dsimp only at hSw); go_simp; (try rw [if_neg (by (try simp only [ByteArray.size_append]); omega)]); (try with_reducible rfl))
    try simp only [Act.put]
    refine wpAnyH_take (i := 5) (v := ?_) rfl (by kernel_rfl) (by kernel_rfl) (by kernel_rfl) (fun _ _ _ h => h) (Or.inl ⟨by kernel_rfl, ?_⟩) (by assumption) ?_
    rotate_left
    · (intro w hSw; (try dsimp only at hSw); go_simp; (try rw [if_neg (by (try simp only [ByteArray.size_append]); omega)]); (try with_reducible rfl))
    try simp only [Act.put]
    refine wpAnyH_take (i := 6) (v := ?_) rfl (by kernel_rfl) (by kernel_rfl) (by kernel_rfl) (fun _ _ _ h => h) (Or.inl ⟨by kernel_rfl, ?_⟩) (by assumption) ?_
    rotate_left
    · (intro w hSw; (try dsimp only at hSw); go_simp; (try rw [if_neg (by (try simp only [ByteArray.size_append]); omega)]); (try with_reducible rfl))
    try simp only [Act.put]
    refine wpAnyH_take (i := 7) (v := ?_) rfl (by kernel_rfl) (by kernel_rfl) (by kernel_rfl) (fun _ _ _ h => h) (Or.inl ⟨by kernel_rfl, ?_⟩) (by assumption) ?_
    rotate_left
    · (intro w hSw; (try dsimp only at hSw); go_simp; (try rw [if_neg (by (try simp only [ByteArray.size_append]); omega)]); (try with_reducible rfl))
    try simp only [Act.put]
    refine wpAnyH_ready (rs := [8]) (by kernel_rfl) (by simp) ?_
    refine AllReadyH.cons rfl (fun K hK => ?_) AllReadyH.nil
    go_simp
    refine (HSL.out _ (HEI.out.sr.below ((Below.refl _ _).drew))).mono ?_
    rintro e W2 ⟨rfl, hb2⟩
    have HEI2 := Lib.hid (HEI.out.below (bdrew hb2))
    refine hK.out _ _ (HC3.out _ HEI2.out.sr) (fun hHeld => ?_)
    clear hK K
    try simp only [Act.put]
    clear hb2
    refine wpAnyH_take (i := 9) (v := ?_) rfl (by kernel_rfl) (by kernel_rfl) (by kernel_rfl) (fun _ _ _ h => h) (Or.inl ⟨by kernel_rfl, ?_⟩) (by assumption) ?_
    rotate_left
    · (intro w hSw; (try dsimp only at hSw); go_simp; (try rw [if_neg (by (try simp only [ByteArray.size_append]); omega)]); (try with_reducible rfl))
    try simp only [Act.put]
    refine wpAnyH_done (by kernel_rfl) ?_ _
    try simp only [Act.put]
    clear hHeld
    go_simp
    by_cases hlt : (m : Int) < sl
    · have t1 : decide ((m : Int) < sl) = true := decide_eq_true hlt
      have HLT := Lib.hid hlt
      have c0 : W2.cell? ⟨sb, 0, none⟩ = some (.pointer (some ⟨D1.qb, 0, none⟩)) := HEI2.out.sr.cell rfl
      have HTK := Lib.hid (stake_any HEI2.out.sr HCNT.out.2.1)
      have p1 : ¬ sl ≤ (m : Int) := by omega
      go_wp2_with fail
      clear hlt p1
      refine HTK.out.mono ?_
      rintro e W3 (⟨hl0, rfl, hb3⟩ | ⟨⟨y1, y2, y3⟩, l', who', rfl, hl, sr3, mv3⟩)
      · have hE3 := HEI2.out.below hb3
        have HF : Hid (∀ W, Below W3.heap.size W3 W → BegPost w sb hz now (s.work * lazy) s k D (.returned (.slice la2 m2 lc2)) W) := fun W hb =>
          ⟨D1, outs, _, rfl, hE3.sr.below hb, hE3.mv.below hb, (hE3.below hb).out, HOK.out, HSD.out, HSL0.out ▸ HB.out, .inr (by
            have h1 := HOK.out.len; rw [hl0] at h1
            show D1.mm.map (·.2) = []
            rw [List.eq_nil_of_length_eq_zero h1.symm]; rfl)⟩
        clear hl0 hb3 hE3 c0
        unfold itV
        dsimp only
        go_wp2_with fail
        go_ret
        exact HF.out _ ((Below.refl _ _).alloc (Nat.le_refl _) _)
      · unfold itV
        dsimp only
        obtain ⟨c, hc, hdr⟩ := HOK.out.drop hl
        dsimp only at hc hdr
        have hE3 := HEI2.out.move sr3 mv3
        obtain ⟨W4, hW4⟩ : ∃ W4, W3.alloc (.cells #[.int .i64 y1, .int .i64 y2, .int .i64 y3] 67) = W4 := ⟨_, rfl⟩
        have b4 : Below W3.heap.size W3 W4 := by rw [← hW4]; exact (Below.refl _ _).alloc (Nat.le_refl _) _
        have z4 : W4.heap[W3.heap.size]? = some (.cells #[.int .i64 y1, .int .i64 y2, .int .i64 y3] 67 (0, 0)) := by rw [← hW4]; exact heap_alloc_new W3 _
        have hE4 := hE3.below b4
        have hnd : (D1.mm.map (·.1)).Nodup := by have := sr3.m.1; rwa [cxm_keys] at this
        obtain ⟨mm', hmd, hmp⟩ := mdel_at hnd hc
        have hlk := fun (W : World) (hb : Below W4.heap.size W4 W) => run_lookup_at (w := W) (int_law Tryd.underlying3) (hE4.sr.below hb).m Tryd.underlying59 (z := .agg #[.int .i64 0, .string ⟨#[]⟩, .int .i64 0, .bool false, .bool false, .int .i64 0, .int .i64 0, .int .i64 0, .int .i64 0]) (by kernel_rfl) y1 false
        rw [mget_at hnd hc] at hlk
        simp only [Bool.false_eq_true, if_false, Option.getD_some] at hlk
        unfold cxV cxCells at hlk
        have HL : Hid (∀ W, Below W4.heap.size W4 W → (W.cell? ⟨sb, 2, none⟩ = some (.map (some D1.mb)) ∧ W.cell? ⟨W3.heap.size, 0, none⟩ = some (.int .i64 y1) ∧ (Instr.lookup 59 (.map (some D1.mb)) (.int .i64 y1) false).run Tryd.prog W = .ok (.agg #[.int .i64 c.req, .string c.call, .int .i64 c.try_, .bool c.idem, .bool c.shadow, .int .i64 c.dl, .int .i64 c.purse, .int .i64 c.ver, .int .i64 c.prio]) W)) := fun W hb =>
          ⟨(hE4.sr.below hb).cell rfl, bkeep hb (block_cell z4 0 _ rfl), hlk W hb⟩
        obtain ⟨W5, hW5⟩ : ∃ W5, (W4.alloc (.cells #[.int .i64 c.req, .string c.call, .int .i64 c.try_, .bool c.idem, .bool c.shadow, .int .i64 c.dl, .int .i64 c.purse, .int .i64 c.ver, .int .i64 c.prio] 31)).drew = W5 := ⟨_, rfl⟩
        have b5 : Below W4.heap.size W4 W5 := by rw [← hW5]; exact ((Below.refl _ _).alloc (Nat.le_refl _) _).drew
        have z5 : W5.heap[W4.heap.size]? = some (.cells #[.int .i64 c.req, .string c.call, .int .i64 c.try_, .bool c.idem, .bool c.shadow, .int .i64 c.dl, .int .i64 c.purse, .int .i64 c.ver, .int .i64 c.prio] 31 (0, 0)) := by rw [← hW5]; exact heap_alloc_new W4 _
        have HE5 := Lib.hid (hE4.below b5)
        have HN10 : Hid (who' W4.heap.size = 0) := hE4.free
        have k2 := (HL.out W5 b5).1
        have kx := (HL.out W5 b5).2.1
        obtain ⟨W6, hdel, hm6, hg6⟩ := run_delete_at (w := W5.drew) (int_law Tryd.underlying3) (HE5.out.sr.below ((Below.refl _ _).drew)).m Tryd.underlying59 3 0 y1
        rw [hmd] at hm6
        obtain ⟨sr6, mv6⟩ := (HE5.out.sr.below ((Below.refl _ _).drew)).waits hm6 hg6
        have hz5 : W4.heap.size < W5.heap.size := (Array.getElem?_eq_some_iff.1 z5).1
        have z6 := (mv6.keep0 HN10.out hz5).trans z5
        have HE6 := Lib.hid (HE5.out.move sr6 (Mv.pre ((Below.refl _ _).drew) mv6))
        have HZ6 : Hid (W6.heap[W4.heap.size]? = some (.cells (cxCells c).toArray 31 (0, 0))) := z6
        have x0 := block_cell z6 0 _ rfl
        have x1 := block_cell z6 1 _ rfl
        have x2 := block_cell z6 2 _ rfl
        have x3 := block_cell z6 3 _ rfl
        have x4 := block_cell z6 4 _ rfl
        have x5 := block_cell z6 5 _ rfl
        have x6 := block_cell z6 6 _ rfl
        have x7 := block_cell z6 7 _ rfl
        have x8 := block_cell z6 8 _ rfl
        have HHL := Lib.hid hl
        have HHC := Lib.hid hc
        have HMP := Lib.hid hmp
        have HDR := Lib.hid (hdr mm' hmp who')
        clear hl hc hdr sr3 mv3 hE3 b4 z4 hE4 hnd hmd hmp hlk b5 z5 hm6 hg6 sr6 mv6 hz5 z6 c0
        go_wp2_with fail
        clear hW4
        refine wp_region_split_held 9 (fun W => W.cell? ⟨sb, 2, none⟩ = some (.map (some D1.mb)) ∧ W.cell? ⟨W3.heap.size, 0, none⟩ = some (.int .i64 y1) ∧ (Instr.lookup 59 (.map (some D1.mb)) (.int .i64 y1) false).run Tryd.prog W = .ok (.agg #[.int .i64 c.req, .string c.call, .int .i64 c.try_, .bool c.idem, .bool c.shadow, .int .i64 c.dl, .int .i64 c.purse, .int .i64 c.ver, .int .i64 c.prio]) W) (by kernel_rfl) (by kernel_rfl) (HL.out _ (Below.refl _ _).drew) (fun K0 hK0 hHeld => ?_)
        simp only [List.take_succ_cons, List.take_zero]
        refine wpAnyH_take (i := 0) (v := ?_) rfl (by kernel_rfl) (by kernel_rfl) (by kernel_rfl) (fun _ _ _ h => h) (Or.inl ⟨by kernel_rfl, ?_⟩) (by assumption) ?_
        rotate_left
        · (intro w hSw; (try dsimp only at hSw); go_simp; (try rw [if_neg (by (try simp only [ByteArray.size_append]); omega)]); (try with_reducible rfl))
        try simp only [Act.put]
        refine wpAnyH_take (i := 1) (v := ?_) rfl (by kernel_rfl) (by kernel_rfl) (by kernel_rfl) (fun _ _ _ h => h) (Or.inl ⟨by kernel_rfl, ?_⟩) (by assumption) ?_
        rotate_left
        · (intro w hSw; (try dsimp only at hSw); go_simp; (try rw [if_neg (by (try simp only [ByteArray.size_append]); omega)]); (try with_reducible rfl))
        try simp only [Act.put]
        refine wpAnyH_take (i := 2) (v := ?_) rfl (by kernel_rfl) (by kernel_rfl) (by kernel_rfl) (fun _ _ _ h => h) (Or.inl ⟨by kernel_rfl, ?_⟩) (by assumption) ?_
        rotate_left
        · (intro w hSw; (try dsimp only at hSw); go_simp; (try rw [if_neg (by (try simp only [ByteArray.size_append]); omega)]); (try with_reducible rfl))
        try simp only [Act.put]
        refine wpAnyH_take (i := 3) (v := ?_) rfl (by kernel_rfl) (by kernel_rfl) (by kernel_rfl) (fun _ _ _ h => h) (Or.inl ⟨by kernel_rfl, ?_⟩) (by assumption) ?_
        rotate_left
        · (intro w hSw; (try dsimp only at hSw); go_simp; (try rw [if_neg (by (try simp only [ByteArray.size_append]); omega)]); (try with_reducible rfl))
        try simp only [Act.put]
        refine wpAnyH_take (i := 4) (v := ?_) rfl (by kernel_rfl) (by kernel_rfl) (by kernel_rfl) (fun _ _ _ h => h) (Or.inl ⟨by kernel_rfl, ?_⟩) (by assumption) ?_
        rotate_left
        · (intro w hSw; (try dsimp only at hSw); go_simp; (try rw [if_neg (by (try simp only [ByteArray.size_append]); omega)]); (try with_reducible rfl))
        try simp only [Act.put]
        refine wpAnyH_take (i := 5) (v := ?_) rfl (by kernel_rfl) (by kernel_rfl) (by kernel_rfl) (fun _ _ _ h => h) (Or.inl ⟨by kernel_rfl, ?_⟩) (by assumption) ?_
        rotate_left
        · (intro w hSw; (try dsimp only at hSw); go_simp; (try rw [if_neg (by (try simp only [ByteArray.size_append]); omega)]); (try with_reducible rfl))
        try simp only [Act.put]
        refine wpAnyH_take (i := 6) (v := ?_) rfl (by kernel_rfl) (by kernel_rfl) (by kernel_rfl) (fun _ _ _ h => h) (Or.inl ⟨by kernel_rfl, ?_⟩) (by assumption) ?_
        rotate_left
        · (intro w hSw; (try dsimp only at hSw); go_simp; (try rw [if_neg (by (try simp only [ByteArray.size_append]); omega)]); (try with_reducible rfl))
        try simp only [Act.put]
        refine wpAnyH_take (i := 7) (v := ?_) rfl (by kernel_rfl) (by kernel_rfl) (by kernel_rfl) (fun _ _ _ h => h) (Or.inl ⟨by kernel_rfl, ?_⟩) (by assumption) ?_
        rotate_left
        · (intro w hSw; (try dsimp only at hSw); go_simp; (try rw [if_neg (by (try simp only [ByteArray.size_append]); omega)]); (try with_reducible rfl))
        try simp only [Act.put]
        refine wpAnyH_ready (rs := [8]) (by kernel_rfl) (by simp) ?_
        refine AllReadyH.cons rfl (fun K hK => ?_) AllReadyH.nil
        go_simp
        refine hK.out _ _ (HL.out _ ((Below.refl _ _).alloc (Nat.le_refl _) _).drew) (fun hHeld => ?_)
        clear hK K
        try simp only [Act.put]
        refine wpAnyH_done (by kernel_rfl) ?_ _
        simp only [Exit.then]
        refine hK0 _ _ ?_
        clear hK0 K0 hHeld
        try simp only [Act.put]
        go_wp2_with fail
        clear hW5
        refine wp_region_split_held 7 (fun W => W.cell? ⟨sb, 2, none⟩ = some (.map (some D1.mb)) ∧ W.cell? ⟨W3.heap.size, 0, none⟩ = some (.int .i64 y1)) (by kernel_rfl) (by kernel_rfl) ⟨k2, kx⟩ (fun K0 hK0 hHeld => ?_)
        simp only [List.take_succ_cons, List.take_zero]
        refine wpAnyH_take (i := 0) (v := ?_) rfl (by kernel_rfl) (by kernel_rfl) (by kernel_rfl) (fun _ _ _ h => h) (Or.inl ⟨by kernel_rfl, ?_⟩) (by assumption) ?_
        rotate_left
        · (intro w hSw; (try dsimp only at hSw); go_simp; (try rw [if_neg (by (try simp only [ByteArray.size_append]); omega)]); (try with_reducible rfl))
        try simp only [Act.put]
        refine wpAnyH_take (i := 1) (v := ?_) rfl (by kernel_rfl) (by kernel_rfl) (by kernel_rfl) (fun _ _ _ h => h) (Or.inl ⟨by kernel_rfl, ?_⟩) (by assumption) ?_
        rotate_left
        · (intro w hSw; (try dsimp only at hSw); go_simp; (try rw [if_neg (by (try simp only [ByteArray.size_append]); omega)]); (try with_reducible rfl))
        try simp only [Act.put]
        refine wpAnyH_take (i := 2) (v := ?_) rfl (by kernel_rfl) (by kernel_rfl) (by kernel_rfl) (fun _ _ _ h => h) (Or.inl ⟨by kernel_rfl, ?_⟩) (by assumption) ?_
        rotate_left
        · (intro w hSw; (try dsimp only at hSw); go_simp; (try rw [if_neg (by (try simp only [ByteArray.size_append]); omega)]); (try with_reducible rfl))
        try simp only [Act.put]
        refine wpAnyH_take (i := 3) (v := ?_) rfl (by kernel_rfl) (by kernel_rfl) (by kernel_rfl) (fun _ _ _ h => h) (Or.inl ⟨by kernel_rfl, ?_⟩) (by assumption) ?_
        rotate_left
        · (intro w hSw; (try dsimp only at hSw); go_simp; (try rw [if_neg (by (try simp only [ByteArray.size_append]); omega)]); (try with_reducible rfl))
        try simp only [Act.put]
        refine wpAnyH_take (i := 4) (v := ?_) rfl (by kernel_rfl) (by kernel_rfl) (by kernel_rfl) (fun _ _ _ h => h) (Or.inl ⟨by kernel_rfl, ?_⟩) (by assumption) ?_
        rotate_left
        · (intro w hSw; (try dsimp only at hSw); go_simp; (try rw [if_neg (by (try simp only [ByteArray.size_append]); omega)]); (try with_reducible rfl))
        try simp only [Act.put]
        refine wpAnyH_take (i := 5) (v := ?_) rfl (by kernel_rfl) (by kernel_rfl) (by kernel_rfl) (fun _ _ _ h => h) (Or.inl ⟨by kernel_rfl, ?_⟩) (by assumption) ?_
        rotate_left
        · (intro w hSw; (try dsimp only at hSw); go_simp; (try rw [if_neg (by (try simp only [ByteArray.size_append]); omega)]); (try with_reducible rfl))
        try simp only [Act.put]
        refine wpAnyH_take (i := 6) (v := ?_) rfl (by kernel_rfl) (by kernel_rfl) (by kernel_rfl) (fun _ _ _ h => h) (Or.inl ⟨by kernel_rfl, ?_⟩) (by assumption) ?_
        rotate_left
        · (intro w hSw; (try dsimp only at hSw); go_simp; (try rw [if_neg (by (try simp only [ByteArray.size_append]); omega)]); (try with_reducible rfl))
        try simp only [Act.put]
        refine wpAnyH_done (by kernel_rfl) ?_ _
        simp only [Exit.then]
        refine hK0 _ _ ?_
        clear hK0 K0 hHeld
        try simp only [Act.put]
        have HPQ : Hid ((c :: mm'.map (·.2)).Perm D1.t.waits) := List.Perm.map (fun x : Int × Cx => x.2) HMP.out
        clear k2 kx
        by_cases hdl : c.dl ≤ now
        · have t2 : decide (c.dl ≤ now) = true := decide_eq_true hdl
          obtain ⟨WA, hWA⟩ : ∃ WA, W6.alloc (.cells #[.int .i64 3, .int .i64 c.req, .string c.call, .int .i64 c.try_, .bool c.idem, .bool c.shadow, .int .i64 c.dl, .int .i64 c.purse, .int .i64 c.ver, .int .i64 c.prio, .bool false, .int .i64 32] 40) = WA := ⟨_, rfl⟩
          have bA : Below W6.heap.size W6 WA := by rw [← hWA]; exact (Below.refl _ _).alloc (Nat.le_refl _) _
          have zA : WA.heap[W6.heap.size]? = some (.cells (ouCells ⟨3, c, false, 32⟩).toArray 40 (0, 0)) := by rw [← hWA]; exact heap_alloc_new W6 _
          obtain ⟨la3, lc3, ob3, W9, happ, hE9, -⟩ := (HE6.out.below bA).push2 HM2.out (by have := HM2.out; have := HCNT.out; omega) zA 1
          have HF : Hid (BegL w sb hz now (s.work * lazy) s k D (.slice la3 (m2 + 1) lc3) W9) := by
            obtain ⟨l0, mm0, works0, wv0, wb0, who0, hD1⟩ := HSD.out
            refine ⟨_, outs ++ [⟨3, c, false, 32⟩], ob3, HDR.out, ?_, ⟨l', mm', D1.works, D1.wv, D1.wb, who', by rw [hD1]⟩, ⟨la3, lc3, by rw [List.length_append, ← HM2.out]; rfl⟩, hE9⟩
            rw [← HSL0.out]
            exact .late HB.out (by rw [← HMW.out]; exact HLT.out) HPQ.out hdl
          clear bA zA hE9 hdl
          go_wp2_with (at_builtin; refine wpList_run (by rfl) (exec_append _ _ _ _ (by rfl) _ _ (by rfl) (by rfl) happ) ?_)
          go_roundw
          case rel => exact HF
          case measure => have := HCNT.out; simp [slen]; omega
        · have t2 : decide (c.dl ≤ now) = false := decide_eq_false hdl
          have HDL := Lib.hid hdl
          have sr6 := HE6.out.sr
          have hc3 : ∀ W, Below W6.heap.size W6 W → (W.cell? ⟨sb, 3, none⟩ = some (.slice la0 m lc0) ∧ W.cell? ⟨sb, 8, none⟩ = some (.int .i64 s.work) ∧ W.cell? ⟨W4.heap.size, 0, none⟩ = some (.int .i64 c.req) ∧ W.cell? ⟨W4.heap.size, 1, none⟩ = some (.string c.call) ∧ W.cell? ⟨W4.heap.size, 2, none⟩ = some (.int .i64 c.try_) ∧ W.cell? ⟨W4.heap.size, 3, none⟩ = some (.bool c.idem) ∧ W.cell? ⟨W4.heap.size, 4, none⟩ = some (.bool c.shadow) ∧ W.cell? ⟨W4.heap.size, 5, none⟩ = some (.int .i64 c.dl) ∧ W.cell? ⟨W4.heap.size, 6, none⟩ = some (.int .i64 c.purse) ∧ W.cell? ⟨W4.heap.size, 7, none⟩ = some (.int .i64 c.ver) ∧ W.cell? ⟨W4.heap.size, 8, none⟩ = some (.int .i64 c.prio)) := fun W hb => by
            have g3 : W.cell? ⟨sb, 3, none⟩ = some D1.wv := (sr6.below hb).cell rfl
            have g8 : W.cell? ⟨sb, 8, none⟩ = some (.int .i64 s.work) := (sr6.below hb).cell rfl
            rw [HV.out] at g3
            have hh := (hb.block _ (Array.getElem?_eq_some_iff.1 HZ6.out).1).trans HZ6.out
            exact ⟨g3, g8, block_cell hh 0 _ rfl, block_cell hh 1 _ rfl, block_cell hh 2 _ rfl, block_cell hh 3 _ rfl, block_cell hh 4 _ rfl, block_cell hh 5 _ rfl, block_cell hh 6 _ rfl, block_cell hh 7 _ rfl, block_cell hh 8 _ rfl⟩
          have HC10 := Lib.hid hc3
          obtain ⟨W7, hW7⟩ : ∃ W7, (W6.alloc (.cells #[.int .i64 c.req, .string c.call, .int .i64 c.try_, .bool c.idem, .bool c.shadow, .int .i64 c.dl, .int .i64 c.purse, .int .i64 c.ver, .int .i64 c.prio, .int .i64 (s.work * lazy)] 94)).drew = W7 := ⟨_, rfl⟩
          have b7 : Below W6.heap.size W6 W7 := by rw [← hW7]; exact ((Below.refl _ _).alloc (Nat.le_refl _) _).drew
          have z7 : W7.heap[W6.heap.size]? = some (.cells (wkCells (c, s.work * lazy)).toArray 94 (0, 0)) := by rw [← hW7]; exact heap_alloc_new W6 _
          have hwk7 : wkK.At W7 (.slice la0 m lc0) D1.works D1.wb := by rw [← HV.out]; exact (sr6.below b7).wk
          obtain ⟨la4, lc4, wb4, W8, hap0, hr8, hg8, hwb⟩ := hwk7.push HMW.out (by have := HMW.out; have := HCNT.out; omega) z7 1
          have happ : (Builtin.append_ #[60, 60] 60 #[.slice la0 m lc0, .slice (some ⟨W6.heap.size, 0, none⟩) 1 1]).run Tryd.prog W7 = .ok (.slice la4 (m + 1) lc4) W8 := hap0
          have f8 : Fr (fun b => D1.wb = some b) W7 W8 := Fr.ofGrown hg8 (fun k e => e)
          have hwsb : ¬ D1.wb = some sb := fun e => by have h1 := sr6.ww sb e; have h2 := sr6.own; omega
          have hwn : ¬ D1.wb = some W4.heap.size := fun e => by have h1 := sr6.ww _ e; have h2 := HN10.out; dsimp only at h1; omega
          have h8c : W8.cell? ⟨sb, 3, none⟩ = some (.slice la0 m lc0) ∧ W8.cell? ⟨sb, 8, none⟩ = some (.int .i64 s.work) ∧ W8.cell? ⟨W4.heap.size, 0, none⟩ = some (.int .i64 c.req) ∧ W8.cell? ⟨W4.heap.size, 1, none⟩ = some (.string c.call) ∧ W8.cell? ⟨W4.heap.size, 2, none⟩ = some (.int .i64 c.try_) ∧ W8.cell? ⟨W4.heap.size, 3, none⟩ = some (.bool c.idem) ∧ W8.cell? ⟨W4.heap.size, 4, none⟩ = some (.bool c.shadow) ∧ W8.cell? ⟨W4.heap.size, 5, none⟩ = some (.int .i64 c.dl) ∧ W8.cell? ⟨W4.heap.size, 6, none⟩ = some (.int .i64 c.purse) ∧ W8.cell? ⟨W4.heap.size, 7, none⟩ = some (.int .i64 c.ver) ∧ W8.cell? ⟨W4.heap.size, 8, none⟩ = some (.int .i64 c.prio) := by
            obtain ⟨q0, q1, q2, q3, q4, q5, q6, q7, q8, q9, q10⟩ := HC10.out W7 b7
            exact ⟨f8.cell q0 hwsb, f8.cell q1 hwsb, f8.cell q2 hwn, f8.cell q3 hwn, f8.cell q4 hwn, f8.cell q5 hwn, f8.cell q6 hwn, f8.cell q7 hwn, f8.cell q8 hwn, f8.cell q9 hwn, f8.cell q10 hwn⟩
          have blk8 := (f8.block sb (Nat.lt_of_lt_of_le (sr6.lt sb (by rw [sr6.own]; decide)) b7.size) hwsb).trans (sr6.below b7).blk
          have u8 := block_free blk8 3
          have e9 := setCell_block W8 sb 3 _ _ (0, 0) (.slice la4 (m + 1) lc4) blk8
          have f9 := Fr.setCell (fun b => b = sb) W8 ⟨sb, 3, none⟩ (.slice la4 (m + 1) lc4) rfl
          obtain ⟨W9, hW9⟩ : ∃ W9, W8.setCell ⟨sb, 3, none⟩ (.slice la4 (m + 1) lc4) = W9 := ⟨_, rfl⟩
          rw [hW9] at e9 f9
          have hs4 : wb4 = D1.wb ∨ ∃ g, wb4 = some g ∧ W6.heap.size ≤ g := hwb.imp id fun e => ⟨_, e, b7.size⟩
          have hsb4 : ∀ g, wb4 = some g → g ≠ sb := fun g e e2 => by
            rcases hs4 with e3 | ⟨g', e3, hg'⟩
            · exact hwsb (by rw [← e3, e, e2])
            · rw [e] at e3; cases e3; have := sr6.lt sb (by rw [sr6.own]; decide); omega
          have hr9 := hr8.keep (w' := W9) fun g e => f9.block g (hr8.lt g e) (hsb4 g e)
          have f69 : Fr (fun b => b = sb ∨ D1.wb = some b) W6 W9 := ((Fr.ofBelow (F := fun b => b = sb ∨ D1.wb = some b) b7).trans f8 (fun b e => .inl (.inr e))).trans f9 (fun b e => .inl (.inl e))
          obtain ⟨sr9, mv9⟩ := sr6.work hr9 hs4 f69 e9
          have z9 : W9.heap[W4.heap.size]? = some (.cells #[.int .i64 c.req, .string c.call, .int .i64 c.try_, .bool c.idem, .bool c.shadow, .int .i64 c.dl, .int .i64 c.purse, .int .i64 c.ver, .int .i64 c.prio] 31 (0, 0)) := (mv9.keep0 HN10.out (Array.getElem?_eq_some_iff.1 HZ6.out).1).trans HZ6.out
          have HE9 := Lib.hid (HE6.out.move sr9 mv9)
          have y0 := block_cell z9 0 _ rfl
          have y1 := block_cell z9 1 _ rfl
          have y2 := block_cell z9 2 _ rfl
          have y3 := block_cell z9 3 _ rfl
          have y4 := block_cell z9 4 _ rfl
          have y5 := block_cell z9 5 _ rfl
          have y6 := block_cell z9 6 _ rfl
          have y7 := block_cell z9 7 _ rfl
          have y8 := block_cell z9 8 _ rfl
          obtain ⟨WA, hWA⟩ : ∃ WA, W9.alloc (.cells #[.int .i64 1, .int .i64 c.req, .string c.call, .int .i64 c.try_, .bool c.idem, .bool c.shadow, .int .i64 c.dl, .int .i64 c.purse, .int .i64 c.ver, .int .i64 c.prio, .bool false, .int .i64 0] 40) = WA := ⟨_, rfl⟩
          have bA : Below W9.heap.size W9 WA := by rw [← hWA]; exact (Below.refl _ _).alloc (Nat.le_refl _) _
          have zA : WA.heap[W9.heap.size]? = some (.cells (ouCells ⟨1, c, false, 0⟩).toArray 40 (0, 0)) := by rw [← hWA]; exact heap_alloc_new W9 _
          obtain ⟨la3, lc3, ob3, W10, happ2, hE10, -⟩ := (HE9.out.below bA).push2 HM2.out (by have := HM2.out; have := HCNT.out; omega) zA 1
          have HF : Hid (BegL w sb hz now (s.work * lazy) s k D (.slice la3 (m2 + 1) lc3) W10) := by
            obtain ⟨l0, mm0, works0, wv0, wb0, who0, hD1⟩ := HSD.out
            refine ⟨_, outs ++ [⟨1, c, false, 0⟩], ob3, HOK.out.begun HHL.out HHC.out HMP.out HWL.out _ _ _, ?_, ⟨l', mm', D1.works ++ [(c, s.work * lazy)], _, _, _, by rw [hD1]⟩, ⟨la3, lc3, by rw [List.length_append, ← HM2.out]; rfl⟩, hE10⟩
            rw [← HSL0.out]
            exact .take HB.out (by rw [← HMW.out]; exact HLT.out) HPQ.out (by have := HDL.out; omega)
          have HB7 := Lib.hid b7
          have H8C := Lib.hid h8c
          have k8 := h8c.1
          clear sr6 hc3 b7 z7 hwk7 hap0 hr8 hg8 hwb f8 hwsb hwn h8c blk8 e9 f9 hs4 hsb4 hr9 f69 sr9 mv9 z9 bA zA hE10 hdl
          go_wp2_with fail
          refine wp_region_split_held 17 (fun W => W.cell? ⟨sb, 3, none⟩ = some (.slice la0 m lc0) ∧ W.cell? ⟨sb, 8, none⟩ = some (.int .i64 s.work) ∧ W.cell? ⟨W4.heap.size, 0, none⟩ = some (.int .i64 c.req) ∧ W.cell? ⟨W4.heap.size, 1, none⟩ = some (.string c.call) ∧ W.cell? ⟨W4.heap.size, 2, none⟩ = some (.int .i64 c.try_) ∧ W.cell? ⟨W4.heap.size, 3, none⟩ = some (.bool c.idem) ∧ W.cell? ⟨W4.heap.size, 4, none⟩ = some (.bool c.shadow) ∧ W.cell? ⟨W4.heap.size, 5, none⟩ = some (.int .i64 c.dl) ∧ W.cell? ⟨W4.heap.size, 6, none⟩ = some (.int .i64 c.purse) ∧ W.cell? ⟨W4.heap.size, 7, none⟩ = some (.int .i64 c.ver) ∧ W.cell? ⟨W4.heap.size, 8, none⟩ = some (.int .i64 c.prio)) (by kernel_rfl) (by kernel_rfl) (HC10.out _ (Below.refl _ _).drew) (fun K0 hK0 hHeld => ?_)
          simp only [List.take_succ_cons, List.take_zero]
          refine wpAnyH_take (i := 0) (v := ?_) rfl (by kernel_rfl) (by kernel_rfl) (by kernel_rfl) (fun _ _ _ h => h) (Or.inl ⟨by kernel_rfl, ?_⟩) (by assumption) ?_
          rotate_left
          · (intro w hSw; (try dsimp only at hSw); go_simp; (try rw [if_neg (by (try simp only [ByteArray.size_append]); omega)]); (try with_reducible rfl))
          try simp only [Act.put]
          refine wpAnyH_take (i := 1) (v := ?_) rfl (by kernel_rfl) (by kernel_rfl) (by kernel_rfl) (fun _ _ _ h => h) (Or.inl ⟨by kernel_rfl, ?_⟩) (by assumption) ?_
          rotate_left
          · (intro w hSw; (try dsimp only at hSw); go_simp; (try rw [if_neg (by (try simp only [ByteArray.size_append]); omega)]); (try with_reducible rfl))
          try simp only [Act.put]
          refine wpAnyH_take (i := 2) (v := ?_) rfl (by kernel_rfl) (by kernel_rfl) (by kernel_rfl) (fun _ _ _ h => h) (Or.inl ⟨by kernel_rfl, ?_⟩) (by assumption) ?_
          rotate_left
          · (intro w hSw; (try dsimp only at hSw); go_simp; (try rw [if_neg (by (try simp only [ByteArray.size_append]); omega)]); (try with_reducible rfl))
          try simp only [Act.put]
          refine wpAnyH_take (i := 3) (v := ?_) rfl (by kernel_rfl) (by kernel_rfl) (by kernel_rfl) (fun _ _ _ h => h) (Or.inl ⟨by kernel_rfl, ?_⟩) (by assumption) ?_
          rotate_left
          · (intro w hSw; (try dsimp only at hSw); go_simp; (try rw [if_neg (by (try simp only [ByteArray.size_append]); omega)]); (try with_reducible rfl))
          try simp only [Act.put]
          refine wpAnyH_take (i := 4) (v := ?_) rfl (by kernel_rfl) (by kernel_rfl) (by kernel_rfl) (fun _ _ _ h => h) (Or.inl ⟨by kernel_rfl, ?_⟩) (by assumption) ?_
          rotate_left
          · (intro w hSw; (try dsimp only at hSw); go_simp; (try rw [if_neg (by (try simp only [ByteArray.size_append]); omega)]); (try with_reducible rfl))
          try simp only [Act.put]
          refine wpAnyH_take (i := 5) (v := ?_) rfl (by kernel_rfl) (by kernel_rfl) (by kernel_rfl) (fun _ _ _ h => h) (Or.inl ⟨by kernel_rfl, ?_⟩) (by assumption) ?_
          rotate_left
          · (intro w hSw; (try dsimp only at hSw); go_simp; (try rw [if_neg (by (try simp only [ByteArray.size_append]); omega)]); (try with_reducible rfl))
          try simp only [Act.put]
          refine wpAnyH_take (i := 6) (v := ?_) rfl (by kernel_rfl) (by kernel_rfl) (by kernel_rfl) (fun _ _ _ h => h) (Or.inl ⟨by kernel_rfl, ?_⟩) (by assumption) ?_
          rotate_left
          · (intro w hSw; (try dsimp only at hSw); go_simp; (try rw [if_neg (by (try simp only [ByteArray.size_append]); omega)]); (try with_reducible rfl))
          try simp only [Act.put]
          refine wpAnyH_take (i := 7) (v := ?_) rfl (by kernel_rfl) (by kernel_rfl) (by kernel_rfl) (fun _ _ _ h => h) (Or.inl ⟨by kernel_rfl, ?_⟩) (by assumption) ?_
          rotate_left
          · (intro w hSw; (try dsimp only at hSw); go_simp; (try rw [if_neg (by (try simp only [ByteArray.size_append]); omega)]); (try with_reducible rfl))
          try simp only [Act.put]
          refine wpAnyH_take (i := 8) (v := ?_) rfl (by kernel_rfl) (by kernel_rfl) (by kernel_rfl) (fun _ _ _ h => h) (Or.inl ⟨by kernel_rfl, ?_⟩) (by assumption) ?_
          rotate_left
          · (intro w hSw; (try dsimp only at hSw); go_simp; (try rw [if_neg (by (try simp only [ByteArray.size_append]); omega)]); (try with_reducible rfl))
          try simp only [Act.put]
          refine wpAnyH_take (i := 9) (v := ?_) rfl (by kernel_rfl) (by kernel_rfl) (by kernel_rfl) (fun _ _ _ h => h) (Or.inl ⟨by kernel_rfl, ?_⟩) (by assumption) ?_
          rotate_left
          · (intro w hSw; (try dsimp only at hSw); go_simp; (try rw [if_neg (by (try simp only [ByteArray.size_append]); omega)]); (try with_reducible rfl))
          try simp only [Act.put]
          refine wpAnyH_take (i := 10) (v := ?_) rfl (by kernel_rfl) (by kernel_rfl) (by kernel_rfl) (fun _ _ _ h => h) (Or.inl ⟨by kernel_rfl, ?_⟩) (by assumption) ?_
          rotate_left
          · (intro w hSw; (try dsimp only at hSw); go_simp; (try rw [if_neg (by (try simp only [ByteArray.size_append]); omega)]); (try with_reducible rfl))
          try simp only [Act.put]
          refine wpAnyH_take (i := 11) (v := ?_) rfl (by kernel_rfl) (by kernel_rfl) (by kernel_rfl) (fun _ _ _ h => h) (Or.inl ⟨by kernel_rfl, ?_⟩) (by assumption) ?_
          rotate_left
          · (intro w hSw; (try dsimp only at hSw); go_simp; (try rw [if_neg (by (try simp only [ByteArray.size_append]); omega)]); (try with_reducible rfl))
          try simp only [Act.put]
          refine wpAnyH_take (i := 12) (v := ?_) rfl (by kernel_rfl) (by kernel_rfl) (by kernel_rfl) (fun _ _ _ h => h) (Or.inl ⟨by kernel_rfl, ?_⟩) (by assumption) ?_
          rotate_left
          · (intro w hSw; (try dsimp only at hSw); go_simp; (try rw [if_neg (by (try simp only [ByteArray.size_append]); omega)]); (try with_reducible rfl))
          try simp only [Act.put]
          refine wpAnyH_ready (rs := [13]) (by kernel_rfl) (by simp) ?_
          refine AllReadyH.cons rfl (fun K hK => ?_) AllReadyH.nil
          go_simp
          refine (HTM.out _).mono ?_
          rintro e w' ⟨rfl, hw⟩
          rw [hw]
          clear hw w'
          refine hK.out _ _ (hHeld) (fun hHeld => ?_)
          clear hK K
          try simp only [Act.put]
          refine wpAnyH_take (i := 14) (v := ?_) rfl (by kernel_rfl) (by kernel_rfl) (by kernel_rfl) (fun _ _ _ h => h) (Or.inl ⟨by kernel_rfl, ?_⟩) (by assumption) ?_
          rotate_left
          · (intro w hSw; (try dsimp only at hSw); go_simp; (try rw [if_neg (by (try simp only [ByteArray.size_append]); omega)]); (try with_reducible rfl))
          try simp only [Act.put]
          refine wpAnyH_ready (rs := [15]) (by kernel_rfl) (by simp) ?_
          refine AllReadyH.cons rfl (fun K hK => ?_) AllReadyH.nil
          go_simp
          refine hK.out _ _ (HC10.out _ HB7.out) (fun hHeld => ?_)
          clear hK K
          try simp only [Act.put]
          refine wpAnyH_ready (rs := [16]) (by kernel_rfl) (by simp) ?_
          refine AllReadyH.cons rfl (fun K hK => ?_) AllReadyH.nil
          refine step_run (by rfl) (exec_append _ _ _ _ (by rfl) _ _ (by simp [Act.eval]) (by simp [Act.eval]) happ) ?_
          try simp only [Act.put]
          refine hK.out _ _ (H8C.out) (fun hHeld => ?_)
          clear hK K
          try simp only [Act.put]
          refine wpAnyH_done (by kernel_rfl) ?_ _
          simp only [Exit.then]
          refine hK0 _ _ ?_
          clear hK0 K0 hHeld
          try simp only [Act.put]
          go_wp2_with (at_builtin; refine wpList_run (by rfl) (exec_append _ _ _ _ (by rfl) _ _ (by rfl) (by rfl) happ2) ?_)
          go_roundw
          case rel => exact HF
          case measure => have := HCNT.out; simp [slen]; omega
    · have t1 : decide ((m : Int) < sl) = false := decide_eq_false hlt
      have HF : Hid (BegPost w sb hz now (s.work * lazy) s k D (.returned (.slice la2 m2 lc2)) W2) :=
        ⟨D1, outs, _, rfl, HEI2.out.sr, HEI2.out.mv, HEI2.out.out, HOK.out, HSD.out, HSL0.out ▸ HB.out, .inl (by rw [← HSL0.out, ← HMW.out]; omega)⟩
      have p1 : sl ≤ (m : Int) := by omega
      go_wp2_with fail
      go_ret
      exact HF.out

end Go.Proofs.YtchjlkfkfcmhlaaDoor
