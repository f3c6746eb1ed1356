/- ServerOnce: the walk (printed by wip/tools/gen39s.py). -/
import Derived.Test.YtchjlkfkfcmhlaaDoorS38
import Derived.Test.YtchjlkfkfcmhlaaDoorS37
namespace Go.Proofs.YtchjlkfkfcmhlaaDoor
open Go.RowKit
attribute [local go_sem ↓] Go.wp_at_zero Go.wp_at_succ

set_option maxRecDepth 8000 in
set_option maxHeartbeats 16000000 in
theorem once_walk {w : World} (hM : MaxLenAt w) (n horizon : Int) (hn : -9223372036854775808 ≤ n ∧ n ≤ 9223372036854775807) (hho : -9223372036854775808 ≤ horizon ∧ horizon ≤ 9223372036854775807) {A : Option Addr} {k : Nat} {l : List Int} (hA : ArgInts w A k l) (cap : Nat) :
    Calls Tryd.prog 4 #[.int .i64 n, .int .i64 horizon, .slice A k cap] w fun e w' => e = .returned (.bool true) ∧ Below w.heap.size w w' := by
  have HAR := Lib.hid (fun w => around_any horizon 40 w hho.1 hho.2 (by decide) (by decide))
  obtain ⟨y0, y1⟩ := around_bd horizon (m := 40) (by decide)
  obtain ⟨y, hy⟩ : ∃ y, y = around horizon 40 := ⟨_, rfl⟩
  rw [← hy] at y0 y1 HAR
  have g1 : IntKind.i64.wrap (1 + y) = 1 + y := IntWalk.i64_in _ (by omega)
  have HSV := Lib.hid (fun w => service_any n hn w)
  have HMD := Lib.hid (fun w => made_any (svOf n) (1 + y) w)
  have HM := Lib.hid hM
  have HA := Lib.hid hA
  clear hM hA hn hho hy
  go_enter Tryd.func4, Tryd.ntmps4
  go_wp2_with fail
  refine (HAR.out _).mono ?_
  rintro e wq ⟨rfl, rfl⟩
  go_wp2_with fail
  obtain ⟨hz, hhz⟩ : ∃ hz, hz = 1 + y := ⟨_, rfl⟩
  rw [← hhz] at HMD ⊢
  have hz1 : 1 ≤ hz ∧ hz ≤ 41 := by omega
  clear hhz y0 y1 g1 HAR
  refine (HSV.out _).mono ?_
  rintro e W1 ⟨rfl, b1⟩
  have HB1 := Lib.hid b1
  clear b1
  go_wp2_with fail
  refine (HMD.out _).mono ?_
  rintro e W2 ⟨sb, rfl, hNS⟩
  obtain ⟨D, sr2, ok2, ht2, hn2, b2⟩ := hNS.keep HB1.out
  have HRN := Lib.hid (run_any sr2 (Glob.new HM.out b2 hn2) ok2 (svOf_ok n) hz1.1 (HA.out.keep b2) cap true)
  have HB2 := Lib.hid b2
  have HN2 := Lib.hid hn2
  have HT2 := Lib.hid ht2
  clear hNS sr2 ok2 ht2 hn2 b2
  go_wp2_with fail
  refine HRN.out.mono ?_
  rintro e W3 ⟨D', all, ob, now, va, rfl, hR, hn0, hn1, hok, hlen, hRI⟩
  obtain ⟨la, lc, rfl⟩ := hRI.r.form
  obtain ⟨m, hm⟩ : ∃ m, m = all.length := ⟨_, rfl⟩
  rw [← hm] at hRI hlen ⊢
  rw [HT2.out] at hR
  have HOI := Lib.hid hR.oi
  have HSM := Lib.hid (hR.all atOf_small (SS.new_all _)).2
  have HTI := Lib.hid (hR.times)
  have HNOW : Hid (now ≤ 360) := hn1
  have HR := Lib.hid hRI.r
  have HB3 := Lib.hid (run_below HB2.out HN2.out hRI.mv)
  have HMM := Lib.hid hm
  have HLV : Hid (∀ W, Below W3.heap.size W3 W → Calls Tryd.prog 17 #[] W fun e w' => e = .returned (.bool true) ∧ Below W.heap.size W w') := fun W hb => lives_any (HM.out.below HM.out.lt (btrans HB3.out hb))
  have HKEY : Hid (∀ W (x : Ou × Int), Below W3.heap.size W3 W → x ∈ all → Calls Tryd.prog 19 #[.agg #[.int .i64 x.1.c.req, .string x.1.c.call, .int .i64 x.1.c.try_, .bool x.1.c.idem, .bool x.1.c.shadow, .int .i64 x.1.c.dl, .int .i64 x.1.c.purse, .int .i64 x.1.c.ver, .int .i64 x.1.c.prio]] W fun e w' => e = .returned (.string (keyOf x.1.c.call)) ∧ Below W.heap.size W w') := fun W x hb hx =>
    key_any x.1.c (by have := (HSM.out x hx).1; omega) W (HM.out.below HM.out.lt (btrans HB3.out hb))
  have HCL : Hid (∀ (i : Nat) (x : Ou × Int), all[i]? = some x → ∃ g off, la = some ⟨g, off, none⟩ ∧ ∀ W, Below W3.heap.size W3 W → ∀ j u, (seenCells x)[j]? = some u → W.cell? ⟨g, off + i * 13 + j, none⟩ = some u) := fun i x hx => by
    obtain ⟨g, off, lc', e1, e2, hcl⟩ := HR.out.cellsL (by have := (List.getElem?_eq_some_iff.1 hx).1; omega)
    rw [← HMM.out] at e1
    injection e1 with e1 e3 e4
    exact ⟨g, off, e1, fun W hb j u hj => hcl W (hb.block _ (HR.out.lt g e2)) i x hx j u hj⟩
  clear hR hn0 hn1 hok hRI hm
  go_wp2_with fail
  go_loopw [11] (fun vi wr => ∃ i : Nat, vi = .int .i64 i ∧ i ≤ m ∧ Below W3.heap.size W3 wr) (fun vi _ => (m - intOf vi).toNat)
  case atStart => exact ⟨0, rfl, Nat.zero_le _, Below.refl _ _⟩
  case round =>
    obtain ⟨i, rfl, hi, hbl⟩ := hrel
    have HBL := Lib.hid hbl
    clear hbl
    by_cases him : i < m
    · have t0 : decide ((i : Int) < (m : Int)) = true := decide_eq_true (by omega)
      obtain ⟨x, hx⟩ : ∃ x, all[i]? = some x := ⟨_, List.getElem?_eq_getElem (by have := HMM.out; omega)⟩
      obtain ⟨g, off, rfl, hq'⟩ := HCL.out i x hx
      have hq := hq' wr HBL.out
      have q0 : wr.cell? ⟨g, off + i * 13, none⟩ = some (.int .i64 x.1.what) := hq 0 _ rfl
      have q1 : wr.cell? ⟨g, off + i * 13 + 1, none⟩ = some (.int .i64 x.1.c.req) := hq 1 _ rfl
      have q2 : wr.cell? ⟨g, off + i * 13 + 2, none⟩ = some (.string x.1.c.call) := hq 2 _ rfl
      have q3 : wr.cell? ⟨g, off + i * 13 + 3, none⟩ = some (.int .i64 x.1.c.try_) := hq 3 _ rfl
      have q4 : wr.cell? ⟨g, off + i * 13 + 4, none⟩ = some (.bool x.1.c.idem) := hq 4 _ rfl
      have q5 : wr.cell? ⟨g, off + i * 13 + 5, none⟩ = some (.bool x.1.c.shadow) := hq 5 _ rfl
      have q6 : wr.cell? ⟨g, off + i * 13 + 6, none⟩ = some (.int .i64 x.1.c.dl) := hq 6 _ rfl
      have q7 : wr.cell? ⟨g, off + i * 13 + 7, none⟩ = some (.int .i64 x.1.c.purse) := hq 7 _ rfl
      have q8 : wr.cell? ⟨g, off + i * 13 + 8, none⟩ = some (.int .i64 x.1.c.ver) := hq 8 _ rfl
      have q9 : wr.cell? ⟨g, off + i * 13 + 9, none⟩ = some (.int .i64 x.1.c.prio) := hq 9 _ rfl
      have q10 : wr.cell? ⟨g, off + i * 13 + 10, none⟩ = some (.bool x.1.eff) := hq 10 _ rfl
      have q11 : wr.cell? ⟨g, off + i * 13 + 11, none⟩ = some (.int .i64 x.1.e) := hq 11 _ rfl
      have q12 : wr.cell? ⟨g, off + i * 13 + 12, none⟩ = some (.int .i64 x.2) := hq 12 _ rfl
      have i1 : (0 : Int) ≤ (i : Int) := by omega
      have i2 : (i : Int) < (m : Int) := by omega
      obtain ⟨Wi, hWi⟩ : ∃ Wi, wr.alloc (.cells #[.int .i64 x.1.what, .int .i64 x.1.c.req, .string x.1.c.call, .int .i64 x.1.c.try_, .bool x.1.c.idem, .bool x.1.c.shadow, .int .i64 x.1.c.dl, .int .i64 x.1.c.purse, .int .i64 x.1.c.ver, .int .i64 x.1.c.prio, .bool x.1.eff, .int .i64 x.1.e, .int .i64 x.2] 42) = Wi := ⟨_, rfl⟩
      have bi : Below wr.heap.size wr Wi := by rw [← hWi]; exact (Below.refl _ _).alloc (Nat.le_refl _) _
      have zi : Wi.heap[wr.heap.size]? = some (.cells #[.int .i64 x.1.what, .int .i64 x.1.c.req, .string x.1.c.call, .int .i64 x.1.c.try_, .bool x.1.c.idem, .bool x.1.c.shadow, .int .i64 x.1.c.dl, .int .i64 x.1.c.purse, .int .i64 x.1.c.ver, .int .i64 x.1.c.prio, .bool x.1.eff, .int .i64 x.1.e, .int .i64 x.2] 42 (0, 0)) := by rw [← hWi]; exact heap_alloc_new wr _
      have HBI := Lib.hid (btrans HBL.out bi)
      have HZI := Lib.hid zi
      have HX := Lib.hid hx
      have c0 := block_cell zi 0 _ rfl
      have c1 := block_cell zi 1 _ rfl
      have c2 := block_cell zi 2 _ rfl
      have c3 := block_cell zi 3 _ rfl
      have c4 := block_cell zi 4 _ rfl
      have c5 := block_cell zi 5 _ rfl
      have c6 := block_cell zi 6 _ rfl
      have c7 := block_cell zi 7 _ rfl
      have c8 := block_cell zi 8 _ rfl
      have c9 := block_cell zi 9 _ rfl
      have c10 := block_cell zi 10 _ rfl
      have c11 := block_cell zi 11 _ rfl
      have c12 := block_cell zi 12 _ rfl
      have hgood := HOI.out.good x (List.mem_of_getElem? hx)
      have hxm := List.mem_of_getElem? hx
      have HXM := Lib.hid hxm
      clear hx hxm hq hq' bi zi
      cases hef : x.1.eff with
      | false =>
        rw [hef] at c10
        have HEF := Lib.hid hef
        clear hgood hef
        go_wp2_with fail
        obtain ⟨bx, hbx⟩ : ∃ bx, bx = wr.heap.size := ⟨_, rfl⟩
        rw [← hbx] at HZI ⊢
        have HZX := Lib.hid (show bx < Wi.heap.size from (Array.getElem?_eq_some_iff.1 HZI.out).1)
        clear q0 q1 q2 q3 q4 q5 q6 q7 q8 q9 q10 q11 q12 c0 c1 c2 c3 c4 c5 c6 c7 c8 c9 c10 c11 c12 t0 i1 i2 hWi
        clear hbx
        go_loopw [13] (fun vk wr2 => ∃ kk : Nat, vk = .int .i64 kk ∧ kk ≤ i ∧ Below Wi.heap.size Wi wr2) (fun vk _ => (i - intOf vk).toNat)
        case atStart => exact ⟨0, rfl, Nat.zero_le _, Below.refl _ _⟩
        case round =>
          obtain ⟨kk, rfl, hkk, hbk⟩ := hrel
          have HBK := Lib.hid hbk
          clear hbk
          by_cases hki : kk < i
          · have t0 : decide ((kk : Int) < (i : Int)) = true := decide_eq_true (by omega)
            obtain ⟨y, hy⟩ : ∃ y, all[kk]? = some y := ⟨_, List.getElem?_eq_getElem (by have := HMM.out; omega)⟩
            obtain ⟨g3, off3, e3, hq3⟩ := HCL.out kk y hy
            injection e3 with e3
            injection e3 with e4 e5 _
            subst e4 e5
            have hq := hq3 wr (btrans HBI.out HBK.out)
            have q0 : wr.cell? ⟨g, off + kk * 13, none⟩ = some (.int .i64 y.1.what) := hq 0 _ rfl
            have q1 : wr.cell? ⟨g, off + kk * 13 + 1, none⟩ = some (.int .i64 y.1.c.req) := hq 1 _ rfl
            have q2 : wr.cell? ⟨g, off + kk * 13 + 2, none⟩ = some (.string y.1.c.call) := hq 2 _ rfl
            have q3 : wr.cell? ⟨g, off + kk * 13 + 3, none⟩ = some (.int .i64 y.1.c.try_) := hq 3 _ rfl
            have q4 : wr.cell? ⟨g, off + kk * 13 + 4, none⟩ = some (.bool y.1.c.idem) := hq 4 _ rfl
            have q5 : wr.cell? ⟨g, off + kk * 13 + 5, none⟩ = some (.bool y.1.c.shadow) := hq 5 _ rfl
            have q6 : wr.cell? ⟨g, off + kk * 13 + 6, none⟩ = some (.int .i64 y.1.c.dl) := hq 6 _ rfl
            have q7 : wr.cell? ⟨g, off + kk * 13 + 7, none⟩ = some (.int .i64 y.1.c.purse) := hq 7 _ rfl
            have q8 : wr.cell? ⟨g, off + kk * 13 + 8, none⟩ = some (.int .i64 y.1.c.ver) := hq 8 _ rfl
            have q9 : wr.cell? ⟨g, off + kk * 13 + 9, none⟩ = some (.int .i64 y.1.c.prio) := hq 9 _ rfl
            have q10 : wr.cell? ⟨g, off + kk * 13 + 10, none⟩ = some (.bool y.1.eff) := hq 10 _ rfl
            have q11 : wr.cell? ⟨g, off + kk * 13 + 11, none⟩ = some (.int .i64 y.1.e) := hq 11 _ rfl
            have q12 : wr.cell? ⟨g, off + kk * 13 + 12, none⟩ = some (.int .i64 y.2) := hq 12 _ rfl
            have i1 : (0 : Int) ≤ (kk : Int) := by omega
            have i2 : (kk : Int) < (m : Int) := by omega
            obtain ⟨Wj, hWj⟩ : ∃ Wj, wr.alloc (.cells #[.int .i64 y.1.what, .int .i64 y.1.c.req, .string y.1.c.call, .int .i64 y.1.c.try_, .bool y.1.c.idem, .bool y.1.c.shadow, .int .i64 y.1.c.dl, .int .i64 y.1.c.purse, .int .i64 y.1.c.ver, .int .i64 y.1.c.prio, .bool y.1.eff, .int .i64 y.1.e, .int .i64 y.2] 42) = Wj := ⟨_, rfl⟩
            have bj : Below wr.heap.size wr Wj := by rw [← hWj]; exact (Below.refl _ _).alloc (Nat.le_refl _) _
            have zj : Wj.heap[wr.heap.size]? = some (.cells #[.int .i64 y.1.what, .int .i64 y.1.c.req, .string y.1.c.call, .int .i64 y.1.c.try_, .bool y.1.c.idem, .bool y.1.c.shadow, .int .i64 y.1.c.dl, .int .i64 y.1.c.purse, .int .i64 y.1.c.ver, .int .i64 y.1.c.prio, .bool y.1.eff, .int .i64 y.1.e, .int .i64 y.2] 42 (0, 0)) := by rw [← hWj]; exact heap_alloc_new wr _
            have HBJ := Lib.hid (btrans HBI.out (btrans HBK.out bj))
            have HBJI := Lib.hid (btrans HBK.out bj)
            obtain ⟨by_, hby⟩ : ∃ by_, by_ = wr.heap.size := ⟨_, rfl⟩
            rw [← hby] at zj
            have hzj := (Array.getElem?_eq_some_iff.1 zj).1
            have HS : Hid (∀ W, Below Wj.heap.size Wj W → (W.cell? ⟨bx, 1, none⟩ = some (.int .i64 x.1.c.req) ∧ W.cell? ⟨bx, 2, none⟩ = some (.string x.1.c.call) ∧ W.cell? ⟨bx, 3, none⟩ = some (.int .i64 x.1.c.try_) ∧ W.cell? ⟨bx, 4, none⟩ = some (.bool x.1.c.idem) ∧ W.cell? ⟨bx, 5, none⟩ = some (.bool x.1.c.shadow) ∧ W.cell? ⟨bx, 6, none⟩ = some (.int .i64 x.1.c.dl) ∧ W.cell? ⟨bx, 7, none⟩ = some (.int .i64 x.1.c.purse) ∧ W.cell? ⟨bx, 8, none⟩ = some (.int .i64 x.1.c.ver) ∧ W.cell? ⟨bx, 9, none⟩ = some (.int .i64 x.1.c.prio) ∧ W.cell? ⟨bx, 10, none⟩ = some (.bool x.1.eff) ∧ W.cell? ⟨bx, 12, none⟩ = some (.int .i64 x.2) ∧ W.cell? ⟨by_, 1, none⟩ = some (.int .i64 y.1.c.req) ∧ W.cell? ⟨by_, 2, none⟩ = some (.string y.1.c.call) ∧ W.cell? ⟨by_, 3, none⟩ = some (.int .i64 y.1.c.try_) ∧ W.cell? ⟨by_, 4, none⟩ = some (.bool y.1.c.idem) ∧ W.cell? ⟨by_, 5, none⟩ = some (.bool y.1.c.shadow) ∧ W.cell? ⟨by_, 6, none⟩ = some (.int .i64 y.1.c.dl) ∧ W.cell? ⟨by_, 7, none⟩ = some (.int .i64 y.1.c.purse) ∧ W.cell? ⟨by_, 8, none⟩ = some (.int .i64 y.1.c.ver) ∧ W.cell? ⟨by_, 9, none⟩ = some (.int .i64 y.1.c.prio) ∧ W.cell? ⟨by_, 10, none⟩ = some (.bool y.1.eff) ∧ W.cell? ⟨by_, 12, none⟩ = some (.int .i64 y.2))) := fun W hb => by
              have hh := ((btrans HBJI.out hb).block bx HZX.out).trans HZI.out
              have hh2 := (hb.block by_ hzj).trans zj
              have e := HEF.out
              exact ⟨block_cell hh 1 _ rfl, block_cell hh 2 _ rfl, block_cell hh 3 _ rfl, block_cell hh 4 _ rfl, block_cell hh 5 _ rfl, block_cell hh 6 _ rfl, block_cell hh 7 _ rfl, block_cell hh 8 _ rfl, block_cell hh 9 _ rfl, block_cell hh 10 _ rfl, block_cell hh 12 _ rfl, block_cell hh2 1 _ rfl, block_cell hh2 2 _ rfl, block_cell hh2 3 _ rfl, block_cell hh2 4 _ rfl, block_cell hh2 5 _ rfl, block_cell hh2 6 _ rfl, block_cell hh2 7 _ rfl, block_cell hh2 8 _ rfl, block_cell hh2 9 _ rfl, block_cell hh2 10 _ rfl, block_cell hh2 12 _ rfl⟩
            have HBYE := Lib.hid hby
            have HYM := Lib.hid (List.mem_of_getElem? hy)
            have HHY := Lib.hid hy
            clear hy hq3 hq bj zj hzj hby
            go_wp2_with fail
            rw [← HBYE.out]
            clear hWj q0 q1 q2 q3 q4 q5 q6 q7 q8 q9 q10 q11 q12
            have hef := HEF.out
            rw [hef] at HS
            clear hef
            have hh := HS.out Wj.drew (Below.refl _ _).drew
            obtain ⟨z0, z1, z2, z3, z4, z5, z6, z7, z8, z9, z10, z11, z12, z13, z14, z15, z16, z17, z18, z19, z20, z21⟩ := hh
            refine wp_region_held_drew (S := fun W => W.cell? ⟨bx, 10, none⟩ = some (.bool false)) (by kernel_rfl) z9 (fun hHeld => ?_)
            clear z0 z1 z2 z3 z4 z5 z6 z7 z8 z9 z10 z11 z12 z13 z14 z15 z16 z17 z18 z19 z20 z21
            refine wpAnyH_take (i := 0) (v := ?_) rfl (by kernel_rfl) (by kernel_rfl) (by kernel_rfl) (fun _ _ _ h => h) (Or.inl ⟨by kernel_rfl, ?_⟩) (by assumption) ?_
            rotate_left
            · (intro w hSw; (try dsimp only at hSw); go_simp; (try rw [if_neg (by (try simp only [ByteArray.size_append]); omega)]); (try with_reducible rfl))
            try simp only [Act.put]
            refine wpAnyH_take (i := 1) (v := ?_) rfl (by kernel_rfl) (by kernel_rfl) (by kernel_rfl) (fun _ _ _ h => h) (Or.inl ⟨by kernel_rfl, ?_⟩) (by assumption) ?_
            rotate_left
            · (intro w hSw; (try dsimp only at hSw); go_simp; (try rw [if_neg (by (try simp only [ByteArray.size_append]); omega)]); (try with_reducible rfl))
            try simp only [Act.put]
            refine wpAnyH_take (i := 2) (v := ?_) rfl (by kernel_rfl) (by kernel_rfl) (by kernel_rfl) (fun _ _ _ h => h) (Or.inl ⟨by kernel_rfl, ?_⟩) (by assumption) ?_
            rotate_left
            · (intro w hSw; (try dsimp only at hSw); go_simp; (try rw [if_neg (by (try simp only [ByteArray.size_append]); omega)]); (try with_reducible rfl))
            try simp only [Act.put]
            refine wpAnyH_take (i := 3) (v := ?_) rfl (by kernel_rfl) (by kernel_rfl) (by kernel_rfl) (fun _ _ _ h => h) (Or.inl ⟨by kernel_rfl, ?_⟩) (by assumption) ?_
            rotate_left
            · (intro w hSw; (try dsimp only at hSw); go_simp; (try rw [if_neg (by (try simp only [ByteArray.size_append]); omega)]); (try with_reducible rfl))
            try simp only [Act.put]
            refine wpAnyH_take (i := 4) (v := undef) rfl (by kernel_rfl) (by kernel_rfl) (by kernel_rfl) (fun _ _ _ h => h) (Or.inr ⟨by kernel_rfl, rfl⟩) (by assumption) ?_
            try simp only [Act.put]
            refine wpAnyH_take (i := 5) (v := undef) rfl (by kernel_rfl) (by kernel_rfl) (by kernel_rfl) (fun _ _ _ h => h) (Or.inr ⟨by kernel_rfl, rfl⟩) (by assumption) ?_
            try simp only [Act.put]
            refine wpAnyH_take (i := 6) (v := undef) rfl (by kernel_rfl) (by kernel_rfl) (by kernel_rfl) (fun _ _ _ h => h) (Or.inr ⟨by kernel_rfl, rfl⟩) (by assumption) ?_
            try simp only [Act.put]
            refine wpAnyH_take (i := 7) (v := ?_) rfl (by kernel_rfl) (by kernel_rfl) (by kernel_rfl) (fun _ _ _ h => h) (Or.inl ⟨by kernel_rfl, ?_⟩) (by assumption) ?_
            rotate_left
            · (intro w hSw; (try dsimp only at hSw); go_simp; (try rw [if_neg (by (try simp only [ByteArray.size_append]); omega)]); (try with_reducible rfl))
            try simp only [Act.put]
            refine wpAnyH_take (i := 8) (v := ?_) rfl (by kernel_rfl) (by kernel_rfl) (by kernel_rfl) (fun _ _ _ h => h) (Or.inl ⟨by kernel_rfl, ?_⟩) (by assumption) ?_
            rotate_left
            · (intro w hSw; (try dsimp only at hSw); go_simp; (try rw [if_neg (by (try simp only [ByteArray.size_append]); omega)]); (try with_reducible rfl))
            try simp only [Act.put]
            refine wpAnyH_take (i := 9) (v := undef) rfl (by kernel_rfl) (by kernel_rfl) (by kernel_rfl) (fun _ _ _ h => h) (Or.inr ⟨by kernel_rfl, rfl⟩) (by assumption) ?_
            try simp only [Act.put]
            refine wpAnyH_take (i := 10) (v := undef) rfl (by kernel_rfl) (by kernel_rfl) (by kernel_rfl) (fun _ _ _ h => h) (Or.inr ⟨by kernel_rfl, rfl⟩) (by assumption) ?_
            try simp only [Act.put]
            refine wpAnyH_take (i := 11) (v := undef) rfl (by kernel_rfl) (by kernel_rfl) (by kernel_rfl) (fun _ _ _ h => h) (Or.inr ⟨by kernel_rfl, rfl⟩) (by assumption) ?_
            try simp only [Act.put]
            refine wpAnyH_take (i := 12) (v := undef) rfl (by kernel_rfl) (by kernel_rfl) (by kernel_rfl) (fun _ _ _ h => h) (Or.inr ⟨by kernel_rfl, rfl⟩) (by assumption) ?_
            try simp only [Act.put]
            refine wpAnyH_take (i := 13) (v := undef) rfl (by kernel_rfl) (by kernel_rfl) (by kernel_rfl) (fun _ _ _ h => h) (Or.inr ⟨by kernel_rfl, rfl⟩) (by assumption) ?_
            try simp only [Act.put]
            refine wpAnyH_take (i := 14) (v := ?_) rfl (by kernel_rfl) (by kernel_rfl) (by kernel_rfl) (fun _ _ _ h => h) (Or.inl ⟨by kernel_rfl, ?_⟩) (by assumption) ?_
            rotate_left
            · (intro w hSw; (try dsimp only at hSw); go_simp; (try rw [if_neg (by (try simp only [ByteArray.size_append]); omega)]); (try with_reducible rfl))
            try simp only [Act.put]
            refine wpAnyH_take (i := 15) (v := ?_) rfl (by kernel_rfl) (by kernel_rfl) (by kernel_rfl) (fun _ _ _ h => h) (Or.inl ⟨by kernel_rfl, ?_⟩) (by assumption) ?_
            rotate_left
            · (intro w hSw; (try dsimp only at hSw); go_simp; (try rw [if_neg (by (try simp only [ByteArray.size_append]); omega)]); (try with_reducible rfl))
            try simp only [Act.put]
            refine wpAnyH_take (i := 16) (v := undef) rfl (by kernel_rfl) (by kernel_rfl) (by kernel_rfl) (fun _ _ _ h => h) (Or.inr ⟨by kernel_rfl, rfl⟩) (by assumption) ?_
            try simp only [Act.put]
            refine wpAnyH_take (i := 17) (v := undef) rfl (by kernel_rfl) (by kernel_rfl) (by kernel_rfl) (fun _ _ _ h => h) (Or.inr ⟨by kernel_rfl, rfl⟩) (by assumption) ?_
            try simp only [Act.put]
            refine wpAnyH_take (i := 18) (v := undef) rfl (by kernel_rfl) (by kernel_rfl) (by kernel_rfl) (fun _ _ _ h => h) (Or.inr ⟨by kernel_rfl, rfl⟩) (by assumption) ?_
            try simp only [Act.put]
            refine wpAnyH_take (i := 19) (v := undef) rfl (by kernel_rfl) (by kernel_rfl) (by kernel_rfl) (fun _ _ _ h => h) (Or.inr ⟨by kernel_rfl, rfl⟩) (by assumption) ?_
            try simp only [Act.put]
            refine wpAnyH_take (i := 20) (v := undef) rfl (by kernel_rfl) (by kernel_rfl) (by kernel_rfl) (fun _ _ _ h => h) (Or.inr ⟨by kernel_rfl, rfl⟩) (by assumption) ?_
            try simp only [Act.put]
            refine wpAnyH_take (i := 21) (v := ?_) rfl (by kernel_rfl) (by kernel_rfl) (by kernel_rfl) (fun _ _ _ h => h) (Or.inl ⟨by kernel_rfl, ?_⟩) (by assumption) ?_
            rotate_left
            · (intro w hSw; (try dsimp only at hSw); go_simp; (try rw [if_neg (by (try simp only [ByteArray.size_append]); omega)]); (try with_reducible rfl))
            try simp only [Act.put]
            refine wpAnyH_take (i := 22) (v := ?_) rfl (by kernel_rfl) (by kernel_rfl) (by kernel_rfl) (fun _ _ _ h => h) (Or.inl ⟨by kernel_rfl, ?_⟩) (by assumption) ?_
            rotate_left
            · (intro w hSw; (try dsimp only at hSw); go_simp; (try rw [if_neg (by (try simp only [ByteArray.size_append]); omega)]); (try with_reducible rfl))
            try simp only [Act.put]
            refine wpAnyH_take (i := 23) (v := undef) rfl (by kernel_rfl) (by kernel_rfl) (by kernel_rfl) (fun _ _ _ h => h) (Or.inr ⟨by kernel_rfl, rfl⟩) (by assumption) ?_
            try simp only [Act.put]
            refine wpAnyH_take (i := 24) (v := undef) rfl (by kernel_rfl) (by kernel_rfl) (by kernel_rfl) (fun _ _ _ h => h) (Or.inr ⟨by kernel_rfl, rfl⟩) (by assumption) ?_
            try simp only [Act.put]
            refine wpAnyH_take (i := 25) (v := undef) rfl (by kernel_rfl) (by kernel_rfl) (by kernel_rfl) (fun _ _ _ h => h) (Or.inr ⟨by kernel_rfl, rfl⟩) (by assumption) ?_
            try simp only [Act.put]
            refine wpAnyH_take (i := 26) (v := undef) rfl (by kernel_rfl) (by kernel_rfl) (by kernel_rfl) (fun _ _ _ h => h) (Or.inr ⟨by kernel_rfl, rfl⟩) (by assumption) ?_
            try simp only [Act.put]
            refine wpAnyH_take (i := 27) (v := undef) rfl (by kernel_rfl) (by kernel_rfl) (by kernel_rfl) (fun _ _ _ h => h) (Or.inr ⟨by kernel_rfl, rfl⟩) (by assumption) ?_
            try simp only [Act.put]
            refine wpAnyH_take (i := 28) (v := undef) rfl (by kernel_rfl) (by kernel_rfl) (by kernel_rfl) (fun _ _ _ h => h) (Or.inr ⟨by kernel_rfl, rfl⟩) (by assumption) ?_
            try simp only [Act.put]
            refine wpAnyH_take (i := 29) (v := undef) rfl (by kernel_rfl) (by kernel_rfl) (by kernel_rfl) (fun _ _ _ h => h) (Or.inr ⟨by kernel_rfl, rfl⟩) (by assumption) ?_
            try simp only [Act.put]
            refine wpAnyH_take (i := 30) (v := undef) rfl (by kernel_rfl) (by kernel_rfl) (by kernel_rfl) (fun _ _ _ h => h) (Or.inr ⟨by kernel_rfl, rfl⟩) (by assumption) ?_
            try simp only [Act.put]
            refine wpAnyH_take (i := 31) (v := undef) rfl (by kernel_rfl) (by kernel_rfl) (by kernel_rfl) (fun _ _ _ h => h) (Or.inr ⟨by kernel_rfl, rfl⟩) (by assumption) ?_
            try simp only [Act.put]
            refine wpAnyH_take (i := 32) (v := ?_) rfl (by kernel_rfl) (by kernel_rfl) (by kernel_rfl) (fun _ _ _ h => h) (Or.inl ⟨by kernel_rfl, ?_⟩) (by assumption) ?_
            rotate_left
            · (intro w hSw; (try dsimp only at hSw); go_simp; (try rw [if_neg (by (try simp only [ByteArray.size_append]); omega)]); (try with_reducible rfl))
            try simp only [Act.put]
            refine wpAnyH_take (i := 33) (v := ?_) rfl (by kernel_rfl) (by kernel_rfl) (by kernel_rfl) (fun _ _ _ h => h) (Or.inl ⟨by kernel_rfl, ?_⟩) (by assumption) ?_
            rotate_left
            · (intro w hSw; (try dsimp only at hSw); go_simp; (try rw [if_neg (by (try simp only [ByteArray.size_append]); omega)]); (try with_reducible rfl))
            try simp only [Act.put]
            refine wpAnyH_take (i := 34) (v := undef) rfl (by kernel_rfl) (by kernel_rfl) (by kernel_rfl) (fun _ _ _ h => h) (Or.inr ⟨by kernel_rfl, rfl⟩) (by assumption) ?_
            try simp only [Act.put]
            refine wpAnyH_take (i := 35) (v := undef) rfl (by kernel_rfl) (by kernel_rfl) (by kernel_rfl) (fun _ _ _ h => h) (Or.inr ⟨by kernel_rfl, rfl⟩) (by assumption) ?_
            try simp only [Act.put]
            refine wpAnyH_take (i := 36) (v := undef) rfl (by kernel_rfl) (by kernel_rfl) (by kernel_rfl) (fun _ _ _ h => h) (Or.inr ⟨by kernel_rfl, rfl⟩) (by assumption) ?_
            try simp only [Act.put]
            refine wpAnyH_take (i := 37) (v := undef) rfl (by kernel_rfl) (by kernel_rfl) (by kernel_rfl) (fun _ _ _ h => h) (Or.inr ⟨by kernel_rfl, rfl⟩) (by assumption) ?_
            try simp only [Act.put]
            refine wpAnyH_take (i := 38) (v := undef) rfl (by kernel_rfl) (by kernel_rfl) (by kernel_rfl) (fun _ _ _ h => h) (Or.inr ⟨by kernel_rfl, rfl⟩) (by assumption) ?_
            try simp only [Act.put]
            refine wpAnyH_take (i := 39) (v := undef) rfl (by kernel_rfl) (by kernel_rfl) (by kernel_rfl) (fun _ _ _ h => h) (Or.inr ⟨by kernel_rfl, rfl⟩) (by assumption) ?_
            try simp only [Act.put]
            refine wpAnyH_take (i := 40) (v := undef) rfl (by kernel_rfl) (by kernel_rfl) (by kernel_rfl) (fun _ _ _ h => h) (Or.inr ⟨by kernel_rfl, rfl⟩) (by assumption) ?_
            try simp only [Act.put]
            refine wpAnyH_take (i := 41) (v := ?_) rfl (by kernel_rfl) (by kernel_rfl) (by kernel_rfl) (fun _ _ _ h => h) (Or.inl ⟨by kernel_rfl, ?_⟩) (by assumption) ?_
            rotate_left
            · (intro w hSw; (try dsimp only at hSw); go_simp; (try rw [if_neg (by (try simp only [ByteArray.size_append]); omega)]); (try with_reducible rfl))
            try simp only [Act.put]
            refine wpAnyH_done (by kernel_rfl) ?_ _
            try simp only [Act.put]
            clear hHeld
            go_simp
            go_wp2_with fail
            go_roundw
            case rel => exact ⟨kk + 1, by go_num, by omega, HBJI.out.drew⟩
            case measure => simp [intOf]; omega
          · have t0 : decide ((kk : Int) < (i : Int)) = false := decide_eq_false (by omega)
            go_wp2_with fail
            go_roundw
            case rel => exact ⟨i + 1, by go_num, by omega, btrans HBI.out HBK.out⟩
            case measure => simp [intOf]; omega
      | true =>
        obtain ⟨hw2, hsh⟩ := hgood hef
        rw [hef] at c10
        rw [hw2] at c0
        rw [hsh] at c5
        have HEF := Lib.hid hef
        clear hgood hef hw2 hsh
        go_wp2_with fail
        obtain ⟨bx, hbx⟩ : ∃ bx, bx = wr.heap.size := ⟨_, rfl⟩
        rw [← hbx] at HZI ⊢
        have HZX := Lib.hid (show bx < Wi.heap.size from (Array.getElem?_eq_some_iff.1 HZI.out).1)
        clear q0 q1 q2 q3 q4 q5 q6 q7 q8 q9 q10 q11 q12 c0 c1 c2 c3 c4 c5 c6 c7 c8 c9 c10 c11 c12 t0 i1 i2 hWi
        clear hbx
        go_loopw [13] (fun vk wr2 => ∃ kk : Nat, vk = .int .i64 kk ∧ kk ≤ i ∧ Below Wi.heap.size Wi wr2) (fun vk _ => (i - intOf vk).toNat)
        case atStart => exact ⟨0, rfl, Nat.zero_le _, Below.refl _ _⟩
        case round =>
          obtain ⟨kk, rfl, hkk, hbk⟩ := hrel
          have HBK := Lib.hid hbk
          clear hbk
          by_cases hki : kk < i
          · have t0 : decide ((kk : Int) < (i : Int)) = true := decide_eq_true (by omega)
            obtain ⟨y, hy⟩ : ∃ y, all[kk]? = some y := ⟨_, List.getElem?_eq_getElem (by have := HMM.out; omega)⟩
            obtain ⟨g3, off3, e3, hq3⟩ := HCL.out kk y hy
            injection e3 with e3
            injection e3 with e4 e5 _
            subst e4 e5
            have hq := hq3 wr (btrans HBI.out HBK.out)
            have q0 : wr.cell? ⟨g, off + kk * 13, none⟩ = some (.int .i64 y.1.what) := hq 0 _ rfl
            have q1 : wr.cell? ⟨g, off + kk * 13 + 1, none⟩ = some (.int .i64 y.1.c.req) := hq 1 _ rfl
            have q2 : wr.cell? ⟨g, off + kk * 13 + 2, none⟩ = some (.string y.1.c.call) := hq 2 _ rfl
            have q3 : wr.cell? ⟨g, off + kk * 13 + 3, none⟩ = some (.int .i64 y.1.c.try_) := hq 3 _ rfl
            have q4 : wr.cell? ⟨g, off + kk * 13 + 4, none⟩ = some (.bool y.1.c.idem) := hq 4 _ rfl
            have q5 : wr.cell? ⟨g, off + kk * 13 + 5, none⟩ = some (.bool y.1.c.shadow) := hq 5 _ rfl
            have q6 : wr.cell? ⟨g, off + kk * 13 + 6, none⟩ = some (.int .i64 y.1.c.dl) := hq 6 _ rfl
            have q7 : wr.cell? ⟨g, off + kk * 13 + 7, none⟩ = some (.int .i64 y.1.c.purse) := hq 7 _ rfl
            have q8 : wr.cell? ⟨g, off + kk * 13 + 8, none⟩ = some (.int .i64 y.1.c.ver) := hq 8 _ rfl
            have q9 : wr.cell? ⟨g, off + kk * 13 + 9, none⟩ = some (.int .i64 y.1.c.prio) := hq 9 _ rfl
            have q10 : wr.cell? ⟨g, off + kk * 13 + 10, none⟩ = some (.bool y.1.eff) := hq 10 _ rfl
            have q11 : wr.cell? ⟨g, off + kk * 13 + 11, none⟩ = some (.int .i64 y.1.e) := hq 11 _ rfl
            have q12 : wr.cell? ⟨g, off + kk * 13 + 12, none⟩ = some (.int .i64 y.2) := hq 12 _ rfl
            have i1 : (0 : Int) ≤ (kk : Int) := by omega
            have i2 : (kk : Int) < (m : Int) := by omega
            obtain ⟨Wj, hWj⟩ : ∃ Wj, wr.alloc (.cells #[.int .i64 y.1.what, .int .i64 y.1.c.req, .string y.1.c.call, .int .i64 y.1.c.try_, .bool y.1.c.idem, .bool y.1.c.shadow, .int .i64 y.1.c.dl, .int .i64 y.1.c.purse, .int .i64 y.1.c.ver, .int .i64 y.1.c.prio, .bool y.1.eff, .int .i64 y.1.e, .int .i64 y.2] 42) = Wj := ⟨_, rfl⟩
            have bj : Below wr.heap.size wr Wj := by rw [← hWj]; exact (Below.refl _ _).alloc (Nat.le_refl _) _
            have zj : Wj.heap[wr.heap.size]? = some (.cells #[.int .i64 y.1.what, .int .i64 y.1.c.req, .string y.1.c.call, .int .i64 y.1.c.try_, .bool y.1.c.idem, .bool y.1.c.shadow, .int .i64 y.1.c.dl, .int .i64 y.1.c.purse, .int .i64 y.1.c.ver, .int .i64 y.1.c.prio, .bool y.1.eff, .int .i64 y.1.e, .int .i64 y.2] 42 (0, 0)) := by rw [← hWj]; exact heap_alloc_new wr _
            have HBJ := Lib.hid (btrans HBI.out (btrans HBK.out bj))
            have HBJI := Lib.hid (btrans HBK.out bj)
            obtain ⟨by_, hby⟩ : ∃ by_, by_ = wr.heap.size := ⟨_, rfl⟩
            rw [← hby] at zj
            have hzj := (Array.getElem?_eq_some_iff.1 zj).1
            have HS : Hid (∀ W, Below Wj.heap.size Wj W → (W.cell? ⟨bx, 1, none⟩ = some (.int .i64 x.1.c.req) ∧ W.cell? ⟨bx, 2, none⟩ = some (.string x.1.c.call) ∧ W.cell? ⟨bx, 3, none⟩ = some (.int .i64 x.1.c.try_) ∧ W.cell? ⟨bx, 4, none⟩ = some (.bool x.1.c.idem) ∧ W.cell? ⟨bx, 5, none⟩ = some (.bool x.1.c.shadow) ∧ W.cell? ⟨bx, 6, none⟩ = some (.int .i64 x.1.c.dl) ∧ W.cell? ⟨bx, 7, none⟩ = some (.int .i64 x.1.c.purse) ∧ W.cell? ⟨bx, 8, none⟩ = some (.int .i64 x.1.c.ver) ∧ W.cell? ⟨bx, 9, none⟩ = some (.int .i64 x.1.c.prio) ∧ W.cell? ⟨bx, 10, none⟩ = some (.bool x.1.eff) ∧ W.cell? ⟨bx, 12, none⟩ = some (.int .i64 x.2) ∧ W.cell? ⟨by_, 1, none⟩ = some (.int .i64 y.1.c.req) ∧ W.cell? ⟨by_, 2, none⟩ = some (.string y.1.c.call) ∧ W.cell? ⟨by_, 3, none⟩ = some (.int .i64 y.1.c.try_) ∧ W.cell? ⟨by_, 4, none⟩ = some (.bool y.1.c.idem) ∧ W.cell? ⟨by_, 5, none⟩ = some (.bool y.1.c.shadow) ∧ W.cell? ⟨by_, 6, none⟩ = some (.int .i64 y.1.c.dl) ∧ W.cell? ⟨by_, 7, none⟩ = some (.int .i64 y.1.c.purse) ∧ W.cell? ⟨by_, 8, none⟩ = some (.int .i64 y.1.c.ver) ∧ W.cell? ⟨by_, 9, none⟩ = some (.int .i64 y.1.c.prio) ∧ W.cell? ⟨by_, 10, none⟩ = some (.bool y.1.eff) ∧ W.cell? ⟨by_, 12, none⟩ = some (.int .i64 y.2))) := fun W hb => by
              have hh := ((btrans HBJI.out hb).block bx HZX.out).trans HZI.out
              have hh2 := (hb.block by_ hzj).trans zj
              have e := HEF.out
              exact ⟨block_cell hh 1 _ rfl, block_cell hh 2 _ rfl, block_cell hh 3 _ rfl, block_cell hh 4 _ rfl, block_cell hh 5 _ rfl, block_cell hh 6 _ rfl, block_cell hh 7 _ rfl, block_cell hh 8 _ rfl, block_cell hh 9 _ rfl, block_cell hh 10 _ rfl, block_cell hh 12 _ rfl, block_cell hh2 1 _ rfl, block_cell hh2 2 _ rfl, block_cell hh2 3 _ rfl, block_cell hh2 4 _ rfl, block_cell hh2 5 _ rfl, block_cell hh2 6 _ rfl, block_cell hh2 7 _ rfl, block_cell hh2 8 _ rfl, block_cell hh2 9 _ rfl, block_cell hh2 10 _ rfl, block_cell hh2 12 _ rfl⟩
            have HBYE := Lib.hid hby
            have HYM := Lib.hid (List.mem_of_getElem? hy)
            have HHY := Lib.hid hy
            clear hy hq3 hq bj zj hzj hby
            go_wp2_with fail
            rw [← HBYE.out]
            clear hWj q0 q1 q2 q3 q4 q5 q6 q7 q8 q9 q10 q11 q12
            have hef := HEF.out
            rw [hef] at HS
            clear hef
            cases hey : y.1.eff with
            | false =>
              rw [hey] at HS
              clear hey
              have hh := HS.out Wj.drew (Below.refl _ _).drew
              obtain ⟨z0, z1, z2, z3, z4, z5, z6, z7, z8, z9, z10, z11, z12, z13, z14, z15, z16, z17, z18, z19, z20, z21⟩ := hh
              refine wp_region_held_drew (S := fun W => W.cell? ⟨bx, 10, none⟩ = some (.bool true) ∧ W.cell? ⟨by_, 10, none⟩ = some (.bool false)) (by kernel_rfl) ⟨z9, z20⟩ (fun hHeld => ?_)
              clear z0 z1 z2 z3 z4 z5 z6 z7 z8 z9 z10 z11 z12 z13 z14 z15 z16 z17 z18 z19 z20 z21
              refine wpAnyH_take (i := 0) (v := ?_) rfl (by kernel_rfl) (by kernel_rfl) (by kernel_rfl) (fun _ _ _ h => h) (Or.inl ⟨by kernel_rfl, ?_⟩) (by assumption) ?_
              rotate_left
              · (intro w hSw; (try dsimp only at hSw); go_simp; (try rw [if_neg (by (try simp only [ByteArray.size_append]); omega)]); (try with_reducible rfl))
              try simp only [Act.put]
              refine wpAnyH_take (i := 1) (v := ?_) rfl (by kernel_rfl) (by kernel_rfl) (by kernel_rfl) (fun _ _ _ h => h) (Or.inl ⟨by kernel_rfl, ?_⟩) (by assumption) ?_
              rotate_left
              · (intro w hSw; (try dsimp only at hSw); go_simp; (try rw [if_neg (by (try simp only [ByteArray.size_append]); omega)]); (try with_reducible rfl))
              try simp only [Act.put]
              refine wpAnyH_take (i := 2) (v := ?_) rfl (by kernel_rfl) (by kernel_rfl) (by kernel_rfl) (fun _ _ _ h => h) (Or.inl ⟨by kernel_rfl, ?_⟩) (by assumption) ?_
              rotate_left
              · (intro w hSw; (try dsimp only at hSw); go_simp; (try rw [if_neg (by (try simp only [ByteArray.size_append]); omega)]); (try with_reducible rfl))
              try simp only [Act.put]
              refine wpAnyH_take (i := 3) (v := ?_) rfl (by kernel_rfl) (by kernel_rfl) (by kernel_rfl) (fun _ _ _ h => h) (Or.inl ⟨by kernel_rfl, ?_⟩) (by assumption) ?_
              rotate_left
              · (intro w hSw; (try dsimp only at hSw); go_simp; (try rw [if_neg (by (try simp only [ByteArray.size_append]); omega)]); (try with_reducible rfl))
              try simp only [Act.put]
              refine wpAnyH_take (i := 4) (v := ?_) rfl (by kernel_rfl) (by kernel_rfl) (by kernel_rfl) (fun _ _ _ h => h) (Or.inl ⟨by kernel_rfl, ?_⟩) (by assumption) ?_
              rotate_left
              · (intro w hSw; (try dsimp only at hSw); go_simp; (try rw [if_neg (by (try simp only [ByteArray.size_append]); omega)]); (try with_reducible rfl))
              try simp only [Act.put]
              refine wpAnyH_take (i := 5) (v := ?_) rfl (by kernel_rfl) (by kernel_rfl) (by kernel_rfl) (fun _ _ _ h => h) (Or.inl ⟨by kernel_rfl, ?_⟩) (by assumption) ?_
              rotate_left
              · (intro w hSw; (try dsimp only at hSw); go_simp; (try rw [if_neg (by (try simp only [ByteArray.size_append]); omega)]); (try with_reducible rfl))
              try simp only [Act.put]
              refine wpAnyH_take (i := 6) (v := ?_) rfl (by kernel_rfl) (by kernel_rfl) (by kernel_rfl) (fun _ _ _ h => h) (Or.inl ⟨by kernel_rfl, ?_⟩) (by assumption) ?_
              rotate_left
              · (intro w hSw; (try dsimp only at hSw); go_simp; (try rw [if_neg (by (try simp only [ByteArray.size_append]); omega)]); (try with_reducible rfl))
              try simp only [Act.put]
              refine wpAnyH_take (i := 7) (v := ?_) rfl (by kernel_rfl) (by kernel_rfl) (by kernel_rfl) (fun _ _ _ h => h) (Or.inl ⟨by kernel_rfl, ?_⟩) (by assumption) ?_
              rotate_left
              · (intro w hSw; (try dsimp only at hSw); go_simp; (try rw [if_neg (by (try simp only [ByteArray.size_append]); omega)]); (try with_reducible rfl))
              try simp only [Act.put]
              refine wpAnyH_take (i := 8) (v := ?_) rfl (by kernel_rfl) (by kernel_rfl) (by kernel_rfl) (fun _ _ _ h => h) (Or.inl ⟨by kernel_rfl, ?_⟩) (by assumption) ?_
              rotate_left
              · (intro w hSw; (try dsimp only at hSw); go_simp; (try rw [if_neg (by (try simp only [ByteArray.size_append]); omega)]); (try with_reducible rfl))
              try simp only [Act.put]
              refine wpAnyH_take (i := 9) (v := undef) rfl (by kernel_rfl) (by kernel_rfl) (by kernel_rfl) (fun _ _ _ h => h) (Or.inr ⟨by kernel_rfl, rfl⟩) (by assumption) ?_
              try simp only [Act.put]
              refine wpAnyH_take (i := 10) (v := undef) rfl (by kernel_rfl) (by kernel_rfl) (by kernel_rfl) (fun _ _ _ h => h) (Or.inr ⟨by kernel_rfl, rfl⟩) (by assumption) ?_
              try simp only [Act.put]
              refine wpAnyH_take (i := 11) (v := undef) rfl (by kernel_rfl) (by kernel_rfl) (by kernel_rfl) (fun _ _ _ h => h) (Or.inr ⟨by kernel_rfl, rfl⟩) (by assumption) ?_
              try simp only [Act.put]
              refine wpAnyH_take (i := 12) (v := undef) rfl (by kernel_rfl) (by kernel_rfl) (by kernel_rfl) (fun _ _ _ h => h) (Or.inr ⟨by kernel_rfl, rfl⟩) (by assumption) ?_
              try simp only [Act.put]
              refine wpAnyH_take (i := 13) (v := undef) rfl (by kernel_rfl) (by kernel_rfl) (by kernel_rfl) (fun _ _ _ h => h) (Or.inr ⟨by kernel_rfl, rfl⟩) (by assumption) ?_
              try simp only [Act.put]
              refine wpAnyH_take (i := 14) (v := ?_) rfl (by kernel_rfl) (by kernel_rfl) (by kernel_rfl) (fun _ _ _ h => h) (Or.inl ⟨by kernel_rfl, ?_⟩) (by assumption) ?_
              rotate_left
              · (intro w hSw; (try dsimp only at hSw); go_simp; (try rw [if_neg (by (try simp only [ByteArray.size_append]); omega)]); (try with_reducible rfl))
              try simp only [Act.put]
              refine wpAnyH_take (i := 15) (v := ?_) rfl (by kernel_rfl) (by kernel_rfl) (by kernel_rfl) (fun _ _ _ h => h) (Or.inl ⟨by kernel_rfl, ?_⟩) (by assumption) ?_
              rotate_left
              · (intro w hSw; (try dsimp only at hSw); go_simp; (try rw [if_neg (by (try simp only [ByteArray.size_append]); omega)]); (try with_reducible rfl))
              try simp only [Act.put]
              refine wpAnyH_take (i := 16) (v := undef) rfl (by kernel_rfl) (by kernel_rfl) (by kernel_rfl) (fun _ _ _ h => h) (Or.inr ⟨by kernel_rfl, rfl⟩) (by assumption) ?_
              try simp only [Act.put]
              refine wpAnyH_take (i := 17) (v := undef) rfl (by kernel_rfl) (by kernel_rfl) (by kernel_rfl) (fun _ _ _ h => h) (Or.inr ⟨by kernel_rfl, rfl⟩) (by assumption) ?_
              try simp only [Act.put]
              refine wpAnyH_take (i := 18) (v := undef) rfl (by kernel_rfl) (by kernel_rfl) (by kernel_rfl) (fun _ _ _ h => h) (Or.inr ⟨by kernel_rfl, rfl⟩) (by assumption) ?_
              try simp only [Act.put]
              refine wpAnyH_take (i := 19) (v := undef) rfl (by kernel_rfl) (by kernel_rfl) (by kernel_rfl) (fun _ _ _ h => h) (Or.inr ⟨by kernel_rfl, rfl⟩) (by assumption) ?_
              try simp only [Act.put]
              refine wpAnyH_take (i := 20) (v := undef) rfl (by kernel_rfl) (by kernel_rfl) (by kernel_rfl) (fun _ _ _ h => h) (Or.inr ⟨by kernel_rfl, rfl⟩) (by assumption) ?_
              try simp only [Act.put]
              refine wpAnyH_take (i := 21) (v := ?_) rfl (by kernel_rfl) (by kernel_rfl) (by kernel_rfl) (fun _ _ _ h => h) (Or.inl ⟨by kernel_rfl, ?_⟩) (by assumption) ?_
              rotate_left
              · (intro w hSw; (try dsimp only at hSw); go_simp; (try rw [if_neg (by (try simp only [ByteArray.size_append]); omega)]); (try with_reducible rfl))
              try simp only [Act.put]
              refine wpAnyH_take (i := 22) (v := ?_) rfl (by kernel_rfl) (by kernel_rfl) (by kernel_rfl) (fun _ _ _ h => h) (Or.inl ⟨by kernel_rfl, ?_⟩) (by assumption) ?_
              rotate_left
              · (intro w hSw; (try dsimp only at hSw); go_simp; (try rw [if_neg (by (try simp only [ByteArray.size_append]); omega)]); (try with_reducible rfl))
              try simp only [Act.put]
              refine wpAnyH_take (i := 23) (v := undef) rfl (by kernel_rfl) (by kernel_rfl) (by kernel_rfl) (fun _ _ _ h => h) (Or.inr ⟨by kernel_rfl, rfl⟩) (by assumption) ?_
              try simp only [Act.put]
              refine wpAnyH_take (i := 24) (v := undef) rfl (by kernel_rfl) (by kernel_rfl) (by kernel_rfl) (fun _ _ _ h => h) (Or.inr ⟨by kernel_rfl, rfl⟩) (by assumption) ?_
              try simp only [Act.put]
              refine wpAnyH_take (i := 25) (v := undef) rfl (by kernel_rfl) (by kernel_rfl) (by kernel_rfl) (fun _ _ _ h => h) (Or.inr ⟨by kernel_rfl, rfl⟩) (by assumption) ?_
              try simp only [Act.put]
              refine wpAnyH_take (i := 26) (v := undef) rfl (by kernel_rfl) (by kernel_rfl) (by kernel_rfl) (fun _ _ _ h => h) (Or.inr ⟨by kernel_rfl, rfl⟩) (by assumption) ?_
              try simp only [Act.put]
              refine wpAnyH_take (i := 27) (v := undef) rfl (by kernel_rfl) (by kernel_rfl) (by kernel_rfl) (fun _ _ _ h => h) (Or.inr ⟨by kernel_rfl, rfl⟩) (by assumption) ?_
              try simp only [Act.put]
              refine wpAnyH_take (i := 28) (v := undef) rfl (by kernel_rfl) (by kernel_rfl) (by kernel_rfl) (fun _ _ _ h => h) (Or.inr ⟨by kernel_rfl, rfl⟩) (by assumption) ?_
              try simp only [Act.put]
              refine wpAnyH_take (i := 29) (v := undef) rfl (by kernel_rfl) (by kernel_rfl) (by kernel_rfl) (fun _ _ _ h => h) (Or.inr ⟨by kernel_rfl, rfl⟩) (by assumption) ?_
              try simp only [Act.put]
              refine wpAnyH_take (i := 30) (v := undef) rfl (by kernel_rfl) (by kernel_rfl) (by kernel_rfl) (fun _ _ _ h => h) (Or.inr ⟨by kernel_rfl, rfl⟩) (by assumption) ?_
              try simp only [Act.put]
              refine wpAnyH_take (i := 31) (v := undef) rfl (by kernel_rfl) (by kernel_rfl) (by kernel_rfl) (fun _ _ _ h => h) (Or.inr ⟨by kernel_rfl, rfl⟩) (by assumption) ?_
              try simp only [Act.put]
              refine wpAnyH_take (i := 32) (v := ?_) rfl (by kernel_rfl) (by kernel_rfl) (by kernel_rfl) (fun _ _ _ h => h) (Or.inl ⟨by kernel_rfl, ?_⟩) (by assumption) ?_
              rotate_left
              · (intro w hSw; (try dsimp only at hSw); go_simp; (try rw [if_neg (by (try simp only [ByteArray.size_append]); omega)]); (try with_reducible rfl))
              try simp only [Act.put]
              refine wpAnyH_take (i := 33) (v := ?_) rfl (by kernel_rfl) (by kernel_rfl) (by kernel_rfl) (fun _ _ _ h => h) (Or.inl ⟨by kernel_rfl, ?_⟩) (by assumption) ?_
              rotate_left
              · (intro w hSw; (try dsimp only at hSw); go_simp; (try rw [if_neg (by (try simp only [ByteArray.size_append]); omega)]); (try with_reducible rfl))
              try simp only [Act.put]
              refine wpAnyH_take (i := 34) (v := undef) rfl (by kernel_rfl) (by kernel_rfl) (by kernel_rfl) (fun _ _ _ h => h) (Or.inr ⟨by kernel_rfl, rfl⟩) (by assumption) ?_
              try simp only [Act.put]
              refine wpAnyH_take (i := 35) (v := undef) rfl (by kernel_rfl) (by kernel_rfl) (by kernel_rfl) (fun _ _ _ h => h) (Or.inr ⟨by kernel_rfl, rfl⟩) (by assumption) ?_
              try simp only [Act.put]
              refine wpAnyH_take (i := 36) (v := undef) rfl (by kernel_rfl) (by kernel_rfl) (by kernel_rfl) (fun _ _ _ h => h) (Or.inr ⟨by kernel_rfl, rfl⟩) (by assumption) ?_
              try simp only [Act.put]
              refine wpAnyH_take (i := 37) (v := undef) rfl (by kernel_rfl) (by kernel_rfl) (by kernel_rfl) (fun _ _ _ h => h) (Or.inr ⟨by kernel_rfl, rfl⟩) (by assumption) ?_
              try simp only [Act.put]
              refine wpAnyH_take (i := 38) (v := undef) rfl (by kernel_rfl) (by kernel_rfl) (by kernel_rfl) (fun _ _ _ h => h) (Or.inr ⟨by kernel_rfl, rfl⟩) (by assumption) ?_
              try simp only [Act.put]
              refine wpAnyH_take (i := 39) (v := undef) rfl (by kernel_rfl) (by kernel_rfl) (by kernel_rfl) (fun _ _ _ h => h) (Or.inr ⟨by kernel_rfl, rfl⟩) (by assumption) ?_
              try simp only [Act.put]
              refine wpAnyH_take (i := 40) (v := undef) rfl (by kernel_rfl) (by kernel_rfl) (by kernel_rfl) (fun _ _ _ h => h) (Or.inr ⟨by kernel_rfl, rfl⟩) (by assumption) ?_
              try simp only [Act.put]
              refine wpAnyH_take (i := 41) (v := ?_) rfl (by kernel_rfl) (by kernel_rfl) (by kernel_rfl) (fun _ _ _ h => h) (Or.inl ⟨by kernel_rfl, ?_⟩) (by assumption) ?_
              rotate_left
              · (intro w hSw; (try dsimp only at hSw); go_simp; (try rw [if_neg (by (try simp only [ByteArray.size_append]); omega)]); (try with_reducible rfl))
              try simp only [Act.put]
              refine wpAnyH_done (by kernel_rfl) ?_ _
              try simp only [Act.put]
              clear hHeld
              go_simp
              go_wp2_with fail
              go_roundw
              case rel => exact ⟨kk + 1, by go_num, by omega, HBJI.out.drew⟩
              case measure => simp [intOf]; omega
            | true =>
              rw [hey] at HS
              have HEY := Lib.hid hey
              clear hey
              have HKX := Lib.hid (fun W hb => HKEY.out W x hb HXM.out)
              have HKY := Lib.hid (fun W hb => HKEY.out W y hb HYM.out)
              rcases Bool.eq_false_or_eq_true x.1.c.idem with hix | hix
              · rw [hix] at HS
                clear hix
                have hh := HS.out Wj.drew (Below.refl _ _).drew
                obtain ⟨z0, z1, z2, z3, z4, z5, z6, z7, z8, z9, z10, z11, z12, z13, z14, z15, z16, z17, z18, z19, z20, z21⟩ := hh
                refine wp_region_held_drew (S := fun W => W.cell? ⟨bx, 10, none⟩ = some (.bool true) ∧ W.cell? ⟨by_, 10, none⟩ = some (.bool true) ∧ W.cell? ⟨bx, 4, none⟩ = some (.bool true)) (by kernel_rfl) ⟨z9, z20, z3⟩ (fun hHeld => ?_)
                clear z0 z1 z2 z3 z4 z5 z6 z7 z8 z9 z10 z11 z12 z13 z14 z15 z16 z17 z18 z19 z20 z21
                refine wpAnyH_take (i := 0) (v := ?_) rfl (by kernel_rfl) (by kernel_rfl) (by kernel_rfl) (fun _ _ _ h => h) (Or.inl ⟨by kernel_rfl, ?_⟩) (by assumption) ?_
                rotate_left
                · (intro w hSw; (try dsimp only at hSw); go_simp; (try rw [if_neg (by (try simp only [ByteArray.size_append]); omega)]); (try with_reducible rfl))
                try simp only [Act.put]
                refine wpAnyH_take (i := 1) (v := ?_) rfl (by kernel_rfl) (by kernel_rfl) (by kernel_rfl) (fun _ _ _ h => h) (Or.inl ⟨by kernel_rfl, ?_⟩) (by assumption) ?_
                rotate_left
                · (intro w hSw; (try dsimp only at hSw); go_simp; (try rw [if_neg (by (try simp only [ByteArray.size_append]); omega)]); (try with_reducible rfl))
                try simp only [Act.put]
                refine wpAnyH_take (i := 2) (v := ?_) rfl (by kernel_rfl) (by kernel_rfl) (by kernel_rfl) (fun _ _ _ h => h) (Or.inl ⟨by kernel_rfl, ?_⟩) (by assumption) ?_
                rotate_left
                · (intro w hSw; (try dsimp only at hSw); go_simp; (try rw [if_neg (by (try simp only [ByteArray.size_append]); omega)]); (try with_reducible rfl))
                try simp only [Act.put]
                refine wpAnyH_take (i := 3) (v := ?_) rfl (by kernel_rfl) (by kernel_rfl) (by kernel_rfl) (fun _ _ _ h => h) (Or.inl ⟨by kernel_rfl, ?_⟩) (by assumption) ?_
                rotate_left
                · (intro w hSw; (try dsimp only at hSw); go_simp; (try rw [if_neg (by (try simp only [ByteArray.size_append]); omega)]); (try with_reducible rfl))
                try simp only [Act.put]
                refine wpAnyH_take (i := 4) (v := ?_) rfl (by kernel_rfl) (by kernel_rfl) (by kernel_rfl) (fun _ _ _ h => h) (Or.inl ⟨by kernel_rfl, ?_⟩) (by assumption) ?_
                rotate_left
                · (intro w hSw; (try dsimp only at hSw); go_simp; (try rw [if_neg (by (try simp only [ByteArray.size_append]); omega)]); (try with_reducible rfl))
                try simp only [Act.put]
                refine wpAnyH_take (i := 5) (v := ?_) rfl (by kernel_rfl) (by kernel_rfl) (by kernel_rfl) (fun _ _ _ h => h) (Or.inl ⟨by kernel_rfl, ?_⟩) (by assumption) ?_
                rotate_left
                · (intro w hSw; (try dsimp only at hSw); go_simp; (try rw [if_neg (by (try simp only [ByteArray.size_append]); omega)]); (try with_reducible rfl))
                try simp only [Act.put]
                refine wpAnyH_take (i := 6) (v := ?_) rfl (by kernel_rfl) (by kernel_rfl) (by kernel_rfl) (fun _ _ _ h => h) (Or.inl ⟨by kernel_rfl, ?_⟩) (by assumption) ?_
                rotate_left
                · (intro w hSw; (try dsimp only at hSw); go_simp; (try rw [if_neg (by (try simp only [ByteArray.size_append]); omega)]); (try with_reducible rfl))
                try simp only [Act.put]
                refine wpAnyH_take (i := 7) (v := ?_) rfl (by kernel_rfl) (by kernel_rfl) (by kernel_rfl) (fun _ _ _ h => h) (Or.inl ⟨by kernel_rfl, ?_⟩) (by assumption) ?_
                rotate_left
                · (intro w hSw; (try dsimp only at hSw); go_simp; (try rw [if_neg (by (try simp only [ByteArray.size_append]); omega)]); (try with_reducible rfl))
                try simp only [Act.put]
                refine wpAnyH_take (i := 8) (v := ?_) rfl (by kernel_rfl) (by kernel_rfl) (by kernel_rfl) (fun _ _ _ h => h) (Or.inl ⟨by kernel_rfl, ?_⟩) (by assumption) ?_
                rotate_left
                · (intro w hSw; (try dsimp only at hSw); go_simp; (try rw [if_neg (by (try simp only [ByteArray.size_append]); omega)]); (try with_reducible rfl))
                try simp only [Act.put]
                refine wpAnyH_take (i := 9) (v := ?_) rfl (by kernel_rfl) (by kernel_rfl) (by kernel_rfl) (fun _ _ _ h => h) (Or.inl ⟨by kernel_rfl, ?_⟩) (by assumption) ?_
                rotate_left
                · (intro w hSw; (try dsimp only at hSw); go_simp; (try rw [if_neg (by (try simp only [ByteArray.size_append]); omega)]); (try with_reducible rfl))
                try simp only [Act.put]
                refine wpAnyH_take (i := 10) (v := ?_) rfl (by kernel_rfl) (by kernel_rfl) (by kernel_rfl) (fun _ _ _ h => h) (Or.inl ⟨by kernel_rfl, ?_⟩) (by assumption) ?_
                rotate_left
                · (intro w hSw; (try dsimp only at hSw); go_simp; (try rw [if_neg (by (try simp only [ByteArray.size_append]); omega)]); (try with_reducible rfl))
                try simp only [Act.put]
                refine wpAnyH_take (i := 11) (v := ?_) rfl (by kernel_rfl) (by kernel_rfl) (by kernel_rfl) (fun _ _ _ h => h) (Or.inl ⟨by kernel_rfl, ?_⟩) (by assumption) ?_
                rotate_left
                · (intro w hSw; (try dsimp only at hSw); go_simp; (try rw [if_neg (by (try simp only [ByteArray.size_append]); omega)]); (try with_reducible rfl))
                try simp only [Act.put]
                refine wpAnyH_take (i := 12) (v := ?_) rfl (by kernel_rfl) (by kernel_rfl) (by kernel_rfl) (fun _ _ _ h => h) (Or.inl ⟨by kernel_rfl, ?_⟩) (by assumption) ?_
                rotate_left
                · (intro w hSw; (try dsimp only at hSw); go_simp; (try rw [if_neg (by (try simp only [ByteArray.size_append]); omega)]); (try with_reducible rfl))
                try simp only [Act.put]
                refine wpAnyH_take (i := 13) (v := ?_) rfl (by kernel_rfl) (by kernel_rfl) (by kernel_rfl) (fun _ _ _ h => h) (Or.inl ⟨by kernel_rfl, ?_⟩) (by assumption) ?_
                rotate_left
                · (intro w hSw; (try dsimp only at hSw); go_simp; (try rw [if_neg (by (try simp only [ByteArray.size_append]); omega)]); (try with_reducible rfl))
                try simp only [Act.put]
                refine wpAnyH_take (i := 14) (v := ?_) rfl (by kernel_rfl) (by kernel_rfl) (by kernel_rfl) (fun _ _ _ h => h) (Or.inl ⟨by kernel_rfl, ?_⟩) (by assumption) ?_
                rotate_left
                · (intro w hSw; (try dsimp only at hSw); go_simp; (try rw [if_neg (by (try simp only [ByteArray.size_append]); omega)]); (try with_reducible rfl))
                try simp only [Act.put]
                refine wpAnyH_take (i := 15) (v := ?_) rfl (by kernel_rfl) (by kernel_rfl) (by kernel_rfl) (fun _ _ _ h => h) (Or.inl ⟨by kernel_rfl, ?_⟩) (by assumption) ?_
                rotate_left
                · (intro w hSw; (try dsimp only at hSw); go_simp; (try rw [if_neg (by (try simp only [ByteArray.size_append]); omega)]); (try with_reducible rfl))
                try simp only [Act.put]
                refine wpAnyH_take (i := 16) (v := undef) rfl (by kernel_rfl) (by kernel_rfl) (by kernel_rfl) (fun _ _ _ h => h) (Or.inr ⟨by kernel_rfl, rfl⟩) (by assumption) ?_
                try simp only [Act.put]
                refine wpAnyH_take (i := 17) (v := undef) rfl (by kernel_rfl) (by kernel_rfl) (by kernel_rfl) (fun _ _ _ h => h) (Or.inr ⟨by kernel_rfl, rfl⟩) (by assumption) ?_
                try simp only [Act.put]
                refine wpAnyH_take (i := 18) (v := undef) rfl (by kernel_rfl) (by kernel_rfl) (by kernel_rfl) (fun _ _ _ h => h) (Or.inr ⟨by kernel_rfl, rfl⟩) (by assumption) ?_
                try simp only [Act.put]
                refine wpAnyH_take (i := 19) (v := undef) rfl (by kernel_rfl) (by kernel_rfl) (by kernel_rfl) (fun _ _ _ h => h) (Or.inr ⟨by kernel_rfl, rfl⟩) (by assumption) ?_
                try simp only [Act.put]
                refine wpAnyH_take (i := 20) (v := undef) rfl (by kernel_rfl) (by kernel_rfl) (by kernel_rfl) (fun _ _ _ h => h) (Or.inr ⟨by kernel_rfl, rfl⟩) (by assumption) ?_
                try simp only [Act.put]
                refine wpAnyH_take (i := 21) (v := ?_) rfl (by kernel_rfl) (by kernel_rfl) (by kernel_rfl) (fun _ _ _ h => h) (Or.inl ⟨by kernel_rfl, ?_⟩) (by assumption) ?_
                rotate_left
                · (intro w hSw; (try dsimp only at hSw); go_simp; (try rw [if_neg (by (try simp only [ByteArray.size_append]); omega)]); (try with_reducible rfl))
                try simp only [Act.put]
                refine wpAnyH_take (i := 22) (v := ?_) rfl (by kernel_rfl) (by kernel_rfl) (by kernel_rfl) (fun _ _ _ h => h) (Or.inl ⟨by kernel_rfl, ?_⟩) (by assumption) ?_
                rotate_left
                · (intro w hSw; (try dsimp only at hSw); go_simp; (try rw [if_neg (by (try simp only [ByteArray.size_append]); omega)]); (try with_reducible rfl))
                try simp only [Act.put]
                refine wpAnyH_take (i := 23) (v := undef) rfl (by kernel_rfl) (by kernel_rfl) (by kernel_rfl) (fun _ _ _ h => h) (Or.inr ⟨by kernel_rfl, rfl⟩) (by assumption) ?_
                try simp only [Act.put]
                refine wpAnyH_take (i := 24) (v := undef) rfl (by kernel_rfl) (by kernel_rfl) (by kernel_rfl) (fun _ _ _ h => h) (Or.inr ⟨by kernel_rfl, rfl⟩) (by assumption) ?_
                try simp only [Act.put]
                refine wpAnyH_take (i := 25) (v := undef) rfl (by kernel_rfl) (by kernel_rfl) (by kernel_rfl) (fun _ _ _ h => h) (Or.inr ⟨by kernel_rfl, rfl⟩) (by assumption) ?_
                try simp only [Act.put]
                refine wpAnyH_take (i := 26) (v := undef) rfl (by kernel_rfl) (by kernel_rfl) (by kernel_rfl) (fun _ _ _ h => h) (Or.inr ⟨by kernel_rfl, rfl⟩) (by assumption) ?_
                try simp only [Act.put]
                refine wpAnyH_take (i := 27) (v := undef) rfl (by kernel_rfl) (by kernel_rfl) (by kernel_rfl) (fun _ _ _ h => h) (Or.inr ⟨by kernel_rfl, rfl⟩) (by assumption) ?_
                try simp only [Act.put]
                refine wpAnyH_take (i := 28) (v := undef) rfl (by kernel_rfl) (by kernel_rfl) (by kernel_rfl) (fun _ _ _ h => h) (Or.inr ⟨by kernel_rfl, rfl⟩) (by assumption) ?_
                try simp only [Act.put]
                refine wpAnyH_take (i := 29) (v := undef) rfl (by kernel_rfl) (by kernel_rfl) (by kernel_rfl) (fun _ _ _ h => h) (Or.inr ⟨by kernel_rfl, rfl⟩) (by assumption) ?_
                try simp only [Act.put]
                refine wpAnyH_take (i := 30) (v := undef) rfl (by kernel_rfl) (by kernel_rfl) (by kernel_rfl) (fun _ _ _ h => h) (Or.inr ⟨by kernel_rfl, rfl⟩) (by assumption) ?_
                try simp only [Act.put]
                refine wpAnyH_take (i := 31) (v := undef) rfl (by kernel_rfl) (by kernel_rfl) (by kernel_rfl) (fun _ _ _ h => h) (Or.inr ⟨by kernel_rfl, rfl⟩) (by assumption) ?_
                try simp only [Act.put]
                refine wpAnyH_take (i := 32) (v := ?_) rfl (by kernel_rfl) (by kernel_rfl) (by kernel_rfl) (fun _ _ _ h => h) (Or.inl ⟨by kernel_rfl, ?_⟩) (by assumption) ?_
                rotate_left
                · (intro w hSw; (try dsimp only at hSw); go_simp; (try rw [if_neg (by (try simp only [ByteArray.size_append]); omega)]); (try with_reducible rfl))
                try simp only [Act.put]
                refine wpAnyH_take (i := 33) (v := ?_) rfl (by kernel_rfl) (by kernel_rfl) (by kernel_rfl) (fun _ _ _ h => h) (Or.inl ⟨by kernel_rfl, ?_⟩) (by assumption) ?_
                rotate_left
                · (intro w hSw; (try dsimp only at hSw); go_simp; (try rw [if_neg (by (try simp only [ByteArray.size_append]); omega)]); (try with_reducible rfl))
                try simp only [Act.put]
                refine wpAnyH_take (i := 34) (v := undef) rfl (by kernel_rfl) (by kernel_rfl) (by kernel_rfl) (fun _ _ _ h => h) (Or.inr ⟨by kernel_rfl, rfl⟩) (by assumption) ?_
                try simp only [Act.put]
                refine wpAnyH_take (i := 35) (v := undef) rfl (by kernel_rfl) (by kernel_rfl) (by kernel_rfl) (fun _ _ _ h => h) (Or.inr ⟨by kernel_rfl, rfl⟩) (by assumption) ?_
                try simp only [Act.put]
                refine wpAnyH_take (i := 36) (v := undef) rfl (by kernel_rfl) (by kernel_rfl) (by kernel_rfl) (fun _ _ _ h => h) (Or.inr ⟨by kernel_rfl, rfl⟩) (by assumption) ?_
                try simp only [Act.put]
                refine wpAnyH_take (i := 37) (v := undef) rfl (by kernel_rfl) (by kernel_rfl) (by kernel_rfl) (fun _ _ _ h => h) (Or.inr ⟨by kernel_rfl, rfl⟩) (by assumption) ?_
                try simp only [Act.put]
                refine wpAnyH_take (i := 38) (v := undef) rfl (by kernel_rfl) (by kernel_rfl) (by kernel_rfl) (fun _ _ _ h => h) (Or.inr ⟨by kernel_rfl, rfl⟩) (by assumption) ?_
                try simp only [Act.put]
                refine wpAnyH_take (i := 39) (v := undef) rfl (by kernel_rfl) (by kernel_rfl) (by kernel_rfl) (fun _ _ _ h => h) (Or.inr ⟨by kernel_rfl, rfl⟩) (by assumption) ?_
                try simp only [Act.put]
                refine wpAnyH_take (i := 40) (v := undef) rfl (by kernel_rfl) (by kernel_rfl) (by kernel_rfl) (fun _ _ _ h => h) (Or.inr ⟨by kernel_rfl, rfl⟩) (by assumption) ?_
                try simp only [Act.put]
                refine wpAnyH_take (i := 41) (v := ?_) rfl (by kernel_rfl) (by kernel_rfl) (by kernel_rfl) (fun _ _ _ h => h) (Or.inl ⟨by kernel_rfl, ?_⟩) (by assumption) ?_
                rotate_left
                · (intro w hSw; (try dsimp only at hSw); go_simp; (try rw [if_neg (by (try simp only [ByteArray.size_append]); omega)]); (try with_reducible rfl))
                try simp only [Act.put]
                refine wpAnyH_done (by kernel_rfl) ?_ _
                try simp only [Act.put]
                clear hHeld
                go_simp
                go_wp2_with fail
                go_roundw
                case rel => exact ⟨kk + 1, by go_num, by omega, HBJI.out.drew⟩
                case measure => simp [intOf]; omega
              · rw [hix] at HS HKX
                have HIX := Lib.hid hix
                clear hix
                cases hiy : y.1.c.idem with
                | true =>
                  rw [hiy] at HS
                  clear hiy
                  have hh := HS.out Wj.drew (Below.refl _ _).drew
                  obtain ⟨z0, z1, z2, z3, z4, z5, z6, z7, z8, z9, z10, z11, z12, z13, z14, z15, z16, z17, z18, z19, z20, z21⟩ := hh
                  refine wp_region_held_drew (S := fun W => W.cell? ⟨bx, 10, none⟩ = some (.bool true) ∧ W.cell? ⟨by_, 10, none⟩ = some (.bool true) ∧ W.cell? ⟨bx, 4, none⟩ = some (.bool false) ∧ W.cell? ⟨by_, 4, none⟩ = some (.bool true)) (by kernel_rfl) ⟨z9, z20, z3, z14⟩ (fun hHeld => ?_)
                  clear z0 z1 z2 z3 z4 z5 z6 z7 z8 z9 z10 z11 z12 z13 z14 z15 z16 z17 z18 z19 z20 z21
                  refine wpAnyH_take (i := 0) (v := ?_) rfl (by kernel_rfl) (by kernel_rfl) (by kernel_rfl) (fun _ _ _ h => h) (Or.inl ⟨by kernel_rfl, ?_⟩) (by assumption) ?_
                  rotate_left
                  · (intro w hSw; (try dsimp only at hSw); go_simp; (try rw [if_neg (by (try simp only [ByteArray.size_append]); omega)]); (try with_reducible rfl))
                  try simp only [Act.put]
                  refine wpAnyH_take (i := 1) (v := ?_) rfl (by kernel_rfl) (by kernel_rfl) (by kernel_rfl) (fun _ _ _ h => h) (Or.inl ⟨by kernel_rfl, ?_⟩) (by assumption) ?_
                  rotate_left
                  · (intro w hSw; (try dsimp only at hSw); go_simp; (try rw [if_neg (by (try simp only [ByteArray.size_append]); omega)]); (try with_reducible rfl))
                  try simp only [Act.put]
                  refine wpAnyH_take (i := 2) (v := ?_) rfl (by kernel_rfl) (by kernel_rfl) (by kernel_rfl) (fun _ _ _ h => h) (Or.inl ⟨by kernel_rfl, ?_⟩) (by assumption) ?_
                  rotate_left
                  · (intro w hSw; (try dsimp only at hSw); go_simp; (try rw [if_neg (by (try simp only [ByteArray.size_append]); omega)]); (try with_reducible rfl))
                  try simp only [Act.put]
                  refine wpAnyH_take (i := 3) (v := ?_) rfl (by kernel_rfl) (by kernel_rfl) (by kernel_rfl) (fun _ _ _ h => h) (Or.inl ⟨by kernel_rfl, ?_⟩) (by assumption) ?_
                  rotate_left
                  · (intro w hSw; (try dsimp only at hSw); go_simp; (try rw [if_neg (by (try simp only [ByteArray.size_append]); omega)]); (try with_reducible rfl))
                  try simp only [Act.put]
                  refine wpAnyH_take (i := 4) (v := ?_) rfl (by kernel_rfl) (by kernel_rfl) (by kernel_rfl) (fun _ _ _ h => h) (Or.inl ⟨by kernel_rfl, ?_⟩) (by assumption) ?_
                  rotate_left
                  · (intro w hSw; (try dsimp only at hSw); go_simp; (try rw [if_neg (by (try simp only [ByteArray.size_append]); omega)]); (try with_reducible rfl))
                  try simp only [Act.put]
                  refine wpAnyH_take (i := 5) (v := ?_) rfl (by kernel_rfl) (by kernel_rfl) (by kernel_rfl) (fun _ _ _ h => h) (Or.inl ⟨by kernel_rfl, ?_⟩) (by assumption) ?_
                  rotate_left
                  · (intro w hSw; (try dsimp only at hSw); go_simp; (try rw [if_neg (by (try simp only [ByteArray.size_append]); omega)]); (try with_reducible rfl))
                  try simp only [Act.put]
                  refine wpAnyH_take (i := 6) (v := ?_) rfl (by kernel_rfl) (by kernel_rfl) (by kernel_rfl) (fun _ _ _ h => h) (Or.inl ⟨by kernel_rfl, ?_⟩) (by assumption) ?_
                  rotate_left
                  · (intro w hSw; (try dsimp only at hSw); go_simp; (try rw [if_neg (by (try simp only [ByteArray.size_append]); omega)]); (try with_reducible rfl))
                  try simp only [Act.put]
                  refine wpAnyH_take (i := 7) (v := ?_) rfl (by kernel_rfl) (by kernel_rfl) (by kernel_rfl) (fun _ _ _ h => h) (Or.inl ⟨by kernel_rfl, ?_⟩) (by assumption) ?_
                  rotate_left
                  · (intro w hSw; (try dsimp only at hSw); go_simp; (try rw [if_neg (by (try simp only [ByteArray.size_append]); omega)]); (try with_reducible rfl))
                  try simp only [Act.put]
                  refine wpAnyH_take (i := 8) (v := ?_) rfl (by kernel_rfl) (by kernel_rfl) (by kernel_rfl) (fun _ _ _ h => h) (Or.inl ⟨by kernel_rfl, ?_⟩) (by assumption) ?_
                  rotate_left
                  · (intro w hSw; (try dsimp only at hSw); go_simp; (try rw [if_neg (by (try simp only [ByteArray.size_append]); omega)]); (try with_reducible rfl))
                  try simp only [Act.put]
                  refine wpAnyH_take (i := 9) (v := ?_) rfl (by kernel_rfl) (by kernel_rfl) (by kernel_rfl) (fun _ _ _ h => h) (Or.inl ⟨by kernel_rfl, ?_⟩) (by assumption) ?_
                  rotate_left
                  · (intro w hSw; (try dsimp only at hSw); go_simp; (try rw [if_neg (by (try simp only [ByteArray.size_append]); omega)]); (try with_reducible rfl))
                  try simp only [Act.put]
                  refine wpAnyH_take (i := 10) (v := ?_) rfl (by kernel_rfl) (by kernel_rfl) (by kernel_rfl) (fun _ _ _ h => h) (Or.inl ⟨by kernel_rfl, ?_⟩) (by assumption) ?_
                  rotate_left
                  · (intro w hSw; (try dsimp only at hSw); go_simp; (try rw [if_neg (by (try simp only [ByteArray.size_append]); omega)]); (try with_reducible rfl))
                  try simp only [Act.put]
                  refine wpAnyH_take (i := 11) (v := ?_) rfl (by kernel_rfl) (by kernel_rfl) (by kernel_rfl) (fun _ _ _ h => h) (Or.inl ⟨by kernel_rfl, ?_⟩) (by assumption) ?_
                  rotate_left
                  · (intro w hSw; (try dsimp only at hSw); go_simp; (try rw [if_neg (by (try simp only [ByteArray.size_append]); omega)]); (try with_reducible rfl))
                  try simp only [Act.put]
                  refine wpAnyH_take (i := 12) (v := ?_) rfl (by kernel_rfl) (by kernel_rfl) (by kernel_rfl) (fun _ _ _ h => h) (Or.inl ⟨by kernel_rfl, ?_⟩) (by assumption) ?_
                  rotate_left
                  · (intro w hSw; (try dsimp only at hSw); go_simp; (try rw [if_neg (by (try simp only [ByteArray.size_append]); omega)]); (try with_reducible rfl))
                  try simp only [Act.put]
                  refine wpAnyH_take (i := 13) (v := ?_) rfl (by kernel_rfl) (by kernel_rfl) (by kernel_rfl) (fun _ _ _ h => h) (Or.inl ⟨by kernel_rfl, ?_⟩) (by assumption) ?_
                  rotate_left
                  · (intro w hSw; (try dsimp only at hSw); go_simp; (try rw [if_neg (by (try simp only [ByteArray.size_append]); omega)]); (try with_reducible rfl))
                  try simp only [Act.put]
                  refine wpAnyH_take (i := 14) (v := ?_) rfl (by kernel_rfl) (by kernel_rfl) (by kernel_rfl) (fun _ _ _ h => h) (Or.inl ⟨by kernel_rfl, ?_⟩) (by assumption) ?_
                  rotate_left
                  · (intro w hSw; (try dsimp only at hSw); go_simp; (try rw [if_neg (by (try simp only [ByteArray.size_append]); omega)]); (try with_reducible rfl))
                  try simp only [Act.put]
                  refine wpAnyH_take (i := 15) (v := ?_) rfl (by kernel_rfl) (by kernel_rfl) (by kernel_rfl) (fun _ _ _ h => h) (Or.inl ⟨by kernel_rfl, ?_⟩) (by assumption) ?_
                  rotate_left
                  · (intro w hSw; (try dsimp only at hSw); go_simp; (try rw [if_neg (by (try simp only [ByteArray.size_append]); omega)]); (try with_reducible rfl))
                  try simp only [Act.put]
                  refine wpAnyH_take (i := 16) (v := ?_) rfl (by kernel_rfl) (by kernel_rfl) (by kernel_rfl) (fun _ _ _ h => h) (Or.inl ⟨by kernel_rfl, ?_⟩) (by assumption) ?_
                  rotate_left
                  · (intro w hSw; (try dsimp only at hSw); go_simp; (try rw [if_neg (by (try simp only [ByteArray.size_append]); omega)]); (try with_reducible rfl))
                  try simp only [Act.put]
                  refine wpAnyH_take (i := 17) (v := ?_) rfl (by kernel_rfl) (by kernel_rfl) (by kernel_rfl) (fun _ _ _ h => h) (Or.inl ⟨by kernel_rfl, ?_⟩) (by assumption) ?_
                  rotate_left
                  · (intro w hSw; (try dsimp only at hSw); go_simp; (try rw [if_neg (by (try simp only [ByteArray.size_append]); omega)]); (try with_reducible rfl))
                  try simp only [Act.put]
                  refine wpAnyH_take (i := 18) (v := ?_) rfl (by kernel_rfl) (by kernel_rfl) (by kernel_rfl) (fun _ _ _ h => h) (Or.inl ⟨by kernel_rfl, ?_⟩) (by assumption) ?_
                  rotate_left
                  · (intro w hSw; (try dsimp only at hSw); go_simp; (try rw [if_neg (by (try simp only [ByteArray.size_append]); omega)]); (try with_reducible rfl))
                  try simp only [Act.put]
                  refine wpAnyH_take (i := 19) (v := ?_) rfl (by kernel_rfl) (by kernel_rfl) (by kernel_rfl) (fun _ _ _ h => h) (Or.inl ⟨by kernel_rfl, ?_⟩) (by assumption) ?_
                  rotate_left
                  · (intro w hSw; (try dsimp only at hSw); go_simp; (try rw [if_neg (by (try simp only [ByteArray.size_append]); omega)]); (try with_reducible rfl))
                  try simp only [Act.put]
                  refine wpAnyH_take (i := 20) (v := ?_) rfl (by kernel_rfl) (by kernel_rfl) (by kernel_rfl) (fun _ _ _ h => h) (Or.inl ⟨by kernel_rfl, ?_⟩) (by assumption) ?_
                  rotate_left
                  · (intro w hSw; (try dsimp only at hSw); go_simp; (try rw [if_neg (by (try simp only [ByteArray.size_append]); omega)]); (try with_reducible rfl))
                  try simp only [Act.put]
                  refine wpAnyH_take (i := 21) (v := ?_) rfl (by kernel_rfl) (by kernel_rfl) (by kernel_rfl) (fun _ _ _ h => h) (Or.inl ⟨by kernel_rfl, ?_⟩) (by assumption) ?_
                  rotate_left
                  · (intro w hSw; (try dsimp only at hSw); go_simp; (try rw [if_neg (by (try simp only [ByteArray.size_append]); omega)]); (try with_reducible rfl))
                  try simp only [Act.put]
                  refine wpAnyH_take (i := 22) (v := ?_) rfl (by kernel_rfl) (by kernel_rfl) (by kernel_rfl) (fun _ _ _ h => h) (Or.inl ⟨by kernel_rfl, ?_⟩) (by assumption) ?_
                  rotate_left
                  · (intro w hSw; (try dsimp only at hSw); go_simp; (try rw [if_neg (by (try simp only [ByteArray.size_append]); omega)]); (try with_reducible rfl))
                  try simp only [Act.put]
                  refine wpAnyH_take (i := 23) (v := undef) rfl (by kernel_rfl) (by kernel_rfl) (by kernel_rfl) (fun _ _ _ h => h) (Or.inr ⟨by kernel_rfl, rfl⟩) (by assumption) ?_
                  try simp only [Act.put]
                  refine wpAnyH_take (i := 24) (v := undef) rfl (by kernel_rfl) (by kernel_rfl) (by kernel_rfl) (fun _ _ _ h => h) (Or.inr ⟨by kernel_rfl, rfl⟩) (by assumption) ?_
                  try simp only [Act.put]
                  refine wpAnyH_take (i := 25) (v := undef) rfl (by kernel_rfl) (by kernel_rfl) (by kernel_rfl) (fun _ _ _ h => h) (Or.inr ⟨by kernel_rfl, rfl⟩) (by assumption) ?_
                  try simp only [Act.put]
                  refine wpAnyH_take (i := 26) (v := undef) rfl (by kernel_rfl) (by kernel_rfl) (by kernel_rfl) (fun _ _ _ h => h) (Or.inr ⟨by kernel_rfl, rfl⟩) (by assumption) ?_
                  try simp only [Act.put]
                  refine wpAnyH_take (i := 27) (v := undef) rfl (by kernel_rfl) (by kernel_rfl) (by kernel_rfl) (fun _ _ _ h => h) (Or.inr ⟨by kernel_rfl, rfl⟩) (by assumption) ?_
                  try simp only [Act.put]
                  refine wpAnyH_take (i := 28) (v := undef) rfl (by kernel_rfl) (by kernel_rfl) (by kernel_rfl) (fun _ _ _ h => h) (Or.inr ⟨by kernel_rfl, rfl⟩) (by assumption) ?_
                  try simp only [Act.put]
                  refine wpAnyH_take (i := 29) (v := undef) rfl (by kernel_rfl) (by kernel_rfl) (by kernel_rfl) (fun _ _ _ h => h) (Or.inr ⟨by kernel_rfl, rfl⟩) (by assumption) ?_
                  try simp only [Act.put]
                  refine wpAnyH_take (i := 30) (v := undef) rfl (by kernel_rfl) (by kernel_rfl) (by kernel_rfl) (fun _ _ _ h => h) (Or.inr ⟨by kernel_rfl, rfl⟩) (by assumption) ?_
                  try simp only [Act.put]
                  refine wpAnyH_take (i := 31) (v := undef) rfl (by kernel_rfl) (by kernel_rfl) (by kernel_rfl) (fun _ _ _ h => h) (Or.inr ⟨by kernel_rfl, rfl⟩) (by assumption) ?_
                  try simp only [Act.put]
                  refine wpAnyH_take (i := 32) (v := ?_) rfl (by kernel_rfl) (by kernel_rfl) (by kernel_rfl) (fun _ _ _ h => h) (Or.inl ⟨by kernel_rfl, ?_⟩) (by assumption) ?_
                  rotate_left
                  · (intro w hSw; (try dsimp only at hSw); go_simp; (try rw [if_neg (by (try simp only [ByteArray.size_append]); omega)]); (try with_reducible rfl))
                  try simp only [Act.put]
                  refine wpAnyH_take (i := 33) (v := ?_) rfl (by kernel_rfl) (by kernel_rfl) (by kernel_rfl) (fun _ _ _ h => h) (Or.inl ⟨by kernel_rfl, ?_⟩) (by assumption) ?_
                  rotate_left
                  · (intro w hSw; (try dsimp only at hSw); go_simp; (try rw [if_neg (by (try simp only [ByteArray.size_append]); omega)]); (try with_reducible rfl))
                  try simp only [Act.put]
                  refine wpAnyH_take (i := 34) (v := undef) rfl (by kernel_rfl) (by kernel_rfl) (by kernel_rfl) (fun _ _ _ h => h) (Or.inr ⟨by kernel_rfl, rfl⟩) (by assumption) ?_
                  try simp only [Act.put]
                  refine wpAnyH_take (i := 35) (v := undef) rfl (by kernel_rfl) (by kernel_rfl) (by kernel_rfl) (fun _ _ _ h => h) (Or.inr ⟨by kernel_rfl, rfl⟩) (by assumption) ?_
                  try simp only [Act.put]
                  refine wpAnyH_take (i := 36) (v := undef) rfl (by kernel_rfl) (by kernel_rfl) (by kernel_rfl) (fun _ _ _ h => h) (Or.inr ⟨by kernel_rfl, rfl⟩) (by assumption) ?_
                  try simp only [Act.put]
                  refine wpAnyH_take (i := 37) (v := undef) rfl (by kernel_rfl) (by kernel_rfl) (by kernel_rfl) (fun _ _ _ h => h) (Or.inr ⟨by kernel_rfl, rfl⟩) (by assumption) ?_
                  try simp only [Act.put]
                  refine wpAnyH_take (i := 38) (v := undef) rfl (by kernel_rfl) (by kernel_rfl) (by kernel_rfl) (fun _ _ _ h => h) (Or.inr ⟨by kernel_rfl, rfl⟩) (by assumption) ?_
                  try simp only [Act.put]
                  refine wpAnyH_take (i := 39) (v := undef) rfl (by kernel_rfl) (by kernel_rfl) (by kernel_rfl) (fun _ _ _ h => h) (Or.inr ⟨by kernel_rfl, rfl⟩) (by assumption) ?_
                  try simp only [Act.put]
                  refine wpAnyH_take (i := 40) (v := undef) rfl (by kernel_rfl) (by kernel_rfl) (by kernel_rfl) (fun _ _ _ h => h) (Or.inr ⟨by kernel_rfl, rfl⟩) (by assumption) ?_
                  try simp only [Act.put]
                  refine wpAnyH_take (i := 41) (v := ?_) rfl (by kernel_rfl) (by kernel_rfl) (by kernel_rfl) (fun _ _ _ h => h) (Or.inl ⟨by kernel_rfl, ?_⟩) (by assumption) ?_
                  rotate_left
                  · (intro w hSw; (try dsimp only at hSw); go_simp; (try rw [if_neg (by (try simp only [ByteArray.size_append]); omega)]); (try with_reducible rfl))
                  try simp only [Act.put]
                  refine wpAnyH_done (by kernel_rfl) ?_ _
                  try simp only [Act.put]
                  clear hHeld
                  go_simp
                  go_wp2_with fail
                  go_roundw
                  case rel => exact ⟨kk + 1, by go_num, by omega, HBJI.out.drew⟩
                  case measure => simp [intOf]; omega
                | false =>
                  rw [hiy] at HS HKY
                  have HIY := Lib.hid hiy
                  clear hiy
                  by_cases hkey : keyOf x.1.c.call = keyOf y.1.c.call
                  · have hlate := HOI.out.once i kk x y HX.out HHY.out hki ⟨HEF.out, HIX.out⟩ ⟨HEY.out, HIY.out⟩ hkey
                    have htx := HTI.out.2 x HXM.out
                    have hty := HTI.out.2 y HYM.out
                    have g1 : IntKind.i64.wrap (x.2 - y.2) = x.2 - y.2 := IntWalk.i64_in _ (by have := HNOW.out; omega)
                    have t4 : decide (x.2 - y.2 < hz) = false := decide_eq_false (by omega)
                    have kq : ((keyOf x.1.c.call).toList == (keyOf y.1.c.call).toList) = true := by rw [hkey]; exact beq_self_eq_true _
                    clear hkey hlate htx hty
                    refine wp_region_held_drew (S := fun W => W.cell? ⟨bx, 1, none⟩ = some (.int .i64 x.1.c.req) ∧ W.cell? ⟨bx, 2, none⟩ = some (.string x.1.c.call) ∧ W.cell? ⟨bx, 3, none⟩ = some (.int .i64 x.1.c.try_) ∧ W.cell? ⟨bx, 4, none⟩ = some (.bool false) ∧ W.cell? ⟨bx, 5, none⟩ = some (.bool x.1.c.shadow) ∧ W.cell? ⟨bx, 6, none⟩ = some (.int .i64 x.1.c.dl) ∧ W.cell? ⟨bx, 7, none⟩ = some (.int .i64 x.1.c.purse) ∧ W.cell? ⟨bx, 8, none⟩ = some (.int .i64 x.1.c.ver) ∧ W.cell? ⟨bx, 9, none⟩ = some (.int .i64 x.1.c.prio) ∧ W.cell? ⟨bx, 10, none⟩ = some (.bool true) ∧ W.cell? ⟨bx, 12, none⟩ = some (.int .i64 x.2) ∧ W.cell? ⟨by_, 1, none⟩ = some (.int .i64 y.1.c.req) ∧ W.cell? ⟨by_, 2, none⟩ = some (.string y.1.c.call) ∧ W.cell? ⟨by_, 3, none⟩ = some (.int .i64 y.1.c.try_) ∧ W.cell? ⟨by_, 4, none⟩ = some (.bool false) ∧ W.cell? ⟨by_, 5, none⟩ = some (.bool y.1.c.shadow) ∧ W.cell? ⟨by_, 6, none⟩ = some (.int .i64 y.1.c.dl) ∧ W.cell? ⟨by_, 7, none⟩ = some (.int .i64 y.1.c.purse) ∧ W.cell? ⟨by_, 8, none⟩ = some (.int .i64 y.1.c.ver) ∧ W.cell? ⟨by_, 9, none⟩ = some (.int .i64 y.1.c.prio) ∧ W.cell? ⟨by_, 10, none⟩ = some (.bool true) ∧ W.cell? ⟨by_, 12, none⟩ = some (.int .i64 y.2)) (by kernel_rfl) (HS.out _ (Below.refl _ _).drew) (fun hHeld => ?_)
                    refine wpAnyH_take (i := 0) (v := ?_) rfl (by kernel_rfl) (by kernel_rfl) (by kernel_rfl) (fun _ _ _ h => h) (Or.inl ⟨by kernel_rfl, ?_⟩) (by assumption) ?_
                    rotate_left
                    · (intro w hSw; (try dsimp only at hSw); go_simp; (try rw [if_neg (by (try simp only [ByteArray.size_append]); omega)]); (try with_reducible rfl))
                    try simp only [Act.put]
                    refine wpAnyH_take (i := 1) (v := ?_) rfl (by kernel_rfl) (by kernel_rfl) (by kernel_rfl) (fun _ _ _ h => h) (Or.inl ⟨by kernel_rfl, ?_⟩) (by assumption) ?_
                    rotate_left
                    · (intro w hSw; (try dsimp only at hSw); go_simp; (try rw [if_neg (by (try simp only [ByteArray.size_append]); omega)]); (try with_reducible rfl))
                    try simp only [Act.put]
                    refine wpAnyH_take (i := 2) (v := ?_) rfl (by kernel_rfl) (by kernel_rfl) (by kernel_rfl) (fun _ _ _ h => h) (Or.inl ⟨by kernel_rfl, ?_⟩) (by assumption) ?_
                    rotate_left
                    · (intro w hSw; (try dsimp only at hSw); go_simp; (try rw [if_neg (by (try simp only [ByteArray.size_append]); omega)]); (try with_reducible rfl))
                    try simp only [Act.put]
                    refine wpAnyH_take (i := 3) (v := ?_) rfl (by kernel_rfl) (by kernel_rfl) (by kernel_rfl) (fun _ _ _ h => h) (Or.inl ⟨by kernel_rfl, ?_⟩) (by assumption) ?_
                    rotate_left
                    · (intro w hSw; (try dsimp only at hSw); go_simp; (try rw [if_neg (by (try simp only [ByteArray.size_append]); omega)]); (try with_reducible rfl))
                    try simp only [Act.put]
                    refine wpAnyH_take (i := 4) (v := ?_) rfl (by kernel_rfl) (by kernel_rfl) (by kernel_rfl) (fun _ _ _ h => h) (Or.inl ⟨by kernel_rfl, ?_⟩) (by assumption) ?_
                    rotate_left
                    · (intro w hSw; (try dsimp only at hSw); go_simp; (try rw [if_neg (by (try simp only [ByteArray.size_append]); omega)]); (try with_reducible rfl))
                    try simp only [Act.put]
                    refine wpAnyH_take (i := 5) (v := ?_) rfl (by kernel_rfl) (by kernel_rfl) (by kernel_rfl) (fun _ _ _ h => h) (Or.inl ⟨by kernel_rfl, ?_⟩) (by assumption) ?_
                    rotate_left
                    · (intro w hSw; (try dsimp only at hSw); go_simp; (try rw [if_neg (by (try simp only [ByteArray.size_append]); omega)]); (try with_reducible rfl))
                    try simp only [Act.put]
                    refine wpAnyH_take (i := 6) (v := ?_) rfl (by kernel_rfl) (by kernel_rfl) (by kernel_rfl) (fun _ _ _ h => h) (Or.inl ⟨by kernel_rfl, ?_⟩) (by assumption) ?_
                    rotate_left
                    · (intro w hSw; (try dsimp only at hSw); go_simp; (try rw [if_neg (by (try simp only [ByteArray.size_append]); omega)]); (try with_reducible rfl))
                    try simp only [Act.put]
                    refine wpAnyH_take (i := 7) (v := ?_) rfl (by kernel_rfl) (by kernel_rfl) (by kernel_rfl) (fun _ _ _ h => h) (Or.inl ⟨by kernel_rfl, ?_⟩) (by assumption) ?_
                    rotate_left
                    · (intro w hSw; (try dsimp only at hSw); go_simp; (try rw [if_neg (by (try simp only [ByteArray.size_append]); omega)]); (try with_reducible rfl))
                    try simp only [Act.put]
                    refine wpAnyH_take (i := 8) (v := ?_) rfl (by kernel_rfl) (by kernel_rfl) (by kernel_rfl) (fun _ _ _ h => h) (Or.inl ⟨by kernel_rfl, ?_⟩) (by assumption) ?_
                    rotate_left
                    · (intro w hSw; (try dsimp only at hSw); go_simp; (try rw [if_neg (by (try simp only [ByteArray.size_append]); omega)]); (try with_reducible rfl))
                    try simp only [Act.put]
                    refine wpAnyH_take (i := 9) (v := ?_) rfl (by kernel_rfl) (by kernel_rfl) (by kernel_rfl) (fun _ _ _ h => h) (Or.inl ⟨by kernel_rfl, ?_⟩) (by assumption) ?_
                    rotate_left
                    · (intro w hSw; (try dsimp only at hSw); go_simp; (try rw [if_neg (by (try simp only [ByteArray.size_append]); omega)]); (try with_reducible rfl))
                    try simp only [Act.put]
                    refine wpAnyH_take (i := 10) (v := ?_) rfl (by kernel_rfl) (by kernel_rfl) (by kernel_rfl) (fun _ _ _ h => h) (Or.inl ⟨by kernel_rfl, ?_⟩) (by assumption) ?_
                    rotate_left
                    · (intro w hSw; (try dsimp only at hSw); go_simp; (try rw [if_neg (by (try simp only [ByteArray.size_append]); omega)]); (try with_reducible rfl))
                    try simp only [Act.put]
                    refine wpAnyH_take (i := 11) (v := ?_) rfl (by kernel_rfl) (by kernel_rfl) (by kernel_rfl) (fun _ _ _ h => h) (Or.inl ⟨by kernel_rfl, ?_⟩) (by assumption) ?_
                    rotate_left
                    · (intro w hSw; (try dsimp only at hSw); go_simp; (try rw [if_neg (by (try simp only [ByteArray.size_append]); omega)]); (try with_reducible rfl))
                    try simp only [Act.put]
                    refine wpAnyH_take (i := 12) (v := ?_) rfl (by kernel_rfl) (by kernel_rfl) (by kernel_rfl) (fun _ _ _ h => h) (Or.inl ⟨by kernel_rfl, ?_⟩) (by assumption) ?_
                    rotate_left
                    · (intro w hSw; (try dsimp only at hSw); go_simp; (try rw [if_neg (by (try simp only [ByteArray.size_append]); omega)]); (try with_reducible rfl))
                    try simp only [Act.put]
                    refine wpAnyH_take (i := 13) (v := ?_) rfl (by kernel_rfl) (by kernel_rfl) (by kernel_rfl) (fun _ _ _ h => h) (Or.inl ⟨by kernel_rfl, ?_⟩) (by assumption) ?_
                    rotate_left
                    · (intro w hSw; (try dsimp only at hSw); go_simp; (try rw [if_neg (by (try simp only [ByteArray.size_append]); omega)]); (try with_reducible rfl))
                    try simp only [Act.put]
                    refine wpAnyH_take (i := 14) (v := ?_) rfl (by kernel_rfl) (by kernel_rfl) (by kernel_rfl) (fun _ _ _ h => h) (Or.inl ⟨by kernel_rfl, ?_⟩) (by assumption) ?_
                    rotate_left
                    · (intro w hSw; (try dsimp only at hSw); go_simp; (try rw [if_neg (by (try simp only [ByteArray.size_append]); omega)]); (try with_reducible rfl))
                    try simp only [Act.put]
                    refine wpAnyH_take (i := 15) (v := ?_) rfl (by kernel_rfl) (by kernel_rfl) (by kernel_rfl) (fun _ _ _ h => h) (Or.inl ⟨by kernel_rfl, ?_⟩) (by assumption) ?_
                    rotate_left
                    · (intro w hSw; (try dsimp only at hSw); go_simp; (try rw [if_neg (by (try simp only [ByteArray.size_append]); omega)]); (try with_reducible rfl))
                    try simp only [Act.put]
                    refine wpAnyH_take (i := 16) (v := ?_) rfl (by kernel_rfl) (by kernel_rfl) (by kernel_rfl) (fun _ _ _ h => h) (Or.inl ⟨by kernel_rfl, ?_⟩) (by assumption) ?_
                    rotate_left
                    · (intro w hSw; (try dsimp only at hSw); go_simp; (try rw [if_neg (by (try simp only [ByteArray.size_append]); omega)]); (try with_reducible rfl))
                    try simp only [Act.put]
                    refine wpAnyH_take (i := 17) (v := ?_) rfl (by kernel_rfl) (by kernel_rfl) (by kernel_rfl) (fun _ _ _ h => h) (Or.inl ⟨by kernel_rfl, ?_⟩) (by assumption) ?_
                    rotate_left
                    · (intro w hSw; (try dsimp only at hSw); go_simp; (try rw [if_neg (by (try simp only [ByteArray.size_append]); omega)]); (try with_reducible rfl))
                    try simp only [Act.put]
                    refine wpAnyH_take (i := 18) (v := ?_) rfl (by kernel_rfl) (by kernel_rfl) (by kernel_rfl) (fun _ _ _ h => h) (Or.inl ⟨by kernel_rfl, ?_⟩) (by assumption) ?_
                    rotate_left
                    · (intro w hSw; (try dsimp only at hSw); go_simp; (try rw [if_neg (by (try simp only [ByteArray.size_append]); omega)]); (try with_reducible rfl))
                    try simp only [Act.put]
                    refine wpAnyH_take (i := 19) (v := ?_) rfl (by kernel_rfl) (by kernel_rfl) (by kernel_rfl) (fun _ _ _ h => h) (Or.inl ⟨by kernel_rfl, ?_⟩) (by assumption) ?_
                    rotate_left
                    · (intro w hSw; (try dsimp only at hSw); go_simp; (try rw [if_neg (by (try simp only [ByteArray.size_append]); omega)]); (try with_reducible rfl))
                    try simp only [Act.put]
                    refine wpAnyH_take (i := 20) (v := ?_) rfl (by kernel_rfl) (by kernel_rfl) (by kernel_rfl) (fun _ _ _ h => h) (Or.inl ⟨by kernel_rfl, ?_⟩) (by assumption) ?_
                    rotate_left
                    · (intro w hSw; (try dsimp only at hSw); go_simp; (try rw [if_neg (by (try simp only [ByteArray.size_append]); omega)]); (try with_reducible rfl))
                    try simp only [Act.put]
                    refine wpAnyH_take (i := 21) (v := ?_) rfl (by kernel_rfl) (by kernel_rfl) (by kernel_rfl) (fun _ _ _ h => h) (Or.inl ⟨by kernel_rfl, ?_⟩) (by assumption) ?_
                    rotate_left
                    · (intro w hSw; (try dsimp only at hSw); go_simp; (try rw [if_neg (by (try simp only [ByteArray.size_append]); omega)]); (try with_reducible rfl))
                    try simp only [Act.put]
                    refine wpAnyH_take (i := 22) (v := ?_) rfl (by kernel_rfl) (by kernel_rfl) (by kernel_rfl) (fun _ _ _ h => h) (Or.inl ⟨by kernel_rfl, ?_⟩) (by assumption) ?_
                    rotate_left
                    · (intro w hSw; (try dsimp only at hSw); go_simp; (try rw [if_neg (by (try simp only [ByteArray.size_append]); omega)]); (try with_reducible rfl))
                    try simp only [Act.put]
                    refine wpAnyH_take (i := 23) (v := ?_) rfl (by kernel_rfl) (by kernel_rfl) (by kernel_rfl) (fun _ _ _ h => h) (Or.inl ⟨by kernel_rfl, ?_⟩) (by assumption) ?_
                    rotate_left
                    · (intro w hSw; (try dsimp only at hSw); go_simp; (try rw [if_neg (by (try simp only [ByteArray.size_append]); omega)]); (try with_reducible rfl))
                    try simp only [Act.put]
                    refine wpAnyH_take (i := 24) (v := ?_) rfl (by kernel_rfl) (by kernel_rfl) (by kernel_rfl) (fun _ _ _ h => h) (Or.inl ⟨by kernel_rfl, ?_⟩) (by assumption) ?_
                    rotate_left
                    · (intro w hSw; (try dsimp only at hSw); go_simp; (try rw [if_neg (by (try simp only [ByteArray.size_append]); omega)]); (try with_reducible rfl))
                    try simp only [Act.put]
                    refine wpAnyH_take (i := 25) (v := ?_) rfl (by kernel_rfl) (by kernel_rfl) (by kernel_rfl) (fun _ _ _ h => h) (Or.inl ⟨by kernel_rfl, ?_⟩) (by assumption) ?_
                    rotate_left
                    · (intro w hSw; (try dsimp only at hSw); go_simp; (try rw [if_neg (by (try simp only [ByteArray.size_append]); omega)]); (try with_reducible rfl))
                    try simp only [Act.put]
                    refine wpAnyH_take (i := 27) (v := ?_) rfl (by kernel_rfl) (by kernel_rfl) (by kernel_rfl) (fun _ _ _ h => h) (Or.inl ⟨by kernel_rfl, ?_⟩) (by assumption) ?_
                    rotate_left
                    · (intro w hSw; (try dsimp only at hSw); go_simp; (try rw [if_neg (by (try simp only [ByteArray.size_append]); omega)]); (try with_reducible rfl))
                    try simp only [Act.put]
                    refine wpAnyH_take (i := 28) (v := ?_) rfl (by kernel_rfl) (by kernel_rfl) (by kernel_rfl) (fun _ _ _ h => h) (Or.inl ⟨by kernel_rfl, ?_⟩) (by assumption) ?_
                    rotate_left
                    · (intro w hSw; (try dsimp only at hSw); go_simp; (try rw [if_neg (by (try simp only [ByteArray.size_append]); omega)]); (try with_reducible rfl))
                    try simp only [Act.put]
                    refine wpAnyH_take (i := 29) (v := ?_) rfl (by kernel_rfl) (by kernel_rfl) (by kernel_rfl) (fun _ _ _ h => h) (Or.inl ⟨by kernel_rfl, ?_⟩) (by assumption) ?_
                    rotate_left
                    · (intro w hSw; (try dsimp only at hSw); go_simp; (try rw [if_neg (by (try simp only [ByteArray.size_append]); omega)]); (try with_reducible rfl))
                    try simp only [Act.put]
                    refine wpAnyH_ready (rs := [26]) (by kernel_rfl) (by simp) ?_
                    refine AllReadyH.cons rfl (fun K hK => ?_) AllReadyH.nil
                    go_simp
                    refine (HKX.out _ HBJ.out.drew).mono ?_
                    rintro e WK ⟨rfl, bk⟩
                    have bk' := bdrew bk
                    refine hK.out _ _ (HS.out _ bk') (fun hHeld => ?_)
                    clear hK K
                    try simp only [Act.put]
                    refine wpAnyH_ready (rs := [30]) (by kernel_rfl) (by simp) ?_
                    refine AllReadyH.cons rfl (fun K hK => ?_) AllReadyH.nil
                    go_simp
                    refine (HKY.out _ (btrans HBJ.out bk')).mono ?_
                    rintro e WL ⟨rfl, bl⟩
                    have bl' := btrans bk' bl
                    refine hK.out _ _ (HS.out _ bl') (fun hHeld => ?_)
                    clear hK K
                    try simp only [Act.put]
                    refine wpAnyH_take (i := 31) (v := ?_) rfl (by kernel_rfl) (by kernel_rfl) (by kernel_rfl) (fun _ _ _ h => h) (Or.inl ⟨by kernel_rfl, ?_⟩) (by assumption) ?_
                    rotate_left
                    · (intro w hSw; (try dsimp only at hSw); go_simp; (try simp only [kq, Bool.not_false]); (try with_reducible rfl))
                    try simp only [Act.put]
                    refine wpAnyH_take (i := 32) (v := ?_) rfl (by kernel_rfl) (by kernel_rfl) (by kernel_rfl) (fun _ _ _ h => h) (Or.inl ⟨by kernel_rfl, ?_⟩) (by assumption) ?_
                    rotate_left
                    · (intro w hSw; (try dsimp only at hSw); go_simp; (try rw [if_neg (by (try simp only [ByteArray.size_append]); omega)]); (try with_reducible rfl))
                    try simp only [Act.put]
                    refine wpAnyH_take (i := 33) (v := ?_) rfl (by kernel_rfl) (by kernel_rfl) (by kernel_rfl) (fun _ _ _ h => h) (Or.inl ⟨by kernel_rfl, ?_⟩) (by assumption) ?_
                    rotate_left
                    · (intro w hSw; (try dsimp only at hSw); go_simp; (try rw [if_neg (by (try simp only [ByteArray.size_append]); omega)]); (try with_reducible rfl))
                    try simp only [Act.put]
                    refine wpAnyH_take (i := 34) (v := ?_) rfl (by kernel_rfl) (by kernel_rfl) (by kernel_rfl) (fun _ _ _ h => h) (Or.inl ⟨by kernel_rfl, ?_⟩) (by assumption) ?_
                    rotate_left
                    · (intro w hSw; (try dsimp only at hSw); go_simp; (try rw [if_neg (by (try simp only [ByteArray.size_append]); omega)]); (try with_reducible rfl))
                    try simp only [Act.put]
                    refine wpAnyH_take (i := 35) (v := ?_) rfl (by kernel_rfl) (by kernel_rfl) (by kernel_rfl) (fun _ _ _ h => h) (Or.inl ⟨by kernel_rfl, ?_⟩) (by assumption) ?_
                    rotate_left
                    · (intro w hSw; (try dsimp only at hSw); go_simp; (try rw [if_neg (by (try simp only [ByteArray.size_append]); omega)]); (try with_reducible rfl))
                    try simp only [Act.put]
                    refine wpAnyH_take (i := 36) (v := ?_) rfl (by kernel_rfl) (by kernel_rfl) (by kernel_rfl) (fun _ _ _ h => h) (Or.inl ⟨by kernel_rfl, ?_⟩) (by assumption) ?_
                    rotate_left
                    · (intro w hSw; (try dsimp only at hSw); go_simp; (try rw [if_neg (by (try simp only [ByteArray.size_append]); omega)]); (try with_reducible rfl))
                    try simp only [Act.put]
                    refine wpAnyH_take (i := 37) (v := ?_) rfl (by kernel_rfl) (by kernel_rfl) (by kernel_rfl) (fun _ _ _ h => h) (Or.inl ⟨by kernel_rfl, ?_⟩) (by assumption) ?_
                    rotate_left
                    · (intro w hSw; (try dsimp only at hSw); go_simp; (try rw [if_neg (by (try simp only [ByteArray.size_append]); omega)]); (try with_reducible rfl))
                    try simp only [Act.put]
                    refine wpAnyH_take (i := 38) (v := ?_) rfl (by kernel_rfl) (by kernel_rfl) (by kernel_rfl) (fun _ _ _ h => h) (Or.inl ⟨by kernel_rfl, ?_⟩) (by assumption) ?_
                    rotate_left
                    · (intro w hSw; (try dsimp only at hSw); go_simp; (try rw [if_neg (by (try simp only [ByteArray.size_append]); omega)]); (try with_reducible rfl))
                    try simp only [Act.put]
                    refine wpAnyH_take (i := 39) (v := ?_) rfl (by kernel_rfl) (by kernel_rfl) (by kernel_rfl) (fun _ _ _ h => h) (Or.inl ⟨by kernel_rfl, ?_⟩) (by assumption) ?_
                    rotate_left
                    · (intro w hSw; (try dsimp only at hSw); go_simp; (try rw [if_neg (by (try simp only [ByteArray.size_append]); omega)]); (try with_reducible rfl))
                    try simp only [Act.put]
                    refine wpAnyH_take (i := 40) (v := ?_) rfl (by kernel_rfl) (by kernel_rfl) (by kernel_rfl) (fun _ _ _ h => h) (Or.inl ⟨by kernel_rfl, ?_⟩) (by assumption) ?_
                    rotate_left
                    · (intro w hSw; (try dsimp only at hSw); go_simp; (try rw [if_neg (by (try simp only [ByteArray.size_append]); omega)]); (try with_reducible rfl))
                    try simp only [Act.put]
                    refine wpAnyH_take (i := 41) (v := ?_) rfl (by kernel_rfl) (by kernel_rfl) (by kernel_rfl) (fun _ _ _ h => h) (Or.inl ⟨by kernel_rfl, ?_⟩) (by assumption) ?_
                    rotate_left
                    · (intro w hSw; (try dsimp only at hSw); go_simp; (try rw [if_neg (by (try simp only [ByteArray.size_append]); omega)]); (try with_reducible rfl))
                    try simp only [Act.put]
                    refine wpAnyH_done (by kernel_rfl) ?_ _
                    try simp only [Act.put]
                    clear hHeld
                    go_simp
                    go_wp2_with fail
                    go_roundw
                    case rel => exact ⟨kk + 1, by go_num, by omega, btrans HBJI.out bl'⟩
                    case measure => simp [intOf]; omega
                  · have kq : ((keyOf x.1.c.call).toList == (keyOf y.1.c.call).toList) = false := beq_eq_false_iff_ne.2 fun e => hkey (by rw [ByteArray.toList_eq, ByteArray.toList_eq] at e; exact ByteArray.ext (Array.toList_inj.1 e))
                    clear hkey
                    refine wp_region_held_drew (S := fun W => W.cell? ⟨bx, 1, none⟩ = some (.int .i64 x.1.c.req) ∧ W.cell? ⟨bx, 2, none⟩ = some (.string x.1.c.call) ∧ W.cell? ⟨bx, 3, none⟩ = some (.int .i64 x.1.c.try_) ∧ W.cell? ⟨bx, 4, none⟩ = some (.bool false) ∧ W.cell? ⟨bx, 5, none⟩ = some (.bool x.1.c.shadow) ∧ W.cell? ⟨bx, 6, none⟩ = some (.int .i64 x.1.c.dl) ∧ W.cell? ⟨bx, 7, none⟩ = some (.int .i64 x.1.c.purse) ∧ W.cell? ⟨bx, 8, none⟩ = some (.int .i64 x.1.c.ver) ∧ W.cell? ⟨bx, 9, none⟩ = some (.int .i64 x.1.c.prio) ∧ W.cell? ⟨bx, 10, none⟩ = some (.bool true) ∧ W.cell? ⟨bx, 12, none⟩ = some (.int .i64 x.2) ∧ W.cell? ⟨by_, 1, none⟩ = some (.int .i64 y.1.c.req) ∧ W.cell? ⟨by_, 2, none⟩ = some (.string y.1.c.call) ∧ W.cell? ⟨by_, 3, none⟩ = some (.int .i64 y.1.c.try_) ∧ W.cell? ⟨by_, 4, none⟩ = some (.bool false) ∧ W.cell? ⟨by_, 5, none⟩ = some (.bool y.1.c.shadow) ∧ W.cell? ⟨by_, 6, none⟩ = some (.int .i64 y.1.c.dl) ∧ W.cell? ⟨by_, 7, none⟩ = some (.int .i64 y.1.c.purse) ∧ W.cell? ⟨by_, 8, none⟩ = some (.int .i64 y.1.c.ver) ∧ W.cell? ⟨by_, 9, none⟩ = some (.int .i64 y.1.c.prio) ∧ W.cell? ⟨by_, 10, none⟩ = some (.bool true) ∧ W.cell? ⟨by_, 12, none⟩ = some (.int .i64 y.2)) (by kernel_rfl) (HS.out _ (Below.refl _ _).drew) (fun hHeld => ?_)
                    refine wpAnyH_take (i := 0) (v := ?_) rfl (by kernel_rfl) (by kernel_rfl) (by kernel_rfl) (fun _ _ _ h => h) (Or.inl ⟨by kernel_rfl, ?_⟩) (by assumption) ?_
                    rotate_left
                    · (intro w hSw; (try dsimp only at hSw); go_simp; (try rw [if_neg (by (try simp only [ByteArray.size_append]); omega)]); (try with_reducible rfl))
                    try simp only [Act.put]
                    refine wpAnyH_take (i := 1) (v := ?_) rfl (by kernel_rfl) (by kernel_rfl) (by kernel_rfl) (fun _ _ _ h => h) (Or.inl ⟨by kernel_rfl, ?_⟩) (by assumption) ?_
                    rotate_left
                    · (intro w hSw; (try dsimp only at hSw); go_simp; (try rw [if_neg (by (try simp only [ByteArray.size_append]); omega)]); (try with_reducible rfl))
                    try simp only [Act.put]
                    refine wpAnyH_take (i := 2) (v := ?_) rfl (by kernel_rfl) (by kernel_rfl) (by kernel_rfl) (fun _ _ _ h => h) (Or.inl ⟨by kernel_rfl, ?_⟩) (by assumption) ?_
                    rotate_left
                    · (intro w hSw; (try dsimp only at hSw); go_simp; (try rw [if_neg (by (try simp only [ByteArray.size_append]); omega)]); (try with_reducible rfl))
                    try simp only [Act.put]
                    refine wpAnyH_take (i := 3) (v := ?_) rfl (by kernel_rfl) (by kernel_rfl) (by kernel_rfl) (fun _ _ _ h => h) (Or.inl ⟨by kernel_rfl, ?_⟩) (by assumption) ?_
                    rotate_left
                    · (intro w hSw; (try dsimp only at hSw); go_simp; (try rw [if_neg (by (try simp only [ByteArray.size_append]); omega)]); (try with_reducible rfl))
                    try simp only [Act.put]
                    refine wpAnyH_take (i := 4) (v := ?_) rfl (by kernel_rfl) (by kernel_rfl) (by kernel_rfl) (fun _ _ _ h => h) (Or.inl ⟨by kernel_rfl, ?_⟩) (by assumption) ?_
                    rotate_left
                    · (intro w hSw; (try dsimp only at hSw); go_simp; (try rw [if_neg (by (try simp only [ByteArray.size_append]); omega)]); (try with_reducible rfl))
                    try simp only [Act.put]
                    refine wpAnyH_take (i := 5) (v := ?_) rfl (by kernel_rfl) (by kernel_rfl) (by kernel_rfl) (fun _ _ _ h => h) (Or.inl ⟨by kernel_rfl, ?_⟩) (by assumption) ?_
                    rotate_left
                    · (intro w hSw; (try dsimp only at hSw); go_simp; (try rw [if_neg (by (try simp only [ByteArray.size_append]); omega)]); (try with_reducible rfl))
                    try simp only [Act.put]
                    refine wpAnyH_take (i := 6) (v := ?_) rfl (by kernel_rfl) (by kernel_rfl) (by kernel_rfl) (fun _ _ _ h => h) (Or.inl ⟨by kernel_rfl, ?_⟩) (by assumption) ?_
                    rotate_left
                    · (intro w hSw; (try dsimp only at hSw); go_simp; (try rw [if_neg (by (try simp only [ByteArray.size_append]); omega)]); (try with_reducible rfl))
                    try simp only [Act.put]
                    refine wpAnyH_take (i := 7) (v := ?_) rfl (by kernel_rfl) (by kernel_rfl) (by kernel_rfl) (fun _ _ _ h => h) (Or.inl ⟨by kernel_rfl, ?_⟩) (by assumption) ?_
                    rotate_left
                    · (intro w hSw; (try dsimp only at hSw); go_simp; (try rw [if_neg (by (try simp only [ByteArray.size_append]); omega)]); (try with_reducible rfl))
                    try simp only [Act.put]
                    refine wpAnyH_take (i := 8) (v := ?_) rfl (by kernel_rfl) (by kernel_rfl) (by kernel_rfl) (fun _ _ _ h => h) (Or.inl ⟨by kernel_rfl, ?_⟩) (by assumption) ?_
                    rotate_left
                    · (intro w hSw; (try dsimp only at hSw); go_simp; (try rw [if_neg (by (try simp only [ByteArray.size_append]); omega)]); (try with_reducible rfl))
                    try simp only [Act.put]
                    refine wpAnyH_take (i := 9) (v := ?_) rfl (by kernel_rfl) (by kernel_rfl) (by kernel_rfl) (fun _ _ _ h => h) (Or.inl ⟨by kernel_rfl, ?_⟩) (by assumption) ?_
                    rotate_left
                    · (intro w hSw; (try dsimp only at hSw); go_simp; (try rw [if_neg (by (try simp only [ByteArray.size_append]); omega)]); (try with_reducible rfl))
                    try simp only [Act.put]
                    refine wpAnyH_take (i := 10) (v := ?_) rfl (by kernel_rfl) (by kernel_rfl) (by kernel_rfl) (fun _ _ _ h => h) (Or.inl ⟨by kernel_rfl, ?_⟩) (by assumption) ?_
                    rotate_left
                    · (intro w hSw; (try dsimp only at hSw); go_simp; (try rw [if_neg (by (try simp only [ByteArray.size_append]); omega)]); (try with_reducible rfl))
                    try simp only [Act.put]
                    refine wpAnyH_take (i := 11) (v := ?_) rfl (by kernel_rfl) (by kernel_rfl) (by kernel_rfl) (fun _ _ _ h => h) (Or.inl ⟨by kernel_rfl, ?_⟩) (by assumption) ?_
                    rotate_left
                    · (intro w hSw; (try dsimp only at hSw); go_simp; (try rw [if_neg (by (try simp only [ByteArray.size_append]); omega)]); (try with_reducible rfl))
                    try simp only [Act.put]
                    refine wpAnyH_take (i := 12) (v := ?_) rfl (by kernel_rfl) (by kernel_rfl) (by kernel_rfl) (fun _ _ _ h => h) (Or.inl ⟨by kernel_rfl, ?_⟩) (by assumption) ?_
                    rotate_left
                    · (intro w hSw; (try dsimp only at hSw); go_simp; (try rw [if_neg (by (try simp only [ByteArray.size_append]); omega)]); (try with_reducible rfl))
                    try simp only [Act.put]
                    refine wpAnyH_take (i := 13) (v := ?_) rfl (by kernel_rfl) (by kernel_rfl) (by kernel_rfl) (fun _ _ _ h => h) (Or.inl ⟨by kernel_rfl, ?_⟩) (by assumption) ?_
                    rotate_left
                    · (intro w hSw; (try dsimp only at hSw); go_simp; (try rw [if_neg (by (try simp only [ByteArray.size_append]); omega)]); (try with_reducible rfl))
                    try simp only [Act.put]
                    refine wpAnyH_take (i := 14) (v := ?_) rfl (by kernel_rfl) (by kernel_rfl) (by kernel_rfl) (fun _ _ _ h => h) (Or.inl ⟨by kernel_rfl, ?_⟩) (by assumption) ?_
                    rotate_left
                    · (intro w hSw; (try dsimp only at hSw); go_simp; (try rw [if_neg (by (try simp only [ByteArray.size_append]); omega)]); (try with_reducible rfl))
                    try simp only [Act.put]
                    refine wpAnyH_take (i := 15) (v := ?_) rfl (by kernel_rfl) (by kernel_rfl) (by kernel_rfl) (fun _ _ _ h => h) (Or.inl ⟨by kernel_rfl, ?_⟩) (by assumption) ?_
                    rotate_left
                    · (intro w hSw; (try dsimp only at hSw); go_simp; (try rw [if_neg (by (try simp only [ByteArray.size_append]); omega)]); (try with_reducible rfl))
                    try simp only [Act.put]
                    refine wpAnyH_take (i := 16) (v := ?_) rfl (by kernel_rfl) (by kernel_rfl) (by kernel_rfl) (fun _ _ _ h => h) (Or.inl ⟨by kernel_rfl, ?_⟩) (by assumption) ?_
                    rotate_left
                    · (intro w hSw; (try dsimp only at hSw); go_simp; (try rw [if_neg (by (try simp only [ByteArray.size_append]); omega)]); (try with_reducible rfl))
                    try simp only [Act.put]
                    refine wpAnyH_take (i := 17) (v := ?_) rfl (by kernel_rfl) (by kernel_rfl) (by kernel_rfl) (fun _ _ _ h => h) (Or.inl ⟨by kernel_rfl, ?_⟩) (by assumption) ?_
                    rotate_left
                    · (intro w hSw; (try dsimp only at hSw); go_simp; (try rw [if_neg (by (try simp only [ByteArray.size_append]); omega)]); (try with_reducible rfl))
                    try simp only [Act.put]
                    refine wpAnyH_take (i := 18) (v := ?_) rfl (by kernel_rfl) (by kernel_rfl) (by kernel_rfl) (fun _ _ _ h => h) (Or.inl ⟨by kernel_rfl, ?_⟩) (by assumption) ?_
                    rotate_left
                    · (intro w hSw; (try dsimp only at hSw); go_simp; (try rw [if_neg (by (try simp only [ByteArray.size_append]); omega)]); (try with_reducible rfl))
                    try simp only [Act.put]
                    refine wpAnyH_take (i := 19) (v := ?_) rfl (by kernel_rfl) (by kernel_rfl) (by kernel_rfl) (fun _ _ _ h => h) (Or.inl ⟨by kernel_rfl, ?_⟩) (by assumption) ?_
                    rotate_left
                    · (intro w hSw; (try dsimp only at hSw); go_simp; (try rw [if_neg (by (try simp only [ByteArray.size_append]); omega)]); (try with_reducible rfl))
                    try simp only [Act.put]
                    refine wpAnyH_take (i := 20) (v := ?_) rfl (by kernel_rfl) (by kernel_rfl) (by kernel_rfl) (fun _ _ _ h => h) (Or.inl ⟨by kernel_rfl, ?_⟩) (by assumption) ?_
                    rotate_left
                    · (intro w hSw; (try dsimp only at hSw); go_simp; (try rw [if_neg (by (try simp only [ByteArray.size_append]); omega)]); (try with_reducible rfl))
                    try simp only [Act.put]
                    refine wpAnyH_take (i := 21) (v := ?_) rfl (by kernel_rfl) (by kernel_rfl) (by kernel_rfl) (fun _ _ _ h => h) (Or.inl ⟨by kernel_rfl, ?_⟩) (by assumption) ?_
                    rotate_left
                    · (intro w hSw; (try dsimp only at hSw); go_simp; (try rw [if_neg (by (try simp only [ByteArray.size_append]); omega)]); (try with_reducible rfl))
                    try simp only [Act.put]
                    refine wpAnyH_take (i := 22) (v := ?_) rfl (by kernel_rfl) (by kernel_rfl) (by kernel_rfl) (fun _ _ _ h => h) (Or.inl ⟨by kernel_rfl, ?_⟩) (by assumption) ?_
                    rotate_left
                    · (intro w hSw; (try dsimp only at hSw); go_simp; (try rw [if_neg (by (try simp only [ByteArray.size_append]); omega)]); (try with_reducible rfl))
                    try simp only [Act.put]
                    refine wpAnyH_take (i := 23) (v := ?_) rfl (by kernel_rfl) (by kernel_rfl) (by kernel_rfl) (fun _ _ _ h => h) (Or.inl ⟨by kernel_rfl, ?_⟩) (by assumption) ?_
                    rotate_left
                    · (intro w hSw; (try dsimp only at hSw); go_simp; (try rw [if_neg (by (try simp only [ByteArray.size_append]); omega)]); (try with_reducible rfl))
                    try simp only [Act.put]
                    refine wpAnyH_take (i := 24) (v := ?_) rfl (by kernel_rfl) (by kernel_rfl) (by kernel_rfl) (fun _ _ _ h => h) (Or.inl ⟨by kernel_rfl, ?_⟩) (by assumption) ?_
                    rotate_left
                    · (intro w hSw; (try dsimp only at hSw); go_simp; (try rw [if_neg (by (try simp only [ByteArray.size_append]); omega)]); (try with_reducible rfl))
                    try simp only [Act.put]
                    refine wpAnyH_take (i := 25) (v := ?_) rfl (by kernel_rfl) (by kernel_rfl) (by kernel_rfl) (fun _ _ _ h => h) (Or.inl ⟨by kernel_rfl, ?_⟩) (by assumption) ?_
                    rotate_left
                    · (intro w hSw; (try dsimp only at hSw); go_simp; (try rw [if_neg (by (try simp only [ByteArray.size_append]); omega)]); (try with_reducible rfl))
                    try simp only [Act.put]
                    refine wpAnyH_take (i := 27) (v := ?_) rfl (by kernel_rfl) (by kernel_rfl) (by kernel_rfl) (fun _ _ _ h => h) (Or.inl ⟨by kernel_rfl, ?_⟩) (by assumption) ?_
                    rotate_left
                    · (intro w hSw; (try dsimp only at hSw); go_simp; (try rw [if_neg (by (try simp only [ByteArray.size_append]); omega)]); (try with_reducible rfl))
                    try simp only [Act.put]
                    refine wpAnyH_take (i := 28) (v := ?_) rfl (by kernel_rfl) (by kernel_rfl) (by kernel_rfl) (fun _ _ _ h => h) (Or.inl ⟨by kernel_rfl, ?_⟩) (by assumption) ?_
                    rotate_left
                    · (intro w hSw; (try dsimp only at hSw); go_simp; (try rw [if_neg (by (try simp only [ByteArray.size_append]); omega)]); (try with_reducible rfl))
                    try simp only [Act.put]
                    refine wpAnyH_take (i := 29) (v := ?_) rfl (by kernel_rfl) (by kernel_rfl) (by kernel_rfl) (fun _ _ _ h => h) (Or.inl ⟨by kernel_rfl, ?_⟩) (by assumption) ?_
                    rotate_left
                    · (intro w hSw; (try dsimp only at hSw); go_simp; (try rw [if_neg (by (try simp only [ByteArray.size_append]); omega)]); (try with_reducible rfl))
                    try simp only [Act.put]
                    refine wpAnyH_ready (rs := [26]) (by kernel_rfl) (by simp) ?_
                    refine AllReadyH.cons rfl (fun K hK => ?_) AllReadyH.nil
                    go_simp
                    refine (HKX.out _ HBJ.out.drew).mono ?_
                    rintro e WK ⟨rfl, bk⟩
                    have bk' := bdrew bk
                    refine hK.out _ _ (HS.out _ bk') (fun hHeld => ?_)
                    clear hK K
                    try simp only [Act.put]
                    refine wpAnyH_ready (rs := [30]) (by kernel_rfl) (by simp) ?_
                    refine AllReadyH.cons rfl (fun K hK => ?_) AllReadyH.nil
                    go_simp
                    refine (HKY.out _ (btrans HBJ.out bk')).mono ?_
                    rintro e WL ⟨rfl, bl⟩
                    have bl' := btrans bk' bl
                    refine hK.out _ _ (HS.out _ bl') (fun hHeld => ?_)
                    clear hK K
                    try simp only [Act.put]
                    refine wpAnyH_take (i := 31) (v := ?_) rfl (by kernel_rfl) (by kernel_rfl) (by kernel_rfl) (fun _ _ _ h => h) (Or.inl ⟨by kernel_rfl, ?_⟩) (by assumption) ?_
                    rotate_left
                    · (intro w hSw; (try dsimp only at hSw); go_simp; (try simp only [kq, Bool.not_false]); (try with_reducible rfl))
                    try simp only [Act.put]
                    refine wpAnyH_take (i := 32) (v := ?_) rfl (by kernel_rfl) (by kernel_rfl) (by kernel_rfl) (fun _ _ _ h => h) (Or.inl ⟨by kernel_rfl, ?_⟩) (by assumption) ?_
                    rotate_left
                    · (intro w hSw; (try dsimp only at hSw); go_simp; (try rw [if_neg (by (try simp only [ByteArray.size_append]); omega)]); (try with_reducible rfl))
                    try simp only [Act.put]
                    refine wpAnyH_take (i := 33) (v := ?_) rfl (by kernel_rfl) (by kernel_rfl) (by kernel_rfl) (fun _ _ _ h => h) (Or.inl ⟨by kernel_rfl, ?_⟩) (by assumption) ?_
                    rotate_left
                    · (intro w hSw; (try dsimp only at hSw); go_simp; (try rw [if_neg (by (try simp only [ByteArray.size_append]); omega)]); (try with_reducible rfl))
                    try simp only [Act.put]
                    refine wpAnyH_take (i := 34) (v := undef) rfl (by kernel_rfl) (by kernel_rfl) (by kernel_rfl) (fun _ _ _ h => h) (Or.inr ⟨by kernel_rfl, rfl⟩) (by assumption) ?_
                    try simp only [Act.put]
                    refine wpAnyH_take (i := 35) (v := undef) rfl (by kernel_rfl) (by kernel_rfl) (by kernel_rfl) (fun _ _ _ h => h) (Or.inr ⟨by kernel_rfl, rfl⟩) (by assumption) ?_
                    try simp only [Act.put]
                    refine wpAnyH_take (i := 36) (v := undef) rfl (by kernel_rfl) (by kernel_rfl) (by kernel_rfl) (fun _ _ _ h => h) (Or.inr ⟨by kernel_rfl, rfl⟩) (by assumption) ?_
                    try simp only [Act.put]
                    refine wpAnyH_take (i := 37) (v := undef) rfl (by kernel_rfl) (by kernel_rfl) (by kernel_rfl) (fun _ _ _ h => h) (Or.inr ⟨by kernel_rfl, rfl⟩) (by assumption) ?_
                    try simp only [Act.put]
                    refine wpAnyH_take (i := 38) (v := undef) rfl (by kernel_rfl) (by kernel_rfl) (by kernel_rfl) (fun _ _ _ h => h) (Or.inr ⟨by kernel_rfl, rfl⟩) (by assumption) ?_
                    try simp only [Act.put]
                    refine wpAnyH_take (i := 39) (v := undef) rfl (by kernel_rfl) (by kernel_rfl) (by kernel_rfl) (fun _ _ _ h => h) (Or.inr ⟨by kernel_rfl, rfl⟩) (by assumption) ?_
                    try simp only [Act.put]
                    refine wpAnyH_take (i := 40) (v := undef) rfl (by kernel_rfl) (by kernel_rfl) (by kernel_rfl) (fun _ _ _ h => h) (Or.inr ⟨by kernel_rfl, rfl⟩) (by assumption) ?_
                    try simp only [Act.put]
                    refine wpAnyH_take (i := 41) (v := ?_) rfl (by kernel_rfl) (by kernel_rfl) (by kernel_rfl) (fun _ _ _ h => h) (Or.inl ⟨by kernel_rfl, ?_⟩) (by assumption) ?_
                    rotate_left
                    · (intro w hSw; (try dsimp only at hSw); go_simp; (try rw [if_neg (by (try simp only [ByteArray.size_append]); omega)]); (try with_reducible rfl))
                    try simp only [Act.put]
                    refine wpAnyH_done (by kernel_rfl) ?_ _
                    try simp only [Act.put]
                    clear hHeld
                    go_simp
                    go_wp2_with fail
                    go_roundw
                    case rel => exact ⟨kk + 1, by go_num, by omega, btrans HBJI.out bl'⟩
                    case measure => simp [intOf]; omega
          · have t0 : decide ((kk : Int) < (i : Int)) = false := decide_eq_false (by omega)
            go_wp2_with fail
            go_roundw
            case rel => exact ⟨i + 1, by go_num, by omega, btrans HBI.out HBK.out⟩
            case measure => simp [intOf]; omega
    · have t0 : decide ((i : Int) < (m : Int)) = false := decide_eq_false (by omega)
      have HLW := Lib.hid (HLV.out wr HBL.out)
      have HBW := Lib.hid (btrans HB3.out HBL.out)
      go_wp2_with fail
      refine HLW.out.mono ?_
      rintro e W9 ⟨rfl, b9⟩
      go_wp2_with fail
      go_ret
      exact ⟨rfl, btrans HBW.out b9⟩

end Go.Proofs.YtchjlkfkfcmhlaaDoor
