/- The document's Ctx: a call, or an attempt, made of numbers. -/
import Derived.Test.YtjollcacgnfabaaDoorC12
namespace Go.Proofs.YtjollcacgnfabaaDoor
open Go.RowKit
attribute [local go_sem ↓] Go.wp_at_zero Go.wp_at_succ

def ctxHead : List Int → Int
  | [] => 0
  | x :: _ => around x 1000000
def ctxStart (n : Int) : Cx := ⟨1 + n % 9, digit (1 + n % 9).toNat, 0, n / 9 % 2 == 0, false, 20 + n / 18 % 200, n / 3600 % 20, 1 + n / 18 % 3, n / 54 % 4⟩
def ctxStep (c : Cx) (k : Int) : Cx :=
  if k % 7 = 0 ∧ c.try_ = 0 then c.copy else if c.try_ = 0 then c.tried (1 + k % 3) (c.purse / 2) else if 0 < k % 5 then c.kid (k % 3).toNat 3 (1 + k / 15 % 3) else c
def ctxFrom : Nat → List Int → Cx → Cx
  | 0, _, c => c
  | _ + 1, [], c => c
  | j + 1, x :: l, c => ctxFrom j l (ctxStep c (around x 1000))
def ctxOf (l : List Int) : Cx := ctxFrom 7 l.tail (ctxStart (ctxHead l))

/-- What holds of a call that is made of numbers, i steps on. -/
structure Cx.In (c : Cx) (i : Nat) : Prop where
  size : c.call.size ≤ 1 + 4 * i
  try0 : 0 ≤ c.try_
  try1 : c.try_ ≤ 3
  dl0 : 20 - 3 * (i : Int) ≤ c.dl
  dl1 : c.dl ≤ 219
  p0 : 0 ≤ c.purse
  p1 : c.purse ≤ 19

theorem ctxHead_bd (l : List Int) : 0 ≤ ctxHead l ∧ ctxHead l < 1000000 := by
  cases l with
  | nil => exact ⟨Int.le_refl _, by decide⟩
  | cons x l => exact around_bd x (by decide)
theorem ctxStart_in (n : Int) : (ctxStart n).In 0 := by
  have h1 : n / 18 % 200 < 200 := Int.emod_lt_of_pos _ (by decide)
  have h2 : 0 ≤ n / 18 % 200 := Int.emod_nonneg _ (by decide)
  have h3 : n / 3600 % 20 < 20 := Int.emod_lt_of_pos _ (by decide)
  have h4 : 0 ≤ n / 3600 % 20 := Int.emod_nonneg _ (by decide)
  exact ⟨Nat.le_refl _, Int.le_refl _, by show (0 : Int) ≤ 3; decide, by show 20 - 3 * ((0 : Nat) : Int) ≤ 20 + n / 18 % 200; omega, by show 20 + n / 18 % 200 ≤ 219; omega, h4, by show n / 3600 % 20 ≤ 19; omega⟩

theorem shareAt_bd (n : Int) (k : Nat) (i : Int) (h0 : 0 ≤ n) (h1 : n ≤ 2147483647) (hk : 1 ≤ k) : 0 ≤ shareAt n k i ∧ shareAt n k i ≤ n := by
  unfold shareAt
  split
  · obtain ⟨a, b, _, _⟩ := share_bd n k i.toNat h0 h1 hk
    refine ⟨a, ?_⟩
    have h := share_bd n k 0 h0 h1 hk
    by_cases hk1 : k = 1
    · subst hk1
      have : share n 1 0 ≤ n := by unfold share; simp
      omega
    · have h2 : n / k ≤ n / 2 := by
        have hq := Int.ediv_nonneg h0 (show (0 : Int) ≤ k by omega)
        have e := Int.mul_ediv_add_emod n k
        have r := Int.emod_nonneg n (show (k : Int) ≠ 0 by omega)
        have h3 : 2 * (n / k) ≤ k * (n / k) := Int.mul_le_mul_of_nonneg_right (by omega) hq
        omega
      have h3 : share n k 0 ≤ n := by
        unfold share
        by_cases e : ((0 : Nat) : Int) < n % k
        · rw [if_pos e]
          by_cases hn : n = 0
          · subst hn; simp at e
          · omega
        · rw [if_neg e]; omega
      omega
  · exact ⟨Int.le_refl _, h0⟩

theorem ctxStep_in {c : Cx} {i : Nat} (h : c.In i) (k : Int) : (ctxStep c k).In (i + 1) := by
  obtain ⟨a1, a2, a3, a4, a5, a6, a7⟩ := h
  unfold ctxStep
  split
  · refine ⟨?_, a2, a3, by show 20 - 3 * ((i + 1 : Nat) : Int) ≤ c.dl; omega, a5, Int.le_refl _, by show (0 : Int) ≤ 19; decide⟩
    show (c.call ++ ⟨#[126]⟩).size ≤ _
    rw [ByteArray.size_append]
    show _ + 1 ≤ _
    omega
  · split
    · refine ⟨by show c.call.size ≤ _; omega, ?_, ?_, by show 20 - 3 * ((i + 1 : Nat) : Int) ≤ c.dl; omega, a5, ?_, ?_⟩
      · show 0 ≤ 1 + k % 3; omega
      · show 1 + k % 3 ≤ 3; omega
      · show 0 ≤ c.purse / 2; omega
      · show c.purse / 2 ≤ 19; omega
    · split
      · obtain ⟨s1, s2⟩ := shareAt_bd c.purse 3 ((k % 3).toNat : Nat) a6 (by omega) (by decide)
        refine ⟨?_, Int.le_refl _, by show (0 : Int) ≤ 3; decide, ?_, ?_, s1, Int.le_trans s2 a7⟩
        · have hs := span_size c
          show (c.span ++ ⟨#[47]⟩ ++ digit (k % 3).toNat).size ≤ _
          rw [ByteArray.size_append, ByteArray.size_append]
          show _ + 1 + 1 ≤ _
          omega
        · show 20 - 3 * ((i + 1 : Nat) : Int) ≤ c.dl - (1 + k / 15 % 3); omega
        · show c.dl - (1 + k / 15 % 3) ≤ 219; omega
      · exact ⟨by omega, a2, a3, by omega, a5, a6, a7⟩
theorem Cx.In.mono {c : Cx} {i j : Nat} (h : c.In i) (hij : i ≤ j) : c.In j := by
  obtain ⟨a1, a2, a3, a4, a5, a6, a7⟩ := h
  exact ⟨by omega, a2, a3, by omega, a5, a6, a7⟩
theorem ctxFrom_in : ∀ (j : Nat) (l : List Int) (c : Cx) (i : Nat), c.In i → (ctxFrom j l c).In (i + j)
  | 0, _, _, _, h => h
  | j + 1, [], _, i, h => h.mono (by omega)
  | j + 1, x :: l, c, i, h => by
    have := ctxFrom_in j l _ (i + 1) (ctxStep_in h (around x 1000))
    rw [show i + 1 + j = i + (j + 1) by omega] at this
    exact this
theorem ctxOf_in (l : List Int) : (ctxOf l).In 7 := by
  have := ctxFrom_in 7 l.tail _ 0 (ctxStart_in (ctxHead l))
  exact this

/-- A call is stored into a box. -/
theorem copy_out {w W : World} {a : Nat} {z0 z1 z2 z3 z4 z5 z6 z7 z8 : Value} {T : TypeId} (c : Cx) (ha : W.heap[a]? = some (.cells #[z0, z1, z2, z3, z4, z5, z6, z7, z8] T (0, 0))) {n : Nat} (hb : Below n w W) (hn : n ≤ a) :
    ∃ W6, setsFrom W a 0 (cxCells c) = W6 ∧ Below n w W6 ∧ W6.heap[a]? = some (.cells (cxCells c).toArray T (0, 0)) := by
  have u1 := setsFrom_block a T (cxCells c) 0 W _ ha
  refine ⟨_, rfl, setsFrom_below a hn (cxCells c) 0 W hb, ?_⟩
  unfold cxCells at *
  simp only [arrFrom, Nat.reduceAdd, List.setIfInBounds_toArray, List.set_cons_zero, List.set_cons_succ] at u1
  exact u1

set_option maxRecDepth 8000 in
set_option maxHeartbeats 2000000 in
theorem ctx_nil (w : World) (A : Option Addr) (cap : Nat) :
    Calls Tryd.prog 10 #[.slice A 0 cap] w fun e w' => e = .returned (cxV (ctxOf [])) ∧ Below w.heap.size w w' := by
  have HD := Lib.hid (fun w => dec1 1 w (by decide))
  have HE : Hid (cxV (ctxOf []) = .agg #[.int .i64 1, .string (digit 1), .int .i64 0, .bool true, .bool false, .int .i64 20, .int .i64 0, .int .i64 1, .int .i64 0]) := rfl
  rw [HE.out]
  have hb0 := (Below.refl w.heap.size w).alloc (Nat.le_refl _) (.cells #[.int .i64 0, .string ⟨#[]⟩, .int .i64 0, .bool false, .bool false, .int .i64 0, .int .i64 0, .int .i64 0, .int .i64 0] 24)
  have n0 := heap_alloc_new w (.cells #[.int .i64 0, .string ⟨#[]⟩, .int .i64 0, .bool false, .bool false, .int .i64 0, .int .i64 0, .int .i64 0, .int .i64 0] 24)
  have HB0 := Lib.hid hb0
  have HN0 := Lib.hid n0
  clear hb0 n0
  go_enter Tryd.func10, Tryd.ntmps10
  go_wp2_with fail
  refine (HD.out _).mono ?_
  rintro e w1 ⟨rfl, hb1⟩
  have m0 := (hb1.block w.heap.size (Array.getElem?_eq_some_iff.1 HN0.out).1).trans HN0.out
  have hlt := (Array.getElem?_eq_some_iff.1 m0).1
  go_wp2_with fail
  have hb2 := (btrans HB0.out hb1).alloc (Nat.le_of_lt hlt) (.cells #[.int .i64 1, .string (digit 1), .int .i64 0, .bool true, .bool false, .int .i64 20, .int .i64 0, .int .i64 1, .int .i64 0] 24)
  have n2 := heap_alloc_new w1 (.cells #[.int .i64 1, .string (digit 1), .int .i64 0, .bool true, .bool false, .int .i64 20, .int .i64 0, .int .i64 1, .int .i64 0] 24)
  have m2 := (Below.heap_alloc w1 (.cells #[.int .i64 1, .string (digit 1), .int .i64 0, .bool true, .bool false, .int .i64 20, .int .i64 0, .int .i64 1, .int .i64 0] 24) w.heap.size hlt).trans m0
  obtain ⟨W2, hW2⟩ : ∃ W2, w1.alloc (.cells #[.int .i64 1, .string (digit 1), .int .i64 0, .bool true, .bool false, .int .i64 20, .int .i64 0, .int .i64 1, .int .i64 0] 24) = W2 := ⟨_, rfl⟩
  rw [hW2] at hb2 n2 m2
  obtain ⟨W6, hW6, hu, u1⟩ := copy_out ⟨1, digit 1, 0, true, false, 20, 0, 1, 0⟩ m2 hb2 (Nat.le_refl _)
  simp only [cxCells, setsFrom, Nat.reduceAdd] at hW6 u1
  have HU := Lib.hid hu
  have r0 := block_cell n2 0 _ rfl
  have r1 := block_cell n2 1 _ rfl
  have r2 := block_cell n2 2 _ rfl
  have r3 := block_cell n2 3 _ rfl
  have r4 := block_cell n2 4 _ rfl
  have r5 := block_cell n2 5 _ rfl
  have r6 := block_cell n2 6 _ rfl
  have r7 := block_cell n2 7 _ rfl
  have r8 := block_cell n2 8 _ rfl
  have c0 := block_cell m2 0 _ rfl
  have c1 := block_cell m2 1 _ rfl
  have c2 := block_cell m2 2 _ rfl
  have c3 := block_cell m2 3 _ rfl
  have c4 := block_cell m2 4 _ rfl
  have c5 := block_cell m2 5 _ rfl
  have c6 := block_cell m2 6 _ rfl
  have c7 := block_cell m2 7 _ rfl
  have c8 := block_cell m2 8 _ rfl
  have g0 := block_free m2 0
  have g1 := block_free m2 1
  have g2 := block_free m2 2
  have g3 := block_free m2 3
  have g4 := block_free m2 4
  have g5 := block_free m2 5
  have g6 := block_free m2 6
  have g7 := block_free m2 7
  have g8 := block_free m2 8
  have e0 := block_cell u1 0 _ rfl
  have e1 := block_cell u1 1 _ rfl
  have e2 := block_cell u1 2 _ rfl
  have e3 := block_cell u1 3 _ rfl
  have e4 := block_cell u1 4 _ rfl
  have e5 := block_cell u1 5 _ rfl
  have e6 := block_cell u1 6 _ rfl
  have e7 := block_cell u1 7 _ rfl
  have e8 := block_cell u1 8 _ rfl
  clear hb1 m0 hb2 n2 m2 hu u1
  rw [hW2]
  clear hW2
  go_loopw [5] (fun v wr => v = .int .i64 1 ∧ wr = W2) (fun _ _ => 0)
  case atStart => exact ⟨rfl, rfl⟩
  case round =>
    obtain ⟨rfl, rfl⟩ := hrel
    go_wp2_with fail
    exact bodyPost_ret (v := .agg #[.int .i64 1, .string (digit 1), .int .i64 0, .bool true, .bool false, .int .i64 20, .int .i64 0, .int .i64 1, .int .i64 0]) (by simp [results, Tryd.results10, go_sem, e0, e1, e2, e3, e4, e5, e6, e7, e8]) rfl ⟨rfl, HU.out⟩

/-- While numbers are read. -/
structure CtxInv (w wr : World) (B : Nat) (t : List Int) (R : Cx) (i : Nat) (c : Cx) : Prop where
  box : wr.heap[B]? = some (.cells (cxCells c).toArray 24 (0, 0))
  res : wr.heap[w.heap.size]? = some (.cells #[.int .i64 0, .string ⟨#[]⟩, .int .i64 0, .bool false, .bool false, .int .i64 0, .int .i64 0, .int .i64 0, .int .i64 0] 24 (0, 0))
  gt : w.heap.size < B
  below : Below w.heap.size w wr
  ok : c.In i
  i8 : i ≤ 7
  it : i ≤ t.length
  val : ctxFrom (7 - i) (t.drop i) c = R

theorem CtxInv.step {w wr w' : World} {B : Nat} {t : List Int} {R : Cx} {i : Nat} {c c' : Cx} (h : CtxInv w wr B t R i c) (hb : Below wr.heap.size wr w') (hi : i < 7) (hit : i < t.length) {x : Int} (hx : t[i]? = some x) (hc : ctxStep c (around x 1000) = c') :
    ∃ W6, setsFrom w' B 0 (cxCells c') = W6 ∧ CtxInv w W6 B t R (i + 1) c' := by
  obtain ⟨a1, a2, a3, a4, a5, a6, a7, a8⟩ := h
  have b1 := (hb.block B (Array.getElem?_eq_some_iff.1 a1).1).trans a1
  have b2 := (hb.block _ (Array.getElem?_eq_some_iff.1 a2).1).trans a2
  obtain ⟨W6, e, hu, u1⟩ := copy_out c' b1 ((a4.trans (hb.mono a4.size))) (Nat.le_of_lt a3)
  have e2 : ∀ (vs : List Value) (o : Nat) (W : World), (setsFrom W B o vs).heap[w.heap.size]? = W.heap[w.heap.size]? := by
    intro vs
    induction vs with
    | nil => intro o W; rfl
    | cons v vs ih => intro o W; rw [setsFrom, ih]; exact Below.heap_setCell W ⟨B, o, none⟩ v _ (by show w.heap.size ≠ B; omega)
  refine ⟨W6, e, u1, ?_, a3, hu, hc ▸ ctxStep_in a5 _, by omega, by omega, ?_⟩
  · rw [← e, e2]; exact b2
  · rw [← a8, ← hc]
    obtain ⟨j, hj⟩ : ∃ j, 7 - i = j + 1 := ⟨6 - i, by omega⟩
    have hd : t.drop i = x :: t.drop (i + 1) := by
      rw [List.drop_eq_getElem_cons hit]
      rw [List.getElem?_eq_getElem hit] at hx
      rw [Option.some.inj hx]
    rw [show 7 - (i + 1) = j by omega, hj, hd]
    rfl
theorem CtxInv.still {w wr w' : World} {B : Nat} {t : List Int} {R : Cx} {i : Nat} {c : Cx} (h : CtxInv w wr B t R i c) (hb : Below wr.heap.size wr w') (hi : i < 7) (hit : i < t.length) {x : Int} (hx : t[i]? = some x) (hc : ctxStep c (around x 1000) = c) :
    CtxInv w w' B t R (i + 1) c := by
  obtain ⟨a1, a2, a3, a4, a5, a6, a7, a8⟩ := h
  refine ⟨(hb.block B (Array.getElem?_eq_some_iff.1 a1).1).trans a1, (hb.block _ (Array.getElem?_eq_some_iff.1 a2).1).trans a2, a3, a4.trans (hb.mono a4.size), a5.mono (by omega), by omega, by omega, ?_⟩
  rw [← a8]
  obtain ⟨j, hj⟩ : ∃ j, 7 - i = j + 1 := ⟨6 - i, by omega⟩
  have hd : t.drop i = x :: t.drop (i + 1) := by
    rw [List.drop_eq_getElem_cons hit]
    rw [List.getElem?_eq_getElem hit] at hx
    rw [Option.some.inj hx]
  rw [show 7 - (i + 1) = j by omega, hj, hd]
  show _ = ctxFrom j (t.drop (i + 1)) (ctxStep c (around x 1000))
  rw [hc]
theorem CtxInv.end_ {w wr : World} {B : Nat} {t : List Int} {R : Cx} {i : Nat} {c : Cx} (h : CtxInv w wr B t R i c) (he : ¬ (i < t.length ∧ i < 7)) : c = R := by
  rw [← h.val]
  have h1 := h.i8
  have h2 := h.it
  by_cases e : i < 7
  · rw [List.drop_eq_nil_of_le (by omega)]
    cases 7 - i <;> rfl
  · rw [show 7 - i = 0 by omega]; rfl

set_option maxRecDepth 8000 in
set_option maxHeartbeats 2000000 in
theorem ctx_cons {w : World} {A : Option Addr} {n : Nat} {x : Int} {t : List Int} (h : ArgInts w A n (x :: t)) (cap : Nat) :
    Calls Tryd.prog 10 #[.slice A n cap] w fun e w' => e = .returned (cxV (ctxOf (x :: t))) ∧ Below w.heap.size w w' := by
  obtain ⟨hlen, hn, hbd, hcells⟩ := h
  obtain ⟨b, off, rfl, hc⟩ : ∃ b off, A = some ⟨b, off, none⟩ ∧ ∀ k (h : k < (x :: t).length), w.cell? ⟨b, off + k, none⟩ = some (.int .i64 (x :: t)[k]) := by
    rcases hcells with h0 | h
    · rw [h0] at hlen; simp at hlen
    · exact h
  have hb0 := (Below.refl w.heap.size w).alloc (Nat.le_refl _) (.cells #[.int .i64 0, .string ⟨#[]⟩, .int .i64 0, .bool false, .bool false, .int .i64 0, .int .i64 0, .int .i64 0, .int .i64 0] 24)
  have n0 := heap_alloc_new w (.cells #[.int .i64 0, .string ⟨#[]⟩, .int .i64 0, .bool false, .bool false, .int .i64 0, .int .i64 0, .int .i64 0, .int .i64 0] 24)
  have hx0 : w.cell? ⟨b, off, none⟩ = some (.int .i64 x) := hc 0 (by simp)
  obtain ⟨x0, x1⟩ := hbd x (by simp)
  have HAR := Lib.hid (fun w => around_any x 1000000 w x0 x1 (by decide) (by decide))
  obtain ⟨m0, m1⟩ := around_bd x (show (1 : Int) ≤ 1000000 by decide)
  have HRES : Hid (ctxOf (x :: t) = ctxFrom 7 t (ctxStart (around x 1000000))) := rfl
  obtain ⟨m, hm⟩ : ∃ m, m = around x 1000000 := ⟨_, rfl⟩
  rw [← hm] at HAR m0 m1 HRES
  obtain ⟨r, hr⟩ : ∃ r : Nat, (r : Int) = 1 + m % 9 := ⟨(1 + m % 9).toNat, by omega⟩
  have HD := Lib.hid (fun w => dec1 r w (by omega))
  have hrn : (1 + m % 9).toNat = r := by omega
  have HST : Hid (ctxStart m = ⟨1 + m % 9, digit r, 0, m / 9 % 2 == 0, false, 20 + m / 18 % 200, m / 3600 % 20, 1 + m / 18 % 3, m / 54 % 4⟩) := by rw [← hrn]; exact rfl
  rw [hr] at HD
  have HC := Lib.hid hc
  have HBD := Lib.hid hbd
  obtain ⟨R, hR⟩ : ∃ R, R = ctxOf (x :: t) := ⟨_, rfl⟩
  rw [← hR] at HRES ⊢
  have hcx := akeep hx0 (.cells #[.int .i64 0, .string ⟨#[]⟩, .int .i64 0, .bool false, .bool false, .int .i64 0, .int .i64 0, .int .i64 0, .int .i64 0] 24)
  have HB0 := Lib.hid hb0
  have HN0 := Lib.hid n0
  have hn1 : 0 < n := by rw [← hlen]; simp
  clear hb0 n0 hr hrn hc hbd hcells hm x0 x1 hn hR
  go_enter Tryd.func10, Tryd.ntmps10
  go_wp2_with fail
  refine (HAR.out _).mono ?_
  rintro e w1 ⟨rfl, rfl⟩
  clear hcx
  go_wp2_with fail
  refine (HD.out _).mono ?_
  rintro e w2 ⟨rfl, hb1⟩
  have m0' := (hb1.block w.heap.size (Array.getElem?_eq_some_iff.1 HN0.out).1).trans HN0.out
  have hlt := (Array.getElem?_eq_some_iff.1 m0').1
  have HB1 := Lib.hid (btrans HB0.out hb1)
  have HM0 := Lib.hid m0'
  clear hb1 m0'
  go_wp2_with fail
  have hb2 := HB1.out.alloc (Nat.le_of_lt hlt) (.cells #[.int .i64 (1 + m % 9), .string (digit r), .int .i64 0, .bool (m / 9 % 2 == 0), .bool false, .int .i64 (20 + m / 18 % 200), .int .i64 (m / 3600 % 20), .int .i64 (1 + m / 18 % 3), .int .i64 (m / 54 % 4)] 24)
  have n2 := heap_alloc_new w2 (.cells #[.int .i64 (1 + m % 9), .string (digit r), .int .i64 0, .bool (m / 9 % 2 == 0), .bool false, .int .i64 (20 + m / 18 % 200), .int .i64 (m / 3600 % 20), .int .i64 (1 + m / 18 % 3), .int .i64 (m / 54 % 4)] 24)
  have m2 := (Below.heap_alloc w2 (.cells #[.int .i64 (1 + m % 9), .string (digit r), .int .i64 0, .bool (m / 9 % 2 == 0), .bool false, .int .i64 (20 + m / 18 % 200), .int .i64 (m / 3600 % 20), .int .i64 (1 + m / 18 % 3), .int .i64 (m / 54 % 4)] 24) w.heap.size hlt).trans HM0.out
  obtain ⟨W2, hW2⟩ : ∃ W2, w2.alloc (.cells #[.int .i64 (1 + m % 9), .string (digit r), .int .i64 0, .bool (m / 9 % 2 == 0), .bool false, .int .i64 (20 + m / 18 % 200), .int .i64 (m / 3600 % 20), .int .i64 (1 + m / 18 % 3), .int .i64 (m / 54 % 4)] 24) = W2 := ⟨_, rfl⟩
  rw [hW2] at hb2 n2 m2 ⊢
  have HSTART : Hid (CtxInv w W2 w2.heap.size t R 0 (ctxStart m)) := ⟨by rw [HST.out]; exact n2, m2, hlt, hb2, ctxStart_in m, by omega, by omega, HRES.out.symm⟩
  have hln : t.length + 1 = n := by rw [← hlen]; simp
  obtain ⟨B, hB⟩ : ∃ B, B = w2.heap.size := ⟨_, rfl⟩
  rw [← hB] at HSTART ⊢
  clear hb2 n2 m2 hW2 HB1 HM0 HST HRES hB hlt HB0 HN0 HD HAR hx0 hlen
  go_loopw [5] (fun v wr => ∃ (i : Nat) (c : Cx), v = .int .i64 ((i : Int) + 1) ∧ CtxInv w wr B t R i c) (fun v _ => (8 - intOf v).toNat)
  case atStart => exact ⟨0, _, rfl, HSTART.out⟩
  case round =>
    obtain ⟨i, c, rfl, hinv⟩ := hrel
    have HI := Lib.hid hinv
    have hi7 := hinv.i8
    have hit := hinv.it
    by_cases hgo : i < t.length ∧ i < 7
    · obtain ⟨hg1, hg2⟩ := hgo
      obtain ⟨y, hy⟩ : ∃ y, t[i]? = some y := ⟨_, List.getElem?_eq_getElem hg1⟩
      have hcy : w.cell? ⟨b, off + (i + 1), none⟩ = some (.int .i64 y) := by
        have := HC.out (i + 1) (by simp; omega)
        rw [this]
        rw [List.getElem?_eq_getElem hg1] at hy
        rw [← Option.some.inj hy]
        rfl
      have hcy2 := bkeep hinv.below hcy
      obtain ⟨y0, y1⟩ := HBD.out y (List.mem_cons_of_mem _ (List.mem_of_getElem? hy))
      have HAR := Lib.hid (fun w => around_any y 1000 w y0 y1 (by decide) (by decide))
      obtain ⟨k0, k1⟩ := around_bd y (show (1 : Int) ≤ 1000 by decide)
      have HSTEP := Lib.hid (fun w' c' (hb : Below wr.heap.size wr w') (hc : ctxStep c (around y 1000) = c') => hinv.step hb hg2 hg1 hy hc)
      have HSTILL := Lib.hid (fun (hc : ctxStep c (around y 1000) = c) => hinv.still (Below.refl _ _) hg2 hg1 hy hc)
      obtain ⟨k, hk⟩ : ∃ k, k = around y 1000 := ⟨_, rfl⟩
      rw [← hk] at HAR k0 k1 HSTEP HSTILL
      have hok := hinv.ok
      have hbox := hinv.box
      clear hinv hcy hk y0 y1 hy
      obtain ⟨o1, o2, o3, o4, o5, o6, o7⟩ := hok
      have HEQ1 := Lib.hid (fun h1 h2 => show ctxStep c k = c.copy by unfold ctxStep; rw [if_pos (show k % 7 = 0 ∧ c.try_ = 0 from ⟨h1, h2⟩)])
      have HEQ2 := Lib.hid (fun (h1 : ¬ k % 7 = 0) (h2 : c.try_ = 0) => show ctxStep c k = c.tried (1 + k % 3) (c.purse / 2) by unfold ctxStep; rw [if_neg (fun h => h1 h.1), if_pos h2])
      have HEQ3 := Lib.hid (fun (h2 : ¬ c.try_ = 0) (h3 : 0 < k % 5) => show ctxStep c k = c.kid (k % 3).toNat 3 (1 + k / 15 % 3) by unfold ctxStep; rw [if_neg (fun h => h2 h.2), if_neg h2, if_pos h3])
      have HEQ4 := Lib.hid (fun (h2 : ¬ c.try_ = 0) (h3 : ¬ 0 < k % 5) => show ctxStep c k = c by unfold ctxStep; rw [if_neg (fun h => h2 h.2), if_neg h2, if_neg h3])
      have HC1 := Lib.hid (fun w => rcopy_any c (by omega) w)
      have HC2 := Lib.hid (fun p w => rtry_any c (1 + k % 3) p w)
      have HC3 := Lib.hid (fun w => rkid_any c (k % 3).toNat 3 (1 + k / 15 % 3) (by omega) (by omega) (by omega) (by omega) (by omega) (by omega) (by omega) w)
      rw [show (((k % 3).toNat : Nat) : Int) = k % 3 by omega] at HC3
      have hbk := fun w' (hb : Below wr.heap.size wr w') => (hb.block B (Array.getElem?_eq_some_iff.1 hbox).1).trans hbox
      have HBK := Lib.hid hbk
      clear hbk
      have gi : IntKind.i64.wrap ((i : Int) + 1 + 1) = (i : Int) + 1 + 1 := IntWalk.i64_in _ (by omega)
      have t1 : ((i : Int) + 1 < (n : Int)) := by omega
      have t2 : ((i : Int) + 1 < 8) := by omega
      have i0 : (0 : Int) ≤ (i : Int) + 1 := by omega
      by_cases h2 : c.try_ = 0
      · by_cases h1 : k % 7 = 0
        · have HS := Lib.hid (fun w' hb => HSTEP.out w' _ hb (HEQ1.out h1 h2))
          have b1 : (k % 7 == 0) = true := by rw [h1]; rfl
          obtain ⟨q, s, tr, a, bb, d, u, v, z⟩ := c
          dsimp only at h2
          subst h2
          simp only [cxV, cxCells, Cx.copy] at HC1 HS hbox HBK
          have r0 := block_cell hbox 0 _ rfl
          have r1 := block_cell hbox 1 _ rfl
          have r2 := block_cell hbox 2 _ rfl
          have r3 := block_cell hbox 3 _ rfl
          have r4 := block_cell hbox 4 _ rfl
          have r5 := block_cell hbox 5 _ rfl
          have r6 := block_cell hbox 6 _ rfl
          have r7 := block_cell hbox 7 _ rfl
          have r8 := block_cell hbox 8 _ rfl
          clear HC2 HC3 HEQ1 HEQ2 HEQ3 HEQ4 HSTEP HSTILL hbox o1 o2 o3 o4 o5 o6 o7
          go_wp2_with fail
          refine (HAR.out _).mono ?_
          rintro e w3 ⟨rfl, rfl⟩
          go_wp2_with fail
          refine (HC1.out _).mono ?_
          rintro e w4 ⟨rfl, hb4⟩
          obtain ⟨W6, hW6, hinv6⟩ := HS.out _ hb4
          have hB := HBK.out _ hb4
          simp only [setsFrom, Nat.reduceAdd] at hW6
          have HI6 := Lib.hid hinv6
          have x0 := block_cell hB 0 _ rfl
          have x1 := block_cell hB 1 _ rfl
          have x2 := block_cell hB 2 _ rfl
          have x3 := block_cell hB 3 _ rfl
          have x4 := block_cell hB 4 _ rfl
          have x5 := block_cell hB 5 _ rfl
          have x6 := block_cell hB 6 _ rfl
          have x7 := block_cell hB 7 _ rfl
          have x8 := block_cell hB 8 _ rfl
          have f0 := block_free hB 0
          have f1 := block_free hB 1
          have f2 := block_free hB 2
          have f3 := block_free hB 3
          have f4 := block_free hB 4
          have f5 := block_free hB 5
          have f6 := block_free hB 6
          have f7 := block_free hB 7
          have f8 := block_free hB 8
          clear hb4 hinv6 hB r0 r1 r2 r3 r4 r5 r6 r7 r8
          go_wp2_with fail
          go_roundw
          case rel => exact ⟨i + 1, _, by go_num, HI6.out⟩
          case measure => simp [intOf]; omega
        · have HS := Lib.hid (fun w' hb => HSTEP.out w' _ hb (HEQ2.out h1 h2))
          have b1 : (k % 7 == 0) = false := beq_eq_false_iff_ne.2 h1
          have b0 : ¬ k % 7 = 0 := h1
          have b2 : (c.try_ == 0) = true := by rw [h2]; rfl
          obtain ⟨q, s, tr, a, bb, d, u, v, z⟩ := c
          dsimp only at *
          subst h2
          simp only [cxV, cxCells, Cx.tried] at HC2 HS hbox HBK
          have r0 := block_cell hbox 0 _ rfl
          have r1 := block_cell hbox 1 _ rfl
          have r2 := block_cell hbox 2 _ rfl
          have r3 := block_cell hbox 3 _ rfl
          have r4 := block_cell hbox 4 _ rfl
          have r5 := block_cell hbox 5 _ rfl
          have r6 := block_cell hbox 6 _ rfl
          have r7 := block_cell hbox 7 _ rfl
          have r8 := block_cell hbox 8 _ rfl
          clear HC1 HC3 HEQ1 HEQ2 HEQ3 HEQ4 HSTEP HSTILL hbox o1 o2 o3 o4 o5 
          go_wp2_with fail
          refine (HAR.out _).mono ?_
          rintro e w3 ⟨rfl, rfl⟩
          go_wp2_with fail
          refine (HC2.out _ _).mono ?_
          rintro e w4 ⟨rfl, hb4⟩
          obtain ⟨W6, hW6, hinv6⟩ := HS.out _ hb4
          have hB := HBK.out _ hb4
          simp only [setsFrom, Nat.reduceAdd] at hW6
          have HI6 := Lib.hid hinv6
          have x0 := block_cell hB 0 _ rfl
          have x1 := block_cell hB 1 _ rfl
          have x2 := block_cell hB 2 _ rfl
          have x3 := block_cell hB 3 _ rfl
          have x4 := block_cell hB 4 _ rfl
          have x5 := block_cell hB 5 _ rfl
          have x6 := block_cell hB 6 _ rfl
          have x7 := block_cell hB 7 _ rfl
          have x8 := block_cell hB 8 _ rfl
          have f0 := block_free hB 0
          have f1 := block_free hB 1
          have f2 := block_free hB 2
          have f3 := block_free hB 3
          have f4 := block_free hB 4
          have f5 := block_free hB 5
          have f6 := block_free hB 6
          have f7 := block_free hB 7
          have f8 := block_free hB 8
          clear hb4 hinv6 hB r0 r1 r2 r3 r4 r5 r6 r7 r8
          go_wp2_with fail
          go_roundw
          case rel => exact ⟨i + 1, _, by go_num, HI6.out⟩
          case measure => simp [intOf]; omega
      · by_cases h1 : k % 7 = 0
        · by_cases h3 : 0 < k % 5
          · have HS := Lib.hid (fun w' hb => HSTEP.out w' _ hb (HEQ3.out h2 h3))
            obtain ⟨c', hc'⟩ : ∃ c', c' = c.kid (k % 3).toNat 3 (1 + k / 15 % 3) := ⟨_, rfl⟩
            rw [← hc'] at HC3 HS
            clear hc'
            obtain ⟨q', s', tr', a', bb', d', u', v', z'⟩ := c'
            have b1 : (k % 7 == 0) = true := by rw [h1]; rfl
            have b2 : (c.try_ == 0) = false := beq_eq_false_iff_ne.2 h2
            obtain ⟨q, s, tr, a, bb, d, u, v, z⟩ := c
            dsimp only at *
            simp only [cxV, cxCells] at HC3 HS hbox HBK
            have r0 := block_cell hbox 0 _ rfl
            have r1 := block_cell hbox 1 _ rfl
            have r2 := block_cell hbox 2 _ rfl
            have r3 := block_cell hbox 3 _ rfl
            have r4 := block_cell hbox 4 _ rfl
            have r5 := block_cell hbox 5 _ rfl
            have r6 := block_cell hbox 6 _ rfl
            have r7 := block_cell hbox 7 _ rfl
            have r8 := block_cell hbox 8 _ rfl
            clear HC1 HC2 HEQ1 HEQ2 HEQ3 HEQ4 HSTEP HSTILL hbox o1 o2 o3 o4 o5 
            go_wp2_with fail
            refine (HAR.out _).mono ?_
            rintro e w3 ⟨rfl, rfl⟩
            go_wp2_with fail
            refine (HC3.out _).mono ?_
            rintro e w4 ⟨rfl, hb4⟩
            obtain ⟨W6, hW6, hinv6⟩ := HS.out _ hb4
            have hB := HBK.out _ hb4
            simp only [setsFrom, Nat.reduceAdd] at hW6
            have HI6 := Lib.hid hinv6
            have x0 := block_cell hB 0 _ rfl
            have x1 := block_cell hB 1 _ rfl
            have x2 := block_cell hB 2 _ rfl
            have x3 := block_cell hB 3 _ rfl
            have x4 := block_cell hB 4 _ rfl
            have x5 := block_cell hB 5 _ rfl
            have x6 := block_cell hB 6 _ rfl
            have x7 := block_cell hB 7 _ rfl
            have x8 := block_cell hB 8 _ rfl
            have f0 := block_free hB 0
            have f1 := block_free hB 1
            have f2 := block_free hB 2
            have f3 := block_free hB 3
            have f4 := block_free hB 4
            have f5 := block_free hB 5
            have f6 := block_free hB 6
            have f7 := block_free hB 7
            have f8 := block_free hB 8
            clear hb4 hinv6 hB r0 r1 r2 r3 r4 r5 r6 r7 r8
            go_wp2_with fail
            go_roundw
            case rel => exact ⟨i + 1, _, by go_num, HI6.out⟩
            case measure => simp [intOf]; omega
          · have HS := Lib.hid (HSTILL.out (HEQ4.out h2 h3))
            have b1 : (k % 7 == 0) = true := by rw [h1]; rfl
            have b2 : (c.try_ == 0) = false := beq_eq_false_iff_ne.2 h2
            obtain ⟨q, s, tr, a, bb, d, u, v, z⟩ := c
            dsimp only at *
            simp only [cxCells] at hbox
            have r0 := block_cell hbox 0 _ rfl
            have r1 := block_cell hbox 1 _ rfl
            have r2 := block_cell hbox 2 _ rfl
            have r3 := block_cell hbox 3 _ rfl
            have r4 := block_cell hbox 4 _ rfl
            have r5 := block_cell hbox 5 _ rfl
            have r6 := block_cell hbox 6 _ rfl
            have r7 := block_cell hbox 7 _ rfl
            have r8 := block_cell hbox 8 _ rfl
            clear HC1 HC2 HC3 HEQ1 HEQ2 HEQ3 HEQ4 HSTEP HSTILL hbox o1 o2 o3 o4 o5 HBK
            go_wp2_with fail
            refine (HAR.out _).mono ?_
            rintro e w3 ⟨rfl, rfl⟩
            go_wp2_with fail
            go_roundw
            case rel => exact ⟨i + 1, _, by go_num, HS.out⟩
            case measure => simp [intOf]; omega
        · by_cases h3 : 0 < k % 5
          · have HS := Lib.hid (fun w' hb => HSTEP.out w' _ hb (HEQ3.out h2 h3))
            obtain ⟨c', hc'⟩ : ∃ c', c' = c.kid (k % 3).toNat 3 (1 + k / 15 % 3) := ⟨_, rfl⟩
            rw [← hc'] at HC3 HS
            clear hc'
            obtain ⟨q', s', tr', a', bb', d', u', v', z'⟩ := c'
            have b1 : (k % 7 == 0) = false := beq_eq_false_iff_ne.2 h1
            have b0 : ¬ k % 7 = 0 := h1
            have b2 : (c.try_ == 0) = false := beq_eq_false_iff_ne.2 h2
            obtain ⟨q, s, tr, a, bb, d, u, v, z⟩ := c
            dsimp only at *
            simp only [cxV, cxCells] at HC3 HS hbox HBK
            have r0 := block_cell hbox 0 _ rfl
            have r1 := block_cell hbox 1 _ rfl
            have r2 := block_cell hbox 2 _ rfl
            have r3 := block_cell hbox 3 _ rfl
            have r4 := block_cell hbox 4 _ rfl
            have r5 := block_cell hbox 5 _ rfl
            have r6 := block_cell hbox 6 _ rfl
            have r7 := block_cell hbox 7 _ rfl
            have r8 := block_cell hbox 8 _ rfl
            clear HC1 HC2 HEQ1 HEQ2 HEQ3 HEQ4 HSTEP HSTILL hbox o1 o2 o3 o4 o5 
            go_wp2_with fail
            refine (HAR.out _).mono ?_
            rintro e w3 ⟨rfl, rfl⟩
            go_wp2_with fail
            refine (HC3.out _).mono ?_
            rintro e w4 ⟨rfl, hb4⟩
            obtain ⟨W6, hW6, hinv6⟩ := HS.out _ hb4
            have hB := HBK.out _ hb4
            simp only [setsFrom, Nat.reduceAdd] at hW6
            have HI6 := Lib.hid hinv6
            have x0 := block_cell hB 0 _ rfl
            have x1 := block_cell hB 1 _ rfl
            have x2 := block_cell hB 2 _ rfl
            have x3 := block_cell hB 3 _ rfl
            have x4 := block_cell hB 4 _ rfl
            have x5 := block_cell hB 5 _ rfl
            have x6 := block_cell hB 6 _ rfl
            have x7 := block_cell hB 7 _ rfl
            have x8 := block_cell hB 8 _ rfl
            have f0 := block_free hB 0
            have f1 := block_free hB 1
            have f2 := block_free hB 2
            have f3 := block_free hB 3
            have f4 := block_free hB 4
            have f5 := block_free hB 5
            have f6 := block_free hB 6
            have f7 := block_free hB 7
            have f8 := block_free hB 8
            clear hb4 hinv6 hB r0 r1 r2 r3 r4 r5 r6 r7 r8
            go_wp2_with fail
            go_roundw
            case rel => exact ⟨i + 1, _, by go_num, HI6.out⟩
            case measure => simp [intOf]; omega
          · have HS := Lib.hid (HSTILL.out (HEQ4.out h2 h3))
            have b1 : (k % 7 == 0) = false := beq_eq_false_iff_ne.2 h1
            have b0 : ¬ k % 7 = 0 := h1
            have b2 : (c.try_ == 0) = false := beq_eq_false_iff_ne.2 h2
            obtain ⟨q, s, tr, a, bb, d, u, v, z⟩ := c
            dsimp only at *
            simp only [cxCells] at hbox
            have r0 := block_cell hbox 0 _ rfl
            have r1 := block_cell hbox 1 _ rfl
            have r2 := block_cell hbox 2 _ rfl
            have r3 := block_cell hbox 3 _ rfl
            have r4 := block_cell hbox 4 _ rfl
            have r5 := block_cell hbox 5 _ rfl
            have r6 := block_cell hbox 6 _ rfl
            have r7 := block_cell hbox 7 _ rfl
            have r8 := block_cell hbox 8 _ rfl
            clear HC1 HC2 HC3 HEQ1 HEQ2 HEQ3 HEQ4 HSTEP HSTILL hbox o1 o2 o3 o4 o5 HBK
            go_wp2_with fail
            refine (HAR.out _).mono ?_
            rintro e w3 ⟨rfl, rfl⟩
            go_wp2_with fail
            go_roundw
            case rel => exact ⟨i + 1, _, by go_num, HS.out⟩
            case measure => simp [intOf]; omega
    · have hce := hinv.end_ hgo
      subst hce
      have hres := hinv.res
      have hbox := hinv.box
      obtain ⟨W6, hW6, hu, u1⟩ := copy_out c hres hinv.below (Nat.le_refl _)
      obtain ⟨q, s, tr, a, bb, d, u, v, z⟩ := c
      simp only [cxCells, setsFrom, Nat.reduceAdd] at hW6 u1 hbox ⊢
      have HU := Lib.hid hu
      have r0 := block_cell hbox 0 _ rfl
      have r1 := block_cell hbox 1 _ rfl
      have r2 := block_cell hbox 2 _ rfl
      have r3 := block_cell hbox 3 _ rfl
      have r4 := block_cell hbox 4 _ rfl
      have r5 := block_cell hbox 5 _ rfl
      have r6 := block_cell hbox 6 _ rfl
      have r7 := block_cell hbox 7 _ rfl
      have r8 := block_cell hbox 8 _ rfl
      have g0 := block_free hres 0
      have g1 := block_free hres 1
      have g2 := block_free hres 2
      have g3 := block_free hres 3
      have g4 := block_free hres 4
      have g5 := block_free hres 5
      have g6 := block_free hres 6
      have g7 := block_free hres 7
      have g8 := block_free hres 8
      have c0 := block_cell hres 0 _ rfl
      have c1 := block_cell hres 1 _ rfl
      have c2 := block_cell hres 2 _ rfl
      have c3 := block_cell hres 3 _ rfl
      have c4 := block_cell hres 4 _ rfl
      have c5 := block_cell hres 5 _ rfl
      have c6 := block_cell hres 6 _ rfl
      have c7 := block_cell hres 7 _ rfl
      have c8 := block_cell hres 8 _ rfl
      have e0 := block_cell u1 0 _ rfl
      have e1 := block_cell u1 1 _ rfl
      have e2 := block_cell u1 2 _ rfl
      have e3 := block_cell u1 3 _ rfl
      have e4 := block_cell u1 4 _ rfl
      have e5 := block_cell u1 5 _ rfl
      have e6 := block_cell u1 6 _ rfl
      have e7 := block_cell u1 7 _ rfl
      have e8 := block_cell u1 8 _ rfl
      clear hinv hres hbox hu u1 HI
      by_cases h1 : i < t.length
      · have hi6 : i = 7 := by omega
        have t1 : ((i : Int) + 1 < (n : Int)) := by omega
        have t2 : ¬ ((i : Int) + 1 < 8) := by omega
        clear hgo
        go_wp2_with fail
        exact bodyPost_ret (v := .agg #[.int .i64 q, .string s, .int .i64 tr, .bool a, .bool bb, .int .i64 d, .int .i64 u, .int .i64 v, .int .i64 z]) (by simp [results, Tryd.results10, go_sem, e0, e1, e2, e3, e4, e5, e6, e7, e8]) rfl ⟨rfl, HU.out⟩
      · have t1 : ¬ ((i : Int) + 1 < (n : Int)) := by omega
        clear hgo
        go_wp2_with fail
        exact bodyPost_ret (v := .agg #[.int .i64 q, .string s, .int .i64 tr, .bool a, .bool bb, .int .i64 d, .int .i64 u, .int .i64 v, .int .i64 z]) (by simp [results, Tryd.results10, go_sem, e0, e1, e2, e3, e4, e5, e6, e7, e8]) rfl ⟨rfl, HU.out⟩

theorem ctx_any {w : World} {A : Option Addr} {n : Nat} {l : List Int} (h : ArgInts w A n l) (cap : Nat) :
    Calls Tryd.prog 10 #[.slice A n cap] w fun e w' => e = .returned (cxV (ctxOf l)) ∧ Below w.heap.size w w' := by
  cases l with
  | nil =>
    have h0 : n = 0 := by have := h.1; simp at this; omega
    subst h0
    exact ctx_nil w A cap
  | cons x t => exact ctx_cons h cap

end Go.Proofs.YtjollcacgnfabaaDoor
