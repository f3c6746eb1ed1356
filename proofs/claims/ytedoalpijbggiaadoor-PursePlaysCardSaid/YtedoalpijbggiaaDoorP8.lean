/- Acts: a row of acts out of numbers. -/
import Derived.Test.YtedoalpijbggiaaDoorP7
namespace Go.Proofs.YtedoalpijbggiaaDoor
open Go.RowKit
attribute [local go_sem ↓] Go.wp_at_zero Go.wp_at_succ

structure PA where
  do_ : Int
  req : Int
  from_ : ByteArray
  to : ByteArray
  n : Int

/-- An act that is made of numbers. -/
structure PA.Ok (a : PA) : Prop where
  do_ : 0 ≤ a.do_ ∧ a.do_ ≤ 2
  req : ∃ r : Nat, a.req = r ∧ 1 ≤ r ∧ r ≤ 3 ∧ Holder r a.from_
  to : ∃ r : Nat, 1 ≤ r ∧ r ≤ 3 ∧ Holder r a.to
  n : 0 ≤ a.n ∧ a.n ≤ 29
  short : a.from_.size ≤ 7 ∧ a.to.size ≤ 7

def paCells (a : PA) : List Value := [.int .i64 a.do_, .int .i64 a.req, .string a.from_, .string a.to, .int .i64 a.n]
def pasCells (l : List PA) : List Value := l.flatMap paCells
theorem pasCells_length (l : List PA) : (pasCells l).length = l.length * 5 := by
  unfold pasCells
  induction l with
  | nil => rfl
  | cons a l ih => rw [List.flatMap_cons, List.length_append, ih, List.length_cons]; show 5 + _ = _; omega
theorem pasCells_append (l l' : List PA) : pasCells (l ++ l') = pasCells l ++ pasCells l' := by simp [pasCells]
theorem pasCells_one (l : List PA) : ∀ u ∈ pasCells l, u.oneCell' = true := by
  intro u hu
  obtain ⟨a, _, ha⟩ := List.mem_flatMap.1 hu
  simp only [paCells, List.mem_cons, List.not_mem_nil, or_false] at ha
  rcases ha with rfl | rfl | rfl | rfl | rfl <;> rfl
theorem pasCells_get (l : List PA) (k : Nat) (a : PA) (h : l[k]? = some a) (j : Nat) (hj : j < 5) : (pasCells l)[k * 5 + j]? = (paCells a)[j]? := by
  unfold pasCells
  induction l generalizing k with
  | nil => simp at h
  | cons b l ih =>
    cases k with
    | zero =>
      simp at h; subst h
      rw [List.flatMap_cons, List.getElem?_append_left (by show 0 * 5 + j < 5; omega), Nat.zero_mul, Nat.zero_add]
    | succ k =>
      rw [List.flatMap_cons, List.getElem?_append_right (by show 5 ≤ _; omega), show (paCells b).length = 5 from rfl, show (k + 1) * 5 + j - 5 = k * 5 + j by omega]
      exact ih k (by simpa using h)
theorem infoPA : (Tryd.prog.info? 24).map (fun i => (i.zero, i.size, i.bytes)) = some (some (.agg #[.int .i64 0, .int .i64 0, .string ⟨#[]⟩, .string ⟨#[]⟩, .int .i64 0]), 5, 56) := by kernel_rfl

/-- A row of acts. -/
structure PAs (w0 wr : World) (A : List PA) (v : Value) : Prop where
  row : ∃ sb, RowAt wr 24 5 v A.length (pasCells A) sb ∧ ∀ g, sb = some g → w0.heap.size ≤ g
  below : Below w0.heap.size w0 wr

theorem box5 {w : World} {vb : Nat} {a : PA} {T : TypeId} (hv : w.heap[vb]? = some (.cells (paCells a).toArray T (0, 0))) :
    ∀ j u, (pasCells [a])[j]? = some u → w.cell? ((⟨vb, 0, none⟩ : Addr).add j) = some u := by
  intro j u hj
  rw [Addr.add_lit, Nat.zero_add, cell_of_row w vb j _ _ _ hv]
  have : pasCells [a] = paCells a := by simp [pasCells]
  rw [this] at hj
  rw [← hj]; simp

theorem pa_push {w0 wr W : World} {A : List PA} {la : Option Addr} {lc : Nat} {k : Nat} (hk : k = A.length) (h : PAs w0 wr A (.slice la k lc)) (hl : A.length ≤ 100) (hb : Below wr.heap.size wr W) {z : Nat} (hz : W.heap.size = z) (d r : Int) (s t : ByteArray) (n : Int) :
    ∃ la2 lc2 w2, (Builtin.append_ #[32, 32] 32 #[.slice la k lc, .slice (some ⟨z, 0, none⟩) 1 1]).run Tryd.prog (W.alloc (.cells #[.int .i64 d, .int .i64 r, .string s, .string t, .int .i64 n] 24)) = .ok (.slice la2 (k + 1) lc2) w2 ∧ PAs w0 w2 (A ++ [⟨d, r, s, t, n⟩]) (.slice la2 (k + 1) lc2) := by
  subst hz hk
  obtain ⟨⟨sb, hrow, hsb⟩, hbel⟩ := h
  have hb1 : Below wr.heap.size wr (W.alloc (.cells (paCells ⟨d, r, s, t, n⟩).toArray 24)) := hb.alloc hb.size _
  have hn1 := heap_alloc_new W (.cells (paCells ⟨d, r, s, t, n⟩).toArray 24)
  obtain ⟨la2, lc2, sb2, w2, hrun, hrow2, hg2, hsb2, _⟩ := row_append (P := Tryd.prog) (W.alloc (.cells (paCells ⟨d, r, s, t, n⟩).toArray 24)) 32 32 24 _ 5 56 Tryd.underlying32 infoPA rfl (hrow.keep hb1) ⟨W.heap.size, 0, none⟩ 1 1 (pasCells [⟨d, r, s, t, n⟩]) (by rw [pasCells_length]; rfl) (box5 hn1) (pasCells_one _) (by omega) (by omega) (by omega)
  refine ⟨la2, lc2, w2, hrun, ⟨sb2, ?_, fun g hg => ?_⟩, ?_⟩
  · rw [pasCells_append, List.length_append]; exact hrow2
  · rcases hsb2 with e' | e'
    · exact hsb g (e'.symm.trans hg)
    · rw [hg] at e'; cases e'
      have := hbel.size
      have := hb1.size
      omega
  · have h0 := btrans hbel hb1
    have h1 := h0.size
    have hg : Fr (fun x => sb = some x) (W.alloc (.cells (paCells ⟨d, r, s, t, n⟩).toArray 24)) w2 := Fr.ofGrown (F := fun x => sb = some x) hg2 (fun x hx => hx)
    refine ((Fr.ofBelow (F := fun x => sb = some x) h0).trans hg (fun _ h => .inl h)).toBelow (fun x hx e' => ?_)
    have := hsb x e'
    omega

def ActsPost (w : World) (N : Nat) (e : Ending) (w' : World) : Prop := ∃ A v, e = .returned v ∧ PAs w w' A v ∧ A.length = N ∧ ∀ a ∈ A, a.Ok

theorem oks_push {A : List PA} (h : ∀ a ∈ A, a.Ok) {x : PA} (hx : x.Ok) : ∀ a ∈ A ++ [x], a.Ok := fun a ha => by
  rcases List.mem_append.1 ha with h' | h'
  · exact h a h'
  · rw [List.mem_singleton.1 h']; exact hx

set_option maxRecDepth 8000 in
set_option maxHeartbeats 8000000 in
theorem acts_any {w : World} {A : Option Addr} {n : Nat} {l : List Int} (h : ArgInts w A n l) (cap : Nat) :
    Calls Tryd.prog 13 #[.slice A n cap] w (ActsPost w (min n 20)) := by
  obtain ⟨h0, h1, h2, h3⟩ := h
  have HL := Lib.hid h3
  have HBD := Lib.hid h2
  have H0 := Lib.hid h0
  clear h0 h2 h3
  go_enter Tryd.func13, Tryd.ntmps13
  go_wp2_with fail
  go_loopw [3, 4] (fun vo vi wr => ∃ (k : Nat) (L : List PA), vi = .int .i64 k ∧ k ≤ min n 20 ∧ Hid (k = L.length ∧ (∀ a ∈ L, a.Ok)) ∧ (∃ la lc, vo = .slice la k lc) ∧ PAs w wr L vo) (fun _ vi _ => (20 - intOf vi).toNat)
  case atStart => exact ⟨0, [], rfl, Nat.zero_le _, ⟨rfl, by simp⟩, ⟨_, _, rfl⟩, ⟨⟨none, RowAt.nil _ _ _, fun g hg => by cases hg⟩, Below.refl _ _⟩⟩
  case round =>
    obtain ⟨k, L, rfl, hk, hok, ⟨la, lc, rfl⟩, hinv⟩ := hrel
    have HI := Lib.hid hinv
    clear hinv
    by_cases hlt : k < n ∧ k < 20
    · obtain ⟨l1, l2⟩ := hlt
      have t1 : decide ((k : Int) < (n : Int)) = true := decide_eq_true (by omega)
      have t2 : decide ((k : Int) < 20) = true := decide_eq_true (by omega)
      obtain ⟨b, off, rfl, hc⟩ := HL.out.resolve_left (by omega)
      have c0 := bkeep HI.out.below (hc k (by rw [H0.out]; omega))
      have hbd := HBD.out (l[k]'(by rw [H0.out]; omega)) (List.getElem_mem _)
      obtain ⟨y, hy⟩ : ∃ y, y = l[k]'(by rw [H0.out]; omega) := ⟨_, rfl⟩
      rw [← hy] at c0 hbd
      obtain ⟨x, hx⟩ : ∃ x, x = around y 1000000 := ⟨_, rfl⟩
      obtain ⟨x0, x1⟩ := around_bd y (m := 1000000) (by omega)
      have HA := Lib.hid (around_any y 1000000 wr hbd.1 hbd.2 (by omega) (by omega))
      rw [← hx] at x0 x1 HA
      have g1 : x.tdiv 8 = x / 8 := Int.tdiv_eq_ediv_of_nonneg x0
      have g2 : (x / 8).tmod 3 = x / 8 % 3 := Int.tmod_eq_emod_of_nonneg (by omega)
      have g3 : x.tdiv 24 = x / 24 := Int.tdiv_eq_ediv_of_nonneg x0
      have g4 : (x / 24).tmod 9 = x / 24 % 9 := Int.tmod_eq_emod_of_nonneg (by omega)
      have g5 : x.tdiv 216 = x / 216 := Int.tdiv_eq_ediv_of_nonneg x0
      have g6 : x.tdiv 2160 = x / 2160 := Int.tdiv_eq_ediv_of_nonneg x0
      have g7 : x.tmod 8 = x % 8 := Int.tmod_eq_emod_of_nonneg x0
      have g8 : (x / 24).tmod 30 = x / 24 % 30 := Int.tmod_eq_emod_of_nonneg (by omega)
      have g9 : x.tdiv 21600 = x / 21600 := Int.tdiv_eq_ediv_of_nonneg x0
      have g10 : (x / 21600).tmod 9 = x / 21600 % 9 := Int.tmod_eq_emod_of_nonneg (by omega)
      obtain ⟨r, hr⟩ : ∃ r : Nat, (r : Int) = 1 + x / 8 % 3 := ⟨(1 + x / 8 % 3).toNat, by omega⟩
      have hr1 : 1 ≤ r ∧ r ≤ 3 := by omega
      have g11 : IntKind.i64.wrap (1 + x / 8 % 3) = (r : Int) := by rw [IntWalk.i64_in _ (by omega), hr]
      have w1 : IntKind.i64.wrap (x / 8) = x / 8 := IntWalk.i64_in _ (by omega)
      have w2 : IntKind.i64.wrap (x / 24) = x / 24 := IntWalk.i64_in _ (by omega)
      have w3 : IntKind.i64.wrap (x / 216) = x / 216 := IntWalk.i64_in _ (by omega)
      have w4 : IntKind.i64.wrap (x / 2160) = x / 2160 := IntWalk.i64_in _ (by omega)
      have w5 : IntKind.i64.wrap (x / 21600) = x / 21600 := IntWalk.i64_in _ (by omega)
      have g12 : (r : Int).tmod 3 = (r : Int) % 3 := Int.tmod_eq_emod_of_nonneg (by omega)
      obtain ⟨r2, hr2⟩ : ∃ r2 : Nat, (r2 : Int) = 1 + (r : Int) % 3 := ⟨1 + r % 3, by omega⟩
      have hr3 : 1 ≤ r2 ∧ r2 ≤ 3 := by omega
      have g13 : IntKind.i64.wrap (1 + (r : Int) % 3) = (r2 : Int) := by rw [IntWalk.i64_in _ (by omega), hr2]
      clear hr2
      clear hy hx hr
      go_wp2_with fail
      refine HA.out.mono ?_
      rintro e w' ⟨rfl, rfl⟩
      obtain ⟨q, hq⟩ : ∃ q, q = x / 24 % 9 := ⟨_, rfl⟩
      rw [← hq] at g4
      obtain ⟨q0, q1⟩ : 0 ≤ q ∧ q ≤ 8 := by omega
      clear hq
      have hN0 : wr.heap.size < (wr.alloc (.cells #[.int .i64 0, .int .i64 r, .string ⟨#[]⟩, .string ⟨#[]⟩, .int .i64 q] 24)).heap.size := by simp
      have hbx0 := heap_alloc_new wr (.cells #[.int .i64 0, .int .i64 r, .string ⟨#[]⟩, .string ⟨#[]⟩, .int .i64 q] 24)
      have hb0 := (Below.refl wr.heap.size wr).alloc (Nat.le_refl _) (.cells #[.int .i64 0, .int .i64 r, .string ⟨#[]⟩, .string ⟨#[]⟩, .int .i64 q] 24)
      obtain ⟨s, hs⟩ : ∃ s, s = nameOf r (x / 216) := ⟨_, rfl⟩
      obtain ⟨t, ht⟩ : ∃ t, t = nameOf r (x / 2160) := ⟨_, rfl⟩
      obtain ⟨u, hu⟩ : ∃ u, u = nameOf r2 (x / 2160) := ⟨_, rfl⟩
      have HS := Lib.hid (nameOf_holder r (by omega) (by omega) (x / 216))
      have HT := Lib.hid (nameOf_holder r (by omega) (by omega) (x / 2160))
      have HU := Lib.hid (nameOf_holder r2 (by omega) (by omega) (x / 2160))
      have HNS := Lib.hid (fun w => name_any r (by omega) (x / 216) w (by omega))
      have HNT := Lib.hid (fun w => name_any r (by omega) (x / 2160) w (by omega))
      have HNU := Lib.hid (fun w => name_any r2 (by omega) (x / 2160) w (by omega))
      rw [← hs] at HS HNS
      rw [← ht] at HT HNT
      rw [← hu] at HU HNU
      clear hs ht hu
      go_wp2_with fail
      refine (HNS.out _).mono ?_
      rintro e w1 ⟨rfl, h1⟩
      have hbx1 := (h1.block wr.heap.size hN0).trans hbx0
      have hb1 := hb0.trans (h1.mono (Nat.le_of_lt hN0))
      have k11 := block_cell hbx1 1 _ rfl
      have k12 := block_cell hbx1 2 _ rfl
      have kf2 := block_free hbx1 2
      have hbx2 := setCell_block w1 wr.heap.size 2 _ _ _ (.string s) hbx1
      have hb2 := hb1.setCell (p := ⟨wr.heap.size, 2, none⟩) (Nat.le_refl _) (.string s)
      have hN2 : wr.heap.size < (w1.setCell ⟨wr.heap.size, 2, none⟩ (.string s)).heap.size := by have := h1.size; simp [World.setCell]; omega
      clear hbx0 hb0 h1 hbx1 hb1
      go_wp2_with fail
      refine (HNT.out _).mono ?_
      rintro e w2 ⟨rfl, h2⟩
      have hbx3 := (h2.block wr.heap.size hN2).trans hbx2
      have hb3 := hb2.trans (h2.mono (Nat.le_of_lt hN2))
      simp only [List.setIfInBounds_toArray, List.set_cons_zero, List.set_cons_succ] at hbx3
      have k21 := block_cell hbx3 1 (.int .i64 r) rfl
      have k23 := block_cell hbx3 3 (.string ⟨#[]⟩) rfl
      have kf3 := block_free hbx3 3
      have hbx4 := setCell_block w2 wr.heap.size 3 _ _ _ (.string t) hbx3
      have hb4 := hb3.setCell (p := ⟨wr.heap.size, 3, none⟩) (Nat.le_refl _) (.string t)
      simp only [List.setIfInBounds_toArray, List.set_cons_zero, List.set_cons_succ] at hbx4
      obtain ⟨W, hW⟩ : ∃ W, w2.setCell ⟨wr.heap.size, 3, none⟩ (.string t) = W := ⟨_, rfl⟩
      rw [hW] at hbx4 hb4
      have hWz : wr.heap.size < W.heap.size := (Array.getElem?_eq_some_iff.1 hbx4).1
      obtain ⟨z, hz⟩ : ∃ z, z = x % 8 := ⟨_, rfl⟩
      rw [← hz] at g7
      have hz8 : 0 ≤ z ∧ z < 8 := by omega
      have k0 := block_cell hbx4 0 _ rfl
      have k1 := block_cell hbx4 1 _ rfl
      have k2 := block_cell hbx4 2 _ rfl
      have k3 := block_cell hbx4 3 _ rfl
      have k4 := block_cell hbx4 4 _ rfl
      have f0 := block_free hbx4 0
      have f1 := block_free hbx4 1
      have f2 := block_free hbx4 2
      have f3 := block_free hbx4 3
      have f4 := block_free hbx4 4
      clear hbx2 hb2 h2 hbx3 hb3 k11 k12 kf2 hN0 hN2 hz
      have hzc : z = 0 ∨ z = 1 ∨ z = 2 ∨ z = 3 ∨ z = 4 ∨ z = 5 ∨ z = 6 ∨ z = 7 := by omega
      rcases hzc with rfl | rfl | rfl | rfl | rfl | rfl | rfl | rfl
      iterate 2
        · -- Mint
          obtain ⟨p, hp⟩ : ∃ p, p = x / 24 % 30 := ⟨_, rfl⟩
          rw [← hp] at g8
          obtain ⟨p0, p1⟩ : 0 ≤ p ∧ p ≤ 29 := by omega
          have hbx5 := setCell_block W wr.heap.size 4 _ _ _ (.int .i64 p) hbx4
          simp only [List.setIfInBounds_toArray, List.set_cons_zero, List.set_cons_succ] at hbx5
          have hb5 := hb4.setCell (p := ⟨wr.heap.size, 4, none⟩) (Nat.le_refl _) (.int .i64 p)
          have same := block_cell hbx5 4 (.int .i64 p) rfl
          obtain ⟨la2, lc2, w5, happ, hinv⟩ := pa_push hok.out.1 HI.out (by have := hok.out.1; omega) hb5 (z := W.heap.size) (by simp [World.setCell]) 0 r s t p
          have HINV := Lib.hid hinv
          have HOK : Hid (k + 1 = (L ++ [(⟨0, r, s, t, p⟩ : PA)]).length ∧ ∀ a ∈ L ++ [(⟨0, r, s, t, p⟩ : PA)], a.Ok) := ⟨by rw [List.length_append, ← hok.out.1]; rfl, oks_push hok.out.2 ⟨(show (0 : Int) ≤ 0 ∧ (0 : Int) ≤ 2 by decide), ⟨r, rfl, hr1.1, hr1.2, HS.out.1⟩, ⟨r, hr1.1, hr1.2, HT.out.1⟩, ⟨p0, p1⟩, HS.out.2, HT.out.2⟩⟩
          clear hp hbx5 hb5 hinv hb4 hbx4 hWz
          go_wp2_with (at_builtin; refine wpList_run (by rfl) (exec_append _ _ _ _ (by rfl) _ _ (by rfl) (by rfl) happ) ?_)
          go_roundw
          case rel => exact ⟨k + 1, _, by go_num, by omega, HOK, ⟨_, _, rfl⟩, HINV.out⟩
          case measure => simp [intOf]; omega
      iterate 4
        · -- Move
          have hbx5 := setCell_block W wr.heap.size 0 _ _ _ (.int .i64 1) hbx4
          simp only [List.setIfInBounds_toArray, List.set_cons_zero] at hbx5
          have hb5 := hb4.setCell (p := ⟨wr.heap.size, 0, none⟩) (Nat.le_refl _) (.int .i64 1)
          have same := block_cell hbx5 0 (.int .i64 1) rfl
          by_cases h9 : x / 21600 % 9 = 0
          · have h9b : (x / 21600 % 9 == 0) = true := by rw [h9]; rfl
            have hN5 : wr.heap.size < (W.setCell ⟨wr.heap.size, 0, none⟩ (.int .i64 1)).heap.size := by simp [World.setCell]; exact hWz
            clear h9 hbx4 hb4
            go_wp2_with fail
            refine (HNU.out _).mono ?_
            rintro e w6 ⟨rfl, h6⟩
            have hbx6 := (h6.block wr.heap.size hN5).trans hbx5
            have hb6 := hb5.trans (h6.mono (Nat.le_of_lt hN5))
            have m3 := block_cell hbx6 3 (.string t) rfl
            have mf3 := block_free hbx6 3
            have hbx7 := setCell_block w6 wr.heap.size 3 _ _ _ (.string u) hbx6
            have hb7 := hb6.setCell (p := ⟨wr.heap.size, 3, none⟩) (Nat.le_refl _) (.string u)
            simp only [List.setIfInBounds_toArray, List.set_cons_zero, List.set_cons_succ] at hbx7
            have n0 := block_cell hbx6 0 _ rfl
            have n1 := block_cell hbx6 1 _ rfl
            have n2 := block_cell hbx6 2 _ rfl
            have n4 := block_cell hbx6 4 _ rfl
            have n3 := block_cell hbx7 3 (.string u) rfl
            obtain ⟨la2, lc2, w8, happ, hinv⟩ := pa_push hok.out.1 HI.out (by have := hok.out.1; omega) hb7 (z := w6.heap.size) (by simp [World.setCell]) 1 r s u q
            have HINV := Lib.hid hinv
            have HOK : Hid (k + 1 = (L ++ [(⟨1, r, s, u, q⟩ : PA)]).length ∧ ∀ a ∈ L ++ [(⟨1, r, s, u, q⟩ : PA)], a.Ok) := ⟨by rw [List.length_append, ← hok.out.1]; rfl, oks_push hok.out.2 ⟨(show (0 : Int) ≤ 1 ∧ (1 : Int) ≤ 2 by decide), ⟨r, rfl, hr1.1, hr1.2, HS.out.1⟩, ⟨r2, hr3.1, hr3.2, HU.out.1⟩, ⟨q0, Int.le_trans q1 (by decide)⟩, HS.out.2, HU.out.2⟩⟩
            clear hbx5 hb5 hinv hWz h6 hbx6 hb6 hbx7 hb7
            go_wp2_with (at_builtin; refine wpList_run (by rfl) (exec_append _ _ _ _ (by rfl) _ _ (by rfl) (by rfl) happ) ?_)
            go_roundw
            case rel => exact ⟨k + 1, _, by go_num, by omega, HOK, ⟨_, _, rfl⟩, HINV.out⟩
            case measure => simp [intOf]; omega
          · have h9b : (x / 21600 % 9 == 0) = false := beq_eq_false_iff_ne.2 h9
            obtain ⟨la2, lc2, w8, happ, hinv⟩ := pa_push hok.out.1 HI.out (by have := hok.out.1; omega) hb5 (z := W.heap.size) (by simp [World.setCell]) 1 r s t q
            have HINV := Lib.hid hinv
            have HOK : Hid (k + 1 = (L ++ [(⟨1, r, s, t, q⟩ : PA)]).length ∧ ∀ a ∈ L ++ [(⟨1, r, s, t, q⟩ : PA)], a.Ok) := ⟨by rw [List.length_append, ← hok.out.1]; rfl, oks_push hok.out.2 ⟨(show (0 : Int) ≤ 1 ∧ (1 : Int) ≤ 2 by decide), ⟨r, rfl, hr1.1, hr1.2, HS.out.1⟩, ⟨r, hr1.1, hr1.2, HT.out.1⟩, ⟨q0, Int.le_trans q1 (by decide)⟩, HS.out.2, HT.out.2⟩⟩
            clear h9 hbx5 hb5 hinv hb4 hbx4 hWz
            go_wp2_with (at_builtin; refine wpList_run (by rfl) (exec_append _ _ _ _ (by rfl) _ _ (by rfl) (by rfl) happ) ?_)
            go_roundw
            case rel => exact ⟨k + 1, _, by go_num, by omega, HOK, ⟨_, _, rfl⟩, HINV.out⟩
            case measure => simp [intOf]; omega
      iterate 2
        · -- Spend
          have hbx5 := setCell_block W wr.heap.size 0 _ _ _ (.int .i64 2) hbx4
          simp only [List.setIfInBounds_toArray, List.set_cons_zero] at hbx5
          have hb5 := hb4.setCell (p := ⟨wr.heap.size, 0, none⟩) (Nat.le_refl _) (.int .i64 2)
          have same := block_cell hbx5 0 (.int .i64 2) rfl
          obtain ⟨la2, lc2, w8, happ, hinv⟩ := pa_push hok.out.1 HI.out (by have := hok.out.1; omega) hb5 (z := W.heap.size) (by simp [World.setCell]) 2 r s t q
          have HINV := Lib.hid hinv
          have HOK : Hid (k + 1 = (L ++ [(⟨2, r, s, t, q⟩ : PA)]).length ∧ ∀ a ∈ L ++ [(⟨2, r, s, t, q⟩ : PA)], a.Ok) := ⟨by rw [List.length_append, ← hok.out.1]; rfl, oks_push hok.out.2 ⟨(show (0 : Int) ≤ 2 ∧ (2 : Int) ≤ 2 by decide), ⟨r, rfl, hr1.1, hr1.2, HS.out.1⟩, ⟨r, hr1.1, hr1.2, HT.out.1⟩, ⟨q0, Int.le_trans q1 (by decide)⟩, HS.out.2, HT.out.2⟩⟩
          clear hbx5 hb5 hinv hb4 hbx4 hWz
          go_wp2_with (at_builtin; refine wpList_run (by rfl) (exec_append _ _ _ _ (by rfl) _ _ (by rfl) (by rfl) happ) ?_)
          go_roundw
          case rel => exact ⟨k + 1, _, by go_num, by omega, HOK, ⟨_, _, rfl⟩, HINV.out⟩
          case measure => simp [intOf]; omega
    · have HFIN : Hid (ActsPost w (min n 20) (.returned (.slice la k lc)) wr) := by
        obtain ⟨e1, e2⟩ := hok.out
        exact ⟨L, _, rfl, HI.out, by omega, e2⟩
      by_cases hkn : k < n
      · have t1 : decide ((k : Int) < (n : Int)) = true := decide_eq_true (by omega)
        have t2 : decide ((k : Int) < 20) = false := decide_eq_false (by omega)
        go_wp2_with fail
        go_ret
        exact HFIN.out
      · have t1 : decide ((k : Int) < (n : Int)) = false := decide_eq_false (by omega)
        go_wp2_with fail
        go_ret
        exact HFIN.out

end Go.Proofs.YtedoalpijbggiaaDoor
