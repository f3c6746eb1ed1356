/- PursePlays: the walk (printed by wip/tools/genr10.py). -/
import Derived.Test.YtedoalpijbggiaaDoorR9
namespace Go.Proofs.YtedoalpijbggiaaDoor
open Go.RowKit Go.Lib
attribute [local go_sem ↓] Go.wp_at_zero Go.wp_at_succ

def actK : Kd Tryd.prog PA where
  f := paCells
  s := 5
  bytes := 56
  T := 24
  T' := 32
  z := .agg #[.int .i64 0, .int .i64 0, .string ⟨#[]⟩, .string ⟨#[]⟩, .int .i64 0]
  len := fun _ => rfl
  one := fun a u hu => by
    simp only [paCells, List.mem_cons, List.not_mem_nil, or_false] at hu
    rcases hu with rfl | rfl | rfl | rfl | rfl <;> rfl
  zs := rfl
  small := by decide
  under := Tryd.underlying32
  info := infoPA
theorem set023 {W : World} {b : Nat} {x0 x1 x2 x3 x4 : Value} {T : TypeId} (h : W.heap[b]? = some (.cells #[x0, x1, x2, x3, x4] T (0, 0))) (u0 u2 u3 : Value) :
    ∃ W', ((W.setCell ⟨b, 0, none⟩ u0).setCell ⟨b, 2, none⟩ u2).setCell ⟨b, 3, none⟩ u3 = W' ∧ W'.heap[b]? = some (.cells #[u0, x1, u2, u3, x4] T (0, 0)) ∧ Fr (fun k => k = b) W W' := by
  refine ⟨_, rfl, ?_, ?_⟩
  · exact setCell_block _ b 3 _ _ _ u3 (setCell_block _ b 2 _ _ _ u2 (setCell_block W b 0 _ _ _ u0 h))
  · exact ((Fr.setCell (fun k => k = b) W ⟨b, 0, none⟩ u0 rfl).trans (Fr.setCell (fun k => k = b) _ ⟨b, 2, none⟩ u2 rfl) (fun k hk => .inl hk)).trans (Fr.setCell (fun k => k = b) _ ⟨b, 3, none⟩ u3 rfl) (fun k hk => .inl hk)
/-- The acts: those of numbers, and one more. -/
def ActsX (W6 : World) (y : PA) (N : Nat) (v : Value) (wx : World) : Prop := ∃ A, actK.New W6 wx v (A ++ [y]) ∧ A.length = N ∧ (∀ a ∈ A, a.Ok) ∧ ∃ la lc, v = .slice la (A ++ [y]).length lc

def PlayS (w wr : World) (gb lb sb rb : Nat) (A : List PA) (va : Value) (i : Nat) : Prop := ∃ L R v1 v2 v3, PlF R L i ∧ PlI w wr gb lb sb rb A va v1 v2 v3 L R
theorem PlI.cells {w wr : World} {gb lb sb rb m lc : Nat} {A : List PA} {la : Option Addr} {v1 v2 v3 : Value} {L : Led} {R : RL} (h : PlI w wr gb lb sb rb A (.slice la m lc) v1 v2 v3 L R) {i : Nat} {a : PA} (ha : A[i]? = some a) :
    ∃ g off, la = some ⟨g, off, none⟩ ∧ ∀ W, Below wr.heap.size wr W → W.cell? ⟨g, off + i * 5, none⟩ = some (.int .i64 a.do_) ∧ W.cell? ⟨g, off + i * 5 + 1, none⟩ = some (.int .i64 a.req) ∧ W.cell? ⟨g, off + i * 5 + 2, none⟩ = some (.string a.from_) ∧ W.cell? ⟨g, off + i * 5 + 3, none⟩ = some (.string a.to) ∧ W.cell? ⟨g, off + i * 5 + 4, none⟩ = some (.int .i64 a.n) := by
  obtain ⟨ab, hr⟩ := h.acts
  have hK : actK.At wr (.slice la m lc) A ab := hr
  obtain ⟨g, off, lc', e1, e2, hcl⟩ := hK.cells (by have := (List.getElem?_eq_some_iff.1 ha).1; omega)
  injection e1 with e1 _ _
  refine ⟨g, off, e1, fun W hb => ?_⟩
  have hq := hcl W (hb.block g (hK.lt g e2)) i a ha
  exact ⟨hq 0 _ rfl, hq 1 _ rfl, hq 2 _ rfl, hq 3 _ rfl, hq 4 _ rfl⟩
/-- What Do leaves, in a box. -/
def DoneS (wr : World) (R' : RL) (er : Int) (v11 v12 : Value) (wx : World) : Prop := ∃ B a1 c1 a2 c2 a3 c3 n1 n2 n3, v11 = .pointer (some ⟨B, 0, none⟩) ∧ v12 = .int .i64 er ∧ Below wr.heap.size wr wx ∧ wx.heap[B]? = some (LC (.slice a1 n1 c1) (.slice a2 n2 c2) (.slice a3 n3 c3)) ∧ RLAt wx (.slice a1 n1 c1) (.slice a2 n2 c2) (.slice a3 n3 c3) R'

set_option maxRecDepth 8000 in
set_option maxHeartbeats 16000000 in
theorem plays_walk {w : World} (hE : Env w) {A : Option Addr} {k : Nat} {l : List Int} (hA : ArgInts w A k l) (cap : Nat) (x : PA) (hxn : -9223372036854775808 ≤ x.n ∧ x.n ≤ 9223372036854775807) (hxr : -9223372036854775808 ≤ x.req ∧ x.req ≤ 9223372036854775807) (hd : -9223372036854775808 ≤ x.do_ ∧ x.do_ ≤ 9223372036854775807) (s : ByteArray) :
    Calls Tryd.prog 3 #[.slice A k cap, .agg #[.int .i64 x.do_, .int .i64 x.req, .string x.from_, .string x.to, .int .i64 x.n], .string s] w fun e w' => e = .returned (.bool true) ∧ Below w.heap.size w w' := by
  have HE := Lib.hid hE
  have HAR := Lib.hid (fun w => around_any x.do_ 3 w hd.1 hd.2 (by decide) (by decide))
  obtain ⟨d, hd'⟩ : ∃ d, d = around x.do_ 3 := ⟨_, rfl⟩
  have HSP := Lib.hid (fun w => short_any x.from_ 12 (by decide) w)
  have HSQ := Lib.hid (fun w => short_any x.to 12 (by decide) w)
  have HSS := Lib.hid (fun w => short_any s 12 (by decide) w)
  obtain ⟨p, hp⟩ : ∃ p, p = shortOf x.from_ 12 := ⟨_, rfl⟩
  obtain ⟨q, hq⟩ : ∃ q, q = shortOf x.to 12 := ⟨_, rfl⟩
  obtain ⟨s3, hs3⟩ : ∃ t, t = shortOf s 12 := ⟨_, rfl⟩
  have hpz := shortOf_size x.from_ 12
  have hqz := shortOf_size x.to 12
  rw [← hp] at hpz HSP
  rw [← hq] at hqz HSQ
  rw [← hs3] at HSS
  rw [← hd'] at HAR
  have HY : Hid (PA.Any ⟨d, x.req, p, q, x.n⟩) := ⟨hxn, hxr, by show p.size ≤ _; omega, by show q.size ≤ _; omega⟩
  obtain ⟨y, hy⟩ : ∃ y : PA, y = ⟨d, x.req, p, q, x.n⟩ := ⟨_, rfl⟩
  rw [← hy] at HY
  have HYE := Lib.hid hy
  have HA := Lib.hid hA
  obtain ⟨b, hbq⟩ : ∃ b, b = w.heap.size := ⟨_, rfl⟩
  obtain ⟨W1, hW1⟩ : ∃ W1, W1 = w.alloc (.cells #[.int .i64 x.do_, .int .i64 x.req, .string x.from_, .string x.to, .int .i64 x.n] 24) := ⟨_, rfl⟩
  have e1 : Below w.heap.size w W1 := by rw [hW1]; exact (Below.refl _ _).alloc (Nat.le_refl _) _
  have z1 : W1.heap[b]? = some (.cells #[.int .i64 x.do_, .int .i64 x.req, .string x.from_, .string x.to, .int .i64 x.n] 24 (0, 0)) := by rw [hW1, hbq]; exact heap_alloc_new w _
  have s1 : W1.heap.size = b + 1 := by rw [hW1, hbq]; simp
  have HB1 := Lib.hid e1
  have HZ1 := Lib.hid z1
  have HS1 := Lib.hid s1
  have HWB : Hid (w.heap.size = b) := hbq.symm
  clear hE hA hxn hxr hd hd' hp hq hs3 hpz hqz hy e1 z1 s1
  go_enter Tryd.func3, Tryd.ntmps3
  go_upto_region 1 with fail
  simp only [← hbq]
  rw [← hW1]
  clear hW1 hbq
  go_wp2_with fail
  refine (new_any W1).mono ?_
  rintro e w2 ⟨gb, lb, sb, rfl, hled, hft, b2⟩
  have HLED := Lib.hid hled
  have HFT := Lib.hid hft
  have HB2 := Lib.hid b2
  clear hled hft b2
  go_upto_region 3 with fail
  obtain ⟨rb, hrb⟩ : ∃ rb, rb = w2.heap.size := ⟨_, rfl⟩
  obtain ⟨W3, hW3⟩ : ∃ W3, W3 = w2.alloc (.cells #[.slice none 0 0, .slice none 0 0, .slice none 0 0] 29) := ⟨_, rfl⟩
  have e3 : Below w2.heap.size w2 W3 := by rw [hW3]; exact (Below.refl _ _).alloc (Nat.le_refl _) _
  have z3 : W3.heap[rb]? = some (.cells #[.slice none 0 0, .slice none 0 0, .slice none 0 0] 29 (0, 0)) := by rw [hW3, hrb]; exact heap_alloc_new w2 _
  have s3z : W3.heap.size = rb + 1 := by rw [hW3, hrb]; simp
  simp only [← hrb]
  rw [← hW3]
  have z13 := ((btrans HB2.out e3).block b (by have := HS1.out; omega)).trans HZ1.out
  have HB3 := Lib.hid e3
  have HRB := Lib.hid hrb
  have HZ3 := Lib.hid z3
  have HS3 := Lib.hid s3z
  have c0 := block_cell z13 0 _ rfl
  have c1 := block_cell z13 1 _ rfl
  have c2 := block_cell z13 2 _ rfl
  have c3 := block_cell z13 3 _ rfl
  have c4 := block_cell z13 4 _ rfl
  have f0 := block_free z13 0
  have f1 := block_free z13 1
  have f2 := block_free z13 2
  have f3 := block_free z13 3
  have f4 := block_free z13 4
  obtain ⟨W6, hW6, y6, f6⟩ := set023 z13 (.int .i64 d) (.string p) (.string q)
  have HY6 := Lib.hid y6
  have HF6 := Lib.hid f6
  clear hW3 hrb e3 z3 s3z z13 y6 f6
  go_wp2_with fail
  refine (HAR.out _).mono ?_
  rintro e wq ⟨rfl, hwq⟩
  rw [← hwq]
  clear hwq wq
  go_wp2_with fail
  refine (HSP.out _).mono ?_
  rintro e wq ⟨rfl, hwq⟩
  rw [hwq]
  clear hwq wq
  go_wp2_with fail
  refine (HSQ.out _).mono ?_
  rintro e wq ⟨rfl, hwq⟩
  rw [hwq]
  clear hwq wq
  go_wp2_with fail
  clear c0 c1 c2 c3 c4 f0 f1 f2 f3 f4 hW6
  have hb6 : Below w.heap.size w W6 := HF6.out.behind (btrans HB1.out (btrans HB2.out HB3.out)) (by have := HWB.out; omega)
  have HB6 := Lib.hid hb6
  have hA6 := HA.out.keep hb6
  have HAC := Lib.hid (fun W (hb : Below W6.heap.size W6 W) => acts_any (hA6.keep hb) cap)
  have y6 := HY6.out
  clear hb6 hA6
  go_cut [9] from 35 to 40 (fun v wx => ActsX W6 y (min k 20) v wx)
  case first =>
    have HYC : Hid (∀ W, Below W6.heap.size W6 W → (W.cell? ⟨b, 0, none⟩ = some (.int .i64 d) ∧ W.cell? ⟨b, 1, none⟩ = some (.int .i64 x.req) ∧ W.cell? ⟨b, 2, none⟩ = some (.string p) ∧ W.cell? ⟨b, 3, none⟩ = some (.string q) ∧ W.cell? ⟨b, 4, none⟩ = some (.int .i64 x.n))) := fun W hb => by
      have hy := (hb.block b (Array.getElem?_eq_some_iff.1 HY6.out).1).trans HY6.out
      exact ⟨block_cell hy 0 _ rfl, block_cell hy 1 _ rfl, block_cell hy 2 _ rfl, block_cell hy 3 _ rfl, block_cell hy 4 _ rfl⟩
    refine wp_region_split_held 4 (fun W => W.cell? ⟨b, 0, none⟩ = some (.int .i64 d) ∧ W.cell? ⟨b, 1, none⟩ = some (.int .i64 x.req) ∧ W.cell? ⟨b, 2, none⟩ = some (.string p) ∧ W.cell? ⟨b, 3, none⟩ = some (.string q) ∧ W.cell? ⟨b, 4, none⟩ = some (.int .i64 x.n)) (by kernel_rfl) (by kernel_rfl) (HYC.out W6.drew (Below.refl _ _).drew) (fun K0 hK0 hHeld => ?_)
    simp only [List.take_succ_cons, List.take_zero]
    clear y6
    refine wpAnyH_take (i := 0) (v := ?_) rfl (by kernel_rfl) (by kernel_rfl) (by kernel_rfl) (fun _ _ _ h => h) (Or.inl ⟨by kernel_rfl, ?_⟩) (by assumption) ?_
    rotate_left
    · (intro w hSw; (try dsimp only at hSw); go_simp; try with_reducible rfl)
    try simp only [Act.put]
    refine wpAnyH_take (i := 2) (v := ?_) rfl (by kernel_rfl) (by kernel_rfl) (by kernel_rfl) (fun _ _ _ h => h) (Or.inl ⟨by kernel_rfl, ?_⟩) (by assumption) ?_
    rotate_left
    · (intro w hSw; (try dsimp only at hSw); go_simp; try with_reducible rfl)
    try simp only [Act.put]
    refine wpAnyH_ready (rs := [1, 3]) (by kernel_rfl) (by simp) ?_
    refine AllReadyH.cons rfl (fun K hK => ?_) (AllReadyH.cons rfl (fun K hK => ?_) AllReadyH.nil)
    · go_simp
      refine (HAC.out _ (Below.refl _ _).drew).mono ?_
      rintro e w7 ⟨A1, v1, rfl, hPA, hlen, hok⟩
      obtain ⟨⟨sbk, hrow, hsb⟩, hbl⟩ := hPA
      have hN : actK.New W6 w7 v1 A1 := ⟨sbk, hrow, hsb, bdrew hbl⟩
      obtain ⟨la, lc, rfl⟩ := hN.form
      obtain ⟨k8, hk8⟩ : ∃ k8, k8 = A1.length := ⟨_, rfl⟩
      rw [← hk8] at hN ⊢
      have hk9 : k8 ≤ 20 := by rw [hk8, hlen]; exact Nat.min_le_right _ _
      have HLEN := Lib.hid hlen
      have HK8 := Lib.hid hk8
      clear hlen hk8 hrow hsb hbl
      refine hK.out _ _ (HYC.out w7 hN.below) (fun hHeld => ?_)
      clear hK K
      try simp only [Act.put]
      refine wpAnyH_ready (rs := [3]) (by kernel_rfl) (by simp) ?_
      refine AllReadyH.cons rfl (fun K hK => ?_) AllReadyH.nil
      go_simp
      have hba := (Below.refl w7.heap.size w7).alloc (Nat.le_refl _) (.cells #[.int .i64 d, .int .i64 x.req, .string p, .string q, .int .i64 x.n] 24)
      refine hK.out _ _ (HYC.out _ (btrans hN.below hba)) (fun hHeld => ?_)
      clear hK K
      try simp only [Act.put]
      refine wpAnyH_done (by kernel_rfl) ?_ _
      simp only [Exit.then]
      refine hK0 _ _ ?_
      clear hK0 K0 hHeld
      try simp only [Act.put]
      have hN8 := hN.keep hba
      have hz8 : (w7.alloc (.cells #[.int .i64 d, .int .i64 x.req, .string p, .string q, .int .i64 x.n] 24)).heap[w7.heap.size]? = some (.cells (actK.f y).toArray 24 (0, 0)) := by rw [HYE.out]; exact heap_alloc_new w7 _
      obtain ⟨W8, hW8⟩ : ∃ W8, W8 = w7.alloc (.cells #[.int .i64 d, .int .i64 x.req, .string p, .string q, .int .i64 x.n] 24) := ⟨_, rfl⟩
      rw [← hW8] at hN8 hz8 ⊢
      obtain ⟨la2, lc2, w9, hap, hN9, _⟩ := hN8.push HK8.out (by rw [← HK8.out]; omega) hz8 1
      have happ : (Builtin.append_ #[32, 32] 32 #[.slice la k8 lc, .slice (some ⟨w7.heap.size, 0, none⟩) 1 1]).run Tryd.prog W8 = .ok (.slice la2 (k8 + 1) lc2) w9 := hap
      have HF : Hid (ActsX W6 y (min k 20) (.slice la2 (k8 + 1) lc2) w9) := ⟨A1, hN9, HLEN.out, hok, la2, lc2, by rw [List.length_append, ← HK8.out]; rfl⟩
      clear hN8 hz8 hap hN9 hN hba hok hW8
      refine wpList_run (by rfl) (exec_append _ _ _ _ (by rfl) _ _ (by rfl) (by rfl) happ) ?_
      go_wp2_with fail
      go_meet
      exact HF.out
    · go_simp
      have hba : Below W6.heap.size W6 (W6.alloc (.cells #[.int .i64 d, .int .i64 x.req, .string p, .string q, .int .i64 x.n] 24)).drew := ((Below.refl W6.heap.size W6).alloc (Nat.le_refl _) (.cells #[.int .i64 d, .int .i64 x.req, .string p, .string q, .int .i64 x.n] 24)).drew
      refine hK.out _ _ (HYC.out _ hba) (fun hHeld => ?_)
      clear hK K
      try simp only [Act.put]
      refine wpAnyH_ready (rs := [1]) (by kernel_rfl) (by simp) ?_
      refine AllReadyH.cons rfl (fun K hK => ?_) AllReadyH.nil
      go_simp
      refine (HAC.out _ hba).mono ?_
      rintro e w7 ⟨A1, v1, rfl, hPA, hlen, hok⟩
      obtain ⟨⟨sbk, hrow, hsb⟩, hbl⟩ := hPA
      have hz0 : (W6.alloc (.cells #[.int .i64 d, .int .i64 x.req, .string p, .string q, .int .i64 x.n] 24)).drew.heap[W6.heap.size]? = some (.cells (actK.f y).toArray 24 (0, 0)) := by rw [HYE.out]; exact heap_alloc_new W6 _
      have hz8 := (hbl.block W6.heap.size (Array.getElem?_eq_some_iff.1 hz0).1).trans hz0
      have hN : actK.New W6 w7 v1 A1 := ⟨sbk, hrow, fun g e => Nat.le_trans hba.size (hsb g e), btrans hba hbl⟩
      obtain ⟨la, lc, rfl⟩ := hN.form
      obtain ⟨k8, hk8⟩ : ∃ k8, k8 = A1.length := ⟨_, rfl⟩
      rw [← hk8] at hN ⊢
      have hk9 : k8 ≤ 20 := by rw [hk8, hlen]; exact Nat.min_le_right _ _
      have HLEN := Lib.hid hlen
      have HK8 := Lib.hid hk8
      clear hlen hk8 hrow hsb hbl hz0 hba
      refine hK.out _ _ (HYC.out w7 hN.below) (fun hHeld => ?_)
      clear hK K
      try simp only [Act.put]
      refine wpAnyH_done (by kernel_rfl) ?_ _
      simp only [Exit.then]
      refine hK0 _ _ ?_
      clear hK0 K0 hHeld
      try simp only [Act.put]
      have hN8 := hN
      obtain ⟨W8, hW8⟩ : ∃ W8, W8 = w7 := ⟨_, rfl⟩
      rw [← hW8] at hN8 hz8 ⊢
      obtain ⟨la2, lc2, w9, hap, hN9, _⟩ := hN8.push HK8.out (by rw [← HK8.out]; omega) hz8 1
      have happ : (Builtin.append_ #[32, 32] 32 #[.slice la k8 lc, .slice (some ⟨W6.heap.size, 0, none⟩) 1 1]).run Tryd.prog W8 = .ok (.slice la2 (k8 + 1) lc2) w9 := hap
      have HF : Hid (ActsX W6 y (min k 20) (.slice la2 (k8 + 1) lc2) w9) := ⟨A1, hN9, HLEN.out, hok, la2, lc2, by rw [List.length_append, ← HK8.out]; rfl⟩
      clear hN8 hz8 hap hN9 hN hok hW8
      refine wpList_run (by rfl) (exec_append _ _ _ _ (by rfl) _ _ (by rfl) (by rfl) happ) ?_
      go_wp2_with fail
      go_meet
      exact HF.out
  case rest =>
    obtain ⟨A1, hN, hlen, hok, la, lc, rfl⟩ := hcut
    obtain ⟨AL, hAL⟩ : ∃ AL, AL = A1 ++ [y] := ⟨_, rfl⟩
    rw [← hAL] at hN ⊢
    have hany : ∀ a ∈ AL, a.Any := fun a ha => by
      rw [hAL] at ha
      rcases List.mem_append.1 ha with e | e
      · exact (hok a e).any
      · rw [List.mem_singleton.1 e]; exact HY.out
    have hm21 : AL.length ≤ 21 := by rw [hAL, List.length_append, hlen]; have := Nat.min_le_right k 20; show _ + 1 ≤ 21; omega
    obtain ⟨m, hm⟩ : ∃ m, m = AL.length := ⟨_, rfl⟩
    rw [← hm] at hm21 hN ⊢
    have hst : PlayS w wc gb lb sb rb AL (.slice la m lc) 0 := by
      have h1 := HS1.out; have h3 := HS3.out; have hwb := HWB.out; have hrb := HRB.out; have h2z := HB2.out.size
      have hltb : ∀ k, LFoot gb lb sb k → W1.heap.size ≤ k ∧ k < w2.heap.size := fun k hk => ⟨HFT.out k hk, HLED.out.lt k hk⟩
      obtain ⟨sbk, hrow, _, hbl⟩ := hN
      have l6 : LedAt W6 gb lb sb led0 := (HLED.out.below HB3.out).keep fun k hk => HF6.out.block k (by have := (hltb k hk).2; have := HB3.out.size; omega) (by have := (hltb k hk).1; omega)
      have z6 := (HF6.out.block rb (by omega) (by omega)).trans HZ3.out
      refine ⟨led0, ⟨[], [], []⟩, _, _, _, PlF.start, l6.below hbl, ⟨⟨_, oneK.nil _⟩, ⟨_, oneK.nil _⟩, _, oneK.nil _⟩, (hbl.block rb (Array.getElem?_eq_some_iff.1 z6).1).trans z6, ⟨sbk, hrow⟩, (fun h => by have := (hltb rb h).2; omega), ⟨?_, ?_, by omega⟩, btrans HB6.out hbl⟩
      · have := (hltb lb (.inr (.inl rfl))).1; omega
      · have := (hltb sb (.inr (.inr rfl))).1; omega
    have HST := Lib.hid hst
    have HANY := Lib.hid hany
    have HM := Lib.hid hm
    clear hN hlen hok hAL hany hm hst HYE HLED HFT HZ1 HZ3 HY6 HF6 HA HAC HAR HSP HSQ y6 HB2 HB3 HS1 HS3 HRB HB1
    go_wp2_with fail
    go_loopw [10] (fun vi wr => ∃ i : Nat, vi = .int .i64 i ∧ i ≤ m ∧ Hid (PlayS w wr gb lb sb rb AL (.slice la m lc) i)) (fun vi _ => (m - RowKit.intOf vi).toNat)
    case atStart => exact ⟨0, rfl, Nat.zero_le _, HST.out⟩
    case round =>
      obtain ⟨i, rfl, hi, hS⟩ := hrel
      obtain ⟨L, R, v1, v2, v3, hF, hI⟩ := hS.out
      by_cases him : i < m
      · have t0 : decide ((i : Int) < (m : Int)) = true := decide_eq_true (by omega)
        obtain ⟨a, ha⟩ : ∃ a, AL[i]? = some a := ⟨_, List.getElem?_eq_getElem (by have := HM.out; omega)⟩
        have haa := HANY.out a (List.mem_of_getElem? ha)
        obtain ⟨g, off, rfl, hcl⟩ := hI.cells ha
        have hbd := hF.rel.bd hF.ok
        have hsm := hF.small (by omega)
        have hDo := fun W (hb : Below wr.heap.size wr W) => rdo_any (hI.at_.below hb) hsm hbd.1 hbd.2.1 hbd.2.2 a haa.req haa.from_ haa.too
        rw [(hF.rel.act a).1] at hDo
        obtain ⟨er, her⟩ : ∃ er, er = L.actE a := ⟨_, rfl⟩
        rw [← her] at hDo
        have HER := Lib.hid her
        clear her
        obtain ⟨a1, c1, a2, c2, a3, c3, rfl, rfl, rfl⟩ := hI.at_.form
        obtain ⟨m1, hm1⟩ : ∃ m, m = R.has.length := ⟨_, rfl⟩
        obtain ⟨m2, hm2⟩ : ∃ m, m = R.made.length := ⟨_, rfl⟩
        obtain ⟨m3, hm3⟩ : ∃ m, m = R.spent.length := ⟨_, rfl⟩
        rw [← hm1, ← hm2, ← hm3] at hI hDo
        have i1 : (0 : Int) ≤ (i : Int) := by omega
        have i2 : (i : Int) < (m : Int) := by omega
        have HI := Lib.hid hI
        have HF := Lib.hid hF
        have HAA := Lib.hid haa
        have HAI := Lib.hid ha
        have HDO := Lib.hid hDo
        have HCL := Lib.hid hcl
        have HSEE : Hid (∀ W, Below wr.heap.size wr W → (W.cell? ⟨rb, 0, none⟩ = some (.slice a1 m1 c1) ∧ W.cell? ⟨rb, 1, none⟩ = some (.slice a2 m2 c2) ∧ W.cell? ⟨rb, 2, none⟩ = some (.slice a3 m3 c3) ∧ W.cell? ⟨g, off + i * 5, none⟩ = some (.int .i64 a.do_) ∧ W.cell? ⟨g, off + i * 5 + 1, none⟩ = some (.int .i64 a.req) ∧ W.cell? ⟨g, off + i * 5 + 2, none⟩ = some (.string a.from_) ∧ W.cell? ⟨g, off + i * 5 + 3, none⟩ = some (.string a.to) ∧ W.cell? ⟨g, off + i * 5 + 4, none⟩ = some (.int .i64 a.n))) := fun W hb => by
          have hx := (hb.block rb (Array.getElem?_eq_some_iff.1 HI.out.box).1).trans HI.out.box
          obtain ⟨q0, q1, q2, q3, q4⟩ := HCL.out W hb
          exact ⟨block_cell hx 0 _ rfl, block_cell hx 1 _ rfl, block_cell hx 2 _ rfl, q0, q1, q2, q3, q4⟩
        clear hS hF hI haa ha hcl hbd hsm hDo hm1 hm2 hm3
        go_upto_region 10 with fail
        go_cut [11, 12] from 46 to 55 (fun v11 v12 wx => DoneS wr (R.actS a) er v11 v12 wx)
        case first =>
          refine wp_region_held_drew (S := fun W => W.cell? ⟨rb, 0, none⟩ = some (.slice a1 m1 c1) ∧ W.cell? ⟨rb, 1, none⟩ = some (.slice a2 m2 c2) ∧ W.cell? ⟨rb, 2, none⟩ = some (.slice a3 m3 c3) ∧ W.cell? ⟨g, off + i * 5, none⟩ = some (.int .i64 a.do_) ∧ W.cell? ⟨g, off + i * 5 + 1, none⟩ = some (.int .i64 a.req) ∧ W.cell? ⟨g, off + i * 5 + 2, none⟩ = some (.string a.from_) ∧ W.cell? ⟨g, off + i * 5 + 3, none⟩ = some (.string a.to) ∧ W.cell? ⟨g, off + i * 5 + 4, none⟩ = some (.int .i64 a.n)) (by kernel_rfl) (HSEE.out wr.drew (Below.refl _ _).drew) (fun hHeld => ?_)
          refine wpAnyH_take (i := 0) (v := ?_) rfl (by kernel_rfl) (by kernel_rfl) (by kernel_rfl) (fun _ _ _ h => h) (Or.inl ⟨by kernel_rfl, ?_⟩) (by assumption) ?_
          rotate_left
          · (intro w hSw; (try dsimp only at hSw); go_simp; try with_reducible rfl)
          try simp only [Act.put]
          refine wpAnyH_take (i := 1) (v := ?_) rfl (by kernel_rfl) (by kernel_rfl) (by kernel_rfl) (fun _ _ _ h => h) (Or.inl ⟨by kernel_rfl, ?_⟩) (by assumption) ?_
          rotate_left
          · (intro w hSw; (try dsimp only at hSw); go_simp; try with_reducible rfl)
          try simp only [Act.put]
          refine wpAnyH_take (i := 2) (v := ?_) rfl (by kernel_rfl) (by kernel_rfl) (by kernel_rfl) (fun _ _ _ h => h) (Or.inl ⟨by kernel_rfl, ?_⟩) (by assumption) ?_
          rotate_left
          · (intro w hSw; (try dsimp only at hSw); go_simp; try with_reducible rfl)
          try simp only [Act.put]
          refine wpAnyH_take (i := 3) (v := ?_) rfl (by kernel_rfl) (by kernel_rfl) (by kernel_rfl) (fun _ _ _ h => h) (Or.inl ⟨by kernel_rfl, ?_⟩) (by assumption) ?_
          rotate_left
          · (intro w hSw; (try dsimp only at hSw); go_simp; try with_reducible rfl)
          try simp only [Act.put]
          refine wpAnyH_take (i := 4) (v := ?_) rfl (by kernel_rfl) (by kernel_rfl) (by kernel_rfl) (fun _ _ _ h => h) (Or.inl ⟨by kernel_rfl, ?_⟩) (by assumption) ?_
          rotate_left
          · (intro w hSw; (try dsimp only at hSw); go_simp; try with_reducible rfl)
          try simp only [Act.put]
          refine wpAnyH_ready (rs := [5, 9]) (by kernel_rfl) (by simp) ?_
          refine AllReadyH.cons rfl (fun K hK => ?_) (AllReadyH.cons rfl (fun K hK => ?_) AllReadyH.nil)
          · go_simp
            refine (HDO.out _ (Below.refl _ _).drew).mono ?_
            rintro e w7 ⟨u1, u2, u3, rfl, hRL, hb⟩
            obtain ⟨d1, x1, d2, x2, d3, x3, rfl, rfl, rfl⟩ := hRL.form
            obtain ⟨n1, hn1⟩ : ∃ n, n = (R.actS a).has.length := ⟨_, rfl⟩
            obtain ⟨n2, hn2⟩ : ∃ n, n = (R.actS a).made.length := ⟨_, rfl⟩
            obtain ⟨n3, hn3⟩ : ∃ n, n = (R.actS a).spent.length := ⟨_, rfl⟩
            rw [← hn1, ← hn2, ← hn3] at hRL ⊢
            clear hn1 hn2 hn3
            replace hb := bdrew hb
            refine hK.out _ _ (HSEE.out w7 hb) (fun hHeld => ?_)
            clear hK K
            try simp only [Act.put]
            refine wpAnyH_take (i := 6) (v := ?_) rfl (by kernel_rfl) (by kernel_rfl) (by kernel_rfl) (fun _ _ _ h => h) (Or.inl ⟨by kernel_rfl, ?_⟩) (by assumption) ?_
            rotate_left
            · (intro w hSw; (try dsimp only at hSw); go_simp; try with_reducible rfl)
            try simp only [Act.put]
            refine wpAnyH_take (i := 7) (v := ?_) rfl (by kernel_rfl) (by kernel_rfl) (by kernel_rfl) (fun _ _ _ h => h) (Or.inl ⟨by kernel_rfl, ?_⟩) (by assumption) ?_
            rotate_left
            · (intro w hSw; (try dsimp only at hSw); go_simp; try with_reducible rfl)
            try simp only [Act.put]
            refine wpAnyH_take (i := 8) (v := ?_) rfl (by kernel_rfl) (by kernel_rfl) (by kernel_rfl) (fun _ _ _ h => h) (Or.inl ⟨by kernel_rfl, ?_⟩) (by assumption) ?_
            rotate_left
            · (intro w hSw; (try dsimp only at hSw); go_simp; try with_reducible rfl)
            try simp only [Act.put]
            refine wpAnyH_ready (rs := [9]) (by kernel_rfl) (by simp) ?_
            refine AllReadyH.cons rfl (fun K hK => ?_) AllReadyH.nil
            go_simp
            have hba := (Below.refl w7.heap.size w7).alloc (Nat.le_refl _) (.cells #[.slice none 0 0, .slice none 0 0, .slice none 0 0] 29)
            obtain ⟨W8, hW8⟩ : ∃ W8, W8 = w7.alloc (.cells #[.slice none 0 0, .slice none 0 0, .slice none 0 0] 29) := ⟨_, rfl⟩
            have z8 : W8.heap[w7.heap.size]? = some (.cells #[.slice none 0 0, .slice none 0 0, .slice none 0 0] 29 (0, 0)) := by rw [hW8]; exact heap_alloc_new w7 _
            rw [← hW8] at hba ⊢
            obtain ⟨B, hB⟩ : ∃ B, B = w7.heap.size := ⟨_, rfl⟩
            have hBr : wr.heap.size ≤ B := by rw [hB]; exact hb.size
            rw [← hB] at z8 ⊢
            have hRL8 := hRL.below hba
            have hb8 := btrans hb hba
            clear hRL hba hb hW8 hB
            refine hK.out _ _ (HSEE.out _ hb8) (fun hHeld => ?_)
            clear hK K
            try simp only [Act.put]
            obtain ⟨W9, hW9, y9, f9⟩ := set3 z8 (.slice d1 n1 x1) (.slice d2 n2 x2) (.slice d3 n3 x3)
            have hb9 : Below wr.heap.size wr W9 := f9.behind hb8 hBr
            have HF : Hid (DoneS wr (R.actS a) er (.pointer (some ⟨B, 0, none⟩)) (.int .i64 er) W9) := ⟨B, _, _, _, _, _, _, _, _, _, rfl, rfl, hb9, y9, hRL8.store z8 f9⟩
            have j0 := block_cell z8 0 _ rfl
            have j1 := block_cell z8 1 _ rfl
            have j2 := block_cell z8 2 _ rfl
            have f0 := block_free z8 0
            have f1 := block_free z8 1
            have f2 := block_free z8 2
            refine wpAnyH_ready (rs := [10]) (by kernel_rfl) (by simp) ?_
            refine AllReadyH.cons rfl (fun K hK => ?_) AllReadyH.nil
            go_simp
            refine hK.out _ _ (HSEE.out W9 hb9) (fun hHeld => ?_)
            clear hK K
            try simp only [Act.put]
            refine wpAnyH_take (i := 11) (v := ?_) rfl (by kernel_rfl) (by kernel_rfl) (by kernel_rfl) (fun _ _ _ h => h) (Or.inl ⟨by kernel_rfl, ?_⟩) (by assumption) ?_
            rotate_left
            · (intro w hSw; (try dsimp only at hSw); go_simp; try with_reducible rfl)
            try simp only [Act.put]
            refine wpAnyH_done (by kernel_rfl) ?_ _
            try simp only [Act.put]
            clear hHeld z8 y9 f9 hb9 hb8 hBr hRL8
            go_simp
            go_wp2_with fail
            go_meet
            exact HF.out
          · go_simp
            have hba : Below wr.heap.size wr (wr.alloc (.cells #[.slice none 0 0, .slice none 0 0, .slice none 0 0] 29)).drew := ((Below.refl wr.heap.size wr).alloc (Nat.le_refl _) (.cells #[.slice none 0 0, .slice none 0 0, .slice none 0 0] 29)).drew
            have z7 : (wr.alloc (.cells #[.slice none 0 0, .slice none 0 0, .slice none 0 0] 29)).drew.heap[wr.heap.size]? = some (.cells #[.slice none 0 0, .slice none 0 0, .slice none 0 0] 29 (0, 0)) := heap_alloc_new wr _
            refine hK.out _ _ (HSEE.out _ hba) (fun hHeld => ?_)
            clear hK K
            try simp only [Act.put]
            refine wpAnyH_ready (rs := [5]) (by kernel_rfl) (by simp) ?_
            refine AllReadyH.cons rfl (fun K hK => ?_) AllReadyH.nil
            go_simp
            refine (HDO.out _ hba).mono ?_
            rintro e W8 ⟨u1, u2, u3, rfl, hRL8, hb⟩
            obtain ⟨d1, x1, d2, x2, d3, x3, rfl, rfl, rfl⟩ := hRL8.form
            obtain ⟨n1, hn1⟩ : ∃ n, n = (R.actS a).has.length := ⟨_, rfl⟩
            obtain ⟨n2, hn2⟩ : ∃ n, n = (R.actS a).made.length := ⟨_, rfl⟩
            obtain ⟨n3, hn3⟩ : ∃ n, n = (R.actS a).spent.length := ⟨_, rfl⟩
            rw [← hn1, ← hn2, ← hn3] at hRL8 ⊢
            clear hn1 hn2 hn3
            have hb8 := btrans hba hb
            have z8 := (hb.block wr.heap.size (Array.getElem?_eq_some_iff.1 z7).1).trans z7
            refine hK.out _ _ (HSEE.out W8 hb8) (fun hHeld => ?_)
            clear hK K
            try simp only [Act.put]
            refine wpAnyH_take (i := 6) (v := ?_) rfl (by kernel_rfl) (by kernel_rfl) (by kernel_rfl) (fun _ _ _ h => h) (Or.inl ⟨by kernel_rfl, ?_⟩) (by assumption) ?_
            rotate_left
            · (intro w hSw; (try dsimp only at hSw); go_simp; try with_reducible rfl)
            try simp only [Act.put]
            refine wpAnyH_take (i := 7) (v := ?_) rfl (by kernel_rfl) (by kernel_rfl) (by kernel_rfl) (fun _ _ _ h => h) (Or.inl ⟨by kernel_rfl, ?_⟩) (by assumption) ?_
            rotate_left
            · (intro w hSw; (try dsimp only at hSw); go_simp; try with_reducible rfl)
            try simp only [Act.put]
            refine wpAnyH_take (i := 8) (v := ?_) rfl (by kernel_rfl) (by kernel_rfl) (by kernel_rfl) (fun _ _ _ h => h) (Or.inl ⟨by kernel_rfl, ?_⟩) (by assumption) ?_
            rotate_left
            · (intro w hSw; (try dsimp only at hSw); go_simp; try with_reducible rfl)
            try simp only [Act.put]
            obtain ⟨B, hB⟩ : ∃ B, B = wr.heap.size := ⟨_, rfl⟩
            have hBr : wr.heap.size ≤ B := by omega
            rw [← hB] at z8 ⊢
            clear hb hba z7 hB
            obtain ⟨W9, hW9, y9, f9⟩ := set3 z8 (.slice d1 n1 x1) (.slice d2 n2 x2) (.slice d3 n3 x3)
            have hb9 : Below wr.heap.size wr W9 := f9.behind hb8 hBr
            have HF : Hid (DoneS wr (R.actS a) er (.pointer (some ⟨B, 0, none⟩)) (.int .i64 er) W9) := ⟨B, _, _, _, _, _, _, _, _, _, rfl, rfl, hb9, y9, hRL8.store z8 f9⟩
            have j0 := block_cell z8 0 _ rfl
            have j1 := block_cell z8 1 _ rfl
            have j2 := block_cell z8 2 _ rfl
            have f0 := block_free z8 0
            have f1 := block_free z8 1
            have f2 := block_free z8 2
            refine wpAnyH_ready (rs := [10]) (by kernel_rfl) (by simp) ?_
            refine AllReadyH.cons rfl (fun K hK => ?_) AllReadyH.nil
            go_simp
            refine hK.out _ _ (HSEE.out W9 hb9) (fun hHeld => ?_)
            clear hK K
            try simp only [Act.put]
            refine wpAnyH_take (i := 11) (v := ?_) rfl (by kernel_rfl) (by kernel_rfl) (by kernel_rfl) (fun _ _ _ h => h) (Or.inl ⟨by kernel_rfl, ?_⟩) (by assumption) ?_
            rotate_left
            · (intro w hSw; (try dsimp only at hSw); go_simp; try with_reducible rfl)
            try simp only [Act.put]
            refine wpAnyH_done (by kernel_rfl) ?_ _
            try simp only [Act.put]
            clear hHeld z8 y9 f9 hb9 hb8 hBr hRL8
            go_simp
            go_wp2_with fail
            go_meet
            exact HF.out
        case rest =>
          obtain ⟨B, d1, x1, d2, x2, d3, x3, n1, n2, n3, rfl, rfl, hb, hB, hRL⟩ := hcut
          have hI1 := HI.out.keep hb
          obtain ⟨W5, hW5, y5, f5⟩ := set3 hI1.box (.slice d1 n1 x1) (.slice d2 n2 x2) (.slice d3 n3 x3)
          have hI5 := hI1.store hRL y5 f5
          have hbx := hI1.box
          have k0 := block_cell hbx 0 _ rfl
          have k1 := block_cell hbx 1 _ rfl
          have k2 := block_cell hbx 2 _ rfl
          have f0 := block_free hbx 0
          have f1 := block_free hbx 1
          have f2 := block_free hbx 2
          have j0 := block_cell hB 0 _ rfl
          have j1 := block_cell hB 1 _ rfl
          have j2 := block_cell hB 2 _ rfl
          have HI5 := Lib.hid hI5
          clear hb hB hRL hI1 y5 f5 hI5 hbx HSEE HDO HCL HI
          go_upto_region 12 with fail
          clear hW5 k0 k1 k2 f0 f1 f2 j0 j1 j2
          obtain ⟨g', off', e5, hq⟩ := HI5.out.cells HAI.out
          injection e5 with e5
          injection e5 with e6 e7 _
          subst e6 e7
          obtain ⟨q0, q1, q2, q3, q4⟩ := hq W5 (Below.refl _ _)
          have hdo := does_any HI5.out.led HF.out.ok a (HAA.out.env (HE.out.below HI5.out.below))
          rw [← HER.out] at hdo
          have HDS := Lib.hid hdo
          clear hq hdo
          go_wp2_with fail
          clear q0 q1 q2 q3 q4
          refine HDS.out.mono ?_
          rintro e w6 hdid
          have hI6 := HI5.out.did hdid
          obtain ⟨he, -, hok⟩ := hdid
          subst he
          have hF2 := HF.out.act HAA.out hok
          have HF2 := Lib.hid hF2
          have HI6 := Lib.hid hI6
          have hee : (er != er) = false := bne_self_eq_false _
          clear hI6 hok hF2
          go_wp2_with fail
          obtain ⟨g', off', e5, hq⟩ := HI6.out.cells HAI.out
          injection e5 with e5
          injection e5 with e6 e7 _
          subst e6 e7
          have HQ : Hid (∀ W, Below w6.heap.size w6 W → (W.cell? ⟨g, off + i * 5 + 2, none⟩ = some (.string a.from_) ∧ W.cell? ⟨g, off + i * 5 + 3, none⟩ = some (.string a.to))) := fun W hb => ⟨(hq W hb).2.2.1, (hq W hb).2.2.2.1⟩
          clear hq hee
          refine wp_region_held_drew (S := fun W => W.cell? ⟨g, off + i * 5 + 2, none⟩ = some (.string a.from_) ∧ W.cell? ⟨g, off + i * 5 + 3, none⟩ = some (.string a.to)) (by kernel_rfl) (HQ.out w6.drew (Below.refl _ _).drew) (fun hHeld => ?_)
          refine wpAnyH_take (i := 0) (v := ?_) rfl (by kernel_rfl) (by kernel_rfl) (by kernel_rfl) (fun _ _ _ h => h) (Or.inl ⟨by kernel_rfl, ?_⟩) (by assumption) ?_
          rotate_left
          · (intro w hSw; (try dsimp only at hSw); go_simp; try with_reducible rfl)
          try simp only [Act.put]
          refine wpAnyH_take (i := 1) (v := ?_) rfl (by kernel_rfl) (by kernel_rfl) (by kernel_rfl) (fun _ _ _ h => h) (Or.inl ⟨by kernel_rfl, ?_⟩) (by assumption) ?_
          rotate_left
          · (intro w hSw; (try dsimp only at hSw); go_simp; try with_reducible rfl)
          try simp only [Act.put]
          refine wpAnyH_take (i := 2) (v := ?_) rfl (by kernel_rfl) (by kernel_rfl) (by kernel_rfl) (fun _ _ _ h => h) (Or.inl ⟨by kernel_rfl, ?_⟩) (by assumption) ?_
          rotate_left
          · (intro w hSw; (try dsimp only at hSw); go_simp; try with_reducible rfl)
          try simp only [Act.put]
          refine wpAnyH_take (i := 3) (v := ?_) rfl (by kernel_rfl) (by kernel_rfl) (by kernel_rfl) (fun _ _ _ h => h) (Or.inl ⟨by kernel_rfl, ?_⟩) (by assumption) ?_
          rotate_left
          · (intro w hSw; (try dsimp only at hSw); go_simp; try with_reducible rfl)
          try simp only [Act.put]
          refine wpAnyH_take (i := 4) (v := ?_) rfl (by kernel_rfl) (by kernel_rfl) (by kernel_rfl) (fun _ _ _ h => h) (Or.inl ⟨by kernel_rfl, ?_⟩) (by assumption) ?_
          rotate_left
          · (intro w hSw; (try dsimp only at hSw); go_simp; try with_reducible rfl)
          try simp only [Act.put]
          refine wpAnyH_take (i := 5) (v := ?_) rfl (by kernel_rfl) (by kernel_rfl) (by kernel_rfl) (fun _ _ _ h => h) (Or.inl ⟨by kernel_rfl, ?_⟩) (by assumption) ?_
          rotate_left
          · (intro w hSw; (try dsimp only at hSw); go_simp; try with_reducible rfl)
          try simp only [Act.put]
          refine wpAnyH_take (i := 6) (v := ?_) rfl (by kernel_rfl) (by kernel_rfl) (by kernel_rfl) (fun _ _ _ h => h) (Or.inl ⟨by kernel_rfl, ?_⟩) (by assumption) ?_
          rotate_left
          · (intro w hSw; (try dsimp only at hSw); go_simp; try with_reducible rfl)
          try simp only [Act.put]
          refine wpAnyH_take (i := 7) (v := ?_) rfl (by kernel_rfl) (by kernel_rfl) (by kernel_rfl) (fun _ _ _ h => h) (Or.inl ⟨by kernel_rfl, ?_⟩) (by assumption) ?_
          rotate_left
          · (intro w hSw; (try dsimp only at hSw); go_simp; try with_reducible rfl)
          try simp only [Act.put]
          refine wpAnyH_take (i := 8) (v := ?_) rfl (by kernel_rfl) (by kernel_rfl) (by kernel_rfl) (fun _ _ _ h => h) (Or.inl ⟨by kernel_rfl, ?_⟩) (by assumption) ?_
          rotate_left
          · (intro w hSw; (try dsimp only at hSw); go_simp; try with_reducible rfl)
          try simp only [Act.put]
          refine wpAnyH_take (i := 9) (v := ?_) rfl (by kernel_rfl) (by kernel_rfl) (by kernel_rfl) (fun _ _ _ h => h) (Or.inl ⟨by kernel_rfl, ?_⟩) (by assumption) ?_
          rotate_left
          · (intro w hSw; (try dsimp only at hSw); go_simp; try with_reducible rfl)
          try simp only [Act.put]
          refine wpAnyH_take (i := 10) (v := ?_) rfl (by kernel_rfl) (by kernel_rfl) (by kernel_rfl) (fun _ _ _ h => h) (Or.inl ⟨by kernel_rfl, ?_⟩) (by assumption) ?_
          rotate_left
          · (intro w hSw; (try dsimp only at hSw); go_simp; try with_reducible rfl)
          try simp only [Act.put]
          refine wpAnyH_ready (rs := [11]) (by kernel_rfl) (by simp) ?_
          refine AllReadyH.cons rfl (fun K hK => ?_) AllReadyH.nil
          go_simp
          refine (HSS.out _).mono ?_
          rintro e wq ⟨rfl, hwq⟩
          rw [hwq]
          clear hwq wq
          refine hK.out _ _ (hHeld) (fun hHeld => ?_)
          clear hK K
          try simp only [Act.put]
          refine wpAnyH_ready (rs := [12]) (by kernel_rfl) (by simp) ?_
          refine AllReadyH.cons rfl (fun K hK => ?_) AllReadyH.nil
          go_simp
          have hba : Below w6.heap.size w6 (w6.alloc (.cells #[.string a.from_, .string a.to, .string s3] 9)).drew := ((Below.refl w6.heap.size w6).alloc (Nat.le_refl _) _).drew
          refine hK.out _ _ (HQ.out _ hba) (fun hHeld => ?_)
          clear hK K
          try simp only [Act.put]
          refine wpAnyH_take (i := 13) (v := ?_) rfl (by kernel_rfl) (by kernel_rfl) (by kernel_rfl) (fun _ _ _ h => h) (Or.inl ⟨by kernel_rfl, ?_⟩) (by assumption) ?_
          rotate_left
          · (intro w hSw; (try dsimp only at hSw); go_simp; try with_reducible rfl)
          try simp only [Act.put]
          refine wpAnyH_done (by kernel_rfl) ?_ _
          try simp only [Act.put]
          obtain ⟨W7, hW7⟩ : ∃ W7, W7 = (w6.alloc (.cells #[.string a.from_, .string a.to, .string s3] 9)).drew := ⟨_, rfl⟩
          obtain ⟨al, hal⟩ : ∃ al, al = w6.heap.size := ⟨_, rfl⟩
          have z7 : W7.heap[al]? = some (.cells #[.string a.from_, .string a.to, .string s3] 9 (0, 0)) := by rw [hW7, hal]; exact heap_alloc_new w6 _
          rw [← hW7] at hba ⊢
          clear hW7
          go_simp
          try simp only [← hal]
          have HI7 := Lib.hid (HI6.out.keep hba)
          have HAL : Hid (∀ kk : Nat, kk < 3 → ∃ t, ∀ W, Below W7.heap.size W7 W → W.cell? ⟨al, kk, none⟩ = some (.string t)) := fun kk hk => by
            have h0 := fun (W : World) (hb : Below W7.heap.size W7 W) => (hb.block al (Array.getElem?_eq_some_iff.1 z7).1).trans z7
            rcases (show kk = 0 ∨ kk = 1 ∨ kk = 2 by omega) with rfl | rfl | rfl
            · exact ⟨_, fun W hb => block_cell (h0 W hb) 0 _ rfl⟩
            · exact ⟨_, fun W hb => block_cell (h0 W hb) 1 _ rfl⟩
            · exact ⟨_, fun W hb => block_cell (h0 W hb) 2 _ rfl⟩
          have hsm2 := HF2.out.small (by omega)
          have hO := fun t => Of_at HI7.out.at_.1 hsm2.1 t
          have hbd2 := (HF2.out.rel.bd HF2.out.ok).1
          have hSum := fun W (hb : Below W7.heap.size W7 W) (r : Int) hr => rsum_any (HI7.out.at_.below hb) hsm2 HF2.out.nz hbd2 r hr
          have hS1 := fun W (hb : Below W7.heap.size W7 W) (r : Int) => sum_ok (HI7.out.led.below hb) HF2.out.ok r
          have hbx7 := HI7.out.box
          have HBX : Hid (∀ W, Below W7.heap.size W7 W → W.cell? ⟨rb, 0, none⟩ = some (.slice d1 n1 x1) ∧ W.cell? ⟨rb, 1, none⟩ = some (.slice d2 n2 x2) ∧ W.cell? ⟨rb, 2, none⟩ = some (.slice d3 n3 x3)) := fun W hb => by
            have hx := (hb.block rb (Array.getElem?_eq_some_iff.1 hbx7).1).trans hbx7
            exact ⟨block_cell hx 0 _ rfl, block_cell hx 1 _ rfl, block_cell hx 2 _ rfl⟩
          have HO := Lib.hid hO
          have HSM := Lib.hid hSum
          have HS1 := Lib.hid hS1
          clear hHeld hba hal z7 HQ HI6 HI5 HDS hO hSum hS1 hbd2 hsm2 hbx7 HF HAI HAA HER
          go_wp2_with fail
          go_loopw [14] (fun vk wr2 => ∃ kk : Nat, vk = .int .i64 kk ∧ kk ≤ 3 ∧ Hid (Below W7.heap.size W7 wr2)) (fun vk _ => (3 - RowKit.intOf vk).toNat)
          case atStart => exact ⟨0, rfl, Nat.zero_le _, Below.refl _ _⟩
          case round =>
            obtain ⟨kk, rfl, hkk, hbk⟩ := hrel
            by_cases hk3 : kk < 3
            · have t0 : decide ((kk : Int) < 3) = true := decide_eq_true (by omega)
              obtain ⟨t, ht⟩ := HAL.out kk hk3
              have c0 := (HBX.out wr hbk.out).1
              have ct := ht wr hbk.out
              have i3 : (0 : Int) ≤ (kk : Int) := by omega
              have i4 : (kk : Int) < 3 := by omega
              have HO2 := Lib.hid (fun nq => HO.out t (wr.drewN nq) (below_drewN hbk.out))
              have HLF := Lib.hid (fun nq => left_any (HI7.out.led.below (below_drewN (nq := nq) hbk.out)) t)
              have hlv := HF2.out.rel.has t
              obtain ⟨lv, hlq⟩ : ∃ lv, lv = (L.actS a).left t := ⟨_, rfl⟩
              obtain ⟨fb, hfb⟩ : ∃ fb, fb = (ofR (R.actS a).has t).isSome := ⟨_, rfl⟩
              rw [← hlv, ← hlq, ← hfb] at HO2
              rw [← hlq] at HLF
              have hne : (lv != lv) = false := bne_self_eq_false _
              have HT : Hid (∀ nq, (wr.drewN nq).cell? ⟨al, kk, none⟩ = some (.string t)) := fun nq => ht _ (below_drewN hbk.out)
              clear ht hlv hlq hfb
              go_upto_region 18 with fail
              go_quiet (first | (go_at_call 16; with_reducible exact Calls.quiet_of_same (HO2.out _)))
              have ct2 := HT.out nq
              go_wp2_with fail
              refine (HLF.out nq).mono ?_
              rintro e wq ⟨rfl, hwq⟩
              rw [hwq]
              clear hwq wq
              go_wp2_with fail
              go_roundw
              case rel => exact ⟨kk + 1, by go_num, by omega, below_drewN hbk.out⟩
              case measure => simp [RowKit.intOf]; omega
            · have t0 : decide ((kk : Int) < 3) = false := decide_eq_false (by omega)
              obtain ⟨W8, hW8⟩ : ∃ W8, W8 = wr := ⟨_, rfl⟩
              have HB8 : Hid (Below W7.heap.size W7 W8) := by rw [hW8]; exact hbk
              rw [← hW8]
              clear hW8 hbk
              go_wp2_with fail
              go_loopw [17] (fun vr wr2 => ∃ r : Nat, vr = .int .i64 r ∧ r ≤ 5 ∧ Hid (Below W7.heap.size W7 wr2)) (fun vr _ => (5 - RowKit.intOf vr).toNat)
              case atStart => exact ⟨0, rfl, Nat.zero_le _, HB8.out⟩
              case round =>
                obtain ⟨r, rfl, hr, hbr⟩ := hrel
                by_cases hr4 : r ≤ 4
                · have t0 : decide ((r : Int) ≤ 4) = true := decide_eq_true (by omega)
                  have p0 : ¬ (4 : Int) < (r : Int) := by omega
                  have hA1 := HS1.out wr hbr.out r
                  have hsm := HF2.out.rel.sum r
                  have hsp := HF2.out.rel.spent r (by omega)
                  obtain ⟨hv, hhv⟩ : ∃ hv, hv = ((L.actS a).sum r).1 - ((L.actS a).sum r).2 := ⟨_, rfl⟩
                  obtain ⟨sv, hsv⟩ : ∃ sv, sv = ((L.actS a).sum r).2 := ⟨_, rfl⟩
                  have hspv : (ofR (R.actS a).spent (dec r)).getD 0 = sv := by
                    rw [hsp, hsv]
                    unfold Led.sum
                    cases (L.actS a).sums r <;> rfl
                  rw [← hhv] at hsm
                  rw [← hhv, ← hsv] at hA1
                  have HA1 := Lib.hid hA1
                  have HA2 : Hid (∀ W, Below W7.heap.size W7 W → Calls Tryd.prog 19 #[.agg #[.slice d1 n1 x1, .slice d2 n2 x2, .slice d3 n3 x3], .int .i64 r] W fun e w' => e = .returned (.tuple #[.int .i64 hv, .int .i64 sv]) ∧ Below W.heap.size W w') := fun W hb => by
                    have := HSM.out W hb r (by omega)
                    rw [hsm, hspv] at this
                    exact this
                  have hne1 : (hv != hv) = false := bne_self_eq_false _
                  have hne2 : (sv != sv) = false := bne_self_eq_false _
                  clear hA1 hsm hsp hspv hhv hsv
                  go_wp2_with fail
                  refine HA1.out.mono ?_
                  rintro e w10 ⟨rfl, b10⟩
                  have HB10 := Lib.hid (btrans hbr.out b10)
                  obtain ⟨c0, c1', c2'⟩ := HBX.out w10 HB10.out
                  clear b10 hbr
                  go_wp2_with fail
                  refine (HA2.out w10 HB10.out).mono ?_
                  rintro e w11 ⟨rfl, b11⟩
                  have HB11 := Lib.hid (btrans HB10.out b11)
                  clear b11 c0 c1' c2'
                  go_wp2_with fail
                  go_roundw
                  case rel => exact ⟨r + 1, by go_num, by omega, HB11⟩
                  case measure => simp [RowKit.intOf]; omega
                · have t0 : decide ((r : Int) ≤ 4) = false := decide_eq_false (by omega)
                  have p0 : (4 : Int) < (r : Int) := by omega
                  have HFN : Hid (PlayS w wr gb lb sb rb AL (.slice (some ⟨g, off, none⟩) m lc) (i + 1)) := ⟨_, _, _, _, _, HF2.out, HI7.out.keep hbr.out⟩
                  clear hbr
                  go_wp2_with fail
                  go_roundw
                  case rel => exact ⟨i + 1, by go_num, by omega, HFN⟩
                  case measure => simp [RowKit.intOf]; omega
      · have t0 : decide ((i : Int) < (m : Int)) = false := decide_eq_false (by omega)
        have HBL := Lib.hid hI.below
        clear hS hF hI
        go_wp2_with fail
        refine (lives_any _).mono ?_
        rintro e w12 ⟨rfl, b12⟩
        go_wp2_with fail
        go_ret
        exact ⟨rfl, btrans HBL.out b12⟩

end Go.Proofs.YtedoalpijbggiaaDoor
