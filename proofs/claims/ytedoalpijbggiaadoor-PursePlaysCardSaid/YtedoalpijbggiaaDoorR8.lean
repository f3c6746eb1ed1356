/- The document's ledger: Do (printed by wip/tools/genr8.py). -/
import Derived.Test.YtedoalpijbggiaaDoorR7
namespace Go.Proofs.YtedoalpijbggiaaDoor
open Go.RowKit Go.Lib
attribute [local go_sem ↓] Go.wp_at_zero Go.wp_at_succ

theorem at_ne {w : World} {v : Value} {l : List Ent} {g b : Nat} {cur : Array Value} {fz : Nat × Nat} (h : oneK.At w v l (some g)) (hb : w.heap[b]? = some (.cells cur 29 fz)) : g ≠ b := by
  intro e
  subst e
  rcases h.2.2 with ⟨_, _, h3⟩ | ⟨g', off, cap, cur', hv, hsg, hh, _⟩
  · cases h3
  · cases hsg
    rw [hb] at hh
    injection hh with hh
    injection hh with _ h2 _
    revert h2
    show (29 : Nat) = 67 → False
    decide
theorem RLAt.store {w w' : World} {v1 v2 v3 : Value} {R : RL} {b : Nat} {cur : Array Value} {fz : Nat × Nat} (h : RLAt w v1 v2 v3 R) (hb : w.heap[b]? = some (.cells cur 29 fz)) (f : Fr (fun k => k = b) w w') : RLAt w' v1 v2 v3 R := by
  obtain ⟨⟨b1, h1⟩, ⟨b2, h2⟩, b3, h3⟩ := h
  exact ⟨⟨b1, h1.keep fun g e => f.block g (h1.lt g e) (at_ne (e ▸ h1) hb)⟩, ⟨b2, h2.keep fun g e => f.block g (h2.lt g e) (at_ne (e ▸ h2) hb)⟩, b3, h3.keep fun g e => f.block g (h3.lt g e) (at_ne (e ▸ h3) hb)⟩
def RL.actE (R : RL) (a : PA) : Int := if a.do_ = 0 then R.mintE a.req a.n else if a.do_ = 1 then R.moveE a.from_ a.to a.n else R.mayE a.from_ a.n
def RL.actS (R : RL) (a : PA) : RL := if a.do_ = 0 then (if R.mintE a.req a.n = 0 then R.mint a.req a.n else R) else if a.do_ = 1 then (if R.moveE a.from_ a.to a.n = 0 then R.move a.from_ a.to a.n else R) else if R.mayE a.from_ a.n = 0 then R.spend a.from_ a.n else R

set_option maxRecDepth 8000 in
set_option maxHeartbeats 8000000 in
theorem rdo_any {w : World} {v1 v2 v3 : Value} {R : RL} (h : RLAt w v1 v2 v3 R) (hl : R.Small) (hb1 : ∀ x ∈ R.has, 0 ≤ x.2 ∧ x.2 ≤ 2147483647) (hb2 : ∀ x ∈ R.made, 0 ≤ x.2 ∧ x.2 ≤ 2147483647) (hb3 : ∀ x ∈ R.spent, 0 ≤ x.2 ∧ x.2 ≤ 2147483647) (a : PA) (hr : -9223372036854775808 ≤ a.req ∧ a.req ≤ 9223372036854775807) (hf : a.from_.size ≤ 2147483647) (ht : a.to.size ≤ 2147483647) :
    Calls Tryd.prog 14 #[.agg #[v1, v2, v3], .agg #[.int .i64 a.do_, .int .i64 a.req, .string a.from_, .string a.to, .int .i64 a.n]] w (ActPost w (R.actS a) (R.actE a)) := by
  obtain ⟨a1, c1, a2, c2, a3, c3, rfl, rfl, rfl⟩ := h.form
  have HMI := Lib.hid (fun W (hb : Below w.heap.size w W) => rmint_any (h.below hb) hl hb1 hb2 hb3 a.req a.n hr _ rfl)
  have HMO := Lib.hid (fun W (hb : Below w.heap.size w W) => rmove_any (h.below hb) hl hb1 hb2 hb3 a.from_ a.to hf ht a.n _ rfl)
  have HSP := Lib.hid (fun W (hb : Below w.heap.size w W) => rspend_any (h.below hb) hl hb1 hb2 hb3 a.from_ hf a.n _ rfl)
  obtain ⟨m1, hm1⟩ : ∃ m, m = R.has.length := ⟨_, rfl⟩
  obtain ⟨m2, hm2⟩ : ∃ m, m = R.made.length := ⟨_, rfl⟩
  obtain ⟨m3, hm3⟩ : ∃ m, m = R.spent.length := ⟨_, rfl⟩
  rw [← hm1, ← hm2, ← hm3] at HMI HMO HSP ⊢
  have HE : Hid (R.actE a = if a.do_ = 0 then R.mintE a.req a.n else if a.do_ = 1 then R.moveE a.from_ a.to a.n else R.mayE a.from_ a.n) := rfl
  have HS : Hid (R.actS a = if a.do_ = 0 then (if R.mintE a.req a.n = 0 then R.mint a.req a.n else R) else if a.do_ = 1 then (if R.moveE a.from_ a.to a.n = 0 then R.move a.from_ a.to a.n else R) else if R.mayE a.from_ a.n = 0 then R.spend a.from_ a.n else R) := rfl
  obtain ⟨b, hbq⟩ : ∃ b, b = w.heap.size := ⟨_, rfl⟩
  obtain ⟨W1, hW1⟩ : ∃ W1, W1 = w.alloc (.cells #[.slice a1 m1 c1, .slice a2 m2 c2, .slice a3 m3 c3] 29) := ⟨_, rfl⟩
  have e1 : Below w.heap.size w W1 := by rw [hW1]; exact (Below.refl _ _).alloc (Nat.le_refl _) _
  have z1 : W1.heap[b]? = some (.cells #[.slice a1 m1 c1, .slice a2 m2 c2, .slice a3 m3 c3] 29 (0, 0)) := by rw [hW1, hbq]; exact heap_alloc_new w _
  have s1 : W1.heap.size = b + 1 := by rw [hW1, hbq]; simp
  obtain ⟨W2, hW2⟩ : ∃ W2, W2 = W1.alloc (.cells #[.int .i64 a.do_, .int .i64 a.req, .string a.from_, .string a.to, .int .i64 a.n] 24) := ⟨_, rfl⟩
  have e2 : Below W1.heap.size W1 W2 := by rw [hW2]; exact (Below.refl _ _).alloc (Nat.le_refl _) _
  have z2 : W2.heap[b + 1]? = some (.cells #[.int .i64 a.do_, .int .i64 a.req, .string a.from_, .string a.to, .int .i64 a.n] 24 (0, 0)) := by rw [hW2, ← s1]; exact heap_alloc_new W1 _
  have s2 : W2.heap.size = b + 1 + 1 := by rw [hW2]; simp [s1]
  obtain ⟨W3, hW3⟩ : ∃ W3, W3 = W2.alloc (.cells #[.slice none 0 0, .slice none 0 0, .slice none 0 0] 29) := ⟨_, rfl⟩
  have e3 : Below W2.heap.size W2 W3 := by rw [hW3]; exact (Below.refl _ _).alloc (Nat.le_refl _) _
  have z3 : W3.heap[b + 1 + 1]? = some (.cells #[.slice none 0 0, .slice none 0 0, .slice none 0 0] 29 (0, 0)) := by rw [hW3, ← s2]; exact heap_alloc_new W2 _
  have s3 : W3.heap.size = b + 1 + 1 + 1 := by rw [hW3]; simp [s2]
  have z13 := ((btrans e2 e3).block b (by omega)).trans z1
  have z23 := (e3.block (b + 1) (by omega)).trans z2
  have HWB : Hid (w.heap.size = b) := hbq.symm
  have HB3 : Hid (Below w.heap.size w W3) := btrans e1 (btrans e2 e3)
  have HZ : Hid (∀ W, Below W3.heap.size W3 W → W.heap[b + 1 + 1]? = some (.cells #[.slice none 0 0, .slice none 0 0, .slice none 0 0] 29 (0, 0))) := fun W hb => (hb.block (b + 1 + 1) (by omega)).trans z3
  have HS3 := Lib.hid s3
  have k0 := block_cell z13 0 _ rfl
  have k1 := block_cell z13 1 _ rfl
  have k2 := block_cell z13 2 _ rfl
  have q0 := block_cell z23 0 _ rfl
  have q1 := block_cell z23 1 _ rfl
  have q2 := block_cell z23 2 _ rfl
  have q3 := block_cell z23 3 _ rfl
  have q4 := block_cell z23 4 _ rfl
  clear h hl hb1 hb2 hb3 hm1 hm2 hm3 e1 z1 e2 z2 e3 z3 z13 z23 s3 hf ht hr
  go_enter Tryd.func14, Tryd.ntmps14
  go_upto_region 1 with fail
  simp only [← hbq]
  rw [← hW1]
  try simp only [s1]
  rw [← hW2]
  try simp only [s2]
  rw [← hW3]
  clear hW1 hW2 hW3 s1 s2 hbq
  by_cases q0' : a.do_ = 0
  · have HE2 : Hid (R.actE a = R.mintE a.req a.n) := HE.out.trans (if_pos q0')
    have HS2 : Hid (R.actS a = if R.mintE a.req a.n = 0 then R.mint a.req a.n else R) := HS.out.trans (if_pos q0')
    have u0 : (a.do_ == 0) = true := by rw [q0']; rfl
    clear HE HS
    go_wp2_with fail
    refine (HMI.out W3 HB3.out).mono ?_
    rintro e w4 ⟨u1, u2, u3, rfl, hRL, hb4⟩
    obtain ⟨d1, x1, d2, x2, d3, x3, rfl, rfl, rfl⟩ := hRL.form
    obtain ⟨R2, hR2⟩ : ∃ R2, R2 = if R.mintE a.req a.n = 0 then R.mint a.req a.n else R := ⟨_, rfl⟩
    have HS3 : Hid (R.actS a = R2) := HS2.out.trans hR2.symm
    rw [← hR2] at hRL ⊢
    obtain ⟨er, her⟩ : ∃ er, er = R.mintE a.req a.n := ⟨_, rfl⟩
    have HE3 : Hid (R.actE a = er) := HE2.out.trans her.symm
    rw [← her]
    clear HE2 HS2
    obtain ⟨n1, hn1⟩ : ∃ n, n = R2.has.length := ⟨_, rfl⟩
    obtain ⟨n2, hn2⟩ : ∃ n, n = R2.made.length := ⟨_, rfl⟩
    obtain ⟨n3, hn3⟩ : ∃ n, n = R2.spent.length := ⟨_, rfl⟩
    rw [← hn1, ← hn2, ← hn3] at hRL ⊢
    have p2 := HZ.out w4 hb4
    obtain ⟨W9, hW9, y9, f9⟩ := set3 p2 (.slice d1 n1 x1) (.slice d2 n2 x2) (.slice d3 n3 x3)
    have HF : Hid (ActPost w (R.actS a) (R.actE a) (.returned (.tuple #[.agg #[.slice d1 n1 x1, .slice d2 n2 x2, .slice d3 n3 x3], .int .i64 er])) W9) := by
      have hlow := f9.behind (btrans HB3.out hb4) (by have := HWB.out; omega)
      rw [HE3.out, HS3.out]
      exact ⟨_, _, _, rfl, hRL.store p2 f9, hlow⟩
    have HY9 := Lib.hid y9
    have j0 := block_cell p2 0 _ rfl
    have j1 := block_cell p2 1 _ rfl
    have j2 := block_cell p2 2 _ rfl
    have f0 := block_free p2 0
    have f1 := block_free p2 1
    have f2 := block_free p2 2
    clear p2 y9 f9 hRL hb4 hn1 hn2 hn3 her hR2
    go_wp2_with fail
    have y9 := HY9.out
    have r0 := block_cell y9 0 _ rfl
    have r1 := block_cell y9 1 _ rfl
    have r2 := block_cell y9 2 _ rfl
    clear y9 hW9
    exact bodyPost_ret (v := .tuple #[.agg #[.slice d1 n1 x1, .slice d2 n2 x2, .slice d3 n3 x3], .int .i64 er]) (by simp [results, Tryd.results14, go_sem, r0, r1, r2]) rfl HF.out
  by_cases q1' : a.do_ = 1
  · have HE2 : Hid (R.actE a = R.moveE a.from_ a.to a.n) := HE.out.trans ((if_neg q0').trans (if_pos q1'))
    have HS2 : Hid (R.actS a = if R.moveE a.from_ a.to a.n = 0 then R.move a.from_ a.to a.n else R) := HS.out.trans ((if_neg q0').trans (if_pos q1'))
    have u0 : (a.do_ == 0) = false := beq_eq_false_iff_ne.2 q0'
    have u1 : (a.do_ == 1) = true := by rw [q1']; rfl
    clear HE HS
    go_wp2_with fail
    refine (HMO.out W3 HB3.out).mono ?_
    rintro e w4 ⟨u1, u2, u3, rfl, hRL, hb4⟩
    obtain ⟨d1, x1, d2, x2, d3, x3, rfl, rfl, rfl⟩ := hRL.form
    obtain ⟨R2, hR2⟩ : ∃ R2, R2 = if R.moveE a.from_ a.to a.n = 0 then R.move a.from_ a.to a.n else R := ⟨_, rfl⟩
    have HS3 : Hid (R.actS a = R2) := HS2.out.trans hR2.symm
    rw [← hR2] at hRL ⊢
    obtain ⟨er, her⟩ : ∃ er, er = R.moveE a.from_ a.to a.n := ⟨_, rfl⟩
    have HE3 : Hid (R.actE a = er) := HE2.out.trans her.symm
    rw [← her]
    clear HE2 HS2
    obtain ⟨n1, hn1⟩ : ∃ n, n = R2.has.length := ⟨_, rfl⟩
    obtain ⟨n2, hn2⟩ : ∃ n, n = R2.made.length := ⟨_, rfl⟩
    obtain ⟨n3, hn3⟩ : ∃ n, n = R2.spent.length := ⟨_, rfl⟩
    rw [← hn1, ← hn2, ← hn3] at hRL ⊢
    have p2 := HZ.out w4 hb4
    obtain ⟨W9, hW9, y9, f9⟩ := set3 p2 (.slice d1 n1 x1) (.slice d2 n2 x2) (.slice d3 n3 x3)
    have HF : Hid (ActPost w (R.actS a) (R.actE a) (.returned (.tuple #[.agg #[.slice d1 n1 x1, .slice d2 n2 x2, .slice d3 n3 x3], .int .i64 er])) W9) := by
      have hlow := f9.behind (btrans HB3.out hb4) (by have := HWB.out; omega)
      rw [HE3.out, HS3.out]
      exact ⟨_, _, _, rfl, hRL.store p2 f9, hlow⟩
    have HY9 := Lib.hid y9
    have j0 := block_cell p2 0 _ rfl
    have j1 := block_cell p2 1 _ rfl
    have j2 := block_cell p2 2 _ rfl
    have f0 := block_free p2 0
    have f1 := block_free p2 1
    have f2 := block_free p2 2
    clear p2 y9 f9 hRL hb4 hn1 hn2 hn3 her hR2
    go_wp2_with fail
    have y9 := HY9.out
    have r0 := block_cell y9 0 _ rfl
    have r1 := block_cell y9 1 _ rfl
    have r2 := block_cell y9 2 _ rfl
    clear y9 hW9
    exact bodyPost_ret (v := .tuple #[.agg #[.slice d1 n1 x1, .slice d2 n2 x2, .slice d3 n3 x3], .int .i64 er]) (by simp [results, Tryd.results14, go_sem, r0, r1, r2]) rfl HF.out
  have HE2 : Hid (R.actE a = R.mayE a.from_ a.n) := HE.out.trans ((if_neg q0').trans (if_neg q1'))
  have HS2 : Hid (R.actS a = if R.mayE a.from_ a.n = 0 then R.spend a.from_ a.n else R) := HS.out.trans ((if_neg q0').trans (if_neg q1'))
  have u0 : (a.do_ == 0) = false := beq_eq_false_iff_ne.2 q0'
  have u1 : (a.do_ == 1) = false := beq_eq_false_iff_ne.2 q1'
  clear HE HS
  go_wp2_with fail
  refine (HSP.out W3 HB3.out).mono ?_
  rintro e w4 ⟨u1, u2, u3, rfl, hRL, hb4⟩
  obtain ⟨d1, x1, d2, x2, d3, x3, rfl, rfl, rfl⟩ := hRL.form
  obtain ⟨R2, hR2⟩ : ∃ R2, R2 = if R.mayE a.from_ a.n = 0 then R.spend a.from_ a.n else R := ⟨_, rfl⟩
  have HS3 : Hid (R.actS a = R2) := HS2.out.trans hR2.symm
  rw [← hR2] at hRL ⊢
  obtain ⟨er, her⟩ : ∃ er, er = R.mayE a.from_ a.n := ⟨_, rfl⟩
  have HE3 : Hid (R.actE a = er) := HE2.out.trans her.symm
  rw [← her]
  clear HE2 HS2
  obtain ⟨n1, hn1⟩ : ∃ n, n = R2.has.length := ⟨_, rfl⟩
  obtain ⟨n2, hn2⟩ : ∃ n, n = R2.made.length := ⟨_, rfl⟩
  obtain ⟨n3, hn3⟩ : ∃ n, n = R2.spent.length := ⟨_, rfl⟩
  rw [← hn1, ← hn2, ← hn3] at hRL ⊢
  have p2 := HZ.out w4 hb4
  obtain ⟨W9, hW9, y9, f9⟩ := set3 p2 (.slice d1 n1 x1) (.slice d2 n2 x2) (.slice d3 n3 x3)
  have HF : Hid (ActPost w (R.actS a) (R.actE a) (.returned (.tuple #[.agg #[.slice d1 n1 x1, .slice d2 n2 x2, .slice d3 n3 x3], .int .i64 er])) W9) := by
    have hlow := f9.behind (btrans HB3.out hb4) (by have := HWB.out; omega)
    rw [HE3.out, HS3.out]
    exact ⟨_, _, _, rfl, hRL.store p2 f9, hlow⟩
  have HY9 := Lib.hid y9
  have j0 := block_cell p2 0 _ rfl
  have j1 := block_cell p2 1 _ rfl
  have j2 := block_cell p2 2 _ rfl
  have f0 := block_free p2 0
  have f1 := block_free p2 1
  have f2 := block_free p2 2
  clear p2 y9 f9 hRL hb4 hn1 hn2 hn3 her hR2
  go_wp2_with fail
  have y9 := HY9.out
  have r0 := block_cell y9 0 _ rfl
  have r1 := block_cell y9 1 _ rfl
  have r2 := block_cell y9 2 _ rfl
  clear y9 hW9
  exact bodyPost_ret (v := .tuple #[.agg #[.slice d1 n1 x1, .slice d2 n2 x2, .slice d3 n3 x3], .int .i64 er]) (by simp [results, Tryd.results14, go_sem, r0, r1, r2]) rfl HF.out

end Go.Proofs.YtedoalpijbggiaaDoor
