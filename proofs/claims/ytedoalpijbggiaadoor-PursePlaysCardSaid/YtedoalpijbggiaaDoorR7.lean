/- The document's ledger: Mint, Move, Spend (printed by wip/tools/genr7.py). -/
import Derived.Test.YtedoalpijbggiaaDoorR6
namespace Go.Proofs.YtedoalpijbggiaaDoor
open Go.RowKit Go.Lib
attribute [local go_sem ↓] Go.wp_at_zero Go.wp_at_succ

theorem set3 {W : World} {b : Nat} {x y z : Value} {T : TypeId} (h : W.heap[b]? = some (.cells #[x, y, z] T (0, 0))) (u1 u2 u3 : Value) :
    ∃ W', ((W.setCell ⟨b, 0, none⟩ u1).setCell ⟨b, 1, none⟩ u2).setCell ⟨b, 2, none⟩ u3 = W' ∧ W'.heap[b]? = some (.cells #[u1, u2, u3] T (0, 0)) ∧ Fr (fun k => k = b) W W' := by
  refine ⟨_, rfl, ?_, ?_⟩
  · exact setCell_block _ b 2 _ _ _ u3 (setCell_block _ b 1 _ _ _ u2 (setCell_block W b 0 _ _ _ u1 h))
  · exact ((Fr.setCell (fun k => k = b) W ⟨b, 0, none⟩ u1 rfl).trans (Fr.setCell (fun k => k = b) _ ⟨b, 1, none⟩ u2 rfl) (fun k hk => .inl hk)).trans (Fr.setCell (fun k => k = b) _ ⟨b, 2, none⟩ u3 rfl) (fun k hk => .inl hk)
theorem Fr.behind {w W W' : World} {b : Nat} (f : Fr (fun k => k = b) W W') (hb : Below w.heap.size w W) (h : w.heap.size ≤ b) : Below w.heap.size w W' :=
  ((Fr.ofBelow (F := fun _ => False) hb).trans f (fun k hk => .inr (by rw [hk]; exact h))).toBelow fun _ _ h => h
theorem RLAt.fr {w w' : World} {v1 v2 v3 : Value} {R : RL} (h : RLAt w v1 v2 v3 R) (hw : ∀ k, k < w.heap.size → w'.heap[k]? = w.heap[k]?) : RLAt w' v1 v2 v3 R := by
  obtain ⟨⟨b1, h1⟩, ⟨b2, h2⟩, b3, h3⟩ := h
  exact ⟨⟨b1, h1.keep fun g e => hw g (h1.lt g e)⟩, ⟨b2, h2.keep fun g e => hw g (h2.lt g e)⟩, b3, h3.keep fun g e => hw g (h3.lt g e)⟩
/-- A new row, behind a store into an older block. -/
theorem New.at_ {W w' w'' : World} {v : Value} {l : List Ent} {b : Nat} (h : oneK.New W w' v l) (hb : b < W.heap.size) (f : Fr (fun k => k = b) w' w'') : ∃ sb, oneK.At w'' v l sb := by
  obtain ⟨sb, h1, h2, h3⟩ := h
  exact ⟨sb, h1.keep fun g e => f.block g (h1.lt g e) (by have := h2 g e; omega)⟩
theorem New.at0 {W w' w'' : World} {v : Value} {l : List Ent} (h : oneK.New W w' v l) (hb : Below w'.heap.size w' w'') : ∃ sb, oneK.At w'' v l sb := by
  obtain ⟨sb, h1, h2, h3⟩ := h
  exact ⟨sb, h1.below hb⟩
theorem at_fr {w w' : World} {v : Value} {l : List Ent} {b : Nat} (h : ∃ sb, oneK.At w v l sb) (hne : ∀ sb, oneK.At w v l sb → sb ≠ some b) (f : Fr (fun k => k = b) w w') : ∃ sb, oneK.At w' v l sb := by
  obtain ⟨sb, h⟩ := h
  exact ⟨sb, h.keep fun g e => f.block g (h.lt g e) fun e2 => hne sb h (by rw [e, e2])⟩

def ActPost (w : World) (R' : RL) (er : Int) (e : Ending) (w' : World) : Prop := ∃ u1 u2 u3, e = .returned (.tuple #[.agg #[u1, u2, u3], .int .i64 er]) ∧ RLAt w' u1 u2 u3 R' ∧ Below w.heap.size w w'
theorem Put_at {w : World} {v : Value} {l : List Ent} (h : ∃ b, oneK.At w v l b) (hl : l.length ≤ 10001) (s : ByteArray) (n : Int) (hb : ∀ x ∈ l, -4611686018427387904 ≤ x.2 ∧ x.2 ≤ 4611686018427387903) (hn : -4611686018427387904 ≤ n ∧ n ≤ 4611686018427387903) :
    ∀ W, Below w.heap.size w W → Calls Tryd.prog 42 #[v, .string s, .int .i64 n] W fun e w' => ∃ u, e = .returned u ∧ oneK.New W w' u (putR l s n) := fun W hb2 => by
  obtain ⟨b, h⟩ := h
  exact put_any (h.below hb2) (by omega) s n hb hn
theorem putR_bd {l : List Ent} (h : ∀ x ∈ l, 0 ≤ x.2 ∧ x.2 ≤ 2147483647) (s : ByteArray) (n : Int) (hn : -2147483648 ≤ n ∧ n ≤ 2147483647) : ∀ x ∈ putR l s n, -4611686018427387904 ≤ x.2 ∧ x.2 ≤ 4611686018427387903 := by
  intro x hx
  unfold putR at hx
  rcases List.mem_append.1 hx with e | e
  · obtain ⟨y, hy, rfl⟩ := List.mem_map.1 e
    have := h y hy
    unfold putE
    split
    · show -4611686018427387904 ≤ y.2 + n ∧ _; omega
    · omega
  · split at e
    · cases e
    · rw [List.mem_singleton.1 e]; show -4611686018427387904 ≤ n ∧ _; omega

theorem ofR_bd {l : List Ent} (h : ∀ x ∈ l, 0 ≤ x.2 ∧ x.2 ≤ 2147483647) (s : ByteArray) : 0 ≤ (ofR l s).getD 0 ∧ (ofR l s).getD 0 ≤ 2147483647 := by
  unfold ofR
  cases e : l.find? (nameEq s) with
  | none => exact ⟨Int.le_refl _, by decide⟩
  | some x => exact h x (List.mem_of_find?_eq_some e)
theorem mayE_ok {R : RL} {s : ByteArray} {n : Int} (h : R.mayE s n = 0) : 0 ≤ n ∧ n ≤ (ofR R.has s).getD 0 := by
  unfold RL.mayE at h
  split at h
  · cases h
  split at h
  · cases h
  split at h
  · cases h
  · omega
theorem New.far {W w' w'' : World} {v : Value} {l : List Ent} {F : Nat → Prop} (h : oneK.New W w' v l) (f : Fr F w' w'') (hF : ∀ g, W.heap.size ≤ g → ¬ F g) : ∃ sb, oneK.At w'' v l sb := by
  obtain ⟨sb, h1, h2, h3⟩ := h
  exact ⟨sb, h1.keep fun g e => f.block g (h1.lt g e) (hF g (h2 g e))⟩
theorem set1 {W : World} {b : Nat} {x y z : Value} {T : TypeId} (h : W.heap[b]? = some (.cells #[x, y, z] T (0, 0))) (u : Value) :
    (∃ W', W.setCell ⟨b, 0, none⟩ u = W' ∧ W'.heap[b]? = some (.cells #[u, y, z] T (0, 0)) ∧ Fr (fun k => k = b) W W') ∧ ∃ W', W.setCell ⟨b, 2, none⟩ u = W' ∧ W'.heap[b]? = some (.cells #[x, y, u] T (0, 0)) ∧ Fr (fun k => k = b) W W' :=
  ⟨⟨_, rfl, setCell_block W b 0 _ _ _ u h, Fr.setCell (fun k => k = b) W ⟨b, 0, none⟩ u rfl⟩, _, rfl, setCell_block W b 2 _ _ _ u h, Fr.setCell (fun k => k = b) W ⟨b, 2, none⟩ u rfl⟩

set_option maxRecDepth 8000 in
set_option maxHeartbeats 8000000 in
theorem rmint_any {w : World} {v1 v2 v3 : Value} {R : RL} (h : RLAt w v1 v2 v3 R) (hl : R.Small) (hb1 : ∀ x ∈ R.has, 0 ≤ x.2 ∧ x.2 ≤ 2147483647) (hb2 : ∀ x ∈ R.made, 0 ≤ x.2 ∧ x.2 ≤ 2147483647) (hb3 : ∀ x ∈ R.spent, 0 ≤ x.2 ∧ x.2 ≤ 2147483647) (r n : Int) (hr : -9223372036854775808 ≤ r ∧ r ≤ 9223372036854775807) (R' : RL) (hR' : R' = if R.mintE r n = 0 then R.mint r n else R) :
    Calls Tryd.prog 31 #[.agg #[v1, v2, v3], .int .i64 r, .int .i64 n] w (ActPost w R' (R.mintE r n)) := by
  obtain ⟨a1, c1, a2, c2, a3, c3, rfl, rfl, rfl⟩ := h.form
  have H := Lib.hid h
  have HL := Lib.hid hl
  obtain ⟨m1, hm1⟩ : ∃ m, m = R.has.length := ⟨_, rfl⟩
  obtain ⟨m2, hm2⟩ : ∃ m, m = R.made.length := ⟨_, rfl⟩
  obtain ⟨m3, hm3⟩ : ∃ m, m = R.spent.length := ⟨_, rfl⟩
  have HE : Hid (R.mintE r n = if r < 1 ∨ 2147483647 < r ∨ n < 0 ∨ 2147483647 < n then 1 else if (ofR R.made (dec r)).isSome then 5 else 0) := rfl
  have HR := Lib.hid hR'
  have HD := Lib.hid (fun W => dec_all r hr W)
  have hO2 := Of_at h.2.1 hl.2.1 (dec r)
  have hP1 := fun hn => Put_at h.1 (by have := hl.1; omega) (dec r) n (fun x hx => by have := hb1 x hx; omega) hn
  have hP2 := fun hn => Put_at h.2.1 (by have := hl.2.1; omega) (dec r) n (fun x hx => by have := hb2 x hx; omega) hn
  have hP3 := Put_at h.2.2 (by have := hl.2.2; omega) (dec r) 0 (fun x hx => by have := hb3 x hx; omega) (by decide)
  rw [← hm2] at hO2 hP2
  rw [← hm1] at hP1
  rw [← hm3] at hP3
  obtain ⟨k, hk⟩ : ∃ k, k = (ofR R.made (dec r)).isSome := ⟨_, rfl⟩
  obtain ⟨k0, hk0⟩ : ∃ k, k = (ofR R.made (dec r)).getD 0 := ⟨_, rfl⟩
  rw [← hk, ← hk0] at hO2
  rw [← hk] at HE
  have HO2 := Lib.hid hO2
  have HP1 := Lib.hid hP1
  have HP2 := Lib.hid hP2
  have HP3 := Lib.hid hP3
  clear hO2 hP1 hP2 hP3 hk hk0 hR' hr
  rw [← hm1, ← hm2, ← hm3] at H ⊢
  obtain ⟨b, hbq⟩ : ∃ b, b = w.heap.size := ⟨_, rfl⟩
  obtain ⟨W1, hW1⟩ : ∃ W1, W1 = w.alloc (.cells #[.slice a1 m1 c1, .slice a2 m2 c2, .slice a3 m3 c3] 29) := ⟨_, rfl⟩
  have e1 : Below w.heap.size w W1 := by rw [hW1]; exact (Below.refl _ _).alloc (Nat.le_refl _) _
  have z1 : W1.heap[b]? = some (.cells #[.slice a1 m1 c1, .slice a2 m2 c2, .slice a3 m3 c3] 29 (0, 0)) := by rw [hW1, hbq]; exact heap_alloc_new w _
  have s1 : W1.heap.size = b + 1 := by rw [hW1, hbq]; simp
  obtain ⟨W2, hW2⟩ : ∃ W2, W2 = W1.alloc (.cells #[.slice none 0 0, .slice none 0 0, .slice none 0 0] 29) := ⟨_, rfl⟩
  have e2 : Below W1.heap.size W1 W2 := by rw [hW2]; exact (Below.refl _ _).alloc (Nat.le_refl _) _
  have z2 : W2.heap[b + 1]? = some (.cells #[.slice none 0 0, .slice none 0 0, .slice none 0 0] 29 (0, 0)) := by rw [hW2, ← s1]; exact heap_alloc_new W1 _
  have z12 := (e2.block b (by omega)).trans z1
  have s2 : W2.heap.size = b + 2 := by rw [hW2]; simp [s1]
  have hwb : w.heap.size = b := hbq.symm
  have HWB := Lib.hid hwb
  have HB2 : Hid (Below w.heap.size w W2) := btrans e1 e2
  have HZ1 : Hid (∀ W, Below W2.heap.size W2 W → W.heap[b]? = some (.cells #[.slice a1 m1 c1, .slice a2 m2 c2, .slice a3 m3 c3] 29 (0, 0)) ∧ W.heap[b + 1]? = some (.cells #[.slice none 0 0, .slice none 0 0, .slice none 0 0] 29 (0, 0))) := fun W hb => ⟨(hb.block b (by omega)).trans z12, (hb.block (b + 1) (by omega)).trans z2⟩
  have HS2 := Lib.hid s2
  clear h hl hb1 hb2 hb3 hm1 hm2 hm3 e1 z1 e2 z2 z12 s2 hwb
  go_enter Tryd.func31, Tryd.ntmps31
  go_upto_region 1 with fail
  simp only [← hbq]
  rw [← hW1]
  try simp only [s1]
  rw [← hW2]
  clear hW1 hW2 s1 hbq
  by_cases q1 : r < 1
  · have HE2 : Hid (R.mintE r n = 1) := HE.out.trans (if_pos (.inl q1))
    have HR2 : Hid (R' = R) := HR.out.trans (if_neg (by rw [HE2.out]; decide))
    rw [HE2.out]
    obtain ⟨p1, p2⟩ := HZ1.out W2 (Below.refl _ _)
    have k0 := block_cell p1 0 _ rfl
    have k1 := block_cell p1 1 _ rfl
    have k2 := block_cell p1 2 _ rfl
    have g0 := block_free p1 0
    have j0 := block_cell p2 0 _ rfl
    have j1 := block_cell p2 1 _ rfl
    have j2 := block_cell p2 2 _ rfl
    have f0 := block_free p2 0
    have f1 := block_free p2 1
    have f2 := block_free p2 2
    obtain ⟨W9, hW9, y9, f9⟩ := set3 p2 (.slice a1 m1 c1) (.slice a2 m2 c2) (.slice a3 m3 c3)
    have HF : Hid (ActPost w R' 1 (.returned (.tuple #[.agg #[.slice a1 m1 c1, .slice a2 m2 c2, .slice a3 m3 c3], .int .i64 1])) W9) := by
      have hbb : Below w.heap.size w W2 := btrans HB2.out (Below.refl _ _)
      have hlow := f9.behind hbb (by have := HWB.out; omega)
      refine ⟨_, _, _, rfl, ?_, hlow⟩
      rw [HR2.out]
      exact H.out.fr fun k hk => hlow.block k hk
    have HY9 := Lib.hid y9
    clear p1 p2 y9 f9
    go_wp2_with fail
    have y9 := HY9.out
    have r0 := block_cell y9 0 _ rfl
    have r1 := block_cell y9 1 _ rfl
    have r2 := block_cell y9 2 _ rfl
    clear y9 hW9
    try rw [HE2.out]
    exact bodyPost_ret (v := .tuple #[.agg #[.slice a1 m1 c1, .slice a2 m2 c2, .slice a3 m3 c3], .int .i64 1]) (by simp [results, Tryd.results31, go_sem, r0, r1, r2]) rfl HF.out
  by_cases q2 : 2147483647 < r
  · have HE2 : Hid (R.mintE r n = 1) := HE.out.trans (if_pos (.inr (.inl q2)))
    have HR2 : Hid (R' = R) := HR.out.trans (if_neg (by rw [HE2.out]; decide))
    rw [HE2.out]
    obtain ⟨p1, p2⟩ := HZ1.out W2 (Below.refl _ _)
    have k0 := block_cell p1 0 _ rfl
    have k1 := block_cell p1 1 _ rfl
    have k2 := block_cell p1 2 _ rfl
    have g0 := block_free p1 0
    have j0 := block_cell p2 0 _ rfl
    have j1 := block_cell p2 1 _ rfl
    have j2 := block_cell p2 2 _ rfl
    have f0 := block_free p2 0
    have f1 := block_free p2 1
    have f2 := block_free p2 2
    obtain ⟨W9, hW9, y9, f9⟩ := set3 p2 (.slice a1 m1 c1) (.slice a2 m2 c2) (.slice a3 m3 c3)
    have HF : Hid (ActPost w R' 1 (.returned (.tuple #[.agg #[.slice a1 m1 c1, .slice a2 m2 c2, .slice a3 m3 c3], .int .i64 1])) W9) := by
      have hbb : Below w.heap.size w W2 := btrans HB2.out (Below.refl _ _)
      have hlow := f9.behind hbb (by have := HWB.out; omega)
      refine ⟨_, _, _, rfl, ?_, hlow⟩
      rw [HR2.out]
      exact H.out.fr fun k hk => hlow.block k hk
    have HY9 := Lib.hid y9
    clear p1 p2 y9 f9
    go_wp2_with fail
    have y9 := HY9.out
    have r0 := block_cell y9 0 _ rfl
    have r1 := block_cell y9 1 _ rfl
    have r2 := block_cell y9 2 _ rfl
    clear y9 hW9
    try rw [HE2.out]
    exact bodyPost_ret (v := .tuple #[.agg #[.slice a1 m1 c1, .slice a2 m2 c2, .slice a3 m3 c3], .int .i64 1]) (by simp [results, Tryd.results31, go_sem, r0, r1, r2]) rfl HF.out
  by_cases q3 : n < 0
  · have HE2 : Hid (R.mintE r n = 1) := HE.out.trans (if_pos (.inr (.inr (.inl q3))))
    have HR2 : Hid (R' = R) := HR.out.trans (if_neg (by rw [HE2.out]; decide))
    rw [HE2.out]
    obtain ⟨p1, p2⟩ := HZ1.out W2 (Below.refl _ _)
    have k0 := block_cell p1 0 _ rfl
    have k1 := block_cell p1 1 _ rfl
    have k2 := block_cell p1 2 _ rfl
    have g0 := block_free p1 0
    have j0 := block_cell p2 0 _ rfl
    have j1 := block_cell p2 1 _ rfl
    have j2 := block_cell p2 2 _ rfl
    have f0 := block_free p2 0
    have f1 := block_free p2 1
    have f2 := block_free p2 2
    obtain ⟨W9, hW9, y9, f9⟩ := set3 p2 (.slice a1 m1 c1) (.slice a2 m2 c2) (.slice a3 m3 c3)
    have HF : Hid (ActPost w R' 1 (.returned (.tuple #[.agg #[.slice a1 m1 c1, .slice a2 m2 c2, .slice a3 m3 c3], .int .i64 1])) W9) := by
      have hbb : Below w.heap.size w W2 := btrans HB2.out (Below.refl _ _)
      have hlow := f9.behind hbb (by have := HWB.out; omega)
      refine ⟨_, _, _, rfl, ?_, hlow⟩
      rw [HR2.out]
      exact H.out.fr fun k hk => hlow.block k hk
    have HY9 := Lib.hid y9
    clear p1 p2 y9 f9
    go_wp2_with fail
    have y9 := HY9.out
    have r0 := block_cell y9 0 _ rfl
    have r1 := block_cell y9 1 _ rfl
    have r2 := block_cell y9 2 _ rfl
    clear y9 hW9
    try rw [HE2.out]
    exact bodyPost_ret (v := .tuple #[.agg #[.slice a1 m1 c1, .slice a2 m2 c2, .slice a3 m3 c3], .int .i64 1]) (by simp [results, Tryd.results31, go_sem, r0, r1, r2]) rfl HF.out
  by_cases q4 : 2147483647 < n
  · have HE2 : Hid (R.mintE r n = 1) := HE.out.trans (if_pos (.inr (.inr (.inr q4))))
    have HR2 : Hid (R' = R) := HR.out.trans (if_neg (by rw [HE2.out]; decide))
    rw [HE2.out]
    obtain ⟨p1, p2⟩ := HZ1.out W2 (Below.refl _ _)
    have k0 := block_cell p1 0 _ rfl
    have k1 := block_cell p1 1 _ rfl
    have k2 := block_cell p1 2 _ rfl
    have g0 := block_free p1 0
    have j0 := block_cell p2 0 _ rfl
    have j1 := block_cell p2 1 _ rfl
    have j2 := block_cell p2 2 _ rfl
    have f0 := block_free p2 0
    have f1 := block_free p2 1
    have f2 := block_free p2 2
    obtain ⟨W9, hW9, y9, f9⟩ := set3 p2 (.slice a1 m1 c1) (.slice a2 m2 c2) (.slice a3 m3 c3)
    have HF : Hid (ActPost w R' 1 (.returned (.tuple #[.agg #[.slice a1 m1 c1, .slice a2 m2 c2, .slice a3 m3 c3], .int .i64 1])) W9) := by
      have hbb : Below w.heap.size w W2 := btrans HB2.out (Below.refl _ _)
      have hlow := f9.behind hbb (by have := HWB.out; omega)
      refine ⟨_, _, _, rfl, ?_, hlow⟩
      rw [HR2.out]
      exact H.out.fr fun k hk => hlow.block k hk
    have HY9 := Lib.hid y9
    clear p1 p2 y9 f9
    go_wp2_with fail
    have y9 := HY9.out
    have r0 := block_cell y9 0 _ rfl
    have r1 := block_cell y9 1 _ rfl
    have r2 := block_cell y9 2 _ rfl
    clear y9 hW9
    try rw [HE2.out]
    exact bodyPost_ret (v := .tuple #[.agg #[.slice a1 m1 c1, .slice a2 m2 c2, .slice a3 m3 c3], .int .i64 1]) (by simp [results, Tryd.results31, go_sem, r0, r1, r2]) rfl HF.out
  have HE2 : Hid (R.mintE r n = if k = true then 5 else 0) := HE.out.trans (if_neg (by omega))
  clear HE
  have HN : Hid (-4611686018427387904 ≤ n ∧ n ≤ 4611686018427387903) := by show _ ∧ _; omega
  go_wp2_with fail
  refine (HD.out _).mono ?_
  rintro e w3 ⟨rfl, b3⟩
  have HB3 := Lib.hid b3
  clear b3
  obtain ⟨p1, p2⟩ := HZ1.out w3 HB3.out
  have k0 := block_cell p1 0 _ rfl
  have k1 := block_cell p1 1 _ rfl
  have k2 := block_cell p1 2 _ rfl
  have g0 := block_free p1 0
  have j0 := block_cell p2 0 _ rfl
  have j1 := block_cell p2 1 _ rfl
  have j2 := block_cell p2 2 _ rfl
  have f0 := block_free p2 0
  have f1 := block_free p2 1
  have f2 := block_free p2 2
  have HO2' := Lib.hid (HO2.out w3 (btrans HB2.out HB3.out))
  cases k with
  | true =>
    have HE3 : Hid (R.mintE r n = 5) := HE2.out
    have HR2 : Hid (R' = R) := HR.out.trans (if_neg (by rw [HE3.out]; decide))
    rw [HE3.out]
    go_wp2_with fail
    refine HO2'.out.mono ?_
    rintro e w4 ⟨rfl, hw4⟩
    rw [hw4]
    clear hw4 w4
    obtain ⟨W9, hW9, y9, f9⟩ := set3 p2 (.slice a1 m1 c1) (.slice a2 m2 c2) (.slice a3 m3 c3)
    have HF : Hid (ActPost w R' 5 (.returned (.tuple #[.agg #[.slice a1 m1 c1, .slice a2 m2 c2, .slice a3 m3 c3], .int .i64 5])) W9) := by
      have hbb : Below w.heap.size w w3 := btrans HB2.out HB3.out
      have hlow := f9.behind hbb (by have := HWB.out; omega)
      refine ⟨_, _, _, rfl, ?_, hlow⟩
      rw [HR2.out]
      exact H.out.fr fun k hk => hlow.block k hk
    have HY9 := Lib.hid y9
    clear p1 p2 y9 f9
    go_wp2_with fail
    have y9 := HY9.out
    have r0 := block_cell y9 0 _ rfl
    have r1 := block_cell y9 1 _ rfl
    have r2 := block_cell y9 2 _ rfl
    clear y9 hW9
    try rw [HE3.out]
    exact bodyPost_ret (v := .tuple #[.agg #[.slice a1 m1 c1, .slice a2 m2 c2, .slice a3 m3 c3], .int .i64 5]) (by simp [results, Tryd.results31, go_sem, r0, r1, r2]) rfl HF.out
  | false =>
    have HE3 : Hid (R.mintE r n = 0) := HE2.out
    have HR2 : Hid (R' = R.mint r n) := HR.out.trans (if_pos HE3.out)
    rw [HE3.out]
    clear p1 p2
    go_wp2_with fail
    refine HO2'.out.mono ?_
    rintro e w4 ⟨rfl, hw4⟩
    rw [hw4]
    clear hw4 w4
    go_wp2_with fail
    refine wp_region_held_drew (S := fun W => W.cell? ⟨b, 0, none⟩ = some (.slice a1 m1 c1) ∧ W.cell? ⟨b, 1, none⟩ = some (.slice a2 m2 c2) ∧ W.cell? ⟨b, 2, none⟩ = some (.slice a3 m3 c3)) (by kernel_rfl) ⟨k0, k1, k2⟩ (fun hHeld => ?_)
    clear k0 k1 k2 j0 j1 j2 f0 f1 f2 g0
    refine wpAnyH_take (i := 0) (v := ?_) rfl (by kernel_rfl) (by kernel_rfl) (by kernel_rfl) (fun _ _ _ h => h) (Or.inl ⟨by kernel_rfl, ?_⟩) (by assumption) ?_
    rotate_left
    · (intro w hSw; (try dsimp only at hSw); go_simp; try with_reducible rfl)
    try simp only [Act.put]
    refine wpAnyH_take (i := 1) (v := ?_) rfl (by kernel_rfl) (by kernel_rfl) (by kernel_rfl) (fun _ _ _ h => h) (Or.inl ⟨by kernel_rfl, ?_⟩) (by assumption) ?_
    rotate_left
    · (intro w hSw; (try dsimp only at hSw); go_simp; try with_reducible rfl)
    try simp only [Act.put]
    refine wpAnyH_take (i := 2) (v := ?_) rfl (by kernel_rfl) (by kernel_rfl) (by kernel_rfl) (fun _ _ _ h => h) (Or.inl ⟨by kernel_rfl, ?_⟩) (by assumption) ?_
    rotate_left
    · (intro w hSw; (try dsimp only at hSw); go_simp; try with_reducible rfl)
    try simp only [Act.put]
    refine wpAnyH_take (i := 3) (v := ?_) rfl (by kernel_rfl) (by kernel_rfl) (by kernel_rfl) (fun _ _ _ h => h) (Or.inl ⟨by kernel_rfl, ?_⟩) (by assumption) ?_
    rotate_left
    · (intro w hSw; (try dsimp only at hSw); go_simp; try with_reducible rfl)
    try simp only [Act.put]
    refine wpAnyH_take (i := 5) (v := ?_) rfl (by kernel_rfl) (by kernel_rfl) (by kernel_rfl) (fun _ _ _ h => h) (Or.inl ⟨by kernel_rfl, ?_⟩) (by assumption) ?_
    rotate_left
    · (intro w hSw; (try dsimp only at hSw); go_simp; try with_reducible rfl)
    try simp only [Act.put]
    refine wpAnyH_take (i := 6) (v := ?_) rfl (by kernel_rfl) (by kernel_rfl) (by kernel_rfl) (fun _ _ _ h => h) (Or.inl ⟨by kernel_rfl, ?_⟩) (by assumption) ?_
    rotate_left
    · (intro w hSw; (try dsimp only at hSw); go_simp; try with_reducible rfl)
    try simp only [Act.put]
    refine wpAnyH_take (i := 7) (v := ?_) rfl (by kernel_rfl) (by kernel_rfl) (by kernel_rfl) (fun _ _ _ h => h) (Or.inl ⟨by kernel_rfl, ?_⟩) (by assumption) ?_
    rotate_left
    · (intro w hSw; (try dsimp only at hSw); go_simp; try with_reducible rfl)
    try simp only [Act.put]
    refine wpAnyH_take (i := 8) (v := ?_) rfl (by kernel_rfl) (by kernel_rfl) (by kernel_rfl) (fun _ _ _ h => h) (Or.inl ⟨by kernel_rfl, ?_⟩) (by assumption) ?_
    rotate_left
    · (intro w hSw; (try dsimp only at hSw); go_simp; try with_reducible rfl)
    try simp only [Act.put]
    refine wpAnyH_take (i := 10) (v := ?_) rfl (by kernel_rfl) (by kernel_rfl) (by kernel_rfl) (fun _ _ _ h => h) (Or.inl ⟨by kernel_rfl, ?_⟩) (by assumption) ?_
    rotate_left
    · (intro w hSw; (try dsimp only at hSw); go_simp; try with_reducible rfl)
    try simp only [Act.put]
    refine wpAnyH_take (i := 11) (v := ?_) rfl (by kernel_rfl) (by kernel_rfl) (by kernel_rfl) (fun _ _ _ h => h) (Or.inl ⟨by kernel_rfl, ?_⟩) (by assumption) ?_
    rotate_left
    · (intro w hSw; (try dsimp only at hSw); go_simp; try with_reducible rfl)
    try simp only [Act.put]
    refine wpAnyH_take (i := 12) (v := ?_) rfl (by kernel_rfl) (by kernel_rfl) (by kernel_rfl) (fun _ _ _ h => h) (Or.inl ⟨by kernel_rfl, ?_⟩) (by assumption) ?_
    rotate_left
    · (intro w hSw; (try dsimp only at hSw); go_simp; try with_reducible rfl)
    try simp only [Act.put]
    refine wpAnyH_ready (rs := [4]) (by kernel_rfl) (by simp) ?_
    refine AllReadyH.cons rfl (fun K hK => ?_) AllReadyH.nil
    go_simp
    refine (HP1.out HN.out _ (btrans HB2.out (btrans HB3.out (Below.refl _ _).drew))).mono ?_
    rintro e w4 ⟨u1, rfl, hN1⟩
    obtain ⟨la1, lc1, rfl⟩ := hN1.form
    have HB4 := Lib.hid (btrans HB3.out (bdrew hN1.below))
    have HL1 := Lib.hid hN1
    obtain ⟨p1, p2⟩ := HZ1.out w4 HB4.out
    refine hK.out _ _ (⟨block_cell p1 0 _ rfl, block_cell p1 1 _ rfl, block_cell p1 2 _ rfl⟩) (fun hHeld => ?_)
    clear hK K
    try simp only [Act.put]
    clear p1 p2
    refine wpAnyH_ready (rs := [9]) (by kernel_rfl) (by simp) ?_
    refine AllReadyH.cons rfl (fun K hK => ?_) AllReadyH.nil
    go_simp
    refine (HP2.out HN.out _ (btrans HB2.out HB4.out)).mono ?_
    rintro e w5 ⟨u2, rfl, hN2⟩
    obtain ⟨la2, lc2, rfl⟩ := hN2.form
    have HB5 := Lib.hid (btrans HB4.out hN2.below)
    have HL2 := Lib.hid hN2
    obtain ⟨p1, p2⟩ := HZ1.out w5 HB5.out
    refine hK.out _ _ (⟨block_cell p1 0 _ rfl, block_cell p1 1 _ rfl, block_cell p1 2 _ rfl⟩) (fun hHeld => ?_)
    clear hK K
    try simp only [Act.put]
    clear p1 p2
    refine wpAnyH_ready (rs := [13]) (by kernel_rfl) (by simp) ?_
    refine AllReadyH.cons rfl (fun K hK => ?_) AllReadyH.nil
    go_simp
    refine (HP3.out _ (btrans HB2.out HB5.out)).mono ?_
    rintro e w6 ⟨u3, rfl, hN3⟩
    obtain ⟨la3, lc3, rfl⟩ := hN3.form
    have HB6 := Lib.hid (btrans HB5.out hN3.below)
    have HL3 := Lib.hid hN3
    obtain ⟨p1, p2⟩ := HZ1.out w6 HB6.out
    refine hK.out _ _ (⟨block_cell p1 0 _ rfl, block_cell p1 1 _ rfl, block_cell p1 2 _ rfl⟩) (fun hHeld => ?_)
    clear hK K
    try simp only [Act.put]
    refine wpAnyH_take (i := 14) (v := ?_) rfl (by kernel_rfl) (by kernel_rfl) (by kernel_rfl) (fun _ _ _ h => h) (Or.inl ⟨by kernel_rfl, ?_⟩) (by assumption) ?_
    rotate_left
    · (intro w hSw; (try dsimp only at hSw); go_simp; try with_reducible rfl)
    try simp only [Act.put]
    have j0 := block_cell p2 0 _ rfl
    have j1 := block_cell p2 1 _ rfl
    have j2 := block_cell p2 2 _ rfl
    have f0 := block_free p2 0
    have f1 := block_free p2 1
    have f2 := block_free p2 2
    obtain ⟨W9, hW9, y9, f9⟩ := set3 p2 (.slice la1 (putR R.has (dec r) n).length lc1) (.slice la2 (putR R.made (dec r) n).length lc2) (.slice la3 (putR R.spent (dec r) 0).length lc3)
    have x1 := (f9.block b (by have := HS2.out; have := HB6.out.size; omega) (by omega)).trans p1
    refine wpAnyH_ready (rs := [15]) (by kernel_rfl) (by simp) ?_
    refine AllReadyH.cons rfl (fun K hK => ?_) AllReadyH.nil
    go_simp
    refine hK.out _ _ (⟨block_cell x1 0 _ rfl, block_cell x1 1 _ rfl, block_cell x1 2 _ rfl⟩) (fun hHeld => ?_)
    clear hK K
    try simp only [Act.put]
    refine wpAnyH_take (i := 16) (v := ?_) rfl (by kernel_rfl) (by kernel_rfl) (by kernel_rfl) (fun _ _ _ h => h) (Or.inl ⟨by kernel_rfl, ?_⟩) (by assumption) ?_
    rotate_left
    · (intro w hSw; (try dsimp only at hSw); go_simp; try with_reducible rfl)
    try simp only [Act.put]
    refine wpAnyH_done (by kernel_rfl) ?_ _
    try simp only [Act.put]
    have HF : Hid (ActPost w R' 0 (.returned (.tuple #[.agg #[.slice la1 (putR R.has (dec r) n).length lc1, .slice la2 (putR R.made (dec r) n).length lc2, .slice la3 (putR R.spent (dec r) 0).length lc3], .int .i64 0])) W9) := by
      have hlow := f9.behind (btrans HB2.out HB6.out) (by have := HWB.out; omega)
      refine ⟨_, _, _, rfl, ?_, hlow⟩
      rw [HR2.out]
      have q2 := HS2.out
      have q3 := HB3.out.size
      have q4 := HB4.out.size
      have q5 := HB5.out.size
      exact ⟨New.at_ (HL1.out.keep (btrans HL2.out.below HL3.out.below)) (by show b + 1 < w3.heap.size; omega) f9, New.at_ (HL2.out.keep HL3.out.below) (by omega) f9, New.at_ HL3.out (by omega) f9⟩
    have HY9 := Lib.hid y9
    clear hHeld p1 p2 y9 f9 hW9 x1 j0 j1 j2 f0 f1 f2 hN1 hN2 hN3
    go_simp
    go_wp2_with fail
    have y9 := HY9.out
    have r0 := block_cell y9 0 _ rfl
    have r1 := block_cell y9 1 _ rfl
    have r2 := block_cell y9 2 _ rfl
    clear y9
    try rw [HE3.out]
    exact bodyPost_ret (v := .tuple #[.agg #[.slice la1 (putR R.has (dec r) n).length lc1, .slice la2 (putR R.made (dec r) n).length lc2, .slice la3 (putR R.spent (dec r) 0).length lc3], .int .i64 0]) (by simp [results, Tryd.results31, go_sem, r0, r1, r2]) rfl HF.out

set_option maxRecDepth 8000 in
set_option maxHeartbeats 8000000 in
theorem rspend_any {w : World} {v1 v2 v3 : Value} {R : RL} (h : RLAt w v1 v2 v3 R) (hl : R.Small) (hb1 : ∀ x ∈ R.has, 0 ≤ x.2 ∧ x.2 ≤ 2147483647) (_hb2 : ∀ x ∈ R.made, 0 ≤ x.2 ∧ x.2 ≤ 2147483647) (hb3 : ∀ x ∈ R.spent, 0 ≤ x.2 ∧ x.2 ≤ 2147483647) (s : ByteArray) (hs : s.size ≤ 2147483647) (n : Int) (R' : RL) (hR' : R' = if R.mayE s n = 0 then R.spend s n else R) :
    Calls Tryd.prog 33 #[.agg #[v1, v2, v3], .string s, .int .i64 n] w (ActPost w R' (R.mayE s n)) := by
  obtain ⟨a1, c1, a2, c2, a3, c3, rfl, rfl, rfl⟩ := h.form
  have H := Lib.hid h
  have HL := Lib.hid hl
  obtain ⟨m1, hm1⟩ : ∃ m, m = R.has.length := ⟨_, rfl⟩
  obtain ⟨m2, hm2⟩ : ∃ m, m = R.made.length := ⟨_, rfl⟩
  obtain ⟨m3, hm3⟩ : ∃ m, m = R.spent.length := ⟨_, rfl⟩
  have HR := Lib.hid hR'
  have HMY := Lib.hid (fun W (hb : Below w.heap.size w W) => may_any (h.below hb) hl s hs n)
  have hr0 := reqOf_nonneg s
  have hr1 : reqOf s ≤ 2147483647 := by
    unfold reqOf numOf
    split
    · split
      · rename_i h; exact h.2.1
      · decide
    · decide
  have HD := Lib.hid (fun W => dec_all (reqOf s) (by omega) W)
  have HRQ := Lib.hid (fun W => rrequest_all s hs W)
  have hob := ofR_bd hb1 s
  have hmo := fun h0 => mayE_ok (R := R) (s := s) (n := n) h0
  have hP1 := fun hn => Put_at h.1 (by have := hl.1; omega) s (-n) (fun x hx => by have := hb1 x hx; omega) hn
  have hP3 := fun hn => Put_at h.2.2 (by have := hl.2.2; omega) (dec (reqOf s)) n (fun x hx => by have := hb3 x hx; omega) hn
  rw [← hm1] at hP1
  rw [← hm3] at hP3
  have HP1 := Lib.hid hP1
  have HP3 := Lib.hid hP3
  rw [← hm1, ← hm2, ← hm3] at HMY
  obtain ⟨er, her⟩ : ∃ er, er = R.mayE s n := ⟨_, rfl⟩
  rw [← her] at hR' HR HMY hmo ⊢
  have HMO : Hid (er = 0 → 0 ≤ n ∧ n ≤ 2147483647) := fun h0 => by have := hmo h0; omega
  clear hP1 hP3 hR' hs her hr0 hr1 hmo hob
  rw [← hm1, ← hm2, ← hm3] at H ⊢
  obtain ⟨b, hbq⟩ : ∃ b, b = w.heap.size := ⟨_, rfl⟩
  obtain ⟨W1, hW1⟩ : ∃ W1, W1 = w.alloc (.cells #[.slice a1 m1 c1, .slice a2 m2 c2, .slice a3 m3 c3] 29) := ⟨_, rfl⟩
  have e1 : Below w.heap.size w W1 := by rw [hW1]; exact (Below.refl _ _).alloc (Nat.le_refl _) _
  have z1 : W1.heap[b]? = some (.cells #[.slice a1 m1 c1, .slice a2 m2 c2, .slice a3 m3 c3] 29 (0, 0)) := by rw [hW1, hbq]; exact heap_alloc_new w _
  have s1 : W1.heap.size = b + 1 := by rw [hW1, hbq]; simp
  obtain ⟨W2, hW2⟩ : ∃ W2, W2 = W1.alloc (.cells #[.slice none 0 0, .slice none 0 0, .slice none 0 0] 29) := ⟨_, rfl⟩
  have e2 : Below W1.heap.size W1 W2 := by rw [hW2]; exact (Below.refl _ _).alloc (Nat.le_refl _) _
  have z2 : W2.heap[b + 1]? = some (.cells #[.slice none 0 0, .slice none 0 0, .slice none 0 0] 29 (0, 0)) := by rw [hW2, ← s1]; exact heap_alloc_new W1 _
  have z12 := (e2.block b (by omega)).trans z1
  have s2 : W2.heap.size = b + 2 := by rw [hW2]; simp [s1]
  have hwb : w.heap.size = b := hbq.symm
  have HWB := Lib.hid hwb
  have HB2 : Hid (Below w.heap.size w W2) := btrans e1 e2
  have HZ1 : Hid (∀ W, Below W2.heap.size W2 W → W.heap[b]? = some (.cells #[.slice a1 m1 c1, .slice a2 m2 c2, .slice a3 m3 c3] 29 (0, 0)) ∧ W.heap[b + 1]? = some (.cells #[.slice none 0 0, .slice none 0 0, .slice none 0 0] 29 (0, 0))) := fun W hb => ⟨(hb.block b (by omega)).trans z12, (hb.block (b + 1) (by omega)).trans z2⟩
  have HS2 := Lib.hid s2
  clear h hl hb1 hb3 hm1 hm2 hm3 e1 z1 e2 z2 z12 s2 hwb
  go_enter Tryd.func33, Tryd.ntmps33
  go_upto_region 1 with fail
  simp only [← hbq]
  rw [← hW1]
  try simp only [s1]
  rw [← hW2]
  clear hW1 hW2 s1 hbq
  obtain ⟨p1, p2⟩ := HZ1.out W2 (Below.refl _ _)
  have k0 := block_cell p1 0 _ rfl
  have k1 := block_cell p1 1 _ rfl
  have k2 := block_cell p1 2 _ rfl
  clear p1 p2
  go_wp2_with fail
  clear k0 k1 k2
  refine (HMY.out W2 HB2.out).mono ?_
  rintro e w3 ⟨rfl, b3⟩
  have HB3 := Lib.hid b3
  clear b3
  by_cases q : er = 0
  · have HR2 : Hid (R' = R.spend s n) := HR.out.trans (if_pos q)
    have hn := HMO.out q
    have gn : IntKind.i64.wrap (-n) = -n := IntWalk.i64_in _ (by omega)
    have HP1' := Lib.hid (HP1.out (by omega) w3 (btrans HB2.out HB3.out))
    have HP3' := Lib.hid (HP3.out (by omega))
    have hs2 := HS2.out
    have hz3 := HB3.out.size
    subst q
    clear HP1 HP3
    obtain ⟨p1, p2⟩ := HZ1.out w3 HB3.out
    have k0 := block_cell p1 0 _ rfl
    have k1 := block_cell p1 1 _ rfl
    have k2 := block_cell p1 2 _ rfl
    have g0 := block_free p1 0
    have g1 := block_free p1 1
    have g2 := block_free p1 2
    clear p1 p2
    go_wp2_with fail
    refine HP1'.out.mono ?_
    rintro e w4 ⟨u1, rfl, hN1⟩
    obtain ⟨la1, lc1, rfl⟩ := hN1.form
    have HB4 := Lib.hid (btrans HB3.out hN1.below)
    have HL1 := Lib.hid hN1
    obtain ⟨p1, p2⟩ := HZ1.out w4 HB4.out
    obtain ⟨⟨W5, hW5, y5, f5⟩, -⟩ := set1 p1 (.slice la1 (putR R.has s (-n)).length lc1)
    have hb5 : b + 1 < w4.heap.size := by have := HB4.out.size; omega
    have y52 := (f5.block (b + 1) hb5 (by omega)).trans p2
    have h45 : w4.heap.size ≤ W5.heap.size := f5.size
    have HX : Hid (∀ W, Below W5.heap.size W5 W → W.heap[b]? = some (.cells #[.slice la1 (putR R.has s (-n)).length lc1, .slice a2 m2 c2, .slice a3 m3 c3] 29 (0, 0)) ∧ W.heap[b + 1]? = some (.cells #[.slice none 0 0, .slice none 0 0, .slice none 0 0] 29 (0, 0))) := fun W hb => ⟨(hb.block b (by omega)).trans y5, (hb.block (b + 1) (by omega)).trans y52⟩
    have HW5 : Hid (Fr (fun k => k = b ∨ k = b + 1) w4 W5) := f5.mono fun k hk => .inl hk
    have HB5 : Hid (Below w.heap.size w W5) := f5.behind (btrans HB2.out HB4.out) (by have := HWB.out; omega)
    have i0 := block_cell p1 0 _ rfl
    have i1 := block_cell p1 1 _ rfl
    have i2 := block_cell p1 2 _ rfl
    have t0 := block_free p1 0
    have t1 := block_free p1 1
    have t2 := block_free p1 2
    clear p1 p2 y5 y52 f5 h45
    go_upto_region 5 with fail
    clear hW5 i0 i1 i2 t0 t1 t2 k0 k1 k2 g0 g1 g2
    have hx5 := (HX.out W5 (Below.refl _ _)).1
    refine wp_region_split_held 7 (fun W => W.cell? ⟨b, 2, none⟩ = some (.slice a3 m3 c3)) (by kernel_rfl) (by kernel_rfl) (block_cell hx5 2 _ rfl) (fun K0 hK0 hHeld => ?_)
    clear hx5
    simp only [List.take_succ_cons, List.take_zero]
    refine wpAnyH_take (i := 0) (v := ?_) rfl (by kernel_rfl) (by kernel_rfl) (by kernel_rfl) (fun _ _ _ h => h) (Or.inl ⟨by kernel_rfl, ?_⟩) (by assumption) ?_
    rotate_left
    · (intro w hSw; (try dsimp only at hSw); go_simp; try with_reducible rfl)
    try simp only [Act.put]
    refine wpAnyH_take (i := 1) (v := ?_) rfl (by kernel_rfl) (by kernel_rfl) (by kernel_rfl) (fun _ _ _ h => h) (Or.inl ⟨by kernel_rfl, ?_⟩) (by assumption) ?_
    rotate_left
    · (intro w hSw; (try dsimp only at hSw); go_simp; try with_reducible rfl)
    try simp only [Act.put]
    refine wpAnyH_take (i := 2) (v := ?_) rfl (by kernel_rfl) (by kernel_rfl) (by kernel_rfl) (fun _ _ _ h => h) (Or.inl ⟨by kernel_rfl, ?_⟩) (by assumption) ?_
    rotate_left
    · (intro w hSw; (try dsimp only at hSw); go_simp; try with_reducible rfl)
    try simp only [Act.put]
    refine wpAnyH_take (i := 5) (v := ?_) rfl (by kernel_rfl) (by kernel_rfl) (by kernel_rfl) (fun _ _ _ h => h) (Or.inl ⟨by kernel_rfl, ?_⟩) (by assumption) ?_
    rotate_left
    · (intro w hSw; (try dsimp only at hSw); go_simp; try with_reducible rfl)
    try simp only [Act.put]
    refine wpAnyH_ready (rs := [3]) (by kernel_rfl) (by simp) ?_
    refine AllReadyH.cons rfl (fun K hK => ?_) AllReadyH.nil
    go_simp
    refine (HRQ.out _).mono ?_
    rintro e w6 ⟨rfl, b6⟩
    have HB6 := Lib.hid (bdrew b6)
    clear b6
    refine hK.out _ _ (block_cell (HX.out w6 HB6.out).1 2 _ rfl) (fun hHeld => ?_)
    clear hK K
    try simp only [Act.put]
    refine wpAnyH_ready (rs := [4]) (by kernel_rfl) (by simp) ?_
    refine AllReadyH.cons rfl (fun K hK => ?_) AllReadyH.nil
    go_simp
    refine (HD.out _).mono ?_
    rintro e w7 ⟨rfl, b7⟩
    have HB7 := Lib.hid (btrans HB6.out b7)
    clear b7
    refine hK.out _ _ (block_cell (HX.out w7 HB7.out).1 2 _ rfl) (fun hHeld => ?_)
    clear hK K
    try simp only [Act.put]
    refine wpAnyH_ready (rs := [6]) (by kernel_rfl) (by simp) ?_
    refine AllReadyH.cons rfl (fun K hK => ?_) AllReadyH.nil
    go_simp
    refine (HP3'.out w7 (btrans HB5.out HB7.out)).mono ?_
    rintro e w8 ⟨u3, rfl, hN3⟩
    obtain ⟨la3, lc3, rfl⟩ := hN3.form
    have HB8 := Lib.hid (btrans HB7.out hN3.below)
    have HL3 := Lib.hid hN3
    have hz5 : b + 1 < W5.heap.size := by have := HW5.out.size; omega
    obtain ⟨p1, p2⟩ := HX.out w8 HB8.out
    refine hK.out _ _ (block_cell p1 2 _ rfl) (fun hHeld => ?_)
    clear hK K
    try simp only [Act.put]
    have q2 := block_free p1 2
    have cc2 := block_cell p1 2 _ rfl
    obtain ⟨-, W10, hW10, y10, f10⟩ := set1 p1 (.slice la3 (putR R.spent (dec (reqOf s)) n).length lc3)
    have hb8 : b + 1 < w8.heap.size := by have := HB8.out.size; omega
    have y102 := (f10.block (b + 1) hb8 (by omega)).trans p2
    refine wpAnyH_done (by kernel_rfl) ?_ _
    simp only [Exit.then]
    refine hK0 _ _ ?_
    clear hK0 K0 hHeld
    try simp only [Act.put]
    obtain ⟨W9, hW9, y9, f9⟩ := set3 y102 (.slice la1 (putR R.has s (-n)).length lc1) (.slice a2 m2 c2) (.slice la3 (putR R.spent (dec (reqOf s)) n).length lc3)
    have HFR : Hid (Fr (fun k => k = b ∨ k = b + 1) w8 W9) := (f10.mono fun k hk => .inl hk).trans (f9.mono fun k hk => .inr hk) (fun k hk => .inl hk)
    have HF : Hid (ActPost w R' 0 (.returned (.tuple #[.agg #[.slice la1 (putR R.has s (-n)).length lc1, .slice a2 m2 c2, .slice la3 (putR R.spent (dec (reqOf s)) n).length lc3], .int .i64 0])) W9) := by
      have hwb := HWB.out
      have h48 : Fr (fun k => k = b ∨ k = b + 1) w4 w8 := HW5.out.trans (Fr.ofBelow (F := fun _ => False) HB8.out) (fun k hk => .inl hk.elim)
      have hlow : Below w.heap.size w W9 := ((Fr.ofBelow (F := fun _ => False) (btrans HB5.out HB8.out)).trans HFR.out (fun k hk => .inr (by rcases hk with e | e <;> omega))).toBelow fun _ _ h => h
      refine ⟨_, _, _, rfl, ?_, hlow⟩
      rw [HR2.out]
      refine ⟨New.far HL1.out (h48.trans HFR.out fun k hk => .inl hk) (fun g hg e => by rcases e with e | e <;> omega), ?_, New.far HL3.out HFR.out (fun g hg e => by have := HB7.out.size; rcases e with e | e <;> omega)⟩
      obtain ⟨_, ⟨b2, h2⟩, _⟩ := H.out
      exact ⟨b2, h2.below hlow⟩
    have HY9 := Lib.hid y9
    have k0 := block_cell y10 0 _ rfl
    have k1 := block_cell y10 1 _ rfl
    have k2 := block_cell y10 2 _ rfl
    have j0 := block_cell y102 0 _ rfl
    have j1 := block_cell y102 1 _ rfl
    have j2 := block_cell y102 2 _ rfl
    have f0 := block_free y102 0
    have f1 := block_free y102 1
    have f2 := block_free y102 2
    clear p1 p2 y9 f9 y10 y102 f10
    go_wp2_with fail
    have y9 := HY9.out
    have r0 := block_cell y9 0 _ rfl
    have r1 := block_cell y9 1 _ rfl
    have r2 := block_cell y9 2 _ rfl
    clear y9 hW9
    exact bodyPost_ret (v := .tuple #[.agg #[.slice la1 (putR R.has s (-n)).length lc1, .slice a2 m2 c2, .slice la3 (putR R.spent (dec (reqOf s)) n).length lc3], .int .i64 0]) (by simp [results, Tryd.results33, go_sem, r0, r1, r2]) rfl HF.out
  · have HR2 : Hid (R' = R) := HR.out.trans (if_neg q)
    have qb : (er != 0) = true := bne_iff_ne.2 q
    obtain ⟨p1, p2⟩ := HZ1.out w3 HB3.out
    have k0 := block_cell p1 0 _ rfl
    have k1 := block_cell p1 1 _ rfl
    have k2 := block_cell p1 2 _ rfl
    have g0 := block_free p1 0
    have j0 := block_cell p2 0 _ rfl
    have j1 := block_cell p2 1 _ rfl
    have j2 := block_cell p2 2 _ rfl
    have f0 := block_free p2 0
    have f1 := block_free p2 1
    have f2 := block_free p2 2
    obtain ⟨W9, hW9, y9, f9⟩ := set3 p2 (.slice a1 m1 c1) (.slice a2 m2 c2) (.slice a3 m3 c3)
    have HF : Hid (ActPost w R' er (.returned (.tuple #[.agg #[.slice a1 m1 c1, .slice a2 m2 c2, .slice a3 m3 c3], .int .i64 er])) W9) := by
      have hbb : Below w.heap.size w w3 := btrans HB2.out HB3.out
      have hlow := f9.behind hbb (by have := HWB.out; omega)
      refine ⟨_, _, _, rfl, ?_, hlow⟩
      rw [HR2.out]
      exact H.out.fr fun k hk => hlow.block k hk
    have HY9 := Lib.hid y9
    clear p1 p2 y9 f9
    go_wp2_with fail
    have y9 := HY9.out
    have r0 := block_cell y9 0 _ rfl
    have r1 := block_cell y9 1 _ rfl
    have r2 := block_cell y9 2 _ rfl
    clear y9 hW9
    try rw [HE2.out]
    exact bodyPost_ret (v := .tuple #[.agg #[.slice a1 m1 c1, .slice a2 m2 c2, .slice a3 m3 c3], .int .i64 er]) (by simp [results, Tryd.results33, go_sem, r0, r1, r2]) rfl HF.out

set_option maxRecDepth 8000 in
set_option maxHeartbeats 8000000 in
theorem rmove_any {w : World} {v1 v2 v3 : Value} {R : RL} (h : RLAt w v1 v2 v3 R) (hl : R.Small) (hb1 : ∀ x ∈ R.has, 0 ≤ x.2 ∧ x.2 ≤ 2147483647) (_hb2 : ∀ x ∈ R.made, 0 ≤ x.2 ∧ x.2 ≤ 2147483647) (_hb3 : ∀ x ∈ R.spent, 0 ≤ x.2 ∧ x.2 ≤ 2147483647) (s t : ByteArray) (hs : s.size ≤ 2147483647) (ht : t.size ≤ 2147483647) (n : Int) (R' : RL) (hR' : R' = if R.moveE s t n = 0 then R.move s t n else R) :
    Calls Tryd.prog 32 #[.agg #[v1, v2, v3], .string s, .string t, .int .i64 n] w (ActPost w R' (R.moveE s t n)) := by
  obtain ⟨a1, c1, a2, c2, a3, c3, rfl, rfl, rfl⟩ := h.form
  have H := Lib.hid h
  have HL := Lib.hid hl
  obtain ⟨m1, hm1⟩ : ∃ m, m = R.has.length := ⟨_, rfl⟩
  obtain ⟨m2, hm2⟩ : ∃ m, m = R.made.length := ⟨_, rfl⟩
  obtain ⟨m3, hm3⟩ : ∃ m, m = R.spent.length := ⟨_, rfl⟩
  have HR := Lib.hid hR'
  have HE : Hid (R.moveE s t n = if n < 0 ∨ reqOf s = 0 ∨ reqOf s ≠ reqOf t then 1 else R.mayE s n) := rfl
  have HMY := Lib.hid (fun W (hb : Below w.heap.size w W) => may_any (h.below hb) hl s hs n)
  have hob := ofR_bd hb1 s
  have hmo := fun h0 => mayE_ok (R := R) (s := s) (n := n) h0
  have HRS := Lib.hid (fun W => rrequest_all s hs W)
  have HRT := Lib.hid (fun W => rrequest_all t ht W)
  have hP1 := fun hn => Put_at h.1 (by have := hl.1; omega) s (-n) (fun x hx => by have := hb1 x hx; omega) hn
  have hL2 : (putR R.has s (-n)).length ≤ 10001 := by
    have h1 : (putR R.has s (-n)).length ≤ R.has.length + 1 := by
      unfold putR
      rw [List.length_append, List.length_map]
      split <;> simp
    have := hl.1
    omega
  have hB2 := fun hn => putR_bd hb1 s (-n) hn
  rw [← hm1] at hP1
  have HP1 := Lib.hid hP1
  have HL2 := Lib.hid hL2
  have HBB := Lib.hid hB2
  rw [← hm1, ← hm2, ← hm3] at HMY
  obtain ⟨em, hem⟩ : ∃ em, em = R.mayE s n := ⟨_, rfl⟩
  rw [← hem] at HMY HE hmo
  have HMO : Hid (em = 0 → 0 ≤ n ∧ n ≤ 2147483647) := fun h0 => by have := hmo h0; omega
  obtain ⟨er, her⟩ : ∃ er, er = R.moveE s t n := ⟨_, rfl⟩
  rw [← her] at HR HE ⊢
  obtain ⟨rf, hrf⟩ : ∃ rf, rf = reqOf s := ⟨_, rfl⟩
  obtain ⟨rt, hrt⟩ : ∃ rt, rt = reqOf t := ⟨_, rfl⟩
  rw [← hrf] at HRS HE
  rw [← hrt] at HRT HE
  clear hP1 hL2 hB2 hR' hs ht hem her hrf hrt hmo hob
  rw [← hm1, ← hm2, ← hm3] at H ⊢
  obtain ⟨b, hbq⟩ : ∃ b, b = w.heap.size := ⟨_, rfl⟩
  obtain ⟨W1, hW1⟩ : ∃ W1, W1 = w.alloc (.cells #[.slice a1 m1 c1, .slice a2 m2 c2, .slice a3 m3 c3] 29) := ⟨_, rfl⟩
  have e1 : Below w.heap.size w W1 := by rw [hW1]; exact (Below.refl _ _).alloc (Nat.le_refl _) _
  have z1 : W1.heap[b]? = some (.cells #[.slice a1 m1 c1, .slice a2 m2 c2, .slice a3 m3 c3] 29 (0, 0)) := by rw [hW1, hbq]; exact heap_alloc_new w _
  have s1 : W1.heap.size = b + 1 := by rw [hW1, hbq]; simp
  obtain ⟨W2, hW2⟩ : ∃ W2, W2 = W1.alloc (.cells #[.slice none 0 0, .slice none 0 0, .slice none 0 0] 29) := ⟨_, rfl⟩
  have e2 : Below W1.heap.size W1 W2 := by rw [hW2]; exact (Below.refl _ _).alloc (Nat.le_refl _) _
  have z2 : W2.heap[b + 1]? = some (.cells #[.slice none 0 0, .slice none 0 0, .slice none 0 0] 29 (0, 0)) := by rw [hW2, ← s1]; exact heap_alloc_new W1 _
  have z12 := (e2.block b (by omega)).trans z1
  have s2 : W2.heap.size = b + 2 := by rw [hW2]; simp [s1]
  have hwb : w.heap.size = b := hbq.symm
  have HWB := Lib.hid hwb
  have HB2 : Hid (Below w.heap.size w W2) := btrans e1 e2
  have HZ1 : Hid (∀ W, Below W2.heap.size W2 W → W.heap[b]? = some (.cells #[.slice a1 m1 c1, .slice a2 m2 c2, .slice a3 m3 c3] 29 (0, 0)) ∧ W.heap[b + 1]? = some (.cells #[.slice none 0 0, .slice none 0 0, .slice none 0 0] 29 (0, 0))) := fun W hb => ⟨(hb.block b (by omega)).trans z12, (hb.block (b + 1) (by omega)).trans z2⟩
  have HS2 := Lib.hid s2
  clear h hl hb1 hm1 hm2 hm3 e1 z1 e2 z2 z12 s2 hwb
  go_enter Tryd.func32, Tryd.ntmps32
  go_upto_region 1 with fail
  simp only [← hbq]
  rw [← hW1]
  try simp only [s1]
  rw [← hW2]
  clear hW1 hW2 s1 hbq
  obtain ⟨p1, p2⟩ := HZ1.out W2 (Below.refl _ _)
  have k0 := block_cell p1 0 _ rfl
  have k1 := block_cell p1 1 _ rfl
  have k2 := block_cell p1 2 _ rfl
  clear p1 p2
  go_wp2_with fail
  clear k0 k1 k2
  refine (HMY.out W2 HB2.out).mono ?_
  rintro e w3 ⟨rfl, b3⟩
  have HB3 := Lib.hid b3
  clear b3
  obtain ⟨p1, p2⟩ := HZ1.out w3 HB3.out
  have k0 := block_cell p1 0 _ rfl
  have k1 := block_cell p1 1 _ rfl
  have k2 := block_cell p1 2 _ rfl
  have g0 := block_free p1 0
  have j0 := block_cell p2 0 _ rfl
  have j1 := block_cell p2 1 _ rfl
  have j2 := block_cell p2 2 _ rfl
  have f0 := block_free p2 0
  have f1 := block_free p2 1
  have f2 := block_free p2 2
  by_cases q1 : n < 0
  · have HE2 : Hid (er = 1) := HE.out.trans (if_pos (.inl q1))
    have HR2 : Hid (R' = R) := HR.out.trans (if_neg (by rw [HE2.out]; decide))
    have he1 := HE2.out
    subst he1
    obtain ⟨W9, hW9, y9, f9⟩ := set3 p2 (.slice a1 m1 c1) (.slice a2 m2 c2) (.slice a3 m3 c3)
    have HF : Hid (ActPost w R' 1 (.returned (.tuple #[.agg #[.slice a1 m1 c1, .slice a2 m2 c2, .slice a3 m3 c3], .int .i64 1])) W9) := by
      have hbb : Below w.heap.size w w3 := btrans HB2.out HB3.out
      have hlow := f9.behind hbb (by have := HWB.out; omega)
      refine ⟨_, _, _, rfl, ?_, hlow⟩
      rw [HR2.out]
      exact H.out.fr fun k hk => hlow.block k hk
    have HY9 := Lib.hid y9
    clear p1 p2 y9 f9
    go_wp2_with fail
    have y9 := HY9.out
    have r0 := block_cell y9 0 _ rfl
    have r1 := block_cell y9 1 _ rfl
    have r2 := block_cell y9 2 _ rfl
    clear y9 hW9
    try rw [HE2.out]
    exact bodyPost_ret (v := .tuple #[.agg #[.slice a1 m1 c1, .slice a2 m2 c2, .slice a3 m3 c3], .int .i64 1]) (by simp [results, Tryd.results32, go_sem, r0, r1, r2]) rfl HF.out
  have t1 : decide (n < 0) = false := decide_eq_false q1
  by_cases q2 : rf = 0
  · have HE2 : Hid (er = 1) := HE.out.trans (if_pos (.inr (.inl q2)))
    have HR2 : Hid (R' = R) := HR.out.trans (if_neg (by rw [HE2.out]; decide))
    have he1 := HE2.out
    subst he1
    have u2 : (rf == 0) = true := by rw [q2]; rfl
    clear k0 k1 k2 j0 j1 j2 g0 f0 f1 f2 p1 p2
    go_wp2_with fail
    refine (HRS.out _).mono ?_
    rintro e w4 ⟨rfl, b4⟩
    have HB4 := Lib.hid (btrans HB3.out b4)
    clear b4
    obtain ⟨p1, p2⟩ := HZ1.out w4 HB4.out
    have k0 := block_cell p1 0 _ rfl
    have k1 := block_cell p1 1 _ rfl
    have k2 := block_cell p1 2 _ rfl
    have g0 := block_free p1 0
    have j0 := block_cell p2 0 _ rfl
    have j1 := block_cell p2 1 _ rfl
    have j2 := block_cell p2 2 _ rfl
    have f0 := block_free p2 0
    have f1 := block_free p2 1
    have f2 := block_free p2 2
    obtain ⟨W9, hW9, y9, f9⟩ := set3 p2 (.slice a1 m1 c1) (.slice a2 m2 c2) (.slice a3 m3 c3)
    have HF : Hid (ActPost w R' 1 (.returned (.tuple #[.agg #[.slice a1 m1 c1, .slice a2 m2 c2, .slice a3 m3 c3], .int .i64 1])) W9) := by
      have hbb : Below w.heap.size w w4 := btrans HB2.out HB4.out
      have hlow := f9.behind hbb (by have := HWB.out; omega)
      refine ⟨_, _, _, rfl, ?_, hlow⟩
      rw [HR2.out]
      exact H.out.fr fun k hk => hlow.block k hk
    have HY9 := Lib.hid y9
    clear p1 p2 y9 f9
    go_wp2_with fail
    have y9 := HY9.out
    have r0 := block_cell y9 0 _ rfl
    have r1 := block_cell y9 1 _ rfl
    have r2 := block_cell y9 2 _ rfl
    clear y9 hW9
    try rw [HE2.out]
    exact bodyPost_ret (v := .tuple #[.agg #[.slice a1 m1 c1, .slice a2 m2 c2, .slice a3 m3 c3], .int .i64 1]) (by simp [results, Tryd.results32, go_sem, r0, r1, r2]) rfl HF.out
  have q2b : (rf == 0) = false := beq_eq_false_iff_ne.2 q2
  by_cases q3 : rf = rt
  · have HE2 : Hid (er = em) := HE.out.trans (if_neg (by omega))
    have q3b : (rf != rt) = false := by rw [q3]; exact bne_self_eq_false _
    have he := HE2.out
    subst he
    clear k0 k1 k2 j0 j1 j2 g0 f0 f1 f2 p1 p2
    go_wp2_with fail
    refine (HRS.out _).mono ?_
    rintro e w4 ⟨rfl, b4⟩
    have HB4 := Lib.hid (btrans HB3.out b4)
    clear b4
    go_wp2_with fail
    refine (HRS.out _).mono ?_
    rintro e w5 ⟨rfl, b5⟩
    have HB5 := Lib.hid (btrans HB4.out b5)
    clear b5
    go_wp2_with fail
    refine (HRT.out _).mono ?_
    rintro e w6 ⟨rfl, b6⟩
    have HB6 := Lib.hid (btrans HB5.out b6)
    clear b6
    by_cases q : er = 0
    · have HR2 : Hid (R' = R.move s t n) := HR.out.trans (if_pos q)
      have hn := HMO.out q
      have gn : IntKind.i64.wrap (-n) = -n := IntWalk.i64_in _ (by omega)
      have HP1' := Lib.hid (HP1.out (by omega) w6 (btrans HB2.out HB6.out))
      have hs2 := HS2.out
      have hz3 := HB6.out.size
      have hz2 : n ≤ 2147483647 ∧ 0 ≤ n := ⟨hn.2, hn.1⟩
      subst q
      clear HP1 hn
      obtain ⟨p1, p2⟩ := HZ1.out w6 HB6.out
      have k0 := block_cell p1 0 _ rfl
      have k1 := block_cell p1 1 _ rfl
      have k2 := block_cell p1 2 _ rfl
      clear p1 p2
      go_wp2_with fail
      refine HP1'.out.mono ?_
      rintro e w7 ⟨u1, rfl, hN1⟩
      obtain ⟨la1, lc1, rfl⟩ := hN1.form
      have HB7 := Lib.hid (btrans HB6.out hN1.below)
      have hP2 := Put_at (w := w7) (v := .slice la1 (putR R.has s (-n)).length lc1) (New.at0 hN1 (Below.refl _ _)) HL2.out t n (HBB.out (by omega)) (by omega) w7 (Below.refl _ _)
      have HP2 := Lib.hid hP2
      have hb7 : b + 1 < w7.heap.size := by have := HB7.out.size; omega
      clear hP2 k0 k1 k2 hN1
      go_wp2_with fail
      refine HP2.out.mono ?_
      rintro e w8 ⟨u2, rfl, hN2⟩
      obtain ⟨la2, lc2, rfl⟩ := hN2.form
      have HB8 := Lib.hid (btrans HB7.out hN2.below)
      have HL3 := Lib.hid hN2
      obtain ⟨p1, p2⟩ := HZ1.out w8 HB8.out
      obtain ⟨⟨W9, hW9, y9, f9⟩, -⟩ := set1 p1 (.slice la2 (putR (putR R.has s (-n)) t n).length lc2)
      have hb8 : b + 1 < w8.heap.size := by have := HB8.out.size; omega
      have y92 := (f9.block (b + 1) hb8 (by omega)).trans p2
      obtain ⟨W10, hW10, y10, f10⟩ := set3 y92 (.slice la2 (putR (putR R.has s (-n)) t n).length lc2) (.slice a2 m2 c2) (.slice a3 m3 c3)
      have HFR : Hid (Fr (fun k => k = b ∨ k = b + 1) w8 W10) := (f9.mono fun k hk => .inl hk).trans (f10.mono fun k hk => .inr hk) (fun k hk => .inl hk)
      have HF : Hid (ActPost w R' 0 (.returned (.tuple #[.agg #[.slice la2 (putR (putR R.has s (-n)) t n).length lc2, .slice a2 m2 c2, .slice a3 m3 c3], .int .i64 0])) W10) := by
        have hwb := HWB.out
        have hlow : Below w.heap.size w W10 := ((Fr.ofBelow (F := fun _ => False) (btrans HB2.out HB8.out)).trans HFR.out (fun k hk => .inr (by rcases hk with e | e <;> omega))).toBelow fun _ _ h => h
        refine ⟨_, _, _, rfl, ?_, hlow⟩
        rw [HR2.out]
        obtain ⟨_, ⟨b2, h2⟩, b3, h3⟩ := H.out
        exact ⟨New.far HL3.out HFR.out (fun g hg e => by rcases e with e | e <;> omega), ⟨b2, h2.below hlow⟩, b3, h3.below hlow⟩
      have HY10 := Lib.hid y10
      have i0 := block_cell p1 0 _ rfl
      have i1 := block_cell p1 1 _ rfl
      have i2 := block_cell p1 2 _ rfl
      have d0 := block_free p1 0
      have d1 := block_free p1 1
      have d2 := block_free p1 2
      have k0 := block_cell y9 0 _ rfl
      have k1 := block_cell y9 1 _ rfl
      have k2 := block_cell y9 2 _ rfl
      have j0 := block_cell y92 0 _ rfl
      have j1 := block_cell y92 1 _ rfl
      have j2 := block_cell y92 2 _ rfl
      have f0 := block_free y92 0
      have f1 := block_free y92 1
      have f2 := block_free y92 2
      clear p1 p2 y9 y92 y10 f9 f10 hN2
      go_upto_region 7 with fail
      clear i0 i1 i2 d0 d1 d2
      go_wp2_with fail
      have y10 := HY10.out
      have r0 := block_cell y10 0 _ rfl
      have r1 := block_cell y10 1 _ rfl
      have r2 := block_cell y10 2 _ rfl
      clear y10 hW10
      exact bodyPost_ret (v := .tuple #[.agg #[.slice la2 (putR (putR R.has s (-n)) t n).length lc2, .slice a2 m2 c2, .slice a3 m3 c3], .int .i64 0]) (by simp [results, Tryd.results32, go_sem, r0, r1, r2]) rfl HF.out
    · have HR2 : Hid (R' = R) := HR.out.trans (if_neg q)
      have qb : (er != 0) = true := bne_iff_ne.2 q
      obtain ⟨p1, p2⟩ := HZ1.out w6 HB6.out
      have k0 := block_cell p1 0 _ rfl
      have k1 := block_cell p1 1 _ rfl
      have k2 := block_cell p1 2 _ rfl
      have g0 := block_free p1 0
      have j0 := block_cell p2 0 _ rfl
      have j1 := block_cell p2 1 _ rfl
      have j2 := block_cell p2 2 _ rfl
      have f0 := block_free p2 0
      have f1 := block_free p2 1
      have f2 := block_free p2 2
      obtain ⟨W9, hW9, y9, f9⟩ := set3 p2 (.slice a1 m1 c1) (.slice a2 m2 c2) (.slice a3 m3 c3)
      have HF : Hid (ActPost w R' er (.returned (.tuple #[.agg #[.slice a1 m1 c1, .slice a2 m2 c2, .slice a3 m3 c3], .int .i64 er])) W9) := by
        have hbb : Below w.heap.size w w6 := btrans HB2.out HB6.out
        have hlow := f9.behind hbb (by have := HWB.out; omega)
        refine ⟨_, _, _, rfl, ?_, hlow⟩
        rw [HR2.out]
        exact H.out.fr fun k hk => hlow.block k hk
      have HY9 := Lib.hid y9
      clear p1 p2 y9 f9
      go_wp2_with fail
      have y9 := HY9.out
      have r0 := block_cell y9 0 _ rfl
      have r1 := block_cell y9 1 _ rfl
      have r2 := block_cell y9 2 _ rfl
      clear y9 hW9
      try rw [HE2.out]
      exact bodyPost_ret (v := .tuple #[.agg #[.slice a1 m1 c1, .slice a2 m2 c2, .slice a3 m3 c3], .int .i64 er]) (by simp [results, Tryd.results32, go_sem, r0, r1, r2]) rfl HF.out
  · have HE2 : Hid (er = 1) := HE.out.trans (if_pos (.inr (.inr q3)))
    have HR2 : Hid (R' = R) := HR.out.trans (if_neg (by rw [HE2.out]; decide))
    have he1 := HE2.out
    subst he1
    have q3b : (rf != rt) = true := bne_iff_ne.2 q3
    clear k0 k1 k2 j0 j1 j2 g0 f0 f1 f2 p1 p2
    go_wp2_with fail
    refine (HRS.out _).mono ?_
    rintro e w4 ⟨rfl, b4⟩
    have HB4 := Lib.hid (btrans HB3.out b4)
    clear b4
    go_wp2_with fail
    refine (HRS.out _).mono ?_
    rintro e w5 ⟨rfl, b5⟩
    have HB5 := Lib.hid (btrans HB4.out b5)
    clear b5
    go_wp2_with fail
    refine (HRT.out _).mono ?_
    rintro e w6 ⟨rfl, b6⟩
    have HB6 := Lib.hid (btrans HB5.out b6)
    clear b6
    obtain ⟨p1, p2⟩ := HZ1.out w6 HB6.out
    have k0 := block_cell p1 0 _ rfl
    have k1 := block_cell p1 1 _ rfl
    have k2 := block_cell p1 2 _ rfl
    have g0 := block_free p1 0
    have j0 := block_cell p2 0 _ rfl
    have j1 := block_cell p2 1 _ rfl
    have j2 := block_cell p2 2 _ rfl
    have f0 := block_free p2 0
    have f1 := block_free p2 1
    have f2 := block_free p2 2
    obtain ⟨W9, hW9, y9, f9⟩ := set3 p2 (.slice a1 m1 c1) (.slice a2 m2 c2) (.slice a3 m3 c3)
    have HF : Hid (ActPost w R' 1 (.returned (.tuple #[.agg #[.slice a1 m1 c1, .slice a2 m2 c2, .slice a3 m3 c3], .int .i64 1])) W9) := by
      have hbb : Below w.heap.size w w6 := btrans HB2.out HB6.out
      have hlow := f9.behind hbb (by have := HWB.out; omega)
      refine ⟨_, _, _, rfl, ?_, hlow⟩
      rw [HR2.out]
      exact H.out.fr fun k hk => hlow.block k hk
    have HY9 := Lib.hid y9
    clear p1 p2 y9 f9
    go_wp2_with fail
    have y9 := HY9.out
    have r0 := block_cell y9 0 _ rfl
    have r1 := block_cell y9 1 _ rfl
    have r2 := block_cell y9 2 _ rfl
    clear y9 hW9
    try rw [HE2.out]
    exact bodyPost_ret (v := .tuple #[.agg #[.slice a1 m1 c1, .slice a2 m2 c2, .slice a3 m3 c3], .int .i64 1]) (by simp [results, Tryd.results32, go_sem, r0, r1, r2]) rfl HF.out

end Go.Proofs.YtedoalpijbggiaaDoor
