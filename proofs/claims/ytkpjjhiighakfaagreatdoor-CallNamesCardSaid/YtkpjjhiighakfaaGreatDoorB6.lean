/- attempt. -/
import Derived.Test.YtkpjjhiighakfaaGreatDoorB5
namespace Go.Proofs.YtkpjjhiighakfaaGreatDoor
open Go.RowKit
attribute [local go_sem ↓] Go.wp_at_zero Go.wp_at_succ

/-- A store into a call's own cells. -/
theorem CW.set {w0 : Base} {wi : World} {cb mb bb lb : Nat} {S S' : CS} {B : Bk} {L : List Ac} (h : CW w0 wi cb mb bb lb S B L) (o : Nat) (v : Value) (hv : (callCells S bb mb).setIfInBounds o v = callCells S' bb mb) (ho : S'.open_ = S.open_) :
    CW w0 (wi.setCell ⟨cb, o, none⟩ v) cb mb bb lb S' B L := by
  obtain ⟨h1, h2, ⟨u, sb, h3, h4, h5⟩, h6, h6', h7, h8⟩ := h
  have hk : ∀ k, k ≠ cb → (wi.setCell ⟨cb, o, none⟩ v).heap[k]? = wi.heap[k]? := fun k hk => Below.heap_setCell wi ⟨cb, o, none⟩ _ k hk
  have h9 := setCell_block wi cb o _ _ _ v h1.cells
  rw [hv] at h9
  refine ⟨⟨h9, ?_⟩, (hk _ (fun e => h7.2.1 e.symm)).trans h2, ⟨u, sb, (hk _ (fun e => h6.2 (.inl e))).trans h3, h4.below (fun g hg => hk g (fun e => (h5 g hg).2.2 (.inl e))), h5⟩, h6, h6', h7, h8.trans (Fr.setCell w0.P wi ⟨cb, o, none⟩ v h6'.1) (fun _ h => .inl h)⟩
  have := h1.map.keep (hk _ (fun e => h7.1 e.symm))
  unfold openM at this ⊢
  rwa [ho]

/-- Stores into the cells of one block, one behind the other. -/
def setsFrom (w : World) (b : Nat) : Nat → List Value → World
  | _, [] => w
  | o, v :: vs => setsFrom (w.setCell ⟨b, o, none⟩ v) b (o + 1) vs
def arrFrom (cur : Array Value) : Nat → List Value → Array Value
  | _, [] => cur
  | o, v :: vs => arrFrom (cur.setIfInBounds o v) (o + 1) vs
theorem setsFrom_block (b : Nat) (T : TypeId) : ∀ (vs : List Value) (o : Nat) (w : World) (cur : Array Value), w.heap[b]? = some (.cells cur T (0, 0)) → (setsFrom w b o vs).heap[b]? = some (.cells (arrFrom cur o vs) T (0, 0))
  | [], _, _, _, h => h
  | v :: vs, o, w, cur, h => setsFrom_block b T vs (o + 1) _ _ (setCell_block w b o cur T (0, 0) v h)
theorem setsFrom_below {n : Nat} {w0 : World} (b : Nat) (hb : n ≤ b) : ∀ (vs : List Value) (o : Nat) (w : World), Below n w0 w → Below n w0 (setsFrom w b o vs)
  | [], _, _, h => h
  | v :: vs, o, _, h => setsFrom_below b hb vs (o + 1) _ (h.setCell (p := ⟨b, o, none⟩) hb v)

/-- An entry of the map alone has turned. -/
theorem CW.upd {w0 : Base} {wi w' : World} {cb mb bb lb : Nat} {S S' : CS} {B : Bk} {L : List Ac} (h : CW w0 wi cb mb bb lb S B L) (hg : wi.drew.grownBy w' (some mb)) (hm : MapAt mapI w' mb (openM S')) (hc : callCells S bb mb = callCells S' bb mb) : CW w0 w' cb mb bb lb S' B L := by
  obtain ⟨h1, h2, ⟨u, sb, h3, h4, h5⟩, h6, h6', h7, h8⟩ := h
  have hk : ∀ k, k < wi.heap.size → k ≠ mb → w'.heap[k]? = wi.heap[k]? := fun k hk hn => hg.block k hk (fun e => hn (by cases e; rfl))
  have hlw : lb < wi.heap.size := (Array.getElem?_eq_some_iff.1 h3).1
  have hbw : bb < wi.heap.size := (Array.getElem?_eq_some_iff.1 h2).1
  refine ⟨⟨(hk cb h1.lt.1 h7.1).trans (h1.cells.trans (by rw [hc])), hm⟩, (hk bb hbw (fun e => h7.2.2 e.symm)).trans h2, ⟨u, sb, (hk lb hlw (fun e => h6.2 (.inr (.inl e)))).trans h3, h4.below (fun g hg => hk g (h4.lt g hg) (fun e => (h5 g hg).2.2 (.inr (.inl e)))), h5⟩, h6, h6', h7, ?_⟩
  exact (h8.trans (Fr.drew w0.P wi) (fun _ h => .inl h)).trans (Fr.ofGrown (F := w0.P) hg (fun k hk => by cases hk; exact h6'.2.1)) (fun _ h => .inl h)

theorem mset_new {m : List (Int × Value)} {k : Int} (v : Value) (h : ∀ p ∈ m, p.1 ≠ k) : mset m k v = m ++ [(k, v)] := by
  have hn := mget_none.2 h
  unfold mset
  unfold mget at hn
  cases hf : mfind k m 0 with
  | none => rfl
  | some x => rw [hf] at hn; cases hn

/-- The cells of a call that an attempt reads. -/
def SeeC (cb : Nat) (c : Cx) (made : Int) (w : World) : Prop :=
  w.cell? ⟨cb, 0, none⟩ = some (.int .i64 c.req) ∧ w.cell? ⟨cb, 1, none⟩ = some (.string c.call) ∧ w.cell? ⟨cb, 2, none⟩ = some (.int .i64 c.try_) ∧ w.cell? ⟨cb, 3, none⟩ = some (.bool c.idem) ∧ w.cell? ⟨cb, 4, none⟩ = some (.bool c.shadow) ∧ w.cell? ⟨cb, 5, none⟩ = some (.int .i64 c.dl) ∧ w.cell? ⟨cb, 6, none⟩ = some (.int .i64 c.purse) ∧ w.cell? ⟨cb, 7, none⟩ = some (.int .i64 c.ver) ∧ w.cell? ⟨cb, 8, none⟩ = some (.int .i64 c.prio) ∧ w.cell? ⟨cb, 18, none⟩ = some (.int .i64 made)
theorem SeeC.keep {cb : Nat} {c : Cx} {made : Int} {w w' : World} (h : SeeC cb c made w) (hb : Below w.heap.size w w') : SeeC cb c made w' := by
  obtain ⟨h0, h1, h2, h3, h4, h5, h6, h7, h8, h9⟩ := h
  exact ⟨bkeep hb h0, bkeep hb h1, bkeep hb h2, bkeep hb h3, bkeep hb h4, bkeep hb h5, bkeep hb h6, bkeep hb h7, bkeep hb h8, bkeep hb h9⟩
theorem CallW.see {w : World} {cb mb bb : Nat} {S : CS} (h : CallW w cb mb bb S) : SeeC cb S.c S.made w :=
  ⟨h.cell 0 _ rfl, h.cell 1 _ rfl, h.cell 2 _ rfl, h.cell 3 _ rfl, h.cell 4 _ rfl, h.cell 5 _ rfl, h.cell 6 _ rfl, h.cell 7 _ rfl, h.cell 8 _ rfl, h.cell 18 _ rfl⟩

/-- An attempt in a box of its own. -/
def BoxA (w : World) (at_ : Int) (c : Cx) (v : Value) (w' : World) : Prop :=
  ∃ N, v = .pointer (some ⟨N, 0, none⟩) ∧ w.heap.size ≤ N ∧ w'.heap[N]? = some (.cells #[.int .i64 at_, .int .i64 c.req, .string c.call, .int .i64 c.try_, .bool c.idem, .bool c.shadow, .int .i64 c.dl, .int .i64 c.purse, .int .i64 c.ver, .int .i64 c.prio] 71 (0, 0)) ∧ Below w.heap.size w w'

/-- An attempt. -/
def CS.cx (S : CS) : Cx := { S.c with try_ := S.made + 1, purse := S.left / 2 }
def CS.att (S : CS) (now : Int) : CS := { S with left := S.left - S.left / 2, made := S.made + 1, open_ := S.open_ ++ [(S.made + 1, now, S.cx)], frm := now }

set_option maxRecDepth 8000 in
set_option maxHeartbeats 2000000 in
theorem attempt_any {w0 : Base} {wi : World} {cb mb bb lb : Nat} {S : CS} {B : Bk} {L : List Ac} (h : CW w0 wi cb mb bb lb S B L) (hok : S.Ok) (hm : S.made < 8) (hL : L.length ≤ 1000) (now : Int) :
    Calls Tryz.prog 18 #[.pointer (some ⟨cb, 0, none⟩), .int .i64 now, .func (.func 28) #[] #[.pointer (some ⟨lb, 0, none⟩)]] wi fun e w' => e = .returned (.tuple #[]) ∧ CW w0 w' cb mb bb lb (S.att now) B (L ++ [⟨1, 0, S.cx, 0⟩]) := by
  obtain ⟨l0, l1⟩ := hok.left
  obtain ⟨m0, m1⟩ := hok.made
  have c19 := h.call.cell 19 (.int .i64 S.left) rfl
  have c18 := h.call.cell 18 (.int .i64 S.made) rfl
  have f19 := h.call.free 19
  have f18 := h.call.free 18
  have H := Lib.hid h
  clear h
  have hq0 : 0 ≤ S.left / 2 := Int.ediv_nonneg l0 (by omega)
  have hq1 : S.left / 2 ≤ S.left := Int.ediv_le_self 2 l0
  go_enter Tryz.func18, Tryz.ntmps18
  go_wp2_with fail
  refine (half_any S.left wi l0 (by omega)).mono ?_
  rintro e w' ⟨rfl, rfl⟩
  go_wp2_with fail
  obtain ⟨W1, hW1⟩ : ∃ W1, W1 = (w'.setCell ⟨cb, 19, none⟩ (.int .i64 (S.left - S.left / 2))).setCell ⟨cb, 18, none⟩ (.int .i64 (S.made + 1)) := ⟨_, rfl⟩
  rw [← hW1]
  obtain ⟨S1, hS1⟩ : ∃ S1 : CS, S1 = { S with left := S.left - S.left / 2, made := S.made + 1 } := ⟨_, rfl⟩
  have hC1 : CW w0 W1 cb mb bb lb S1 B L := by
    rw [hW1, hS1]
    exact (H.out.set 19 _ (S' := { S with left := S.left - S.left / 2 }) rfl rfl).set 18 _ rfl rfl
  have hc1 : S1.c = S.c := by rw [hS1]
  have hm1 : S1.made = S.made + 1 := by rw [hS1]
  have HC1 := Lib.hid hC1
  have hsee := hC1.call.see
  rw [hc1, hm1] at hsee
  have HSEE := Lib.hid hsee
  obtain ⟨s0, s1, s2, s3, s4, s5, s6, s7, s8, s9⟩ := hsee
  have HS1 := Lib.hid hS1
  clear hC1 hc1 hm1 hW1 hS1 c19 c18 f19 f18
  go_cut [8] from 28 to 39 (fun v wx => BoxA W1 now S.cx v wx)
  case first =>
    refine wp_region_split_held 13 (fun w' => w'.cell? ⟨cb, 0, none⟩ = some (.int .i64 S.c.req) ∧ w'.cell? ⟨cb, 1, none⟩ = some (.string S.c.call) ∧ w'.cell? ⟨cb, 2, none⟩ = some (.int .i64 S.c.try_) ∧ w'.cell? ⟨cb, 3, none⟩ = some (.bool S.c.idem) ∧ w'.cell? ⟨cb, 4, none⟩ = some (.bool S.c.shadow) ∧ w'.cell? ⟨cb, 5, none⟩ = some (.int .i64 S.c.dl) ∧ w'.cell? ⟨cb, 6, none⟩ = some (.int .i64 S.c.purse) ∧ w'.cell? ⟨cb, 7, none⟩ = some (.int .i64 S.c.ver) ∧ w'.cell? ⟨cb, 8, none⟩ = some (.int .i64 S.c.prio) ∧ w'.cell? ⟨cb, 18, none⟩ = some (.int .i64 (S.made + 1))) (by kernel_rfl) (by kernel_rfl) (HSEE.out.keep (Below.refl _ _).drew) (fun K0 hK0 hHeld => ?_)
    simp only [List.take_succ_cons, List.take_zero]
    refine wpAnyH_take (i := 0) (v := ?_) rfl (by kernel_rfl) (by kernel_rfl) (by kernel_rfl) (fun _ _ _ h => h) (Or.inl ⟨by kernel_rfl, ?_⟩) (by assumption) ?_
    rotate_left
    · (intro w hSw; (try dsimp only at hSw); go_simp; try with_reducible rfl)
    try simp only [Act.put]
    refine wpAnyH_take (i := 1) (v := ?_) rfl (by kernel_rfl) (by kernel_rfl) (by kernel_rfl) (fun _ _ _ h => h) (Or.inl ⟨by kernel_rfl, ?_⟩) (by assumption) ?_
    rotate_left
    · (intro w hSw; (try dsimp only at hSw); go_simp; try with_reducible rfl)
    try simp only [Act.put]
    refine wpAnyH_take (i := 2) (v := ?_) rfl (by kernel_rfl) (by kernel_rfl) (by kernel_rfl) (fun _ _ _ h => h) (Or.inl ⟨by kernel_rfl, ?_⟩) (by assumption) ?_
    rotate_left
    · (intro w hSw; (try dsimp only at hSw); go_simp; try with_reducible rfl)
    try simp only [Act.put]
    refine wpAnyH_take (i := 3) (v := ?_) rfl (by kernel_rfl) (by kernel_rfl) (by kernel_rfl) (fun _ _ _ h => h) (Or.inl ⟨by kernel_rfl, ?_⟩) (by assumption) ?_
    rotate_left
    · (intro w hSw; (try dsimp only at hSw); go_simp; try with_reducible rfl)
    try simp only [Act.put]
    refine wpAnyH_take (i := 4) (v := ?_) rfl (by kernel_rfl) (by kernel_rfl) (by kernel_rfl) (fun _ _ _ h => h) (Or.inl ⟨by kernel_rfl, ?_⟩) (by assumption) ?_
    rotate_left
    · (intro w hSw; (try dsimp only at hSw); go_simp; try with_reducible rfl)
    try simp only [Act.put]
    refine wpAnyH_take (i := 5) (v := ?_) rfl (by kernel_rfl) (by kernel_rfl) (by kernel_rfl) (fun _ _ _ h => h) (Or.inl ⟨by kernel_rfl, ?_⟩) (by assumption) ?_
    rotate_left
    · (intro w hSw; (try dsimp only at hSw); go_simp; try with_reducible rfl)
    try simp only [Act.put]
    refine wpAnyH_take (i := 6) (v := ?_) rfl (by kernel_rfl) (by kernel_rfl) (by kernel_rfl) (fun _ _ _ h => h) (Or.inl ⟨by kernel_rfl, ?_⟩) (by assumption) ?_
    rotate_left
    · (intro w hSw; (try dsimp only at hSw); go_simp; try with_reducible rfl)
    try simp only [Act.put]
    refine wpAnyH_take (i := 7) (v := ?_) rfl (by kernel_rfl) (by kernel_rfl) (by kernel_rfl) (fun _ _ _ h => h) (Or.inl ⟨by kernel_rfl, ?_⟩) (by assumption) ?_
    rotate_left
    · (intro w hSw; (try dsimp only at hSw); go_simp; try with_reducible rfl)
    try simp only [Act.put]
    refine wpAnyH_take (i := 8) (v := ?_) rfl (by kernel_rfl) (by kernel_rfl) (by kernel_rfl) (fun _ _ _ h => h) (Or.inl ⟨by kernel_rfl, ?_⟩) (by assumption) ?_
    rotate_left
    · (intro w hSw; (try dsimp only at hSw); go_simp; try with_reducible rfl)
    try simp only [Act.put]
    refine wpAnyH_take (i := 9) (v := ?_) rfl (by kernel_rfl) (by kernel_rfl) (by kernel_rfl) (fun _ _ _ h => h) (Or.inl ⟨by kernel_rfl, ?_⟩) (by assumption) ?_
    rotate_left
    · (intro w hSw; (try dsimp only at hSw); go_simp; try with_reducible rfl)
    try simp only [Act.put]
    refine wpAnyH_ready (rs := [10, 12]) (by kernel_rfl) (by simp) ?_
    refine AllReadyH.cons rfl (fun K hK => ?_) ?_
    · go_simp
      refine (try_any S.c _ _ _).mono ?_
      rintro e w2 ⟨rfl, hb2⟩
      refine hK.out _ _ (HSEE.out.keep (bdrew hb2)) (fun hHeld => ?_)
      clear hK K
      try simp only [Act.put]
      refine wpAnyH_take (i := 11) (v := ?_) rfl (by kernel_rfl) (by kernel_rfl) (by kernel_rfl) (fun _ _ _ h => h) (Or.inl ⟨by kernel_rfl, ?_⟩) (by assumption) ?_
      rotate_left
      · (intro w hSw; (try dsimp only at hSw); go_simp; try with_reducible rfl)
      try simp only [Act.put]
      refine wpAnyH_ready (rs := [12]) (by kernel_rfl) (by simp) ?_
      refine AllReadyH.cons rfl (fun K hK => ?_) AllReadyH.nil
      go_simp
      refine hK.out _ _ (HSEE.out.keep ((bdrew hb2).alloc (bdrew hb2).size _)) (fun hHeld => ?_)
      clear hK K
      try simp only [Act.put]
      refine wpAnyH_done (by kernel_rfl) ?_ _
      simp only [Exit.then]
      refine hK0 _ _ ?_
      clear hK0 K0 hHeld
      try simp only [Act.put]
      go_wp2_with fail
      go_meet
      exact ⟨_, rfl, hb2.size, heap_alloc_new _ _, (bdrew hb2).alloc (bdrew hb2).size _⟩
    · refine AllReadyH.cons rfl (fun K hK => ?_) AllReadyH.nil
      go_simp
      have hbn : Below W1.heap.size W1 (W1.alloc (.cells #[.int .i64 0, .int .i64 0, .string ⟨#[]⟩, .int .i64 0, .bool false, .bool false, .int .i64 0, .int .i64 0, .int .i64 0, .int .i64 0] 71)).drew := ((Below.refl _ _).alloc (Nat.le_refl _) _).drew
      refine hK.out _ _ (HSEE.out.keep hbn) (fun hHeld => ?_)
      clear hK K
      try simp only [Act.put]
      refine wpAnyH_ready (rs := [10]) (by kernel_rfl) (by simp) ?_
      refine AllReadyH.cons rfl (fun K hK => ?_) AllReadyH.nil
      go_simp
      refine (try_any S.c _ _ _).mono ?_
      rintro e w2 ⟨rfl, hb2⟩
      have hbb := btrans hbn hb2
      have kN : w2.heap[W1.heap.size]? = some (.cells #[.int .i64 0, .int .i64 0, .string ⟨#[]⟩, .int .i64 0, .bool false, .bool false, .int .i64 0, .int .i64 0, .int .i64 0, .int .i64 0] 71 (0, 0)) := (hb2.block W1.heap.size (by simp)).trans (heap_alloc_new _ _)
      refine hK.out _ _ (HSEE.out.keep hbb) (fun hHeld => ?_)
      clear hK K
      try simp only [Act.put]
      refine wpAnyH_take (i := 11) (v := ?_) rfl (by kernel_rfl) (by kernel_rfl) (by kernel_rfl) (fun _ _ _ h => h) (Or.inl ⟨by kernel_rfl, ?_⟩) (by assumption) ?_
      rotate_left
      · (intro w hSw; (try dsimp only at hSw); go_simp; try with_reducible rfl)
      try simp only [Act.put]
      refine wpAnyH_done (by kernel_rfl) ?_ _
      simp only [Exit.then]
      refine hK0 _ _ ?_
      clear hK0 K0 hHeld
      try simp only [Act.put]
      have k0 := block_cell kN 0 _ rfl
      have g0 := block_free kN 0
      have k1 := block_cell kN 1 _ rfl
      have g1 := block_free kN 1
      have k2 := block_cell kN 2 _ rfl
      have g2 := block_free kN 2
      have k3 := block_cell kN 3 _ rfl
      have g3 := block_free kN 3
      have k4 := block_cell kN 4 _ rfl
      have g4 := block_free kN 4
      have k5 := block_cell kN 5 _ rfl
      have g5 := block_free kN 5
      have k6 := block_cell kN 6 _ rfl
      have g6 := block_free kN 6
      have k7 := block_cell kN 7 _ rfl
      have g7 := block_free kN 7
      have k8 := block_cell kN 8 _ rfl
      have g8 := block_free kN 8
      have k9 := block_cell kN 9 _ rfl
      have g9 := block_free kN 9
      have q1 := setsFrom_block W1.heap.size 71 [.int .i64 now, .int .i64 S.c.req, .string S.c.call, .int .i64 (S.made + 1), .bool S.c.idem, .bool S.c.shadow, .int .i64 S.c.dl, .int .i64 (S.left / 2), .int .i64 S.c.ver, .int .i64 S.c.prio] 0 w2 _ kN
      have q2 := setsFrom_below W1.heap.size (Nat.le_refl _) [.int .i64 now, .int .i64 S.c.req, .string S.c.call, .int .i64 (S.made + 1), .bool S.c.idem, .bool S.c.shadow, .int .i64 S.c.dl, .int .i64 (S.left / 2), .int .i64 S.c.ver, .int .i64 S.c.prio] 0 w2 hbb
      simp only [setsFrom, Nat.reduceAdd] at q1 q2
      simp only [arrFrom, Nat.reduceAdd, List.setIfInBounds_toArray, List.set_cons_zero, List.set_cons_succ] at q1
      have e1 := Lib.hid q1
      have e2 := Lib.hid q2
      clear q1 q2 kN
      go_wp2_with fail
      go_meet
      exact ⟨_, rfl, Nat.le_refl _, e1.out, e2.out⟩
  case rest =>
    obtain ⟨N, rfl, hN, hbox, hbx⟩ := hcut
    have hC2 := HC1.out.keep hbx
    have hm1 : S1.made = S.made + 1 := by rw [HS1.out]
    have ho1 : S1.open_ = S.open_ := by rw [HS1.out]
    obtain ⟨w6, hup, hm6, hg6⟩ := run_update_at (w := wc.drew) (int_law Tryz.underlying3) (hC2.call.map.keep (w' := wc.drew) rfl) Tryz.underlying54 (S.made + 1) (attVal (now, S.cx))
    have hnew : mset (openM S1) (S.made + 1) (attVal (now, S.cx)) = openM { S1 with open_ := S.open_ ++ [(S.made + 1, now, S.cx)] } := by
      rw [mset_new _ (fun p hp => ?_)]
      · unfold openM; rw [ho1, List.map_append]; rfl
      · unfold openM at hp
        obtain ⟨x, hx, rfl⟩ := List.mem_map.1 hp
        rw [ho1] at hx
        have := (hok.keyb x hx).2
        show x.1 ≠ _
        omega
    rw [hnew] at hm6
    have hC3 := hC2.upd (S' := { S1 with open_ := S.open_ ++ [(S.made + 1, now, S.cx)] }) hg6 hm6 rfl
    have hC4 := hC3.set 20 (.int .i64 now) (S' := S.att now) (by rw [HS1.out]; rfl) (by rw [HS1.out]; rfl)
    have d17 := hC2.call.cell 17 (.map (some mb)) rfl
    have d18 := hC2.call.cell 18 (.int .i64 (S.made + 1)) (by rw [← hm1]; rfl)
    have g17 := hC3.call.cell 17 (.map (some mb)) rfl
    have g18 := hC3.call.cell 18 (.int .i64 (S.made + 1)) (by rw [← hm1]; rfl)
    have g20 := hC3.call.cell 20 (.int .i64 S1.frm) rfl
    have gf20 := hC3.call.free 20
    have HC4 := Lib.hid hC4
    have hNm : N ≠ mb := fun e => by have h1 := HC1.out.call.lt.2; omega
    have hNc : N ≠ cb := fun e => by have h1 := HC1.out.call.lt.1; omega
    have b0 := block_cell hbox 0 (.int .i64 now) rfl
    have a0 := hg6.cell (a := ⟨N, 0, none⟩) b0 (by simp; exact hNm)
    have b1 := block_cell hbox 1 (.int .i64 S.c.req) rfl
    have a1 := hg6.cell (a := ⟨N, 1, none⟩) b1 (by simp; exact hNm)
    have b2 := block_cell hbox 2 (.string S.c.call) rfl
    have a2 := hg6.cell (a := ⟨N, 2, none⟩) b2 (by simp; exact hNm)
    have b3 := block_cell hbox 3 (.int .i64 (S.made + 1)) rfl
    have a3 := hg6.cell (a := ⟨N, 3, none⟩) b3 (by simp; exact hNm)
    have b4 := block_cell hbox 4 (.bool S.c.idem) rfl
    have a4 := hg6.cell (a := ⟨N, 4, none⟩) b4 (by simp; exact hNm)
    have b5 := block_cell hbox 5 (.bool S.c.shadow) rfl
    have a5 := hg6.cell (a := ⟨N, 5, none⟩) b5 (by simp; exact hNm)
    have b6 := block_cell hbox 6 (.int .i64 S.c.dl) rfl
    have a6 := hg6.cell (a := ⟨N, 6, none⟩) b6 (by simp; exact hNm)
    have b7 := block_cell hbox 7 (.int .i64 (S.left / 2)) rfl
    have a7 := hg6.cell (a := ⟨N, 7, none⟩) b7 (by simp; exact hNm)
    have b8 := block_cell hbox 8 (.int .i64 S.c.ver) rfl
    have a8 := hg6.cell (a := ⟨N, 8, none⟩) b8 (by simp; exact hNm)
    have b9 := block_cell hbox 9 (.int .i64 S.c.prio) rfl
    have a9 := hg6.cell (a := ⟨N, 9, none⟩) b9 (by simp; exact hNm)
    have HTL := Lib.hid (tell_any HC4.out hL ⟨1, 0, S.cx, 0⟩)
    dsimp only [attVal, CS.cx] at hup
    clear hC2 hm1 ho1 hm6 hnew hC3 hC4 hbox hbx hN
    go_wp2_with fail
    go_region_held3 (fun w' => w'.cell? ⟨cb, 17, none⟩ = some (.map (some mb)) ∧ w'.cell? ⟨cb, 18, none⟩ = some (.int .i64 (S.made + 1)) ∧ w'.cell? ⟨N, 0, none⟩ = some (.int .i64 now) ∧ w'.cell? ⟨N, 1, none⟩ = some (.int .i64 S.c.req) ∧ w'.cell? ⟨N, 2, none⟩ = some (.string S.c.call) ∧ w'.cell? ⟨N, 3, none⟩ = some (.int .i64 (S.made + 1)) ∧ w'.cell? ⟨N, 4, none⟩ = some (.bool S.c.idem) ∧ w'.cell? ⟨N, 5, none⟩ = some (.bool S.c.shadow) ∧ w'.cell? ⟨N, 6, none⟩ = some (.int .i64 S.c.dl) ∧ w'.cell? ⟨N, 7, none⟩ = some (.int .i64 (S.left / 2)) ∧ w'.cell? ⟨N, 8, none⟩ = some (.int .i64 S.c.ver) ∧ w'.cell? ⟨N, 9, none⟩ = some (.int .i64 S.c.prio)) (first | go_keep | exact ⟨g17, g18, a0, a1, a2, a3, a4, a5, a6, a7, a8, a9⟩) (fail)
    go_wp2_with (go_at_call 28; refine HTL.out.mono ?_; rintro e w9 ⟨rfl, hfin⟩)
    go_end0
    exact ⟨rfl, hfin⟩

end Go.Proofs.YtkpjjhiighakfaaGreatDoor
