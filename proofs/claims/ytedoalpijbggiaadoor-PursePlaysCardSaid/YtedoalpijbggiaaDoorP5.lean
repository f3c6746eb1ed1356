/- The ledger: New; Mint, Move, Spend. -/
import Derived.Test.YtedoalpijbggiaaDoorP3
import Derived.Test.YtedoalpijbggiaaDoorSplit
namespace Go.Proofs.YtedoalpijbggiaaDoor
open Go.RowKit
attribute [local go_sem ↓] Go.wp_at_zero Go.wp_at_succ

def led0 : Led := ⟨fun _ => 0, fun _ => none⟩

theorem new_any (w : World) :
    Calls Tryd.prog 10 #[] w fun e w' => ∃ gb lb sb, e = .returned (.pointer (some ⟨gb, 0, none⟩)) ∧ LedAt w' gb lb sb led0 ∧ (∀ k, LFoot gb lb sb k → w.heap.size ≤ k) ∧ Below w.heap.size w w' := by
  have hmm := @run_makeMap Tryd.prog
  go_enter Tryd.func10, Tryd.ntmps10
  go_wp2
  go_ret
  obtain ⟨W1, hW1⟩ : ∃ W1, W1 = w.alloc (.map #[] 0) := ⟨_, rfl⟩
  obtain ⟨W2, hW2⟩ : ∃ W2, W2 = W1.alloc (.map #[] 0) := ⟨_, rfl⟩
  have s1 : W1.heap.size = w.heap.size + 1 := by rw [hW1]; simp
  have s2 : W2.heap.size = w.heap.size + 2 := by rw [hW2]; simp [s1]
  have b1 : Below w.heap.size w W1 := by rw [hW1]; exact (Below.refl _ _).alloc (Nat.le_refl _) _
  have b2 : Below W1.heap.size W1 W2 := by rw [hW2]; exact (Below.refl _ _).alloc (Nat.le_refl _) _
  have m1 : MapAt mapS W1 w.heap.size [] := by rw [hW1]; exact mapAt_new mapS w
  have m2 : MapAt mapI W2 (w.heap.size + 1) [] := by have := mapAt_new mapI W1; rw [s1] at this; rw [hW2]; exact this
  rw [← hW1, ← hW2]
  have b3 := fun o => (Below.refl W2.heap.size W2).alloc (Nat.le_refl _) o
  refine ⟨w.heap.size + 2, w.heap.size, w.heap.size + 1, rfl, ⟨?_, ⟨[], (m1.keep (b2.block _ (by omega))).keep ((b3 _).block _ (by omega)), fun _ => rfl⟩, ⟨[], m2.keep ((b3 _).block _ (by omega)), fun _ => rfl⟩, by omega, by omega, by omega⟩, ?_, btrans (btrans b1 b2) (b3 _)⟩
  · rw [← s2]; exact heap_alloc_new W2 _
  · rintro k (rfl | rfl | rfl) <;> omega

/-- A request that a text has, whatever new stands in memory. -/
def ReqAt (w : World) (s : ByteArray) (r : Int) : Prop := ∀ W, Below w.heap.size w W → Calls Tryd.prog 35 #[.string s] W fun e w' => e = .returned (.int .i64 r) ∧ Below W.heap.size W w'
theorem ReqAt.keep {w w' : World} {s : ByteArray} {r : Int} (h : ReqAt w s r) (hb : Below w.heap.size w w') : ReqAt w' s r := fun W hW => h W (btrans hb hW)

theorem enters_of_mint : Enters 40 := fun args W => by kernel_rfl
theorem enters_of_move : Enters 36 := fun args W => by kernel_rfl
theorem enters_of_spend : Enters 39 := fun args W => by kernel_rfl

def Led.mintE (L : Led) (r n : Int) : Int := if r < 1 ∨ 2147483647 < r ∨ n < 0 ∨ 2147483647 < n then 1 else if (L.sums r).isSome then 5 else 0

set_option maxRecDepth 8000 in
set_option maxHeartbeats 2000000 in
theorem mint1_any {w : World} {gb lb sb : Nat} {L : Led} (h : LedAt w gb lb sb L) (r n : Int) (kr kn kl : Nat) (cr : w.cell? ⟨kr, 0, none⟩ = some (.int .i64 r)) (cn : w.cell? ⟨kn, 0, none⟩ = some (.int .i64 n)) (cl : w.cell? ⟨kl, 0, none⟩ = some (.pointer (some ⟨gb, 0, none⟩))) :
    Calls Tryd.prog 40 #[.pointer (some ⟨kr, 0, none⟩), .pointer (some ⟨kn, 0, none⟩), .pointer (some ⟨kl, 0, none⟩)] w fun e w' => e = .returned (.int .i64 (L.mintE r n)) ∧ Below w.heap.size w w' := by
  have HE : Hid (L.mintE r n = if r < 1 ∨ 2147483647 < r ∨ n < 0 ∨ 2147483647 < n then 1 else if (L.sums r).isSome then 5 else 0) := rfl
  have c1 := block_cell h.cells 1 _ rfl
  have hl := h.look_sum r true
  have hld := (h.below (Below.refl _ _).drew).look_sum r true
  simp only [if_true] at hl hld
  obtain ⟨a, ha⟩ : ∃ a, a = (L.sum r).1 := ⟨_, rfl⟩
  obtain ⟨b, hb⟩ : ∃ b, b = (L.sum r).2 := ⟨_, rfl⟩
  rw [← ha, ← hb] at hl hld
  have hlk := fun (W : World) (hb : Below w.heap.size w W) => (h.below hb).look_sum r true
  simp only [if_true] at hlk
  rw [← ha, ← hb] at hlk
  have hbn := fun ob => ((Below.refl w.heap.size w).alloc (Nat.le_refl _) ob).drew
  have H := Lib.hid h
  clear h ha hb
  by_cases q1 : r < 1
  · have HE2 : Hid (L.mintE r n = 1) := HE.out.trans (if_pos (.inl q1))
    have t1 : decide (r < 1) = true := decide_eq_true q1
    clear q1
    go_enter Tryd.func40, Tryd.ntmps40
    go_wp2_with fail
    go_ret
    rw [HE2.out]
    exact ⟨rfl, Below.refl _ _⟩
  by_cases q2 : 2147483647 < r
  · have HE2 : Hid (L.mintE r n = 1) := HE.out.trans (if_pos (.inr (.inl q2)))
    go_enter Tryd.func40, Tryd.ntmps40
    go_wp2_with fail
    go_ret
    rw [HE2.out]
    exact ⟨rfl, Below.refl _ _⟩
  by_cases q3 : n < 0
  · have HE2 : Hid (L.mintE r n = 1) := HE.out.trans (if_pos (.inr (.inr (.inl q3))))
    go_enter Tryd.func40, Tryd.ntmps40
    go_wp2_with fail
    go_ret
    rw [HE2.out]
    exact ⟨rfl, Below.refl _ _⟩
  by_cases q4 : 2147483647 < n
  · have HE2 : Hid (L.mintE r n = 1) := HE.out.trans (if_pos (.inr (.inr (.inr q4))))
    go_enter Tryd.func40, Tryd.ntmps40
    go_wp2_with fail
    go_ret
    rw [HE2.out]
    exact ⟨rfl, Below.refl _ _⟩
  have HE2 : Hid (L.mintE r n = if (L.sums r).isSome then 5 else 0) := HE.out.trans (if_neg (by omega))
  obtain ⟨q, hq⟩ : ∃ q, q = (L.sums r).isSome := ⟨_, rfl⟩
  rw [← hq] at hl hld hlk HE2
  clear HE hq
  cases q with
  | true =>
    have HE3 : Hid (L.mintE r n = 5) := HE2.out
    go_enter Tryd.func40, Tryd.ntmps40
    go_wp2_with fail
    go_region_held3 (fun w' => w'.cell? ⟨kl, 0, none⟩ = some (.pointer (some ⟨gb, 0, none⟩)) ∧ w'.cell? ⟨kr, 0, none⟩ = some (.int .i64 r) ∧ w'.cell? ⟨gb, 1, none⟩ = some (.map (some sb)) ∧ (Instr.lookup 60 (.map (some sb)) (.int .i64 r) true).run Tryd.prog w' = .ok (.tuple #[.agg #[.int .i64 a, .int .i64 b], .bool true]) w') (first | go_keep | exact hld | exact hlk _ (hbn _)) (fail)
    all_goals (go_wp2_with fail; go_ret; rw [HE3.out]; exact ⟨rfl, hbn _⟩)
  | false =>
    have HE3 : Hid (L.mintE r n = 0) := HE2.out
    go_enter Tryd.func40, Tryd.ntmps40
    go_wp2_with fail
    go_region_held3 (fun w' => w'.cell? ⟨kl, 0, none⟩ = some (.pointer (some ⟨gb, 0, none⟩)) ∧ w'.cell? ⟨kr, 0, none⟩ = some (.int .i64 r) ∧ w'.cell? ⟨gb, 1, none⟩ = some (.map (some sb)) ∧ (Instr.lookup 60 (.map (some sb)) (.int .i64 r) true).run Tryd.prog w' = .ok (.tuple #[.agg #[.int .i64 a, .int .i64 b], .bool false]) w') (first | go_keep | exact hld | exact hlk _ (hbn _)) (fail)
    all_goals (go_wp2_with fail; go_ret; rw [HE3.out]; exact ⟨rfl, hbn _⟩)

/-- What New, Mint, Move, Spend ask of memory: a ledger behind what a call's own new blocks are. -/
def Led.mintL (L : Led) (r n : Int) (s : ByteArray) : Led := if L.mintE r n = 0 then L.does r n 0 [(s, n)] else L

/-- What change leads to. -/
def ChAny (w : World) (gb lb sb : Nat) (L L' : Led) (er : Int) (e : Ending) (w' : World) : Prop := e = .returned (.int .i64 er) ∧ ChInv w w' gb lb sb (if er = 0 then L' else L)

theorem change_any {w : World} {gb lb sb : Nat} {L : Led} (h : LedAt w gb lb sb L) (F : Nat) (caps : Array Value) (hF : Enters F) (er r m p : Int) (sh : List (ByteArray × Int)) {v : Value} {vb : Option Nat}
    (hv : RowAt w 74 2 v sh.length (shCells sh) vb) (hvb : ∀ g, vb = some g → ¬ LF lb sb g) (hn : sh.length ≤ 1000)
    (hmay : ∀ W, Below w.heap.size w W → Calls Tryd.prog F caps W fun e w' => e = .returned (.int .i64 er) ∧ Below W.heap.size W w')
    (hs1 : er = 0 → IntKind.i64.wrap ((L.sum r).1 + m) = (L.sum r).1 + m) (hs2 : er = 0 → IntKind.i64.wrap ((L.sum r).2 + p) = (L.sum r).2 + p)
    (hw : er = 0 → ∀ k x, sh[k]? = some x → IntKind.i64.wrap ((L.does r m p (sh.take k)).left x.1 + x.2) = (L.does r m p (sh.take k)).left x.1 + x.2) :
    Calls Tryd.prog 38 #[.pointer (some ⟨gb, 0, none⟩), .func (.func F) #[] caps, .int .i64 r, .agg #[.int .i64 m, .int .i64 p], v] w (ChAny w gb lb sb L (L.does r m p sh) er) := by
  by_cases he : er = 0
  · subst he
    exact (change_yes h F caps hF r m p sh hv hvb hn hmay (hs1 rfl) (hs2 rfl) (hw rfl)).mono fun e w' hp => ⟨hp.1, by rw [if_pos rfl]; exact hp.2⟩
  · exact (change_no h F caps hF er he r m p v hmay).mono fun e w' hp => ⟨hp.1, by rw [if_neg he]; exact hp.2⟩

theorem shRow1 (w : World) (x : ByteArray × Int) : RowAt (w.alloc (.cells #[.string x.1, .int .i64 x.2] 74)) 74 2 (.slice (some ⟨w.heap.size, 0, none⟩) 1 1) [x].length (shCells [x]) (some w.heap.size) :=
  ⟨rfl, by simp, .inr ⟨_, 0, 1, _, rfl, rfl, heap_alloc_new w _, by simp, by simp [maxLen], by simp, rfl⟩⟩
theorem shRow2 (w : World) (x y : ByteArray × Int) : RowAt (w.alloc (.cells #[.string x.1, .int .i64 x.2, .string y.1, .int .i64 y.2] 74)) 74 2 (.slice (some ⟨w.heap.size, 0, none⟩) 2 2) [x, y].length (shCells [x, y]) (some w.heap.size) :=
  ⟨rfl, by simp, .inr ⟨_, 0, 2, _, rfl, rfl, heap_alloc_new w _, by simp, by simp [maxLen], by simp, rfl⟩⟩

set_option maxRecDepth 8000 in
set_option maxHeartbeats 2000000 in
theorem mint_any {w : World} {gb lb sb : Nat} {L : Led} (h : LedAt w gb lb sb L) (r n : Int) (s : ByteArray)
    (hit : ∀ W, Below w.heap.size w W → Calls Tryd.prog 41 #[.int .i64 r] W fun e w' => e = .returned (.string s) ∧ Below W.heap.size W w')
    (hs1 : L.mintE r n = 0 → IntKind.i64.wrap ((L.sum r).1 + n) = (L.sum r).1 + n) (hs2 : L.mintE r n = 0 → IntKind.i64.wrap ((L.sum r).2 + 0) = (L.sum r).2 + 0) (hw : L.mintE r n = 0 → IntKind.i64.wrap (L.left s + n) = L.left s + n) :
    Calls Tryd.prog 29 #[.pointer (some ⟨gb, 0, none⟩), .int .i64 r, .int .i64 n] w (ChAny w gb lb sb L (L.does r n 0 [(s, n)]) (L.mintE r n)) := by
  have H := Lib.hid h
  have HIT := Lib.hid hit
  have HS1 := Lib.hid hs1
  have HS2 := Lib.hid hs2
  have HW := Lib.hid hw
  obtain ⟨b, hb⟩ : ∃ b, b = w.heap.size := ⟨_, rfl⟩
  obtain ⟨W, hW⟩ : ∃ W, W = ((w.alloc (.cells #[.pointer (some ⟨gb, 0, none⟩)] 25)).alloc (.cells #[.int .i64 r] 3)).alloc (.cells #[.int .i64 n] 3) := ⟨_, rfl⟩
  have hb1 := (Below.refl w.heap.size w).alloc (Nat.le_refl _) (.cells #[.pointer (some ⟨gb, 0, none⟩)] 25)
  have hn1 := heap_alloc_new w (.cells #[.pointer (some ⟨gb, 0, none⟩)] 25)
  obtain ⟨W1, hW1⟩ : ∃ W1, W1 = w.alloc (.cells #[.pointer (some ⟨gb, 0, none⟩)] 25) := ⟨_, rfl⟩
  have hz1 : W1.heap.size = b + 1 := by rw [hW1, hb]; simp
  rw [← hW1] at hb1 hn1 hW
  have hb2 := (Below.refl W1.heap.size W1).alloc (Nat.le_refl _) (.cells #[.int .i64 r] 3)
  have hn2 := heap_alloc_new W1 (.cells #[.int .i64 r] 3)
  obtain ⟨W2, hW2⟩ : ∃ W2, W2 = W1.alloc (.cells #[.int .i64 r] 3) := ⟨_, rfl⟩
  have hz2 : W2.heap.size = b + 2 := by rw [hW2]; simp [hz1]
  rw [← hW2] at hb2 hn2 hW
  have hb3 := (Below.refl W2.heap.size W2).alloc (Nat.le_refl _) (.cells #[.int .i64 n] 3)
  have hn3 := heap_alloc_new W2 (.cells #[.int .i64 n] 3)
  rw [← hW] at hb3 hn3
  have hz3 : W.heap.size = b + 3 := by rw [hW]; simp [hz2]
  rw [hz2] at hn3
  rw [hz1] at hn2
  rw [← hb] at hn1
  have c2 := block_cell hn3 0 _ rfl
  have c1 := bkeep hb3 (block_cell hn2 0 _ rfl)
  have c0 := bkeep hb3 (bkeep hb2 (block_cell hn1 0 _ rfl))
  have HB := Lib.hid (btrans (btrans hb1 hb2) hb3)
  clear h hit hs1 hs2 hw hb1 hb2 hb3 hn1 hn2 hn3
  go_enter Tryd.func29, Tryd.ntmps29
  go_wp2_with fail
  simp only [← hb]
  rw [← hW1, ← hW2, ← hW]
  have HBQ := Lib.hid hb
  clear hW1 hW2 hW hb
  refine wp_region_held_drew (S := fun w' => w'.cell? ⟨b, 0, none⟩ = some (.pointer (some ⟨gb, 0, none⟩)) ∧ w'.cell? ⟨b + 1, 0, none⟩ = some (.int .i64 r) ∧ w'.cell? ⟨b + 2, 0, none⟩ = some (.int .i64 n)) (by kernel_rfl) ⟨c0, c1, c2⟩ (fun hHeld => ?_)
  refine wpAnyH_take (i := 0) (v := ?_) rfl (by kernel_rfl) (by kernel_rfl) (by kernel_rfl) (fun _ _ _ h => h) (Or.inl ⟨by kernel_rfl, ?_⟩) (by assumption) ?_
  rotate_left
  · (intro w hSw; (try dsimp only at hSw); go_simp; try with_reducible rfl)
  try simp only [Act.put]
  refine wpAnyH_take (i := 1) (v := ?_) rfl (by kernel_rfl) (by kernel_rfl) (by kernel_rfl) (fun _ _ _ h => h) (Or.inl ⟨by kernel_rfl, ?_⟩) (by assumption) ?_
  rotate_left
  · (intro w hSw; (try dsimp only at hSw); go_simp; try with_reducible rfl)
  try simp only [Act.put]
  refine wpAnyH_take (i := 2) (v := ?_) rfl (by kernel_rfl) (by kernel_rfl) (by kernel_rfl) (fun _ _ _ h => h) (Or.inl ⟨by kernel_rfl, ?_⟩) (by assumption) ?_
  rotate_left
  · (intro w hSw; (try dsimp only at hSw); go_simp; try with_reducible rfl)
  try simp only [Act.put]
  refine wpAnyH_take (i := 3) (v := ?_) rfl (by kernel_rfl) (by kernel_rfl) (by kernel_rfl) (fun _ _ _ h => h) (Or.inl ⟨by kernel_rfl, ?_⟩) (by assumption) ?_
  rotate_left
  · (intro w hSw; (try dsimp only at hSw); go_simp; try with_reducible rfl)
  try simp only [Act.put]
  refine wpAnyH_take (i := 4) (v := ?_) rfl (by kernel_rfl) (by kernel_rfl) (by kernel_rfl) (fun _ _ _ h => h) (Or.inl ⟨by kernel_rfl, ?_⟩) (by assumption) ?_
  rotate_left
  · (intro w hSw; (try dsimp only at hSw); go_simp; try with_reducible rfl)
  try simp only [Act.put]
  refine wpAnyH_take (i := 5) (v := ?_) rfl (by kernel_rfl) (by kernel_rfl) (by kernel_rfl) (fun _ _ _ h => h) (Or.inl ⟨by kernel_rfl, ?_⟩) (by assumption) ?_
  rotate_left
  · (intro w hSw; (try dsimp only at hSw); go_simp; try with_reducible rfl)
  try simp only [Act.put]
  refine wpAnyH_take (i := 7) (v := ?_) rfl (by kernel_rfl) (by kernel_rfl) (by kernel_rfl) (fun _ _ _ h => h) (Or.inl ⟨by kernel_rfl, ?_⟩) (by assumption) ?_
  rotate_left
  · (intro w hSw; (try dsimp only at hSw); go_simp; try with_reducible rfl)
  try simp only [Act.put]
  refine wpAnyH_ready (rs := [6]) (by kernel_rfl) (by simp) ?_
  refine AllReadyH.cons rfl (fun K hK => ?_) AllReadyH.nil
  go_simp
  refine (HIT.out _ (HB.out.trans (Below.refl _ _).drew)).mono ?_
  rintro e w1 ⟨rfl, h1⟩
  replace h1 := bdrew h1
  have hh := And.intro (bkeep h1 c0) (And.intro (bkeep h1 c1) (bkeep h1 c2))
  refine hK.out _ _ (hh) (fun hHeld => ?_)
  clear hK K
  try simp only [Act.put]
  refine wpAnyH_take (i := 8) (v := ?_) rfl (by kernel_rfl) (by kernel_rfl) (by kernel_rfl) (fun _ _ _ h => h) (Or.inl ⟨by kernel_rfl, ?_⟩) (by assumption) ?_
  rotate_left
  · (intro w hSw; (try dsimp only at hSw); go_simp; try with_reducible rfl)
  try simp only [Act.put]
  refine wpAnyH_ready (rs := [9]) (by kernel_rfl) (by simp) ?_
  refine AllReadyH.cons rfl (fun K hK => ?_) AllReadyH.nil
  go_simp
  have hbn := (Below.refl w1.heap.size w1).alloc (Nat.le_refl _) (.cells #[.string s, .int .i64 n] 74)
  refine hK.out _ _ (⟨bkeep hbn hh.1, bkeep hbn hh.2.1, bkeep hbn hh.2.2⟩) (fun hHeld => ?_)
  clear hK K
  try simp only [Act.put]
  refine wpAnyH_ready (rs := [10]) (by kernel_rfl) (by simp) ?_
  refine AllReadyH.cons rfl (fun K hK => ?_) AllReadyH.nil
  go_simp
  have hbw := btrans HB.out (btrans h1 hbn)
  have hsz := h1.size
  refine (change_any (H.out.below hbw) _ _ enters_of_mint (L.mintE r n) r n 0 [(s, n)] (shRow1 w1 (s, n)) (fun g hg => ?_) (by simp) (fun X hX => ?_) HS1.out HS2.out (fun h0 k x hk => ?_)).mono ?_
  · cases hg
    have := H.out.lt lb (.inr (.inl rfl))
    have := H.out.lt sb (.inr (.inr rfl))
    have := HBQ.out
    unfold LF; omega
  · exact mint1_any (H.out.below (btrans hbw hX)) r n _ _ _ (bkeep hX (bkeep hbn hh.2.1)) (bkeep hX (bkeep hbn hh.2.2)) (bkeep hX (bkeep hbn hh.1))
  · match k, hk with
    | 0, hk => cases hk; exact HW.out h0
    | k + 1, hk => simp at hk
  rintro e w3 ⟨rfl, hc⟩
  have hfr := (Fr.ofBelow (F := LF lb sb) hbw).trans hc.fr (fun b h => .inl h)
  have hl2 := H.out.lt lb (.inr (.inl rfl))
  have hl3 := H.out.lt sb (.inr (.inr rfl))
  have hbq := HBQ.out
  have hk := fun (a : Addr) (v : Value) (ha : w1.cell? a = some v) (hb : w.heap.size ≤ a.block) => hc.fr.cell (bkeep hbn ha) (by unfold LF; omega)
  have hkk := And.intro (hk _ _ hh.1 (by simp; omega)) (And.intro (hk _ _ hh.2.1 (by simp; omega)) (hk _ _ hh.2.2 (by simp; omega)))
  refine hK.out _ _ (hkk) (fun hHeld => ?_)
  clear hK K
  try simp only [Act.put]
  refine wpAnyH_ready (rs := [11]) (by kernel_rfl) (by simp) ?_
  refine AllReadyH.cons rfl (fun K hK => ?_) AllReadyH.nil
  go_simp
  refine hK.out _ _ (hkk) (fun hHeld => ?_)
  clear hK K
  try simp only [Act.put]
  refine wpAnyH_done (by kernel_rfl) ?_ _
  try simp only [Act.put]
  have HFIN := Lib.hid (⟨hc.at_, hfr⟩ : ChInv w w3 gb lb sb (if L.mintE r n = 0 then L.does r n 0 [(s, n)] else L))
  clear hHeld hk hkk hfr hc hbw hsz hh h1 hbq
  go_wp2_with fail
  go_ret
  exact ⟨rfl, HFIN.out⟩

end Go.Proofs.YtedoalpijbggiaaDoor
