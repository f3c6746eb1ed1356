/- The ledger: change. -/
import Derived.Test.YtedoalpijbggiaaDoorP1
import Derived.Deep.RegionHeld3
import Derived.Deep.DrawnRows
namespace Go.Proofs.YtedoalpijbggiaaDoor
open Go.RowKit
attribute [local go_sem ↓] Go.wp_at_zero Go.wp_at_succ

def Led.shift (L : Led) (x : ByteArray × Int) : Led := { L with left := fun s => if s = x.1 then L.left x.1 + x.2 else L.left s }
def Led.more (L : Led) (r m p : Int) : Led := { L with sums := fun k => if k = r then some ((L.sum r).1 + m, (L.sum r).2 + p) else L.sums k }
def Led.does (L : Led) (r m p : Int) (sh : List (ByteArray × Int)) : Led := sh.foldl Led.shift (L.more r m p)

theorem does_take {L : Led} {r m p : Int} {sh : List (ByteArray × Int)} {k : Nat} {x : ByteArray × Int} (h : sh[k]? = some x) : L.does r m p (sh.take (k + 1)) = (L.does r m p (sh.take k)).shift x := by
  unfold Led.does; rw [List.take_add_one, h]; simp

def shCells (sh : List (ByteArray × Int)) : List Value := sh.flatMap fun x => [.string x.1, .int .i64 x.2]
theorem shCells_length (l : List (ByteArray × Int)) : (shCells l).length = l.length * 2 := by
  unfold shCells
  induction l with
  | nil => rfl
  | cons a l ih => simp only [List.flatMap_cons, List.length_append, ih, List.length_cons, List.length_nil]; omega
theorem shCells_get (l : List (ByteArray × Int)) (k : Nat) (x : ByteArray × Int) (h : l[k]? = some x) : (shCells l)[k * 2]? = some (.string x.1) ∧ (shCells l)[k * 2 + 1]? = some (.int .i64 x.2) := by
  unfold shCells
  induction l generalizing k with
  | nil => simp at h
  | cons a l ih =>
    cases k with
    | zero => simp at h; subst h; exact ⟨rfl, rfl⟩
    | succ k =>
      have := ih k (by simpa using h)
      rw [List.flatMap_cons, List.getElem?_append_right (by simp; omega), List.getElem?_append_right (by simp; omega)]
      simp only [List.length_cons, List.length_nil]
      rw [show (k + 1) * 2 - (0 + 1 + 1) = k * 2 by omega, show (k + 1) * 2 + 1 - (0 + 1 + 1) = k * 2 + 1 by omega]
      exact this

/-- A function value that may be called. -/
def Enters (F : Nat) : Prop := ∀ (args : Array Value) (W : World), (callFunc F args).run Tryd.prog W = .ok (.enter F args) W

def LF (lb sb : Nat) (k : Nat) : Prop := k = lb ∨ k = sb

theorem LedAt.set_left {w w' : World} {gb lb sb : Nat} {L : Led} (h : LedAt w gb lb sb L) (x : ByteArray × Int) {m : List (ByteArray × Value)} (hm : MapAt mapS w' lb m) (hg : w.grownBy w' (some lb))
    (hv : ∀ s, (mget m s).getD (.int .i64 0) = .int .i64 ((L.shift x).left s)) : LedAt w' gb lb sb (L.shift x) := by
  have hne := h.ne
  have hlt := h.lt
  refine ⟨(hg.block gb (hlt gb (.inl rfl)) (by simp; exact hne.1)).trans h.cells, ⟨m, hm, hv⟩, ?_, hne⟩
  obtain ⟨m', h3, h3'⟩ := h.sums
  exact ⟨m', h3.keep (hg.block sb (hlt sb (.inr (.inr rfl))) (by simp; exact fun e => hne.2.2 e.symm)), h3'⟩

theorem LedAt.put {w : World} {gb lb sb : Nat} {L : Led} (h : LedAt w gb lb sb L) (x : ByteArray × Int) : ∃ w', (Instr.mapUpdate 59 (.map (some lb)) (.string x.1) (.int .i64 (L.left x.1 + x.2))).run Tryd.prog w = .ok () w' ∧ LedAt w' gb lb sb (L.shift x) ∧ w.grownBy w' (some lb) := by
  obtain ⟨m, hm, hv⟩ := h.left
  obtain ⟨w', h1, h2, h3⟩ := run_update_at (string_law Tryd.underlying9) hm Tryd.underlying59 x.1 (.int .i64 (L.left x.1 + x.2))
  refine ⟨w', h1, h.set_left x h2 h3 fun s => ?_, h3⟩
  rw [mget_mset]
  unfold Led.shift
  by_cases e : s = x.1
  · subst e; simp
  · rw [if_neg (fun e' => e e'.symm), hv]; simp [e]

theorem LedAt.drop {w : World} {gb lb sb : Nat} {L : Led} (h : LedAt w gb lb sb L) (x : ByteArray × Int) (h0 : L.left x.1 + x.2 = 0) : ∃ w', (Builtin.delete_ #[59, 9] 0 #[.map (some lb), .string x.1]).run Tryd.prog w = .ok (.tuple #[]) w' ∧ LedAt w' gb lb sb (L.shift x) ∧ w.grownBy w' (some lb) := by
  obtain ⟨m, hm, hv⟩ := h.left
  obtain ⟨w', h1, h2, h3⟩ := run_delete_at (string_law Tryd.underlying9) hm Tryd.underlying59 9 0 x.1
  refine ⟨w', h1, h.set_left x h2 h3 fun s => ?_, h3⟩
  rw [mget_mdel _ _ _ hm.1]
  unfold Led.shift
  by_cases e : s = x.1
  · subst e; simp [h0]
  · rw [if_neg (fun e' => e e'.symm), hv]; simp [e]

theorem LedAt.sums_put {w : World} {gb lb sb : Nat} {L : Led} (h : LedAt w gb lb sb L) (r m p : Int) : ∃ w', (Instr.mapUpdate 60 (.map (some sb)) (.int .i64 r) (.agg #[.int .i64 ((L.sum r).1 + m), .int .i64 ((L.sum r).2 + p)])).run Tryd.prog w = .ok () w' ∧ LedAt w' gb lb sb (L.more r m p) ∧ w.grownBy w' (some sb) := by
  obtain ⟨m', hm, hv⟩ := h.sums
  obtain ⟨w', h1, h2, h3⟩ := run_update_at (int_law Tryd.underlying3) hm Tryd.underlying60 r (.agg #[.int .i64 ((L.sum r).1 + m), .int .i64 ((L.sum r).2 + p)])
  have hne := h.ne
  have hlt := h.lt
  refine ⟨w', h1, ⟨(h3.block gb (hlt gb (.inl rfl)) (by simp; exact hne.2.1)).trans h.cells, ?_, ⟨_, h2, fun k => ?_⟩, hne⟩, h3⟩
  · obtain ⟨m2, h4, h4'⟩ := h.left
    exact ⟨m2, h4.keep (h3.block lb (hlt lb (.inr (.inl rfl))) (by simp; exact hne.2.2)), h4'⟩
  · rw [mget_mset]
    unfold Led.more
    by_cases e : k = r
    · subst e; simp [sumV]
    · rw [if_neg (fun e' => e e'.symm), hv]; simp [e]

structure ChInv (w wr : World) (gb lb sb : Nat) (L : Led) : Prop where
  at_ : LedAt wr gb lb sb L
  fr : Fr (LF lb sb) w wr

def ChPost (w : World) (gb lb sb : Nat) (L : Led) (er : Int) (e : Ending) (w' : World) : Prop := e = .returned (.int .i64 er) ∧ ChInv w w' gb lb sb L

set_option maxRecDepth 8000 in
set_option maxHeartbeats 2000000 in
theorem change_no {w : World} {gb lb sb : Nat} {L : Led} (h : LedAt w gb lb sb L) (F : Nat) (caps : Array Value) (hF : Enters F) (er : Int) (her : er ≠ 0) (r m p : Int) (v : Value)
    (hmay : ∀ W, Below w.heap.size w W → Calls Tryd.prog F caps W fun e w' => e = .returned (.int .i64 er) ∧ Below W.heap.size W w') :
    Calls Tryd.prog 38 #[.pointer (some ⟨gb, 0, none⟩), .func (.func F) #[] caps, .int .i64 r, .agg #[.int .i64 m, .int .i64 p], v] w (ChPost w gb lb sb L er) := by
  have H := Lib.hid h
  have HM := Lib.hid (hmay _ ((Below.refl w.heap.size w).alloc (Nat.le_refl _) (.cells #[.int .i64 m, .int .i64 p] 69)))
  have hFF : ∀ (args : Array Value) (W : World), (callFunc F args).run Tryd.prog W = .ok (.enter F args) W := hF
  have hb0 : (er == 0) = false := beq_eq_false_iff_ne.2 her
  clear h hmay hF
  go_enter Tryd.func38, Tryd.ntmps38
  go_wp2_with fail
  refine HM.out.mono ?_
  rintro e w1 ⟨rfl, h1⟩
  have H1 := Lib.hid (((Below.refl w.heap.size w).alloc (Nat.le_refl _) (.cells #[.int .i64 m, .int .i64 p] 69)).trans (h1.mono (by simp)))
  clear h1 hFF
  go_wp2_with fail
  go_ret
  exact ⟨rfl, H.out.below H1.out, Fr.ofBelow H1.out⟩

set_option maxRecDepth 8000 in
set_option maxHeartbeats 8000000 in
theorem change_yes {w : World} {gb lb sb : Nat} {L : Led} (h : LedAt w gb lb sb L) (F : Nat) (caps : Array Value) (hF : Enters F) (r m p : Int) (sh : List (ByteArray × Int)) {v : Value} {vb : Option Nat}
    (hv : RowAt w 74 2 v sh.length (shCells sh) vb) (hvb : ∀ g, vb = some g → ¬ LF lb sb g) (hn : sh.length ≤ 1000)
    (hmay : ∀ W, Below w.heap.size w W → Calls Tryd.prog F caps W fun e w' => e = .returned (.int .i64 0) ∧ Below W.heap.size W w')
    (hs1 : IntKind.i64.wrap ((L.sum r).1 + m) = (L.sum r).1 + m) (hs2 : IntKind.i64.wrap ((L.sum r).2 + p) = (L.sum r).2 + p)
    (hw : ∀ k x, sh[k]? = some x → IntKind.i64.wrap ((L.does r m p (sh.take k)).left x.1 + x.2) = (L.does r m p (sh.take k)).left x.1 + x.2) :
    Calls Tryd.prog 38 #[.pointer (some ⟨gb, 0, none⟩), .func (.func F) #[] caps, .int .i64 r, .agg #[.int .i64 m, .int .i64 p], v] w (ChPost w gb lb sb (L.does r m p sh) 0) := by
  have H := Lib.hid h
  have HV := Lib.hid hv
  have HVB := Lib.hid hvb
  have HW := Lib.hid hw
  obtain ⟨la, lc, rfl⟩ := hv.form
  have HM := Lib.hid (hmay _ ((Below.refl w.heap.size w).alloc (Nat.le_refl _) (.cells #[.int .i64 m, .int .i64 p] 69)))
  have hFF : ∀ (args : Array Value) (W : World), (callFunc F args).run Tryd.prog W = .ok (.enter F args) W := hF
  obtain ⟨n, hn'⟩ : ∃ n, n = sh.length := ⟨_, rfl⟩
  rw [← hn'] at hn ⊢
  have HN := Lib.hid hn'
  clear h hmay hF hv hvb hw hn'
  go_enter Tryd.func38, Tryd.ntmps38
  go_wp2_with fail
  refine HM.out.mono ?_
  rintro e w1 ⟨rfl, h1⟩
  have hb1 := ((Below.refl w.heap.size w).alloc (Nat.le_refl _) (.cells #[.int .i64 m, .int .i64 p] 69)).trans (h1.mono (by simp))
  have hbox := (h1.block w.heap.size (by simp)).trans (heap_alloc_new w (.cells #[.int .i64 m, .int .i64 p] 69))
  have hL1 := H.out.below hb1
  have c0 := block_cell hL1.cells 1 _ rfl
  have hl := hL1.look_sum r false
  simp only [Bool.false_eq_true, if_false] at hl
  have hs := h1.size
  obtain ⟨a, ha⟩ : ∃ a, a = (L.sum r).1 := ⟨_, rfl⟩
  obtain ⟨b, hb⟩ : ∃ b, b = (L.sum r).2 := ⟨_, rfl⟩
  have hb2 : Below w1.heap.size w1 (w1.alloc (.cells #[.int .i64 a, .int .i64 b] 69)) := (Below.refl _ _).alloc (Nat.le_refl _) _
  have hL2 := hL1.below (hb2.trans (Below.refl _ _).drew)
  obtain ⟨w3, hup, hL3, hg3⟩ := hL2.sums_put r m p
  rw [← ha] at hl hs1 hup
  rw [← hb] at hl hs2 hup
  have d0 := akeep c0 (.cells #[.int .i64 a, .int .i64 b] 69)
  have d1 := akeep (block_cell hbox 0 _ rfl) (.cells #[.int .i64 a, .int .i64 b] 69)
  have d2 := akeep (block_cell hbox 1 _ rfl) (.cells #[.int .i64 a, .int .i64 b] 69)
  have d3 := block_cell (heap_alloc_new w1 (.cells #[.int .i64 a, .int .i64 b] 69)) 0 _ rfl
  have d4 := block_cell (heap_alloc_new w1 (.cells #[.int .i64 a, .int .i64 b] 69)) 1 _ rfl
  have hsb := H.out.lt sb (.inr (.inr rfl))
  have hgs := H.out.ne.2.1
  have g0 := hg3.cell (a := ⟨gb, 1, none⟩) d0 (by simp; exact hgs)
  have g1 := hg3.cell (a := ⟨w.heap.size, 0, none⟩) d1 (by simp; omega)
  have g2 := hg3.cell (a := ⟨w.heap.size, 1, none⟩) d2 (by simp; omega)
  have g3 := hg3.cell (a := ⟨w1.heap.size, 0, none⟩) d3 (by have := hb1.size; simp; omega)
  have g4 := hg3.cell (a := ⟨w1.heap.size, 1, none⟩) d4 (by have := hb1.size; simp; omega)
  have HI := Lib.hid (⟨hL3, ((Fr.ofBelow (F := LF lb sb) (hb1.trans ((hb2.trans (Below.refl _ _).drew).mono hb1.size))).trans (Fr.ofGrown (F := LF lb sb) hg3 (fun k hk => .inr (by cases hk; rfl))) (fun b h => .inl h))⟩ : ChInv w w3 gb lb sb (L.more r m p))
  clear ha hb h1 hbox hL1 hL2 hb1 hb2 hFF hg3 hL3 hs hsb hgs d3 d4
  go_wp2_with fail
  go_region_held3 (fun w' => w'.cell? ⟨gb, 1, none⟩ = some (.map (some sb)) ∧ w'.cell? ⟨w.heap.size, 0, none⟩ = some (.int .i64 m) ∧ w'.cell? ⟨w.heap.size, 1, none⟩ = some (.int .i64 p) ∧ w'.cell? ⟨w1.heap.size, 0, none⟩ = some (.int .i64 a) ∧ w'.cell? ⟨w1.heap.size, 1, none⟩ = some (.int .i64 b)) (first | go_keep | exact ⟨g0, g1, g2, g3, g4⟩) (fail)
  clear g0 g1 g2 g3 g4 d0 d1 d2 c0 hup hl
  go_wp2_with fail
  go_loopw [45] (fun vi wr => ∃ k : Nat, vi = .int .i64 k ∧ k ≤ n ∧ ChInv w wr gb lb sb (L.does r m p (sh.take k))) (fun vi _ => (n - intOf vi).toNat)
  case atStart => exact ⟨0, rfl, by omega, HI.out⟩
  case round =>
    obtain ⟨k, rfl, hk, hinv⟩ := hrel
    have HK := Lib.hid hinv
    clear hinv
    by_cases hkn : k < n
    · obtain ⟨x, hx⟩ : ∃ x, sh[k]? = some x := ⟨sh[k]'(by rw [← HN.out]; exact hkn), by simp⟩
      obtain ⟨X, hX⟩ : ∃ X, X = L.does r m p (sh.take k) := ⟨_, rfl⟩
      have hdt := does_take (L := L) (r := r) (m := m) (p := p) hx
      have hwx := HW.out k x hx
      rw [← hX] at HK hwx hdt
      rcases HV.out.2.2 with ⟨_, h0, _⟩ | ⟨g, off, cap, cur, hv, hsg, _⟩
      · rw [← HN.out] at h0; omega
      injection hv with e1 e2 e3
      subst e1
      have hc := fun j hj => HV.out.cell j hj
      rw [← HN.out] at hc
      have hg' := shCells_get sh k x hx
      have hgf := HVB.out g hsg
      have e0 := HK.out.fr.cell (a := ⟨g, off + k * 2, none⟩) ((hc (k * 2) (by omega)).trans hg'.1) hgf
      have e1 := HK.out.fr.cell (a := ⟨g, off + k * 2 + 1, none⟩) ((hc (k * 2 + 1) (by omega)).trans hg'.2) hgf
      have c0 := akeep (block_cell HK.out.at_.cells 0 _ rfl) (.cells #[.string x.1, .int .i64 x.2] 74)
      have hbx : Below wr.heap.size wr (wr.alloc (.cells #[.string x.1, .int .i64 x.2] 74)) := (Below.refl _ _).alloc (Nat.le_refl _) _
      have hlk := fun (W : World) (hW : Below wr.heap.size wr W) => (HK.out.at_.below hW).look_left x.1
      have HLK := Lib.hid hlk
      have hb0 := block_cell (heap_alloc_new wr (.cells #[.string x.1, .int .i64 x.2] 74)) 0 _ rfl
      have hb1 := block_cell (heap_alloc_new wr (.cells #[.string x.1, .int .i64 x.2] 74)) 1 _ rfl
      have hl := hlk _ (hbx.trans (Below.refl _ _).drew)
      have HX := Lib.hid hx
      have HDT := Lib.hid hdt
      clear hc hg' hx hdt hX hgf hsg e2 e3 hlk hbx
      go_wp2_with fail
      refine wp_region_held_drew (S := fun w' => w'.cell? ⟨gb, 0, none⟩ = some (.map (some lb)) ∧ w'.cell? ⟨wr.heap.size, 0, none⟩ = some (.string x.1) ∧ w'.cell? ⟨wr.heap.size, 1, none⟩ = some (.int .i64 x.2) ∧ (Instr.lookup 59 (.map (some lb)) (.string x.1) false).run Tryd.prog w' = .ok (.int .i64 (X.left x.1)) w') (by kernel_rfl) ⟨c0, hb0, hb1, hl⟩ (fun hHeld => ?_)
      refine wpAnyH_take (i := 0) (v := ?_) rfl (by kernel_rfl) (by kernel_rfl) (by kernel_rfl) (fun _ _ _ h => h) (Or.inl ⟨by kernel_rfl, ?_⟩) (by assumption) ?_
      rotate_left
      · (intro w hSw; (try dsimp only at hSw); go_simp; try with_reducible rfl)
      try simp only [Act.put]
      refine wpAnyH_take (i := 1) (v := ?_) rfl (by kernel_rfl) (by kernel_rfl) (by kernel_rfl) (fun _ _ _ h => h) (Or.inl ⟨by kernel_rfl, ?_⟩) (by assumption) ?_
      rotate_left
      · (intro w hSw; (try dsimp only at hSw); go_simp; try with_reducible rfl)
      try simp only [Act.put]
      refine wpAnyH_take (i := 2) (v := ?_) rfl (by kernel_rfl) (by kernel_rfl) (by kernel_rfl) (fun _ _ _ h => h) (Or.inl ⟨by kernel_rfl, ?_⟩) (by assumption) ?_
      rotate_left
      · (intro w hSw; (try dsimp only at hSw); go_simp; try with_reducible rfl)
      try simp only [Act.put]
      refine wpAnyH_take (i := 3) (v := ?_) rfl (by kernel_rfl) (by kernel_rfl) (by kernel_rfl) (fun _ _ _ h => h) (Or.inl ⟨by kernel_rfl, ?_⟩) (by assumption) ?_
      rotate_left
      · (intro w hSw; (try dsimp only at hSw); go_simp; try with_reducible rfl)
      try simp only [Act.put]
      refine wpAnyH_take (i := 4) (v := ?_) rfl (by kernel_rfl) (by kernel_rfl) (by kernel_rfl) (fun _ _ _ h => h) (Or.inl ⟨by kernel_rfl, ?_⟩) (by assumption) ?_
      rotate_left
      · (intro w hSw; (try dsimp only at hSw); go_simp; try with_reducible rfl)
      try simp only [Act.put]
      refine wpAnyH_take (i := 5) (v := ?_) rfl (by kernel_rfl) (by kernel_rfl) (by kernel_rfl) (fun _ _ _ h => h) (Or.inl ⟨by kernel_rfl, ?_⟩) (by assumption) ?_
      rotate_left
      · (intro w hSw; (try dsimp only at hSw); go_simp; try with_reducible rfl)
      try simp only [Act.put]
      refine wpAnyH_take (i := 6) (v := ?_) rfl (by kernel_rfl) (by kernel_rfl) (by kernel_rfl) (fun _ _ _ h => h) (Or.inl ⟨by kernel_rfl, ?_⟩) (by assumption) ?_
      rotate_left
      · (intro w hSw; (try dsimp only at hSw); go_simp; try with_reducible rfl)
      try simp only [Act.put]
      refine wpAnyH_take (i := 7) (v := ?_) rfl (by kernel_rfl) (by kernel_rfl) (by kernel_rfl) (fun _ _ _ h => h) (Or.inl ⟨by kernel_rfl, ?_⟩) (by assumption) ?_
      rotate_left
      · (intro w hSw; (try dsimp only at hSw); go_simp; try with_reducible rfl)
      try simp only [Act.put]
      refine wpAnyH_take (i := 8) (v := ?_) rfl (by kernel_rfl) (by kernel_rfl) (by kernel_rfl) (fun _ _ _ h => h) (Or.inl ⟨by kernel_rfl, ?_⟩) (by assumption) ?_
      rotate_left
      · (intro w hSw; (try dsimp only at hSw); go_simp; try with_reducible rfl)
      try simp only [Act.put]
      refine wpAnyH_take (i := 9) (v := ?_) rfl (by kernel_rfl) (by kernel_rfl) (by kernel_rfl) (fun _ _ _ h => h) (Or.inl ⟨by kernel_rfl, ?_⟩) (by assumption) ?_
      rotate_left
      · (intro w hSw; (try dsimp only at hSw); go_simp; try with_reducible rfl)
      try simp only [Act.put]
      refine wpAnyH_take (i := 10) (v := ?_) rfl (by kernel_rfl) (by kernel_rfl) (by kernel_rfl) (fun _ _ _ h => h) (Or.inl ⟨by kernel_rfl, ?_⟩) (by assumption) ?_
      rotate_left
      · (intro w hSw; (try dsimp only at hSw); go_simp; try with_reducible rfl)
      try simp only [Act.put]
      refine wpAnyH_done (by kernel_rfl) ?_ _
      try simp only [Act.put]
      clear hHeld hl
      have hba : Below wr.heap.size wr (wr.alloc (.cells #[.string x.1, .int .i64 x.2] 74)).drew.drew := (((Below.refl _ _).alloc (Nat.le_refl _) _).trans (Below.refl _ _).drew).trans (Below.refl _ _).drew
      have hLb := HK.out.at_.below hba
      have hbz : lb < wr.heap.size := HK.out.at_.lt lb (.inr (.inl rfl))
      have hgl : gb ≠ lb := HK.out.at_.ne.1
      have HBA := Lib.hid hba
      by_cases hz : X.left x.1 + x.2 = 0
      · obtain ⟨w3, hdel, hL3, hg3⟩ := hLb.drop x hz
        have g0 := hg3.cell (a := ⟨gb, 0, none⟩) c0 (by simp; exact hgl)
        have g1 := hg3.cell (a := ⟨wr.heap.size, 0, none⟩) hb0 (by simp; omega)
        have HI := Lib.hid (⟨hL3, HK.out.fr.trans ((Fr.ofBelow (F := LF lb sb) hba).trans (Fr.ofGrown (F := LF lb sb) hg3 (fun k hk => .inl (by cases hk; rfl))) (fun b h => .inl h)) (fun b h => .inl h)⟩ : ChInv w w3 gb lb sb (X.shift x))
        have hz0 : (X.left x.1 + x.2 == 0) = true := by rw [hz]; rfl
        clear hba hLb hbz hgl hL3 hg3 hz
        go_wp2_with fail
        go_region_held3 (fun w' => w'.cell? ⟨gb, 0, none⟩ = some (.map (some lb)) ∧ w'.cell? ⟨wr.heap.size, 0, none⟩ = some (.string x.1)) (first | go_keep | exact ⟨g0, g1⟩) (fail)
        go_wp2_with fail
        go_roundw
        case rel => exact ⟨k + 1, by go_num, by omega, by rw [HDT.out]; exact HI.out⟩
        case measure => simp [intOf]; omega
      · obtain ⟨w3, hup, hL3, hg3⟩ := hLb.put x
        have g0 := hg3.cell (a := ⟨gb, 0, none⟩) c0 (by simp; exact hgl)
        have g1 := hg3.cell (a := ⟨wr.heap.size, 0, none⟩) hb0 (by simp; omega)
        have HI := Lib.hid (⟨hL3, HK.out.fr.trans ((Fr.ofBelow (F := LF lb sb) hba).trans (Fr.ofGrown (F := LF lb sb) hg3 (fun k hk => .inl (by cases hk; rfl))) (fun b h => .inl h)) (fun b h => .inl h)⟩ : ChInv w w3 gb lb sb (X.shift x))
        have hz0 : (X.left x.1 + x.2 == 0) = false := beq_eq_false_iff_ne.2 hz
        clear hba hLb hbz hgl hL3 hg3 hz
        go_wp2_with fail
        go_region_held3 (fun w' => w'.cell? ⟨gb, 0, none⟩ = some (.map (some lb)) ∧ w'.cell? ⟨wr.heap.size, 0, none⟩ = some (.string x.1)) (first | go_keep | exact ⟨g0, g1⟩) (fail)
        go_wp2_with fail
        go_roundw
        case rel => exact ⟨k + 1, by go_num, by omega, by rw [HDT.out]; exact HI.out⟩
        case measure => simp [intOf]; omega
    · obtain rfl : k = n := by omega
      go_wp2_with fail
      go_ret
      have := HK.out
      rw [List.take_of_length_le (by rw [← HN.out]; omega)] at this
      exact ⟨rfl, this⟩

end Go.Proofs.YtedoalpijbggiaaDoor
