/- What a call tells; the world while something is done. -/
import Derived.Test.YtkpjjhiighakfaaGreatDoorB4
namespace Go.Proofs.YtkpjjhiighakfaaGreatDoor
open Go.RowKit
attribute [local go_sem ↓] Go.wp_at_zero Go.wp_at_succ

structure Ac where
  what : Int
  at_ : Int
  c : Cx
  e : Int

def cx0 : Cx := ⟨0, ⟨#[]⟩, 0, false, false, 0, 0, 0, 0⟩
def acCells (a : Ac) : List Value := [.int .i64 a.what, .int .i64 a.at_, .int .i64 a.c.req, .string a.c.call, .int .i64 a.c.try_, .bool a.c.idem, .bool a.c.shadow, .int .i64 a.c.dl, .int .i64 a.c.purse, .int .i64 a.c.ver, .int .i64 a.c.prio, .int .i64 a.e]
def acsCells (l : List Ac) : List Value := l.flatMap acCells

theorem acsCells_length (l : List Ac) : (acsCells l).length = l.length * 12 := by
  unfold acsCells
  induction l with
  | nil => rfl
  | cons a l ih => rw [List.flatMap_cons, List.length_append, ih, List.length_cons]; show 12 + _ = _; omega
theorem acsCells_append (l l' : List Ac) : acsCells (l ++ l') = acsCells l ++ acsCells l' := by simp [acsCells]
theorem acsCells_one (l : List Ac) : ∀ u ∈ acsCells l, u.oneCell' = true := by
  intro u hu
  obtain ⟨a, _, ha⟩ := List.mem_flatMap.1 hu
  simp only [acCells, List.mem_cons, List.not_mem_nil, or_false] at ha
  rcases ha with rfl | rfl | rfl | rfl | rfl | rfl | rfl | rfl | rfl | rfl | rfl | rfl <;> rfl

theorem infoAc : (Tryz.prog.info? 42).map (fun i => (i.zero, i.size, i.bytes)) = some (some (.agg #[.int .i64 0, .int .i64 0, .int .i64 0, .string ⟨#[]⟩, .int .i64 0, .bool false, .bool false, .int .i64 0, .int .i64 0, .int .i64 0, .int .i64 0, .int .i64 0]), 12, 96) := by kernel_rfl

/-- A world to start from, and which of its blocks may be written. -/
structure Base where
  w : World
  P : Nat → Prop

/-- The world while something is done to a call: w0: the world at the start; lb: where it is gathered what is told. -/
structure CW (w0 : Base) (wi : World) (cb mb bb lb : Nat) (S : CS) (B : Bk) (L : List Ac) : Prop where
  call : CallW wi cb mb bb S
  bk : BkAt wi bb B
  out : ∃ v sb, wi.heap[lb]? = some (.cells #[v] 32 (0, 0)) ∧ RowAt wi 42 12 v L.length (acsCells L) sb ∧ ∀ g, sb = some g → (w0.P g ∨ w0.w.heap.size ≤ g) ∧ g ≠ lb ∧ ¬ CFoot cb mb bb g
  old : (w0.P lb ∨ w0.w.heap.size ≤ lb) ∧ ¬ CFoot cb mb bb lb
  own : w0.P cb ∧ w0.P mb ∧ w0.P bb
  ne : cb ≠ mb ∧ cb ≠ bb ∧ mb ≠ bb
  fr : Fr w0.P w0.w wi

theorem CW.keep {w0 : Base} {wi w' : World} {cb mb bb lb : Nat} {S : CS} {B : Bk} {L : List Ac} (h : CW w0 wi cb mb bb lb S B L) (hb : Below wi.heap.size wi w') : CW w0 w' cb mb bb lb S B L := by
  obtain ⟨h1, h2, ⟨v, sb, h3, h4, h5⟩, h6, h6', h7, h8⟩ := h
  exact ⟨h1.below hb, (hb.block _ (Array.getElem?_eq_some_iff.1 h2).1).trans h2, ⟨v, sb, (hb.block _ (Array.getElem?_eq_some_iff.1 h3).1).trans h3, h4.keep hb, h5⟩, h6, h6', h7, h8.trans (Fr.ofBelow (F := w0.P) hb) (fun _ h => .inl h)⟩

/-- New blocks, and what is told, alone have turned. -/
theorem CW.tell {w0 : Base} {wi w' : World} {cb mb bb lb : Nat} {S : CS} {B : Bk} {L L' : List Ac} {F : Nat → Prop} (h : CW w0 wi cb mb bb lb S B L) (hf : Fr F wi w') (hF : ∀ k, F k → (w0.P k ∨ w0.w.heap.size ≤ k) ∧ ¬ CFoot cb mb bb k)
    (ho : ∃ v sb, w'.heap[lb]? = some (.cells #[v] 32 (0, 0)) ∧ RowAt w' 42 12 v L'.length (acsCells L') sb ∧ ∀ g, sb = some g → (w0.P g ∨ w0.w.heap.size ≤ g) ∧ g ≠ lb ∧ ¬ CFoot cb mb bb g) : CW w0 w' cb mb bb lb S B L' := by
  obtain ⟨h1, h2, _, h6, h6', h7, h8⟩ := h
  have hbw := (Array.getElem?_eq_some_iff.1 h2).1
  exact ⟨h1.keep (hf.block _ h1.lt.1 (fun h => (hF _ h).2 (.inl rfl))) (hf.block _ h1.lt.2 (fun h => (hF _ h).2 (.inr (.inl rfl)))), (hf.block _ hbw (fun h => (hF _ h).2 (.inr (.inr rfl)))).trans h2, ho, h6, h6', h7,
    h8.trans hf (fun b h => (hF b h).1)⟩

theorem box12 {w : World} {vb : Nat} {a : Ac} {T : TypeId} (hv : w.heap[vb]? = some (.cells (acCells a).toArray T (0, 0))) :
    ∀ j u, (acsCells [a])[j]? = some u → w.cell? ((⟨vb, 0, none⟩ : Addr).add j) = some u := by
  intro j u hj
  rw [Addr.add_lit, Nat.zero_add, cell_of_row w vb j _ _ _ hv]
  have : acsCells [a] = acCells a := by simp [acsCells]
  rw [this] at hj
  rw [← hj]; simp

/-- What is told. -/
def told (c : Cx) (what at_ e : Int) : Ac := ⟨what, at_, c, e⟩

set_option maxRecDepth 8000 in
theorem tell_any {w0 : Base} {wi : World} {cb mb bb lb : Nat} {S : CS} {B : Bk} {L : List Ac} (h : CW w0 wi cb mb bb lb S B L) (hL : L.length ≤ 1000) (a : Ac) :
    Calls Tryz.prog 28 #[.agg #[.int .i64 a.what, .int .i64 a.at_, .int .i64 a.c.req, .string a.c.call, .int .i64 a.c.try_, .bool a.c.idem, .bool a.c.shadow, .int .i64 a.c.dl, .int .i64 a.c.purse, .int .i64 a.c.ver, .int .i64 a.c.prio, .int .i64 a.e], .pointer (some ⟨lb, 0, none⟩)] wi fun e w' => e = .returned (.tuple #[]) ∧ CW w0 w' cb mb bb lb S B (L ++ [a]) := by
  obtain ⟨v, sb, h3, h4, h5⟩ := h.out
  have c0 := block_cell h3 0 v rfl
  have f0 := block_free h3 0
  obtain ⟨la, lc, rfl⟩ := h4.form
  obtain ⟨p, hp⟩ : ∃ p, p = L.length := ⟨_, rfl⟩
  obtain ⟨W1, hW1⟩ : ∃ W1, W1 = (wi.alloc (.cells (acCells a).toArray 42)).alloc (.cells (acCells a).toArray 42) := ⟨_, rfl⟩
  have hb1 : Below wi.heap.size wi W1 := by rw [hW1]; exact ((Below.refl _ _).alloc (Nat.le_refl _) _).alloc (by simp) _
  have hn1 : W1.heap[wi.heap.size + 1]? = some (.cells (acCells a).toArray 42 (0, 0)) := by
    rw [hW1]; have := heap_alloc_new (wi.alloc (.cells (acCells a).toArray 42)) (.cells (acCells a).toArray 42); simpa using this
  obtain ⟨la2, lc2, sb2, w2, hrun, hrow2, hg2, hsb2, _⟩ := row_append (P := Tryz.prog) W1 32 32 42 _ 12 96 Tryz.underlying32 infoAc rfl (h4.keep hb1) ⟨wi.heap.size + 1, 0, none⟩ 1 1 (acsCells [a]) (by rw [acsCells_length]; rfl) (box12 hn1) (acsCells_one _) (by omega) (by omega) (by omega)
  rw [← acsCells_append] at hrow2
  rw [← hp] at hrun hrow2 c0
  have hlw : lb < wi.heap.size := (Array.getElem?_eq_some_iff.1 h3).1
  have hl1 := (hb1.block _ hlw).trans h3
  have hgl : sb ≠ some lb := fun e => (h5 lb e).2.1 rfl
  have hs1 := hb1.size
  have hl2 : w2.heap[lb]? = some (.cells #[.slice la L.length lc] 32 (0, 0)) := (hg2.block _ (by omega) (fun e => hgl e.symm)).trans hl1
  have hsb : ∀ g, sb2 = some g → (w0.P g ∨ w0.w.heap.size ≤ g) ∧ g ≠ lb ∧ ¬ CFoot cb mb bb g := by
    intro g hg
    rcases hsb2 with e | e
    · exact h5 g (e.symm.trans hg)
    · rw [hg] at e; cases e
      have h1 := h.fr.size
      have h2 := h.call.lt
      have h3 := (Array.getElem?_eq_some_iff.1 h.bk).1
      exact ⟨.inr (by omega), by omega, by unfold CFoot; omega⟩
  have hfin : CW w0 (w2.setCell ⟨lb, 0, none⟩ (.slice la2 (p + 1) lc2)) cb mb bb lb S B (L ++ [a]) := by
    refine h.tell (F := fun k => sb = some k ∨ k = lb) (((Fr.ofBelow hb1).trans (Fr.ofGrown (F := fun k => sb = some k ∨ k = lb) hg2 (fun k hk => .inl hk)) (fun b h => .inl h)).trans (Fr.setCell (fun k => sb = some k ∨ k = lb) w2 ⟨lb, 0, none⟩ _ (.inr rfl)) (fun b h => .inl h)) (fun k hk => ?_) ⟨.slice la2 (p + 1) lc2, sb2, ?_, ?_, hsb⟩
    · rcases hk with hk | rfl
      · exact ⟨(h5 k hk).1, (h5 k hk).2.2⟩
      · exact h.old
    · exact setCell_block w2 lb 0 _ _ _ _ hl2
    · rw [List.length_append, ← hp]
      exact hrow2.below fun g hg => Below.heap_setCell w2 ⟨lb, 0, none⟩ _ g (hsb g hg).2.1
  have HFIN := Lib.hid hfin
  have f1 : w2.frozen? ⟨lb, 0, none⟩ = false := block_free hl2 0
  have c1 := block_cell hl2 0 _ rfl
  rw [hW1] at hrun
  unfold acCells at hrun
  clear h h3 h4 h5 hp hW1 hb1 hn1 hrow2 hg2 hsb2 hl1 hgl hs1 hl2 hsb hfin
  go_enter Tryz.func28, Tryz.ntmps28
  go_wp2_with (at_builtin; refine wpList_run (by rfl) (exec_append _ _ _ _ (by rfl) _ _ (by rfl) (by rfl) hrun) ?_)
  go_end0
  exact ⟨rfl, HFIN.out⟩

end Go.Proofs.YtkpjjhiighakfaaGreatDoor
