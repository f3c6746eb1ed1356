/- A server: what ends (plain part): two rows that grow while it is worked at. -/
import Derived.Test.YtchjlkfkfcmhlaaDoorS27
import Derived.Laws.MakeOwn
namespace Go.Proofs.YtchjlkfkfcmhlaaDoor
open Go.RowKit

/-- make([]T, 0, c). -/
theorem Kd.made {P : Program} {α : Type} (D : Kd P α) (w : World) (c : Nat) (hc : c ≤ 1000) :
    ∃ W, (Instr.makeSlice D.T' (.int .i64 0) (.int .i64 c)).run P w = .ok (.slice (some ⟨w.heap.size, 0, none⟩) 0 c) W ∧ D.At W (.slice (some ⟨w.heap.size, 0, none⟩) 0 c) [] (some w.heap.size) ∧ Below w.heap.size w W := by
  have hi := D.info
  cases hq : P.info? D.T with
  | none => rw [hq] at hi; cases hi
  | some i =>
    rw [hq] at hi
    simp only [Option.map_some, Option.some.injEq, Prod.mk.injEq] at hi
    obtain ⟨hz, hs, hb⟩ := hi
    have hsm := D.small
    have h1 : D.bytes * c ≤ 100000 * 1000 := Nat.mul_le_mul hsm hc
    have hr := run_make (P := P) w D.T' D.T i D.z D.under hq hz .i64 .i64 0 c (Int.le_refl _) (by omega) (by
      rw [hb]
      have h2 : ((D.bytes * c : Nat) : Int) ≤ 100000000 := by omega
      rw [Int.natCast_mul] at h2
      omega) (by omega)
    rw [hs, Int.toNat_natCast] at hr
    refine ⟨_, hr, ⟨by simp, by simp, .inr ⟨w.heap.size, 0, c, _, rfl, rfl, heap_alloc_new w _, Nat.zero_le _, ?_, ?_, by simp⟩⟩, (Below.refl _ _).alloc (Nat.le_refl _) _⟩
    · unfold maxLen; omega
    · rw [size_madeCells]; omega

/-- Blocks that are not the server's were written. -/
theorem SR.other {w5 w7 w8 : World} {sb : Nat} {hz now : Int} {s : Sv} {D D' : SD} {F : Nat → Prop} (h : SR w7 sb hz s now D') (m : Mv w5 D w7 D') (hF : ∀ b, F b → D'.who b = 0 ∧ w5.heap.size ≤ b)
    (f : Fr F w7 w8) : SR w8 sb hz s now D' ∧ Mv w5 D w8 D' := by
  have k : ∀ b, D'.who b ≠ 0 → w8.heap[b]? = w7.heap[b]? := fun b hb => f.block b (h.lt b hb) fun e => hb (hF b e).1
  refine ⟨?_, ?_⟩
  · exact { blk := (k sb (by rw [h.own]; decide)).trans h.blk, own := h.own, q := h.q.keep fun b e => k b (by rw [e]; decide), t := h.t.keep fun b e => k b (by rw [e]; decide), m := h.m.keep (k _ (by rw [h.mw]; decide)), mw := h.mw, c := h.c.keep (k _ (by rw [h.cw]; decide)), cw := h.cw, wk := h.wk.keep fun g e => k g (by rw [h.ww g e]; decide), ww := h.ww, lt := fun b e => Nat.lt_of_lt_of_le (h.lt b e) f.size }
  · exact ⟨m.1.trans f (fun b e => .inr (hF b e).2), m.2⟩

/-- Its works were written, where a new row has been made ready. -/
theorem SR.work2 {w0 w w' : World} {sb : Nat} {hz now : Int} {s : Sv} {D0 D : SD} (h : SR w sb hz s now D) (m : Mv w0 D0 w D) {wv' : Value} {wb' : Option Nat} {works' : List Wk} (hk : wkK.At w' wv' works' wb') (hs : ∀ g, wb' = some g → D.who g = 0 ∧ w0.heap.size ≤ g) (hf : Fr (fun b => b = sb) w w')
    (hb : w'.heap[sb]? = some (.cells (srvCells s { D with wv := wv' }) 65 (0, 0))) :
    SR w' sb hz s now { D with wv := wv', wb := wb', works := works', who := rel D.who 6 (fun b => wb' = some b) } ∧ Mv w0 D0 w' { D with wv := wv', wb := wb', works := works', who := rel D.who 6 (fun b => wb' = some b) } := by
  have hfp0 : ∀ b, wb' = some b → D.who b = 6 ∨ D.who b = 0 := fun b e => .inr (hs b e).1
  have k : ∀ b, D.who b ≠ 0 → D.who b ≠ 1 → w'.heap[b]? = w.heap[b]? := fun b h0 h1 => hf.block b (h.lt b h0) (fun e => h1 (by rw [e]; exact h.own))
  have o : ∀ j, j ≠ 6 → j ≠ 0 → ∀ b, D.who b = j → rel D.who 6 (fun b => wb' = some b) b = j := fun j j1 j0 b e => (rel_other1 j1 j0 hfp0).2 e
  refine ⟨?_, ?_, ?_⟩
  · exact { blk := hb
            own := o 1 (by decide) (by decide) _ h.own
            q := by show QW w' D.qb s.queue D.l (fun b => rel D.who 6 (fun b => wb' = some b) b = 2); rw [rel_other (by decide) (by decide) hfp0]; exact h.q.keep fun b e => k b (by rw [e]; decide) (by rw [e]; decide)
            t := by show TW w' D.tb hz D.eff now D.kt (fun b => rel D.who 6 (fun b => wb' = some b) b = 3); rw [rel_other (by decide) (by decide) hfp0]; exact h.t.keep fun b e => k b (by rw [e]; decide) (by rw [e]; decide)
            m := h.m.keep (k _ (by rw [h.mw]; decide) (by rw [h.mw]; decide))
            mw := o 4 (by decide) (by decide) _ h.mw
            c := h.c.keep (k _ (by rw [h.cw]; decide) (by rw [h.cw]; decide))
            cw := o 5 (by decide) (by decide) _ h.cw
            wk := hk
            ww := fun g e => by show rel D.who 6 (fun b => wb' = some b) g = 6; unfold rel; rw [if_pos e]
            lt := fun b e => by
              rcases rel_some (who := D.who) (k := 6) (fp := fun b => wb' = some b) (b := b) (by decide) e with e | e
              · exact hk.lt b e
              · exact Nat.lt_of_lt_of_le (h.lt b e) hf.size }
  · exact ⟨m.1.os.symm ▸ hf.os, m.1.tape.symm ▸ hf.tape, m.1.output.symm ▸ hf.output, Nat.le_trans m.1.size hf.size, fun b hb hn => by
      have hne : b ≠ sb := fun e => by
        rcases m.2 b (by rw [e, h.own]; decide) with g | g
        · exact hn g
        · omega
      exact (hf.block b (Nat.lt_of_lt_of_le hb m.1.size) hne).trans (m.1.block b hb hn)⟩
  · intro b e
    rcases rel_some (who := D.who) (k := 6) (fp := fun b => wb' = some b) (b := b) (by decide) e with e | e
    · exact .inr (hs b e).2
    · exact m.2 b e

/-- While it goes through its works: what it is, and the two rows that grow. -/
structure EI (w : World) (sb : Nat) (hz now : Int) (s : Sv) (D D' : SD) (on : List Wk) (ob1 : Option Nat) (outs : List Ou) (ob2 : Option Nat) (von vo : Value) (wr : World) : Prop where
  sr : SR wr sb hz s now D'
  mv : Mv w D wr D'
  r1 : wkK.At wr von on ob1
  o1 : ∀ g, ob1 = some g → D'.who g = 0 ∧ w.heap.size ≤ g
  r2 : ouK.At wr vo outs ob2
  o2 : ∀ g, ob2 = some g → D'.who g = 0 ∧ w.heap.size ≤ g
  sep : ∀ g, ob1 = some g → ob2 ≠ some g

section
variable {w wr : World} {sb : Nat} {hz now : Int} {s : Sv} {D D' : SD} {on : List Wk} {ob1 : Option Nat} {outs : List Ou} {ob2 : Option Nat} {von vo : Value}
theorem EI.below (h : EI w sb hz now s D D' on ob1 outs ob2 von vo wr) {w' : World} (hb : Below wr.heap.size wr w') : EI w sb hz now s D D' on ob1 outs ob2 von vo w' :=
  ⟨h.sr.below hb, h.mv.below hb, h.r1.below hb, h.o1, h.r2.below hb, h.o2, h.sep⟩
theorem EI.out (h : EI w sb hz now s D D' on ob1 outs ob2 von vo wr) : OutAt w wr D' vo outs := ⟨ob2, h.r2, fun g e => ⟨(h.o2 g e).2, (h.o2 g e).1⟩⟩
theorem EI.free (h : EI w sb hz now s D D' on ob1 outs ob2 von vo wr) : D'.who wr.heap.size = 0 := Classical.byContradiction fun hne => by have := h.sr.lt _ hne; omega

/-- The server did something of its own. -/
theorem EI.move (h : EI w sb hz now s D D' on ob1 outs ob2 von vo wr) {w' : World} {D2 : SD} (h2 : SR w' sb hz s now D2) (m2 : Mv wr D' w' D2) : EI w sb hz now s D D2 on ob1 outs ob2 von vo w' :=
  ⟨h2, h.mv.trans m2, h.r1.keep fun g e => m2.keep0 (h.o1 g e).1 (h.r1.lt g e), fun g e => ⟨m2.who0 (h.o1 g e).1 (h.r1.lt g e), (h.o1 g e).2⟩,
    h.r2.keep fun g e => m2.keep0 (h.o2 g e).1 (h.r2.lt g e), fun g e => ⟨m2.who0 (h.o2 g e).1 (h.r2.lt g e), (h.o2 g e).2⟩, h.sep⟩

theorem EI.push1 {la : Option Addr} {m lc : Nat} (h : EI w sb hz now s D D' on ob1 outs ob2 (.slice la m lc) vo wr) (hm : m = on.length) (hbig : on.length ≤ 1000000) {z : Nat} {x : Wk} {T : TypeId} (hzc : wr.heap[z]? = some (.cells (wkCells x).toArray T (0, 0))) (c : Nat) :
    ∃ la2 lc2 ob w2, (Builtin.append_ #[60, 60] 60 #[.slice la m lc, .slice (some ⟨z, 0, none⟩) 1 c]).run Tryd.prog wr = .ok (.slice la2 (m + 1) lc2) w2 ∧ EI w sb hz now s D D' (on ++ [x]) ob outs ob2 (.slice la2 (m + 1) lc2) vo w2 ∧ Fr (fun b => D'.who b = 0 ∧ w.heap.size ≤ b) wr w2 := by
  obtain ⟨la2, lc2, ob, w2, h1, h2, h3, h4⟩ := h.r1.push hm hbig hzc c
  have f := Fr.ofGrown (F := fun b => ob1 = some b) h3 (fun k e => e)
  obtain ⟨g1, g2⟩ := h.sr.other h.mv h.o1 f
  refine ⟨la2, lc2, ob, w2, h1, ⟨g1, g2, h2, fun g e => ?_, h.r2.keep fun g e => f.block g (h.r2.lt g e) fun e2 => h.sep g e2 e, h.o2, fun g e e2 => ?_⟩, f.mono h.o1⟩
  · rcases h4 with e2 | e2
    · exact h.o1 g (e2.symm.trans e)
    · rw [e] at e2; cases e2; exact ⟨h.free, h.mv.1.size⟩
  · rcases h4 with e3 | e3
    · exact h.sep g (e3.symm.trans e) e2
    · rw [e] at e3; cases e3; have := h.r2.lt _ e2; omega
theorem EI.push2 {la : Option Addr} {m lc : Nat} (h : EI w sb hz now s D D' on ob1 outs ob2 von (.slice la m lc) wr) (hm : m = outs.length) (hbig : outs.length ≤ 1000000) {z : Nat} {x : Ou} {T : TypeId} (hzc : wr.heap[z]? = some (.cells (ouCells x).toArray T (0, 0))) (c : Nat) :
    ∃ la2 lc2 ob w2, (Builtin.append_ #[33, 33] 33 #[.slice la m lc, .slice (some ⟨z, 0, none⟩) 1 c]).run Tryd.prog wr = .ok (.slice la2 (m + 1) lc2) w2 ∧ EI w sb hz now s D D' on ob1 (outs ++ [x]) ob von (.slice la2 (m + 1) lc2) w2 ∧ Fr (fun b => D'.who b = 0 ∧ w.heap.size ≤ b) wr w2 := by
  obtain ⟨la2, lc2, ob, w2, h1, h2, h3, h4⟩ := h.r2.push hm hbig hzc c
  have f := Fr.ofGrown (F := fun b => ob2 = some b) h3 (fun k e => e)
  obtain ⟨g1, g2⟩ := h.sr.other h.mv h.o2 f
  refine ⟨la2, lc2, ob, w2, h1, ⟨g1, g2, h.r1.keep fun g e => f.block g (h.r1.lt g e) fun e2 => h.sep g e e2, h.o1, h2, fun g e => ?_, fun g e e2 => ?_⟩, f.mono h.o2⟩
  · rcases h4 with e2 | e2
    · exact h.o2 g (e2.symm.trans e)
    · rw [e] at e2; cases e2; exact ⟨h.free, h.mv.1.size⟩
  · rcases h4 with e3 | e3
    · exact h.sep g e (e3.symm.trans e2)
    · rw [e2] at e3; cases e3; have := h.r1.lt _ e; omega
end

theorem EndR.left {hz now sick n0 : Int} {E0 E : List (ByteArray × Int)} {ws on : List Wk} {outs : List Ou} {n : Int} (h : EndR hz now sick n0 E0 ws on outs n E) : ∀ x ∈ on, 1 ≤ x.2 ∧ ∃ y ∈ ws, y.1 = x.1 ∧ x.2 = y.2 - 1 := by
  induction h with
  | start => intro x hx; cases hx
  | on _ hl ih =>
    intro x hx
    rcases List.mem_append.1 hx with e | e
    · obtain ⟨g1, y, g2, g3⟩ := ih x e
      exact ⟨g1, y, List.mem_append_left _ g2, g3⟩
    · rw [List.mem_singleton.1 e]
      exact ⟨by show 1 ≤ _ - 1; omega, _, List.mem_append_right _ List.mem_cons_self, rfl, rfl⟩
  | sick _ _ _ ih =>
    intro x hx
    obtain ⟨g1, y, g2, g3⟩ := ih x hx
    exact ⟨g1, y, List.mem_append_left _ g2, g3⟩
  | none _ _ _ _ ih =>
    intro x hx
    obtain ⟨g1, y, g2, g3⟩ := ih x hx
    exact ⟨g1, y, List.mem_append_left _ g2, g3⟩
  | idem _ _ _ _ _ ih =>
    intro x hx
    obtain ⟨g1, y, g2, g3⟩ := ih x hx
    exact ⟨g1, y, List.mem_append_left _ g2, g3⟩
  | eff _ _ _ _ _ _ ih =>
    intro x hx
    obtain ⟨g1, y, g2, g3⟩ := ih x hx
    exact ⟨g1, y, List.mem_append_left _ g2, g3⟩

theorem EndR.outs {hz now sick n0 : Int} {E0 E : List (ByteArray × Int)} {ws on : List Wk} {outs : List Ou} {n : Int} (h : EndR hz now sick n0 E0 ws on outs n E) : outs.length ≤ ws.length := by
  induction h with
  | start => simp
  | _ => simp only [List.length_append, List.length_cons, List.length_nil]; omega

/-- What ends. -/
def EndPost (w : World) (sb : Nat) (hz now sick : Int) (s : Sv) (D : SD) (e : Ending) (w' : World) : Prop :=
  ∃ on outs n E kt who wv wb v, e = .returned v ∧ SR w' sb hz s now { D with works := on, ended := n, eff := E, kt := kt, who := who, wv := wv, wb := wb } ∧ Mv w D w' { D with works := on, ended := n, eff := E, kt := kt, who := who, wv := wv, wb := wb } ∧
    OutAt w w' { D with works := on, ended := n, eff := E, kt := kt, who := who, wv := wv, wb := wb } v outs ∧ EndR hz now sick D.ended D.eff D.works on outs n E ∧ kt + on.length ≤ D.kt + D.works.length

end Go.Proofs.YtchjlkfkfcmhlaaDoor
