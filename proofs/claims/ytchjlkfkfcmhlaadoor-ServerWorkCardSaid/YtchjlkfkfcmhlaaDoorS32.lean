/- A server run through acts: what becomes, told (plain), and rows that grow beside a server. -/
import Derived.Test.YtchjlkfkfcmhlaaDoorS31
namespace Go.Proofs.YtchjlkfkfcmhlaaDoor
open Go.RowKit

def seenCells (x : Ou × Int) : List Value := [.int .i64 x.1.what, .int .i64 x.1.c.req, .string x.1.c.call, .int .i64 x.1.c.try_, .bool x.1.c.idem, .bool x.1.c.shadow, .int .i64 x.1.c.dl, .int .i64 x.1.c.purse, .int .i64 x.1.c.ver, .int .i64 x.1.c.prio, .bool x.1.eff, .int .i64 x.1.e, .int .i64 x.2]
def seenK : Kd Tryd.prog (Ou × Int) where
  f := seenCells
  s := 13
  bytes := 104
  T := 42
  T' := 36
  z := .agg #[.int .i64 0, .int .i64 0, .string ⟨#[]⟩, .int .i64 0, .bool false, .bool false, .int .i64 0, .int .i64 0, .int .i64 0, .int .i64 0, .bool false, .int .i64 0, .int .i64 0]
  len := fun _ => rfl
  one := fun a u hu => by
    simp only [seenCells, List.mem_cons, List.not_mem_nil, or_false] at hu
    rcases hu with rfl | rfl | rfl | rfl | rfl | rfl | rfl | rfl | rfl | rfl | rfl | rfl | rfl <;> rfl
  zs := rfl
  small := by decide
  under := Tryd.underlying36
  info := by kernel_rfl

/-- An attempt that was made of a number. -/
def Small (c : Cx) : Prop := c.call.size ≤ 10 ∧ 1 ≤ c.try_ ∧ c.try_ ≤ 3
theorem attName_size (k : Int) : (attName k).size ≤ 10 := by
  unfold attName
  have h1 : ∀ n, (digit n).size ≤ 1 := fun n => by unfold digit; exact Nat.le_refl 1
  have h2 : (kidT).size = 4 := rfl
  rw [ByteArray.size_append]
  have h3 : (if k / 432 % 2 = 1 then digit (1 + k % 4).toNat ++ (⟨#[58, 49, 47, 48]⟩ : ByteArray) else digit (1 + k % 4).toNat).size ≤ 5 := by
    split
    · rw [ByteArray.size_append]; have := h1 (1 + k % 4).toNat; have h4 : (⟨#[58, 49, 47, 48]⟩ : ByteArray).size = 4 := rfl; omega
    · have := h1 (1 + k % 4).toNat; omega
  have h4 : (if k / 864 % 5 = 1 then (⟨#[126]⟩ : ByteArray) else ⟨#[]⟩).size ≤ 1 := by split <;> decide
  omega
theorem atOf_small (n now : Int) : Small (atOf n now) := by
  unfold atOf attC
  exact ⟨attName_size _, by dsimp only; omega, by dsimp only; omega⟩
theorem atOf_dl (n now : Int) : now ≤ (atOf n now).dl ∧ (atOf n now).dl ≤ now + 11 := by unfold atOf attC; dsimp only; omega

/-- What an act does. -/
inductive ActR (hz : Int) (s : Sv) (faults : Bool) (now : Int) : SS → SS → List Ou → Prop
  | come {n t t' outs fresh} : ComeR s (atOf n now) t t' outs fresh → ActR hz s faults now t t' outs
  | crash {t} : faults = true → ActR hz s faults now t t.crash []
  | idle {t} : faults = false → ActR hz s faults now t t []
  | up {t} : ActR hz s faults now t (t.upAt now) []
  | step {p sick lazy t t' outs} : 1 ≤ lazy ∧ lazy ≤ 2 → (faults = false → p = false) → StepR hz s now p sick lazy t t' outs → ActR hz s faults now t t' outs
abbrev atNow (outs : List Ou) (now : Int) : List (Ou × Int) := outs.map fun o => (o, now)
inductive RunR (hz : Int) (s : Sv) (faults : Bool) (t0 : SS) : SS → Int → List (Ou × Int) → Prop
  | start : RunR hz s faults t0 t0 0 []
  | act {t now all now' t' outs} : RunR hz s faults t0 t now all → now ≤ now' → ActR hz s faults now' t t' outs → RunR hz s faults t0 t' now' (all ++ atNow outs now')

theorem EndR.onle {hz now sick n0 : Int} {E0 E : List (ByteArray × Int)} {ws on : List Wk} {outs : List Ou} {n : Int} (h : EndR hz now sick n0 E0 ws on outs n E) : on.length ≤ ws.length := by
  induction h with
  | start => simp
  | _ => simp only [List.length_append, List.length_cons, List.length_nil]; omega
theorem ActR.len {hz : Int} {s : Sv} {faults : Bool} {now : Int} {t t' : SS} {outs : List Ou} (h : ActR hz s faults now t t' outs) : t'.waits.length + t'.works.length ≤ t.waits.length + t.works.length + 1 ∧ outs.length ≤ 1 + (t.waits.length + t.works.length) := by
  cases h with
  | come hc =>
    rcases hc with ⟨_, rfl, rfl, _⟩ | ⟨_, _, _, q, rfl, ⟨_, h2, rfl⟩ | ⟨_, y, h2, rfl⟩⟩
    · exact ⟨by omega, by simp⟩
    · have := h2.length_eq; simp only [List.length_cons] at this
      exact ⟨by dsimp only; omega, by simp⟩
    · have := h2.length_eq; simp only [List.length_cons] at this
      exact ⟨by dsimp only; omega, by simp⟩
  | crash _ => exact ⟨Nat.zero_le _, by simp⟩
  | idle _ => exact ⟨by omega, by simp⟩
  | up => refine ⟨?_, by simp⟩; unfold SS.upAt; split <;> (first | omega | (dsimp only; omega))
  | step _ _ hs =>
    rcases hs with ⟨_, rfl, rfl⟩ | ⟨_, _, on, o1, n, E, q, w, o2, h1, h2, _, rfl, rfl⟩
    · exact ⟨by omega, by simp⟩
    · have g1 := h1.outs
      have g2 := h2.count
      have g3 := h1.count
      have g4 := h1.onle
      refine ⟨by dsimp only; omega, ?_⟩
      rw [List.length_append]; omega

/-- A row that grows beside a server, and what is read meanwhile. -/
structure RI {α : Type} (K : Kd Tryd.prog α) (w : World) (sb : Nat) (hz now : Int) (s : Sv) (D D' : SD) (all : List α) (ob : Option Nat) (va : Value) (wr : World) : Prop where
  sr : SR wr sb hz s now D'
  mv : Mv w D wr D'
  r : K.At wr va all ob
  o : ∀ g, ob = some g → D'.who g = 0 ∧ w.heap.size ≤ g

section
variable {α : Type} {K : Kd Tryd.prog α} {w wr : World} {sb : Nat} {hz now : Int} {s : Sv} {D D' : SD} {all : List α} {ob : Option Nat} {va : Value}
theorem RI.below (h : RI K w sb hz now s D D' all ob va wr) {w' : World} (hb : Below wr.heap.size wr w') : RI K w sb hz now s D D' all ob va w' := ⟨h.sr.below hb, h.mv.below hb, h.r.below hb, h.o⟩
theorem RI.later (h : RI K w sb hz now s D D' all ob va wr) {now' : Int} (hn : now ≤ now') : RI K w sb hz now' s D D' all ob va wr := ⟨h.sr.later hn, h.mv, h.r, h.o⟩
theorem RI.move (h : RI K w sb hz now s D D' all ob va wr) {w' : World} {D2 : SD} (h2 : SR w' sb hz s now D2) (m2 : Mv wr D' w' D2) : RI K w sb hz now s D D2 all ob va w' :=
  ⟨h2, h.mv.trans m2, h.r.keep fun g e => m2.keep0 (h.o g e).1 (h.r.lt g e), fun g e => ⟨m2.who0 (h.o g e).1 (h.r.lt g e), (h.o g e).2⟩⟩
theorem RI.free (h : RI K w sb hz now s D D' all ob va wr) : D'.who wr.heap.size = 0 := Classical.byContradiction fun hne => by have := h.sr.lt _ hne; omega
/-- One more; what else stands in blocks of its own is left as it is. -/
theorem RI.push {la : Option Addr} {m lc : Nat} (h : RI K w sb hz now s D D' all ob (.slice la m lc) wr) (hm : m = all.length) (hbig : all.length ≤ 1000000) {z : Nat} {x : α} {T : TypeId} (hzc : wr.heap[z]? = some (.cells (K.f x).toArray T (0, 0))) (c : Nat) :
    ∃ la2 lc2 ob2 w2, (Builtin.append_ #[K.T', K.T'] K.T' #[.slice la m lc, .slice (some ⟨z, 0, none⟩) 1 c]).run Tryd.prog wr = .ok (.slice la2 (m + 1) lc2) w2 ∧ RI K w sb hz now s D D' (all ++ [x]) ob2 (.slice la2 (m + 1) lc2) w2 ∧ Fr (fun b => ob = some b) wr w2 ∧ (ob2 = ob ∨ ob2 = some wr.heap.size) := by
  obtain ⟨la2, lc2, ob2, w2, h1, h2, h3, h4⟩ := h.r.push hm hbig hzc c
  have f := Fr.ofGrown (F := fun b => ob = some b) h3 (fun k e => e)
  obtain ⟨g1, g2⟩ := h.sr.other h.mv h.o f
  refine ⟨la2, lc2, ob2, w2, h1, ⟨g1, g2, h2, fun g e => ?_⟩, f, h4⟩
  rcases h4 with e2 | e2
  · exact h.o g (e2.symm.trans e)
  · rw [e] at e2; cases e2; exact ⟨h.free, h.mv.1.size⟩
end

end Go.Proofs.YtchjlkfkfcmhlaaDoor
