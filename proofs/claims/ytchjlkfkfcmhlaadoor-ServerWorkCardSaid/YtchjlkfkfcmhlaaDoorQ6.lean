/- A server, plainly: its state, and what becomes of attempts; A server in memory: whose each block is; A server: what only looks; A server, made anew; A server, made: New, made; A server goes down, and up. -/
import Derived.Test.YtchjlkfkfcmhlaaDoorS18
import Derived.Test.YtchjlkfkfcmhlaaDoorQ2
import Derived.BigRegion
namespace Go.Proofs.YtchjlkfkfcmhlaaDoor
open Go.RowKit
attribute [local go_sem ↓] Go.wp_at_zero Go.wp_at_succ

/-! A server, plainly: its state, and what becomes of attempts. -/
structure Ou where
  what : Int
  c : Cx
  eff : Bool
  e : Int
def ouCells (o : Ou) : List Value := [.int .i64 o.what, .int .i64 o.c.req, .string o.c.call, .int .i64 o.c.try_, .bool o.c.idem, .bool o.c.shadow, .int .i64 o.c.dl, .int .i64 o.c.purse, .int .i64 o.c.ver, .int .i64 o.c.prio, .bool o.eff, .int .i64 o.e]
def ouK : Kd Tryd.prog Ou where
  f := ouCells
  s := 12
  bytes := 96
  T := 40
  T' := 33
  z := .agg #[.int .i64 0, .int .i64 0, .string ⟨#[]⟩, .int .i64 0, .bool false, .bool false, .int .i64 0, .int .i64 0, .int .i64 0, .int .i64 0, .bool false, .int .i64 0]
  len := fun _ => rfl
  one := fun a u hu => by
    simp only [ouCells, List.mem_cons, List.not_mem_nil, or_false] at hu
    rcases hu with rfl | rfl | rfl | rfl | rfl | rfl | rfl | rfl | rfl | rfl | rfl | rfl <;> rfl
  zs := rfl
  small := by decide
  under := Tryd.underlying33
  info := by kernel_rfl
abbrev Wk := Cx × Int
def wkCells (x : Wk) : List Value := [.int .i64 x.1.req, .string x.1.call, .int .i64 x.1.try_, .bool x.1.idem, .bool x.1.shadow, .int .i64 x.1.dl, .int .i64 x.1.purse, .int .i64 x.1.ver, .int .i64 x.1.prio, .int .i64 x.2]
def wkK : Kd Tryd.prog Wk where
  f := wkCells
  s := 10
  bytes := 80
  T := 94
  T' := 60
  z := .agg #[.int .i64 0, .string ⟨#[]⟩, .int .i64 0, .bool false, .bool false, .int .i64 0, .int .i64 0, .int .i64 0, .int .i64 0, .int .i64 0]
  len := fun _ => rfl
  one := fun a u hu => by
    simp only [wkCells, List.mem_cons, List.not_mem_nil, or_false] at hu
    rcases hu with rfl | rfl | rfl | rfl | rfl | rfl | rfl | rfl | rfl | rfl <;> rfl
  zs := rfl
  small := by decide
  under := Tryd.underlying60
  info := by kernel_rfl

/-- A server's state: what waits (in any order), what is worked at, names that came, how many ended, and what took effect, and when. -/
structure SS where
  waits : List Cx
  works : List Wk
  came : List ByteArray
  ended : Int
  down : Bool
  again : Bool
  up : Int
  eff : List (ByteArray × Int)

def each (k n : Int) : Bool := decide (0 < k) && (decide (0 < n) && decide (n % k = 0))
def slotsOf (s : Sv) (down again : Bool) (up now : Int) : Int := if down then 0 else if !again || decide (s.warm < 1) then s.slots else min (1 + (now - up) / s.warm) s.slots

/-- What became of works when they went on for a tick: what goes on, what is told. -/
inductive EndR (hz now sick n0 : Int) (E0 : List (ByteArray × Int)) : List Wk → List Wk → List Ou → Int → List (ByteArray × Int) → Prop
  | start : EndR hz now sick n0 E0 [] [] [] n0 E0
  | on {ws on outs n E c left} : EndR hz now sick n0 E0 ws on outs n E → 1 < left → EndR hz now sick n0 E0 (ws ++ [(c, left)]) (on ++ [(c, left - 1)]) outs n E
  | sick {ws on outs n E c left} : EndR hz now sick n0 E0 ws on outs n E → left ≤ 1 → each sick (n + 1) = true → EndR hz now sick n0 E0 (ws ++ [(c, left)]) on (outs ++ [⟨3, c, false, 35⟩]) (n + 1) E
  | none {ws on outs n E c left} : EndR hz now sick n0 E0 ws on outs n E → left ≤ 1 → each sick (n + 1) = false → (c.shadow = true ∨ ∃ p ∈ E, p.1 = keyOf c.call) → EndR hz now sick n0 E0 (ws ++ [(c, left)]) on (outs ++ [⟨2, c, false, 0⟩]) (n + 1) E
  | idem {ws on outs n E c left} : EndR hz now sick n0 E0 ws on outs n E → left ≤ 1 → each sick (n + 1) = false → c.shadow = false → c.idem = true → EndR hz now sick n0 E0 (ws ++ [(c, left)]) on (outs ++ [⟨2, c, true, 0⟩]) (n + 1) E
  | eff {ws on outs n E c left} : EndR hz now sick n0 E0 ws on outs n E → left ≤ 1 → each sick (n + 1) = false → c.shadow = false → c.idem = false → (∀ p ∈ E, p.1 = keyOf c.call → hz ≤ now - p.2) →
      EndR hz now sick n0 E0 (ws ++ [(c, left)]) on (outs ++ [⟨2, c, true, 0⟩]) (n + 1) ((keyOf c.call, now) :: E)

/-- What begins while there are slots. -/
inductive BegR (slots work now : Int) (q0 : List Cx) (w0 : List Wk) : List Cx → List Wk → List Ou → Prop
  | start : BegR slots work now q0 w0 q0 w0 []
  | late {q w o c q'} : BegR slots work now q0 w0 q w o → (w.length : Int) < slots → (c :: q').Perm q → c.dl ≤ now → BegR slots work now q0 w0 q' w (o ++ [⟨3, c, false, 32⟩])
  | take {q w o c q'} : BegR slots work now q0 w0 q w o → (w.length : Int) < slots → (c :: q').Perm q → now < c.dl → BegR slots work now q0 w0 q' (w ++ [(c, work)]) (o ++ [⟨1, c, false, 0⟩])

def ComeR (s : Sv) (c : Cx) (t t' : SS) (outs : List Ou) (fresh : Bool) : Prop :=
  ((t.down = true ∨ c.span ∈ t.came) ∧ t' = t ∧ outs = [] ∧ fresh = false) ∨
  (t.down = false ∧ c.span ∉ t.came ∧ fresh = true ∧ ∃ q, t' = { t with waits := q, came := t.came ++ [c.span] } ∧
    (((t.waits.length : Int) < s.queue ∧ q.Perm (c :: t.waits) ∧ outs = []) ∨ (s.queue ≤ (t.waits.length : Int) ∧ ∃ y, (y :: q).Perm (c :: t.waits) ∧ outs = [⟨3, y, false, 3⟩])))

def StepR (hz : Int) (s : Sv) (now : Int) (paused : Bool) (sick lazy : Int) (t t' : SS) (outs : List Ou) : Prop :=
  ((t.down = true ∨ paused = true) ∧ t' = t ∧ outs = []) ∨
  (t.down = false ∧ paused = false ∧ ∃ on o1 n E q w o2, EndR hz now sick t.ended t.eff t.works on o1 n E ∧ BegR (slotsOf s t.down t.again t.up now) (s.work * lazy) now t.waits on q w o2 ∧ (slotsOf s t.down t.again t.up now ≤ (w.length : Int) ∨ q = []) ∧
    t' = { t with waits := q, works := w, ended := n, eff := E } ∧ outs = o1 ++ o2)

def SS.new : SS := ⟨[], [], [], 0, false, false, 0, []⟩
def SS.crash (t : SS) : SS := { t with waits := [], works := [], came := [], ended := 0, down := true }
def SS.upAt (t : SS) (now : Int) : SS := if t.down then { t with down := false, again := true, up := now } else t

theorem EndR.count {hz now sick n0 : Int} {E0 E : List (ByteArray × Int)} {ws on : List Wk} {outs : List Ou} {n : Int} (h : EndR hz now sick n0 E0 ws on outs n E) : (on.length : Int) + n = (ws.length : Int) + n0 ∧ n0 ≤ n := by
  induction h with
  | start => simp
  | _ => simp only [List.length_append, List.length_cons, List.length_nil]; omega
theorem BegR.count {slots work now : Int} {q0 q : List Cx} {w0 w : List Wk} {o : List Ou} (h : BegR slots work now q0 w0 q w o) : q.length + w.length ≤ q0.length + w0.length ∧ (o.length + q.length = q0.length) := by
  induction h with
  | start => simp
  | late _ _ hp _ ih => have := hp.length_eq; simp only [List.length_append, List.length_cons, List.length_nil] at *; omega
  | take _ _ hp _ ih => have := hp.length_eq; simp only [List.length_append, List.length_cons, List.length_nil] at *; omega

/-! A server in memory: whose each block is. -/
open Classical in
/-- The blocks' owners, when those of fp are k's. -/
noncomputable def rel (who : Nat → Nat) (k : Nat) (fp : Nat → Prop) : Nat → Nat := fun b => if fp b then k else if who b = k then 0 else who b
theorem rel_self (who : Nat → Nat) {k : Nat} (hk : k ≠ 0) (fp : Nat → Prop) : (fun b => rel who k fp b = k) = fp := by
  funext b
  unfold rel
  apply propext
  by_cases h : fp b
  · simp [h]
  · by_cases h2 : who b = k
    · simp [h, h2, hk.symm]
    · simp [h, h2]
theorem rel_other {who : Nat → Nat} {k j : Nat} {fp : Nat → Prop} (hj : j ≠ k) (h0 : j ≠ 0) (hfp : ∀ b, fp b → who b = k ∨ who b = 0) : (fun b => rel who k fp b = j) = (fun b => who b = j) := by
  funext b
  unfold rel
  apply propext
  by_cases h : fp b
  · rcases hfp b h with e | e <;> simp [h, e, hj.symm, h0.symm]
  · by_cases h2 : who b = k
    · simp [h, h2, hj.symm, h0.symm]
    · simp [h, h2]
theorem rel_other1 {who : Nat → Nat} {k j : Nat} {fp : Nat → Prop} (hj : j ≠ k) (h0 : j ≠ 0) (hfp : ∀ b, fp b → who b = k ∨ who b = 0) {b : Nat} : rel who k fp b = j ↔ who b = j := by
  have h := congrFun (rel_other hj h0 hfp) b
  exact h ▸ Iff.rfl
theorem rel_some {who : Nat → Nat} {k : Nat} (hk : k ≠ 0) {fp : Nat → Prop} {b : Nat} (h : rel who k fp b ≠ 0) : fp b ∨ who b ≠ 0 := by
  unfold rel at h
  by_cases h1 : fp b
  · exact .inl h1
  · by_cases h2 : who b = k
    · exact .inr (by rw [h2]; exact hk)
    · rw [if_neg h1, if_neg h2] at h
      exact .inr h

/-- What a server holds, with its places. -/
structure SD where
  who : Nat → Nat
  qb : Nat
  mb : Nat
  cb : Nat
  tb : Nat
  wv : Value
  wb : Option Nat
  l : List (Int × Int × Int)
  mm : List (Int × Cx)
  cm : List ByteArray
  last : Int
  kt : Nat
  works : List Wk
  ended : Int
  down : Bool
  again : Bool
  up : Int
  eff : List (ByteArray × Int)
def SD.t (D : SD) : SS := ⟨D.mm.map (·.2), D.works, D.cm, D.ended, D.down, D.again, D.up, D.eff⟩

def srvCells (s : Sv) (D : SD) : Array Value :=
  #[.pointer (some ⟨D.qb, 0, none⟩), .int .i64 D.last, .map (some D.mb), D.wv, .map (some D.cb), .int .i64 D.ended, .int .i64 s.id, .slice none 0 0, .int .i64 s.work, .int .i64 s.slots, .int .i64 s.queue, .int .i64 s.bal, .int .i64 s.warm,
    .pointer (some ⟨D.tb, 0, none⟩), .bool D.down, .bool D.again, .int .i64 D.up]

structure SR (w : World) (sb : Nat) (hz : Int) (s : Sv) (now : Int) (D : SD) : Prop where
  blk : w.heap[sb]? = some (.cells (srvCells s D) 65 (0, 0))
  own : D.who sb = 1
  q : QW w D.qb s.queue D.l (fun b => D.who b = 2)
  t : TW w D.tb hz D.eff now D.kt (fun b => D.who b = 3)
  m : MapAt encI w D.mb (D.mm.map fun p => (p.1, cxV p.2))
  mw : D.who D.mb = 4
  c : MapAt encS w D.cb (D.cm.map fun n => (n, .bool true))
  cw : D.who D.cb = 5
  wk : wkK.At w D.wv D.works D.wb
  ww : ∀ g, D.wb = some g → D.who g = 6
  lt : ∀ b, D.who b ≠ 0 → b < w.heap.size

/-- What was done wrote the server's own blocks alone. -/
def Mv (w : World) (D : SD) (w' : World) (D' : SD) : Prop := Fr (fun b => D.who b ≠ 0) w w' ∧ ∀ b, D'.who b ≠ 0 → D.who b ≠ 0 ∨ w.heap.size ≤ b
theorem Mv.refl (w : World) (D : SD) : Mv w D w D := ⟨Fr.refl _ _, fun _ h => .inl h⟩
theorem Mv.trans {w w1 w2 : World} {D D1 D2 : SD} (h : Mv w D w1 D1) (k : Mv w1 D1 w2 D2) : Mv w D w2 D2 :=
  ⟨h.1.trans k.1 h.2, fun b hb => (k.2 b hb).elim (h.2 b) fun e => .inr (Nat.le_trans h.1.size e)⟩
theorem Mv.below {w w1 w2 : World} {D D1 : SD} (h : Mv w D w1 D1) (k : Below w1.heap.size w1 w2) : Mv w D w2 D1 := h.trans ⟨Fr.ofBelow k, fun _ h => .inl h⟩
theorem Mv.pre {w w1 w2 : World} {D D1 : SD} (k : Below w.heap.size w w1) (h : Mv w1 D w2 D1) : Mv w D w2 D1 := Mv.trans (D1 := D) ⟨Fr.ofBelow k, fun _ h => .inl h⟩ h

section
variable {w w' : World} {sb : Nat} {hz now : Int} {s : Sv} {D : SD}

theorem SR.below (h : SR w sb hz s now D) (hb : Below w.heap.size w w') : SR w' sb hz s now D :=
  { h with
    blk := (hb.block sb (h.lt sb (by rw [h.own]; decide))).trans h.blk
    q := h.q.below hb
    t := h.t.below hb
    m := h.m.keep (hb.block _ (h.lt _ (by rw [h.mw]; decide)))
    c := h.c.keep (hb.block _ (h.lt _ (by rw [h.cw]; decide)))
    wk := h.wk.below hb
    lt := fun b e => Nat.lt_of_lt_of_le (h.lt b e) hb.size }
theorem SR.later {now' : Int} (h : SR w sb hz s now D) (hn : now ≤ now') : SR w sb hz s now' D := { h with t := h.t.later hn }

/-- Cells of its own were written. -/
theorem SR.cells (h : SR w sb hz s now D) (hf : Fr (fun b => b = sb) w w') (last ended : Int) (down again : Bool) (up : Int)
    (hb : w'.heap[sb]? = some (.cells (srvCells s { D with last := last, ended := ended, down := down, again := again, up := up }) 65 (0, 0))) :
    SR w' sb hz s now { D with last := last, ended := ended, down := down, again := again, up := up } ∧ Mv w D w' { D with last := last, ended := ended, down := down, again := again, up := up } := by
  have k : ∀ b, D.who b ≠ 0 → D.who b ≠ 1 → w'.heap[b]? = w.heap[b]? := fun b h0 h1 => hf.block b (h.lt b h0) (fun e => h1 (by rw [e]; exact h.own))
  exact ⟨{ blk := hb, own := h.own,
           q := h.q.keep fun b e => k b (by rw [e]; decide) (by rw [e]; decide),
           t := h.t.keep fun b e => k b (by rw [e]; decide) (by rw [e]; decide),
           m := h.m.keep (k _ (by rw [h.mw]; decide) (by rw [h.mw]; decide)), mw := h.mw,
           c := h.c.keep (k _ (by rw [h.cw]; decide) (by rw [h.cw]; decide)), cw := h.cw,
           wk := h.wk.keep fun g e => k g (by rw [h.ww g e]; decide) (by rw [h.ww g e]; decide), ww := h.ww,
           lt := fun b e => Nat.lt_of_lt_of_le (h.lt b e) hf.size },
    hf.mono fun b e => (by rw [e, h.own]; decide), fun _ e => .inl e⟩

/-- The queue was written. -/
theorem SR.queue (h : SR w sb hz s now D) {l' : List (Int × Int × Int)} {fp : Nat → Prop} (hq : QW w' D.qb s.queue l' fp) (hfp : ∀ b, fp b → D.who b = 2 ∨ w.heap.size ≤ b) (hf : Fr (fun b => D.who b = 2) w w') :
    SR w' sb hz s now { D with l := l', who := rel D.who 2 fp } ∧ Mv w D w' { D with l := l', who := rel D.who 2 fp } := by
  have hfp0 : ∀ b, fp b → D.who b = 2 ∨ D.who b = 0 := fun b e => (hfp b e).imp id fun g => Classical.byContradiction fun hne => by have := h.lt b hne; omega
  have k : ∀ b, D.who b ≠ 0 → D.who b ≠ 2 → w'.heap[b]? = w.heap[b]? := fun b h0 h1 => hf.block b (h.lt b h0) h1
  have o : ∀ j, j ≠ 2 → j ≠ 0 → ∀ b, D.who b = j → rel D.who 2 fp b = j := fun j j1 j0 b e => (rel_other1 j1 j0 hfp0).2 e
  exact ⟨{ blk := (k sb (by rw [h.own]; decide) (by rw [h.own]; decide)).trans h.blk, own := o 1 (by decide) (by decide) _ h.own,
           q := by show QW w' D.qb s.queue l' (fun b => rel D.who 2 fp b = 2); rw [rel_self _ (by decide)]; exact hq,
           t := by show TW w' D.tb hz D.eff now D.kt (fun b => rel D.who 2 fp b = 3); rw [rel_other (by decide) (by decide) hfp0]; exact h.t.keep fun b e => k b (by rw [e]; decide) (by rw [e]; decide),
           m := h.m.keep (k _ (by rw [h.mw]; decide) (by rw [h.mw]; decide)), mw := o 4 (by decide) (by decide) _ h.mw,
           c := h.c.keep (k _ (by rw [h.cw]; decide) (by rw [h.cw]; decide)), cw := o 5 (by decide) (by decide) _ h.cw,
           wk := h.wk.keep fun g e => k g (by rw [h.ww g e]; decide) (by rw [h.ww g e]; decide), ww := fun g e => o 6 (by decide) (by decide) _ (h.ww g e),
           lt := fun b e => by
             rcases rel_some (by decide) e with e | e
             · exact hq.lt b e
             · exact Nat.lt_of_lt_of_le (h.lt b e) hf.size },
    hf.mono fun b e => (by rw [e]; decide), fun b e => by
      rcases rel_some (by decide) e with e | e
      · exact (hfp b e).imp (fun e => by rw [e]; decide) id
      · exact .inl e⟩

/-- The table was written. -/
theorem SR.table (h : SR w sb hz s now D) {E' : List (ByteArray × Int)} {K' : Nat} {fp : Nat → Prop} (hq : TW w' D.tb hz E' now K' fp) (hfp : ∀ b, fp b → D.who b = 3 ∨ w.heap.size ≤ b) (hf : Fr (fun b => D.who b = 3) w w') :
    SR w' sb hz s now { D with eff := E', kt := K', who := rel D.who 3 fp } ∧ Mv w D w' { D with eff := E', kt := K', who := rel D.who 3 fp } := by
  have hfp0 : ∀ b, fp b → D.who b = 3 ∨ D.who b = 0 := fun b e => (hfp b e).imp id fun g => Classical.byContradiction fun hne => by have := h.lt b hne; omega
  have k : ∀ b, D.who b ≠ 0 → D.who b ≠ 3 → w'.heap[b]? = w.heap[b]? := fun b h0 h1 => hf.block b (h.lt b h0) h1
  have o : ∀ j, j ≠ 3 → j ≠ 0 → ∀ b, D.who b = j → rel D.who 3 fp b = j := fun j j1 j0 b e => (rel_other1 j1 j0 hfp0).2 e
  exact ⟨{ blk := (k sb (by rw [h.own]; decide) (by rw [h.own]; decide)).trans h.blk, own := o 1 (by decide) (by decide) _ h.own,
           t := by show TW w' D.tb hz E' now K' (fun b => rel D.who 3 fp b = 3); rw [rel_self _ (by decide)]; exact hq,
           q := by show QW w' D.qb s.queue D.l (fun b => rel D.who 3 fp b = 2); rw [rel_other (by decide) (by decide) hfp0]; exact h.q.keep fun b e => k b (by rw [e]; decide) (by rw [e]; decide),
           m := h.m.keep (k _ (by rw [h.mw]; decide) (by rw [h.mw]; decide)), mw := o 4 (by decide) (by decide) _ h.mw,
           c := h.c.keep (k _ (by rw [h.cw]; decide) (by rw [h.cw]; decide)), cw := o 5 (by decide) (by decide) _ h.cw,
           wk := h.wk.keep fun g e => k g (by rw [h.ww g e]; decide) (by rw [h.ww g e]; decide), ww := fun g e => o 6 (by decide) (by decide) _ (h.ww g e),
           lt := fun b e => by
             rcases rel_some (by decide) e with e | e
             · exact hq.lt b e
             · exact Nat.lt_of_lt_of_le (h.lt b e) hf.size },
    hf.mono fun b e => (by rw [e]; decide), fun b e => by
      rcases rel_some (by decide) e with e | e
      · exact (hfp b e).imp (fun e => by rw [e]; decide) id
      · exact .inl e⟩

/-- The map of what waits was written. -/
theorem SR.waits (h : SR w sb hz s now D) {mm' : List (Int × Cx)} (hm : MapAt encI w' D.mb (mm'.map fun p => (p.1, cxV p.2))) (hf : w.grownBy w' (some D.mb)) :
    SR w' sb hz s now { D with mm := mm' } ∧ Mv w D w' { D with mm := mm' } := by
  have hf' : Fr (fun b => b = D.mb) w w' := Fr.ofGrown hf fun k e => by cases e; rfl
  have k : ∀ b, D.who b ≠ 0 → D.who b ≠ 4 → w'.heap[b]? = w.heap[b]? := fun b h0 h1 => hf'.block b (h.lt b h0) (fun e => h1 (by rw [e]; exact h.mw))
  exact ⟨{ blk := (k sb (by rw [h.own]; decide) (by rw [h.own]; decide)).trans h.blk, own := h.own,
           q := h.q.keep fun b e => k b (by rw [e]; decide) (by rw [e]; decide),
           t := h.t.keep fun b e => k b (by rw [e]; decide) (by rw [e]; decide),
           m := hm, mw := h.mw,
           c := h.c.keep (k _ (by rw [h.cw]; decide) (by rw [h.cw]; decide)), cw := h.cw,
           wk := h.wk.keep fun g e => k g (by rw [h.ww g e]; decide) (by rw [h.ww g e]; decide), ww := h.ww,
           lt := fun b e => Nat.lt_of_lt_of_le (h.lt b e) hf'.size },
    hf'.mono fun b e => (by rw [e, h.mw]; decide), fun _ e => .inl e⟩

/-- The map of what came was written. -/
theorem SR.came (h : SR w sb hz s now D) {cm' : List ByteArray} (hm : MapAt encS w' D.cb (cm'.map fun n => (n, .bool true))) (hf : w.grownBy w' (some D.cb)) :
    SR w' sb hz s now { D with cm := cm' } ∧ Mv w D w' { D with cm := cm' } := by
  have hf' : Fr (fun b => b = D.cb) w w' := Fr.ofGrown hf fun k e => by cases e; rfl
  have k : ∀ b, D.who b ≠ 0 → D.who b ≠ 5 → w'.heap[b]? = w.heap[b]? := fun b h0 h1 => hf'.block b (h.lt b h0) (fun e => h1 (by rw [e]; exact h.cw))
  exact ⟨{ blk := (k sb (by rw [h.own]; decide) (by rw [h.own]; decide)).trans h.blk, own := h.own,
           q := h.q.keep fun b e => k b (by rw [e]; decide) (by rw [e]; decide),
           t := h.t.keep fun b e => k b (by rw [e]; decide) (by rw [e]; decide),
           c := hm, cw := h.cw,
           m := h.m.keep (k _ (by rw [h.mw]; decide) (by rw [h.mw]; decide)), mw := h.mw,
           wk := h.wk.keep fun g e => k g (by rw [h.ww g e]; decide) (by rw [h.ww g e]; decide), ww := h.ww,
           lt := fun b e => Nat.lt_of_lt_of_le (h.lt b e) hf'.size },
    hf'.mono fun b e => (by rw [e, h.cw]; decide), fun _ e => .inl e⟩

/-- Its works were written, and where they lie. -/
theorem SR.work (h : SR w sb hz s now D) {wv' : Value} {wb' : Option Nat} {works' : List Wk} (hk : wkK.At w' wv' works' wb') (hs : wb' = D.wb ∨ ∃ g, wb' = some g ∧ w.heap.size ≤ g) (hf : Fr (fun b => b = sb ∨ D.wb = some b) w w')
    (hb : w'.heap[sb]? = some (.cells (srvCells s { D with wv := wv' }) 65 (0, 0))) :
    SR w' sb hz s now { D with wv := wv', wb := wb', works := works', who := rel D.who 6 (fun b => wb' = some b) } ∧ Mv w D w' { D with wv := wv', wb := wb', works := works', who := rel D.who 6 (fun b => wb' = some b) } := by
  have hfp : ∀ b, wb' = some b → D.who b = 6 ∨ w.heap.size ≤ b := fun b e => by
    rcases hs with h1 | ⟨g, h1, h2⟩
    · exact .inl (h.ww b (h1.symm.trans e))
    · rw [h1] at e; cases e; exact .inr h2
  have hfp0 : ∀ b, wb' = some b → D.who b = 6 ∨ D.who b = 0 := fun b e => (hfp b e).imp id fun g => Classical.byContradiction fun hne => by have := h.lt b hne; omega
  have k : ∀ b, D.who b ≠ 0 → D.who b ≠ 1 → D.who b ≠ 6 → w'.heap[b]? = w.heap[b]? := fun b h0 h1 h6 => hf.block b (h.lt b h0) (fun e => e.elim (fun e => h1 (by rw [e]; exact h.own)) fun e => h6 (h.ww b e))
  have o : ∀ j, j ≠ 6 → j ≠ 0 → ∀ b, D.who b = j → rel D.who 6 (fun b => wb' = some b) b = j := fun j j1 j0 b e => (rel_other1 j1 j0 hfp0).2 e
  exact ⟨{ blk := hb, own := o 1 (by decide) (by decide) _ h.own,
           q := by show QW w' D.qb s.queue D.l (fun b => rel D.who 6 (fun b => wb' = some b) b = 2); rw [rel_other (by decide) (by decide) hfp0]; exact h.q.keep fun b e => k b (by rw [e]; decide) (by rw [e]; decide) (by rw [e]; decide),
           t := by show TW w' D.tb hz D.eff now D.kt (fun b => rel D.who 6 (fun b => wb' = some b) b = 3); rw [rel_other (by decide) (by decide) hfp0]; exact h.t.keep fun b e => k b (by rw [e]; decide) (by rw [e]; decide) (by rw [e]; decide),
           m := h.m.keep (k _ (by rw [h.mw]; decide) (by rw [h.mw]; decide) (by rw [h.mw]; decide)), mw := o 4 (by decide) (by decide) _ h.mw,
           c := h.c.keep (k _ (by rw [h.cw]; decide) (by rw [h.cw]; decide) (by rw [h.cw]; decide)), cw := o 5 (by decide) (by decide) _ h.cw,
           wk := hk, ww := fun g e => by show rel D.who 6 (fun b => wb' = some b) g = 6; unfold rel; rw [if_pos e],
           lt := fun b e => by
             rcases rel_some (who := D.who) (k := 6) (fp := fun b => wb' = some b) (b := b) (by decide) e with e | e
             · exact hk.lt b e
             · exact Nat.lt_of_lt_of_le (h.lt b e) hf.size },
    hf.mono fun b e => (by rcases e with e | e; · rw [e, h.own]; decide
                           · rw [h.ww b e]; decide), fun b e => by
      rcases rel_some (who := D.who) (k := 6) (fp := fun b => wb' = some b) (b := b) (by decide) e with e | e
      · exact (hfp b e).imp (fun e => by rw [e]; decide) id
      · exact .inl e⟩
end

/-- What holds of what it holds; k: so many may come. -/
structure SD.Ok (D : SD) (now : Int) (k : Nat) : Prop where
  ids : (D.l.map (·.1)).Perm (D.mm.map (·.1))
  le : ∀ p ∈ D.mm, p.1 ≤ D.last
  last : 0 ≤ D.last ∧ D.last ≤ k
  ended : 0 ≤ D.ended
  sum : (D.kt : Int) + D.works.length + D.mm.length ≤ k
  sum2 : D.ended + D.works.length + D.mm.length ≤ k
  left : ∀ x ∈ D.works, 1 ≤ x.2 ∧ x.2 ≤ 1000
  up : 0 ≤ D.up ∧ D.up ≤ now
  wc : ∀ x ∈ D.works, x.1.call.size ≤ 1000
  mc : ∀ x ∈ D.mm, x.2.call.size ≤ 1000

def SW (w : World) (sb : Nat) (hz : Int) (s : Sv) (now : Int) (k : Nat) (t : SS) (D : SD) : Prop := SR w sb hz s now D ∧ D.Ok now k ∧ D.t = t

/-! A server: what only looks. -/

set_option maxHeartbeats 1000000 in
theorem each_any (k n : Int) (w : World) :
    Calls Tryd.prog 41 #[.int .i64 k, .int .i64 n] w fun e w' => e = .returned (.bool (each k n)) ∧ w' = w := by
  unfold each
  by_cases h1 : 0 < k
  · have t1 : decide (0 < k) = true := decide_eq_true h1
    have tk : (k == 0) = false := beq_eq_false_iff_ne.2 (by omega)
    by_cases h2 : 0 < n
    · have t2 : decide (0 < n) = true := decide_eq_true h2
      have t3 : n.tmod k = n % k := Int.tmod_eq_emod_of_nonneg (by omega)
      go_enter Tryd.func41, Tryd.ntmps41
      go_wp2
      go_ret
      refine ⟨?_, rfl⟩
      rw [t1, t2]
      rfl
    · have t2 : decide (0 < n) = false := decide_eq_false h2
      go_enter Tryd.func41, Tryd.ntmps41
      go_wp2
      go_ret
      exact ⟨rfl, rfl⟩
  · have t1 : decide (0 < k) = false := decide_eq_false h1
    go_enter Tryd.func41, Tryd.ntmps41
    go_wp2
    go_ret
    exact ⟨rfl, rfl⟩

set_option maxHeartbeats 1000000 in
theorem times_any (a b : Int) (h1 : 0 ≤ a ∧ a ≤ 1000) (h2 : 1 ≤ b ∧ b ≤ 1000) (w : World) :
    Calls Tryd.prog 44 #[.int .i64 a, .int .i64 b] w fun e w' => e = .returned (.int .i64 (a * b)) ∧ w' = w := by
  have t1 : decide (0 < b) = true := decide_eq_true (by omega)
  have tk : ¬ b = 0 := by omega
  have e0 : Int.tdiv 9223372036854775807 b = 9223372036854775807 / b := Int.tdiv_eq_ediv_of_nonneg (by omega)
  have e1 : a ≤ 9223372036854775807 / b := (Int.le_ediv_iff_mul_le (by omega)).2 (by
    have h3 : a * b ≤ 1000 * 1000 := Int.mul_le_mul h1.2 h2.2 (by omega) (by omega)
    omega)
  have e2 : 9223372036854775807 / b ≤ 9223372036854775807 := Int.ediv_le_self _ (by omega)
  have w1 : IntKind.i64.wrap (9223372036854775807 / b) = 9223372036854775807 / b := IntWalk.i64_in _ (by omega)
  have t2 : decide (9223372036854775807 / b < a) = false := decide_eq_false (by omega)
  have h3 : a * b ≤ 1000 * 1000 := Int.mul_le_mul h1.2 h2.2 (by omega) (by omega)
  have h4 : 0 ≤ a * b := Int.mul_nonneg h1.1 (by omega)
  have w2 : IntKind.i64.wrap (a * b) = a * b := IntWalk.i64_in _ (by omega)
  clear e1 e2 h3 h4 h1 h2
  go_enter Tryd.func44, Tryd.ntmps44
  go_wp2
  go_ret
  exact ⟨rfl, rfl⟩

section
variable {w : World} {sb : Nat} {hz now : Int} {s : Sv} {D : SD}
theorem SR.cell (h : SR w sb hz s now D) {o : Nat} {v : Value} (hv : (srvCells s D)[o]? = some v) : w.cell? ⟨sb, o, none⟩ = some v := block_cell h.blk o v hv
theorem SR.free (h : SR w sb hz s now D) (o : Nat) : w.frozen? ⟨sb, o, none⟩ = false := block_free h.blk o

set_option maxHeartbeats 1000000 in
theorem down_any (h : SR w sb hz s now D) : Calls Tryd.prog 23 #[.pointer (some ⟨sb, 0, none⟩)] w fun e w' => e = .returned (.bool D.down) ∧ w' = w := by
  have c : w.cell? ⟨sb, 14, none⟩ = some (.bool D.down) := h.cell rfl
  clear h
  go_enter Tryd.func23, Tryd.ntmps23
  go_wp2
  go_ret
  exact ⟨rfl, rfl⟩

set_option maxHeartbeats 1000000 in
theorem working_any (h : SR w sb hz s now D) : Calls Tryd.prog 16 #[.pointer (some ⟨sb, 0, none⟩)] w fun e w' => e = .returned (.int .i64 D.works.length) ∧ w' = w := by
  have c : w.cell? ⟨sb, 3, none⟩ = some (D.wv) := h.cell rfl
  obtain ⟨la, lc, hv⟩ := h.wk.form
  rw [hv] at c
  clear h hv
  go_enter Tryd.func16, Tryd.ntmps16
  go_wp2
  go_ret
  exact ⟨rfl, rfl⟩

set_option maxHeartbeats 1000000 in
theorem waiting_any (h : SR w sb hz s now D) : Calls Tryd.prog 15 #[.pointer (some ⟨sb, 0, none⟩)] w fun e w' => e = .returned (.int .i64 D.l.length) ∧ w' = w := by
  have c : w.cell? ⟨sb, 0, none⟩ = some (.pointer (some ⟨D.qb, 0, none⟩)) := h.cell rfl
  have HQ := Lib.hid (qlen_any h.q)
  clear h
  go_enter Tryd.func15, Tryd.ntmps15
  go_wp2_with fail
  refine HQ.out.mono ?_
  rintro e w' ⟨rfl, rfl⟩
  go_wp2_with fail
  go_ret
  exact ⟨rfl, rfl⟩

set_option maxRecDepth 8000 in
set_option maxHeartbeats 2000000 in
theorem slots_any (h : SR w sb hz s now D) (hu : 0 ≤ D.up ∧ D.up ≤ now) (hn : now ≤ 1000000) (hs : 0 ≤ s.warm) :
    Calls Tryd.prog 25 #[.pointer (some ⟨sb, 0, none⟩), .int .i64 now] w fun e w' => e = .returned (.int .i64 (slotsOf s D.down D.again D.up now)) ∧ Below w.heap.size w w' := by
  have c14 : w.cell? ⟨sb, 14, none⟩ = some (.bool D.down) := h.cell rfl
  have c15 : w.cell? ⟨sb, 15, none⟩ = some (.bool D.again) := h.cell rfl
  have c16 : w.cell? ⟨sb, 16, none⟩ = some (.int .i64 D.up) := h.cell rfl
  have c12 : w.cell? ⟨sb, 12, none⟩ = some (.int .i64 s.warm) := h.cell rfl
  have c9 : w.cell? ⟨sb, 9, none⟩ = some (.int .i64 s.slots) := h.cell rfl
  clear h
  obtain ⟨dn, hdn⟩ : ∃ dn, dn = D.down := ⟨_, rfl⟩
  obtain ⟨ag, hag⟩ : ∃ ag, ag = D.again := ⟨_, rfl⟩
  obtain ⟨up, hup⟩ : ∃ up, up = D.up := ⟨_, rfl⟩
  rw [← hdn] at c14 ⊢
  rw [← hag] at c15 ⊢
  rw [← hup] at c16 hu ⊢
  clear hdn hag hup
  unfold slotsOf
  cases dn with
  | true =>
    go_enter Tryd.func25, Tryd.ntmps25
    go_wp2
    go_ret
    exact ⟨rfl, Below.refl _ _⟩
  | false =>
    cases ag with
    | false =>
      go_enter Tryd.func25, Tryd.ntmps25
      go_wp2
      go_ret
      exact ⟨rfl, Below.refl _ _⟩
    | true =>
      by_cases hw : s.warm < 1
      · have t1 : decide (s.warm < 1) = true := decide_eq_true hw
        rw [t1]
        go_enter Tryd.func25, Tryd.ntmps25
        go_wp2
        go_ret
        exact ⟨rfl, Below.refl _ _⟩
      · have t1 : decide (s.warm < 1) = false := decide_eq_false hw
        have tk : ¬ s.warm = 0 := by omega
        have w1 : IntKind.i64.wrap (now - up) = now - up := IntWalk.i64_in _ (by omega)
        have e1 : (now - up).tdiv s.warm = (now - up) / s.warm := Int.tdiv_eq_ediv_of_nonneg (by omega)
        have b1 : 0 ≤ (now - up) / s.warm := Int.ediv_nonneg (by omega) hs
        have b2 : (now - up) / s.warm ≤ now - up := Int.ediv_le_self _ (by omega)
        have w2 : IntKind.i64.wrap ((now - up) / s.warm) = (now - up) / s.warm := IntWalk.i64_in _ (by omega)
        have w3 : IntKind.i64.wrap (1 + (now - up) / s.warm) = 1 + (now - up) / s.warm := IntWalk.i64_in _ (by omega)
        rw [t1]
        clear b1 b2 hu hn hs hw
        go_enter Tryd.func25, Tryd.ntmps25
        go_wp2
        go_region
        all_goals
          go_wp2_with fail
          go_ret
          exact ⟨rfl, (Below.refl _ _).drew⟩
end

/-! A server, made anew. -/

def heldV (qb mb cb : Nat) : Value := .agg #[.pointer (some ⟨qb, 0, none⟩), .int .i64 0, .map (some mb), .slice none 0 0, .map (some cb), .int .i64 0]
def Held (w : World) (most : Int) (e : Ending) (w' : World) : Prop :=
  ∃ qb mb cb, e = .returned (heldV qb mb cb) ∧ QW w' qb most [] (fun b => b = qb) ∧ MapAt encI w' mb [] ∧ MapAt encS w' cb [] ∧ w.heap.size ≤ qb ∧ qb < mb ∧ mb < cb ∧ Below w.heap.size w w'

set_option maxRecDepth 8000 in
set_option maxHeartbeats 2000000 in
theorem nothing_any (most : Int) (w : World) :
    Calls Tryd.prog 38 #[.int .i64 most] w (Held w most) := by
  have hmm := @run_makeMap Tryd.prog
  obtain ⟨W1, hW1⟩ : ∃ W1, w.alloc (.cells #[.pointer none, .int .i64 0, .map none, .slice none 0 0, .map none, .int .i64 0] 63) = W1 := ⟨_, rfl⟩
  have n1 : W1.heap[w.heap.size]? = some (.cells #[.pointer none, .int .i64 0, .map none, .slice none 0 0, .map none, .int .i64 0] 63 (0, 0)) := by rw [← hW1]; exact heap_alloc_new w _
  have b1 : Below w.heap.size w W1 := by rw [← hW1]; exact (Below.refl _ _).alloc (Nat.le_refl _) _
  have z1 : W1.heap.size = w.heap.size + 1 := by rw [← hW1]; simp
  have HQ := Lib.hid (qnew_any most W1)
  have HN1 := Lib.hid n1
  have HB1 := Lib.hid b1
  have HZ1 := Lib.hid z1
  clear n1 b1 z1
  go_enter Tryd.func38, Tryd.ntmps38
  go_wp2_with fail
  refine HQ.out.mono ?_
  rintro e W2 ⟨rfl, hq2, hb2⟩
  have HQ2 := Lib.hid hq2
  have HB2 := Lib.hid hb2
  obtain ⟨W3, hW3⟩ : ∃ W3, W2.alloc (.map #[] 0) = W3 := ⟨_, rfl⟩
  have b3 : Below W2.heap.size W2 W3 := by rw [← hW3]; exact (Below.refl _ _).alloc (Nat.le_refl _) _
  have m3 : MapAt encI W3 W2.heap.size [] := by rw [← hW3]; exact mapAt_new encI W2
  have z3 : W3.heap.size = W2.heap.size + 1 := by rw [← hW3]; simp
  obtain ⟨W4, hW4⟩ : ∃ W4, W3.alloc (.map #[] 0) = W4 := ⟨_, rfl⟩
  have b4 : Below W3.heap.size W3 W4 := by rw [← hW4]; exact (Below.refl _ _).alloc (Nat.le_refl _) _
  have m4 : MapAt encS W4 W3.heap.size [] := by rw [← hW4]; exact mapAt_new encS W3
  rw [z3] at m4
  have b14 := btrans (btrans HB2.out b3) b4
  have n4 := (b14.block w.heap.size (by have := HZ1.out; omega)).trans HN1.out
  obtain ⟨W5, hW5, n5, f5⟩ := fill6 n4 (.pointer (some ⟨W1.heap.size, 0, none⟩)) (.int .i64 0) (.map (some W2.heap.size)) (.slice none 0 0) (.map (some (W2.heap.size + 1))) (.int .i64 0)
  have hs1 := HZ1.out
  have hs2 := HB2.out.size
  have k5 : ∀ b, w.heap.size < b → b < W4.heap.size → W5.heap[b]? = W4.heap[b]? := fun b h1 h2 => f5.block b h2 (by omega)
  have q5 := (HQ2.out.below (btrans b3 b4)).keep (w' := W5) (fun b hb => k5 b (by omega) (by rw [hb]; have := HQ2.out.lt _ rfl; have := b4.size; omega))
  have m35 := (m3.keep (b4.block _ m3.lt)).keep (w' := W5) (k5 _ (by omega) (Nat.lt_of_lt_of_le m3.lt b4.size))
  have m45 := m4.keep (w' := W5) (k5 _ (by omega) m4.lt)
  have hb5 : Below w.heap.size w W5 := ((Fr.ofBelow (F := fun _ => False) (btrans HB1.out b14)).trans f5 (fun b hb => .inr (by omega))).toBelow fun _ _ h => h
  have HF : Hid (Held w most (.returned (heldV W1.heap.size W2.heap.size (W2.heap.size + 1))) W5) := ⟨_, _, _, rfl, q5, m35, m45, by omega, HQ2.out.lt _ rfl, by omega, hb5⟩
  unfold heldV at HF
  have d0 := block_cell n4 0 _ rfl
  have d1 := block_cell n4 1 _ rfl
  have d2 := block_cell n4 2 _ rfl
  have d3 := block_cell n4 3 _ rfl
  have d4 := block_cell n4 4 _ rfl
  have d5 := block_cell n4 5 _ rfl
  have u0 := block_free n4 0
  have u1 := block_free n4 1
  have u2 := block_free n4 2
  have u3 := block_free n4 3
  have u4 := block_free n4 4
  have u5 := block_free n4 5
  have z0 := block_cell n5 0 _ rfl
  have z1 := block_cell n5 1 _ rfl
  have z2 := block_cell n5 2 _ rfl
  have z3 := block_cell n5 3 _ rfl
  have z4 := block_cell n5 4 _ rfl
  have z5 := block_cell n5 5 _ rfl
  clear hq2 hb2 b3 m3 b4 m4 b14 n4 n5 f5 hs1 hs2 k5 q5 m35 m45 hb5
  go_wp2_with fail
  exact bodyPost_ret (v := .agg #[.pointer (some ⟨W1.heap.size, 0, none⟩), .int .i64 0, .map (some W2.heap.size), .slice none 0 0, .map (some (W2.heap.size + 1)), .int .i64 0]) (by simp [results, Tryd.results38, go_sem, z0, z1, z2, z3, z4, z5]) rfl HF.out

/-! A server, made: New, made. -/

def SD.new (who : Nat → Nat) (qb mb cb tb : Nat) : SD := ⟨who, qb, mb, cb, tb, .slice none 0 0, none, [], [], [], 0, 0, [], 0, false, false, 0, []⟩
def NewS (w : World) (sb : Nat) (hz : Int) (s : Sv) (w' : World) : Prop := ∃ D, SR w' sb hz s 0 D ∧ D.Ok 0 0 ∧ D.t = SS.new ∧ (∀ b, D.who b ≠ 0 → w.heap.size ≤ b) ∧ Below w.heap.size w w'

open Classical in
theorem SR.start {w w1 w5 : World} {tb qb mb cb sb : Nat} {hz : Int} {s : Sv} {fp : Nat → Prop} (h1 : TW w1 tb hz [] 0 0 fp) (hfp : ∀ b, fp b → w.heap.size ≤ b) (hb1 : Below w.heap.size w w1) (hb : Below w1.heap.size w1 w5)
    (hq : QW w5 qb s.queue [] (fun b => b = qb)) (hm : MapAt encI w5 mb []) (hc : MapAt encS w5 cb []) (g1 : w1.heap.size ≤ qb) (g2 : qb < mb) (g3 : mb < cb) (g4 : cb < sb) (hs : w5.heap[sb]? = some (.cells (srvCells s (SD.new (fun _ => 0) qb mb cb tb)) 65 (0, 0))) :
    NewS w sb hz s w5 := by
  have hlt : ∀ b, fp b → b < w1.heap.size := h1.lt
  have hz5 := (Array.getElem?_eq_some_iff.1 hs).1
  let who : Nat → Nat := fun b => if fp b then 3 else if b = sb then 1 else if b = qb then 2 else if b = mb then 4 else if b = cb then 5 else 0
  have n : ∀ b, w1.heap.size ≤ b → ¬ fp b := fun b hb e => by have := hlt b e; omega
  have w3 : (fun b => who b = 3) = fp := by
    funext b
    apply propext
    show (if fp b then 3 else if b = sb then 1 else if b = qb then 2 else if b = mb then 4 else if b = cb then 5 else 0) = 3 ↔ fp b
    by_cases e : fp b
    · simp [e]
    · rw [if_neg e]; constructor
      · intro h; repeat' split at h
        all_goals omega
      · exact fun h => absurd h e
  have w2 : (fun b => who b = 2) = (fun b => b = qb) := by
    funext b
    apply propext
    show (if fp b then 3 else if b = sb then 1 else if b = qb then 2 else if b = mb then 4 else if b = cb then 5 else 0) = 2 ↔ b = qb
    constructor
    · intro h; repeat' split at h
      all_goals omega
    · rintro rfl; rw [if_neg (n _ g1), if_neg (by omega), if_pos rfl]
  refine ⟨SD.new who qb mb cb tb, ⟨hs, ?_, ?_, ?_, hm, ?_, hc, ?_, wkK.nil _, (fun g e => by cases e), ?_⟩, ⟨List.Perm.refl _, (fun p hp => by cases hp), ⟨Int.le_refl _, Int.le_refl _⟩, Int.le_refl _, Int.le_refl _, Int.le_refl _, (fun p hp => by cases hp), ⟨Int.le_refl _, Int.le_refl _⟩, (fun p hp => by cases hp), (fun p hp => by cases hp)⟩, rfl, ?_, btrans hb1 hb⟩
  · show (if fp sb then 3 else if sb = sb then 1 else _) = 1
    rw [if_neg (n _ (by omega)), if_pos rfl]
  · show QW w5 qb s.queue [] (fun b => who b = 2)
    rw [w2]; exact hq
  · show TW w5 tb hz [] 0 0 (fun b => who b = 3)
    rw [w3]; exact h1.below hb
  · show (if fp mb then 3 else if mb = sb then 1 else if mb = qb then 2 else if mb = mb then 4 else _) = 4
    rw [if_neg (n _ (by omega)), if_neg (by omega), if_neg (by omega), if_pos rfl]
  · show (if fp cb then 3 else if cb = sb then 1 else if cb = qb then 2 else if cb = mb then 4 else if cb = cb then 5 else 0) = 5
    rw [if_neg (n _ (by omega)), if_neg (by omega), if_neg (by omega), if_neg (by omega), if_pos rfl]
  · intro b h
    have h' : (if fp b then 3 else if b = sb then 1 else if b = qb then 2 else if b = mb then 4 else if b = cb then 5 else 0) ≠ 0 := h
    have := hb.size
    repeat' split at h'
    · rename_i e; have := hlt b e; omega
    all_goals omega
  · intro b h
    have h' : (if fp b then 3 else if b = sb then 1 else if b = qb then 2 else if b = mb then 4 else if b = cb then 5 else 0) ≠ 0 := h
    have := hb1.size
    repeat' split at h'
    · rename_i e; exact hfp b e
    all_goals omega

set_option maxRecDepth 8000 in
set_option maxHeartbeats 4000000 in
theorem new_any {w w1 : World} {tb : Nat} {hz : Int} (s : Sv) {fp : Nat → Prop} (h1 : TW w1 tb hz [] 0 0 fp) (hfp : ∀ b, fp b → w.heap.size ≤ b) (hb1 : Below w.heap.size w w1) :
    Calls Tryd.prog 27 #[svV s, .pointer (some ⟨tb, 0, none⟩)] w1 fun e w' => ∃ sb, e = .returned (.pointer (some ⟨sb, 0, none⟩)) ∧ NewS w sb hz s w' := by
  unfold svV svCells
  obtain ⟨W2, hW2⟩ : ∃ W2, w1.alloc (.cells #[.int .i64 s.id, .slice none 0 0, .int .i64 s.work, .int .i64 s.slots, .int .i64 s.queue, .int .i64 s.bal, .int .i64 s.warm] 25) = W2 := ⟨_, rfl⟩
  have n2 : W2.heap[w1.heap.size]? = some (.cells #[.int .i64 s.id, .slice none 0 0, .int .i64 s.work, .int .i64 s.slots, .int .i64 s.queue, .int .i64 s.bal, .int .i64 s.warm] 25 (0, 0)) := by rw [← hW2]; exact heap_alloc_new w1 _
  have b2 : Below w1.heap.size w1 W2 := by rw [← hW2]; exact (Below.refl _ _).alloc (Nat.le_refl _) _
  have z2 : W2.heap.size = w1.heap.size + 1 := by rw [← hW2]; simp
  have n3 := setCell_block W2 w1.heap.size 1 _ _ (0, 0) (.slice none 0 0) n2
  simp only [List.setIfInBounds_toArray, List.set_cons_zero, List.set_cons_succ] at n3
  have b3 : Below w1.heap.size w1 (W2.setCell ⟨w1.heap.size, 1, none⟩ (.slice none 0 0)) := ((Fr.ofBelow (F := fun _ => False) b2).trans (Fr.setCell (fun k => k = w1.heap.size) W2 ⟨w1.heap.size, 1, none⟩ _ rfl) (fun b hb => .inr (by omega))).toBelow fun _ _ h => h
  obtain ⟨W3, hW3⟩ : ∃ W3, W2.setCell ⟨w1.heap.size, 1, none⟩ (.slice none 0 0) = W3 := ⟨_, rfl⟩
  have z3 : W3.heap.size = w1.heap.size + 1 := by rw [← hW3, ← z2]; simp [World.setCell]
  rw [hW3] at n3 b3
  have c1 := block_cell n2 1 _ rfl
  have u1 := block_free n2 1
  have HS3 : Hid (∀ w', Below W3.heap.size W3 w' → (w'.cell? ⟨w1.heap.size, 4, none⟩ = some (.int .i64 s.queue) ∧ w'.heap[w1.heap.size]? = some (.cells #[.int .i64 s.id, .slice none 0 0, .int .i64 s.work, .int .i64 s.slots, .int .i64 s.queue, .int .i64 s.bal, .int .i64 s.warm] 25 (0, 0)))) :=
    fun w' hb => ⟨bkeep hb (block_cell n3 4 _ rfl), (hb.block _ (by omega)).trans n3⟩
  have HB3 := Lib.hid b3
  have HZ3 := Lib.hid z3
  have HNO := Lib.hid (fun w => nothing_any s.queue w)
  have H1 := Lib.hid h1
  have HFP := Lib.hid hfp
  have HB1 := Lib.hid hb1
  clear n2 b2 z2 n3 b3 z3 h1 hfp hb1
  go_enter Tryd.func27, Tryd.ntmps27
  go_wp2_with fail
  clear hW2 hW3 c1 u1
  refine wp_region_held_drew (S := fun w' => w'.cell? ⟨w1.heap.size, 4, none⟩ = some (.int .i64 s.queue) ∧ w'.heap[w1.heap.size]? = some (.cells #[.int .i64 s.id, .slice none 0 0, .int .i64 s.work, .int .i64 s.slots, .int .i64 s.queue, .int .i64 s.bal, .int .i64 s.warm] 25 (0, 0))) (by kernel_rfl) (HS3.out _ (Below.refl _ _).drew) (fun hHeld => ?_)
  refine wpAnyH_take (i := 0) (v := ?_) rfl (by kernel_rfl) (by kernel_rfl) (by kernel_rfl) (fun _ _ _ h => h) (Or.inl ⟨by kernel_rfl, ?_⟩) (by assumption) ?_
  rotate_left
  · (intro w hSw; (try dsimp only at hSw); go_simp; (try rw [if_neg (by (try simp only [ByteArray.size_append]); omega)]); (try with_reducible rfl))
  try simp only [Act.put]
  refine wpAnyH_take (i := 1) (v := ?_) rfl (by kernel_rfl) (by kernel_rfl) (by kernel_rfl) (fun _ _ _ h => h) (Or.inl ⟨by kernel_rfl, ?_⟩) (by assumption) ?_
  rotate_left
  · (intro w hSw; (try dsimp only at hSw); go_simp; (try rw [if_neg (by (try simp only [ByteArray.size_append]); omega)]); (try with_reducible rfl))
  try simp only [Act.put]
  refine wpAnyH_take (i := 3) (v := ?_) rfl (by kernel_rfl) (by kernel_rfl) (by kernel_rfl) (fun _ _ _ h => h) (Or.inl ⟨by kernel_rfl, ?_⟩) (by assumption) ?_
  rotate_left
  · (intro wS hSw; refine (exec_load_row 25 _ rfl _ (by kernel_rfl) _ _ _ _ (hSw.2) Tryd.underlying25 rfl (by kernel_rfl)).trans ?_; with_reducible rfl)
  try simp only [Act.put]
  refine wpAnyH_take (i := 4) (v := ?_) rfl (by kernel_rfl) (by kernel_rfl) (by kernel_rfl) (fun _ _ _ h => h) (Or.inl ⟨by kernel_rfl, ?_⟩) (by assumption) ?_
  rotate_left
  · (intro w hSw; (try dsimp only at hSw); go_simp; (try rw [if_neg (by (try simp only [ByteArray.size_append]); omega)]); (try with_reducible rfl))
  try simp only [Act.put]
  refine wpAnyH_ready (rs := [2]) (by kernel_rfl) (by simp) ?_
  refine AllReadyH.cons rfl (fun K hK => ?_) AllReadyH.nil
  go_simp
  refine (HNO.out _).mono ?_
  rintro e W4 ⟨qb, mb, cb, rfl, q4, m4, c4, g1, g2, g3, b4⟩
  unfold heldV
  have b34 : Below W3.heap.size W3 W4 := (bdrew b4)
  refine hK.out _ _ ((HS3.out _ b34)) (fun hHeld => ?_)
  clear hK K
  try simp only [Act.put]
  refine wpAnyH_take (i := 5) (v := ?_) rfl (by kernel_rfl) (by kernel_rfl) (by kernel_rfl) (fun _ _ _ h => h) (Or.inl ⟨by kernel_rfl, ?_⟩) (by assumption) ?_
  rotate_left
  · (intro w hSw; (try dsimp only at hSw); go_simp; (try rw [if_neg (by (try simp only [ByteArray.size_append]); omega)]); (try with_reducible rfl))
  try simp only [Act.put]
  refine wpAnyH_ready (rs := [6]) (by kernel_rfl) (by simp) ?_
  refine AllReadyH.cons rfl (fun K hK => ?_) AllReadyH.nil
  go_simp
  refine hK.out _ _ ((HS3.out _ (b34.alloc b34.size _))) (fun hHeld => ?_)
  clear hK K
  try simp only [Act.put]
  refine wpAnyH_take (i := 7) (v := ?_) rfl (by kernel_rfl) (by kernel_rfl) (by kernel_rfl) (fun _ _ _ h => h) (Or.inl ⟨by kernel_rfl, ?_⟩) (by assumption) ?_
  rotate_left
  · (intro w hSw; (try dsimp only at hSw); go_simp; (try rw [if_neg (by (try simp only [ByteArray.size_append]); omega)]); (try with_reducible rfl))
  try simp only [Act.put]
  refine wpAnyH_done (by kernel_rfl) ?_ _
  try simp only [Act.put]
  have hs5 := heap_alloc_new W4 (.cells (srvCells s (SD.new (fun _ => 0) qb mb cb tb)) 65)
  have b45 : Below W4.heap.size W4 (W4.alloc (.cells (srvCells s (SD.new (fun _ => 0) qb mb cb tb)) 65)) := (Below.refl _ _).alloc (Nat.le_refl _) _
  have hd : W3.drew.heap.size = W3.heap.size := rfl
  have hz3 := HZ3.out
  have hcl := c4.lt
  have HF := Lib.hid (SR.start H1.out HFP.out HB1.out (btrans (btrans HB3.out b34) b45) (q4.below b45) (m4.keep (b45.block _ m4.lt)) (c4.keep (b45.block _ c4.lt)) (by omega) g2 g3 hcl hs5)
  unfold srvCells SD.new at HF
  dsimp only at HF
  clear q4 m4 c4 g1 g2 g3 b4 b34 hs5 b45 hd hz3 hcl hHeld
  go_simp
  go_wp2_with fail
  go_ret
  exact ⟨_, rfl, HF.out⟩

set_option maxRecDepth 8000 in
set_option maxHeartbeats 4000000 in
theorem made_any (s : Sv) (hz : Int) (w : World) :
    Calls Tryd.prog 10 #[svV s, .int .i64 hz] w fun e w' => ∃ sb, e = .returned (.pointer (some ⟨sb, 0, none⟩)) ∧ NewS w sb hz s w' := by
  obtain ⟨W2, hW2⟩ : ∃ W2, w.alloc (.cells #[.int .i64 s.id, .slice none 0 0, .int .i64 s.work, .int .i64 s.slots, .int .i64 s.queue, .int .i64 s.bal, .int .i64 s.warm] 25) = W2 := ⟨_, rfl⟩
  have n2 : W2.heap[w.heap.size]? = some (.cells #[.int .i64 s.id, .slice none 0 0, .int .i64 s.work, .int .i64 s.slots, .int .i64 s.queue, .int .i64 s.bal, .int .i64 s.warm] 25 (0, 0)) := by rw [← hW2]; exact heap_alloc_new w _
  have b2 : Below w.heap.size w W2 := by rw [← hW2]; exact (Below.refl _ _).alloc (Nat.le_refl _) _
  have z2 : W2.heap.size = w.heap.size + 1 := by rw [← hW2]; simp
  have HN2 := Lib.hid n2
  have HB2 := Lib.hid b2
  have HZ2 := Lib.hid z2
  have HT := Lib.hid (tnew_any hz W2)
  clear n2 b2 z2
  unfold svV svCells
  go_enter Tryd.func10, Tryd.ntmps10
  go_wp2_with fail
  refine HT.out.mono ?_
  rintro e W3 ⟨tb, fp, rfl, h3, hfp, b3⟩
  have HNW := Lib.hid (new_any s h3 (fun b hb => by have := hfp b hb; have := HB2.out.size; omega) (btrans HB2.out b3))
  have n3 := (b3.block _ (by have := HZ2.out; omega)).trans HN2.out
  unfold svV svCells at HNW
  have c0 := block_cell n3 0 _ rfl
  have c1 := block_cell n3 1 _ rfl
  have c2 := block_cell n3 2 _ rfl
  have c3 := block_cell n3 3 _ rfl
  have c4 := block_cell n3 4 _ rfl
  have c5 := block_cell n3 5 _ rfl
  have c6 := block_cell n3 6 _ rfl
  clear h3 hfp b3 n3 hW2
  go_wp2_with fail
  refine HNW.out.mono ?_
  rintro e W4 ⟨sb, rfl, h4⟩
  go_wp2_with fail
  go_ret
  exact ⟨sb, rfl, h4⟩

/-! A server goes down, and up. -/

def SD.upAt (D : SD) (now : Int) : SD := if D.down then { D with down := false, again := true, up := now } else D
theorem SD.upAt_t (D : SD) (now : Int) : (D.upAt now).t = D.t.upAt now := by
  unfold SD.upAt SS.upAt
  by_cases h : D.down = true
  · rw [if_pos h, if_pos (show D.t.down = true from h)]; rfl
  · rw [if_neg h, if_neg (show ¬ D.t.down = true from h)]
theorem SD.Ok.upAt {D : SD} {now : Int} {k : Nat} (h : D.Ok now k) (hn : 0 ≤ now) : (D.upAt now).Ok now k := by
  unfold SD.upAt
  split
  · exact ⟨h.ids, h.le, h.last, h.ended, h.sum, h.sum2, h.left, ⟨hn, Int.le_refl _⟩, h.wc, h.mc⟩
  · exact h

set_option maxRecDepth 8000 in
set_option maxHeartbeats 2000000 in
theorem up_any {w : World} {sb : Nat} {hz now now' : Int} {s : Sv} {D : SD} (h : SR w sb hz s now D) :
    Calls Tryd.prog 22 #[.pointer (some ⟨sb, 0, none⟩), .int .i64 now'] w fun e w' => e = .returned (.tuple #[]) ∧ SR w' sb hz s now (D.upAt now') ∧ Mv w D w' (D.upAt now') := by
  have c14 : w.cell? ⟨sb, 14, none⟩ = some (.bool D.down) := h.cell rfl
  unfold SD.upAt
  cases hd : D.down with
  | false =>
    rw [hd] at c14
    have HR := Lib.hid h
    clear h hd
    go_enter Tryd.func22, Tryd.ntmps22
    go_wp2
    go_end0
    exact ⟨rfl, HR.out, Mv.refl _ _⟩
  | true =>
    rw [hd] at c14
    have c15 : w.cell? ⟨sb, 15, none⟩ = some (.bool D.again) := h.cell rfl
    have c16 : w.cell? ⟨sb, 16, none⟩ = some (.int .i64 D.up) := h.cell rfl
    have u14 := h.free 14
    have u15 := h.free 15
    have u16 := h.free 16
    have e1 := setCell_block w sb 14 _ _ (0, 0) (.bool false) h.blk
    have e2 := setCell_block _ sb 15 _ _ (0, 0) (.bool true) e1
    have e3 := setCell_block _ sb 16 _ _ (0, 0) (.int .i64 now') e2
    have f1 := (Fr.setCell (fun b => b = sb) w ⟨sb, 14, none⟩ (.bool false) rfl).trans (Fr.setCell (fun b => b = sb) _ ⟨sb, 15, none⟩ (.bool true) rfl) (fun b hb => .inl hb)
    have f2 := f1.trans (Fr.setCell (fun b => b = sb) _ ⟨sb, 16, none⟩ (.int .i64 now') rfl) (fun b hb => .inl hb)
    have HF := Lib.hid (h.cells f2 D.last D.ended false true now' e3)
    clear h hd e1 e2 e3 f1 f2
    go_enter Tryd.func22, Tryd.ntmps22
    go_wp2
    go_end0
    exact ⟨rfl, HF.out⟩

def SD.crashed (D : SD) (who : Nat → Nat) (qb mb cb : Nat) : SD := { D with who := who, qb := qb, mb := mb, cb := cb, wv := .slice none 0 0, wb := none, l := [], mm := [], cm := [], last := 0, works := [], ended := 0, down := true }
theorem SD.crashed_t (D : SD) (who : Nat → Nat) (qb mb cb : Nat) : (D.crashed who qb mb cb).t = D.t.crash := rfl
theorem SD.Ok.crashed {D : SD} {now : Int} {k : Nat} (h : D.Ok now k) (who : Nat → Nat) (qb mb cb : Nat) : (D.crashed who qb mb cb).Ok now k :=
  ⟨List.Perm.refl _, (fun p hp => by cases hp), ⟨Int.le_refl _, by show (0 : Int) ≤ k; omega⟩, Int.le_refl _, by have := h.sum; show (D.kt : Int) + ((0 : Nat) : Int) + ((0 : Nat) : Int) ≤ k; omega, by show (0 : Int) + ((0 : Nat) : Int) + ((0 : Nat) : Int) ≤ k; omega, (fun p hp => by cases hp), h.up, (fun p hp => by cases hp), (fun p hp => by cases hp)⟩

theorem SR.crash {w w1 w5 : World} {qb mb cb sb : Nat} {hz now : Int} {s : Sv} {D : SD} (h : SR w sb hz s now D) (h1 : SR w1 sb hz s now { D with down := true }) (f1 : Fr (fun b => b = sb) w w1)
    (hf : Fr (fun b => b = sb) w1 w5) (hq : QW w5 qb s.queue [] (fun b => b = qb)) (hm : MapAt encI w5 mb []) (hc : MapAt encS w5 cb []) (g1 : w1.heap.size ≤ qb) (g2 : qb < mb) (g3 : mb < cb)
    (hs : w5.heap[sb]? = some (.cells (srvCells s (D.crashed D.who qb mb cb)) 65 (0, 0))) :
    ∃ who, SR w5 sb hz s now (D.crashed who qb mb cb) ∧ Mv w D w5 (D.crashed who qb mb cb) := by
  have hlt := h1.lt
  have hz5 := (Array.getElem?_eq_some_iff.1 hs).1
  let who : Nat → Nat := fun b => if b = qb then 2 else if b = mb then 4 else if b = cb then 5 else if D.who b = 1 then 1 else if D.who b = 3 then 3 else 0
  have n : ∀ b, D.who b ≠ 0 → b ≠ qb ∧ b ≠ mb ∧ b ≠ cb := fun b hb => by have := hlt b hb; omega
  have n1 : ∀ b, D.who b = 1 ∨ D.who b = 3 → who b = D.who b := fun b hb => by
    obtain ⟨m1, m2, m3⟩ := n b (by omega)
    show (if b = qb then 2 else if b = mb then 4 else if b = cb then 5 else if D.who b = 1 then 1 else if D.who b = 3 then 3 else 0) = D.who b
    rw [if_neg m1, if_neg m2, if_neg m3]
    rcases hb with e | e
    · rw [if_pos e, e]
    · rw [if_neg (by omega), if_pos e, e]
  have w3 : (fun b => who b = 3) = (fun b => D.who b = 3) := by
    funext b
    apply propext
    refine ⟨fun e => ?_, fun e => (n1 b (.inr e)).trans e⟩
    have e' : (if b = qb then 2 else if b = mb then 4 else if b = cb then 5 else if D.who b = 1 then 1 else if D.who b = 3 then 3 else 0) = 3 := e
    repeat' split at e'
    all_goals omega
  have w2 : (fun b => who b = 2) = (fun b => b = qb) := by
    funext b
    apply propext
    refine ⟨fun e => ?_, fun e => by show (if b = qb then 2 else _) = 2; rw [if_pos e]⟩
    have e' : (if b = qb then 2 else if b = mb then 4 else if b = cb then 5 else if D.who b = 1 then 1 else if D.who b = 3 then 3 else 0) = 2 := e
    repeat' split at e'
    all_goals omega
  have hn0 : ∀ b, who b ≠ 0 → D.who b ≠ 0 ∨ b = qb ∨ b = mb ∨ b = cb := fun b e => by
    have e' : (if b = qb then 2 else if b = mb then 4 else if b = cb then 5 else if D.who b = 1 then 1 else if D.who b = 3 then 3 else 0) ≠ 0 := e
    repeat' split at e'
    all_goals omega
  refine ⟨who, ⟨hs, (n1 sb (.inl h.own)).trans h.own, ?_, ?_, hm, ?_, hc, ?_, wkK.nil _, (fun g e => by cases e), fun b hb => ?_⟩, ?_, fun b hb => ?_⟩
  · show QW w5 qb s.queue [] (fun b => who b = 2)
    rw [w2]; exact hq
  · show TW w5 D.tb hz D.eff now D.kt (fun b => who b = 3)
    rw [w3]
    exact h1.t.keep fun b e => hf.block b (hlt b (by show D.who b ≠ 0; rw [e]; decide)) (fun e2 => by rw [e2, h.own] at e; cases e)
  · show (if mb = qb then 2 else if mb = mb then 4 else _) = 4
    rw [if_neg (by omega), if_pos rfl]
  · show (if cb = qb then 2 else if cb = mb then 4 else if cb = cb then 5 else _) = 5
    rw [if_neg (by omega), if_neg (by omega), if_pos rfl]
  · rcases hn0 b hb with e | e | e | e
    · exact Nat.lt_of_lt_of_le (hlt b e) hf.size
    · rw [e]; exact hq.lt _ rfl
    · rw [e]; exact hm.lt
    · rw [e]; exact hc.lt
  · exact (f1.trans hf (fun b hb => .inl hb)).mono fun b e => by show D.who b ≠ 0; rw [e, h.own]; decide
  · have := f1.size
    rcases hn0 b hb with e | e | e | e
    · exact .inl e
    all_goals (right; omega)

set_option maxRecDepth 8000 in
set_option maxHeartbeats 4000000 in
theorem crash_any {w : World} {sb : Nat} {hz now now' : Int} {s : Sv} {D : SD} (h : SR w sb hz s now D) :
    Calls Tryd.prog 24 #[.pointer (some ⟨sb, 0, none⟩), .int .i64 now'] w fun e w' => e = .returned (.tuple #[]) ∧ ∃ who qb mb cb, SR w' sb hz s now (D.crashed who qb mb cb) ∧ Mv w D w' (D.crashed who qb mb cb) := by
  have c14 : w.cell? ⟨sb, 14, none⟩ = some (.bool D.down) := h.cell rfl
  have u14 := h.free 14
  have e1 := setCell_block w sb 14 _ _ (0, 0) (.bool true) h.blk
  have f1 := Fr.setCell (fun b => b = sb) w ⟨sb, 14, none⟩ (.bool true) rfl
  have h1 := (h.cells f1 D.last D.ended true D.again D.up e1).1
  obtain ⟨W1, hW1⟩ : ∃ W1, w.setCell ⟨sb, 14, none⟩ (.bool true) = W1 := ⟨_, rfl⟩
  rw [hW1] at e1 f1 h1
  have c10 : W1.cell? ⟨sb, 10, none⟩ = some (.int .i64 s.queue) := h1.cell rfl
  have HNO := Lib.hid (nothing_any s.queue W1)
  have H := Lib.hid h
  have H1 := Lib.hid h1
  have F1 := Lib.hid f1
  clear e1 f1 h1 h
  go_enter Tryd.func24, Tryd.ntmps24
  go_wp2_with fail
  refine HNO.out.mono ?_
  rintro e W4 ⟨qb, mb, cb, rfl, q4, m4, k4, g1, g2, g3, b4⟩
  unfold heldV
  have hl := H1.out.lt sb (by rw [H1.out.own]; decide)
  have n4 := (b4.block _ hl).trans H1.out.blk
  have hsb : sb < W4.heap.size := Nat.lt_of_lt_of_le hl b4.size
  have hx := setsFrom_block sb 65 [.pointer (some ⟨qb, 0, none⟩), .int .i64 0, .map (some mb), .slice none 0 0, .map (some cb), .int .i64 0] 0 W4 _ n4
  have fx := setsFrom_fr sb [.pointer (some ⟨qb, 0, none⟩), .int .i64 0, .map (some mb), .slice none 0 0, .map (some cb), .int .i64 0] 0 W4
  simp only [arrFrom, srvCells, Nat.reduceAdd, List.setIfInBounds_toArray, List.set_cons_zero, List.set_cons_succ] at hx
  obtain ⟨W5, hW5⟩ : ∃ W5, setsFrom W4 sb 0 [.pointer (some ⟨qb, 0, none⟩), .int .i64 0, .map (some mb), .slice none 0 0, .map (some cb), .int .i64 0] = W5 := ⟨_, rfl⟩
  rw [hW5] at hx fx
  have f5 : Fr (fun b => b = sb) W1 W5 := (Fr.ofBelow b4).trans fx (fun b hb => .inl hb)
  have k5 : ∀ b, b < W4.heap.size → sb < b → W5.heap[b]? = W4.heap[b]? := fun b h1 h2 => fx.block b h1 (by omega)
  have q5 := q4.keep (w' := W5) (fun b hb => k5 b (q4.lt b hb) (by omega))
  have m5 := m4.keep (w' := W5) (k5 _ m4.lt (by omega))
  have k6 := k4.keep (w' := W5) (k5 _ k4.lt (by omega))
  have HF := Lib.hid (SR.crash H.out H1.out F1.out f5 q5 m5 k6 g1 g2 g3 hx)
  simp only [setsFrom, Nat.reduceAdd] at hW5
  have d0 := block_cell n4 0 _ rfl
  have d1 := block_cell n4 1 _ rfl
  have d2 := block_cell n4 2 _ rfl
  have d3 := block_cell n4 3 _ rfl
  have d4 := block_cell n4 4 _ rfl
  have d5 := block_cell n4 5 _ rfl
  have u0 := block_free n4 0
  have u1 := block_free n4 1
  have u2 := block_free n4 2
  have u3 := block_free n4 3
  have u4 := block_free n4 4
  have u5 := block_free n4 5
  clear q4 m4 k4 g1 g2 g3 b4 hl n4 hsb hx fx f5 k5 q5 m5 k6 hW1 c10
  go_wp2_with fail
  go_end0
  exact ⟨rfl, by obtain ⟨who, h⟩ := HF.out; exact ⟨who, qb, mb, cb, h⟩⟩

end Go.Proofs.YtchjlkfkfcmhlaaDoor
