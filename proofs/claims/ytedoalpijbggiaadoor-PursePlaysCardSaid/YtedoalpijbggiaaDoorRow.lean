/- Rows of cells behind a slice: what copy and append do to them. -/
import Derived.Test.YtedoalpijbggiaaDoorBase
import Derived.Laws.CopyOwn
import Derived.Lib.AppendZerosOnto
import Derived.Lib.Overlaps
import Derived.Deep.RegionHeld3
import Derived.Deep.DrawnRows
import Derived.BigQuiet
namespace Go.Proofs.YtedoalpijbggiaaDoor
open Go.RowKit

/-- The slice value v, of n elements of s cells each (type T), reads as the cells cs; sb: its block. -/
def RowAt (w : World) (T s : Nat) (v : Value) (n : Nat) (cs : List Value) (sb : Option Nat) : Prop :=
  cs.length = n * s ∧ n ≤ 4611686018427387903 ∧ ((v = .slice none 0 0 ∧ n = 0 ∧ sb = none) ∨
    ∃ g off cap cur, v = .slice (some ⟨g, off, none⟩) n cap ∧ sb = some g ∧ w.heap[g]? = some (.cells cur T (0, 0)) ∧ n ≤ cap ∧ cap ≤ maxLen ∧ off + cap * s ≤ cur.size ∧ (cur.toList.drop off).take (n * s) = cs)

theorem RowAt.nil (w : World) (T s : Nat) : RowAt w T s (.slice none 0 0) 0 [] none := ⟨by simp, by omega, .inl ⟨rfl, rfl, rfl⟩⟩

theorem row_cell {w : World} {T s n g off : Nat} {cur : Array Value} {cs : List Value} (hh : w.heap[g]? = some (.cells cur T (0, 0))) (ht : (cur.toList.drop off).take (n * s) = cs)
    (j : Nat) (hj : j < n * s) : w.cell? ⟨g, off + j, none⟩ = cs[j]? := by
  rw [cell_of_row w g (off + j) cur T (0, 0) hh, ← ht, List.getElem?_take, if_pos hj, List.getElem?_drop, Array.getElem?_toList]

theorem RowAt.cell {w : World} {T s : Nat} {n : Nat} {cs : List Value} {sb : Option Nat} {g off cap : Nat}
    (h : RowAt w T s (.slice (some ⟨g, off, none⟩) n cap) n cs sb) (j : Nat) (hj : j < n * s) : w.cell? ⟨g, off + j, none⟩ = cs[j]? := by
  obtain ⟨hl, _, h | ⟨g', off', cap', cur, hv, _, hh, _, _, _, ht⟩⟩ := h
  · cases h.1
  · cases hv
    exact row_cell hh ht j hj

theorem RowAt.below {w w' : World} {T s : Nat} {v : Value} {n : Nat} {cs : List Value} {sb : Option Nat} (h : RowAt w T s v n cs sb)
    (hb : ∀ g, sb = some g → w'.heap[g]? = w.heap[g]?) : RowAt w' T s v n cs sb := by
  obtain ⟨hl, hn, h | ⟨g, off, cap, cur, hv, hs, hh, r⟩⟩ := h
  · exact ⟨hl, hn, .inl h⟩
  · exact ⟨hl, hn, .inr ⟨g, off, cap, cur, hv, hs, (hb g hs).trans hh, r⟩⟩

theorem RowAt.lt {w : World} {T s : Nat} {v : Value} {n : Nat} {cs : List Value} {sb : Option Nat} (h : RowAt w T s v n cs sb) : ∀ g, sb = some g → g < w.heap.size := by
  intro g hg
  obtain ⟨hl, hn, h | ⟨g', off, cap, cur, hv, hs, hh, r⟩⟩ := h
  · rw [h.2.2] at hg; cases hg
  · rw [hs] at hg; cases hg
    exact (Array.getElem?_eq_some_iff.1 hh).1

theorem RowAt.keep {w w' : World} {T s : Nat} {v : Value} {n : Nat} {cs : List Value} {sb : Option Nat} (h : RowAt w T s v n cs sb) (hb : Below w.heap.size w w') : RowAt w' T s v n cs sb :=
  h.below fun g hg => hb.block g (h.lt g hg)

/-- The value's form. -/
theorem RowAt.form {w : World} {T s : Nat} {v : Value} {n : Nat} {cs : List Value} {sb : Option Nat} (h : RowAt w T s v n cs sb) : ∃ la lc, v = .slice la n lc := by
  rcases h.2.2 with ⟨h, h0, _⟩ | ⟨g, off, cap, cur, hv, _⟩
  · exact ⟨none, 0, by rw [h, h0]⟩
  · exact ⟨_, _, hv⟩

theorem getElem?_splice {α : Type} (L : List α) (off : Nat) (cs : List α) (h : off + cs.length ≤ L.length) (j : Nat) :
    (splice L off cs)[j]? = if j < off then L[j]? else if j < off + cs.length then cs[j - off]? else L[j]? := by
  unfold splice
  by_cases h1 : j < off
  · rw [if_pos h1, List.getElem?_append_left (by simp; omega), List.getElem?_take, if_pos h1]
  · rw [if_neg h1, List.getElem?_append_right (by simp; omega)]
    simp only [List.length_take, Nat.min_eq_left (show off ≤ L.length by omega)]
    by_cases h2 : j < off + cs.length
    · rw [if_pos h2, List.getElem?_append_left (by omega)]
    · rw [if_neg h2, List.getElem?_append_right (by omega), List.getElem?_drop]
      congr 1; omega

/-- Two rows of a list. -/
theorem seg_ext {α : Type} {L cs : List α} {off k : Nat} (hk : cs.length = k) (h : ∀ j, j < k → L[off + j]? = cs[j]?) : (L.drop off).take k = cs := by
  apply List.ext_getElem?
  intro j
  rw [List.getElem?_take]
  by_cases hj : j < k
  · rw [if_pos hj, List.getElem?_drop, h j hj]
  · rw [if_neg hj, List.getElem?_eq_none (by omega)]

theorem seg_get {α : Type} {L cs : List α} {off k : Nat} (h : (L.drop off).take k = cs) (j : Nat) (hj : j < k) : L[off + j]? = cs[j]? := by
  rw [← h, List.getElem?_take, if_pos hj, List.getElem?_drop]

section
variable {P : Program}

/-- The operation 'copy(d, s)', 'append(d, s...)', where its run is known. -/
theorem exec_copy {w w' : World} {o : Oper} {a : Act} (d s : Operand) (t t' : TypeId)
    (ho : o.op = .call { callee := .builtin .copy, args := #[d, s], argTypes := #[t, t'] }) (v u : Value) (hd : a.eval d = v) (hs : a.eval s = u) {v' : Value}
    (hr : (Builtin.copy_ #[t, t'] o.type #[v, u]).run P w = .ok v' w') : (execOp a.eval o).run P w = .ok (.value v') w' := by
  unfold execOp
  simp only [ho, resolve, invoke, builtin, Sem.run_bind, Sem.run_pure, Result.andThen_ok, List.map_toArray, List.map_cons, List.map_nil, hd, hs, hr]

theorem exec_append {w w' : World} {o : Oper} {a : Act} (d s : Operand) (t t' : TypeId)
    (ho : o.op = .call { callee := .builtin .append, args := #[d, s], argTypes := #[t, t'] }) (v u : Value) (hd : a.eval d = v) (hs : a.eval s = u) {v' : Value}
    (hr : (Builtin.append_ #[t, t'] o.type #[v, u]).run P w = .ok v' w') : (execOp a.eval o).run P w = .ok (.value v') w' := by
  unfold execOp
  simp only [ho, resolve, invoke, builtin, Sem.run_bind, Sem.run_pure, Result.andThen_ok, List.map_toArray, List.map_cons, List.map_nil, hd, hs, hr]

theorem wpList_run {w w' : World} {ops : Array Oper} {rest : List Oper} {o : Oper} {a : Act} {Q : Exit → Act → World → Prop} {v' : Value} (hgd : o.guard = none)
    (hr : (execOp a.eval o).run P w = .ok (.value v') w') (h : wpList P ops Q rest (a.put o.dst v') w') : wpList P ops Q (o :: rest) a w :=
  wpList_plain hgd fun _ hK => by unfold Oper.wp; rw [hr]; exact hK _ _ h

theorem step_run {w w' : World} {ops : Array Oper} {o : Oper} {a : Act} {K : Act → World → Prop} {Q : Exit → Act → World → Prop} {E : Prop} {v' : Value} (hg : o.guard = none)
    (hr : (execOp a.eval o).run P w = .ok (.value v') w') (hK : K (a.put o.dst v') w') :
    if Region.wanted o (yielded ops a.tmps) = true then Oper.wp P o a w K Q else E := by
  have hw : Region.wanted o (yielded ops a.tmps) = true := by simp [Region.wanted, hg]
  rw [if_pos hw]
  unfold Oper.wp; rw [hr]; exact hK

/-- copy onto a row: as many cells as the shorter one has. -/
theorem run_copy_seg (w : World) (dT sT ty elem : TypeId) (g o dLen dCap : Nat) (a : Addr) (sLen sCap s : Nat) (cur : Array Value) (t : TypeId) (cs : List Value)
    (hu : P.underlying dT = some (.slice elem)) (hs : (P.info? elem).map (·.size) = some s)
    (hg : w.heap[g]? = some (.cells cur t (0, 0))) (hn : cs.length = Nat.min sLen dLen * s)
    (hsrc : ∀ j v, cs[j]? = some v → w.cell? (a.add j) = some v) (hfit : o + cs.length ≤ cur.size) (h1 : ∀ v ∈ cs, v.oneCell' = true) :
    (Builtin.copy_ #[dT, sT] ty #[.slice (some ⟨g, o, none⟩) dLen dCap, .slice (some a) sLen sCap]).run P w =
      .ok (goInt (Nat.min sLen dLen)) (w.setRow g (splice cur.toList o cs).toArray) := by
  have hl := run_loadCells_list (P := P) w a cs hsrc
  have hst := run_storeCells_at P g o t cs 0 cur w hg (by simpa using hfit) h1
  cases hq : P.info? elem with
  | none => simp [hq] at hs
  | some i =>
    have hi : i.size = s := by simpa [hq] using hs
    rw [hn] at hl
    simp [Builtin.copy_, run_underlying hu, Builtin.lenOf, Builtin.firstCells, sizeOf, typeInfo, hq, hi, hl, hst, splice]

/-- append where there is room. -/
theorem run_append_seg (w : World) (t ty e : TypeId) (i : TypeInfo) (s : Nat) (ht : P.underlying t = some (.slice e)) (hi : P.info? e = some i) (hs : i.size = s)
    (g off n cap : Nat) (cur : Array Value) (T : TypeId) (hg : w.heap[g]? = some (.cells cur T (0, 0)))
    (a : Addr) (m c : Nat) (news : List Value) (hl : news.length = m * s) (hnews : ∀ j u, news[j]? = some u → w.cell? (a.add j) = some u) (h1 : ∀ u ∈ news, u.oneCell' = true)
    (hroom : n + m ≤ cap) (hfit : off + n * s + news.length ≤ cur.size) :
    (Builtin.append_ #[t, t] ty #[.slice (some ⟨g, off, none⟩) n cap, .slice (some a) m c]).run P w =
      .ok (.slice (some ⟨g, off, none⟩) (n + m) cap) (w.setRow g (splice cur.toList (off + n * s) news).toArray) := by
  have hf := run_firstCells_some (P := P) w i.size m a m c news (by rw [hs]; exact hl) hnews
  have hst := run_storeCells_at P g (off + n * s) T news 0 cur w hg (by simpa using hfit) h1
  simp only [Nat.add_zero] at hst
  simp [Builtin.append_, run_underlying ht, sizeOf, typeInfo, hi, hs, Builtin.lenOf, hroom, Addr.add_lit, splice]
  rw [hs] at hf
  simp [hf, hst]

/-- append where there is none. -/
theorem run_append_new (w : World) (t ty e : TypeId) (i : TypeInfo) (z : Value) (s bytes : Nat) (ht : P.underlying t = some (.slice e)) (hi : P.info? e = some i) (hz : i.zero = some z) (hs : i.size = s) (hby : i.bytes = bytes)
    (v : Value) (n cap : Nat) (la : Option Addr) (hv : v = .slice la n cap) (olds : List Value) (hlo : olds.length = n * s) (holds : ∀ b, la = some b → ∀ j u, olds[j]? = some u → w.cell? (b.add j) = some u) (hnone : la = none → n = 0 ∧ cap = 0)
    (a : Addr) (m c : Nat) (news : List Value) (hl : news.length = m * s) (hnews : ∀ j u, news[j]? = some u → w.cell? (a.add j) = some u)
    (hroom : cap < n + m) (hm : 0 < m) (h63 : n + m ≤ 4611686018427387903) (hbytes : (n + m) * bytes ≤ 140737488355328) :
    (Builtin.append_ #[t, t] ty #[v, .slice (some a) m c]).run P w =
      .ok (.slice (some ⟨w.heap.size, 0, none⟩) (n + m) (grownCap w (n + m) cap e)) (w.drew.alloc (.cells (olds.toArray ++ news.toArray ++ Builtin.zeroCells z.cells (grownCap w (n + m) cap e - (n + m))) e)) := by
  subst hv hs hby
  cases la with
  | none =>
    obtain ⟨rfl, rfl⟩ := hnone rfl
    obtain rfl : olds = [] := List.eq_nil_of_length_eq_zero (by simpa using hlo)
    have := run_append_nil (P := P) w t ty e i z ht hi hz a m c news hl hnews hm (by omega) (by simp only [Nat.zero_add] at hbytes; omega)
    simp only [Nat.zero_add, Array.empty_append] at *
    simp [this]
  | some b =>
    have := run_append_grow (P := P) w t ty e i z ht hi hz b n cap olds hlo (holds b rfl) a m c news hl hnews hroom (by omega) (growslice_fits hroom hbytes)
    simp [this]

end

theorem grownCap_maxLen (w : World) (need old : Nat) (e : TypeId) (h : need ≤ 4611686018427387903) : grownCap w need old e ≤ maxLen := grownCap_le_maxLen w need old e (by unfold maxLen; omega)

/-- append at a row's end: the row behind it. -/
theorem row_append {P : Program} (w : World) (t ty e : TypeId) (z : Value) (s bytes : Nat) (ht : P.underlying t = some (.slice e)) (hi : (P.info? e).map (fun i => (i.zero, i.size, i.bytes)) = some (some z, s, bytes)) (hzs : z.cells.size = s)
    {v : Value} {n : Nat} {cs : List Value} {sb : Option Nat} (h : RowAt w e s v n cs sb) (a : Addr) (m c : Nat) (news : List Value) (hl : news.length = m * s) (hnews : ∀ j u, news[j]? = some u → w.cell? (a.add j) = some u) (h1 : ∀ u ∈ news, u.oneCell' = true)
    (hm : 0 < m) (h63 : n + m ≤ 4611686018427387903) (hbytes : (n + m) * bytes ≤ 140737488355328) :
    ∃ la lc sb' w', (Builtin.append_ #[t, t] ty #[v, .slice (some a) m c]).run P w = .ok (.slice la (n + m) lc) w' ∧ RowAt w' e s (.slice la (n + m) lc) (n + m) (cs ++ news) sb' ∧ w.grownBy w' sb ∧ (sb' = sb ∨ sb' = some w.heap.size) ∧ sb' ≠ none := by
  obtain ⟨i0, hi0, hz0, hz1, hz2⟩ := info_parts hi
  by_cases hroom : ∃ g off cap cur, v = .slice (some ⟨g, off, none⟩) n cap ∧ sb = some g ∧ w.heap[g]? = some (.cells cur e (0, 0)) ∧ n + m ≤ cap ∧ cap ≤ maxLen ∧ off + cap * s ≤ cur.size ∧ (cur.toList.drop off).take (n * s) = cs
  · obtain ⟨g, off, cap, cur, rfl, rfl, hg, hr, hcm, hs, htk⟩ := hroom
    have hcap : (n + m) * s ≤ cap * s := Nat.mul_le_mul_right _ hr
    rw [Nat.add_mul] at hcap
    have hfit : off + n * s + news.length ≤ cur.toList.length := by rw [hl, show cur.toList.length = cur.size from Array.length_toList]; omega
    have hrun := run_append_seg (P := P) w t ty e i0 s ht hi0 hz1 g off n cap cur e hg a m c news hl hnews h1 hr (by simpa using hfit)
    refine ⟨_, _, some g, _, hrun, ⟨by rw [List.length_append, h.1, hl, Nat.add_mul], h63, .inr ⟨g, off, cap, _, rfl, rfl, setRow_heap w g _ _ _ _ hg, hr, hcm, ?_, ?_⟩⟩, ⟨rfl, rfl, rfl, by simp [World.setRow], fun k _ hk => setRow_other w g k _ (fun e => hk (by rw [e]))⟩, .inl rfl, by simp⟩
    · rw [List.size_toArray, length_splice _ _ _ hfit]; simpa using hs
    · refine seg_ext (by rw [List.length_append, h.1, hl, Nat.add_mul]) fun j hj => ?_
      rw [Nat.add_mul] at hj
      rw [show ((splice cur.toList (off + n * s) news).toArray).toList = splice cur.toList (off + n * s) news by simp, getElem?_splice _ _ _ hfit]
      by_cases hj1 : j < n * s
      · rw [if_pos (by omega), List.getElem?_append_left (by rw [h.1]; exact hj1), seg_get htk j hj1]
      · rw [if_neg (by omega), if_pos (by omega), List.getElem?_append_right (by rw [h.1]; omega), h.1]
        congr 1; omega
  · obtain ⟨la, cap, hv⟩ := h.form
    have hcap : cap < n + m ∧ (la = none → n = 0 ∧ cap = 0) ∧ (∀ b, la = some b → ∀ j u, cs[j]? = some u → w.cell? (b.add j) = some u) := by
      rcases h.2.2 with ⟨k1, k2, k3⟩ | ⟨g, off, cap', cur, k1, k2, k3, k4, k5, k6, k7⟩
      · rw [k1] at hv; injection hv with e1 e2 e3; subst e1 e3
        exact ⟨by omega, fun _ => ⟨k2, rfl⟩, fun b hb => nomatch hb⟩
      · rw [k1] at hv; cases hv
        refine ⟨?_, (fun hb => nomatch hb), fun b hb j u hj => ?_⟩
        · rcases Nat.lt_or_ge cap (n + m) with k8 | k8
          · exact k8
          · exact absurd ⟨g, off, cap, cur, k1, k2, k3, k8, k5, k6, k7⟩ hroom
        · cases hb
          have hjl : j < n * s := by rw [← h.1]; exact (List.getElem?_eq_some_iff.1 hj).1
          rw [Addr.add_lit, row_cell k3 k7 j hjl, hj]
    have hrun := run_append_new (P := P) w t ty e i0 z s bytes ht hi0 hz0 hz1 hz2 v n cap la hv cs h.1 hcap.2.2 hcap.2.1 a m c news hl hnews hcap.1 hm h63 hbytes
    have hge := grownCap_ge w (n + m) cap e
    refine ⟨_, _, some w.heap.size, _, hrun, ⟨by rw [List.length_append, h.1, hl, Nat.add_mul], h63, .inr ⟨w.heap.size, 0, _, _, rfl, rfl, heap_alloc_new w.drew _, hge, grownCap_maxLen w (n + m) cap e h63, ?_, ?_⟩⟩, ⟨rfl, rfl, rfl, by simp, fun k hk _ => heap_alloc_old w.drew _ hk⟩, .inr rfl, by simp⟩
    · simp only [Array.size_append, List.size_toArray, size_zeroCells, h.1, hl, hzs, ← Nat.add_mul, Nat.zero_add]
      exact Nat.mul_le_mul_right _ (by omega)
    · have e1 : (cs ++ news).length = (n + m) * s := by rw [List.length_append, h.1, hl, Nat.add_mul]
      simp only [Array.toList_append, List.drop_zero]
      rw [← e1]
      exact List.take_left

/-- append of nothing. -/
theorem run_append_zero {P : Program} (w : World) (t ty e : TypeId) (ht : P.underlying t = some (.slice e)) (hi : (P.info? e).isSome = true) (la lb : Option Addr) (n c d : Nat) (hn : n ≤ c) :
    (Builtin.append_ #[t, t] ty #[.slice la n c, .slice lb 0 d]).run P w = .ok (.slice la n c) w := by
  obtain ⟨i, hi⟩ := Option.isSome_iff_exists.1 hi
  have h0 : ∀ a : Addr, (loadCells a 0).run P w = .ok #[] w := fun a => run_loadCells_list w a [] (fun j v h => by simp at h)
  cases la <;> cases lb <;> simp [Builtin.append_, run_underlying ht, sizeOf, typeInfo, hi, Builtin.lenOf, hn, Builtin.firstCells, h0, storeCells]

theorem RowAt.cap {w : World} {T s : Nat} {n c : Nat} {la : Option Addr} {cs : List Value} {sb : Option Nat} (h : RowAt w T s (.slice la n c) n cs sb) : n ≤ c := by
  rcases h.2.2 with ⟨h, h0, _⟩ | ⟨g, off, cap, cur, hv, _, _, hle, _⟩
  · cases h; exact Nat.le_refl _
  · cases hv; exact hle

/-- append of a row to a row. -/
theorem row_append_row {P : Program} (w : World) (t ty e : TypeId) (z : Value) (s bytes : Nat) (ht : P.underlying t = some (.slice e)) (hi : (P.info? e).map (fun i => (i.zero, i.size, i.bytes)) = some (some z, s, bytes)) (hzs : z.cells.size = s)
    {v u : Value} {n m : Nat} {cs news : List Value} {sb sc : Option Nat} (h : RowAt w e s v n cs sb) (k : RowAt w e s u m news sc) (h1 : ∀ u ∈ news, u.oneCell' = true)
    (h63 : n + m ≤ 4611686018427387903) (hbytes : (n + m) * bytes ≤ 140737488355328) :
    ∃ la lc sb' w', (Builtin.append_ #[t, t] ty #[v, u]).run P w = .ok (.slice la (n + m) lc) w' ∧ RowAt w' e s (.slice la (n + m) lc) (n + m) (cs ++ news) sb' ∧ w.grownBy w' sb ∧ (sb' = sb ∨ sb' = some w.heap.size) := by
  obtain ⟨la, lc, rfl⟩ := h.form
  obtain ⟨lb, ld, rfl⟩ := k.form
  by_cases hm : m = 0
  · subst hm
    obtain rfl : news = [] := List.eq_nil_of_length_eq_zero (by simpa using k.1)
    obtain ⟨i0, hi0, _⟩ := info_parts hi
    exact ⟨la, lc, sb, w, run_append_zero w t ty e ht (by rw [hi0]; rfl) la lb n lc ld h.cap, by simpa using h, ⟨rfl, rfl, rfl, Nat.le_refl _, fun _ _ _ => rfl⟩, .inl rfl⟩
  · rcases k.2.2 with ⟨_, h0, _⟩ | ⟨g, off, cap, cur, hv, _, hg, _, _, _, htk⟩
    · omega
    · cases hv
      obtain ⟨la', lc', sb', w', hr, hrow, hgr, hsb, _⟩ := row_append (P := P) w t ty e z s bytes ht hi hzs h ⟨g, off, none⟩ m ld news k.1
        (fun j u hj => by rw [Addr.add_lit, ← hj]; exact row_cell hg htk j (by rw [← k.1]; exact (List.getElem?_eq_some_iff.1 hj).1)) h1 (by omega) h63 hbytes
      exact ⟨la', lc', sb', w', hr, hrow, hgr, hsb⟩

end Go.Proofs.YtedoalpijbggiaaDoor
