/- The table of keys: as it lies in memory; The table of keys: what is let go; The table of keys: one more; The table of keys, by what took effect. -/
import Derived.Test.YtchjlkfkfcmhlaaDoorQ1
import Derived.Defers
import Derived.Carry
namespace Go.Proofs.YtchjlkfkfcmhlaaDoor
open Go.RowKit
attribute [local go_sem ↓] Go.wp_at_zero Go.wp_at_succ

/-! The table of keys: as it lies in memory. -/

def encS (s : ByteArray) : Value := .string s
def putCells (l : List (ByteArray × Int)) : List Value := l.flatMap fun e => [.string e.1, .int .i64 e.2]
theorem putCells_length (l : List (ByteArray × Int)) : (putCells l).length = l.length * 2 := by
  induction l with
  | nil => rfl
  | cons e l ih => simp only [putCells, List.flatMap_cons, List.length_append, List.length_cons, List.length_nil] at *; omega
theorem putCells_append (l l' : List (ByteArray × Int)) : putCells (l ++ l') = putCells l ++ putCells l' := by simp [putCells]
theorem putCells_one (l : List (ByteArray × Int)) : ∀ u ∈ putCells l, u.oneCell' = true := by
  intro u hu
  simp only [putCells, List.mem_flatMap, List.mem_cons, List.not_mem_nil, or_false] at hu
  obtain ⟨e, _, rfl | rfl⟩ := hu <;> rfl
theorem putCells_get (l : List (ByteArray × Int)) (i : Nat) (e : ByteArray × Int) (h : l[i]? = some e) : (putCells l)[i * 2]? = some (.string e.1) ∧ (putCells l)[i * 2 + 1]? = some (.int .i64 e.2) := by
  induction l generalizing i with
  | nil => simp at h
  | cons a l ih =>
    have e1 : putCells (a :: l) = [.string a.1, .int .i64 a.2] ++ putCells l := by simp [putCells]
    cases i with
    | zero => simp only [List.getElem?_cons_zero, Option.some.injEq] at h; subst h; simp [e1]
    | succ i =>
      obtain ⟨h0, h1⟩ := ih i (by simpa using h)
      rw [e1, List.getElem?_append_right (by simp; omega), List.getElem?_append_right (by simp; omega)]
      exact ⟨by rw [← h0]; congr 1; simp; omega, by rw [← h1]; congr 1; simp; omega⟩
theorem putCells_drop (l : List (ByteArray × Int)) (i : Nat) : putCells (l.drop i) = (putCells l).drop (i * 2) := by
  induction l generalizing i with
  | nil => simp [putCells]
  | cons e l ih =>
    cases i with
    | zero => simp [putCells]
    | succ i => rw [show (i + 1) * 2 = i * 2 + 1 + 1 by omega]; simpa [putCells] using ih i
theorem putCells_set (l : List (ByteArray × Int)) (i : Nat) (e : ByteArray × Int) : ((putCells l).set (i * 2) (.string e.1)).set (i * 2 + 1) (.int .i64 e.2) = putCells (l.set i e) := by
  induction l generalizing i with
  | nil => simp [putCells]
  | cons a l ih =>
    have e1 : ∀ (a : ByteArray × Int) (l : List (ByteArray × Int)), putCells (a :: l) = .string a.1 :: .int .i64 a.2 :: putCells l := fun a l => by simp [putCells]
    cases i with
    | zero => rw [List.set_cons_zero, e1, e1]; rfl
    | succ i =>
      rw [List.set_cons_succ, e1, e1, ← ih i, show (i + 1) * 2 = i * 2 + 1 + 1 by omega, show i * 2 + 1 + 1 + 1 = (i * 2 + 1) + 1 + 1 by omega]
      rfl
theorem infoPut : (Tryd.prog.info? 132).map (fun i => (i.zero, i.size, i.bytes)) = some (some (.agg #[.string ⟨#[]⟩, .int .i64 0]), 2, 24) := by kernel_rfl

/-- One cell of a row, written. -/
theorem row_cell_set {w : World} {T s n g off cap : Nat} {cs : List Value} {sb : Option Nat} (h : RowAt w T s (.slice (some ⟨g, off, none⟩) n cap) n cs sb) (j : Nat) (hj : j < n * s) (x : Value) :
    RowAt (w.setCell ⟨g, off + j, none⟩ x) T s (.slice (some ⟨g, off, none⟩) n cap) n (cs.set j x) sb := by
  obtain ⟨hl, hn, h | ⟨g', off', cap', cur, hv, hs, hh, hr, hm, hz, ht⟩⟩ := h
  · cases h.1
  · cases hv
    refine ⟨by rw [List.length_set]; exact hl, hn, .inr ⟨g, off, cap, _, rfl, hs, setCell_block w g (off + j) _ _ _ x hh, hr, hm, by simpa using hz, ?_⟩⟩
    rw [Array.toList_setIfInBounds, ← ht]
    apply List.ext_getElem?
    intro k
    simp only [List.getElem?_take, List.getElem?_drop, List.getElem?_set, List.length_take, List.length_drop]
    by_cases hk : k < n * s
    · rw [if_pos hk]
      by_cases e : j = k
      · subst e
        have : off + j < cur.toList.length := by have := (List.getElem?_eq_some_iff.1 (show (cs[j]?) = some cs[j] from List.getElem?_eq_getElem (by omega))).1; rw [← ht] at this; simp at this; simp; omega
        rw [if_pos rfl, if_pos rfl, if_pos this, if_pos (by simp at this; simp; omega)]
      · rw [if_neg (by omega), if_neg e, if_pos hk]
    · rw [if_neg hk, if_neg (by omega)]
      simp [hk]

/-- A row from its k-th element on. -/
theorem row_tail {w : World} {T s n g off cap : Nat} {cs : List Value} {sb : Option Nat} (h : RowAt w T s (.slice (some ⟨g, off, none⟩) n cap) n cs sb) {k : Nat} (hk : k ≤ n) :
    RowAt w T s (.slice (some ⟨g, off + k * s, none⟩) (n - k) (cap - k)) (n - k) (cs.drop (k * s)) sb := by
  obtain ⟨hl, hn, h | ⟨g', off', cap', cur, hv, hs, hh, hr, hm, hz, ht⟩⟩ := h
  · cases h.1
  · cases hv
    have hms : k * s ≤ cap * s := Nat.mul_le_mul_right s (by omega)
    refine ⟨by rw [List.length_drop, hl, Nat.sub_mul], by omega, .inr ⟨g, off + k * s, cap - k, cur, rfl, hs, hh, by omega, by omega, by rw [Nat.sub_mul]; omega, ?_⟩⟩
    rw [← ht, List.drop_take, List.drop_drop, Nat.sub_mul]

structure TAt (w : World) (tb mb : Nat) (hz : Int) (m : List (ByteArray × Value)) (v : Value) (r : List (ByteArray × Int)) (rb : Option Nat) (fp : Nat → Prop) : Prop where
  blk : w.heap[tb]? = some (.cells #[.int .i64 hz, .map (some mb), v] 82 (0, 0))
  map : MapAt encS w mb m
  mvs : ∀ p ∈ m, ∃ t, p.2 = .int .i64 t ∧ 0 ≤ t ∧ t ≤ 1000000
  row : RowAt w 132 2 v r.length (putCells r) rb
  rvs : ∀ e ∈ r, 0 ≤ e.2 ∧ e.2 ≤ 1000000
  ne : tb ≠ mb
  sep : ∀ g, rb = some g → fp g ∧ g ≠ tb ∧ g ≠ mb
  own : fp tb ∧ fp mb
  lt : ∀ b, fp b → b < w.heap.size
theorem TAt.keep {w w' : World} {tb mb : Nat} {hz : Int} {m : List (ByteArray × Value)} {v : Value} {r : List (ByteArray × Int)} {rb : Option Nat} {fp : Nat → Prop} (h : TAt w tb mb hz m v r rb fp) (hb : ∀ b, fp b → w'.heap[b]? = w.heap[b]?) : TAt w' tb mb hz m v r rb fp :=
  { h with
    blk := (hb tb h.own.1).trans h.blk
    map := h.map.keep (hb mb h.own.2)
    row := h.row.below fun g hg => hb g (h.sep g hg).1
    lt := fun b hf => by
      have h1 := h.lt b hf
      have h2 := hb b hf
      rw [Array.getElem?_eq_getElem h1] at h2
      exact (Array.getElem?_eq_some_iff.1 h2).1 }
theorem TAt.below {w w' : World} {tb mb : Nat} {hz : Int} {m : List (ByteArray × Value)} {v : Value} {r : List (ByteArray × Int)} {rb : Option Nat} {fp : Nat → Prop} (h : TAt w tb mb hz m v r rb fp) (hb : Below w.heap.size w w') : TAt w' tb mb hz m v r rb fp :=
  h.keep fun b hf => hb.block b (h.lt b hf)

set_option maxHeartbeats 1000000 in
theorem over_any {w : World} {tb : Nat} {hz : Int} (h : w.cell? ⟨tb, 0, none⟩ = some (.int .i64 hz)) (now at_ : Int) (hn : 0 ≤ now ∧ now ≤ 1000000) (ha : 0 ≤ at_ ∧ at_ ≤ 1000000) :
    Calls Tryd.prog 74 #[.pointer (some ⟨tb, 0, none⟩), .int .i64 now, .int .i64 at_] w fun e w' => e = .returned (.bool (decide (hz ≤ now - at_))) ∧ w' = w := by
  have g1 : IntKind.i64.wrap (now - at_) = now - at_ := IntWalk.i64_in _ (by omega)
  clear hn ha
  go_enter Tryd.func74, Tryd.ntmps74
  go_wp2
  go_ret
  exact ⟨rfl, rfl⟩

/-- What was remembered is so still, but for what is over; nothing else is. -/
def Kept (now hz : Int) (m m' : List (ByteArray × Value)) : Prop := (∀ k t, mget m k = some (.int .i64 t) → mget m' k = some (.int .i64 t) ∨ hz ≤ now - t) ∧ ∀ k, mget m k = none → mget m' k = none
theorem Kept.refl (now hz : Int) (m : List (ByteArray × Value)) : Kept now hz m m := ⟨fun _ _ h => .inl h, fun _ h => h⟩
theorem Kept.trans {now hz : Int} {m m' m'' : List (ByteArray × Value)} (h : Kept now hz m m') (h' : Kept now hz m' m'') : Kept now hz m m'' := ⟨fun k t hk => (h.1 k t hk).elim (h'.1 k t) .inr, fun k hk => h'.2 k (h.2 k hk)⟩
theorem Kept.del {now hz : Int} {m : List (ByteArray × Value)} (hn : (m.map (·.1)).Nodup) {k : ByteArray} {t : Int} (hk : mget m k = some (.int .i64 t)) (ho : hz ≤ now - t) : Kept now hz m (mdel m k) := ⟨fun k' t' h' => by
  by_cases e : k = k'
  · subst e
    rw [hk] at h'; cases h'; exact .inr ho
  · exact .inl (by rw [mget_mdel m k k' hn, if_neg e]; exact h'), fun k' h' => by
  rw [mget_mdel m k k' hn]; split
  · rfl
  · exact h'⟩

/-! The table of keys: what is let go. -/

def Forgot (K : Nat) (w : World) (tb mb : Nat) (hz now : Int) (m : List (ByteArray × Value)) (rb : Option Nat) (fp : Nat → Prop) (e : Ending) (w' : World) : Prop :=
  e = .returned (.tuple #[]) ∧ ∃ m' v' r', TAt w' tb mb hz m' v' r' rb fp ∧ Kept now hz m m' ∧ r'.length ≤ K ∧ Fr fp w w'

theorem forgot_end {K : Nat} {w wr : World} {tb mb : Nat} {hz now : Int} {m m' : List (ByteArray × Value)} {v v2 : Value} {r' : List (ByteArray × Int)} {rb : Option Nat} {fp : Nat → Prop} (ht : TAt wr tb mb hz m' v r' rb fp) (hk : Kept now hz m m') (hf : Fr fp w wr) (n : Nat) (hbig : r'.length ≤ K)
    (h2 : RowAt wr 132 2 v2 (r'.length - n) ((putCells r').drop (n * 2)) rb) : Forgot K w tb mb hz now m rb fp (.returned (.tuple #[])) (wr.setCell ⟨tb, 2, none⟩ v2) := by
  have hoth : ∀ k, k ≠ tb → (wr.setCell ⟨tb, 2, none⟩ v2).heap[k]? = wr.heap[k]? := fun k hk => Below.heap_setCell wr ⟨tb, 2, none⟩ v2 k hk
  have hfr : Fr (fun k => k = tb) wr (wr.setCell ⟨tb, 2, none⟩ v2) := Fr.setCell _ wr ⟨tb, 2, none⟩ v2 rfl
  refine ⟨rfl, m', v2, r'.drop n, ⟨setCell_block wr tb 2 _ _ _ v2 ht.blk, ht.map.keep (hoth mb (fun e => ht.ne e.symm)), ht.mvs, ?_, fun e he => ht.rvs e (List.mem_of_mem_drop he), ht.ne, ht.sep, ht.own, fun b hb => Nat.lt_of_lt_of_le (ht.lt b hb) hfr.size⟩, hk, ?_, hf.trans hfr (fun b hb => .inl (by rw [hb]; exact ht.own.1))⟩
  · rw [List.length_drop, putCells_drop]
    exact h2.below fun g hg => hoth g (ht.sep g hg).2.1
  · rw [List.length_drop]; omega

theorem TAt.deleted {w w5 : World} {tb mb : Nat} {hz : Int} {m : List (ByteArray × Value)} {v : Value} {r : List (ByteArray × Int)} {rb : Option Nat} {fp : Nat → Prop} (ht : TAt w tb mb hz m v r rb fp) {k : ByteArray} (hm : MapAt encS w5 mb (mdel m k)) (hf : Fr (fun b => b = mb) w w5) :
    TAt w5 tb mb hz (mdel m k) v r rb fp :=
  ⟨(hf.block tb (Array.getElem?_eq_some_iff.1 ht.blk).1 ht.ne).trans ht.blk, hm, fun p hp => ht.mvs p ((mdel_sub m k).mem hp), ht.row.below fun g hg => hf.block g (ht.row.lt g hg) (ht.sep g hg).2.2, ht.rvs, ht.ne, ht.sep, ht.own, fun b hb => Nat.lt_of_lt_of_le (ht.lt b hb) hf.size⟩

theorem TAt.zeroed {w : World} {tb mb : Nat} {hz : Int} {m : List (ByteArray × Value)} {g off n lc : Nat} {r : List (ByteArray × Int)} {rb : Option Nat} {fp : Nat → Prop} (ht : TAt w tb mb hz m (.slice (some ⟨g, off, none⟩) r.length lc) r rb fp) (hn : n < r.length) :
    TAt ((w.setCell ⟨g, off + n * 2, none⟩ (.string ⟨#[]⟩)).setCell ⟨g, off + n * 2 + 1, none⟩ (.int .i64 0)) tb mb hz m (.slice (some ⟨g, off, none⟩) r.length lc) (r.set n (⟨#[]⟩, 0)) rb fp ∧
    Fr fp w ((w.setCell ⟨g, off + n * 2, none⟩ (.string ⟨#[]⟩)).setCell ⟨g, off + n * 2 + 1, none⟩ (.int .i64 0)) := by
  have hrb : rb = some g := by
    rcases ht.row.2.2 with ⟨e, _, _⟩ | ⟨g', _, _, _, e, hs, _⟩
    · cases e
    · cases e; exact hs
  obtain ⟨s1, s2, s3⟩ := ht.sep g hrb
  have hfr : Fr (fun k => k = g) w ((w.setCell ⟨g, off + n * 2, none⟩ (.string ⟨#[]⟩)).setCell ⟨g, off + n * 2 + 1, none⟩ (.int .i64 0)) := (Fr.setCell (fun k => k = g) w ⟨g, _, none⟩ _ rfl).trans (Fr.setCell (fun k => k = g) _ ⟨g, _, none⟩ _ rfl) (fun _ h => .inl h)
  have r1 := row_cell_set ht.row (n * 2) (by omega) (.string ⟨#[]⟩)
  have r2 := row_cell_set r1 (n * 2 + 1) (by omega) (.int .i64 0)
  rw [putCells_set r n (⟨#[]⟩, 0), ← Nat.add_assoc] at r2
  refine ⟨⟨(hfr.block tb (Array.getElem?_eq_some_iff.1 ht.blk).1 (fun e => s2 e.symm)).trans ht.blk, ht.map.keep (hfr.block mb ht.map.lt (fun e => s3 e.symm)), ht.mvs, by rw [List.length_set]; exact r2, fun e he => ?_, ht.ne, ht.sep, ht.own, fun b hb => Nat.lt_of_lt_of_le (ht.lt b hb) hfr.size⟩, hfr.mono fun b hb => by rw [hb]; exact s1⟩
  rcases List.mem_or_eq_of_mem_set he with h | h
  · exact ht.rvs e h
  · rw [h]; exact ⟨by show (0 : Int) ≤ 0; omega, by show (0 : Int) ≤ 1000000; omega⟩

set_option maxRecDepth 8000 in
set_option maxHeartbeats 4000000 in
theorem forget_any {w : World} {tb mb : Nat} {hz : Int} {m : List (ByteArray × Value)} {v : Value} {r : List (ByteArray × Int)} {rb : Option Nat} {fp : Nat → Prop} (h : TAt w tb mb hz m v r rb fp) (now : Int) (hn : 0 ≤ now ∧ now ≤ 1000000) (K : Nat) (hbig : r.length ≤ K) (hK : K ≤ 1000) (u : FrameMode) :
    CallsD Tryd.prog 73 #[.pointer (some ⟨tb, 0, none⟩), .int .i64 now] u w fun e u' w' => u' = u ∧ Forgot K w tb mb hz now m rb fp e w' := by
  have H := Lib.hid h
  have HNW := Lib.hid hn
  obtain ⟨la, lc, rfl⟩ := h.row.form
  obtain ⟨len, hlen⟩ : ∃ len, len = r.length := ⟨_, rfl⟩
  rw [← hlen] at H hbig
  have HLEN := Lib.hid hlen.symm
  clear h hn hlen
  go_enter_d Tryd.func73, Tryd.ntmps73
  go_wp2_with fail
  go_loopw [4] (fun vn wr => ∃ (n : Nat) (m' : List (ByteArray × Value)) (r' : List (ByteArray × Int)), vn = .int .i64 n ∧ n ≤ len ∧ r'.length = len ∧ TAt wr tb mb hz m' (.slice la len lc) r' rb fp ∧ Kept now hz m m' ∧ Fr fp w wr) (fun vn _ => (len - intOf vn).toNat)
  case atStart => exact ⟨0, m, r, rfl, Nat.zero_le _, HLEN.out, H.out, Kept.refl _ _ _, Fr.refl _ _⟩
  case round =>
    obtain ⟨n, m', r', rfl, hnl, hr', ht, hk, hf⟩ := hrel
    have c0 := block_cell ht.blk 0 _ rfl
    have c1 := block_cell ht.blk 1 _ rfl
    have c2 := block_cell ht.blk 2 _ rfl
    have f2 := block_free ht.blk 2
    have HR' := Lib.hid hr'
    have HT := Lib.hid ht
    have HK := Lib.hid hk
    have HF := Lib.hid hf
    have i1 : (0 : Int) ≤ (n : Int) := by omega
    clear hk hf
    by_cases hlt : n < len
    · obtain ⟨x, hx⟩ : ∃ x, r'[n]? = some x := ⟨_, List.getElem?_eq_getElem (by omega)⟩
      obtain ⟨xk, xt⟩ := x
      have hxb := ht.rvs _ (List.mem_of_getElem? hx)
      obtain ⟨g0, g1⟩ := putCells_get r' n _ hx
      have hrow := ht.row
      rw [hr'] at hrow
      rcases hrow.2.2 with ⟨_, h0, _⟩ | ⟨g, off, cap, cur, hv, hs, hh, _, _, _, htk⟩
      · omega
      injection hv with e1 e2 e3
      subst e1 e3
      have d0 := (row_cell hh htk (n * 2) (by omega)).trans g0
      have d1 := (row_cell hh htk (n * 2 + 1) (by omega)).trans g1
      rw [← Nat.add_assoc] at d1
      dsimp only at d0 d1 hxb
      have i2 : (n : Int) < (len : Int) := by omega
      have HOV := Lib.hid (over_any c0 now xt HNW.out hxb)
      have HROW := Lib.hid hrow
      have HX := Lib.hid hx
      have HSEP := Lib.hid (ht.sep g hs)
      clear ht hrow g0 g1 hh htk hs
      by_cases hov : hz ≤ now - xt
      · have t1 : decide (hz ≤ now - xt) = true := decide_eq_true hov
        go_wp2_with fail
        refine HOV.out.mono ?_
        rintro e wq ⟨rfl, rfl⟩
        obtain ⟨W1, hW1⟩ : ∃ W1, wq.alloc (.cells #[.string xk, .int .i64 xt] 132) = W1 := ⟨_, rfl⟩
        obtain ⟨N, hN⟩ : ∃ N, wq.heap.size = N := ⟨_, rfl⟩
        have hb1 : Below wq.heap.size wq W1 := by rw [← hW1]; exact (Below.refl _ _).alloc (Nat.le_refl _) _
        have n1 : W1.heap[N]? = some (.cells #[.string xk, .int .i64 xt] 132 (0, 0)) := by rw [← hW1, ← hN]; exact heap_alloc_new wq _
        have ht1 := HT.out.below hb1
        have hmb : mb ≠ N := by have := HT.out.map.lt; omega
        have hlk := fun (W : World) (hW : W.heap[mb]? = W1.heap[mb]?) => run_lookup_at (string_law Tryd.underlying9) (ht1.map.keep hW) Tryd.underlying79 (z := .int .i64 0) (by kernel_rfl) xk true
        have HT1 := Lib.hid ht1
        have HN1 := Lib.hid n1
        have HB1 := Lib.hid hb1
        have HHW : Hid (Fr fp w W1) := HF.out.trans (Fr.ofBelow (F := fun _ => False) hb1) (fun _ h => h.elim)
        have HMB := Lib.hid hmb
        have hm1 := ht1.map.lt
        have nd := ht1.map.1
        have hmv := ht1.mvs
        clear c0 c1 f2 ht1 hb1 hmb HOV hr'
        cases hmk : mget m' xk with
        | none =>
          clear nd hmv
          rw [hmk] at hlk
          have HSX : Hid (∀ w', Below W1.heap.size W1 w' → (w'.cell? ⟨tb, 1, none⟩ = some (.map (some mb)) ∧ w'.cell? ⟨N, 0, none⟩ = some (.string xk) ∧ (Instr.lookup 79 (.map (some mb)) (.string xk) true).run Tryd.prog w' = .ok (.tuple #[.int .i64 0, .bool false]) w')) := fun w' hb =>
            ⟨bkeep hb (block_cell HT1.out.blk 1 _ rfl), bkeep hb (block_cell n1 0 _ rfl), hlk w' (hb.block _ hm1)⟩
          clear n1 hlk hm1
          go_wp2_with fail
          clear hW1 hN d0 d1 c2
          refine wp_region_held_drew (S := fun w' => w'.cell? ⟨tb, 1, none⟩ = some (.map (some mb)) ∧ w'.cell? ⟨N, 0, none⟩ = some (.string xk) ∧ (Instr.lookup 79 (.map (some mb)) (.string xk) true).run Tryd.prog w' = .ok (.tuple #[.int .i64 0, .bool false]) w') (by kernel_rfl) (HSX.out _ (Below.refl _ _).drew) (fun hHeld => ?_)
          refine wpAnyH_take (i := 0) (v := ?_) rfl (by kernel_rfl) (by kernel_rfl) (by kernel_rfl) (fun _ _ _ h => h) (Or.inl ⟨by kernel_rfl, ?_⟩) (by assumption) ?_
          rotate_left
          · (intro w hSw; (try dsimp only at hSw); go_simp; (try rw [if_neg (by (try simp only [ByteArray.size_append]); omega)]); (try with_reducible rfl))
          try simp only [Act.put]
          refine wpAnyH_take (i := 1) (v := ?_) rfl (by kernel_rfl) (by kernel_rfl) (by kernel_rfl) (fun _ _ _ h => h) (Or.inl ⟨by kernel_rfl, ?_⟩) (by assumption) ?_
          rotate_left
          · (intro w hSw; (try dsimp only at hSw); go_simp; (try rw [if_neg (by (try simp only [ByteArray.size_append]); omega)]); (try with_reducible rfl))
          try simp only [Act.put]
          refine wpAnyH_take (i := 2) (v := ?_) rfl (by kernel_rfl) (by kernel_rfl) (by kernel_rfl) (fun _ _ _ h => h) (Or.inl ⟨by kernel_rfl, ?_⟩) (by assumption) ?_
          rotate_left
          · (intro w hSw; (try dsimp only at hSw); go_simp; (try rw [if_neg (by (try simp only [ByteArray.size_append]); omega)]); (try with_reducible rfl))
          try simp only [Act.put]
          refine wpAnyH_take (i := 3) (v := ?_) rfl (by kernel_rfl) (by kernel_rfl) (by kernel_rfl) (fun _ _ _ h => h) (Or.inl ⟨by kernel_rfl, ?_⟩) (by assumption) ?_
          rotate_left
          · (intro w hSw; (try dsimp only at hSw); go_simp; (try rw [if_neg (by (try simp only [ByteArray.size_append]); omega)]); (try with_reducible rfl))
          try simp only [Act.put]
          refine wpAnyH_take (i := 4) (v := ?_) rfl (by kernel_rfl) (by kernel_rfl) (by kernel_rfl) (fun _ _ _ h => h) (Or.inl ⟨by kernel_rfl, ?_⟩) (by assumption) ?_
          rotate_left
          · (intro w hSw; (try dsimp only at hSw); go_simp; (try rw [if_neg (by (try simp only [ByteArray.size_append]); omega)]); (try with_reducible rfl))
          try simp only [Act.put]
          refine wpAnyH_take (i := 5) (v := ?_) rfl (by kernel_rfl) (by kernel_rfl) (by kernel_rfl) (fun _ _ _ h => h) (Or.inl ⟨by kernel_rfl, ?_⟩) (by assumption) ?_
          rotate_left
          · (intro w hSw; (try dsimp only at hSw); go_simp; (try rw [if_neg (by (try simp only [ByteArray.size_append]); omega)]); (try with_reducible rfl))
          try simp only [Act.put]
          refine wpAnyH_take (i := 6) (v := ?_) rfl (by kernel_rfl) (by kernel_rfl) (by kernel_rfl) (fun _ _ _ h => h) (Or.inl ⟨by kernel_rfl, ?_⟩) (by assumption) ?_
          rotate_left
          · (intro w hSw; (try dsimp only at hSw); go_simp; (try rw [if_neg (by (try simp only [ByteArray.size_append]); omega)]); (try with_reducible rfl))
          try simp only [Act.put]
          refine wpAnyH_take (i := 7) (v := ?_) rfl (by kernel_rfl) (by kernel_rfl) (by kernel_rfl) (fun _ _ _ h => h) (Or.inl ⟨by kernel_rfl, ?_⟩) (by assumption) ?_
          rotate_left
          · (intro w hSw; (try dsimp only at hSw); go_simp; (try rw [if_neg (by (try simp only [ByteArray.size_append]); omega)]); (try with_reducible rfl))
          try simp only [Act.put]
          refine wpAnyH_take (i := 8) (v := ?_) rfl (by kernel_rfl) (by kernel_rfl) (by kernel_rfl) (fun _ _ _ h => h) (Or.inl ⟨by kernel_rfl, ?_⟩) (by assumption) ?_
          rotate_left
          · (intro w hSw; (try dsimp only at hSw); go_simp; (try rw [if_neg (by (try simp only [ByteArray.size_append]); omega)]); (try with_reducible rfl))
          try simp only [Act.put]
          refine wpAnyH_take (i := 9) (v := ?_) rfl (by kernel_rfl) (by kernel_rfl) (by kernel_rfl) (fun _ _ _ h => h) (Or.inl ⟨by kernel_rfl, ?_⟩) (by assumption) ?_
          rotate_left
          · (intro w hSw; (try dsimp only at hSw); go_simp; (try rw [if_neg (by (try simp only [ByteArray.size_append]); omega)]); (try with_reducible rfl))
          try simp only [Act.put]
          refine wpAnyH_take (i := 10) (v := ?_) rfl (by kernel_rfl) (by kernel_rfl) (by kernel_rfl) (fun _ _ _ h => h) (Or.inl ⟨by kernel_rfl, ?_⟩) (by assumption) ?_
          rotate_left
          · (intro w hSw; (try dsimp only at hSw); go_simp; (try rw [if_neg (by (try simp only [ByteArray.size_append]); omega)]); (try with_reducible rfl))
          try simp only [Act.put]
          refine wpAnyH_take (i := 11) (v := ?_) rfl (by kernel_rfl) (by kernel_rfl) (by kernel_rfl) (fun _ _ _ h => h) (Or.inl ⟨by kernel_rfl, ?_⟩) (by assumption) ?_
          rotate_left
          · (intro w hSw; (try dsimp only at hSw); go_simp; (try rw [if_neg (by (try simp only [ByteArray.size_append]); omega)]); (try with_reducible rfl))
          try simp only [Act.put]
          refine wpAnyH_done (by kernel_rfl) ?_ _
          try simp only [Act.put]
          clear hHeld HSX
          go_simp
          obtain ⟨W2, hW2⟩ : ∃ W2, W1.drew = W2 := ⟨_, rfl⟩
          have hb2 : Below W1.heap.size W1 W2 := by rw [← hW2]; exact (Below.refl _ _).drew
          rw [hW2]
          have HT2 := Lib.hid (HT1.out.below hb2)
          have HF2 : Hid (Fr fp w W2) := HHW.out.trans (Fr.ofBelow (F := fun _ => False) hb2) (fun _ h => h.elim)
          have HN2 := Lib.hid ((hb2.block N (Array.getElem?_eq_some_iff.1 HN1.out).1).trans HN1.out)
          clear hW2 hb2
          have HTW := HT2
          have HKW := HK
          have HFW := HF2
          have htw := HTW.out
          have hroww := htw.row
          rw [HR'.out] at hroww
          rcases hroww.2.2 with ⟨_, h0, _⟩ | ⟨g', off', cap', cur', hv', hs', hh', _, _, _, htk'⟩
          · omega
          cases hv'
          obtain ⟨p0, p1⟩ := putCells_get r' n _ HX.out
          have d0 := (row_cell hh' htk' (n * 2) (by omega)).trans p0
          have d1 := (row_cell hh' htk' (n * 2 + 1) (by omega)).trans p1
          rw [← Nat.add_assoc] at d1
          dsimp only at d0 d1
          have c2 := block_cell htw.blk 2 _ rfl
          have f0 := block_free hh' (off + n * 2)
          have q3 := setCell_block W2 g (off + n * 2) _ _ (0, 0) (.string ⟨#[]⟩) hh'
          obtain ⟨W8, hW8⟩ : ∃ W8, W2.setCell ⟨g, off + n * 2, none⟩ (.string ⟨#[]⟩) = W8 := ⟨_, rfl⟩
          obtain ⟨W9, hW9⟩ : ∃ W9, W8.setCell ⟨g, off + n * 2 + 1, none⟩ (.int .i64 0) = W9 := ⟨_, rfl⟩
          rw [hW8] at q3
          have d3 : W8.cell? ⟨g, off + n * 2 + 1, none⟩ = some (.int .i64 xt) := by
            rw [← hW8]
            rw [cell_of_row W2 g _ _ _ _ hh'] at d1
            refine block_cell (setCell_block W2 g (off + n * 2) _ _ (0, 0) (.string ⟨#[]⟩) hh') _ _ ?_
            rw [Array.getElem?_setIfInBounds_ne (by omega)]; exact d1
          have f3 := block_free q3 (off + n * 2 + 1)
          have hzr : TAt W9 tb mb hz m' (.slice (some ⟨g, off, none⟩) len lc) (r'.set n (⟨#[]⟩, 0)) rb fp ∧ Fr fp W2 W9 := by
            rw [← hW9, ← hW8]
            have h1 := htw
            have e := HR'.out
            subst e
            exact h1.zeroed hlt
          obtain ⟨tz, fz⟩ := hzr
          have HTZ := Lib.hid tz
          have HFZ := Lib.hid (HFW.out.trans fz (fun _ h => .inl h))
          have g1 : IntKind.i64.wrap ((n : Int) + 1) = (n : Int) + 1 := IntWalk.i64_in _ (by omega)
          clear htw hroww hh' hs' htk' p0 p1 q3 tz fz
          go_wp2_with fail
          go_roundw
          case rel => exact ⟨n + 1, _, r'.set n (⟨#[]⟩, 0), by go_num, by omega, by rw [List.length_set]; exact HR'.out, HTZ.out, HKW.out, HFZ.out⟩
          case measure => simp [intOf]; omega
        | some v1 =>
          obtain ⟨t', ht', htb⟩ := hmv _ (mget_some_mem hmk)
          dsimp only at ht'
          subst ht'
          clear hmv
          rw [hmk] at hlk
          have HSX : Hid (∀ w', Below W1.heap.size W1 w' → (w'.cell? ⟨tb, 1, none⟩ = some (.map (some mb)) ∧ w'.cell? ⟨N, 0, none⟩ = some (.string xk) ∧ (Instr.lookup 79 (.map (some mb)) (.string xk) true).run Tryd.prog w' = .ok (.tuple #[.int .i64 t', .bool true]) w')) := fun w' hb =>
            ⟨bkeep hb (block_cell HT1.out.blk 1 _ rfl), bkeep hb (block_cell n1 0 _ rfl), hlk w' (hb.block _ hm1)⟩
          clear n1 hlk hm1
          go_wp2_with fail
          clear hW1 hN d0 d1 c2
          refine wp_region_held_drew (S := fun w' => w'.cell? ⟨tb, 1, none⟩ = some (.map (some mb)) ∧ w'.cell? ⟨N, 0, none⟩ = some (.string xk) ∧ (Instr.lookup 79 (.map (some mb)) (.string xk) true).run Tryd.prog w' = .ok (.tuple #[.int .i64 t', .bool true]) w') (by kernel_rfl) (HSX.out _ (Below.refl _ _).drew) (fun hHeld => ?_)
          refine wpAnyH_take (i := 0) (v := ?_) rfl (by kernel_rfl) (by kernel_rfl) (by kernel_rfl) (fun _ _ _ h => h) (Or.inl ⟨by kernel_rfl, ?_⟩) (by assumption) ?_
          rotate_left
          · (intro w hSw; (try dsimp only at hSw); go_simp; (try rw [if_neg (by (try simp only [ByteArray.size_append]); omega)]); (try with_reducible rfl))
          try simp only [Act.put]
          refine wpAnyH_take (i := 1) (v := ?_) rfl (by kernel_rfl) (by kernel_rfl) (by kernel_rfl) (fun _ _ _ h => h) (Or.inl ⟨by kernel_rfl, ?_⟩) (by assumption) ?_
          rotate_left
          · (intro w hSw; (try dsimp only at hSw); go_simp; (try rw [if_neg (by (try simp only [ByteArray.size_append]); omega)]); (try with_reducible rfl))
          try simp only [Act.put]
          refine wpAnyH_take (i := 2) (v := ?_) rfl (by kernel_rfl) (by kernel_rfl) (by kernel_rfl) (fun _ _ _ h => h) (Or.inl ⟨by kernel_rfl, ?_⟩) (by assumption) ?_
          rotate_left
          · (intro w hSw; (try dsimp only at hSw); go_simp; (try rw [if_neg (by (try simp only [ByteArray.size_append]); omega)]); (try with_reducible rfl))
          try simp only [Act.put]
          refine wpAnyH_take (i := 3) (v := ?_) rfl (by kernel_rfl) (by kernel_rfl) (by kernel_rfl) (fun _ _ _ h => h) (Or.inl ⟨by kernel_rfl, ?_⟩) (by assumption) ?_
          rotate_left
          · (intro w hSw; (try dsimp only at hSw); go_simp; (try rw [if_neg (by (try simp only [ByteArray.size_append]); omega)]); (try with_reducible rfl))
          try simp only [Act.put]
          refine wpAnyH_take (i := 4) (v := ?_) rfl (by kernel_rfl) (by kernel_rfl) (by kernel_rfl) (fun _ _ _ h => h) (Or.inl ⟨by kernel_rfl, ?_⟩) (by assumption) ?_
          rotate_left
          · (intro w hSw; (try dsimp only at hSw); go_simp; (try rw [if_neg (by (try simp only [ByteArray.size_append]); omega)]); (try with_reducible rfl))
          try simp only [Act.put]
          refine wpAnyH_take (i := 5) (v := ?_) rfl (by kernel_rfl) (by kernel_rfl) (by kernel_rfl) (fun _ _ _ h => h) (Or.inl ⟨by kernel_rfl, ?_⟩) (by assumption) ?_
          rotate_left
          · (intro w hSw; (try dsimp only at hSw); go_simp; (try rw [if_neg (by (try simp only [ByteArray.size_append]); omega)]); (try with_reducible rfl))
          try simp only [Act.put]
          refine wpAnyH_take (i := 6) (v := ?_) rfl (by kernel_rfl) (by kernel_rfl) (by kernel_rfl) (fun _ _ _ h => h) (Or.inl ⟨by kernel_rfl, ?_⟩) (by assumption) ?_
          rotate_left
          · (intro w hSw; (try dsimp only at hSw); go_simp; (try rw [if_neg (by (try simp only [ByteArray.size_append]); omega)]); (try with_reducible rfl))
          try simp only [Act.put]
          refine wpAnyH_take (i := 7) (v := ?_) rfl (by kernel_rfl) (by kernel_rfl) (by kernel_rfl) (fun _ _ _ h => h) (Or.inl ⟨by kernel_rfl, ?_⟩) (by assumption) ?_
          rotate_left
          · (intro w hSw; (try dsimp only at hSw); go_simp; (try rw [if_neg (by (try simp only [ByteArray.size_append]); omega)]); (try with_reducible rfl))
          try simp only [Act.put]
          refine wpAnyH_take (i := 8) (v := ?_) rfl (by kernel_rfl) (by kernel_rfl) (by kernel_rfl) (fun _ _ _ h => h) (Or.inl ⟨by kernel_rfl, ?_⟩) (by assumption) ?_
          rotate_left
          · (intro w hSw; (try dsimp only at hSw); go_simp; (try rw [if_neg (by (try simp only [ByteArray.size_append]); omega)]); (try with_reducible rfl))
          try simp only [Act.put]
          refine wpAnyH_take (i := 9) (v := ?_) rfl (by kernel_rfl) (by kernel_rfl) (by kernel_rfl) (fun _ _ _ h => h) (Or.inl ⟨by kernel_rfl, ?_⟩) (by assumption) ?_
          rotate_left
          · (intro w hSw; (try dsimp only at hSw); go_simp; (try rw [if_neg (by (try simp only [ByteArray.size_append]); omega)]); (try with_reducible rfl))
          try simp only [Act.put]
          refine wpAnyH_take (i := 10) (v := ?_) rfl (by kernel_rfl) (by kernel_rfl) (by kernel_rfl) (fun _ _ _ h => h) (Or.inl ⟨by kernel_rfl, ?_⟩) (by assumption) ?_
          rotate_left
          · (intro w hSw; (try dsimp only at hSw); go_simp; (try rw [if_neg (by (try simp only [ByteArray.size_append]); omega)]); (try with_reducible rfl))
          try simp only [Act.put]
          refine wpAnyH_take (i := 11) (v := ?_) rfl (by kernel_rfl) (by kernel_rfl) (by kernel_rfl) (fun _ _ _ h => h) (Or.inl ⟨by kernel_rfl, ?_⟩) (by assumption) ?_
          rotate_left
          · (intro w hSw; (try dsimp only at hSw); go_simp; (try rw [if_neg (by (try simp only [ByteArray.size_append]); omega)]); (try with_reducible rfl))
          try simp only [Act.put]
          refine wpAnyH_done (by kernel_rfl) ?_ _
          try simp only [Act.put]
          clear hHeld HSX
          go_simp
          obtain ⟨W2, hW2⟩ : ∃ W2, W1.drew = W2 := ⟨_, rfl⟩
          have hb2 : Below W1.heap.size W1 W2 := by rw [← hW2]; exact (Below.refl _ _).drew
          rw [hW2]
          have HT2 := Lib.hid (HT1.out.below hb2)
          have HF2 : Hid (Fr fp w W2) := HHW.out.trans (Fr.ofBelow (F := fun _ => False) hb2) (fun _ h => h.elim)
          have HN2 := Lib.hid ((hb2.block N (Array.getElem?_eq_some_iff.1 HN1.out).1).trans HN1.out)
          clear hW2 hb2
          have k1 := block_cell HN2.out 1 _ rfl
          by_cases hte : t' = xt
          · have b1 : (t' == xt) = true := beq_iff_eq.2 hte
            have HKD := Lib.hid (Kept.trans HK.out (Kept.del (now := now) (hz := hz) nd hmk (by omega)))
            have k0 := block_cell HN2.out 0 _ rfl
            have km := block_cell HT2.out.blk 1 _ rfl
            obtain ⟨w5, hdel, hm5, hg5⟩ := run_delete_at (w := W2.drew) (string_law Tryd.underlying9) (HT2.out.map.keep (w' := W2.drew) rfl) Tryd.underlying79 9 0 xk
            have f5 : Fr (fun b => b = mb) W2 w5 := (Fr.drew _ W2).trans (Fr.ofGrown (F := fun b => b = mb) hg5 (fun k hk => by cases hk; rfl)) (fun _ h => .inl h)
            have HTW := Lib.hid (HT2.out.deleted hm5 f5)
            have HFW : Hid (Fr fp w w5) := HF2.out.trans f5 (fun b hb => .inl (by rw [hb]; exact HT2.out.own.2))
            have HKW := HKD
            clear hte hmk hm5 hg5 f5 nd
            go_wp2_with fail
            clear k1
            refine wp_region_split_held 6 (fun w' => w'.cell? ⟨tb, 1, none⟩ = some (.map (some mb)) ∧ w'.cell? ⟨N, 0, none⟩ = some (.string xk)) (by kernel_rfl) (by kernel_rfl) ⟨km, k0⟩ (fun K0 hK0 hHeld => ?_)
            simp only [List.take_succ_cons, List.take_zero]
            refine wpAnyH_take (i := 0) (v := ?_) rfl (by kernel_rfl) (by kernel_rfl) (by kernel_rfl) (fun _ _ _ h => h) (Or.inl ⟨by kernel_rfl, ?_⟩) (by assumption) ?_
            rotate_left
            · (intro w hSw; (try dsimp only at hSw); go_simp; (try rw [if_neg (by (try simp only [ByteArray.size_append]); omega)]); (try with_reducible rfl))
            try simp only [Act.put]
            refine wpAnyH_take (i := 1) (v := ?_) rfl (by kernel_rfl) (by kernel_rfl) (by kernel_rfl) (fun _ _ _ h => h) (Or.inl ⟨by kernel_rfl, ?_⟩) (by assumption) ?_
            rotate_left
            · (intro w hSw; (try dsimp only at hSw); go_simp; (try rw [if_neg (by (try simp only [ByteArray.size_append]); omega)]); (try with_reducible rfl))
            try simp only [Act.put]
            refine wpAnyH_take (i := 2) (v := ?_) rfl (by kernel_rfl) (by kernel_rfl) (by kernel_rfl) (fun _ _ _ h => h) (Or.inl ⟨by kernel_rfl, ?_⟩) (by assumption) ?_
            rotate_left
            · (intro w hSw; (try dsimp only at hSw); go_simp; (try rw [if_neg (by (try simp only [ByteArray.size_append]); omega)]); (try with_reducible rfl))
            try simp only [Act.put]
            refine wpAnyH_take (i := 3) (v := ?_) rfl (by kernel_rfl) (by kernel_rfl) (by kernel_rfl) (fun _ _ _ h => h) (Or.inl ⟨by kernel_rfl, ?_⟩) (by assumption) ?_
            rotate_left
            · (intro w hSw; (try dsimp only at hSw); go_simp; (try rw [if_neg (by (try simp only [ByteArray.size_append]); omega)]); (try with_reducible rfl))
            try simp only [Act.put]
            refine wpAnyH_take (i := 4) (v := ?_) rfl (by kernel_rfl) (by kernel_rfl) (by kernel_rfl) (fun _ _ _ h => h) (Or.inl ⟨by kernel_rfl, ?_⟩) (by assumption) ?_
            rotate_left
            · (intro w hSw; (try dsimp only at hSw); go_simp; (try rw [if_neg (by (try simp only [ByteArray.size_append]); omega)]); (try with_reducible rfl))
            try simp only [Act.put]
            refine wpAnyH_take (i := 5) (v := ?_) rfl (by kernel_rfl) (by kernel_rfl) (by kernel_rfl) (fun _ _ _ h => h) (Or.inl ⟨by kernel_rfl, ?_⟩) (by assumption) ?_
            rotate_left
            · (intro w hSw; (try dsimp only at hSw); go_simp; (try rw [if_neg (by (try simp only [ByteArray.size_append]); omega)]); (try with_reducible rfl))
            try simp only [Act.put]
            refine wpAnyH_done (by kernel_rfl) ?_ _
            simp only [Exit.then]
            refine hK0 _ _ ?_
            clear hK0 K0 hHeld
            try simp only [Act.put]
            clear k0 km
            have htw := HTW.out
            have hroww := htw.row
            rw [HR'.out] at hroww
            rcases hroww.2.2 with ⟨_, h0, _⟩ | ⟨g', off', cap', cur', hv', hs', hh', _, _, _, htk'⟩
            · omega
            cases hv'
            obtain ⟨p0, p1⟩ := putCells_get r' n _ HX.out
            have d0 := (row_cell hh' htk' (n * 2) (by omega)).trans p0
            have d1 := (row_cell hh' htk' (n * 2 + 1) (by omega)).trans p1
            rw [← Nat.add_assoc] at d1
            dsimp only at d0 d1
            have c2 := block_cell htw.blk 2 _ rfl
            have f0 := block_free hh' (off + n * 2)
            have q3 := setCell_block w5 g (off + n * 2) _ _ (0, 0) (.string ⟨#[]⟩) hh'
            obtain ⟨W8, hW8⟩ : ∃ W8, w5.setCell ⟨g, off + n * 2, none⟩ (.string ⟨#[]⟩) = W8 := ⟨_, rfl⟩
            obtain ⟨W9, hW9⟩ : ∃ W9, W8.setCell ⟨g, off + n * 2 + 1, none⟩ (.int .i64 0) = W9 := ⟨_, rfl⟩
            rw [hW8] at q3
            have d3 : W8.cell? ⟨g, off + n * 2 + 1, none⟩ = some (.int .i64 xt) := by
              rw [← hW8]
              rw [cell_of_row w5 g _ _ _ _ hh'] at d1
              refine block_cell (setCell_block w5 g (off + n * 2) _ _ (0, 0) (.string ⟨#[]⟩) hh') _ _ ?_
              rw [Array.getElem?_setIfInBounds_ne (by omega)]; exact d1
            have f3 := block_free q3 (off + n * 2 + 1)
            have hzr : TAt W9 tb mb hz (mdel m' xk) (.slice (some ⟨g, off, none⟩) len lc) (r'.set n (⟨#[]⟩, 0)) rb fp ∧ Fr fp w5 W9 := by
              rw [← hW9, ← hW8]
              have h1 := htw
              have e := HR'.out
              subst e
              exact h1.zeroed hlt
            obtain ⟨tz, fz⟩ := hzr
            have HTZ := Lib.hid tz
            have HFZ := Lib.hid (HFW.out.trans fz (fun _ h => .inl h))
            have g1 : IntKind.i64.wrap ((n : Int) + 1) = (n : Int) + 1 := IntWalk.i64_in _ (by omega)
            clear htw hroww hh' hs' htk' p0 p1 q3 tz fz
            go_wp2_with fail
            go_roundw
            case rel => exact ⟨n + 1, _, r'.set n (⟨#[]⟩, 0), by go_num, by omega, by rw [List.length_set]; exact HR'.out, HTZ.out, HKW.out, HFZ.out⟩
            case measure => simp [intOf]; omega
          · have b1 : (t' == xt) = false := beq_eq_false_iff_ne.2 hte
            have HTW := HT2
            have HKW := HK
            have HFW := HF2
            clear hte hmk nd
            have htw := HTW.out
            have hroww := htw.row
            rw [HR'.out] at hroww
            rcases hroww.2.2 with ⟨_, h0, _⟩ | ⟨g', off', cap', cur', hv', hs', hh', _, _, _, htk'⟩
            · omega
            cases hv'
            obtain ⟨p0, p1⟩ := putCells_get r' n _ HX.out
            have d0 := (row_cell hh' htk' (n * 2) (by omega)).trans p0
            have d1 := (row_cell hh' htk' (n * 2 + 1) (by omega)).trans p1
            rw [← Nat.add_assoc] at d1
            dsimp only at d0 d1
            have c2 := block_cell htw.blk 2 _ rfl
            have f0 := block_free hh' (off + n * 2)
            have q3 := setCell_block W2 g (off + n * 2) _ _ (0, 0) (.string ⟨#[]⟩) hh'
            obtain ⟨W8, hW8⟩ : ∃ W8, W2.setCell ⟨g, off + n * 2, none⟩ (.string ⟨#[]⟩) = W8 := ⟨_, rfl⟩
            obtain ⟨W9, hW9⟩ : ∃ W9, W8.setCell ⟨g, off + n * 2 + 1, none⟩ (.int .i64 0) = W9 := ⟨_, rfl⟩
            rw [hW8] at q3
            have d3 : W8.cell? ⟨g, off + n * 2 + 1, none⟩ = some (.int .i64 xt) := by
              rw [← hW8]
              rw [cell_of_row W2 g _ _ _ _ hh'] at d1
              refine block_cell (setCell_block W2 g (off + n * 2) _ _ (0, 0) (.string ⟨#[]⟩) hh') _ _ ?_
              rw [Array.getElem?_setIfInBounds_ne (by omega)]; exact d1
            have f3 := block_free q3 (off + n * 2 + 1)
            have hzr : TAt W9 tb mb hz m' (.slice (some ⟨g, off, none⟩) len lc) (r'.set n (⟨#[]⟩, 0)) rb fp ∧ Fr fp W2 W9 := by
              rw [← hW9, ← hW8]
              have h1 := htw
              have e := HR'.out
              subst e
              exact h1.zeroed hlt
            obtain ⟨tz, fz⟩ := hzr
            have HTZ := Lib.hid tz
            have HFZ := Lib.hid (HFW.out.trans fz (fun _ h => .inl h))
            have g1 : IntKind.i64.wrap ((n : Int) + 1) = (n : Int) + 1 := IntWalk.i64_in _ (by omega)
            clear htw hroww hh' hs' htk' p0 p1 q3 tz fz
            go_wp2_with fail
            go_roundw
            case rel => exact ⟨n + 1, _, r'.set n (⟨#[]⟩, 0), by go_num, by omega, by rw [List.length_set]; exact HR'.out, HTZ.out, HKW.out, HFZ.out⟩
            case measure => simp [intOf]; omega
      · have t1 : decide (hz ≤ now - xt) = false := decide_eq_false hov
        have hne : ¬ lc = n := by have := RowAt.cap HROW.out; omega
        have HE : Hid (Forgot K w tb mb hz now m rb fp (.returned (.tuple #[])) (wr.setCell ⟨tb, 2, none⟩ (.slice (some ⟨g, off + n * 2, none⟩) (len - n) (lc - n)))) :=
          forgot_end HT.out HK.out HF.out n (by rw [HR'.out]; exact hbig) (by rw [HR'.out]; exact row_tail HROW.out (by omega))
        clear hov hr'
        go_wp2_with fail
        refine HOV.out.mono ?_
        rintro e wq ⟨rfl, rfl⟩
        go_wp2_with fail
        go_end0
        exact HE.out
    · obtain rfl : n = len := by omega
      have HROW := Lib.hid (show RowAt wr 132 2 (.slice la n lc) n (putCells r') rb by have := ht.row; rw [hr'] at this; exact this)
      clear ht hlt hnl
      by_cases hcap : lc = n
      · subst hcap
        have HE : Hid (Forgot K w tb mb hz now m rb fp (.returned (.tuple #[])) (wr.setCell ⟨tb, 2, none⟩ (.slice la 0 0))) := by
          refine forgot_end HT.out HK.out HF.out lc (by rw [HR'.out]; exact hbig) ?_
          rw [HR'.out, Nat.sub_self, List.drop_of_length_le (by rw [putCells_length, HR'.out]; exact Nat.le_refl _)]
          rcases HROW.out.2.2 with ⟨e, _, hs⟩ | ⟨g, off, cap, cur, e, hs, hh, _, _, hsz, _⟩
          · cases e; rw [hs]; exact RowAt.nil _ _ _
          · cases e
            exact ⟨rfl, by omega, .inr ⟨g, off, 0, cur, rfl, hs, hh, Nat.le_refl _, by omega, by omega, by simp⟩⟩
        clear hr'
        go_wp2_with fail
        go_end0
        exact HE.out
      · have hla : ∃ g off, la = some ⟨g, off, none⟩ := by
          rcases HROW.out.2.2 with ⟨e, h0, _⟩ | ⟨g, off, cap, cur, e, hs, _⟩
          · cases e; omega
          · cases e; exact ⟨g, off, rfl⟩
        obtain ⟨g, off, rfl⟩ := hla
        have HE : Hid (Forgot K w tb mb hz now m rb fp (.returned (.tuple #[])) (wr.setCell ⟨tb, 2, none⟩ (.slice (some ⟨g, off + n * 2, none⟩) 0 (lc - n)))) := by
          refine forgot_end HT.out HK.out HF.out n (by rw [HR'.out]; exact hbig) ?_
          have := row_tail HROW.out (k := n) (Nat.le_refl _)
          rw [Nat.sub_self] at this
          rw [HR'.out, Nat.sub_self]; exact this
        clear hr'
        go_wp2_with fail
        go_end0
        exact HE.out

/-! The table of keys: one more. -/

/-- What Put says, and leaves. -/
def TPut (w : World) (tb mb : Nat) (hz now : Int) (key : ByteArray) (m : List (ByteArray × Value)) (K : Nat) (fp : Nat → Prop) (e : Ending) (w' : World) : Prop :=
  ∃ (b : Bool) (m' : List (ByteArray × Value)) (v' : Value) (r' : List (ByteArray × Int)) (rb' : Option Nat) (fp' : Nat → Prop), e = .returned (.bool b) ∧ TAt w' tb mb hz m' v' r' rb' fp' ∧ (∀ b, fp' b → fp b ∨ w.heap.size ≤ b) ∧ Fr fp w w' ∧ r'.length ≤ K + 1 ∧
    (b = true → ∀ t, mget m key = some (.int .i64 t) → hz ≤ now - t) ∧ Kept now hz (if b then mset m key (.int .i64 now) else m) m' ∧ (b = false → ∃ x, mget m key = some x)

theorem TAt.put {w w1 : World} {tb mb : Nat} {hz : Int} {m : List (ByteArray × Value)} {v : Value} {r : List (ByteArray × Int)} {rb : Option Nat} {fp : Nat → Prop} (ht : TAt w tb mb hz m v r rb fp) {key : ByteArray} {now : Int} (hn : 0 ≤ now ∧ now ≤ 1000000) (hm : MapAt encS w1 mb (mset m key (.int .i64 now))) (hf : Fr (fun b => b = mb) w w1) :
    TAt w1 tb mb hz (mset m key (.int .i64 now)) v r rb fp :=
  ⟨(hf.block tb (Array.getElem?_eq_some_iff.1 ht.blk).1 ht.ne).trans ht.blk, hm, fun p hp => by
    rcases mem_mset hp with h | rfl
    · exact ht.mvs p h
    · exact ⟨now, rfl, hn⟩, ht.row.below fun g hg => hf.block g (ht.row.lt g hg) (ht.sep g hg).2.2, ht.rvs, ht.ne, ht.sep, ht.own, fun b hb => Nat.lt_of_lt_of_le (ht.lt b hb) hf.size⟩

theorem TAt.push {w w1 w2 : World} {tb mb : Nat} {hz : Int} {m : List (ByteArray × Value)} {v v2 : Value} {r : List (ByteArray × Int)} {rb sb : Option Nat} {fp : Nat → Prop} (ht : TAt w tb mb hz m v r rb fp) {key : ByteArray} {now : Int} (hn : 0 ≤ now ∧ now ≤ 1000000)
    (hr : RowAt w1 132 2 v2 (r.length + 1) (putCells r ++ putCells [(key, now)]) sb) (hf : Fr (fun k => rb = some k) w w1) (hs : sb = rb ∨ ∃ g, sb = some g ∧ w.heap.size ≤ g) (h2 : w1.setCell ⟨tb, 2, none⟩ v2 = w2) :
    TAt w2 tb mb hz m v2 (r ++ [(key, now)]) sb (fun b => fp b ∨ sb = some b) ∧ Fr fp w w2 := by
  subst h2
  have hnt : ¬ rb = some tb := fun e => (ht.sep tb e).2.1 rfl
  have hnm : ¬ rb = some mb := fun e => (ht.sep mb e).2.2 rfl
  have htb := (Array.getElem?_eq_some_iff.1 ht.blk).1
  have hmb := ht.map.lt
  have q1 := (hf.block tb htb hnt).trans ht.blk
  have hoth : ∀ k, k ≠ tb → (w1.setCell ⟨tb, 2, none⟩ v2).heap[k]? = w1.heap[k]? := fun k hk => Below.heap_setCell w1 ⟨tb, 2, none⟩ v2 k hk
  have hfr : Fr (fun k => k = tb) w1 (w1.setCell ⟨tb, 2, none⟩ v2) := Fr.setCell _ w1 ⟨tb, 2, none⟩ v2 rfl
  have hsb : ∀ g, sb = some g → g ≠ tb ∧ g ≠ mb := fun g hg => by
    rcases hs with e | ⟨g', e, hg'⟩
    · exact (ht.sep g (e.symm.trans hg)).2
    · rw [hg] at e; cases e; exact ⟨by omega, by omega⟩
  refine ⟨⟨setCell_block w1 tb 2 _ _ _ v2 q1, ht.map.keep ((hoth mb (fun e => ht.ne e.symm)).trans (hf.block mb hmb hnm)), ht.mvs, ?_, fun e he => ?_, ht.ne, fun g hg => ⟨.inr hg, hsb g hg⟩, ⟨.inl ht.own.1, .inl ht.own.2⟩, fun b hb => ?_⟩, (hf.mono fun b hb => (ht.sep b hb).1).trans hfr (fun b hb => .inl (by rw [hb]; exact ht.own.1))⟩
  · rw [List.length_append, putCells_append]
    exact hr.below fun g hg => hoth g (hsb g hg).1
  · rcases List.mem_append.1 he with h | h
    · exact ht.rvs e h
    · rw [List.mem_singleton.1 h]; exact hn
  · rcases hb with hb | hb
    · exact Nat.lt_of_lt_of_le (ht.lt b hb) (Nat.le_trans hf.size hfr.size)
    · exact Nat.lt_of_lt_of_le (hr.lt b hb) hfr.size

set_option maxRecDepth 8000 in
set_option maxHeartbeats 4000000 in
theorem tput_any {w : World} {tb mb : Nat} {hz : Int} {m : List (ByteArray × Value)} {v : Value} {r : List (ByteArray × Int)} {rb : Option Nat} {fp : Nat → Prop} (h : TAt w tb mb hz m v r rb fp) (now : Int) (hn : 0 ≤ now ∧ now ≤ 1000000) (key : ByteArray) (hbig : r.length ≤ 900) :
    Calls Tryd.prog 57 #[.pointer (some ⟨tb, 0, none⟩), .int .i64 now, .string key] w (TPut w tb mb hz now key m r.length fp) := by
  have c0 := block_cell h.blk 0 _ rfl
  have c1 := block_cell h.blk 1 _ rfl
  have H := Lib.hid h
  have HNW := Lib.hid hn
  have hlk := run_lookup_at (string_law Tryd.underlying9) h.map Tryd.underlying79 (z := .int .i64 0) (by kernel_rfl) key true
  have hmv := h.mvs
  obtain ⟨la, lc, rfl⟩ := h.row.form
  clear h hn
  cases hmk : mget m key with
  | some v1 =>
    obtain ⟨t', ht', htb⟩ := hmv _ (mget_some_mem hmk)
    dsimp only at ht'
    subst ht'
    rw [hmk] at hlk
    have HOV := Lib.hid (over_any c0 now t' HNW.out htb)
    have HMK := Lib.hid hmk
    by_cases hov : hz ≤ now - t'
    · have t1 : decide (hz ≤ now - t') = true := decide_eq_true hov
      clear hmv hmk htb
      obtain ⟨w1, hup, hm1, hg1⟩ := run_update_at (string_law Tryd.underlying9) H.out.map Tryd.underlying79 key (.int .i64 now)
      have f1 : Fr (fun b => b = mb) w w1 := Fr.ofGrown hg1 (fun k hk => by cases hk; rfl)
      have ht1 := H.out.put HNW.out hm1 f1
      have hbn : Below w1.heap.size w1 (w1.alloc (.cells #[.string key, .int .i64 now] 132)) := (Below.refl _ _).alloc (Nat.le_refl _) _
      have hnn := heap_alloc_new w1 (.cells #[.string key, .int .i64 now] 132)
      obtain ⟨la2, lc2, sb2, w4, happ, hrow4, hg4, hsb4, hsn⟩ := row_append (P := Tryd.prog) (w1.alloc (.cells #[.string key, .int .i64 now] 132)) 80 80 132 _ 2 24 Tryd.underlying80 infoPut rfl (ht1.row.keep hbn) ⟨w1.heap.size, 0, none⟩ 1 1 (putCells [(key, now)]) rfl
        (fun j u hj => by
          rw [Addr.add_lit, Nat.zero_add, cell_of_row _ _ j _ _ _ hnn]
          simpa [putCells] using hj) (putCells_one _) (by omega) (by omega) (by omega)
      have fr4 : Fr (fun k => rb = some k) w1 w4 := (Fr.ofBelow (F := fun k => rb = some k) hbn).trans (Fr.ofGrown (F := fun k => rb = some k) hg4 (fun k hk => hk)) (fun _ h => .inl h)
      obtain ⟨w5, hw5⟩ : ∃ w5, w4.setCell ⟨tb, 2, none⟩ (.slice la2 (r.length + 1) lc2) = w5 := ⟨_, rfl⟩
      have hz1 := f1.size
      obtain ⟨t5, f5⟩ := ht1.push HNW.out hrow4 fr4 (hsb4.imp id (fun e => ⟨_, e, hbn.size⟩)) hw5
      have k1 := block_cell ht1.blk 2 _ rfl
      have km := block_cell ht1.blk 1 _ rfl
      have hnt : ¬ rb = some tb := fun e => (ht1.sep tb e).2.1 rfl
      have q4 := (fr4.block tb (Array.getElem?_eq_some_iff.1 ht1.blk).1 hnt).trans ht1.blk
      have k4 := block_cell q4 2 _ rfl
      have u4 := block_free q4 2
      have k2 := bkeep hbn k1
      have HT5 := Lib.hid t5
      have hff : Fr fp w w5 := (f1.mono (F' := fp) (fun b hb => by rw [hb]; exact H.out.own.2)).trans f5 (fun _ h => .inl h)
      have HFF := Lib.hid hff
      have HFP : Hid (∀ b, (fp b ∨ sb2 = some b) → fp b ∨ w.heap.size ≤ b) := fun b hb => by
        rcases hb with hb | hb
        · exact .inl hb
        · rcases hsb4 with e | e
          · exact .inl (ht1.sep b (e.symm.trans hb)).1
          · rw [hb] at e; cases e; exact .inr (by have := hbn.size; omega)
      clear hm1 hg1 f1 ht1 hbn hnn hrow4 hg4 hsb4 hsn fr4 t5 f5 hff hz1 q4 hnt
      go_enter_defers Tryd.func57, Tryd.ntmps57
      go_wp2_with (at_builtin; refine wpList_run (by rfl) (exec_append _ _ _ _ (by rfl) _ _ (by rfl) (by rfl) happ) ?_)
      refine HOV.out.mono ?_
      rintro e wq ⟨rfl, rfl⟩
      go_wp2_with (at_builtin; refine wpList_run (by rfl) (exec_append _ _ _ _ (by rfl) _ _ (by rfl) (by rfl) happ) ?_)
      refine leaves_cons (f := 73) (args := #[.pointer (some ⟨tb, 0, none⟩), .int .i64 now]) (by simp) (by simp [go_sem]) ?_
      refine (forget_any HT5.out now HNW.out (r.length + 1) (by simp) (by omega) .returning).mono ?_
      rintro e u' w'' ⟨rfl, rfl, m', v', r', hT', hk', hl', hf'⟩
      exact ⟨_, results_tmp rfl _ _ _, true, m', v', r', sb2, _, rfl, hT', HFP.out, HFF.out.trans hf' (fun b hb => HFP.out b hb), hl', (fun _ t h => by rw [HMK.out] at h; cases h; exact hov), hk', fun e => by cases e⟩
    · have t1 : decide (hz ≤ now - t') = false := decide_eq_false hov
      clear hmv hmk htb
      go_enter_defers Tryd.func57, Tryd.ntmps57
      go_wp2_with fail
      refine HOV.out.mono ?_
      rintro e wq ⟨rfl, rfl⟩
      go_wp2_with fail
      refine leaves_cons (f := 73) (args := #[.pointer (some ⟨tb, 0, none⟩), .int .i64 now]) (by simp) (by simp [go_sem]) ?_
      refine (forget_any H.out now HNW.out r.length (Nat.le_refl _) (by omega) .returning).mono ?_
      rintro e u' w'' ⟨rfl, rfl, m', v', r', hT', hk', hl', hf'⟩
      exact ⟨_, results_tmp rfl _ _ _, false, m', v', r', rb, fp, rfl, hT', fun b hb => .inl hb, hf', by omega, by simp, hk', fun _ => ⟨_, HMK.out⟩⟩
  | none =>
    rw [hmk] at hlk
    have HMK := Lib.hid hmk
    clear hmv hmk c0
    obtain ⟨w1, hup, hm1, hg1⟩ := run_update_at (string_law Tryd.underlying9) H.out.map Tryd.underlying79 key (.int .i64 now)
    have f1 : Fr (fun b => b = mb) w w1 := Fr.ofGrown hg1 (fun k hk => by cases hk; rfl)
    have ht1 := H.out.put HNW.out hm1 f1
    have hbn : Below w1.heap.size w1 (w1.alloc (.cells #[.string key, .int .i64 now] 132)) := (Below.refl _ _).alloc (Nat.le_refl _) _
    have hnn := heap_alloc_new w1 (.cells #[.string key, .int .i64 now] 132)
    obtain ⟨la2, lc2, sb2, w4, happ, hrow4, hg4, hsb4, hsn⟩ := row_append (P := Tryd.prog) (w1.alloc (.cells #[.string key, .int .i64 now] 132)) 80 80 132 _ 2 24 Tryd.underlying80 infoPut rfl (ht1.row.keep hbn) ⟨w1.heap.size, 0, none⟩ 1 1 (putCells [(key, now)]) rfl
      (fun j u hj => by
        rw [Addr.add_lit, Nat.zero_add, cell_of_row _ _ j _ _ _ hnn]
        simpa [putCells] using hj) (putCells_one _) (by omega) (by omega) (by omega)
    have fr4 : Fr (fun k => rb = some k) w1 w4 := (Fr.ofBelow (F := fun k => rb = some k) hbn).trans (Fr.ofGrown (F := fun k => rb = some k) hg4 (fun k hk => hk)) (fun _ h => .inl h)
    obtain ⟨w5, hw5⟩ : ∃ w5, w4.setCell ⟨tb, 2, none⟩ (.slice la2 (r.length + 1) lc2) = w5 := ⟨_, rfl⟩
    have hz1 := f1.size
    obtain ⟨t5, f5⟩ := ht1.push HNW.out hrow4 fr4 (hsb4.imp id (fun e => ⟨_, e, hbn.size⟩)) hw5
    have k1 := block_cell ht1.blk 2 _ rfl
    have km := block_cell ht1.blk 1 _ rfl
    have hnt : ¬ rb = some tb := fun e => (ht1.sep tb e).2.1 rfl
    have q4 := (fr4.block tb (Array.getElem?_eq_some_iff.1 ht1.blk).1 hnt).trans ht1.blk
    have k4 := block_cell q4 2 _ rfl
    have u4 := block_free q4 2
    have k2 := bkeep hbn k1
    have HT5 := Lib.hid t5
    have hff : Fr fp w w5 := (f1.mono (F' := fp) (fun b hb => by rw [hb]; exact H.out.own.2)).trans f5 (fun _ h => .inl h)
    have HFF := Lib.hid hff
    have HFP : Hid (∀ b, (fp b ∨ sb2 = some b) → fp b ∨ w.heap.size ≤ b) := fun b hb => by
      rcases hb with hb | hb
      · exact .inl hb
      · rcases hsb4 with e | e
        · exact .inl (ht1.sep b (e.symm.trans hb)).1
        · rw [hb] at e; cases e; exact .inr (by have := hbn.size; omega)
    clear hm1 hg1 f1 ht1 hbn hnn hrow4 hg4 hsb4 hsn fr4 t5 f5 hff hz1 q4 hnt
    go_enter_defers Tryd.func57, Tryd.ntmps57
    go_wp2_with (at_builtin; refine wpList_run (by rfl) (exec_append _ _ _ _ (by rfl) _ _ (by rfl) (by rfl) happ) ?_)
    refine leaves_cons (f := 73) (args := #[.pointer (some ⟨tb, 0, none⟩), .int .i64 now]) (by simp) (by simp [go_sem]) ?_
    refine (forget_any HT5.out now HNW.out (r.length + 1) (by simp) (by omega) .returning).mono ?_
    rintro e u' w'' ⟨rfl, rfl, m', v', r', hT', hk', hl', hf'⟩
    exact ⟨_, results_tmp rfl _ _ _, true, m', v', r', sb2, _, rfl, hT', HFP.out, HFF.out.trans hf' (fun b hb => HFP.out b hb), hl', (fun _ t h => by rw [HMK.out] at h; cases h), hk', fun e => by cases e⟩

/-! The table of keys, by what took effect. -/

/-- The table remembers what took effect: E: keys, and when; now: the last tick. -/
def TW (w : World) (tb : Nat) (hz : Int) (E : List (ByteArray × Int)) (now : Int) (K : Nat) (fp : Nat → Prop) : Prop :=
  ∃ mb m v r rb, TAt w tb mb hz m v r rb fp ∧ r.length ≤ K ∧ (∀ p ∈ E, now - p.2 < hz → ∃ t', mget m p.1 = some (.int .i64 t') ∧ p.2 ≤ t') ∧ ∀ k, (∀ p ∈ E, p.1 ≠ k) → mget m k = none
theorem TW.keep {w w' : World} {tb : Nat} {hz : Int} {E : List (ByteArray × Int)} {now : Int} {K : Nat} {fp : Nat → Prop} (h : TW w tb hz E now K fp) (hb : ∀ b, fp b → w'.heap[b]? = w.heap[b]?) : TW w' tb hz E now K fp := by
  obtain ⟨mb, m, v, r, rb, h1, h2⟩ := h
  exact ⟨mb, m, v, r, rb, h1.keep hb, h2⟩
theorem TW.lt {w : World} {tb : Nat} {hz : Int} {E : List (ByteArray × Int)} {now : Int} {K : Nat} {fp : Nat → Prop} (h : TW w tb hz E now K fp) : ∀ b, fp b → b < w.heap.size := by
  obtain ⟨mb, m, v, r, rb, h1, h2⟩ := h
  exact h1.lt
theorem TW.below {w w' : World} {tb : Nat} {hz : Int} {E : List (ByteArray × Int)} {now : Int} {K : Nat} {fp : Nat → Prop} (h : TW w tb hz E now K fp) (hb : Below w.heap.size w w') : TW w' tb hz E now K fp :=
  h.keep fun b hf => hb.block b (h.lt b hf)
theorem TW.later {w : World} {tb : Nat} {hz : Int} {E : List (ByteArray × Int)} {now now' : Int} {K : Nat} {fp : Nat → Prop} (h : TW w tb hz E now K fp) (hn : now ≤ now') : TW w tb hz E now' K fp := by
  obtain ⟨mb, m, v, r, rb, h1, h2, h3, h4⟩ := h
  exact ⟨mb, m, v, r, rb, h1, h2, fun p hp hlt => h3 p hp (by omega), h4⟩

def PutE (w : World) (tb : Nat) (hz now : Int) (key : ByteArray) (E : List (ByteArray × Int)) (K : Nat) (fp : Nat → Prop) (e : Ending) (w' : World) : Prop :=
  ∃ (b : Bool) (fp' : Nat → Prop), e = .returned (.bool b) ∧ TW w' tb hz (if b then (key, now) :: E else E) now (K + 1) fp' ∧ (∀ b, fp' b → fp b ∨ w.heap.size ≤ b) ∧ Fr fp w w' ∧ (b = true → ∀ p ∈ E, p.1 = key → hz ≤ now - p.2) ∧ (b = false → ∃ p ∈ E, p.1 = key)
theorem tput_e {w : World} {tb : Nat} {hz : Int} {E : List (ByteArray × Int)} {now : Int} {K : Nat} {fp : Nat → Prop} (h : TW w tb hz E now K fp) (hn : 0 ≤ now ∧ now ≤ 1000000) (hK : K ≤ 900) (hz1 : 1 ≤ hz) (key : ByteArray) :
    Calls Tryd.prog 57 #[.pointer (some ⟨tb, 0, none⟩), .int .i64 now, .string key] w (PutE w tb hz now key E K fp) := by
  obtain ⟨mb, m, v, r, rb, h1, h2, h3, h4⟩ := h
  refine (tput_any h1 now hn key (by omega)).mono ?_
  rintro e w' ⟨b, m', v', r', rb', fp', rfl, g2, g3, g4, g5, g6, g7, g8⟩
  have hold : ∀ p ∈ E, b = true → p.1 = key → hz ≤ now - p.2 := fun p hp hb hk => by
    by_cases hlt : now - p.2 < hz
    · obtain ⟨t', ht', hle⟩ := h3 p hp hlt
      rw [hk] at ht'
      have := g6 hb t' ht'; omega
    · omega
  refine ⟨b, fp', rfl, ⟨mb, m', v', r', rb', g2, by omega, fun p hp hlt => ?_, fun k hk => ?_⟩, g3, g4, fun hb p hp hk => hold p hp hb hk, fun hb => ?_⟩
  rotate_left
  · refine g7.2 k ?_
    cases b with
    | false => exact h4 k hk
    | true =>
      show mget (mset m key (.int .i64 now)) k = none
      rw [mget_mset, if_neg (hk (key, now) List.mem_cons_self)]
      exact h4 k fun p hp => hk p (List.mem_cons_of_mem _ hp)
  · obtain ⟨x, hx⟩ := g8 hb
    refine Classical.byContradiction fun hne => ?_
    rw [h4 key fun p hp e => hne ⟨p, hp, e⟩] at hx
    cases hx
  cases b with
  | false =>
    obtain ⟨t', ht', hle⟩ := h3 p hp hlt
    rcases g7.1 p.1 t' ht' with h | h
    · exact ⟨t', h, hle⟩
    · omega
  | true =>
    rcases List.mem_cons.1 hp with rfl | hp
    · rcases g7.1 key now (by show mget (mset m key (.int .i64 now)) key = _; rw [mget_mset, if_pos rfl]) with h | h
      · exact ⟨now, h, Int.le_refl _⟩
      · omega
    · have hne : p.1 ≠ key := fun hk => by have := hold p hp rfl hk; omega
      obtain ⟨t', ht', hle⟩ := h3 p hp hlt
      rcases g7.1 p.1 t' (by show mget (mset m key (.int .i64 now)) p.1 = _; rw [mget_mset, if_neg (fun e => hne e.symm)]; exact ht') with h | h
      · exact ⟨t', h, hle⟩
      · omega

set_option maxHeartbeats 1000000 in
theorem tnew_any (hz : Int) (w : World) :
    Calls Tryd.prog 26 #[.int .i64 hz] w fun e w' => ∃ tb fp, e = .returned (.pointer (some ⟨tb, 0, none⟩)) ∧ TW w' tb hz [] 0 0 fp ∧ (∀ b, fp b → w.heap.size ≤ b) ∧ Below w.heap.size w w' := by
  have hmm := @run_makeMap Tryd.prog
  have hb1 : Below w.heap.size w (w.alloc (.map #[] 0)) := (Below.refl _ _).alloc (Nat.le_refl _) _
  have hm : MapAt encS (w.alloc (.map #[] 0)) w.heap.size ([] : List (ByteArray × Value)) := mapAt_new encS w
  obtain ⟨W1, hW1⟩ : ∃ W1, w.alloc (.map #[] 0) = W1 := ⟨_, rfl⟩
  have z1 : W1.heap.size = w.heap.size + 1 := by rw [← hW1]; simp
  rw [hW1] at hb1 hm
  have hb2 : Below w.heap.size w (W1.alloc (.cells #[.int .i64 hz, .map (some w.heap.size), .slice none 0 0] 82)) := hb1.alloc hb1.size _
  have hTW : TW (W1.alloc (.cells #[.int .i64 hz, .map (some w.heap.size), .slice none 0 0] 82)) W1.heap.size hz [] 0 0 (fun b => b = W1.heap.size ∨ b = w.heap.size) :=
    ⟨w.heap.size, [], .slice none 0 0, [], none, ⟨heap_alloc_new W1 _, hm.keep (heap_alloc_old W1 _ hm.lt), (fun p hp => by cases hp), RowAt.nil _ _ _, (fun e he => by cases he), by omega, (fun g hg => by cases hg), ⟨.inl rfl, .inr rfl⟩, (fun b hb => by rcases hb with rfl | rfl <;> simp <;> omega)⟩, Nat.le_refl _, (fun p hp => by cases hp), fun k _ => rfl⟩
  have HB := Lib.hid hb2
  have HT := Lib.hid hTW
  have HF : Hid (∀ b, (b = W1.heap.size ∨ b = w.heap.size) → w.heap.size ≤ b) := fun b hb => by rcases hb with rfl | rfl <;> omega
  clear hb1 hm hb2 hTW z1
  go_enter Tryd.func26, Tryd.ntmps26
  go_wp2
  go_ret
  exact ⟨_, _, rfl, HT.out, HF.out, HB.out⟩

end Go.Proofs.YtchjlkfkfcmhlaaDoor
