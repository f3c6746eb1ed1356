/- PurseTree: what its loops know. -/
import Derived.Test.YtedoalpijbggiaaDoorP17
import Derived.Test.YtedoalpijbggiaaDoorP13
import Derived.Test.YtedoalpijbggiaaDoorIntsOfB
namespace Go.Proofs.YtedoalpijbggiaaDoor
open Go.RowKit
attribute [local go_sem ↓] Go.wp_at_zero Go.wp_at_succ

theorem infoStr : (Tryd.prog.info? 9).map (fun i => (i.zero, i.size, i.bytes)) = some (some (.string ⟨#[]⟩), 1, 16) := by kernel_rfl
def strCells (C : List ByteArray) : List Value := C.map Value.string
theorem strCells_length (C : List ByteArray) : (strCells C).length = C.length := by simp [strCells]
theorem strCells_one (C : List ByteArray) : ∀ u ∈ strCells C, u.oneCell' = true := by
  intro u hu
  simp only [strCells, List.mem_map] at hu
  obtain ⟨x, _, rfl⟩ := hu
  rfl

/-- A ledger, the holders that call, the numbers, the shares that are dealt: each in its own memory, all new. -/
structure TrInv (w wr : World) (gb lb sb : Nat) (n : Int) (vI : Value) (I : List Int) (vS : Value) (S : List Int) (C : List ByteArray) (v : Value) (L : Led) (f : Int) : Prop where
  led : LedAt wr gb lb sb L
  ok : L.Ok
  sums : L.sums 1 = some (n, f)
  mem : ∃ cb ib hb, RowAt wr 9 1 v C.length (strCells C) cb ∧ IntsAt wr vI I ib ∧ IntsAt wr vS S hb ∧ (∀ g, cb = some g → w.heap.size ≤ g ∧ ¬ LFoot gb lb sb g) ∧ (∀ g, ib = some g → cb ≠ some g ∧ ¬ LF lb sb g) ∧ (∀ g, hb = some g → cb ≠ some g ∧ ¬ LF lb sb g)
  hold : ∀ (i : Nat) c, C[i]? = some c → Holder 1 c ∧ c.size ≤ 4 * i + 1
  len : C.length ≤ 24
  new : w.heap.size ≤ gb ∧ w.heap.size ≤ lb ∧ w.heap.size ≤ sb
  below : Below w.heap.size w wr

section
variable {w wr w' : World} {gb lb sb : Nat} {n : Int} {vI vS : Value} {I S : List Int} {C : List ByteArray} {v : Value} {L : Led} {f : Int}

theorem TrInv.keep (h : TrInv w wr gb lb sb n vI I vS S C v L f) (hb : Below wr.heap.size wr w') : TrInv w w' gb lb sb n vI I vS S C v L f := by
  obtain ⟨h1, h2, h3, ⟨cb, ib, hb', m1, m2, m3, m4, m5, m6⟩, h5, h6, h7, h8⟩ := h
  exact ⟨h1.below hb, h2, h3, ⟨cb, ib, hb', m1.keep hb, m2.keep hb, m3.keep hb, m4, m5, m6⟩, h5, h6, h7, btrans h8 hb⟩

theorem TrInv.act {L' : Led} {f' er : Int} {e : Ending} (h : TrInv w wr gb lb sb n vI I vS S C v L f) (hd : Did wr gb lb sb L' er e w') (hs : L'.sums 1 = some (n, f')) : TrInv w w' gb lb sb n vI I vS S C v L' f' := by
  obtain ⟨h1, h2, h3, ⟨cb, ib, hb', m1, m2, m3, m4, m5, m6⟩, h5, h6, h7, h8⟩ := h
  obtain ⟨_, hc, hok⟩ := hd
  refine ⟨hc.at_, hok, hs, ⟨cb, ib, hb', m1.below fun g hg => hc.fr.block g (m1.lt g hg) (fun e => (m4 g hg).2 (.inr e)), RowAt.below m2 fun g hg => hc.fr.block g (RowAt.lt m2 g hg) (m5 g hg).2, RowAt.below m3 fun g hg => hc.fr.block g (RowAt.lt m3 g hg) (m6 g hg).2, m4, m5, m6⟩, h5, h6, h7, ?_⟩
  exact ((Fr.ofBelow (F := LF lb sb) h8).trans hc.fr (fun b h => .inl h)).toBelow (fun k hk e => by unfold LF at e; omega)

/-- New shares. -/
theorem TrInv.deal {v' : Value} {S' : List Int} {e : Ending} (h : TrInv w wr gb lb sb n vI I vS S C v L f) (hn : NewInts wr S' e w') (he : e = .returned v') : TrInv w w' gb lb sb n vI I v' S' C v L f := by
  obtain ⟨v2, sb2, k1, k2, k3, k4⟩ := hn
  rw [he] at k1
  cases k1
  obtain ⟨h1, h2, h3, ⟨cb, ib, hb', m1, m2, m3, m4, m5, m6⟩, h5, h6, h7, h8⟩ := h
  refine ⟨h1.below k4, h2, h3, ⟨cb, ib, sb2, m1.keep k4, m2.keep k4, k2, m4, m5, fun g hg => ⟨fun e => ?_, fun e => ?_⟩⟩, h5, h6, h7, btrans h8 k4⟩
  · have := m1.lt g e; have := k3 g hg; omega
  · have := k3 g hg
    have := h1.lt g (.inr e)
    omega
theorem TrInv.undeal (h : TrInv w wr gb lb sb n vI I vS S C v L f) : TrInv w wr gb lb sb n vI I (.slice none 0 0) [] C v L f := by
  obtain ⟨h1, h2, h3, ⟨cb, ib, hb', m1, m2, m3, m4, m5, m6⟩, h5, h6, h7, h8⟩ := h
  exact ⟨h1, h2, h3, ⟨cb, ib, none, m1, m2, RowAt.nil _ _ _, m4, m5, fun g hg => by cases hg⟩, h5, h6, h7, h8⟩

theorem ints_cells {W : World} {J : List Int} {la : Option Addr} {k lc j : Nat} {jb : Option Nat} (h : IntsAt W (.slice la k lc) J jb) (hj : j < J.length) {x : Int} (hx : J[j]? = some x) : ∃ g off, la = some ⟨g, off, none⟩ ∧ W.cell? ⟨g, off + j, none⟩ = some (.int .i64 x) := by
  rcases h.2.2 with ⟨_, h0, _⟩ | ⟨g, off, cap, cur, hv, hsg, hh, _, _, _, ht⟩
  · omega
  injection hv with e1 e2 e3
  exact ⟨g, off, e1, by rw [row_cell hh ht j (by omega), intCells_get, hx]; rfl⟩
theorem TrInv.int_cell {la : Option Addr} {k lc j : Nat} (h : TrInv w wr gb lb sb n (.slice la k lc) I vS S C v L f) (hj : j < I.length) {x : Int} (hx : I[j]? = some x) : ∃ g off, la = some ⟨g, off, none⟩ ∧ wr.cell? ⟨g, off + j, none⟩ = some (.int .i64 x) := by
  obtain ⟨cb, ib, hb', m1, m2, m3, m4, m5, m6⟩ := h.mem
  exact ints_cells m2 hj hx
theorem TrInv.share_cell {la : Option Addr} {k lc j : Nat} (h : TrInv w wr gb lb sb n vI I (.slice la k lc) S C v L f) (hj : j < S.length) {x : Int} (hx : S[j]? = some x) : ∃ g off, la = some ⟨g, off, none⟩ ∧ wr.cell? ⟨g, off + j, none⟩ = some (.int .i64 x) := by
  obtain ⟨cb, ib, hb', m1, m2, m3, m4, m5, m6⟩ := h.mem
  exact ints_cells m3 hj hx
theorem TrInv.call_cell {la : Option Addr} {k lc j : Nat} (h : TrInv w wr gb lb sb n vI I vS S C (.slice la k lc) L f) (hj : j < C.length) {x : ByteArray} (hx : C[j]? = some x) : ∃ g off, la = some ⟨g, off, none⟩ ∧ wr.cell? ⟨g, off + j, none⟩ = some (.string x) := by
  obtain ⟨cb, ib, hb', m1, m2, m3, m4, m5, m6⟩ := h.mem
  rcases m1.2.2 with ⟨_, h0, _⟩ | ⟨g, off, cap, cur, hv, hsg, hh, _, _, _, ht⟩
  · omega
  injection hv with e1 e2 e3
  exact ⟨g, off, e1, by rw [row_cell hh ht j (by omega), strCells, List.getElem?_map, hx]; rfl⟩

theorem TrInv.held (h : TrInv w wr gb lb sb n vI I vS S C v L f) : L.sum 1 = (n, f) ∧ 0 ≤ f ∧ f ≤ n := by
  have h1 : L.sum 1 = (n, f) := by unfold Led.sum; rw [h.sums]; rfl
  have h2 := h.ok.held 1
  have h3 := h.ok.spent 1
  rw [h1] at h2 h3
  exact ⟨h1, h3, h2⟩

theorem moveE_zero {s t : ByteArray} {m : Int} (hm : 0 ≤ m) (hs : reqOf s = 1) (ht : reqOf t = 1) (h1 : L.sums 1 = some (n, f)) (hl : m ≤ L.left s) : L.moveE (reqOf s) (reqOf t) s m = 0 := by
  rw [hs, ht]
  unfold Led.moveE Led.hasE
  rw [if_neg (by omega), h1, if_neg (by simp), if_neg (by omega)]

theorem moveS_sums {s t : ByteArray} {m : Int} (hs : reqOf s = 1) (h1 : L.sums 1 = some (n, f)) : (L.moveS s t m).sums 1 = some (n, f) := by
  unfold Led.moveS
  split
  · show (L.more (reqOf s) 0 0).sums 1 = _
    rw [more_sums, hs, if_pos rfl]
    unfold Led.sum
    rw [h1]
    simp
  · exact h1

theorem spendS_sums {s : ByteArray} {m : Int} (hs : reqOf s = 1) (h1 : L.sums 1 = some (n, f)) (hE : L.spendE (reqOf s) s m = 0) : (L.spendS s m).sums 1 = some (n, f + m) := by
  unfold Led.spendS
  rw [if_pos hE]
  show (L.more (reqOf s) 0 m).sums 1 = _
  rw [more_sums, hs, if_pos rfl]
  unfold Led.sum
  rw [h1]
  simp

theorem TrInv.push {la : Option Addr} {k lc : Nat} (h : TrInv w wr gb lb sb n vI I vS S C (.slice la k lc) L f) (hk : k = C.length) (hl : C.length < 24) {s : ByteArray} (hs : Holder 1 s) (hz : s.size ≤ 4 * C.length + 1) :
    ∃ la2 lc2 w2, (Builtin.append_ #[38, 38] 38 #[.slice la k lc, .slice (some ⟨wr.heap.size, 0, none⟩) 1 1]).run Tryd.prog (wr.alloc (.cells #[.string s] 9)) = .ok (.slice la2 (k + 1) lc2) w2 ∧ TrInv w w2 gb lb sb n vI I vS S (C ++ [s]) (.slice la2 (k + 1) lc2) L f := by
  subst hk
  obtain ⟨h1, h2, h3, ⟨cb, ib, hb', m1, m2, m3, m4, m5, m6⟩, h5, h6, h7, h8⟩ := h
  have hb1 : Below wr.heap.size wr (wr.alloc (.cells #[.string s] 9)) := (Below.refl _ _).alloc (Nat.le_refl _) _
  have hn1 := heap_alloc_new wr (.cells #[.string s] 9)
  obtain ⟨la2, lc2, cb2, w2, hrun, hrow2, hg2, hsb2, _⟩ := row_append (P := Tryd.prog) (wr.alloc (.cells #[.string s] 9)) 38 38 9 _ 1 16 Tryd.underlying38 infoStr rfl (m1.keep hb1) ⟨wr.heap.size, 0, none⟩ 1 1 (strCells [s]) rfl
    (fun j u hj => by
      rw [Addr.add_lit, Nat.zero_add, cell_of_row _ _ j _ _ _ hn1]
      match j, hj with
      | 0, hj => cases hj; rfl
      | j + 1, hj => simp [strCells] at hj) (strCells_one _) (by omega) (by omega) (by omega)
  have hsz : (wr.alloc (.cells #[.string s] 9)).heap.size = wr.heap.size + 1 := by simp
  have hkeep : ∀ g, g < wr.heap.size → cb ≠ some g → w2.heap[g]? = wr.heap[g]? := fun g hg hc => (hg2.block g (by omega) (fun e => hc e.symm)).trans (hb1.block g hg)
  refine ⟨la2, lc2, w2, hrun, ⟨h1.keep fun g hg => hkeep g (h1.lt g hg) (fun e => (m4 g e).2 hg), h2, h3, ⟨cb2, ib, hb', ?_, RowAt.below m2 fun g hg => hkeep g (RowAt.lt m2 g hg) (m5 g hg).1, RowAt.below m3 fun g hg => hkeep g (RowAt.lt m3 g hg) (m6 g hg).1, fun g hg => ?_, fun g hg => ⟨fun e => ?_, (m5 g hg).2⟩, fun g hg => ⟨fun e => ?_, (m6 g hg).2⟩⟩, fun i c hc => ?_, by rw [List.length_append]; show C.length + 1 ≤ 24; omega, h7, ?_⟩⟩
  · rw [show strCells (C ++ [s]) = strCells C ++ strCells [s] by simp [strCells], List.length_append]; exact hrow2
  · rcases hsb2 with e | e
    · exact m4 g (e.symm.trans hg)
    · rw [hg] at e; cases e
      have hs8 := h8.size
      refine ⟨by omega, fun hf => ?_⟩
      have := h1.lt _ hf
      omega
  · rcases hsb2 with e' | e'
    · exact (m5 g hg).1 (e'.symm.trans e)
    · rw [e'] at e; cases e
      have := RowAt.lt m2 _ hg; omega
  · rcases hsb2 with e' | e'
    · exact (m6 g hg).1 (e'.symm.trans e)
    · rw [e'] at e; cases e
      have := RowAt.lt m3 _ hg; omega
  · rcases Nat.lt_or_ge i C.length with hi | hi
    · rw [List.getElem?_append_left hi] at hc
      exact h5 i c hc
    · rw [List.getElem?_append_right hi] at hc
      have hi0 : i = C.length := by
        rcases Nat.lt_or_ge (i - C.length) 1 with h | h
        · omega
        · rw [List.getElem?_eq_none (by simpa using h)] at hc; cases hc
      subst hi0
      rw [Nat.sub_self] at hc
      cases hc
      exact ⟨hs, hz⟩
  · have h0 := btrans h8 hb1
    have h9 := h0.size
    have hg : Fr (fun x => cb = some x) (wr.alloc (.cells #[.string s] 9)) w2 := Fr.ofGrown (F := fun x => cb = some x) hg2 (fun x hx => hx)
    refine ((Fr.ofBelow (F := fun x => cb = some x) h0).trans hg (fun _ h => .inl h)).toBelow (fun x hx e' => ?_)
    have := (m4 x e').1
    omega

/-- The names of what a call deals to. -/
theorem own_holder {s : ByteArray} (h : Holder 1 s) (hz : s.size ≤ 1000) (c : UInt8) (hc : c = 58 ∨ c = 47) (t : Nat) (ht : t < 10) : Holder 1 (s ++ ⟨#[c]⟩ ++ digit t) ∧ (s ++ ⟨#[c]⟩ ++ digit t).size = s.size + 2 := by
  have hsz : (s ++ ⟨#[c]⟩ ++ digit t).size = s.size + 2 := by rw [ByteArray.size_append, ByteArray.size_append]; rfl
  refine ⟨?_, hsz⟩
  rw [ByteArray.append_assoc] at hsz ⊢
  refine h.more (fun b hb => ?_) ⟨c, [UInt8.ofNat (48 + t)], by rw [data_append]; rfl, by rcases hc with h | h <;> simp [h]⟩ (by omega)
  rw [data_append] at hb
  have hb' : b ∈ [c, UInt8.ofNat (48 + t)] := hb
  rcases List.mem_cons.1 hb' with rfl | hb'
  · rcases hc with rfl | rfl <;> decide
  · rw [List.mem_singleton.1 hb', UInt8.toNat_ofNat']
    omega

theorem ne_of_size {s t : ByteArray} (h : s.size ≠ t.size) : s ≠ t := fun e => h (by rw [e])
end

end Go.Proofs.YtedoalpijbggiaaDoor
