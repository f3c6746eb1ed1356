/- What reads a name: its three closures. -/
import Derived.Test.YtjollcacgnfabaaDoorC6
namespace Go.Proofs.YtjollcacgnfabaaDoor
open Go.RowKit
attribute [local go_sem ↓] Go.wp_at_zero Go.wp_at_succ

/-- The reader's boxes. -/
structure Rd (w : World) (bn ba : Nat) (s : ByteArray) (a : Nat) : Prop where
  row : w.heap[ba]? = some (.cells #[.int .i64 a] 3 (0, 0))
  name : w.cell? ⟨bn, 0, none⟩ = some (.string s)
  lt : bn < ba
  le : a ≤ s.size
  small : s.size ≤ 1000000

theorem Rd.at_ {w : World} {bn ba : Nat} {s : ByteArray} {a : Nat} (h : Rd w bn ba s a) : w.cell? ⟨ba, 0, none⟩ = some (.int .i64 a) := block_cell h.row 0 _ rfl
theorem Rd.free {w : World} {bn ba : Nat} {s : ByteArray} {a : Nat} (h : Rd w bn ba s a) : w.frozen? ⟨ba, 0, none⟩ = false := block_free h.row 0
theorem Rd.in_ {w : World} {bn ba : Nat} {s : ByteArray} {a : Nat} (h : Rd w bn ba s a) : ba < w.heap.size := (Array.getElem?_eq_some_iff.1 h.row).1
theorem Rd.below {w w' : World} {bn ba : Nat} {s : ByteArray} {a : Nat} (h : Rd w bn ba s a) (hb : Below w.heap.size w w') : Rd w' bn ba s a :=
  ⟨(hb.block ba h.in_).trans h.row, bkeep hb h.name, h.lt, h.le, h.small⟩
theorem Rd.set {w : World} {bn ba : Nat} {s : ByteArray} {a : Nat} (h : Rd w bn ba s a) {a' : Nat} (hle : a' ≤ s.size) {x : Int} (hx : x = a') : Rd (w.setCell ⟨ba, 0, none⟩ (.int .i64 x)) bn ba s a' := by
  subst hx
  refine ⟨setCell_block w ba 0 _ _ _ _ h.row, ?_, h.lt, hle, h.small⟩
  have := h.lt
  rw [World.cell?_of_block (w := w) (Below.heap_setCell w ⟨ba, 0, none⟩ _ bn (by show bn ≠ ba; omega))]
  exact h.name

/-- Does a text go on with a byte? -/
def sgn (s : ByteArray) (a : Nat) (b : UInt8) : Bool := s.data.toList[a]? == some b
def sgnTo (s : ByteArray) (a : Nat) (b : UInt8) : Nat := if sgn s a b then a + 1 else a

theorem byte_get (s : ByteArray) (a : Nat) (h : a < s.size) : s.data.toList[a]? = some s[a] := by
  have h2 : a < s.data.toList.length := by rw [← Lib.size_eq s]; exact h
  rw [List.getElem?_eq_getElem h2]
  rfl

set_option maxRecDepth 8000 in
theorem done_any {w : World} {bn ba : Nat} {s : ByteArray} {a : Nat} (h : Rd w bn ba s a) :
    Calls Tryd.prog 72 #[.pointer (some ⟨ba, 0, none⟩), .pointer (some ⟨bn, 0, none⟩)] w fun e w' => e = .returned (.bool (decide (a = s.size))) ∧ w' = w := by
  have c1 := h.at_
  have c2 := h.name
  clear h
  have h2 : ((a : Int) == (s.size : Int)) = decide (a = s.size) := by
    by_cases e : a = s.size
    · rw [decide_eq_true e, e]; exact beq_self_eq_true _
    · rw [decide_eq_false e]; exact beq_eq_false_iff_ne.2 (by omega)
  obtain ⟨r, hr⟩ : ∃ r, r = decide (a = s.size) := ⟨_, rfl⟩
  rw [← hr] at h2 ⊢
  clear hr
  go_enter Tryd.func72, Tryd.ntmps72
  go_wp2_with fail
  go_ret
  exact ⟨rfl, rfl⟩

set_option maxRecDepth 8000 in
theorem sign_any {w : World} {bn ba : Nat} {s : ByteArray} {a : Nat} (h : Rd w bn ba s a) (b : UInt8) (bi : Int) (hbi : bi = b.toNat) :
    Calls Tryd.prog 70 #[.int .u8 bi, .pointer (some ⟨ba, 0, none⟩), .pointer (some ⟨bn, 0, none⟩)] w fun e w' => e = .returned (.bool (sgn s a b)) ∧ Rd w' bn ba s (sgnTo s a b) ∧ Below ba w w' := by
  have c1 := h.at_
  have c2 := h.name
  have f1 := h.free
  have H := Lib.hid h
  have hle := h.le
  have hsm := h.small
  clear h
  by_cases he : a = s.size
  · have HE : Hid (sgn s a b = false ∧ sgnTo s a b = a) := by
      have h1 : sgn s a b = false := by
        unfold sgn
        rw [List.getElem?_eq_none (by rw [← Lib.size_eq s]; omega)]
        rfl
      refine ⟨h1, ?_⟩
      unfold sgnTo
      rw [h1]
      rfl
    have t1 : ((a : Int) == (s.size : Int)) = true := by rw [he]; exact beq_self_eq_true _
    clear he hbi
    go_enter Tryd.func70, Tryd.ntmps70
    go_wp2_with fail
    go_ret
    rw [HE.out.1, HE.out.2]
    exact ⟨rfl, H.out, Below.refl _ _⟩
  · have hlt : a < s.size := by omega
    have t1 : ((a : Int) == (s.size : Int)) = false := beq_eq_false_iff_ne.2 (by omega)
    obtain ⟨x, hx⟩ : ∃ x, s[a]'hlt = x := ⟨_, rfl⟩
    have hg := byte_get s a hlt
    rw [hx] at hg
    by_cases hb : x = b
    · have HE : Hid (sgn s a b = true ∧ sgnTo s a b = a + 1) := by
        have h1 : sgn s a b = true := by unfold sgn; rw [hg, hb]; exact beq_self_eq_true _
        exact ⟨h1, by unfold sgnTo; rw [h1]; rfl⟩
      have t2 : ((x.toNat : Int) != bi) = false := by rw [hb, hbi]; simp
      have i0 : (0 : Int) ≤ (a : Int) := by omega
      have i1 : (a : Int) < (s.size : Int) := by omega
      have g1 : IntKind.i64.wrap ((a : Int) + 1) = (a : Int) + 1 := IntWalk.i64_in _ (by omega)
      clear hg hb hbi he
      go_enter Tryd.func70, Tryd.ntmps70
      go_wp2_with fail
      go_ret
      rw [HE.out.1, HE.out.2]
      exact ⟨rfl, H.out.set (by omega) (by omega), (Below.refl _ _).setCell (p := ⟨ba, 0, none⟩) (Nat.le_refl _) _⟩
    · have HE : Hid (sgn s a b = false ∧ sgnTo s a b = a) := by
        have h1 : sgn s a b = false := by unfold sgn; rw [hg]; exact beq_eq_false_iff_ne.2 (fun e => hb (Option.some.inj e))
        exact ⟨h1, by unfold sgnTo; rw [h1]; rfl⟩
      have t2 : ((x.toNat : Int) != bi) = true := by
        rw [hbi]
        exact bne_iff_ne.2 (fun e => hb (UInt8.toNat_inj.1 (by omega)))
      have i0 : (0 : Int) ≤ (a : Int) := by omega
      have i1 : (a : Int) < (s.size : Int) := by omega
      clear hg hb hbi he
      go_enter Tryd.func70, Tryd.ntmps70
      go_wp2_with fail
      go_ret
      rw [HE.out.1, HE.out.2]
      exact ⟨rfl, H.out, Below.refl _ _⟩

end Go.Proofs.YtjollcacgnfabaaDoor
