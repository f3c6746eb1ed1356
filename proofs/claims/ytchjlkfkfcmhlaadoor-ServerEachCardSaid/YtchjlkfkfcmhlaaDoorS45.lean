/- ServerEach: count (printed by wip/tools/gen45s.py). -/
import Derived.Test.YtchjlkfkfcmhlaaDoorS44
import Derived.Test.YtchjlkfkfcmhlaaDoorS37
namespace Go.Proofs.YtchjlkfkfcmhlaaDoor
open Go.RowKit
attribute [local go_sem ↓] Go.wp_at_zero Go.wp_at_succ

/-- Elements of a row, where it lies; they are read in each world behind w. -/
def RowIs (w : World) (la : Option Addr) (all : List (Ou × Int)) : Prop := ∀ (i : Nat) (x : Ou × Int), all[i]? = some x → ∃ g off, la = some ⟨g, off, none⟩ ∧ ∀ W, Below w.heap.size w W → ∀ j u, (seenCells x)[j]? = some u → W.cell? ⟨g, off + i * 13 + j, none⟩ = some u
theorem nO_take (what : Int) (nm : ByteArray) (all : List (Ou × Int)) {k : Nat} {x : Ou × Int} (hx : all[k]? = some x) : nO what nm (all.take (k + 1)) = nO what nm (all.take k) + one (decide (x.1.what = what) && decide (x.1.c.span = nm)) := by
  rw [List.take_add_one, hx]; exact nO_snoc _ _ _ _

set_option maxRecDepth 8000 in
set_option maxHeartbeats 8000000 in
theorem count_any {w : World} {la : Option Addr} {all : List (Ou × Int)} (h : RowIs w la all) (hs : ∀ x ∈ all, Small x.1.c) (n cap : Nat) (hn : n ≤ all.length) (hb : all.length ≤ 100000) (what : Int) (nm : ByteArray) {W : World} (hW : Below w.heap.size w W) :
    Calls Tryd.prog 21 #[.slice la n cap, .int .i64 what, .string nm] W fun e w' => e = .returned (.int .i64 (nO what nm (all.take n))) ∧ Below W.heap.size W w' := by
  have H := Lib.hid h
  have HW := Lib.hid hW
  have HSP : Hid (∀ W (x : Ou × Int), x ∈ all → Calls Tryd.prog 20 #[.agg #[.int .i64 x.1.c.req, .string x.1.c.call, .int .i64 x.1.c.try_, .bool x.1.c.idem, .bool x.1.c.shadow, .int .i64 x.1.c.dl, .int .i64 x.1.c.purse, .int .i64 x.1.c.ver, .int .i64 x.1.c.prio]] W fun e w' => e = .returned (.string x.1.c.span) ∧ Below W.heap.size W w') := fun W x hx =>
    span_any x.1.c (by have := (hs x hx).1; omega) (by have := (hs x hx).2; omega) W
  have hcb : ∀ k, nO what nm (all.take k) ≤ k := fun k => by
    unfold nO
    exact Nat.le_trans (List.countP_le_length) (by rw [List.length_take]; exact Nat.min_le_left _ _)
  have HCB := Lib.hid hcb
  clear h hs hW hcb
  go_enter Tryd.func21, Tryd.ntmps21
  go_wp2_with fail
  go_loopw [7, 8] (fun vn vi wr => ∃ k : Nat, vi = .int .i64 k ∧ k ≤ n ∧ (∃ m : Nat, vn = .int .i64 m ∧ Hid (m = nO what nm (all.take k))) ∧ Below W.heap.size W wr) (fun _ vi _ => (n - intOf vi).toNat)
  case atStart => exact ⟨0, rfl, Nat.zero_le _, ⟨0, rfl, by show 0 = nO what nm (all.take 0); rw [List.take_zero]; rfl⟩, Below.refl _ _⟩
  case round =>
    obtain ⟨k, rfl, hk, ⟨m, rfl, hm⟩, hbl⟩ := hrel
    have HBL := Lib.hid hbl
    have hmk : m ≤ k := by rw [hm.out]; exact HCB.out k
    clear hbl
    by_cases hkn : k < n
    · have t0 : decide ((k : Int) < (n : Int)) = true := decide_eq_true (by omega)
      obtain ⟨x, hx⟩ : ∃ x, all[k]? = some x := ⟨_, List.getElem?_eq_getElem (by omega)⟩
      obtain ⟨g, off, rfl, hq'⟩ := H.out k x hx
      have hq := hq' wr (btrans HW.out HBL.out)
      have q0 : wr.cell? ⟨g, off + k * 13, none⟩ = some (.int .i64 x.1.what) := hq 0 _ rfl
      have q1 : wr.cell? ⟨g, off + k * 13 + 1, none⟩ = some (.int .i64 x.1.c.req) := hq 1 _ rfl
      have q2 : wr.cell? ⟨g, off + k * 13 + 2, none⟩ = some (.string x.1.c.call) := hq 2 _ rfl
      have q3 : wr.cell? ⟨g, off + k * 13 + 3, none⟩ = some (.int .i64 x.1.c.try_) := hq 3 _ rfl
      have q4 : wr.cell? ⟨g, off + k * 13 + 4, none⟩ = some (.bool x.1.c.idem) := hq 4 _ rfl
      have q5 : wr.cell? ⟨g, off + k * 13 + 5, none⟩ = some (.bool x.1.c.shadow) := hq 5 _ rfl
      have q6 : wr.cell? ⟨g, off + k * 13 + 6, none⟩ = some (.int .i64 x.1.c.dl) := hq 6 _ rfl
      have q7 : wr.cell? ⟨g, off + k * 13 + 7, none⟩ = some (.int .i64 x.1.c.purse) := hq 7 _ rfl
      have q8 : wr.cell? ⟨g, off + k * 13 + 8, none⟩ = some (.int .i64 x.1.c.ver) := hq 8 _ rfl
      have q9 : wr.cell? ⟨g, off + k * 13 + 9, none⟩ = some (.int .i64 x.1.c.prio) := hq 9 _ rfl
      have q10 : wr.cell? ⟨g, off + k * 13 + 10, none⟩ = some (.bool x.1.eff) := hq 10 _ rfl
      have q11 : wr.cell? ⟨g, off + k * 13 + 11, none⟩ = some (.int .i64 x.1.e) := hq 11 _ rfl
      have q12 : wr.cell? ⟨g, off + k * 13 + 12, none⟩ = some (.int .i64 x.2) := hq 12 _ rfl
      have i1 : (0 : Int) ≤ (k : Int) := by omega
      have i2 : (k : Int) < (n : Int) := by omega
      have hT := nO_take what nm all hx
      have HXM := Lib.hid (List.mem_of_getElem? hx)
      have HSX := Lib.hid (fun W => HSP.out W x HXM.out)
      clear hx hq hq'
      by_cases hw : x.1.what = what
      · have t1 : (x.1.what == what) = true := beq_iff_eq.2 hw
        rw [decide_eq_true hw, Bool.true_and] at hT
        have HT := Lib.hid hT
        clear hT hw
        go_wp2_with fail
        refine (HSX.out _).mono ?_
        rintro e w2 ⟨rfl, b2⟩
        have HB2 := Lib.hid (btrans HBL.out b2)
        clear b2 q0 q1 q2 q3 q4 q5 q6 q7 q8 q9 q10 q11 q12
        by_cases hsp : x.1.c.span = nm
        · have kq : (x.1.c.span.toList == nm.toList) = true := by rw [hsp]; exact beq_self_eq_true _
          have t2 : (x.1.c.span == nm) = true := by rw [bytes_beq]; exact decide_eq_true hsp
          have HR : Hid (m + 1 = nO what nm (all.take (k + 1))) := by show m + 1 = _; rw [HT.out, hm.out, decide_eq_true hsp]; rfl
          clear hsp
          go_wp2_with fail
          go_roundw
          case rel => exact ⟨k + 1, by go_num, by omega, ⟨m + 1, by go_num, HR⟩, HB2.out⟩
          case measure => simp [intOf]; omega
        · have kq : (x.1.c.span.toList == nm.toList) = false := beq_eq_false_iff_ne.2 fun e => hsp (by rw [ByteArray.toList_eq, ByteArray.toList_eq] at e; exact ByteArray.ext (Array.toList_inj.1 e))
          have t2 : (x.1.c.span == nm) = false := by rw [bytes_beq]; exact decide_eq_false hsp
          have HR : Hid (m = nO what nm (all.take (k + 1))) := by show m = _; rw [HT.out, hm.out, decide_eq_false hsp]; rfl
          clear hsp
          go_wp2_with fail
          go_roundw
          case rel => exact ⟨k + 1, by go_num, by omega, ⟨m, rfl, HR⟩, HB2.out⟩
          case measure => simp [intOf]; omega
      · have t1 : (x.1.what == what) = false := beq_eq_false_iff_ne.2 hw
        have HR : Hid (m = nO what nm (all.take (k + 1))) := by show m = _; rw [hT, hm.out, decide_eq_false hw]; rfl
        clear hw hT
        go_wp2_with fail
        go_roundw
        case rel => exact ⟨k + 1, by go_num, by omega, ⟨m, rfl, HR⟩, HBL.out⟩
        case measure => simp [intOf]; omega
    · have t0 : decide ((k : Int) < (n : Int)) = false := decide_eq_false (by omega)
      obtain rfl : k = n := by omega
      have HR := Lib.hid hm.out
      clear hm
      go_wp2_with fail
      go_ret
      exact ⟨by rw [← HR.out]; rfl, HBL.out⟩

end Go.Proofs.YtchjlkfkfcmhlaaDoor
