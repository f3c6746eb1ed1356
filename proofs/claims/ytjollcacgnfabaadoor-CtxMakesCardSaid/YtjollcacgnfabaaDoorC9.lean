/- reader, request. -/
import Derived.Test.YtjollcacgnfabaaDoorC8
namespace Go.Proofs.YtjollcacgnfabaaDoor
open Go.RowKit
attribute [local go_sem ↓] Go.wp_at_zero Go.wp_at_succ

def signV (bn ba : Nat) : Value := .func (.func 70) #[] #[.pointer (some ⟨ba, 0, none⟩), .pointer (some ⟨bn, 0, none⟩)]
def numberV (bn ba : Nat) : Value := .func (.func 71) #[] #[.pointer (some ⟨ba, 0, none⟩), .pointer (some ⟨bn, 0, none⟩)]
def doneV (bn ba : Nat) : Value := .func (.func 72) #[] #[.pointer (some ⟨ba, 0, none⟩), .pointer (some ⟨bn, 0, none⟩)]

theorem box2 (w : World) (v0 v1 : Value) (T0 T1 : TypeId) : ∃ W, (w.alloc (.cells #[v0] T0)).alloc (.cells #[v1] T1) = W ∧ Below w.heap.size w W ∧ W.heap.size = w.heap.size + 2 ∧
    W.cell? ⟨w.heap.size, 0, none⟩ = some v0 ∧ W.heap[w.heap.size + 1]? = some (.cells #[v1] T1 (0, 0)) := by
  have e1 : (w.alloc (.cells #[v0] T0)).heap.size = w.heap.size + 1 := by simp
  have b1 : Below w.heap.size w (w.alloc (.cells #[v0] T0)) := (Below.refl _ _).alloc (Nat.le_refl _) _
  have b2 : Below (w.alloc (.cells #[v0] T0)).heap.size (w.alloc (.cells #[v0] T0)) ((w.alloc (.cells #[v0] T0)).alloc (.cells #[v1] T1)) := (Below.refl _ _).alloc (Nat.le_refl _) _
  have c0 := bkeep b2 (block_cell (heap_alloc_new w (.cells #[v0] T0)) 0 _ rfl)
  have c1 := heap_alloc_new (w.alloc (.cells #[v0] T0)) (.cells #[v1] T1)
  rw [e1] at c1
  exact ⟨_, rfl, btrans b1 b2, by simp, c0, c1⟩

set_option maxRecDepth 8000 in
theorem reader_any (s : ByteArray) (hs : s.size ≤ 1000000) (w : World) :
    Calls Tryd.prog 54 #[.string s] w fun e w' => e = .returned (.tuple #[signV w.heap.size (w.heap.size + 1), numberV w.heap.size (w.heap.size + 1), doneV w.heap.size (w.heap.size + 1)]) ∧ Rd w' w.heap.size (w.heap.size + 1) s 0 ∧ Below w.heap.size w w' := by
  obtain ⟨W, hW, hb, hz, c0, c1⟩ := box2 w (.string s) (.int .i64 0) 9 3
  have HR : Hid (Rd W w.heap.size (w.heap.size + 1) s 0) := ⟨c1, c0, by omega, by omega, hs⟩
  have HB := Lib.hid hb
  have c1' := block_cell c1 0 _ rfl
  have f1 := block_free c1 0
  have HR2 : Hid (Rd (W.setCell ⟨w.heap.size + 1, 0, none⟩ (.int .i64 0)) w.heap.size (w.heap.size + 1) s 0) := HR.out.set (by omega) rfl
  have HB2 : Hid (Below w.heap.size w (W.setCell ⟨w.heap.size + 1, 0, none⟩ (.int .i64 0))) := hb.setCell (p := ⟨w.heap.size + 1, 0, none⟩) (by show _ ≤ _ + 1; omega) _
  unfold signV numberV doneV
  clear hb hz c1
  go_enter Tryd.func54, Tryd.ntmps54
  go_wp2_with fail
  go_ret3
  exact ⟨rfl, HR2.out, HB2.out⟩

/-- The rest of a name behind its request: signs, and numbers. -/
def reqGo (s : ByteArray) : Nat → Nat → Bool
  | 0, _ => true
  | k + 1, a => if a = s.size then true else if sgn s a 126 then reqGo s k (a + 1) else
      if sgn s a 58 && numOk s (a + 1) 1 && sgn s (numTo s (a + 1)) 47 && numOk s (numTo s (a + 1) + 1) 0 then reqGo s k (numTo s (numTo s (a + 1) + 1)) else false
def reqOk (s : ByteArray) : Bool := numOk s 0 1 && reqGo s s.size (numTo s 0)
def reqV (s : ByteArray) : Int := if reqOk s then numV s 0 1 else 0

theorem reqGo_end (s : ByteArray) (k a : Nat) (h : a = s.size) : reqGo s k a = true := by
  cases k with
  | zero => rfl
  | succ k => rw [reqGo, if_pos h]
theorem reqGo_tilde (s : ByteArray) (k a : Nat) (h : a ≠ s.size) (h1 : sgn s a 126 = true) : reqGo s (k + 1) a = reqGo s k (a + 1) := by rw [reqGo, if_neg h, if_pos h1]
theorem reqGo_bad (s : ByteArray) (k a : Nat) (h : a ≠ s.size) (h1 : sgn s a 126 = false) (h2 : (sgn s a 58 && numOk s (a + 1) 1 && sgn s (numTo s (a + 1)) 47 && numOk s (numTo s (a + 1) + 1) 0) = false) : reqGo s (k + 1) a = false := by
  rw [reqGo, if_neg h, if_neg (by rw [h1]; exact Bool.false_ne_true), if_neg (by rw [h2]; exact Bool.false_ne_true)]
theorem reqGo_good (s : ByteArray) (k a : Nat) (h : a ≠ s.size) (h1 : sgn s a 126 = false) (h2 : (sgn s a 58 && numOk s (a + 1) 1 && sgn s (numTo s (a + 1)) 47 && numOk s (numTo s (a + 1) + 1) 0) = true) : reqGo s (k + 1) a = reqGo s k (numTo s (numTo s (a + 1) + 1)) := by
  rw [reqGo, if_neg h, if_neg (by rw [h1]; exact Bool.false_ne_true), if_pos h2]

structure ReqInv (w wr : World) (bn ba : Nat) (s : ByteArray) (p k : Nat) (ok : Bool) : Prop where
  rd : Rd wr bn ba s p
  below : Below w.heap.size w wr
  fuel : s.size - p ≤ k
  val : (ok && reqGo s k p) = reqOk s

def reqMeas (s : ByteArray) (ba : Nat) : Value → World → Nat
  | .bool true, w => s.size - posOf ba w + 1
  | _, _ => 0

theorem sgnTo_true {s : ByteArray} {a : Nat} {b : UInt8} (h : sgn s a b = true) : sgnTo s a b = a + 1 := by unfold sgnTo; rw [h]; rfl
theorem sgnTo_false {s : ByteArray} {a : Nat} {b : UInt8} (h : sgn s a b = false) : sgnTo s a b = a := by unfold sgnTo; rw [h]; rfl

set_option maxRecDepth 8000 in
set_option maxHeartbeats 2000000 in
theorem request_any (s : ByteArray) (hs : s.size ≤ 1000000) (w : World) :
    Calls Tryd.prog 38 #[.string s] w fun e w' => e = .returned (.tuple #[.int .i64 (reqV s), .bool (reqOk s)]) ∧ Below w.heap.size w w' := by
  have HRD := Lib.hid (reader_any s hs w)
  obtain ⟨ba, hba⟩ : ∃ ba, ba = w.heap.size + 1 := ⟨_, rfl⟩
  rw [← hba] at HRD
  have HLT : Hid (w.heap.size ≤ ba) := by show _ ≤ _; omega
  have HVT : Hid (reqOk s = true → reqV s = numV s 0 1) := fun h => by unfold reqV; rw [if_pos h]
  have HVF : Hid (reqOk s = false → reqV s = 0) := fun h => by unfold reqV; rw [if_neg (by rw [h]; exact Bool.false_ne_true)]
  have HOK : Hid ((numOk s 0 1 && reqGo s s.size (numTo s 0)) = reqOk s) := rfl
  obtain ⟨r, hr⟩ : ∃ r, r = reqOk s := ⟨_, rfl⟩
  obtain ⟨rv, hrv⟩ : ∃ rv, rv = reqV s := ⟨_, rfl⟩
  rw [← hr, ← hrv] at HVT HVF
  rw [← hr] at HOK
  rw [← hr, ← hrv]
  have HRR := Lib.hid hr
  clear hba hr hrv
  go_enter Tryd.func38, Tryd.ntmps38
  go_wp2_with fail
  refine HRD.out.mono ?_
  unfold signV numberV doneV
  rintro e w1 ⟨rfl, hr, hb⟩
  have HB := Lib.hid hb
  have HN := Lib.hid (number_any hr 1 (by omega))
  clear hb HRD
  go_wp2_with fail
  refine HN.out.mono ?_
  rintro e w2 ⟨rfl, hn⟩
  have HST : Hid (ReqInv w w2 w.heap.size ba s (numTo s 0) s.size (numOk s 0 1)) := ⟨hn.rd, HB.out.trans (hn.below.mono HLT.out), by omega, HOK.out.trans HRR.out⟩
  obtain ⟨v0, hv0⟩ : ∃ v0, v0 = numV s 0 1 := ⟨_, rfl⟩
  obtain ⟨k0, hk0⟩ : ∃ k0, k0 = numOk s 0 1 := ⟨_, rfl⟩
  rw [← hv0] at HVT
  rw [← hv0, ← hk0]
  rw [← hk0] at HST
  clear hn hr HN HOK hv0 hk0
  go_wp2_with fail
  go_loopw [8] (fun v wr => ∃ (ok : Bool) (p k : Nat), v = .bool ok ∧ ReqInv w wr w.heap.size ba s p k ok) (fun v wr => reqMeas s ba v wr)
  case atStart => exact ⟨_, _, _, rfl, HST.out⟩
  case round =>
    obtain ⟨ok, p, k, rfl, hinv⟩ := hrel
    have HI := Lib.hid hinv
    cases ok with
    | false =>
      have hrf : r = false := HRR.out.trans hinv.val.symm
      have HV := Lib.hid (HVF.out hrf)
      subst hrf
      have HBF := Lib.hid hinv.below
      clear hinv
      go_wp2_with fail
      go_ret2
      rw [HV.out]
      exact ⟨rfl, HBF.out⟩
    | true =>
      have HDN := Lib.hid (done_any hinv.rd)
      have HP := Lib.hid hinv.rd.pos
      by_cases he : p = s.size
      · have hrf : r = true := HRR.out.trans (hinv.val.symm.trans (reqGo_end s k p he))
        have HV := Lib.hid (HVT.out hrf)
        have HBF := Lib.hid hinv.below
        subst hrf
        rw [decide_eq_true he] at HDN
        clear hinv
        go_wp2_with fail
        refine HDN.out.mono ?_
        rintro e w3 ⟨rfl, rfl⟩
        go_wp2_with fail
        go_ret2
        rw [HV.out]
        exact ⟨rfl, HBF.out⟩
      rw [decide_eq_false he] at HDN
      obtain ⟨k, rfl⟩ : ∃ k', k = k' + 1 := by
        have h1 := hinv.fuel
        have h2 := hinv.rd.le
        exact ⟨k - 1, by omega⟩
      have HS1 := Lib.hid (sign_any hinv.rd 126 126 rfl)
      have HVAL := Lib.hid hinv.val
      have HNE : Hid (p ≠ s.size) := he
      have HBW := Lib.hid hinv.below
      have HFU := Lib.hid hinv.fuel
      have HLE := Lib.hid hinv.rd.le
      clear hinv he
      cases h126 : sgn s p 126 with
      | true =>
        rw [sgnTo_true h126, h126] at HS1
        have HVAL2 := Lib.hid ((reqGo_tilde s k p HNE.out h126).symm.trans HVAL.out)
        clear h126
        go_wp2_with fail
        refine HDN.out.mono ?_
        rintro e w3 ⟨rfl, rfl⟩
        go_wp2_with fail
        refine HS1.out.mono ?_
        rintro e w4 ⟨rfl, hr4, hb4⟩
        have HE : Hid (ReqInv w w4 w.heap.size ba s (p + 1) k true) := ⟨hr4, HBW.out.trans (hb4.mono HLT.out), by have := HFU.out; omega, HVAL2.out⟩
        have HP4 := Lib.hid hr4.pos
        clear hr4 hb4
        go_wp2_with fail
        go_roundw
        case rel => exact ⟨true, _, _, rfl, HE.out⟩
        case measure =>
          have e1 := HP.out
          have e2 := HP4.out
          have e3 := HNE.out
          have e4 := HLE.out
          show s.size - posOf ba _ + 1 < s.size - posOf ba _ + 1
          rw [e1, e2]
          omega
      | false =>
        rw [sgnTo_false h126, h126] at HS1
        have HBAD := Lib.hid (reqGo_bad s k p HNE.out h126)
        have HGOOD := Lib.hid (reqGo_good s k p HNE.out h126)
        clear h126
        go_wp2_with fail
        refine HDN.out.mono ?_
        rintro e w3 ⟨rfl, rfl⟩
        go_wp2_with fail
        refine HS1.out.mono ?_
        rintro e w4 ⟨rfl, hr4, hb4⟩
        have HB4 := Lib.hid (HBW.out.trans (hb4.mono HLT.out))
        have HS2 := Lib.hid (sign_any hr4 58 58 rfl)
        clear hr4 hb4
        cases h58 : sgn s p 58 with
        | false =>
          rw [sgnTo_false h58, h58] at HS2
          rw [h58] at HBAD
          have HVAL2 := Lib.hid (HVAL.out.symm.trans (HBAD.out rfl))
          clear h58 HBAD HGOOD
          go_wp2_with fail
          refine HS2.out.mono ?_
          rintro e w5 ⟨rfl, hr5, hb5⟩
          have HE : Hid (ReqInv w w5 w.heap.size ba s p (k + 1) false) := ⟨hr5, HB4.out.trans (hb5.mono HLT.out), HFU.out, HVAL2.out.symm⟩
          clear hr5 hb5
          go_wp2_with fail
          go_roundw
          case rel => exact ⟨false, _, _, rfl, HE.out⟩
          case measure => show 0 < s.size - posOf ba _ + 1; omega
        | true =>
          rw [sgnTo_true h58, h58] at HS2
          rw [h58] at HBAD HGOOD
          clear h58
          go_wp2_with fail
          refine HS2.out.mono ?_
          rintro e w5 ⟨rfl, hr5, hb5⟩
          have HB5 := Lib.hid (HB4.out.trans (hb5.mono HLT.out))
          have HN1 := Lib.hid (number_any hr5 1 (by omega))
          clear hr5 hb5
          cases hn1 : numOk s (p + 1) 1 with
          | false =>
            rw [hn1] at HBAD HN1
            have HVAL2 := Lib.hid (HVAL.out.symm.trans (HBAD.out rfl))
            clear hn1 HBAD HGOOD
            go_wp2_with fail
            refine HN1.out.mono ?_
            rintro e w6 ⟨rfl, hn6⟩
            have HE : Hid (ReqInv w w6 w.heap.size ba s (numTo s (p + 1)) (s.size + 1) false) := ⟨hn6.rd, HB5.out.trans (hn6.below.mono HLT.out), by omega, HVAL2.out.symm⟩
            clear hn6
            go_wp2_with fail
            go_roundw
            case rel => exact ⟨false, _, _, rfl, HE.out⟩
            case measure => show 0 < s.size - posOf ba _ + 1; omega
          | true =>
            rw [hn1] at HBAD HGOOD HN1
            clear hn1
            go_wp2_with fail
            refine HN1.out.mono ?_
            rintro e w6 ⟨rfl, hn6⟩
            have HB6 := Lib.hid (HB5.out.trans (hn6.below.mono HLT.out))
            have HS3 := Lib.hid (sign_any hn6.rd 47 47 rfl)
            have HL6 := Lib.hid hn6.rd.le
            clear hn6
            cases h47 : sgn s (numTo s (p + 1)) 47 with
            | false =>
              rw [sgnTo_false h47, h47] at HS3
              rw [h47] at HBAD
              have HVAL2 := Lib.hid (HVAL.out.symm.trans (HBAD.out rfl))
              clear h47 HBAD HGOOD
              go_wp2_with fail
              refine HS3.out.mono ?_
              rintro e w7 ⟨rfl, hr7, hb7⟩
              have HE : Hid (ReqInv w w7 w.heap.size ba s (numTo s (p + 1)) (s.size + 1) false) := ⟨hr7, HB6.out.trans (hb7.mono HLT.out), by omega, HVAL2.out.symm⟩
              clear hr7 hb7
              go_wp2_with fail
              go_roundw
              case rel => exact ⟨false, _, _, rfl, HE.out⟩
              case measure => show 0 < s.size - posOf ba _ + 1; omega
            | true =>
              rw [sgnTo_true h47, h47] at HS3
              rw [h47] at HBAD HGOOD
              clear h47
              go_wp2_with fail
              refine HS3.out.mono ?_
              rintro e w7 ⟨rfl, hr7, hb7⟩
              have HB7 := Lib.hid (HB6.out.trans (hb7.mono HLT.out))
              have HN2 := Lib.hid (number_any hr7 0 (by omega))
              clear hr7 hb7
              cases hn2 : numOk s (numTo s (p + 1) + 1) 0 with
              | false =>
                rw [hn2] at HBAD HN2
                have HVAL2 := Lib.hid (HVAL.out.symm.trans (HBAD.out rfl))
                clear hn2 HBAD HGOOD
                go_wp2_with fail
                refine HN2.out.mono ?_
                rintro e w8 ⟨rfl, hn8⟩
                have HE : Hid (ReqInv w w8 w.heap.size ba s (numTo s (numTo s (p + 1) + 1)) (s.size + 1) false) := ⟨hn8.rd, HB7.out.trans (hn8.below.mono HLT.out), by omega, HVAL2.out.symm⟩
                clear hn8
                go_wp2_with fail
                go_roundw
                case rel => exact ⟨false, _, _, rfl, HE.out⟩
                case measure => show 0 < s.size - posOf ba _ + 1; omega
              | true =>
                rw [hn2] at HGOOD HN2
                have HVAL2 := Lib.hid ((HGOOD.out rfl).symm.trans HVAL.out)
                clear hn2 HBAD HGOOD
                go_wp2_with fail
                refine HN2.out.mono ?_
                rintro e w8 ⟨rfl, hn8⟩
                have HTO : Hid (p + 2 ≤ numTo s (numTo s (p + 1) + 1)) := by
                  have h1 : p + 1 ≤ numTo s (p + 1) := Nat.le_add_right _ _
                  have h2 : numTo s (p + 1) + 1 ≤ numTo s (numTo s (p + 1) + 1) := Nat.le_add_right _ _
                  show _ ≤ _
                  omega
                have HE : Hid (ReqInv w w8 w.heap.size ba s (numTo s (numTo s (p + 1) + 1)) k true) := ⟨hn8.rd, HB7.out.trans (hn8.below.mono HLT.out), by have := HFU.out; have := HTO.out; omega, HVAL2.out⟩
                have HP8 := Lib.hid hn8.rd.pos
                clear hn8
                go_wp2_with fail
                go_roundw
                case rel => exact ⟨true, _, _, rfl, HE.out⟩
                case measure =>
                  have e1 := HP.out
                  have e2 := HP8.out
                  have e3 := HNE.out
                  have e4 := HLE.out
                  have e5 := HTO.out
                  show s.size - posOf ba _ + 1 < s.size - posOf ba _ + 1
                  rw [e1, e2]
                  omega

end Go.Proofs.YtjollcacgnfabaaDoor
