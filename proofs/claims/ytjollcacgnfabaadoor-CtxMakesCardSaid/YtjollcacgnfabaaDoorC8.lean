/- What reads a name: a number. -/
import Derived.Test.YtjollcacgnfabaaDoorC7
namespace Go.Proofs.YtjollcacgnfabaaDoor
open Go.RowKit
attribute [local go_sem ↓] Go.wp_at_zero Go.wp_at_succ

def scanB : List UInt8 → Int → Nat → Int × Nat
  | [], n, k => (n, k)
  | x :: t, n, k => if isDig x then scanB t (if n ≤ 2147483647 then 10 * n + ((x.toNat : Int) - 48) else n) (k + 1) else (n, k)

theorem isDig_iff (x : UInt8) : isDig x = true ↔ 48 ≤ x.toNat ∧ x.toNat ≤ 57 := by
  unfold isDig ten
  rw [List.contains_iff_mem]
  simp only [List.mem_cons, List.not_mem_nil, or_false, ← UInt8.toNat_inj]
  constructor
  · intro h
    simp at h
    omega
  · intro h
    simp
    omega

/-- What is read of a number from a place on: the number, and how many digits it has. -/
def numF (s : ByteArray) (a : Nat) : Int × Nat := scanB (s.data.toList.drop a) 0 0
def numBad (s : ByteArray) (a : Nat) (least : Int) : Prop := (numF s a).2 = 0 ∨ (1 < (numF s a).2 ∧ s.data.toList[a]? = some 48) ∨ (numF s a).1 < least ∨ 2147483647 < (numF s a).1
instance (s : ByteArray) (a : Nat) (least : Int) : Decidable (numBad s a least) := by unfold numBad; infer_instance
def numV (s : ByteArray) (a : Nat) (least : Int) : Int := if numBad s a least then 0 else (numF s a).1
def numOk (s : ByteArray) (a : Nat) (least : Int) : Bool := if numBad s a least then false else true
def numTo (s : ByteArray) (a : Nat) : Nat := a + (numF s a).2

def posOf (ba : Nat) (w : World) : Nat := match w.cell? ⟨ba, 0, none⟩ with
  | some (.int _ n) => n.toNat
  | _ => 0
theorem Rd.pos {w : World} {bn ba : Nat} {s : ByteArray} {a : Nat} (h : Rd w bn ba s a) : posOf ba w = a := by unfold posOf; rw [h.at_]; rfl

theorem drop_byte (s : ByteArray) (p : Nat) (h : p < s.size) : s.data.toList.drop p = s[p] :: s.data.toList.drop (p + 1) := by
  have h2 : p < s.data.toList.length := by rw [← Lib.size_eq s]; exact h
  rw [List.drop_eq_getElem_cons h2]
  rfl

structure NumInv (w wr : World) (bn ba : Nat) (s : ByteArray) (a p : Nat) (n : Int) : Prop where
  rd : Rd wr bn ba s p
  below : Below ba w wr
  le : a ≤ p
  lo : 0 ≤ n
  hi : n ≤ 21474836479
  scan : scanB (s.data.toList.drop p) n (p - a) = numF s a

theorem NumInv.step {w wr : World} {bn ba : Nat} {s : ByteArray} {a p : Nat} {n : Int} (h : NumInv w wr bn ba s a p n) (hp : p < s.size) {x : UInt8} (hx : s[p]'hp = x) (hd : isDig x = true) {n' : Int} (hn : n' = if n ≤ 2147483647 then 10 * n + ((x.toNat : Int) - 48) else n) {y : Int} (hy : y = (p : Int) + 1) :
    NumInv w (wr.setCell ⟨ba, 0, none⟩ (.int .i64 y)) bn ba s a (p + 1) n' := by
  obtain ⟨h1, h2, h3, h4, h5, h6⟩ := h
  have hb := (isDig_iff x).1 hd
  refine ⟨h1.set (by omega) (by omega), h2.setCell (p := ⟨ba, 0, none⟩) (Nat.le_refl _) _, by omega, ?_, ?_, ?_⟩
  · rw [hn]; split <;> omega
  · rw [hn]; split <;> omega
  · rw [drop_byte s p hp, hx, scanB, if_pos hd, ← hn] at h6
    rw [← h6]
    congr 1
    omega

/-- Behind the last digit. -/
structure NumDone (w wr : World) (bn ba : Nat) (s : ByteArray) (a : Nat) : Prop where
  rd : Rd wr bn ba s (numTo s a)
  below : Below ba w wr

theorem NumInv.done {w wr : World} {bn ba : Nat} {s : ByteArray} {a p : Nat} {n : Int} (h : NumInv w wr bn ba s a p n) (hp : ∀ hp : p < s.size, isDig (s[p]'hp) = false) :
    NumDone w wr bn ba s a ∧ n = (numF s a).1 ∧ p = a + (numF s a).2 := by
  have hs : scanB (s.data.toList.drop p) n (p - a) = (n, p - a) := by
    by_cases e : p < s.size
    · rw [drop_byte s p e, scanB, if_neg (by rw [hp e]; exact Bool.false_ne_true)]
    · rw [List.drop_eq_nil_of_le (by rw [← Lib.size_eq s]; omega), scanB]
  rw [h.scan] at hs
  have hle := h.le
  have e2 : p = numTo s a := by unfold numTo; rw [hs]; show p = a + (p - a); omega
  refine ⟨⟨e2 ▸ h.rd, h.below⟩, by rw [hs], e2⟩

theorem num_bad {s : ByteArray} {a p : Nat} {n : Int} {least : Int} (h1 : n = (numF s a).1) (h2 : p = a + (numF s a).2) (h : p = a ∨ (1 < (p : Int) - a ∧ s.data.toList[a]? = some 48) ∨ n < least ∨ 2147483647 < n) :
    numV s a least = 0 ∧ numOk s a least = false := by
  have hb : numBad s a least := by
    unfold numBad
    rw [← h1]
    rcases h with h | ⟨h, e⟩ | h | h
    · exact .inl (by omega)
    · exact .inr (.inl ⟨by omega, e⟩)
    · exact .inr (.inr (.inl h))
    · exact .inr (.inr (.inr h))
  unfold numV numOk
  rw [if_pos hb, if_pos hb]
  exact ⟨rfl, rfl⟩
theorem num_good {s : ByteArray} {a p : Nat} {n : Int} {least : Int} (h1 : n = (numF s a).1) (h2 : p = a + (numF s a).2) (h : ¬ (p = a ∨ (1 < (p : Int) - a ∧ s.data.toList[a]? = some 48) ∨ n < least ∨ 2147483647 < n)) :
    numV s a least = n ∧ numOk s a least = true := by
  have hb : ¬ numBad s a least := by
    intro hb
    unfold numBad at hb
    rw [← h1] at hb
    apply h
    rcases hb with h | ⟨h, e⟩ | h | h
    · exact .inl (by omega)
    · exact .inr (.inl ⟨by omega, e⟩)
    · exact .inr (.inr (.inl h))
    · exact .inr (.inr (.inr h))
  unfold numV numOk
  rw [if_neg hb, if_neg hb, ← h1]
  exact ⟨rfl, rfl⟩

set_option maxRecDepth 8000 in
set_option maxHeartbeats 2000000 in
theorem number_any {w : World} {bn ba : Nat} {s : ByteArray} {a : Nat} (h : Rd w bn ba s a) (least : Int) (hl : 0 ≤ least ∧ least ≤ 1) :
    Calls Tryd.prog 71 #[.int .i64 least, .pointer (some ⟨ba, 0, none⟩), .pointer (some ⟨bn, 0, none⟩)] w fun e w' => e = .returned (.tuple #[.int .i64 (numV s a least), .bool (numOk s a least)]) ∧ NumDone w w' bn ba s a := by
  have c1 := h.at_
  have c2 := h.name
  have f1 := h.free
  have HST : Hid (NumInv w w bn ba s a a 0) := ⟨h, Below.refl _ _, Nat.le_refl _, by omega, by omega, by rw [Nat.sub_self]; exact rfl⟩
  have hle := h.le
  have hsm := h.small
  have HL := Lib.hid hl
  clear h hl
  go_enter Tryd.func71, Tryd.ntmps71
  go_wp2_with fail

  go_loopw [7] (fun v wr => ∃ (p : Nat) (n : Int), v = .int .i64 n ∧ NumInv w wr bn ba s a p n) (fun _ wr => s.size - posOf ba wr)
  case atStart => exact ⟨a, 0, rfl, HST.out⟩
  case round =>
    obtain ⟨p, n, rfl, hinv⟩ := hrel
    have HI := Lib.hid hinv
    have d1 := hinv.rd.at_
    have d2 := hinv.rd.name
    have d3 := hinv.rd.free
    have d4 := hinv.rd.le
    have d5 := hinv.lo
    have d6 := hinv.hi
    have HP : Hid (posOf ba wr = p) := hinv.rd.pos
    clear hinv c1 c2 f1
    by_cases hend : p < s.size
    · have t1 : decide ((p : Int) < (s.size : Int)) = true := decide_eq_true (by omega)
      obtain ⟨x, hx⟩ : ∃ x, s[p]'hend = x := ⟨_, rfl⟩
      have hxb := x.toNat_lt
      by_cases hd : isDig x = true
      · have hdd := (isDig_iff x).1 hd
        have t2 : decide ((48 : Int) ≤ (x.toNat : Int)) = true := decide_eq_true (by omega)
        have t3 : decide ((x.toNat : Int) ≤ (57 : Int)) = true := decide_eq_true (by omega)
        have HP2 : Hid (∀ n' : Int, (n ≤ 2147483647 → n' = 10 * n + ((x.toNat : Int) - 48) % 256) → (¬ n ≤ 2147483647 → n' = n) → NumInv w (wr.setCell ⟨ba, 0, none⟩ (.int .i64 ((p : Int) + 1))) bn ba s a (p + 1) n') := fun n' g1 g2 => HI.out.step hend hx hd (by
          split
          · rename_i g; rw [g1 g]; omega
          · rename_i g; exact g2 g) rfl
        have HP3 := Lib.hid (HP2.out (if n ≤ 2147483647 then 10 * n + ((x.toNat : Int) - 48) % 256 else n) (fun g => if_pos g) (fun g => if_neg g)).rd.pos
        clear hd hdd
        by_cases hn : n ≤ 2147483647
        · have HE := Lib.hid (fun n' g => HP2.out n' (fun _ => g) (fun g2 => absurd hn g2))
          clear HP2
          go_wp2_with fail
          go_roundw
          case rel => exact ⟨p + 1, _, rfl, HE.out _ rfl⟩
          case measure =>
            have e1 := HP.out
            have e2 := HP3.out
            show s.size - posOf ba _ < s.size - posOf ba _
            rw [e1, e2]
            omega
        · have HE := Lib.hid (HP2.out n (fun g => absurd g hn) (fun _ => rfl))
          have t4 : decide (n ≤ 2147483647) = false := decide_eq_false hn
          clear HP2
          go_wp2_with fail
          go_roundw
          case rel => exact ⟨p + 1, _, rfl, HE.out⟩
          case measure =>
            have e1 := HP.out
            have e2 := HP3.out
            show s.size - posOf ba _ < s.size - posOf ba _
            rw [e1, e2]
            omega
      · have hnd : isDig x = false := by cases h : isDig x with
          | true => exact absurd h hd
          | false => rfl
        have HD := Lib.hid (HI.out.done (fun _ => hx ▸ hnd))
        by_cases h48 : (48 : Int) ≤ (x.toNat : Int)
        · have t3 : decide ((x.toNat : Int) ≤ (57 : Int)) = false := decide_eq_false (fun h => hd ((isDig_iff x).2 (by omega)))
          have t3' : ¬ (x.toNat : Int) ≤ 57 := of_decide_eq_false t3
          clear hd hnd
          have HM : Hid (least ≤ 1) := HL.out.2
          have hpa : a ≤ p := HI.out.le
          by_cases b1 : p = a
          · have HR := Lib.hid (num_bad (least := least) HD.out.2.1 HD.out.2.2 (.inl b1))
            have t5 : ((p : Int) == (a : Int)) = true := by rw [b1]; exact beq_self_eq_true _
            have HD1 := Lib.hid HD.out.1
            clear HD b1
            go_wp2_with fail
            go_ret2
            rw [HR.out.1, HR.out.2]
            exact ⟨rfl, HD1.out⟩
          have t5 : ((p : Int) == (a : Int)) = false := beq_eq_false_iff_ne.2 (by omega)
          have hza : a < s.size := by omega
          obtain ⟨y, hy⟩ : ∃ y, s[a]'hza = y := ⟨_, rfl⟩
          have hgy := byte_get s a hza
          rw [hy] at hgy
          have i0 : (0 : Int) ≤ (a : Int) := by omega
          have i1 : (a : Int) < (s.size : Int) := by omega
          have g1 : IntKind.i64.wrap ((p : Int) - a) = (p : Int) - a := IntWalk.i64_in _ (by omega)
          have HG := Lib.hid hgy
          clear hgy
          by_cases b2 : 1 < (p : Int) - a
          · by_cases b3 : y = 48
            · have HR := Lib.hid (num_bad (least := least) HD.out.2.1 HD.out.2.2 (.inr (.inl ⟨b2, b3 ▸ HG.out⟩)))
              have t7 : ((y.toNat : Int) == 48) = true := by rw [b3]; rfl
              have HD1 := Lib.hid HD.out.1
              clear HD b1 b3
              go_wp2_with fail
              go_ret2
              rw [HR.out.1, HR.out.2]
              exact ⟨rfl, HD1.out⟩
            have t7 : ((y.toNat : Int) == 48) = false := beq_eq_false_iff_ne.2 (fun e => b3 (UInt8.toNat_inj.1 (by show y.toNat = 48; omega)))
            have hno : ¬ (1 < (p : Int) - a ∧ s.data.toList[a]? = some 48) := fun e => b3 (Option.some.inj (HG.out.symm.trans e.2))
            have HNO := Lib.hid hno
            clear hno b3
            by_cases b4 : n < least ∨ 2147483647 < n
            · have HR := Lib.hid (num_bad (least := least) HD.out.2.1 HD.out.2.2 (.inr (.inr b4)))
              have HD1 := Lib.hid HD.out.1
              clear HD b1
              rcases b4 with b4 | b4
              · go_wp2_with fail
                go_ret2
                rw [HR.out.1, HR.out.2]
                exact ⟨rfl, HD1.out⟩
              · have b5 : ¬ n < least := by have := HM.out; omega
                go_wp2_with fail
                go_ret2
                rw [HR.out.1, HR.out.2]
                exact ⟨rfl, HD1.out⟩
            · have HR := Lib.hid (num_good (least := least) HD.out.2.1 HD.out.2.2 (fun e => e.elim b1 (fun e => e.elim HNO.out b4)))
              have b5 : ¬ n < least := fun e => b4 (.inl e)
              have b6 : ¬ 2147483647 < n := fun e => b4 (.inr e)
              have HD1 := Lib.hid HD.out.1
              clear HD b1 b4
              go_wp2_with fail
              go_ret2
              rw [HR.out.1, HR.out.2]
              exact ⟨rfl, HD1.out⟩
          have hno : ¬ (1 < (p : Int) - a ∧ s.data.toList[a]? = some 48) := fun e => b2 e.1
          have HNO := Lib.hid hno
          clear hno
          by_cases b4 : n < least ∨ 2147483647 < n
          · have HR := Lib.hid (num_bad (least := least) HD.out.2.1 HD.out.2.2 (.inr (.inr b4)))
            have HD1 := Lib.hid HD.out.1
            clear HD b1
            rcases b4 with b4 | b4
            · go_wp2_with fail
              go_ret2
              rw [HR.out.1, HR.out.2]
              exact ⟨rfl, HD1.out⟩
            · have b5 : ¬ n < least := by have := HM.out; omega
              go_wp2_with fail
              go_ret2
              rw [HR.out.1, HR.out.2]
              exact ⟨rfl, HD1.out⟩
          · have HR := Lib.hid (num_good (least := least) HD.out.2.1 HD.out.2.2 (fun e => e.elim b1 (fun e => e.elim HNO.out b4)))
            have b5 : ¬ n < least := fun e => b4 (.inl e)
            have b6 : ¬ 2147483647 < n := fun e => b4 (.inr e)
            have HD1 := Lib.hid HD.out.1
            clear HD b1 b4
            go_wp2_with fail
            go_ret2
            rw [HR.out.1, HR.out.2]
            exact ⟨rfl, HD1.out⟩
        · have t3 : decide ((48 : Int) ≤ (x.toNat : Int)) = false := decide_eq_false h48
          clear hd hnd
          have HM : Hid (least ≤ 1) := HL.out.2
          have hpa : a ≤ p := HI.out.le
          by_cases b1 : p = a
          · have HR := Lib.hid (num_bad (least := least) HD.out.2.1 HD.out.2.2 (.inl b1))
            have t5 : ((p : Int) == (a : Int)) = true := by rw [b1]; exact beq_self_eq_true _
            have HD1 := Lib.hid HD.out.1
            clear HD b1
            go_wp2_with fail
            go_ret2
            rw [HR.out.1, HR.out.2]
            exact ⟨rfl, HD1.out⟩
          have t5 : ((p : Int) == (a : Int)) = false := beq_eq_false_iff_ne.2 (by omega)
          have hza : a < s.size := by omega
          obtain ⟨y, hy⟩ : ∃ y, s[a]'hza = y := ⟨_, rfl⟩
          have hgy := byte_get s a hza
          rw [hy] at hgy
          have i0 : (0 : Int) ≤ (a : Int) := by omega
          have i1 : (a : Int) < (s.size : Int) := by omega
          have g1 : IntKind.i64.wrap ((p : Int) - a) = (p : Int) - a := IntWalk.i64_in _ (by omega)
          have HG := Lib.hid hgy
          clear hgy
          by_cases b2 : 1 < (p : Int) - a
          · by_cases b3 : y = 48
            · have HR := Lib.hid (num_bad (least := least) HD.out.2.1 HD.out.2.2 (.inr (.inl ⟨b2, b3 ▸ HG.out⟩)))
              have t7 : ((y.toNat : Int) == 48) = true := by rw [b3]; rfl
              have HD1 := Lib.hid HD.out.1
              clear HD b1 b3
              go_wp2_with fail
              go_ret2
              rw [HR.out.1, HR.out.2]
              exact ⟨rfl, HD1.out⟩
            have t7 : ((y.toNat : Int) == 48) = false := beq_eq_false_iff_ne.2 (fun e => b3 (UInt8.toNat_inj.1 (by show y.toNat = 48; omega)))
            have hno : ¬ (1 < (p : Int) - a ∧ s.data.toList[a]? = some 48) := fun e => b3 (Option.some.inj (HG.out.symm.trans e.2))
            have HNO := Lib.hid hno
            clear hno b3
            by_cases b4 : n < least ∨ 2147483647 < n
            · have HR := Lib.hid (num_bad (least := least) HD.out.2.1 HD.out.2.2 (.inr (.inr b4)))
              have HD1 := Lib.hid HD.out.1
              clear HD b1
              rcases b4 with b4 | b4
              · go_wp2_with fail
                go_ret2
                rw [HR.out.1, HR.out.2]
                exact ⟨rfl, HD1.out⟩
              · have b5 : ¬ n < least := by have := HM.out; omega
                go_wp2_with fail
                go_ret2
                rw [HR.out.1, HR.out.2]
                exact ⟨rfl, HD1.out⟩
            · have HR := Lib.hid (num_good (least := least) HD.out.2.1 HD.out.2.2 (fun e => e.elim b1 (fun e => e.elim HNO.out b4)))
              have b5 : ¬ n < least := fun e => b4 (.inl e)
              have b6 : ¬ 2147483647 < n := fun e => b4 (.inr e)
              have HD1 := Lib.hid HD.out.1
              clear HD b1 b4
              go_wp2_with fail
              go_ret2
              rw [HR.out.1, HR.out.2]
              exact ⟨rfl, HD1.out⟩
          have hno : ¬ (1 < (p : Int) - a ∧ s.data.toList[a]? = some 48) := fun e => b2 e.1
          have HNO := Lib.hid hno
          clear hno
          by_cases b4 : n < least ∨ 2147483647 < n
          · have HR := Lib.hid (num_bad (least := least) HD.out.2.1 HD.out.2.2 (.inr (.inr b4)))
            have HD1 := Lib.hid HD.out.1
            clear HD b1
            rcases b4 with b4 | b4
            · go_wp2_with fail
              go_ret2
              rw [HR.out.1, HR.out.2]
              exact ⟨rfl, HD1.out⟩
            · have b5 : ¬ n < least := by have := HM.out; omega
              go_wp2_with fail
              go_ret2
              rw [HR.out.1, HR.out.2]
              exact ⟨rfl, HD1.out⟩
          · have HR := Lib.hid (num_good (least := least) HD.out.2.1 HD.out.2.2 (fun e => e.elim b1 (fun e => e.elim HNO.out b4)))
            have b5 : ¬ n < least := fun e => b4 (.inl e)
            have b6 : ¬ 2147483647 < n := fun e => b4 (.inr e)
            have HD1 := Lib.hid HD.out.1
            clear HD b1 b4
            go_wp2_with fail
            go_ret2
            rw [HR.out.1, HR.out.2]
            exact ⟨rfl, HD1.out⟩
    · have t1 : decide ((p : Int) < (s.size : Int)) = false := decide_eq_false (by omega)
      have HD := Lib.hid (HI.out.done (fun h => absurd h hend))
      have HM : Hid (least ≤ 1) := HL.out.2
      have hpa : a ≤ p := HI.out.le
      by_cases b1 : p = a
      · have HR := Lib.hid (num_bad (least := least) HD.out.2.1 HD.out.2.2 (.inl b1))
        have t5 : ((p : Int) == (a : Int)) = true := by rw [b1]; exact beq_self_eq_true _
        have HD1 := Lib.hid HD.out.1
        clear HD b1
        go_wp2_with fail
        go_ret2
        rw [HR.out.1, HR.out.2]
        exact ⟨rfl, HD1.out⟩
      have t5 : ((p : Int) == (a : Int)) = false := beq_eq_false_iff_ne.2 (by omega)
      have hza : a < s.size := by omega
      obtain ⟨y, hy⟩ : ∃ y, s[a]'hza = y := ⟨_, rfl⟩
      have hgy := byte_get s a hza
      rw [hy] at hgy
      have i0 : (0 : Int) ≤ (a : Int) := by omega
      have i1 : (a : Int) < (s.size : Int) := by omega
      have g1 : IntKind.i64.wrap ((p : Int) - a) = (p : Int) - a := IntWalk.i64_in _ (by omega)
      have HG := Lib.hid hgy
      clear hgy
      by_cases b2 : 1 < (p : Int) - a
      · by_cases b3 : y = 48
        · have HR := Lib.hid (num_bad (least := least) HD.out.2.1 HD.out.2.2 (.inr (.inl ⟨b2, b3 ▸ HG.out⟩)))
          have t7 : ((y.toNat : Int) == 48) = true := by rw [b3]; rfl
          have HD1 := Lib.hid HD.out.1
          clear HD b1 b3
          go_wp2_with fail
          go_ret2
          rw [HR.out.1, HR.out.2]
          exact ⟨rfl, HD1.out⟩
        have t7 : ((y.toNat : Int) == 48) = false := beq_eq_false_iff_ne.2 (fun e => b3 (UInt8.toNat_inj.1 (by show y.toNat = 48; omega)))
        have hno : ¬ (1 < (p : Int) - a ∧ s.data.toList[a]? = some 48) := fun e => b3 (Option.some.inj (HG.out.symm.trans e.2))
        have HNO := Lib.hid hno
        clear hno b3
        by_cases b4 : n < least ∨ 2147483647 < n
        · have HR := Lib.hid (num_bad (least := least) HD.out.2.1 HD.out.2.2 (.inr (.inr b4)))
          have HD1 := Lib.hid HD.out.1
          clear HD b1
          rcases b4 with b4 | b4
          · go_wp2_with fail
            go_ret2
            rw [HR.out.1, HR.out.2]
            exact ⟨rfl, HD1.out⟩
          · have b5 : ¬ n < least := by have := HM.out; omega
            go_wp2_with fail
            go_ret2
            rw [HR.out.1, HR.out.2]
            exact ⟨rfl, HD1.out⟩
        · have HR := Lib.hid (num_good (least := least) HD.out.2.1 HD.out.2.2 (fun e => e.elim b1 (fun e => e.elim HNO.out b4)))
          have b5 : ¬ n < least := fun e => b4 (.inl e)
          have b6 : ¬ 2147483647 < n := fun e => b4 (.inr e)
          have HD1 := Lib.hid HD.out.1
          clear HD b1 b4
          go_wp2_with fail
          go_ret2
          rw [HR.out.1, HR.out.2]
          exact ⟨rfl, HD1.out⟩
      have hno : ¬ (1 < (p : Int) - a ∧ s.data.toList[a]? = some 48) := fun e => b2 e.1
      have HNO := Lib.hid hno
      clear hno
      by_cases b4 : n < least ∨ 2147483647 < n
      · have HR := Lib.hid (num_bad (least := least) HD.out.2.1 HD.out.2.2 (.inr (.inr b4)))
        have HD1 := Lib.hid HD.out.1
        clear HD b1
        rcases b4 with b4 | b4
        · go_wp2_with fail
          go_ret2
          rw [HR.out.1, HR.out.2]
          exact ⟨rfl, HD1.out⟩
        · have b5 : ¬ n < least := by have := HM.out; omega
          go_wp2_with fail
          go_ret2
          rw [HR.out.1, HR.out.2]
          exact ⟨rfl, HD1.out⟩
      · have HR := Lib.hid (num_good (least := least) HD.out.2.1 HD.out.2.2 (fun e => e.elim b1 (fun e => e.elim HNO.out b4)))
        have b5 : ¬ n < least := fun e => b4 (.inl e)
        have b6 : ¬ 2147483647 < n := fun e => b4 (.inr e)
        have HD1 := Lib.hid HD.out.1
        clear HD b1 b4
        go_wp2_with fail
        go_ret2
        rw [HR.out.1, HR.out.2]
        exact ⟨rfl, HD1.out⟩

end Go.Proofs.YtjollcacgnfabaaDoor
