/- The walk of CallSpends. -/
import Derived.Test.YtkpjjhiighakfaaGreatDoorB28
namespace Go.Proofs.YtkpjjhiighakfaaGreatDoor
open Go.RowKit
attribute [local go_sem ↓] Go.wp_at_zero Go.wp_at_succ

/-- A call that was begun at tick 0. -/
theorem begun_facts (l p : List Int) (s : ByteArray) : (newS (ctxOf l s) (polOf p)).Ok ∧ (fullBk (polOf p)).Ok ∧ (newS (ctxOf l s) (polOf p)).made < 8 ∧ 1 ≤ (ctxOf l s).dl ∧ 1 ≤ (polOf p).tries := by
  have h1 := polOf_bd p
  have h2 := ctxOf_bd l s
  have hm : 0 ≤ (polOf p).burst * (polOf p).of ∧ (polOf p).burst * (polOf p).of ≤ 1000000 := by
    obtain ⟨a, ha⟩ : ∃ a : Nat, (polOf p).of = a := ⟨(polOf p).of.toNat, by omega⟩
    obtain ⟨b, hb⟩ : ∃ b : Nat, (polOf p).burst = b := ⟨(polOf p).burst.toNat, by omega⟩
    rw [ha, hb]
    have : b * a ≤ 1000 * 1000 := Nat.mul_le_mul (by omega) (by omega)
    exact ⟨by rw [← Int.natCast_mul]; omega, by rw [← Int.natCast_mul]; omega⟩
  exact ⟨newS_ok (by omega) (by omega) (by omega) (by omega) (by omega) (by omega), ⟨by show 1 ≤ (polOf p).of ∧ (polOf p).of ≤ _; omega, by show 0 ≤ (polOf p).per ∧ (polOf p).per ≤ _; omega, ⟨hm.1, Int.le_refl _⟩, hm.2⟩, by show (0 : Int) < 8; omega, by omega, by omega⟩

/-- Behind Begin, at tick 0. -/
def CS.first (S : CS) : CS := actS S (S.beginS 0)
def CS.firstL (S : CS) : List Ac := actL S (S.beginS 0) (S.beginL 0)
theorem first_made {x : Cx} {y : Pol} (h : 1 ≤ x.dl) : (newS x y).first.made = 1 := by
  unfold CS.first actS
  rw [if_neg (by show ¬ false = true; decide), (fin_same _).2.2.1]
  unfold CS.beginS
  rw [if_neg (by show ¬ x.dl ≤ 0; omega)]
  rfl
theorem first_paid {x : Cx} {y : Pol} (hok : (newS x y).Ok) (h : 1 ≤ x.dl) (ht : 1 ≤ y.tries) : Paid x y (newS x y).first (newS x y).firstL :=
  paid_first (begin_spent hok (by show (0 : Int) + 1 ≤ y.tries; omega)).act (first_made h)
theorem firstL_len {x : Cx} {y : Pol} (hok : (newS x y).Ok) : (newS x y).firstL.length ≤ 100 :=
  Nat.le_trans (actL_len (n := 1) (hok.begin (by show (0 : Int) < 8; omega) (by omega)) (by unfold CS.beginL; split <;> simp)) (by omega)

end Go.Proofs.YtkpjjhiighakfaaGreatDoor
