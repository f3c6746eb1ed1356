/- A call's key: plain. -/
import Derived.Test.YtkpjjhiighakfaaGreatDoorN4
import Derived.Lib.SplitLaws
namespace Go.Proofs.YtkpjjhiighakfaaGreatDoor
open Go.RowKit

/-- A name without what is an attempt's number, and its sign. -/
def keyFrom : Bool → List UInt8 → List UInt8
  | _, [] => []
  | k, x :: t => if x = 58 ∨ (k = true ∧ isDig x = true) then keyFrom true t else x :: keyFrom false t
def keyOf (s : ByteArray) : ByteArray := ⟨(keyFrom false s.data.toList).toArray⟩

def cutAll (s : List UInt8) : List (List UInt8) := Lib.splitK [58] 0 (Lib.count s [58]) s
theorem index_cons (b c : UInt8) (l : List UInt8) : Lib.index (b :: l) [c] = if b = c then 0 else if Lib.index l [c] == -1 then -1 else Lib.index l [c] + 1 := by
  by_cases h : b = c
  · subst h; rw [if_pos rfl, Lib.index]; simp [List.isPrefixOf]
  · have hp : ([c] : List UInt8).isPrefixOf (b :: l) = false := by simp [List.isPrefixOf, Ne.symm h]
    rw [if_neg h, Lib.index, hp]; simp
theorem cutAll_nil : cutAll [] = [[]] := by unfold cutAll; rw [Lib.count_one]; rfl
theorem cutAll_sep (l : List UInt8) : cutAll (58 :: l) = [] :: cutAll l := by
  unfold cutAll
  rw [Lib.count_cons_eq, Nat.add_comm, Lib.splitK, index_cons, if_pos rfl]
  rfl
theorem cutAll_cons (b : UInt8) (l : List UInt8) (h : b ≠ 58) : ∃ x xs, cutAll l = x :: xs ∧ cutAll (b :: l) = (b :: x) :: xs := by
  unfold cutAll
  rw [Lib.count_cons_ne b 58 l h]
  cases hk : Lib.count l [58] with
  | zero => exact ⟨l, [], rfl, rfl⟩
  | succ k =>
    rcases Lib.index_spec l [58] with ⟨hm, _⟩ | ⟨j, hj, _⟩
    · have := Lib.count_miss hm; omega
    · have hn : ¬ (Lib.index l [58] == -1) = true := fun e => by have := beq_iff_eq.1 e; omega
      have hn2 : ¬ ((Lib.index l [58] + 1) == -1) = true := fun e => by have := beq_iff_eq.1 e; omega
      rw [Lib.splitK, if_neg hn, Lib.splitK, index_cons, if_neg h, if_neg hn, if_neg hn2, hj]
      refine ⟨_, _, rfl, ?_⟩
      have e1 : ((j : Int) + 1).toNat = j + 1 := by omega
      have e2 : ((j : Int)).toNat = j := by omega
      rw [e1, e2]
      have e3 : j + 1 + ([58] : List UInt8).length = (j + ([58] : List UInt8).length) + 1 := by omega
      rw [e3, List.drop_succ_cons, Nat.add_zero, List.take_succ_cons]
      rfl

def dropL (l : List UInt8) : List UInt8 := l.dropWhile isDig
def joinF (k : Bool) : List (List UInt8) → List UInt8
  | [] => []
  | x :: xs => (if k then dropL x else x) ++ (xs.map dropL).flatten
theorem joinF_cut : ∀ (s : List UInt8) (k : Bool), joinF k (cutAll s) = keyFrom k s
  | [], k => by rw [cutAll_nil]; cases k <;> rfl
  | b :: l, k => by
    by_cases h : b = 58
    · subst h
      rw [cutAll_sep, keyFrom, if_pos (Or.inl rfl), ← joinF_cut l true]
      cases hc : cutAll l with
      | nil => cases k <;> rfl
      | cons x xs => cases k <;> simp [joinF, dropL]
    · obtain ⟨x, xs, e1, e2⟩ := cutAll_cons b l h
      have i1 := joinF_cut l true
      have i0 := joinF_cut l false
      rw [e1] at i1 i0
      rw [e2, keyFrom]
      simp only [joinF, if_true, Bool.false_eq_true, if_false] at i1 i0 ⊢
      cases k with
      | false => rw [if_neg (c := b = 58 ∨ (false = true ∧ isDig b = true)) (fun e => e.elim h (fun e => Bool.false_ne_true e.1))]; simp [i0]
      | true =>
        by_cases hd : isDig b = true
        · rw [if_pos (Or.inr ⟨rfl, hd⟩), ← i1]; simp [dropL, hd]
        · rw [if_neg (c := b = 58 ∨ (true = true ∧ isDig b = true)) (fun e => e.elim h (fun e => hd e.2)), ← i0]; simp [dropL, hd]

/-- What the loop of Key makes of the pieces. -/
def trimmed : List ByteArray → List ByteArray
  | [] => []
  | x :: xs => x :: xs.map dropDig
theorem trimmed_length (l : List ByteArray) : (trimmed l).length = l.length := by cases l <;> simp [trimmed]
theorem trimmed_get (l : List ByteArray) (j : Nat) : (trimmed l)[j]? = (l[j]?).map fun x => if j = 0 then x else dropDig x := by
  cases l with
  | nil => simp [trimmed]
  | cons x xs =>
    cases j with
    | zero => simp [trimmed]
    | succ j => simp [trimmed, List.getElem?_map]

def piecesOf (s : ByteArray) : List ByteArray := Lib.splitB ⟨#[58]⟩ 0 (Lib.countB s ⟨#[58]⟩) s
theorem key_join (s : ByteArray) : ((trimmed (piecesOf s)).map (·.data.toList)).flatten = keyFrom false s.data.toList := by
  have h : (piecesOf s).map (·.data.toList) = cutAll s.data.toList := by
    unfold piecesOf cutAll
    rw [Lib.splitB_data]
  rw [← joinF_cut, ← h]
  cases piecesOf s with
  | nil => rfl
  | cons x xs =>
    simp only [trimmed, List.map_cons, List.flatten_cons, joinF, List.map_map]
    rfl

theorem dropWhile_le (p : UInt8 → Bool) : ∀ l : List UInt8, (l.dropWhile p).length ≤ l.length
  | [] => Nat.le_refl _
  | a :: l => by rw [List.dropWhile_cons]; split; exact Nat.le_trans (dropWhile_le p l) (by simp); simp
theorem keyFrom_le : ∀ (l : List UInt8) (k : Bool), (keyFrom k l).length ≤ l.length
  | [], _ => Nat.le_refl _
  | x :: t, k => by
    rw [keyFrom]
    split
    · have := keyFrom_le t true; simp; omega
    · have := keyFrom_le t false; simp; omega
theorem join_empty : ∀ l : List (List UInt8), Lib.join l [] = l.flatten
  | [] => rfl
  | [x] => by rw [Lib.join_one]; simp
  | x :: y :: r => by
    rw [List.flatten_cons, ← join_empty (y :: r)]
    unfold Lib.join
    rw [List.intercalate, List.intercalate]
    simp [List.intersperse]

end Go.Proofs.YtkpjjhiighakfaaGreatDoor
