/- What is made of numbers is right: plain. -/
import Derived.Test.YtjollcacgnfabaaDoorC16
namespace Go.Proofs.YtjollcacgnfabaaDoor
open Go.RowKit

theorem drop_next {l t : List UInt8} {a : Nat} {x : UInt8} (h : l.drop a = x :: t) : l.drop (a + 1) = t ∧ l[a]? = some x ∧ a < l.length := by
  have hlt : a < l.length := by
    by_cases e : a < l.length
    · exact e
    · rw [List.drop_eq_nil_of_le (by omega)] at h; cases h
  rw [List.drop_eq_getElem_cons hlt] at h
  injection h with h1 h2
  exact ⟨h2, by rw [List.getElem?_eq_getElem hlt, h1], hlt⟩
theorem sgn_at {s : ByteArray} {a : Nat} {x : UInt8} {t : List UInt8} (h : s.data.toList.drop a = x :: t) (b : UInt8) : sgn s a b = (x == b) := by
  unfold sgn
  rw [(drop_next h).2.1]
  rfl
theorem scan_one {m : Nat} (hm : m ≤ 9) {rest : List UInt8} (hr : ∀ x t, rest = x :: t → isDig x = false) : scanB (UInt8.ofNat (48 + m) :: rest) 0 0 = ((m : Int), 1) := by
  rw [scanB, if_pos (isDig_digit hm), if_pos (by decide)]
  have e : (10 * 0 + (((UInt8.ofNat (48 + m)).toNat : Int) - 48)) = (m : Int) := by rw [UInt8.toNat_ofNat']; omega
  rw [e]
  cases rest with
  | nil => rfl
  | cons x t => rw [scanB, if_neg (by rw [hr x t rfl]; exact Bool.false_ne_true)]
theorem num_one {s : ByteArray} {a m : Nat} {rest : List UInt8} (hm : m ≤ 9) (hd : s.data.toList.drop a = UInt8.ofNat (48 + m) :: rest) (hr : ∀ x t, rest = x :: t → isDig x = false) {least : Int} (hl : least ≤ m) :
    numOk s a least = true ∧ numV s a least = m ∧ numTo s a = a + 1 := by
  have hf : numF s a = ((m : Int), 1) := by unfold numF; rw [hd]; exact scan_one hm hr
  have hb : ¬ numBad s a least := by
    unfold numBad
    rw [hf]
    intro h
    rcases h with h | ⟨h, _⟩ | h | h
    · cases h
    · exact absurd h (by show ¬ 1 < 1; decide)
    · have : (m : Int) < least := h; omega
    · have : (2147483647 : Int) < m := h; omega
  unfold numOk numV numTo
  rw [if_neg hb, if_neg hb, hf]
  exact ⟨rfl, rfl, rfl⟩

/-- A part of a name. -/
def Seg (g : List UInt8) : Prop := g = [126] ∨ ∃ m i : Nat, 1 ≤ m ∧ m ≤ 9 ∧ i ≤ 9 ∧ g = [58, UInt8.ofNat (48 + m), 47, UInt8.ofNat (48 + i)]
theorem segs_head {segs : List (List UInt8)} (h : ∀ g ∈ segs, Seg g) (x : UInt8) (t : List UInt8) (e : segs.flatten = x :: t) : isDig x = false := by
  cases segs with
  | nil => cases e
  | cons g segs =>
    rcases h g (List.mem_cons_self ..) with rfl | ⟨m, i, _, _, _, rfl⟩
    · injection e with e1 _; rw [← e1]; decide
    · injection e with e1 _; rw [← e1]; decide

theorem reqGo_segs (s : ByteArray) : ∀ (segs : List (List UInt8)), (∀ g ∈ segs, Seg g) → ∀ (a k : Nat), s.data.toList.drop a = segs.flatten → a ≤ s.size → s.size - a ≤ k → reqGo s k a = true
  | [], _, a, k, hd, ha, _ => reqGo_end s k a (by
      have : s.data.toList.length ≤ a := List.drop_eq_nil_iff.1 hd
      rw [← Lib.size_eq s] at this
      omega)
  | g :: segs, h, a, k, hd, ha, hk => by
    have hs : ∀ g ∈ segs, Seg g := fun g hg => h g (List.mem_cons_of_mem _ hg)
    rcases h g (List.mem_cons_self ..) with rfl | ⟨m, i, m1, m9, i9, rfl⟩
    · have hd1 : s.data.toList.drop a = 126 :: segs.flatten := hd
      obtain ⟨n1, _, n2⟩ := drop_next hd1
      rw [← Lib.size_eq s] at n2
      obtain ⟨k', rfl⟩ : ∃ k', k = k' + 1 := ⟨k - 1, by omega⟩
      rw [reqGo_tilde s k' a (by omega) (by rw [sgn_at hd1]; rfl)]
      exact reqGo_segs s segs hs (a + 1) k' n1 (by omega) (by omega)
    · have hd1 : s.data.toList.drop a = 58 :: UInt8.ofNat (48 + m) :: 47 :: UInt8.ofNat (48 + i) :: segs.flatten := hd
      obtain ⟨n1, _, l1⟩ := drop_next hd1
      obtain ⟨n2, _, l2⟩ := drop_next n1
      obtain ⟨n3, _, l3⟩ := drop_next n2
      obtain ⟨n4, _, l4⟩ := drop_next n3
      rw [← Lib.size_eq s] at l1 l2 l3 l4
      obtain ⟨p1, _, p2⟩ := num_one (least := 1) m9 n1 (fun x t e => by injection e with e1 _; rw [← e1]; decide) (by omega)
      obtain ⟨q1, _, q2⟩ := num_one (least := 0) i9 n3 (fun x t e => segs_head hs x t e) (by omega)
      obtain ⟨k', rfl⟩ : ∃ k', k = k' + 1 := ⟨k - 1, by omega⟩
      have e2 : numTo s (a + 1) = a + 2 := p2
      have e3 : numTo s (numTo s (a + 1) + 1) = a + 4 := by rw [e2]; exact q2
      rw [reqGo_good s k' a (by omega) (by rw [sgn_at hd1]; rfl) (by
        rw [e2, sgn_at hd1, sgn_at n2, p1, q1]
        rfl), e3]
      exact reqGo_segs s segs hs (a + 4) k' n4 (by omega) (by omega)

/-- What is right of a call. -/
structure Cx.Right (c : Cx) : Prop where
  req : 1 ≤ c.req ∧ c.req ≤ 9
  name : ∃ segs : List (List UInt8), (∀ g ∈ segs, Seg g) ∧ c.call.data.toList = UInt8.ofNat (48 + c.req.toNat) :: segs.flatten
  shadow : c.shadow = tilde c.call
  none : c.shadow = true → c.purse = 0
  ver : 0 ≤ c.ver ∧ c.ver ≤ 50
  prio : 0 ≤ c.prio ∧ c.prio ≤ 3

theorem Cx.Right.req_ok {c : Cx} (h : c.Right) : reqOk c.call = true ∧ reqV c.call = c.req := by
  obtain ⟨segs, h1, h2⟩ := h.name
  obtain ⟨r1, r9⟩ := h.req
  have hd : c.call.data.toList.drop 0 = UInt8.ofNat (48 + c.req.toNat) :: segs.flatten := h2
  obtain ⟨n1, _, l1⟩ := drop_next hd
  rw [← Lib.size_eq c.call] at l1
  obtain ⟨p1, p2, p3⟩ := num_one (least := 1) (by omega) hd (fun x t e => segs_head h1 x t e) (by omega)
  have ho : reqOk c.call = true := by
    unfold reqOk
    rw [p1, p3]
    exact reqGo_segs c.call segs h1 1 c.call.size n1 (by omega) (by omega)
  refine ⟨ho, ?_⟩
  unfold reqV
  rw [if_pos ho, p2]
  omega

theorem wi_true {n a b : Int} (h1 : a ≤ n) (h2 : n ≤ b) : wi n a b = true := by unfold wi; rw [decide_eq_true h1, decide_eq_true h2]; rfl
theorem Cx.Right.check {c : Cx} (h : c.Right) (ht : 0 ≤ c.try_ ∧ c.try_ ≤ 8) (hd : -2147483647 ≤ c.dl ∧ c.dl ≤ 4294967294) (hp : 0 ≤ c.purse ∧ c.purse ≤ 64) : c.check = 0 := by
  obtain ⟨r1, r2⟩ := h.req_ok
  obtain ⟨q1, q9⟩ := h.req
  unfold Cx.check
  rw [r1, r2, beq_self_eq_true, wi_true (by omega) (by omega), wi_true ht.1 ht.2, ← h.shadow, beq_self_eq_true, wi_true hd.1 hd.2, wi_true hp.1 hp.2, wi_true h.ver.1 h.ver.2, wi_true h.prio.1 h.prio.2]
  cases hs : c.shadow with
  | false => rfl
  | true => rw [h.none hs]; rfl

theorem tilde_append (s t : ByteArray) : tilde (s ++ t) = (tilde s || tilde t) := by
  unfold tilde
  rw [data_append]
  simp

theorem Cx.Right.copy {c : Cx} (h : c.Right) : c.copy.Right := by
  obtain ⟨segs, h1, h2⟩ := h.name
  refine ⟨h.req, ⟨segs ++ [[126]], fun g hg => ?_, ?_⟩, ?_, fun _ => rfl, h.ver, h.prio⟩
  · rcases List.mem_append.1 hg with hg | hg
    · exact h1 g hg
    · exact .inl (List.mem_singleton.1 hg)
  · show (c.call ++ ⟨#[126]⟩).data.toList = _
    rw [data_append, h2]
    simp [Cx.copy]
  · show true = tilde (c.call ++ ⟨#[126]⟩)
    rw [tilde_append]
    show true = (tilde c.call || true)
    simp
theorem Cx.Right.tried {c : Cx} (h : c.Right) (n p : Int) (hp : c.purse = 0 → p = 0) : (c.tried n p).Right :=
  ⟨h.req, h.name, h.shadow, fun hs => hp (h.none hs), h.ver, h.prio⟩
theorem shareAt_zero (k : Nat) (i : Int) : shareAt 0 k i = 0 := by
  unfold shareAt share
  split
  · simp; omega
  · rfl
theorem digit_tilde {i : Nat} (hi : i ≤ 9) : tilde (digit i) = false := by
  unfold tilde
  rw [digit_data]
  cases h : [UInt8.ofNat (48 + i)].contains 126 with
  | false => rfl
  | true => exact absurd (List.contains_iff_mem.1 h) (digit_not hi 126 (by decide))
theorem Cx.Right.kid {c : Cx} (h : c.Right) (ht : 1 ≤ c.try_ ∧ c.try_ ≤ 9) {i : Nat} (hi : i ≤ 9) (k : Nat) (hop : Int) : (c.kid i k hop).Right := by
  obtain ⟨segs, h1, h2⟩ := h.name
  have hs : c.span = c.call ++ ⟨#[58]⟩ ++ digit c.try_.toNat := if_pos (by omega)
  refine ⟨h.req, ⟨segs ++ [[58, UInt8.ofNat (48 + c.try_.toNat), 47, UInt8.ofNat (48 + i)]], fun g hg => ?_, ?_⟩, ?_, fun hsh => ?_, h.ver, h.prio⟩
  · rcases List.mem_append.1 hg with hg | hg
    · exact h1 g hg
    · exact .inr ⟨c.try_.toNat, i, by omega, by omega, hi, List.mem_singleton.1 hg⟩
  · show (c.span ++ ⟨#[47]⟩ ++ digit i).data.toList = _
    rw [hs, data_append, data_append, data_append, data_append, h2, digit_data, digit_data]
    simp [Cx.kid]
  · show c.shadow = tilde (c.span ++ ⟨#[47]⟩ ++ digit i)
    rw [hs, tilde_append, tilde_append, tilde_append, tilde_append, digit_tilde hi, digit_tilde (by omega), h.shadow]
    show tilde c.call = (((tilde c.call || false) || false) || false || false)
    simp
  · show shareAt c.purse k i = 0
    rw [h.none hsh]
    exact shareAt_zero k i

theorem ctxStart_right (n : Int) : (ctxStart n).Right := by
  have h1 := Int.emod_nonneg n (show (9 : Int) ≠ 0 by decide)
  have h2 := Int.emod_lt_of_pos n (show (0 : Int) < 9 by decide)
  have h3 := Int.emod_nonneg (n / 18) (show (3 : Int) ≠ 0 by decide)
  have h4 := Int.emod_lt_of_pos (n / 18) (show (0 : Int) < 3 by decide)
  have h5 := Int.emod_nonneg (n / 54) (show (4 : Int) ≠ 0 by decide)
  have h6 := Int.emod_lt_of_pos (n / 54) (show (0 : Int) < 4 by decide)
  refine ⟨?_, ⟨[], (fun g hg => by cases hg), rfl⟩, ?_, (fun h => by cases h), ?_, ?_⟩
  · show 1 ≤ 1 + n % 9 ∧ 1 + n % 9 ≤ 9; omega
  · show false = tilde (digit (1 + n % 9).toNat)
    rw [digit_tilde (by omega)]
  · show 0 ≤ 1 + n / 18 % 3 ∧ 1 + n / 18 % 3 ≤ 50; omega
  · show 0 ≤ n / 54 % 4 ∧ n / 54 % 4 ≤ 3; omega
theorem ctxStep_right {c : Cx} (h : c.Right) (ht : 0 ≤ c.try_ ∧ c.try_ ≤ 3) (k : Int) : (ctxStep c k).Right := by
  unfold ctxStep
  split
  · exact h.copy
  · split
    · exact h.tried _ _ (fun e => by rw [e]; rfl)
    · split
      · exact h.kid (by omega) (by omega) 3 _
      · exact h
theorem ctxFrom_right : ∀ (j : Nat) (l : List Int) (c : Cx) (i : Nat), c.In i → c.Right → (ctxFrom j l c).Right
  | 0, _, _, _, _, h => h
  | _ + 1, [], _, _, _, h => h
  | j + 1, x :: l, _, i, hi, h => ctxFrom_right j l _ (i + 1) (ctxStep_in hi (around x 1000)) (ctxStep_right h ⟨hi.try0, hi.try1⟩ _)
theorem ctxOf_right (l : List Int) : (ctxOf l).Right := ctxFrom_right 7 l.tail _ 0 (ctxStart_in (ctxHead l)) (ctxStart_right _)
theorem attOf_right (l : List Int) (n : Int) : (attOf l n).Right := by
  have h := ctxOf_right l
  unfold attOf
  split
  · exact ⟨h.req, h.name, h.shadow, h.none, h.ver, h.prio⟩
  · exact h

end Go.Proofs.YtjollcacgnfabaaDoor
