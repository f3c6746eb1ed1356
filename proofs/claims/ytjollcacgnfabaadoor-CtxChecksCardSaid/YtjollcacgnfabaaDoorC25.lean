/- The document's Call: the request of a call's name. -/
import Derived.Test.YtjollcacgnfabaaDoorC24
import Derived.Test.YtjollcacgnfabaaDoorC19
namespace Go.Proofs.YtjollcacgnfabaaDoor
open Go.RowKit
attribute [local go_sem ↓] Go.wp_at_zero Go.wp_at_succ

theorem scanB_le : ∀ (l : List UInt8) (n : Int) (k : Nat), (scanB l n k).2 ≤ k + l.length
  | [], _, _ => by rw [scanB]; exact Nat.le_add_right _ _
  | x :: t, n, k => by
    rw [scanB]
    split
    · have := scanB_le t (if n ≤ 2147483647 then 10 * n + ((x.toNat : Int) - 48) else n) (k + 1); simp only [List.length_cons]; omega
    · simp

/-- What decimal says of the rest of a name, from a place on. -/
theorem dec_at {s u : ByteArray} {b : Nat} (hu : u.data.toList = s.data.toList.drop b) :
    (decK u = 0 → numOk s b 0 = false ∧ numOk s b 1 = false) ∧
    (decK u ≠ 0 → numOk s b 0 = true ∧ b + decK u = numTo s b ∧ decV u = (numF s b).1 ∧ (decV u < 1 → numOk s b 1 = false) ∧ (¬ decV u < 1 → numOk s b 1 = true ∧ numV s b 1 = decV u)) ∧
    decK u ≤ u.size := by
  have e1 : numF u 0 = numF s b := by unfold numF; rw [hu, List.drop_zero]
  have e2 : u.data.toList[0]? = s.data.toList[b]? := by rw [hu, List.getElem?_drop, Nat.add_zero]
  have e3 : numBad u 0 0 ↔ numBad s b 0 := by unfold numBad; rw [e1, e2]
  obtain ⟨h1, h2⟩ := dec_num u
  have hle : (numF s b).2 ≤ u.size := by
    rw [← e1]
    unfold numF
    have := scanB_le (u.data.toList.drop 0) 0 0
    rw [List.drop_zero, ← Lib.size_eq u] at this
    rw [List.drop_zero]
    omega
  by_cases hb : decBad u
  · have hk : decK u = 0 := by unfold decK; rw [if_pos hb]
    have hn := e3.1 (h1.1 hb)
    have hn1 : numBad s b 1 := by
      unfold numBad at hn ⊢
      rcases hn with h | h | h | h
      · exact .inl h
      · exact .inr (.inl h)
      · exact .inr (.inr (.inl (by omega)))
      · exact .inr (.inr (.inr h))
    refine ⟨fun _ => ?_, fun h => absurd hk h, by omega⟩
    unfold numOk
    rw [if_pos hn, if_pos hn1]
    exact ⟨rfl, rfl⟩
  · have hf := h2 hb
    have hnb : ¬ numBad s b 0 := fun h => hb (h1.2 (e3.2 h))
    have hk : decK u = (numF s b).2 := by unfold decK; rw [if_neg hb, hf, e1]
    have hv : decV u = (numF s b).1 := by unfold decV; rw [if_neg hb, hf, e1]
    have hk0 : decK u ≠ 0 := fun e => hnb (.inl (hk ▸ e))
    refine ⟨fun h => absurd h hk0, fun _ => ⟨?_, by unfold numTo; rw [hk], hv, fun h => ?_, fun h => ?_⟩, by omega⟩
    · unfold numOk; rw [if_neg hnb]
    · have : numBad s b 1 := .inr (.inr (.inl (hv ▸ h)))
      unfold numOk; rw [if_pos this]
    · have hn1 : ¬ numBad s b 1 := by
        intro hn
        unfold numBad at hn
        rcases hn with h' | h' | h' | h'
        · exact hnb (.inl h')
        · exact hnb (.inr (.inl h'))
        · rw [← hv] at h'; exact h h'
        · exact hnb (.inr (.inr (.inr h')))
      unfold numOk numV
      rw [if_neg hn1, if_neg hn1, hv]
      exact ⟨rfl, rfl⟩

/-- A rest of a name. -/
structure Rest (s t : ByteArray) (a : Nat) : Prop where
  data : t.data.toList = s.data.toList.drop a
  le : a ≤ s.size
theorem Rest.size {s t : ByteArray} {a : Nat} (h : Rest s t a) : t.size = s.size - a := by
  have e1 := Lib.size_eq t
  have e2 := Lib.size_eq s
  rw [h.data, List.length_drop] at e1
  omega
theorem Rest.cut {s t : ByteArray} {a : Nat} (h : Rest s t a) (j : Nat) (hj : j ≤ t.size) : Rest s (t.extract j t.size) (a + j) := by
  have hz := h.size
  have hl := h.le
  refine ⟨?_, by omega⟩
  rw [Lib.extract_data, h.data, List.drop_drop, List.take_of_length_le]
  rw [List.length_drop, ← Lib.size_eq s]
  omega
theorem Rest.byte {s t : ByteArray} {a : Nat} (h : Rest s t a) (h0 : 0 < t.size) {x : UInt8} (hx : t[0]'h0 = x) : ∃ r, s.data.toList.drop a = x :: r := by
  have hd := drop_byte t 0 h0
  rw [List.drop_zero, hx, h.data] at hd
  exact ⟨_, hd⟩

structure CallInv (s t : ByteArray) (a k : Nat) (G : Bool) : Prop where
  rest : Rest s t a
  fuel : s.size - a ≤ k
  val : reqGo s k a = G

theorem CallInv.empty {s t : ByteArray} {a k : Nat} {G : Bool} (h : CallInv s t a k G) (h0 : ¬ 0 < t.size) : G = true := by
  have := h.rest.size
  have := h.rest.le
  rw [← h.val]
  exact reqGo_end s k a (by omega)
theorem CallInv.tilde {s t : ByteArray} {a k : Nat} {G : Bool} (h : CallInv s t a k G) (h0 : 0 < t.size) (hx : t[0]'h0 = 126) : ∃ k', CallInv s (t.extract 1 t.size) (a + 1) k' G := by
  obtain ⟨r, hr⟩ := h.rest.byte h0 hx
  have hz := h.rest.size
  have hf := h.fuel
  obtain ⟨k', rfl⟩ : ∃ k', k = k' + 1 := ⟨k - 1, by omega⟩
  exact ⟨k', h.rest.cut 1 (by omega), by omega, by rw [← h.val, reqGo_tilde s k' a (by omega) (by rw [sgn_at hr]; rfl)]⟩
theorem CallInv.bad {s t : ByteArray} {a k : Nat} {G : Bool} (h : CallInv s t a k G) (h0 : 0 < t.size) {x : UInt8} (hx : t[0]'h0 = x) (h126 : x ≠ 126)
    (hb : x ≠ 58 ∨ numOk s (a + 1) 1 = false ∨ sgn s (numTo s (a + 1)) 47 = false ∨ numOk s (numTo s (a + 1) + 1) 0 = false) : G = false := by
  obtain ⟨r, hr⟩ := h.rest.byte h0 hx
  have hz := h.rest.size
  have hf := h.fuel
  obtain ⟨k', rfl⟩ : ∃ k', k = k' + 1 := ⟨k - 1, by omega⟩
  rw [← h.val]
  refine reqGo_bad s k' a (by omega) (by rw [sgn_at hr]; exact beq_eq_false_iff_ne.2 h126) ?_
  rcases hb with hb | hb | hb | hb
  · rw [sgn_at hr, beq_eq_false_iff_ne.2 hb]; rfl
  · rw [hb]; simp
  · rw [hb]; simp
  · rw [hb]; simp
theorem CallInv.good {s t : ByteArray} {a k : Nat} {G : Bool} (h : CallInv s t a k G) (h0 : 0 < t.size) (hx : t[0]'h0 = 58) (h1 : numOk s (a + 1) 1 = true) (h2 : sgn s (numTo s (a + 1)) 47 = true) (h3 : numOk s (numTo s (a + 1) + 1) 0 = true)
    {t3 : ByteArray} (hr3 : Rest s t3 (numTo s (numTo s (a + 1) + 1))) : ∃ k', CallInv s t3 (numTo s (numTo s (a + 1) + 1)) k' G := by
  obtain ⟨r, hr⟩ := h.rest.byte h0 hx
  have hz := h.rest.size
  have hf := h.fuel
  obtain ⟨k', rfl⟩ : ∃ k', k = k' + 1 := ⟨k - 1, by omega⟩
  have e1 : a + 1 ≤ numTo s (a + 1) := Nat.le_add_right _ _
  have e2 : numTo s (a + 1) + 1 ≤ numTo s (numTo s (a + 1) + 1) := Nat.le_add_right _ _
  refine ⟨k', hr3, by omega, ?_⟩
  rw [← h.val, reqGo_good s k' a (by omega) (by rw [sgn_at hr]; rfl) (by rw [sgn_at hr, h1, h2, h3]; rfl)]

end Go.Proofs.YtjollcacgnfabaaDoor
