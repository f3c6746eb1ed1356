/- The document's Request, at any text. -/
import Derived.Test.YtedoalpijbggiaaDoorR3
import Derived.Deep.RegionHeld3
namespace Go.Proofs.YtedoalpijbggiaaDoor
open Go.RowKit Go.Lib
attribute [local go_sem ↓] Go.wp_at_zero Go.wp_at_succ

def isDig (x : UInt8) : Bool := decide (48 ≤ x.toNat) && decide (x.toNat ≤ 57)
theorem isDig_iff (x : UInt8) : isDig x = true ↔ 48 ≤ x.toNat ∧ x.toNat ≤ 57 := by unfold isDig; simp
def decW (acc : Nat) (l : List UInt8) : Nat := l.foldl (fun a c => 10 * a + (c.toNat - 48)) acc
theorem decDigits_ten {u : Nat} (h : ¬ u < 10) : Lib.decDigits u = Lib.decDigits (u / 10) ++ [UInt8.ofNat (48 + u % 10)] := by rw [Lib.decDigits, dif_neg h]
theorem digits_facts (u : Nat) : (∀ c ∈ Lib.decDigits u, isDig c = true) ∧ decW 0 (Lib.decDigits u) = u ∧ Lib.decDigits u ≠ [] := by
  induction u using Nat.strongRecOn with
  | _ u ih =>
    by_cases h : u < 10
    · rw [Lib.decDigits_one h]
      have e : (UInt8.ofNat (48 + u)).toNat = 48 + u := by rw [UInt8.toNat_ofNat']; omega
      refine ⟨fun c hc => ?_, ?_, by simp⟩
      · rw [List.mem_singleton.1 hc, isDig_iff, e]; omega
      · show 10 * 0 + ((UInt8.ofNat (48 + u)).toNat - 48) = u
        rw [e]; omega
    · rw [decDigits_ten h]
      obtain ⟨i1, i2, _⟩ := ih (u / 10) (by omega)
      have e : (UInt8.ofNat (48 + u % 10)).toNat = 48 + u % 10 := by rw [UInt8.toNat_ofNat']; omega
      refine ⟨fun c hc => ?_, ?_, by simp⟩
      · rcases List.mem_append.1 hc with h1 | h1
        · exact i1 c h1
        · rw [List.mem_singleton.1 h1, isDig_iff, e]; omega
      · unfold decW at i2 ⊢
        rw [List.foldl_append, i2]
        show 10 * (u / 10) + ((UInt8.ofNat (48 + u % 10)).toNat - 48) = u
        rw [e]; omega
theorem digits_length (k : Nat) : ∀ u : Nat, u < 10 ^ (k + 1) → (Lib.decDigits u).length ≤ k + 1 := by
  induction k with
  | zero => intro u h; rw [Lib.decDigits_one (by omega)]; simp
  | succ k ih =>
    intro u h
    by_cases h10 : u < 10
    · rw [Lib.decDigits_one h10]; simp
    · rw [decDigits_ten h10, List.length_append]
      have := ih (u / 10) (by rw [Nat.pow_succ] at h; omega)
      simp; omega
theorem decW_le (l : List UInt8) : ∀ acc, acc ≤ decW acc l := by
  induction l with
  | nil => exact fun acc => Nat.le_refl _
  | cons c l ih => exact fun acc => Nat.le_trans (by omega) (ih (10 * acc + (c.toNat - 48)))
theorem parse_digits : ∀ (l : List UInt8) (acc : Nat), (∀ c ∈ l, isDig c = true) → decW acc l ≤ 2147483647 → Lib.parseUint10 acc l = .ok (decW acc l)
  | [], acc, _, _ => rfl
  | c :: l, acc, hd, hb => by
    have hc := (isDig_iff c).1 (hd c List.mem_cons_self)
    have h1 := decW_le l (10 * acc + (c.toNat - 48))
    have hb' : decW (10 * acc + (c.toNat - 48)) l ≤ 2147483647 := hb
    unfold Lib.parseUint10
    rw [if_pos hc, if_neg (by omega), if_neg (by omega), Nat.mul_comm]
    exact parse_digits l _ (fun c h => hd c (List.mem_cons_of_mem _ h)) hb'
theorem atoi_itoa {v : Int} (h1 : 1 ≤ v) (h2 : v ≤ 2147483647) : Lib.atoiAll (Lib.itoa v) = .ok v := by
  obtain ⟨u, rfl⟩ : ∃ u : Nat, v = u := ⟨v.toNat, by omega⟩
  rw [Lib.itoa_nonneg]
  obtain ⟨d1, d2, d3⟩ := digits_facts u
  cases hl : Lib.decDigits u with
  | nil => exact absurd hl d3
  | cons c r =>
    rw [hl] at d1 d2
    have hc := (isDig_iff c).1 (d1 c List.mem_cons_self)
    rw [Lib.atoiAll_plain c r (by omega) (by omega)]
    have hp : Lib.parseMag (c :: r) = .ok u := by
      unfold Lib.parseMag
      rw [if_neg (by simp), parse_digits _ 0 d1 (by rw [d2]; omega), d2]
    rw [hp]
    unfold Lib.signless
    simp only
    rw [if_neg (by omega)]
theorem numOf_itoa {v : Int} (h1 : 1 ≤ v) (h2 : v ≤ 2147483647) : numOf (Lib.itoa v) = v := by
  unfold numOf
  rw [atoi_itoa h1 h2]
  exact if_pos ⟨h1, h2, rfl⟩
theorem numOf_else {p : List UInt8} (h : ∀ v : Int, 1 ≤ v → v ≤ 2147483647 → Lib.itoa v ≠ p) : numOf p = 0 := by
  unfold numOf
  split
  · rename_i v _
    exact if_neg fun ⟨h1, h2, h3⟩ => h v h1 h2 h3
  · rfl
theorem numOf_bad {p : List UInt8} (h : (∃ c ∈ p, isDig c = false) ∨ 10 < p.length) : numOf p = 0 := by
  refine numOf_else fun v h1 h2 e => ?_
  obtain ⟨u, rfl⟩ : ∃ u : Nat, v = u := ⟨v.toNat, by omega⟩
  rw [Lib.itoa_nonneg] at e
  obtain ⟨d1, d2, d3⟩ := digits_facts u
  have d4 := digits_length 9 u (by omega)
  rw [e] at d1 d4
  rcases h with ⟨c, hc, hd⟩ | h
  · rw [d1 c hc] at hd; cases hd
  · omega
theorem numOf_val {p : List UInt8} {n : Int} (hn : ((decW 0 p : Nat) : Int) = n) (h : ¬ (1 ≤ n ∧ n ≤ 2147483647 ∧ Lib.itoa n = p)) : numOf p = 0 := by
  refine numOf_else fun v h1 h2 e => h ?_
  obtain ⟨u, rfl⟩ : ∃ u : Nat, v = u := ⟨v.toNat, by omega⟩
  have e' := e
  rw [Lib.itoa_nonneg] at e'
  have d2 := (digits_facts u).2.1
  rw [e'] at d2
  rw [d2] at hn
  subst hn
  exact ⟨h1, h2, e⟩
theorem takeWhile_all {p : UInt8 → Bool} : ∀ {l : List UInt8}, (∀ c ∈ l, p c = true) → l.takeWhile p = l
  | [], _ => rfl
  | c :: l, h => by rw [List.takeWhile_cons, h c List.mem_cons_self, if_pos rfl, takeWhile_all fun d hd => h d (List.mem_cons_of_mem _ hd)]
theorem reqOf_dec {r : Int} (h1 : 1 ≤ r) (h2 : r ≤ 2147483647) : reqOf (dec r) = r := by
  unfold reqOf
  have : preOf (dec r) = Lib.itoa r := by
    show (Lib.itoa r).takeWhile (fun b => !sepB b) = _
    refine takeWhile_all fun c hc => ?_
    obtain ⟨u, rfl⟩ : ∃ u : Nat, r = u := ⟨r.toNat, by omega⟩
    rw [Lib.itoa_nonneg] at hc
    have hd := (isDig_iff c).1 ((digits_facts u).1 c hc)
    unfold sepB
    have a1 : (c == 58) = false := beq_eq_false_iff_ne.2 fun e => by rw [e] at hd; simp at hd
    have a2 : (c == 47) = false := beq_eq_false_iff_ne.2 fun e => by rw [e] at hd; simp at hd
    have a3 : (c == 126) = false := beq_eq_false_iff_ne.2 fun e => by rw [e] at hd; simp at hd
    rw [a1, a2, a3]; rfl
  rw [this]
  exact numOf_itoa h1 h2

theorem take_next {l : List UInt8} {k : Nat} {x : UInt8} (h : l[k]? = some x) : l.take (k + 1) = l.take k ++ [x] := by rw [List.take_add_one, h]; rfl
theorem decW_snoc (a : Nat) (l : List UInt8) (x : UInt8) : decW a (l ++ [x]) = 10 * decW a l + (x.toNat - 48) := by unfold decW; rw [List.foldl_append]; rfl
theorem decW_bd : ∀ (l : List UInt8), (∀ c ∈ l, isDig c = true) → decW 0 l < 10 ^ l.length := by
  intro l
  suffices H : ∀ (l : List UInt8) (a k : Nat), (∀ c ∈ l, isDig c = true) → a < 10 ^ k → decW a l < 10 ^ (k + l.length) from fun h => by have := H l 0 0 h (by decide); simpa using this
  intro l
  induction l with
  | nil => intro a k _ h; exact h
  | cons c l ih =>
    intro a k hd h
    have hc := (isDig_iff c).1 (hd c List.mem_cons_self)
    have := ih (10 * a + (c.toNat - 48)) (k + 1) (fun d hh => hd d (List.mem_cons_of_mem _ hh)) (by rw [Nat.pow_succ]; omega)
    rw [List.length_cons, show k + (l.length + 1) = k + 1 + l.length by omega]
    exact this

/-- Digits so far. -/
structure DigI (p : List UInt8) (k : Nat) (n : Int) : Prop where
  k10 : k ≤ 10
  dig : ∀ c ∈ p.take k, isDig c = true
  val : n = ((decW 0 (p.take k) : Nat) : Int)
theorem DigI.bd {p : List UInt8} {k : Nat} {n : Int} (h : DigI p k n) : 0 ≤ n ∧ n < 10000000000 := by
  have h1 := decW_bd _ h.dig
  have h2 : (p.take k).length ≤ 10 := by rw [List.length_take]; have := h.k10; omega
  have h3 : 10 ^ (p.take k).length ≤ 10 ^ 10 := Nat.pow_le_pow_right (by decide) h2
  rw [h.val]
  omega
theorem DigI.step {p : List UInt8} {k : Nat} {n : Int} {x : UInt8} (h : DigI p k n) (hx : p[k]? = some x) (hd : isDig x = true) (hk : k ≤ 9) : DigI p (k + 1) (10 * n + ((x.toNat : Int) - 48)) := by
  have hc := (isDig_iff x).1 hd
  refine ⟨by omega, fun c hcm => ?_, ?_⟩
  · rw [take_next hx] at hcm
    rcases List.mem_append.1 hcm with e | e
    · exact h.dig c e
    · rw [List.mem_singleton.1 e]; exact hd
  · rw [take_next hx, decW_snoc, h.val]; omega

theorem text_eq2 (v : Int) (p : ByteArray) : ((numText v).toList == p.toList) = decide (Lib.itoa v = p.data.toList) := text_eq v p


@[reducible] def PreI (s : ByteArray) (i : Nat) : Prop := ∀ c ∈ s.data.toList.take i, sepB c = false
theorem PreI.stop {s : ByteArray} {i : Nat} {x : UInt8} (h : PreI s i) (hx : s.data.toList[i]? = some x) (hs : sepB x = true) : preOf s = s.data.toList.take i := by
  unfold preOf
  unfold PreI at h
  generalize s.data.toList = l at h hx
  induction l generalizing i with
  | nil => simp at hx
  | cons c l ih =>
    cases i with
    | zero =>
      simp only [List.getElem?_cons_zero, Option.some.injEq] at hx
      subst hx
      rw [List.takeWhile_cons, hs]
      rfl
    | succ i =>
      have h1 := h c (by simp)
      rw [List.takeWhile_cons, h1, List.take_succ_cons]
      simp only [Bool.not_false, if_true]
      rw [ih (fun d hd => h d (by rw [List.take_succ_cons]; exact List.mem_cons_of_mem _ hd)) (by simpa using hx)]
theorem PreI.all {s : ByteArray} {i : Nat} (h : PreI s i) (hi : i = s.size) : preOf s = s.data.toList.take i := by
  have hl : s.data.toList.length = s.size := rfl
  have e : s.data.toList.take i = s.data.toList := List.take_of_length_le (by omega)
  unfold PreI at h
  rw [e] at h ⊢
  exact takeWhile_all fun c hc => by rw [h c hc]; rfl

set_option maxRecDepth 8000 in
set_option maxHeartbeats 8000000 in
theorem rrequest_all (s : ByteArray) (hs : s.size ≤ 2147483647) (w : World) :
    Calls Tryd.prog 34 #[.string s] w fun e w' => e = .returned (.int .i64 (reqOf s)) ∧ Below w.heap.size w w' := by
  go_enter Tryd.func34, Tryd.ntmps34
  go_wp2_with fail
  go_loopw [3] (fun vi wr => ∃ i : Nat, vi = .int .i64 i ∧ i ≤ s.size ∧ Hid (PreI s i ∧ Below w.heap.size w wr)) (fun vi _ => (s.size - RowKit.intOf vi).toNat)
  case atStart => exact ⟨0, rfl, Nat.zero_le _, by show PreI s 0 ∧ _; exact ⟨(fun c hc => by cases hc), Below.refl _ _⟩⟩
  case round =>
    obtain ⟨i, rfl, hi, hn⟩ := hrel
    by_cases hgo : ∃ x, s.data.toList[i]? = some x ∧ sepB x = false
    · obtain ⟨x, hxl, hns⟩ := hgo
      have hlt : i < s.size := (List.getElem?_eq_some_iff.1 hxl).1
      have hx : s[i]'hlt = x := by have := Lib.data_getElem? s i hlt; rw [hxl] at this; exact (Option.some.inj this).symm
      have t0 : decide ((i : Int) < (s.size : Int)) = true := decide_eq_true (by omega)
      have i0 : (0 : Int) ≤ (i : Int) := by omega
      have i1 : (i : Int) < (s.size : Int) := by omega
      unfold sepB at hns
      simp only [Bool.or_eq_false_iff, beq_eq_false_iff_ne] at hns
      obtain ⟨⟨x1, x2⟩, x3⟩ := hns
      have u1 : ¬ ((x.toNat : Int) = 58) := (fun e => x1 (UInt8.toNat_inj.1 (by show x.toNat = 58; omega)))
      have v1 : ((x.toNat : Int) != 58) = true := bne_iff_ne.2 u1
      have u2 : ¬ ((x.toNat : Int) = 47) := (fun e => x2 (UInt8.toNat_inj.1 (by show x.toNat = 47; omega)))
      have v2 : ((x.toNat : Int) != 47) = true := bne_iff_ne.2 u2
      have u3 : ¬ ((x.toNat : Int) = 126) := (fun e => x3 (UInt8.toNat_inj.1 (by show x.toNat = 126; omega)))
      have v3 : ((x.toNat : Int) != 126) = true := bne_iff_ne.2 u3
      have HN : Hid (PreI s (i + 1) ∧ Below w.heap.size w wr) := by
        refine ⟨fun c hc => ?_, hn.out.2⟩
        rw [take_next hxl] at hc
        rcases List.mem_append.1 hc with e | e
        · exact hn.out.1 c e
        · rw [List.mem_singleton.1 e]
          unfold sepB
          simp [x1, x2, x3]
      clear hxl hn x1 x2 x3
      go_upto_region 2 with fail
      go_wp2_with fail
      go_roundw
      case rel => exact ⟨i + 1, by go_num, by omega, HN⟩
      case measure => simp [RowKit.intOf]; omega
    · have HPRE : Hid (preOf s = s.data.toList.take i ∧ Below w.heap.size w wr) := by
        refine ⟨?_, hn.out.2⟩
        by_cases hlt : i < s.size
        · refine hn.out.1.stop (Lib.data_getElem? s i hlt) ?_
          cases h : sepB (s[i]'hlt) with
          | true => rfl
          | false => exact absurd ⟨_, Lib.data_getElem? s i hlt, h⟩ hgo
        · exact hn.out.1.all (by omega)
      go_upto_region 2 with fail
      go_cut [27] from 6 to 29 (fun v wx => v = .bool false ∧ wx = wr)
      case first =>
        by_cases hlt : i < s.size
        · have t0 : decide ((i : Int) < (s.size : Int)) = true := decide_eq_true (by omega)
          have i0 : (0 : Int) ≤ (i : Int) := by omega
          have i1 : (i : Int) < (s.size : Int) := by omega
          obtain ⟨x, hx⟩ : ∃ x, s[i]'hlt = x := ⟨_, rfl⟩
          have hs3 : x = 58 ∨ x = 47 ∨ x = 126 := by
            cases h : sepB x with
            | true => unfold sepB at h; simpa [or_assoc] using h
            | false => exact absurd ⟨_, Lib.data_getElem? s i hlt, by rw [hx]; exact h⟩ hgo
          clear hgo hn
          by_cases x1 : x = 58
          · have u1 : ((x.toNat : Int) = 58) := by rw [x1]; rfl
            have v1 : ((x.toNat : Int) != 58) = false := by rw [u1]; rfl
            clear x1 hs3
            go_wp2_with fail
            go_meet
            exact ⟨rfl, rfl⟩
          have u1 : ¬ ((x.toNat : Int) = 58) := (fun e => x1 (UInt8.toNat_inj.1 (by show x.toNat = 58; omega)))
          have v1 : ((x.toNat : Int) != 58) = true := bne_iff_ne.2 u1
          by_cases x2 : x = 47
          · have u2 : ((x.toNat : Int) = 47) := by rw [x2]; rfl
            have v2 : ((x.toNat : Int) != 47) = false := by rw [u2]; rfl
            clear x1 x2 hs3
            go_wp2_with fail
            go_meet
            exact ⟨rfl, rfl⟩
          have u2 : ¬ ((x.toNat : Int) = 47) := (fun e => x2 (UInt8.toNat_inj.1 (by show x.toNat = 47; omega)))
          have v2 : ((x.toNat : Int) != 47) = true := bne_iff_ne.2 u2
          have u3 : ((x.toNat : Int) = 126) := by rcases hs3 with e | e | e; exact absurd e x1; exact absurd e x2; rw [e]; rfl
          have v3 : ((x.toNat : Int) != 126) = false := by rw [u3]; rfl
          clear x1 x2 hs3
          go_wp2_with fail
          go_meet
          exact ⟨rfl, rfl⟩
        · have t0 : decide ((i : Int) < (s.size : Int)) = false := decide_eq_false (by omega)
          clear hgo hn
          go_wp2_with fail
          go_meet
          exact ⟨rfl, rfl⟩
      case rest =>
        obtain ⟨rfl, rfl⟩ := hcut
        clear hgo hn
        obtain ⟨p, hp⟩ : ∃ p, p = s.data.toList.take i := ⟨_, rfl⟩
        have hpl : p.length = i := by rw [hp, List.length_take]; have : s.data.toList.length = s.size := rfl; omega
        have HR : Hid (reqOf s = numOf p) := by show reqOf s = _; unfold reqOf; rw [HPRE.out.1, hp]
        have HB := Lib.hid HPRE.out.2
        have HPE : Hid ((s.extract 0 i).data.toList = p) := by show _ = p; rw [Lib.extract_data, hp]; simp
        have HPK : Hid (∀ k (hk : k < s.size), k < i → p[k]? = some (s[k]'hk)) := fun k hk hki => by
          rw [hp, List.getElem?_take, if_pos hki]; exact Lib.data_getElem? s k hk
        have HPL := Lib.hid hpl
        clear HPRE hp hpl
        go_wp2_with fail
        go_loopw [4, 5] (fun vn vk w9 => ∃ (k : Nat) (n : Int), vk = .int .i64 k ∧ vn = .int .i64 n ∧ k ≤ i ∧ DigI p k n ∧ w9 = wc) (fun _ vk _ => (i - RowKit.intOf vk).toNat)
        case atStart => exact ⟨0, 0, rfl, rfl, Nat.zero_le _, ⟨by omega, fun c hc => by (rw [List.take_zero] at hc; cases hc), rfl⟩, rfl⟩
        case round =>
          obtain ⟨k, n, rfl, rfl, hki, hD, rfl⟩ := hrel
          by_cases hlt : k < i
          · have t0 : decide ((k : Int) < (i : Int)) = true := decide_eq_true (by omega)
            have hks : k < s.size := by omega
            have i0 : (0 : Int) ≤ (k : Int) := by omega
            have i1 : (k : Int) < (s.size : Int) := by omega
            obtain ⟨x, hx⟩ : ∃ x, s[k]'hks = x := ⟨_, rfl⟩
            have hxl : p[k]? = some x := by rw [← hx]; exact HPK.out k hks hlt
            have hxb := x.toNat_lt
            by_cases x1 : x.toNat < 48
            · have HZ : Hid (reqOf s = 0) := HR.out.trans (numOf_bad (.inl ⟨x, List.mem_of_getElem? hxl, by unfold isDig; simp; omega⟩))
              have u1 : ((x.toNat : Int) < 48) := by omega
              clear hD hxl x1
              go_wp2_with fail
              go_ret
              exact ⟨by rw [HZ.out]; rfl, HB.out⟩
            have u1 : ¬ ((x.toNat : Int) < 48) := by omega
            by_cases x2 : 57 < x.toNat
            · have HZ : Hid (reqOf s = 0) := HR.out.trans (numOf_bad (.inl ⟨x, List.mem_of_getElem? hxl, by unfold isDig; simp; omega⟩))
              have u2 : ((57 : Int) < (x.toNat : Int)) := by omega
              clear hD hxl x1 x2
              go_wp2_with fail
              go_ret
              exact ⟨by rw [HZ.out]; rfl, HB.out⟩
            have u2 : ¬ ((57 : Int) < (x.toNat : Int)) := by omega
            by_cases x3 : 9 < k
            · have HZ : Hid (reqOf s = 0) := HR.out.trans (numOf_bad (.inr (by rw [HPL.out]; have := hD.k10; omega)))
              have u3 : ((9 : Int) < (k : Int)) := by omega
              clear hD hxl x1 x2
              go_wp2_with fail
              go_ret
              exact ⟨by rw [HZ.out]; rfl, HB.out⟩
            have u3 : ¬ ((9 : Int) < (k : Int)) := by omega
            have hbd := hD.bd
            have HS := Lib.hid (hD.step hxl ((isDig_iff x).2 (by omega)) (by omega))
            have gu : IntKind.u8.wrap ((x.toNat : Int) - 48) = (x.toNat : Int) - 48 := IntWalk.u8_in _ (by omega)
            have gc : IntKind.i64.wrap ((x.toNat : Int) - 48) = (x.toNat : Int) - 48 := IntWalk.i64_in _ (by omega)
            have g1 : IntKind.i64.wrap (10 * n) = 10 * n := IntWalk.i64_in _ (by omega)
            have g2 : IntKind.i64.wrap (10 * n + ((x.toNat : Int) - 48)) = 10 * n + ((x.toNat : Int) - 48) := IntWalk.i64_in _ (by omega)
            clear hD hxl x1 x2
            go_wp2_with fail
            go_roundw
            case rel => exact ⟨k + 1, _, by go_num, rfl, by omega, HS.out, trivial⟩
            case measure => simp [RowKit.intOf]; omega
          · have t0 : decide ((k : Int) < (i : Int)) = false := decide_eq_false (by omega)
            obtain rfl : k = i := by omega
            have hbd := hD.bd
            have hval : ((decW 0 p : Nat) : Int) = n := by rw [hD.val, List.take_of_length_le (by rw [HPL.out]; exact Nat.le_refl _)]
            have HV := Lib.hid hval
            have HTE := Lib.hid (text_eq n (s.extract 0 k))
            clear hD hval
            by_cases c1 : n < 1
            · have HZ : Hid (reqOf s = 0) := HR.out.trans (numOf_val HV.out (fun h => by have := h.1; omega))
              go_wp2_with fail
              go_quiet (fail)
              go_wp2_with fail
              go_ret
              exact ⟨by rw [HZ.out]; rfl, below_drewN HB.out⟩
            by_cases c2 : 2147483647 < n
            · have HZ : Hid (reqOf s = 0) := HR.out.trans (numOf_val HV.out (fun h => by have := h.2.1; omega))
              go_wp2_with fail
              go_quiet (fail)
              go_wp2_with fail
              go_ret
              exact ⟨by rw [HZ.out]; rfl, below_drewN HB.out⟩
            have HD := Lib.hid (fun W => dec_all n (by omega) W)
            have t1 : decide (n < 1) = false := decide_eq_false c1
            have t2 : decide (2147483647 < n) = false := decide_eq_false c2
            have hik : (k : Int) ≤ (s.size : Int) := by omega
            obtain ⟨q, hq⟩ : ∃ q, q = s.extract 0 k := ⟨_, rfl⟩
            rw [← hq] at HTE HPE
            obtain ⟨b, hb⟩ : ∃ b, ((numText n).toList == q.toList) = b := ⟨_, rfl⟩
            have HBQ : Hid (b = decide (Lib.itoa n = p)) := by show b = _; rw [← hb, HTE.out, HPE.out]
            have HQ := Lib.hid hq
            clear HTE hq
            go_wp2_with fail
            refine wp_region_held_drew (S := fun _ => True) (by kernel_rfl) trivial (fun hHeld => ?_)
            refine wpAnyH_take (i := 0) (v := ?_) rfl (by kernel_rfl) (by kernel_rfl) (by kernel_rfl) (fun _ _ _ h => h) (Or.inl ⟨by kernel_rfl, ?_⟩) (by assumption) ?_
            rotate_left
            · (intro w hSw; (try dsimp only at hSw); go_simp; try with_reducible rfl)
            try simp only [Act.put]
            refine wpAnyH_take (i := 1) (v := ?_) rfl (by kernel_rfl) (by kernel_rfl) (by kernel_rfl) (fun _ _ _ h => h) (Or.inl ⟨by kernel_rfl, ?_⟩) (by assumption) ?_
            rotate_left
            · (intro w hSw; (try dsimp only at hSw); go_simp; try with_reducible rfl)
            try simp only [Act.put]
            refine wpAnyH_take (i := 2) (v := ?_) rfl (by kernel_rfl) (by kernel_rfl) (by kernel_rfl) (fun _ _ _ h => h) (Or.inl ⟨by kernel_rfl, ?_⟩) (by assumption) ?_
            rotate_left
            · (intro w hSw; (try dsimp only at hSw); go_simp; try with_reducible rfl)
            try simp only [Act.put]
            refine wpAnyH_take (i := 3) (v := ?_) rfl (by kernel_rfl) (by kernel_rfl) (by kernel_rfl) (fun _ _ _ h => h) (Or.inl ⟨by kernel_rfl, ?_⟩) (by assumption) ?_
            rotate_left
            · (intro w hSw; (try dsimp only at hSw); go_simp; try with_reducible rfl)
            try simp only [Act.put]
            refine wpAnyH_take (i := 4) (v := ?_) rfl (by kernel_rfl) (by kernel_rfl) (by kernel_rfl) (fun _ _ _ h => h) (Or.inl ⟨by kernel_rfl, ?_⟩) (by assumption) ?_
            rotate_left
            · (intro w hSw; (try dsimp only at hSw); go_simp; try with_reducible rfl)
            try simp only [Act.put]
            refine wpAnyH_take (i := 5) (v := ?_) rfl (by kernel_rfl) (by kernel_rfl) (by kernel_rfl) (fun _ _ _ h => h) (Or.inl ⟨by kernel_rfl, ?_⟩) (by assumption) ?_
            rotate_left
            · (intro w hSw; (try dsimp only at hSw); go_simp; try with_reducible rfl)
            try simp only [Act.put]
            refine wpAnyH_take (i := 6) (v := ?_) rfl (by kernel_rfl) (by kernel_rfl) (by kernel_rfl) (fun _ _ _ h => h) (Or.inl ⟨by kernel_rfl, ?_⟩) (by assumption) ?_
            rotate_left
            · (intro w hSw; (try dsimp only at hSw); go_simp; try with_reducible rfl)
            try simp only [Act.put]
            refine wpAnyH_take (i := 7) (v := ?_) rfl (by kernel_rfl) (by kernel_rfl) (by kernel_rfl) (fun _ _ _ h => h) (Or.inl ⟨by kernel_rfl, ?_⟩) (by assumption) ?_
            rotate_left
            · (intro w hSw; (try dsimp only at hSw); go_simp; try with_reducible rfl)
            try simp only [Act.put]
            refine wpAnyH_take (i := 9) (v := ?_) rfl (by kernel_rfl) (by kernel_rfl) (by kernel_rfl) (fun _ _ _ h => h) (Or.inl ⟨by kernel_rfl, ?_⟩) (by assumption) ?_
            rotate_left
            · (intro w hSw; (try dsimp only at hSw); go_simp; try with_reducible rfl)
            try simp only [Act.put]
            refine wpAnyH_take (i := 10) (v := ?_) rfl (by kernel_rfl) (by kernel_rfl) (by kernel_rfl) (fun _ _ _ h => h) (Or.inl ⟨by kernel_rfl, ?_⟩) (by assumption) ?_
            rotate_left
            · (intro w hSw; (try dsimp only at hSw); go_simp; try with_reducible rfl)
            try simp only [Act.put]
            refine wpAnyH_take (i := 11) (v := ?_) rfl (by kernel_rfl) (by kernel_rfl) (by kernel_rfl) (fun _ _ _ h => h) (Or.inl ⟨by kernel_rfl, ?_⟩) (by assumption) ?_
            rotate_left
            · (intro w hSw; (try dsimp only at hSw); go_simp; try with_reducible rfl)
            try simp only [Act.put]
            refine wpAnyH_ready (rs := [8]) (by kernel_rfl) (by simp) ?_
            refine AllReadyH.cons rfl (fun K hK => ?_) AllReadyH.nil
            go_simp
            refine (HD.out _).mono ?_
            rintro e w1 ⟨rfl, hb1⟩
            replace hb1 := bdrew hb1
            have HB1 := Lib.hid (btrans HB.out hb1)
            refine hK.out _ _ (trivial) (fun hHeld => ?_)
            clear hK K
            try simp only [Act.put]
            rw [← HQ.out]
            refine wpAnyH_take (i := 12) (v := ?_) rfl (by kernel_rfl) (by kernel_rfl) (by kernel_rfl) (fun _ _ _ h => h) (Or.inl ⟨by kernel_rfl, ?_⟩) (by assumption) ?_
            rotate_left
            · (intro w hSw; (try dsimp only at hSw); go_simp; (try simp only [hb, Bool.not_false]); (try with_reducible rfl))
            try simp only [Act.put]
            refine wpAnyH_take (i := 13) (v := ?_) rfl (by kernel_rfl) (by kernel_rfl) (by kernel_rfl) (fun _ _ _ h => h) (Or.inl ⟨by kernel_rfl, ?_⟩) (by assumption) ?_
            rotate_left
            · (intro w hSw; (try dsimp only at hSw); go_simp; try with_reducible rfl)
            try simp only [Act.put]
            refine wpAnyH_done (by kernel_rfl) ?_ _
            try simp only [Act.put]
            clear hHeld hb1
            cases b with
            | true =>
              have hi : Lib.itoa n = p := of_decide_eq_true HBQ.out.symm
              have HZ : Hid (reqOf s = n) := HR.out.trans (by rw [← hi]; exact numOf_itoa (by omega) (by omega))
              clear hi
              go_simp
              go_wp2_with fail
              go_ret
              exact ⟨by rw [HZ.out]; rfl, HB1.out⟩
            | false =>
              have hi : ¬ Lib.itoa n = p := of_decide_eq_false HBQ.out.symm
              have HZ : Hid (reqOf s = 0) := HR.out.trans (numOf_val HV.out fun h => hi h.2.2)
              clear hi
              go_simp
              go_wp2_with fail
              go_ret
              exact ⟨by rw [HZ.out]; rfl, HB1.out⟩

end Go.Proofs.YtedoalpijbggiaaDoor
