/- What a ledger is sound by: what is held of a request, together, is what it was minted with less what is spent. -/
import Derived.Test.YtedoalpijbggiaaDoorP6
import Derived.Test.YtedoalpijbggiaaDoorP4
namespace Go.Proofs.YtedoalpijbggiaaDoor
open Go.RowKit Go.Lib

def sepB (b : UInt8) : Bool := b == 58 || b == 47 || b == 126
def preOf (s : ByteArray) : List UInt8 := s.data.toList.takeWhile (fun b => !sepB b)
def numOf (l : List UInt8) : Int := match Lib.atoiAll l with
  | .ok v => if 1 ≤ v ∧ v ≤ 2147483647 ∧ Lib.itoa v = l then v else 0
  | _ => 0
/-- A holder's request; 0: it has none. -/
def reqOf (s : ByteArray) : Int := numOf (preOf s)

theorem numOf_digit : ∀ r : Nat, 1 ≤ r → r ≤ 9 → numOf [UInt8.ofNat (48 + r)] = r ∧ sepB (UInt8.ofNat (48 + r)) = false := by
  intro r h1 h2
  have hr : (r : Int).toNat = r := by omega
  refine ⟨?_, ?_⟩
  · unfold numOf
    obtain ⟨f1, f2, _⟩ := digit_facts r h1 h2
    have f1' : Lib.atoiAll [UInt8.ofNat (48 + r)] = .ok (r : Int) := f1
    rw [f1']
    have : Lib.itoa (r : Int) = [UInt8.ofNat (48 + r)] := by unfold Lib.itoa; rw [if_neg (by omega), hr, f2]
    exact if_pos ⟨by omega, by omega, this⟩
  · have : r = 1 ∨ r = 2 ∨ r = 3 ∨ r = 4 ∨ r = 5 ∨ r = 6 ∨ r = 7 ∨ r = 8 ∨ r = 9 := by omega
    rcases this with rfl | rfl | rfl | rfl | rfl | rfl | rfl | rfl | rfl <;> rfl

theorem Holder.req {r : Nat} {s : ByteArray} (h : Holder r s) : reqOf s = r := by
  obtain ⟨t, ht, h1⟩ := h.cons
  obtain ⟨f1, f2⟩ := numOf_digit r h.pos.1 h.pos.2
  have : preOf s = [UInt8.ofNat (48 + r)] := by
    unfold preOf
    rw [ht, List.takeWhile_cons]
    simp only [f2, Bool.not_false, if_true]
    rcases h1 with rfl | ⟨c, t', rfl, hc⟩
    · rfl
    · rw [List.takeWhile_cons]
      have : sepB c = true := by rcases hc with rfl | rfl | rfl <;> rfl
      simp [this]
  unfold reqOf
  rw [this, f1]

/-- More at one place. -/
def upd (f : ByteArray → Int) (s : ByteArray) (d : Int) : ByteArray → Int := fun t => if t = s then f s + d else f t
theorem shift_left (L : Led) (x : ByteArray × Int) : (L.shift x).left = upd L.left x.1 x.2 := rfl

theorem sum_upd_out (f : ByteArray → Int) (s : ByteArray) (d : Int) (l : List ByteArray) (h : s ∉ l) : (l.map (upd f s d)).sum = (l.map f).sum := by
  rw [List.map_congr_left (fun t ht => ?_)]
  unfold upd
  rw [if_neg (fun e => h (by rw [← e]; exact ht))]
theorem sum_upd_in (f : ByteArray → Int) (s : ByteArray) (d : Int) : ∀ l : List ByteArray, l.Nodup → s ∈ l → (l.map (upd f s d)).sum = (l.map f).sum + d
  | [], _, h => by cases h
  | t :: l, h, hm => by
    rw [List.nodup_cons] at h
    rw [List.map_cons, List.sum_cons, List.map_cons, List.sum_cons]
    by_cases e : s = t
    · subst e
      rw [sum_upd_out f s d l h.1]
      simp only [upd, if_true]
      omega
    · rw [sum_upd_in f s d l h.2 ((List.mem_cons.1 hm).resolve_left e)]
      simp only [upd]
      rw [if_neg (fun x => e x.symm)]
      omega

/-- What the holders of each request have, together, is H. -/
def Holds (f : ByteArray → Int) (H : Int → Int) : Prop :=
  ∃ hs : List ByteArray, hs.Nodup ∧ (∀ s, s ∉ hs → f s = 0) ∧ ∀ r, ((hs.filter fun s => decide (reqOf s = r)).map f).sum = H r

theorem Holds.upd {f : ByteArray → Int} {H : Int → Int} (h : Holds f H) (s : ByteArray) (d : Int) : Holds (upd f s d) (fun r => if reqOf s = r then H r + d else H r) := by
  obtain ⟨hs, h1, h2, h3⟩ := h
  have key : ∀ hs' : List ByteArray, hs'.Nodup → s ∈ hs' → (∀ s, s ∉ hs' → f s = 0) → (∀ r, ((hs'.filter fun s => decide (reqOf s = r)).map f).sum = H r) → Holds (Go.Proofs.YtedoalpijbggiaaDoor.upd f s d) (fun r => if reqOf s = r then H r + d else H r) := by
    intro hs' k1 k2 k3 k4
    refine ⟨hs', k1, fun t ht => ?_, fun r => ?_⟩
    · unfold Go.Proofs.YtedoalpijbggiaaDoor.upd
      rw [if_neg (fun e => ht (by rw [e]; exact k2))]
      exact k3 t ht
    · by_cases e : reqOf s = r
      · rw [sum_upd_in f s d _ (k1.filter _) (List.mem_filter.2 ⟨k2, decide_eq_true e⟩), k4]; exact (if_pos e).symm
      · rw [sum_upd_out f s d _ (fun hm => e (of_decide_eq_true (List.mem_filter.1 hm).2)), k4]; exact (if_neg e).symm
  rcases Classical.em (s ∈ hs) with hm | hm
  · exact key hs h1 hm h2 h3
  · refine key (s :: hs) (List.nodup_cons.2 ⟨hm, h1⟩) (List.mem_cons_self ..) (fun t ht => h2 t (fun h => ht (List.mem_cons_of_mem _ h))) (fun r => ?_)
    rw [List.filter_cons]
    split
    · rw [List.map_cons, List.sum_cons, h2 s hm, h3, Int.zero_add]
    · exact h3 r

theorem sum_nonneg (f : ByteArray → Int) (hf : ∀ s, 0 ≤ f s) : ∀ l : List ByteArray, 0 ≤ (l.map f).sum
  | [] => by simp
  | t :: l => by rw [List.map_cons, List.sum_cons]; have := hf t; have := sum_nonneg f hf l; omega
theorem le_sum (f : ByteArray → Int) (hf : ∀ s, 0 ≤ f s) {s : ByteArray} : ∀ l : List ByteArray, s ∈ l → f s ≤ (l.map f).sum
  | [], h => by cases h
  | t :: l, h => by
    rw [List.map_cons, List.sum_cons]
    have h0 := hf t
    have h1 := sum_nonneg f hf l
    rcases List.mem_cons.1 h with rfl | h
    · omega
    · have := le_sum f hf l h; omega

theorem Holds.le {f : ByteArray → Int} {H : Int → Int} (h : Holds f H) (hf : ∀ s, 0 ≤ f s) (s : ByteArray) : f s ≤ H (reqOf s) ∧ ∀ r, 0 ≤ H r := by
  obtain ⟨hs, h1, h2, h3⟩ := h
  refine ⟨?_, fun r => by rw [← h3 r]; exact sum_nonneg f hf _⟩
  rw [← h3]
  rcases Classical.em (s ∈ hs) with hm | hm
  · exact le_sum f hf _ (List.mem_filter.2 ⟨hm, by simp⟩)
  · rw [h2 s hm]; exact sum_nonneg f hf _

structure Led.Ok (L : Led) : Prop where
  holds : Holds L.left (fun r => (L.sum r).1 - (L.sum r).2)
  pos : ∀ s, 0 ≤ L.left s
  spent : ∀ r, 0 ≤ (L.sum r).2
  most : ∀ r, (L.sum r).1 ≤ 2147483647
  own : ∀ r, (L.sums r).isSome = true → 1 ≤ r

theorem led0_ok : led0.Ok := ⟨⟨[], by simp, fun _ _ => rfl, fun r => rfl⟩, fun s => Int.le_refl 0, fun r => Int.le_refl 0, fun r => (by decide : (0 : Int) ≤ 2147483647), fun r h => by cases h⟩

theorem Led.Ok.left_le {L : Led} (h : L.Ok) (s : ByteArray) : L.left s ≤ (L.sum (reqOf s)).1 - (L.sum (reqOf s)).2 := (h.holds.le h.pos s).1
theorem Led.Ok.held {L : Led} (h : L.Ok) (r : Int) : (L.sum r).2 ≤ (L.sum r).1 := by have := (h.holds.le h.pos ⟨#[]⟩).2 r; omega
theorem Led.Ok.left_most {L : Led} (h : L.Ok) (s : ByteArray) : 0 ≤ L.left s ∧ L.left s ≤ 2147483647 := by
  have h1 := h.left_le s; have h2 := h.pos s; have h3 := h.most (reqOf s); have h4 := h.spent (reqOf s)
  omega

theorem more_sum (L : Led) (r m p k : Int) : (L.more r m p).sum k = if k = r then ((L.sum r).1 + m, (L.sum r).2 + p) else L.sum k := by
  show ((L.more r m p).sums k).getD (0, 0) = _
  unfold Led.more
  by_cases e : k = r
  · simp [e]
  · simp [e, Led.sum]

theorem Led.Ok.mint {L : Led} (h : L.Ok) {r n : Int} {s : ByteArray} (h0 : L.mintE r n = 0) (hs : reqOf s = r) : (L.does r n 0 [(s, n)]).Ok := by
  unfold Led.mintE at h0
  split at h0
  · cases h0
  rename_i hb
  split at h0
  · cases h0
  rename_i hn
  have hnone : L.sums r = none := by cases e : L.sums r with
    | none => rfl
    | some x => rw [e] at hn; simp at hn
  have hs0 : L.sum r = (0, 0) := by unfold Led.sum; rw [hnone]; rfl
  have hsum : ∀ k, (L.does r n 0 [(s, n)]).sum k = if k = r then (n, 0) else L.sum k := fun k => by
    show (L.more r n 0).sum k = _
    rw [more_sum, hs0]; simp
  refine ⟨?_, fun t => ?_, fun k => ?_, fun k => ?_, fun k hk => ?_⟩
  · have := h.holds.upd s n
    refine cast (congrArg (Holds _) (funext fun k => ?_)) this
    rw [hsum, hs]
    by_cases e : k = r
    · subst e; rw [if_pos rfl, if_pos rfl, hs0]; simp
    · rw [if_neg e, if_neg (fun e' => e e'.symm)]
  · show 0 ≤ upd L.left s n t
    unfold upd
    have := h.pos t; have := h.pos s
    split <;> omega
  · rw [hsum]; split
    · exact Int.le_refl 0
    · exact h.spent k
  · rw [hsum]; split
    · show n ≤ _; omega
    · exact h.most k
  · by_cases e : k = r
    · omega
    · refine h.own k ?_
      have : (L.does r n 0 [(s, n)]).sums k = L.sums k := by show (L.more r n 0).sums k = _; unfold Led.more; simp [e]
      rw [← this]; exact hk

theorem hasE_ok {L : Led} {r n : Int} {s : ByteArray} (h : L.hasE r s n = 0) : (L.sums r).isSome = true ∧ n ≤ L.left s := by
  unfold Led.hasE at h
  split at h
  · cases h
  rename_i h1
  split at h
  · cases h
  exact ⟨by cases hx : (L.sums r).isSome with
    | true => rfl
    | false => exact absurd hx h1, by omega⟩

theorem moveE_ok {L : Led} {rf rt n : Int} {s : ByteArray} (h : L.moveE rf rt s n = 0) : 0 ≤ n ∧ rf ≠ 0 ∧ rt = rf ∧ (L.sums rf).isSome = true ∧ n ≤ L.left s := by
  unfold Led.moveE at h
  split at h
  · cases h
  exact ⟨by omega, by omega, by omega, hasE_ok h⟩
theorem spendE_ok {L : Led} {rf n : Int} {s : ByteArray} (h : L.spendE rf s n = 0) : 0 ≤ n ∧ rf ≠ 0 ∧ (L.sums rf).isSome = true ∧ n ≤ L.left s := by
  unfold Led.spendE at h
  split at h
  · cases h
  exact ⟨by omega, by omega, hasE_ok h⟩

theorem Led.Ok.move {L : Led} (h : L.Ok) {n : Int} {s t : ByteArray} (h0 : L.moveE (reqOf s) (reqOf t) s n = 0) : (L.does (reqOf s) 0 0 [(s, -n), (t, n)]).Ok := by
  obtain ⟨n0, r0, hrt, hsm, hn⟩ := moveE_ok h0
  have hsum : ∀ k, (L.does (reqOf s) 0 0 [(s, -n), (t, n)]).sum k = L.sum k := fun k => by
    show (L.more (reqOf s) 0 0).sum k = _
    rw [more_sum]
    by_cases e : k = reqOf s
    · rw [if_pos e, ← e]; simp
    · rw [if_neg e]
  have hl : (L.does (reqOf s) 0 0 [(s, -n), (t, n)]).left = upd (upd L.left s (-n)) t n := rfl
  refine ⟨?_, fun u => ?_, fun k => ?_, fun k => ?_, fun k hk => ?_⟩
  · have := (h.holds.upd s (-n)).upd t n
    rw [hl]
    refine cast (congrArg (Holds _) (funext fun k => ?_)) this
    rw [hsum, hrt]
    by_cases e : reqOf s = k
    · rw [if_pos e, if_pos e]; omega
    · rw [if_neg e, if_neg e]
  · rw [hl]
    unfold upd
    have h1 := h.pos u; have h2 := h.pos s; have h3 := h.pos t
    split
    · split
      · omega
      · omega
    · split <;> omega
  · rw [hsum]; exact h.spent k
  · rw [hsum]; exact h.most k
  · by_cases e : k = reqOf s
    · rw [e]; exact h.own _ hsm
    · refine h.own k ?_
      have : (L.does (reqOf s) 0 0 [(s, -n), (t, n)]).sums k = L.sums k := by show (L.more (reqOf s) 0 0).sums k = _; unfold Led.more; simp [e]
      rw [← this]; exact hk

theorem Led.Ok.spend {L : Led} (h : L.Ok) {n : Int} {s : ByteArray} (h0 : L.spendE (reqOf s) s n = 0) : (L.does (reqOf s) 0 n [(s, -n)]).Ok := by
  obtain ⟨n0, r0, hsm, hn⟩ := spendE_ok h0
  have hsum : ∀ k, (L.does (reqOf s) 0 n [(s, -n)]).sum k = if k = reqOf s then ((L.sum (reqOf s)).1 + 0, (L.sum (reqOf s)).2 + n) else L.sum k := fun k => by
    show (L.more (reqOf s) 0 n).sum k = _
    rw [more_sum]
  have hl : (L.does (reqOf s) 0 n [(s, -n)]).left = upd L.left s (-n) := rfl
  refine ⟨?_, fun u => ?_, fun k => ?_, fun k => ?_, fun k hk => ?_⟩
  · have := h.holds.upd s (-n)
    rw [hl]
    refine cast (congrArg (Holds _) (funext fun k => ?_)) this
    rw [hsum]
    by_cases e : reqOf s = k
    · subst e; rw [if_pos rfl, if_pos rfl]; simp only; omega
    · rw [if_neg e, if_neg (fun e' => e e'.symm)]
  · rw [hl]
    unfold upd
    have h1 := h.pos u; have h2 := h.pos s
    split <;> omega
  · rw [hsum]; split
    · have := h.spent (reqOf s); simp only; omega
    · exact h.spent k
  · rw [hsum]; split
    · have := h.most (reqOf s); simp only; omega
    · exact h.most k
  · by_cases e : k = reqOf s
    · rw [e]; exact h.own _ hsm
    · refine h.own k ?_
      have : (L.does (reqOf s) 0 n [(s, -n)]).sums k = L.sums k := by show (L.more (reqOf s) 0 n).sums k = _; unfold Led.more; simp [e]
      rw [← this]; exact hk

end Go.Proofs.YtedoalpijbggiaaDoor
