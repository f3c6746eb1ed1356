/- The document's ledger beside the program's (plain). -/
import Derived.Test.YtedoalpijbggiaaDoorR4
namespace Go.Proofs.YtedoalpijbggiaaDoor
open Go.RowKit Go.Lib

structure RL where
  has : List Ent
  made : List Ent
  spent : List Ent
def RL.mintE (R : RL) (r n : Int) : Int := if r < 1 ∨ 2147483647 < r ∨ n < 0 ∨ 2147483647 < n then 1 else if (ofR R.made (dec r)).isSome then 5 else 0
def RL.mint (R : RL) (r n : Int) : RL := ⟨putR R.has (dec r) n, putR R.made (dec r) n, putR R.spent (dec r) 0⟩
def RL.mayE (R : RL) (s : ByteArray) (n : Int) : Int := if n < 0 ∨ reqOf s = 0 then 1 else if (ofR R.made (dec (reqOf s))).isSome = false then 4 else if (ofR R.has s).getD 0 < n then 30 else 0
def RL.moveE (R : RL) (s t : ByteArray) (n : Int) : Int := if n < 0 ∨ reqOf s = 0 ∨ reqOf s ≠ reqOf t then 1 else R.mayE s n
def RL.move (R : RL) (s t : ByteArray) (n : Int) : RL := { R with has := putR (putR R.has s (-n)) t n }
def RL.spend (R : RL) (s : ByteArray) (n : Int) : RL := ⟨putR R.has s (-n), R.made, putR R.spent (dec (reqOf s)) n⟩

theorem ofR_nil (s : ByteArray) : ofR [] s = none := rfl
theorem ofR_cons (x : Ent) (l : List Ent) (s : ByteArray) : ofR (x :: l) s = if x.1 = s then some x.2 else ofR l s := by
  unfold ofR
  rw [List.find?_cons]
  by_cases h : x.1 = s
  · rw [nameEq_iff.2 h, if_pos h]; rfl
  · have : nameEq s x = false := by cases e : nameEq s x with
      | false => rfl
      | true => exact absurd (nameEq_iff.1 e) h
    rw [this, if_neg h]
theorem ofR_append (l l' : List Ent) (s : ByteArray) : ofR (l ++ l') s = (ofR l s).or (ofR l' s) := by
  induction l with
  | nil => simp [ofR_nil]
  | cons x l ih => rw [List.cons_append, ofR_cons, ofR_cons, ih]; split <;> rfl
theorem any_name {l : List Ent} {s : ByteArray} : l.any (nameEq s) = (ofR l s).isSome := by
  induction l with
  | nil => rfl
  | cons x l ih =>
    rw [List.any_cons, ofR_cons, ih]
    by_cases h : x.1 = s
    · rw [nameEq_iff.2 h, if_pos h]; rfl
    · have : nameEq s x = false := by cases e : nameEq s x with
        | false => rfl
        | true => exact absurd (nameEq_iff.1 e) h
      rw [this, if_neg h]; rfl
theorem putE_name (s : ByteArray) (n : Int) (x : Ent) : (putE s n x).1 = x.1 := by unfold putE; split <;> rfl
theorem ofR_map (l : List Ent) (s : ByteArray) (n : Int) (t : ByteArray) : ofR (l.map (putE s n)) t = if t = s then (ofR l s).map (· + n) else ofR l t := by
  induction l with
  | nil => simp [ofR_nil]
  | cons x l ih =>
    rw [List.map_cons, ofR_cons, ih, putE_name, ofR_cons, ofR_cons]
    by_cases h : t = s
    · subst h
      by_cases h2 : x.1 = t
      · rw [if_pos h2, if_pos rfl, if_pos h2]
        unfold putE
        rw [nameEq_iff.2 h2]; rfl
      · rw [if_neg h2, if_pos rfl, if_pos rfl, if_neg h2]
    · rw [if_neg h, if_neg h]
      by_cases h2 : x.1 = t
      · rw [if_pos h2, if_pos h2]
        unfold putE
        have : nameEq s x = false := by cases e : nameEq s x with
          | false => rfl
          | true => exact absurd ((nameEq_iff.1 e).symm.trans h2) (fun e2 => h e2.symm)
        rw [this]; rfl
      · rw [if_neg h2, if_neg h2]
theorem ofR_put (l : List Ent) (s : ByteArray) (n : Int) (t : ByteArray) : ofR (putR l s n) t = if t = s then some ((ofR l s).getD 0 + n) else ofR l t := by
  unfold putR
  rw [ofR_append, ofR_map, any_name]
  by_cases h : t = s
  · subst h
    rw [if_pos rfl, if_pos rfl]
    cases ofR l t with
    | some x => rfl
    | none =>
      show ofR [(t, n)] t = _
      rw [ofR_cons, if_pos rfl]
      simp
  · rw [if_neg h, if_neg h]
    have : ofR (if (ofR l s).isSome then [] else [(s, n)]) t = none := by
      split
      · rfl
      · rw [ofR_cons, if_neg (fun e => h e.symm)]; rfl
    rw [this]
    cases ofR l t <;> rfl
def names (l : List Ent) : List ByteArray := l.map (·.1)
theorem ofR_none {l : List Ent} {s : ByteArray} : ofR l s = none ↔ s ∉ names l := by
  induction l with
  | nil => simp [ofR_nil, names]
  | cons x l ih =>
    rw [ofR_cons]
    unfold names at ih ⊢
    rw [List.map_cons, List.mem_cons]
    by_cases h : x.1 = s
    · rw [if_pos h]; simp [h]
    · rw [if_neg h, ih]
      exact ⟨fun h2 h3 => h3.elim (fun e => h e.symm) h2, fun h2 h3 => h2 (.inr h3)⟩
theorem names_put {l : List Ent} {s : ByteArray} {n : Int} (h : (names l).Nodup) : (names (putR l s n)).Nodup ∧ (putR l s n).length ≤ l.length + 1 := by
  have h1 : names (putR l s n) = names l ++ if (ofR l s).isSome then [] else [s] := by
    unfold putR names
    rw [List.map_append, List.map_map, any_name]
    congr 1
    · exact List.map_congr_left fun x _ => putE_name s n x
    · split <;> rfl
  have hlen : ∀ l : List Ent, l.length = (names l).length := fun l => by unfold names; rw [List.length_map]
  refine ⟨?_, ?_⟩
  · rw [h1]
    cases e : ofR l s with
    | some x => simpa using h
    | none =>
      show (names l ++ [s]).Nodup
      rw [List.nodup_append]
      refine ⟨h, by simp, fun a ha b hb e2 => ?_⟩
      rw [List.mem_singleton.1 hb] at e2
      exact ofR_none.1 e (e2 ▸ ha)
  · rw [hlen, h1, List.length_append, ← hlen]
    split <;> simp
theorem ofR_mem {l : List Ent} (h : (names l).Nodup) {x : Ent} (hx : x ∈ l) : ofR l x.1 = some x.2 := by
  induction l with
  | nil => cases hx
  | cons y l ih =>
    rw [ofR_cons]
    unfold names at h ih
    rw [List.map_cons, List.nodup_cons] at h
    rcases List.mem_cons.1 hx with rfl | hx'
    · rw [if_pos rfl]
    · have hne : y.1 ≠ x.1 := fun e => h.1 (by rw [e]; exact List.mem_map_of_mem hx')
      rw [if_neg hne]
      exact ih h.2 hx'

/-- What the names of a request have, together. -/
def sumR (l : List Ent) (r : Int) : Int := (l.map fun x => if reqOf x.1 = r then x.2 else 0).sum
theorem sumR_cons (x : Ent) (l : List Ent) (r : Int) : sumR (x :: l) r = (if reqOf x.1 = r then x.2 else 0) + sumR l r := by unfold sumR; rw [List.map_cons, List.sum_cons]
theorem sumR_out {l : List Ent} {s : ByteArray} (h : s ∉ names l) (n r : Int) : sumR (l.map (putE s n)) r = sumR l r := by
  induction l with
  | nil => rfl
  | cons x l ih =>
    unfold names at h ih
    rw [List.map_cons, List.mem_cons, not_or] at h
    have : nameEq s x = false := by cases e : nameEq s x with
      | false => rfl
      | true => exact absurd (nameEq_iff.1 e).symm h.1
    rw [List.map_cons, sumR_cons, sumR_cons, ih h.2]
    unfold putE
    rw [this]; rfl
theorem sumR_put {l : List Ent} {s : ByteArray} {n : Int} (h : (names l).Nodup) (r : Int) : sumR (putR l s n) r = sumR l r + if reqOf s = r then n else 0 := by
  have happ : ∀ a b : List Ent, sumR (a ++ b) r = sumR a r + sumR b r := fun a b => by unfold sumR; rw [List.map_append, List.sum_append]
  unfold putR
  rw [happ, any_name]
  cases e : ofR l s with
  | none =>
    rw [sumR_out (ofR_none.1 e)]
    show sumR l r + sumR [(s, n)] r = _
    rw [sumR_cons]
    show sumR l r + (_ + 0) = _
    rw [Int.add_zero]
  | some v =>
    show sumR (l.map (putE s n)) r + 0 = _
    rw [Int.add_zero]
    induction l with
    | nil => cases e
    | cons x l ih =>
      unfold names at h ih
      rw [List.map_cons, List.nodup_cons] at h
      rw [ofR_cons] at e
      rw [List.map_cons, sumR_cons, sumR_cons, putE_name]
      by_cases hx : x.1 = s
      · have hn : s ∉ names l := by unfold names; rw [← hx]; exact h.1
        rw [sumR_out hn]
        unfold putE
        rw [nameEq_iff.2 hx, hx]
        by_cases hr : reqOf s = r
        · rw [if_pos hr, if_pos hr, if_pos hr]; show x.2 + n + _ = _; omega
        · rw [if_neg hr, if_neg hr, if_neg hr]; omega
      · rw [if_neg hx] at e
        rw [ih h.2 e]
        have : nameEq s x = false := by cases e2 : nameEq s x with
          | false => rfl
          | true => exact absurd (nameEq_iff.1 e2) hx
        unfold putE
        rw [this]
        show (if reqOf x.1 = r then x.2 else 0) + _ = _
        omega

theorem dec_inj {r k : Int} (hr : 0 ≤ r) (hk : 0 ≤ k) (h : dec k = dec r) : k = r := by
  obtain ⟨u, rfl⟩ : ∃ u : Nat, r = u := ⟨r.toNat, by omega⟩
  obtain ⟨v, rfl⟩ : ∃ v : Nat, k = v := ⟨k.toNat, by omega⟩
  have e : Lib.itoa (v : Int) = Lib.itoa (u : Int) := by
    have := congrArg (fun b : ByteArray => b.data.toList) h
    exact this
  rw [Lib.itoa_nonneg, Lib.itoa_nonneg] at e
  have h1 := (digits_facts u).2.1
  have h2 := (digits_facts v).2.1
  rw [e] at h2
  rw [h1] at h2
  rw [h2]

def IsDec (s : ByteArray) : Prop := ∃ r, 0 ≤ r ∧ s = dec r
/-- One ledger is the other. -/
structure Rel (R : RL) (L : Led) : Prop where
  has : ∀ s, L.left s = (ofR R.has s).getD 0
  made : ∀ r, 0 ≤ r → ofR R.made (dec r) = (L.sums r).map (·.1)
  spent : ∀ r, 0 ≤ r → ofR R.spent (dec r) = (L.sums r).map (·.2)
  nh : (names R.has).Nodup
  nm : (names R.made).Nodup
  ns : (names R.spent).Nodup
  fm : ∀ x ∈ R.made, IsDec x.1
  fs : ∀ x ∈ R.spent, IsDec x.1
  sum : ∀ r, sumR R.has r = (L.sum r).1 - (L.sum r).2

theorem Rel.start : Rel ⟨[], [], []⟩ led0 := ⟨fun _ => rfl, fun _ _ => rfl, fun _ _ => rfl, by simp [names], by simp [names], by simp [names], (fun x hx => by cases hx), (fun x hx => by cases hx), fun r => rfl⟩
theorem Rel.mintE {R : RL} {L : Led} (h : Rel R L) (r n : Int) : R.mintE r n = L.mintE r n := by
  unfold RL.mintE Led.mintE
  by_cases c : r < 1 ∨ 2147483647 < r ∨ n < 0 ∨ 2147483647 < n
  · rw [if_pos c, if_pos c]
  · rw [if_neg c, if_neg c, h.made r (by omega)]
    cases L.sums r <;> rfl
theorem Rel.mayE {R : RL} {L : Led} (h : Rel R L) (s : ByteArray) (n : Int) (h0 : ¬ (n < 0 ∨ reqOf s = 0)) (hr : 0 ≤ reqOf s) : R.mayE s n = L.hasE (reqOf s) s n := by
  unfold RL.mayE Led.hasE
  rw [if_neg h0, h.made _ hr, h.has]
  cases L.sums (reqOf s) <;> rfl
theorem reqOf_nonneg (s : ByteArray) : 0 ≤ reqOf s := by
  unfold reqOf numOf
  split
  · split
    · omega
    · exact Int.le_refl _
  · exact Int.le_refl _
theorem Rel.moveE {R : RL} {L : Led} (h : Rel R L) (s t : ByteArray) (n : Int) : R.moveE s t n = L.moveE (reqOf s) (reqOf t) s n := by
  unfold RL.moveE Led.moveE
  by_cases c : n < 0 ∨ reqOf s = 0 ∨ reqOf s ≠ reqOf t
  · rw [if_pos c, if_pos (by rcases c with c | c | c; exact .inl c; exact .inr (.inl c); exact .inr (.inr (fun e => c e.symm)))]
  · rw [if_neg c, if_neg (fun c2 => c (by rcases c2 with c2 | c2 | c2; exact .inl c2; exact .inr (.inl c2); exact .inr (.inr (fun e => c2 e.symm))))]
    exact h.mayE s n (fun c2 => c (by rcases c2 with c2 | c2; exact .inl c2; exact .inr (.inl c2))) (reqOf_nonneg s)
theorem Rel.spendE {R : RL} {L : Led} (h : Rel R L) (s : ByteArray) (n : Int) : R.mayE s n = L.spendE (reqOf s) s n := by
  unfold Led.spendE
  by_cases c : n < 0 ∨ reqOf s = 0
  · rw [if_pos c]; unfold RL.mayE; rw [if_pos c]
  · rw [if_neg c]; exact h.mayE s n c (reqOf_nonneg s)

theorem mem_put {l : List Ent} {s : ByteArray} {n : Int} {P : ByteArray → Prop} (h : ∀ x ∈ l, P x.1) (hs : P s) : ∀ x ∈ putR l s n, P x.1 := by
  intro x hx
  unfold putR at hx
  rcases List.mem_append.1 hx with e | e
  · obtain ⟨y, hy, rfl⟩ := List.mem_map.1 e
    rw [putE_name]; exact h y hy
  · split at e
    · cases e
    · rw [List.mem_singleton.1 e]; exact hs

theorem Rel.mint {R : RL} {L : Led} (h : Rel R L) {r n : Int} (h1 : 1 ≤ r) (h2 : r ≤ 2147483647) : Rel (R.mint r n) (L.does r n 0 [(dec r, n)]) := by
  have hl : ∀ s, (L.does r n 0 [(dec r, n)]).left s = if s = dec r then L.left (dec r) + n else L.left s := fun s => rfl
  have hs : ∀ k, (L.does r n 0 [(dec r, n)]).sums k = if k = r then some ((L.sum r).1 + n, (L.sum r).2 + 0) else L.sums k := fun k => rfl
  have hq : (L.sum r) = (L.sums r).getD (0, 0) := rfl
  refine ⟨fun s => ?_, fun k hk => ?_, fun k hk => ?_, (names_put h.nh).1, (names_put h.nm).1, (names_put h.ns).1, mem_put (P := IsDec) h.fm ⟨r, by omega, rfl⟩, mem_put (P := IsDec) h.fs ⟨r, by omega, rfl⟩, fun k => ?_⟩
  · rw [hl]; show _ = (ofR (putR R.has (dec r) n) s).getD 0
    rw [ofR_put, h.has, h.has]
    split <;> rfl
  · rw [hs]; show ofR (putR R.made (dec r) n) (dec k) = _
    rw [ofR_put]
    by_cases e : k = r
    · subst e; rw [if_pos rfl, if_pos rfl, h.made k hk, hq]; cases L.sums k <;> rfl
    · rw [if_neg (fun e2 => e (dec_inj (by omega) hk e2)), if_neg e]; exact h.made k hk
  · rw [hs]; show ofR (putR R.spent (dec r) 0) (dec k) = _
    rw [ofR_put]
    by_cases e : k = r
    · subst e; rw [if_pos rfl, if_pos rfl, h.spent k hk, hq]; cases L.sums k <;> rfl
    · rw [if_neg (fun e2 => e (dec_inj (by omega) hk e2)), if_neg e]; exact h.spent k hk
  · show sumR (putR R.has (dec r) n) k = _
    rw [sumR_put h.nh, h.sum k, reqOf_dec h1 h2]
    show _ = (((L.does r n 0 [(dec r, n)]).sums k).getD (0, 0)).1 - (((L.does r n 0 [(dec r, n)]).sums k).getD (0, 0)).2
    rw [hs]
    by_cases e : k = r
    · subst e; rw [if_pos rfl, if_pos rfl]; simp only [Option.getD_some]; omega
    · rw [if_neg (fun e2 => e e2.symm), if_neg e, Int.add_zero]; rfl

theorem Rel.move {R : RL} {L : Led} (h : Rel R L) {s t : ByteArray} {n : Int} (h0 : L.moveE (reqOf s) (reqOf t) s n = 0) : Rel (R.move s t n) (L.does (reqOf s) 0 0 [(s, -n), (t, n)]) := by
  obtain ⟨n0, r0, hrt, hsm, hn⟩ := moveE_ok h0
  have hl : (L.does (reqOf s) 0 0 [(s, -n), (t, n)]).left = upd (upd L.left s (-n)) t n := rfl
  have hs : ∀ k, (L.does (reqOf s) 0 0 [(s, -n), (t, n)]).sums k = L.sums k := fun k => by
    show (if k = reqOf s then some ((L.sum (reqOf s)).1 + 0, (L.sum (reqOf s)).2 + 0) else L.sums k) = _
    split
    · rename_i e
      subst e
      cases e2 : L.sums (reqOf s) with
      | none => rw [e2] at hsm; cases hsm
      | some x => unfold Led.sum; rw [e2]; simp
    · rfl
  have hsum : ∀ k, (L.does (reqOf s) 0 0 [(s, -n), (t, n)]).sum k = L.sum k := fun k => by show ((L.does (reqOf s) 0 0 [(s, -n), (t, n)]).sums k).getD (0, 0) = _; rw [hs]; rfl
  refine ⟨fun u => ?_, fun k hk => ?_, fun k hk => ?_, (names_put (names_put h.nh).1).1, h.nm, h.ns, h.fm, h.fs, fun k => ?_⟩
  · rw [hl]; show _ = (ofR (putR (putR R.has s (-n)) t n) u).getD 0
    rw [ofR_put, ofR_put, ofR_put]
    unfold upd
    rw [h.has, h.has, h.has]
    by_cases e1 : u = t
    · subst e1; rw [if_pos rfl, if_pos rfl]
      by_cases e2 : u = s
      · subst e2; rw [if_pos rfl, if_pos rfl]; rfl
      · rw [if_neg e2, if_neg e2]; rfl
    · rw [if_neg e1, if_neg e1]
      by_cases e2 : u = s
      · subst e2; rw [if_pos rfl, if_pos rfl]; rfl
      · rw [if_neg e2, if_neg e2]
  · rw [hs]; exact h.made k hk
  · rw [hs]; exact h.spent k hk
  · show sumR (putR (putR R.has s (-n)) t n) k = _
    rw [sumR_put (names_put h.nh).1, sumR_put h.nh, h.sum k, hsum, hrt]
    split <;> omega

theorem Rel.spend {R : RL} {L : Led} (h : Rel R L) {s : ByteArray} {n : Int} (h0 : L.spendE (reqOf s) s n = 0) : Rel (R.spend s n) (L.does (reqOf s) 0 n [(s, -n)]) := by
  obtain ⟨n0, r0, hsm, hn⟩ := spendE_ok h0
  have hr0 := reqOf_nonneg s
  have hl : ∀ u, (L.does (reqOf s) 0 n [(s, -n)]).left u = if u = s then L.left s + -n else L.left u := fun u => rfl
  have hs : ∀ k, (L.does (reqOf s) 0 n [(s, -n)]).sums k = if k = reqOf s then some ((L.sum (reqOf s)).1 + 0, (L.sum (reqOf s)).2 + n) else L.sums k := fun k => rfl
  obtain ⟨x, hx⟩ := Option.isSome_iff_exists.1 hsm
  have hq : L.sum (reqOf s) = x := by unfold Led.sum; rw [hx]; rfl
  refine ⟨fun u => ?_, fun k hk => ?_, fun k hk => ?_, (names_put h.nh).1, h.nm, (names_put h.ns).1, h.fm, mem_put (P := IsDec) h.fs ⟨_, hr0, rfl⟩, fun k => ?_⟩
  · rw [hl]; show _ = (ofR (putR R.has s (-n)) u).getD 0
    rw [ofR_put, h.has, h.has]
    split <;> rfl
  · rw [hs]; show ofR R.made (dec k) = _
    rw [h.made k hk]
    by_cases e : k = reqOf s
    · subst e; rw [if_pos rfl, hq, hx]; simp
    · rw [if_neg e]
  · rw [hs]; show ofR (putR R.spent (dec (reqOf s)) n) (dec k) = _
    rw [ofR_put]
    by_cases e : k = reqOf s
    · subst e; rw [if_pos rfl, if_pos rfl, h.spent _ hk, hq, hx]; rfl
    · rw [if_neg (fun e2 => e (dec_inj hr0 hk e2)), if_neg e]; exact h.spent k hk
  · show sumR (putR R.has s (-n)) k = _
    rw [sumR_put h.nh, h.sum k]
    show _ = (((L.does (reqOf s) 0 n [(s, -n)]).sums k).getD (0, 0)).1 - (((L.does (reqOf s) 0 n [(s, -n)]).sums k).getD (0, 0)).2
    rw [hs]
    by_cases e : k = reqOf s
    · subst e; rw [if_pos rfl, if_pos rfl]; simp only [Option.getD_some]; omega
    · rw [if_neg (fun e2 => e e2.symm), if_neg e, Int.add_zero]; rfl

/-- Bounds of what stands in it. -/
theorem Rel.bd {R : RL} {L : Led} (h : Rel R L) (hok : L.Ok) : (∀ x ∈ R.has, 0 ≤ x.2 ∧ x.2 ≤ 2147483647) ∧ (∀ x ∈ R.made, 0 ≤ x.2 ∧ x.2 ≤ 2147483647) ∧ ∀ x ∈ R.spent, 0 ≤ x.2 ∧ x.2 ≤ 2147483647 := by
  refine ⟨fun x hx => ?_, fun x hx => ?_, fun x hx => ?_⟩
  · have h1 := h.has x.1
    rw [ofR_mem h.nh hx] at h1
    have h2 := hok.left_most x.1
    rw [h1] at h2; exact h2
  · obtain ⟨r, hr, e⟩ := h.fm x hx
    have h1 := h.made r hr
    rw [← e, ofR_mem h.nm hx] at h1
    cases e2 : L.sums r with
    | none => rw [e2] at h1; cases h1
    | some y =>
      rw [e2] at h1
      injection h1 with h1
      have h1 : x.2 = y.1 := h1
      have h3 := hok.most r; have h4 := hok.held r; have h5 := hok.spent r
      unfold Led.sum at h3 h4 h5
      rw [e2] at h3 h4 h5
      simp only [Option.getD_some] at h3 h4 h5
      rw [h1]; omega
  · obtain ⟨r, hr, e⟩ := h.fs x hx
    have h1 := h.spent r hr
    rw [← e, ofR_mem h.ns hx] at h1
    cases e2 : L.sums r with
    | none => rw [e2] at h1; cases h1
    | some y =>
      rw [e2] at h1
      injection h1 with h1
      have h1 : x.2 = y.2 := h1
      have h3 := hok.most r; have h4 := hok.held r; have h5 := hok.spent r
      unfold Led.sum at h3 h4 h5
      rw [e2] at h3 h4 h5
      simp only [Option.getD_some] at h3 h4 h5
      rw [h1]; omega

end Go.Proofs.YtedoalpijbggiaaDoor
