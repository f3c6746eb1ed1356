/- Maps as lists of keys and values: what a lookup, a store and a delete do to them. -/
import Derived.Test.YtedoalpijbggiaaDoorBase
namespace Go.Proofs.YtedoalpijbggiaaDoor
open Go.RowKit

theorem map_eraseIdx' {α β : Type} (f : α → β) : ∀ (l : List α) (i : Nat), (l.eraseIdx i).map f = (l.map f).eraseIdx i
  | [], _ => rfl
  | _ :: _, 0 => rfl
  | _ :: l, i + 1 => by simp [List.eraseIdx, map_eraseIdx' f l i]
theorem modify_set' {α : Type} (f : α → α) : ∀ (l : List α) (i : Nat) (x : α), l[i]? = some x → l.modify i f = l.set i (f x)
  | [], _, _, h => by simp at h
  | _ :: _, 0, x, h => by simp at h; subst h; rfl
  | _ :: l, i + 1, x, h => by simp at h; simp [modify_set' f l i x h]
theorem set_same' {α : Type} : ∀ (l : List α) (i : Nat) (x : α), l[i]? = some x → l.set i x = l
  | [], _, _, h => by simp at h
  | _ :: _, 0, x, h => by simp at h; subst h; rfl
  | _ :: l, i + 1, x, h => by simp at h; simp [set_same' l i x h]
theorem bytes_beq (a b : ByteArray) : (a == b) = decide (a = b) := by
  cases a; cases b
  rename_i x y
  show (x == y) = _
  rw [Bool.eq_iff_iff]
  simp

section
variable {κ : Type} [DecidableEq κ]

/-- The place of a key, and what stands there. -/
def mfind (k : κ) : List (κ × Value) → Nat → Option (Nat × Value)
  | [], _ => none
  | p :: m, i => if p.1 = k then some (i, p.2) else mfind k m (i + 1)

def mget (m : List (κ × Value)) (k : κ) : Option Value := (mfind k m 0).map (·.2)
def mset (m : List (κ × Value)) (k : κ) (v : Value) : List (κ × Value) :=
  match mfind k m 0 with
  | some (j, _) => m.set j (k, v)
  | none => m ++ [(k, v)]
def mdel (m : List (κ × Value)) (k : κ) : List (κ × Value) :=
  match mfind k m 0 with
  | some (j, _) => m.eraseIdx j
  | none => m

theorem mfind_shift (k : κ) (m : List (κ × Value)) (i : Nat) : mfind k m (i + 1) = (mfind k m i).map fun x => (x.1 + 1, x.2) := by
  induction m generalizing i with
  | nil => rfl
  | cons p m ih => unfold mfind; split
                   · rfl
                   · exact ih _

theorem mget_nil (k : κ) : mget [] k = none := rfl
theorem mget_cons (p : κ × Value) (m : List (κ × Value)) (k : κ) : mget (p :: m) k = if p.1 = k then some p.2 else mget m k := by
  unfold mget; rw [mfind]; split
  · rfl
  · rw [mfind_shift]; cases mfind k m 0 <;> rfl

theorem mget_none {m : List (κ × Value)} {k : κ} : mget m k = none ↔ ∀ p ∈ m, p.1 ≠ k := by
  induction m with
  | nil => simp [mget_nil]
  | cons p m ih => rw [mget_cons]; split
                   · simp [*]
                   · simp [*]

theorem mget_some_mem {m : List (κ × Value)} {k : κ} {v : Value} (h : mget m k = some v) : (k, v) ∈ m := by
  induction m with
  | nil => simp [mget_nil] at h
  | cons p m ih =>
    rw [mget_cons] at h
    split at h
    · rename_i e; cases h; subst e; exact List.mem_cons_self
    · exact List.mem_cons_of_mem _ (ih h)

theorem mset_nil (k : κ) (v : Value) : mset [] k v = [(k, v)] := rfl
theorem mset_cons (p : κ × Value) (m : List (κ × Value)) (k : κ) (v : Value) : mset (p :: m) k v = if p.1 = k then (k, v) :: m else p :: mset m k v := by
  unfold mset; rw [mfind]
  split
  · rename_i j x h; split at h
    · rename_i e; cases h; rw [if_pos e]; rfl
    · rename_i e; rw [if_neg e]; rw [mfind_shift] at h
      cases h' : mfind k m 0 with
      | none => rw [h'] at h; cases h
      | some y => rw [h'] at h; cases h; rfl
  · rename_i h; split at h
    · cases h
    · rename_i e; rw [if_neg e]; rw [mfind_shift] at h
      cases h' : mfind k m 0 with
      | none => rfl
      | some y => rw [h'] at h; cases h
theorem mdel_nil (k : κ) : mdel ([] : List (κ × Value)) k = [] := rfl
theorem mdel_cons (p : κ × Value) (m : List (κ × Value)) (k : κ) : mdel (p :: m) k = if p.1 = k then m else p :: mdel m k := by
  unfold mdel; rw [mfind]
  split
  · rename_i j x h; split at h
    · rename_i e; cases h; rw [if_pos e]; rfl
    · rename_i e; rw [if_neg e]; rw [mfind_shift] at h
      cases h' : mfind k m 0 with
      | none => rw [h'] at h; cases h
      | some y => rw [h'] at h; cases h; rfl
  · rename_i h; split at h
    · cases h
    · rename_i e; rw [if_neg e]; rw [mfind_shift] at h
      cases h' : mfind k m 0 with
      | none => rfl
      | some y => rw [h'] at h; cases h

theorem mget_mset (m : List (κ × Value)) (k k' : κ) (v : Value) : mget (mset m k v) k' = if k = k' then some v else mget m k' := by
  induction m with
  | nil => rw [mset_nil, mget_cons]
  | cons p m ih =>
    rw [mset_cons]
    by_cases h : p.1 = k
    · rw [if_pos h, mget_cons, mget_cons]
      by_cases h' : k = k'
      · simp [h']
      · simp [h', h]
    · rw [if_neg h, mget_cons, mget_cons, ih]
      by_cases h' : p.1 = k'
      · rw [if_pos h', if_pos h', if_neg (fun e => h (h'.trans e.symm))]
      · rw [if_neg h', if_neg h']

theorem keys_mset (m : List (κ × Value)) (k : κ) (v : Value) : (mset m k v).map (·.1) = if k ∈ m.map (·.1) then m.map (·.1) else m.map (·.1) ++ [k] := by
  induction m with
  | nil => simp [mset_nil]
  | cons p m ih =>
    rw [mset_cons]
    by_cases h : p.1 = k
    · rw [if_pos h]; simp [h]
    · rw [if_neg h, List.map_cons, ih]
      have : ¬ k = p.1 := fun e => h e.symm
      simp only [List.map_cons, List.mem_cons, this, false_or]
      split <;> rfl

theorem mdel_sub (m : List (κ × Value)) (k : κ) : List.Sublist (mdel m k) m := by
  induction m with
  | nil => exact List.Sublist.refl _
  | cons p m ih => rw [mdel_cons]; split
                   · exact List.sublist_cons_self _ _
                   · exact List.Sublist.cons_cons _ ih

theorem mget_mdel (m : List (κ × Value)) (k k' : κ) (hn : (m.map (·.1)).Nodup) : mget (mdel m k) k' = if k = k' then none else mget m k' := by
  induction m with
  | nil => simp [mdel_nil, mget_nil]
  | cons p m ih =>
    rw [List.map_cons, List.nodup_cons] at hn
    rw [mdel_cons]
    by_cases h : p.1 = k
    · rw [if_pos h, mget_cons]
      by_cases h' : k = k'
      · rw [if_pos h', mget_none.2]
        intro q hq e
        exact hn.1 (List.mem_map.2 ⟨q, hq, e.trans (h'.symm.trans h.symm)⟩)
      · rw [if_neg h', if_neg (fun e => h' (h.symm.trans e))]
    · rw [if_neg h, mget_cons, mget_cons, ih hn.2]
      by_cases h' : p.1 = k'
      · rw [if_pos h', if_pos h', if_neg (fun e => h (h'.trans e.symm))]
      · rw [if_neg h', if_neg h']

theorem nodup_mset {m : List (κ × Value)} (hn : (m.map (·.1)).Nodup) (k : κ) (v : Value) : ((mset m k v).map (·.1)).Nodup := by
  rw [keys_mset]
  split
  · exact hn
  · rename_i h
    rw [List.nodup_append]
    refine ⟨hn, by simp, fun a ha b hb e => ?_⟩
    simp at hb; subst hb; subst e; exact h ha
theorem nodup_mdel {m : List (κ × Value)} (hn : (m.map (·.1)).Nodup) (k : κ) : ((mdel m k).map (·.1)).Nodup := hn.sublist ((mdel_sub m k).map _)

theorem mfind_get {k : κ} {m : List (κ × Value)} {j : Nat} {v : Value} (h : mfind k m 0 = some (j, v)) : m[j]? = some (k, v) := by
  induction m generalizing j with
  | nil => cases h
  | cons p m ih =>
    rw [mfind] at h
    split at h
    · rename_i e; cases h; subst e; rfl
    · rw [mfind_shift] at h
      cases h' : mfind k m 0 with
      | none => rw [h'] at h; cases h
      | some y => rw [h'] at h; cases h; exact ih h'

/-- How keys of a type are told apart. -/
structure KeyLaw (P : Program) (K : TypeId) (enc : κ → Value) : Prop where
  now : ∃ d, P.underlying K = some d ∧ ∀ a b, Instr.sameNow d (enc a) (enc b) = some (decide (a = b))
  check : ∀ b k w, (Instr.checkKey b 10000 K (enc k)).run P w = .ok () w
  bits : ∀ k, Instr.sameBits 10000 (enc k) (enc k) = true

theorem int_law {P : Program} {K : TypeId} {q : IntKind} (h : P.underlying K = some (.int q)) : KeyLaw P K (fun n : Int => Value.int q n) := by
  refine ⟨⟨_, h, fun a b => ?_⟩, fun b k w => ?_, fun k => ?_⟩
  · simp [Instr.sameNow]; rfl
  · have : ∀ n, (Instr.checkKey b (n + 1) K (.int q k)).run P w = .ok () w := fun n => by simp [Instr.checkKey, run_underlying h]
    exact this 9999
  · simp [Instr.sameBits]

theorem string_law {P : Program} {K : TypeId} (h : P.underlying K = some .string) : KeyLaw P K (fun s : ByteArray => Value.string s) := by
  refine ⟨⟨_, h, fun a b => ?_⟩, fun b k w => ?_, fun k => ?_⟩
  · simp [Instr.sameNow, bytes_beq]
  · have : ∀ n, (Instr.checkKey b (n + 1) K (.string k)).run P w = .ok () w := fun n => by simp [Instr.checkKey, run_underlying h]
    exact this 9999
  · simp [Instr.sameBits, bytes_beq]

/-- Block mb is a map that holds m. -/
def MapAt (enc : κ → Value) (w : World) (mb : Nat) (m : List (κ × Value)) : Prop :=
  (m.map (·.1)).Nodup ∧ ∃ es clock, w.heap[mb]? = some (.map es clock) ∧ es.toList.map (fun e => (e.key, e.val)) = m.map (fun p => (enc p.1, p.2)) ∧
    (es.toList.map (·.born)).Nodup ∧ ∀ e ∈ es.toList, e.born < clock

omit [DecidableEq κ] in
theorem MapAt.keep {enc : κ → Value} {w w' : World} {mb : Nat} {m : List (κ × Value)} (h : MapAt enc w mb m) (hb : w'.heap[mb]? = w.heap[mb]?) : MapAt enc w' mb m := by
  obtain ⟨h0, es, c, h1, r⟩ := h
  exact ⟨h0, es, c, hb.trans h1, r⟩

omit [DecidableEq κ] in
theorem MapAt.lt {enc : κ → Value} {w : World} {mb : Nat} {m : List (κ × Value)} (h : MapAt enc w mb m) : mb < w.heap.size := by
  obtain ⟨h0, es, c, h1, r⟩ := h
  exact (Array.getElem?_eq_some_iff.1 h1).1

omit [DecidableEq κ] in
theorem mapAt_new (enc : κ → Value) (w : World) : MapAt enc (w.alloc (.map #[] 0)) w.heap.size [] :=
  ⟨by simp, #[], 0, heap_alloc_new w _, rfl, by simp, by simp⟩

theorem findNow_map {d : TypeDesc} {enc : κ → Value} (hd : ∀ a b, Instr.sameNow d (enc a) (enc b) = some (decide (a = b))) (k : κ) :
    ∀ (es : List MapEntry) (m : List (κ × Value)) (i : Nat), es.map (fun e => (e.key, e.val)) = m.map (fun p => (enc p.1, p.2)) → Instr.findNow d (enc k) es i = some (mfind k m i)
  | [], [], _, _ => rfl
  | [], p :: m, _, h => by simp at h
  | e :: es, [], _, h => by simp at h
  | e :: es, p :: m, i, h => by
    simp only [List.map_cons, List.cons.injEq, Prod.mk.injEq] at h
    obtain ⟨⟨h1, h2⟩, h3⟩ := h
    unfold Instr.findNow mfind
    rw [h1, hd]
    by_cases e : k = p.1
    · simp [e, h2]
    · have e' : ¬ p.1 = k := fun x => e x.symm
      simp only [e, decide_false, e', if_false]
      exact findNow_map hd k es m (i + 1) h3

section
variable {P : Program} {enc : κ → Value} {w : World} {mb : Nat} {m : List (κ × Value)} {T K E : TypeId}

theorem run_findKey {es : Array MapEntry} (L : KeyLaw P K enc) (h : es.toList.map (fun e => (e.key, e.val)) = m.map (fun p => (enc p.1, p.2))) (k : κ) :
    (Instr.findKey K (enc k) es.toList).run P w = .ok (mfind k m 0) w := by
  obtain ⟨d, hd, hs⟩ := L.now
  simp [Instr.findKey, run_underlying hd, findNow_map hs k es.toList m 0 h]

/-- 'm[k]', 'v, ok := m[k]'. -/
theorem run_lookup_at (L : KeyLaw P K enc) (h : MapAt enc w mb m) (ht : P.underlying T = some (.map K E)) {z : Value} (hz : (zeroValue E).run P w = .ok z w) (k : κ) (ok : Bool) :
    (Instr.lookup T (.map (some mb)) (enc k) ok).run P w = .ok (if ok then .tuple #[(mget m k).getD z, .bool (mget m k).isSome] else (mget m k).getD z) w := by
  obtain ⟨_, es, c, hb, he, _⟩ := h
  have hf := run_findKey (w := w) L he k
  have hc := L.check es.isEmpty k w
  unfold mget
  cases hm : mfind k m 0 with
  | none =>
    rw [hm] at hf
    simp [Instr.lookup, run_underlying ht, getObj, Sem.run, hb, hc, hf, hz]
  | some x =>
    rw [hm] at hf
    simp [Instr.lookup, run_underlying ht, getObj, Sem.run, hb, hc, hf]

theorem run_delete_at (L : KeyLaw P K enc) (h : MapAt enc w mb m) (ht : P.underlying T = some (.map K E)) (T' ty : TypeId) (k : κ) :
    ∃ w', (Builtin.delete_ #[T, T'] ty #[.map (some mb), enc k]).run P w = .ok (.tuple #[]) w' ∧ MapAt enc w' mb (mdel m k) ∧ w.grownBy w' (some mb) := by
  obtain ⟨hn, es, c, hb, he, hbn, hlt⟩ := h
  have hf := run_findKey (w := w) L he k
  have hc := L.check es.isEmpty k w
  have hmb : mb < w.heap.size := (Array.getElem?_eq_some_iff.1 hb).1
  have hg : ∀ o, w.grownBy { w with heap := w.heap.setIfInBounds mb o } (some mb) := fun o =>
    ⟨rfl, rfl, rfl, by simp, fun k _ hk => by show (w.heap.setIfInBounds mb o)[k]? = _; rw [Array.getElem?_setIfInBounds_ne (fun e => hk (by rw [e]))]⟩
  cases hm : mfind k m 0 with
  | none =>
    rw [hm] at hf
    refine ⟨{ w with heap := w.heap.setIfInBounds mb (.map es c) }, ?_, ?_, hg _⟩
    · simp [Builtin.delete_, run_underlying ht, getObj, setObj, Sem.run, hb, hc, hf]
    · have : mdel m k = m := by simp [mdel, hm]
      rw [this]
      exact ⟨hn, es, c, by show (w.heap.setIfInBounds mb _)[mb]? = _; rw [Array.getElem?_setIfInBounds_self_of_lt hmb], he, hbn, hlt⟩
  | some x =>
    obtain ⟨j, v⟩ := x
    rw [hm] at hf
    refine ⟨{ w with heap := w.heap.setIfInBounds mb (.map (es.eraseIdxIfInBounds j) c) }, ?_, ?_, hg _⟩
    · simp [Builtin.delete_, run_underlying ht, getObj, setObj, Sem.run, hb, hc, hf]
    · have e1 : mdel m k = m.eraseIdx j := by simp [mdel, hm]
      have e2 : (es.eraseIdxIfInBounds j).toList = es.toList.eraseIdx j := by simp
      refine ⟨nodup_mdel hn k, _, c, by show (w.heap.setIfInBounds mb _)[mb]? = _; rw [Array.getElem?_setIfInBounds_self_of_lt hmb], ?_, ?_, ?_⟩
      · rw [e1, e2, map_eraseIdx', map_eraseIdx', he]
      · rw [e2, map_eraseIdx']; exact hbn.sublist (List.eraseIdx_sublist _ _)
      · rw [e2]; exact fun e h => hlt e ((List.eraseIdx_sublist _ _).mem h)

theorem run_update_at (L : KeyLaw P K enc) (h : MapAt enc w mb m) (ht : P.underlying T = some (.map K E)) (k : κ) (v : Value) :
    ∃ w', (Instr.mapUpdate T (.map (some mb)) (enc k) v).run P w = .ok () w' ∧ MapAt enc w' mb (mset m k v) ∧ w.grownBy w' (some mb) := by
  obtain ⟨hn, es, c, hb, he, hbn, hlt⟩ := h
  have hf := run_findKey (w := w) L he k
  have hc := L.check false k w
  have hmb : mb < w.heap.size := (Array.getElem?_eq_some_iff.1 hb).1
  have hg : ∀ o, w.grownBy { w with heap := w.heap.setIfInBounds mb o } (some mb) := fun o =>
    ⟨rfl, rfl, rfl, by simp, fun k _ hk => by show (w.heap.setIfInBounds mb o)[k]? = _; rw [Array.getElem?_setIfInBounds_ne (fun e => hk (by rw [e]))]⟩
  cases hm : mfind k m 0 with
  | none =>
    rw [hm] at hf
    refine ⟨{ w with heap := w.heap.setIfInBounds mb (.map (es.push { key := enc k, val := v, born := c }) (c + 1)) }, ?_, ?_, hg _⟩
    · simp [Instr.mapUpdate, run_underlying ht, getObj, setObj, Sem.run, hb, hc, hf]
    · have e1 : mset m k v = m ++ [(k, v)] := by simp [mset, hm]
      refine ⟨nodup_mset hn k v, _, _, by show (w.heap.setIfInBounds mb _)[mb]? = _; rw [Array.getElem?_setIfInBounds_self_of_lt hmb], ?_, ?_, ?_⟩
      · rw [e1]; simp [he]
      · simp only [Array.toList_push, List.map_append, List.map_cons, List.map_nil]
        rw [List.nodup_append]
        refine ⟨hbn, by simp, fun a ha b hb' e => ?_⟩
        simp at hb'; subst hb'; subst e
        obtain ⟨x, hx, hx'⟩ := List.mem_map.1 ha
        have := hlt x hx; omega
      · intro e he'
        simp only [Array.toList_push, List.mem_append, List.mem_singleton] at he'
        rcases he' with h | h
        · exact Nat.lt_succ_of_lt (hlt e h)
        · subst h; exact Nat.lt_succ_self _
  | some x =>
    obtain ⟨j, v0⟩ := x
    rw [hm] at hf
    have hj := mfind_get hm
    have hes : ∃ e0, es.toList[j]? = some e0 ∧ e0.key = enc k := by
      have h1 : (es.toList.map (fun e => (e.key, e.val)))[j]? = some (enc k, v0) := by rw [he, List.getElem?_map, hj]; rfl
      rw [List.getElem?_map] at h1
      cases h2 : es.toList[j]? with
      | none => rw [h2] at h1; cases h1
      | some e0 => rw [h2] at h1; simp at h1; exact ⟨e0, rfl, h1.1⟩
    obtain ⟨e0, he0, hk0⟩ := hes
    have he0' : es[j]? = some e0 := by simpa using he0
    refine ⟨{ w with heap := w.heap.setIfInBounds mb (.map (es.modify j fun e => { e with key := enc k, val := v }) c) }, ?_, ?_, hg _⟩
    · simp [Instr.mapUpdate, run_underlying ht, getObj, setObj, Sem.run, hb, hc, hf, Instr.keyThatStays, he0', hk0, L.bits]
    · have e1 : mset m k v = m.set j (k, v) := by simp [mset, hm]
      have e2 : (es.modify j fun e => { e with key := enc k, val := v }).toList = es.toList.set j { e0 with key := enc k, val := v } := by
        rw [Array.toList_modify, modify_set' _ _ _ _ he0]
      refine ⟨nodup_mset hn k v, _, _, by show (w.heap.setIfInBounds mb _)[mb]? = _; rw [Array.getElem?_setIfInBounds_self_of_lt hmb], ?_, ?_, ?_⟩
      · rw [e1, e2, List.map_set, List.map_set, he]
      · rw [e2, List.map_set, set_same' _ _ _ (by rw [List.getElem?_map, he0]; rfl)]; exact hbn
      · rw [e2]
        intro e hmem
        rcases List.mem_or_eq_of_mem_set hmem with h | h
        · exact hlt e h
        · subst h; exact hlt e0 (List.mem_of_getElem? he0)
end
end

end Go.Proofs.YtedoalpijbggiaaDoor
