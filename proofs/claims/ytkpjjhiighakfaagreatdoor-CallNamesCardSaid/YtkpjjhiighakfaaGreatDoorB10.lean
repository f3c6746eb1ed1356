/- next: the data of a range over the open attempts. -/
import Derived.Test.YtkpjjhiighakfaaGreatDoorB9
import Derived.Maps.RangeWalk
namespace Go.Proofs.YtkpjjhiighakfaaGreatDoor
open Go.RowKit Go.Maps

/-- How an attempt reads: by its tick alone. -/
noncomputable def atR (v : Value) : Option (DataW Unit × List MemPlace) := by
  classical exact if h : ∃ x, v = attVal x then some (.lit (.int .i64 h.choose.1), []) else none
theorem atR_att (x : Int × Cx) : atR (attVal x) = some (.lit (.int .i64 x.1), []) := by
  have h : ∃ y, attVal x = attVal y := ⟨x, rfl⟩
  have e : x.1 = h.choose.1 := by
    have hs := h.choose_spec
    generalize h.choose = z at hs ⊢
    unfold attVal at hs
    simp only [Value.agg.injEq, Array.mk.injEq, List.cons.injEq, Value.int.injEq] at hs
    exact hs.1.2
  unfold atR
  rw [dif_pos h, ← e]
theorem atR_inv {v : Value} {y : DataW Unit × List MemPlace} (h : atR v = some y) : ∃ x, v = attVal x := by
  unfold atR at h
  split at h
  · assumption
  · cases h

def keysA (l : List (Int × Int × Cx)) : List (Lit × DataW Unit) := l.map fun x => (.int .i64 x.1, .lit (.int .i64 x.2.1))
def mapA (l : List (Int × Int × Cx)) : DataW Unit := .map ((keysA l).foldr DataW.insert [])

theorem ownsA {w : World} {mb : Nat} {S : CS} (h : MapAt mapI w mb (openM S)) (hwf : ∀ x ∈ S.open_, (Lit.int .i64 x.1).wf = true) (hlen : S.open_.length ≤ maxLen) :
    w.ownsMap Tryz.prog 3 atR mb S.open_.length (mapA S.open_) := by
  obtain ⟨hnd, es, clock, hb, hes, hbn, hbc⟩ := h
  have hsz : es.size = S.open_.length := by have := congrArg List.length hes; simpa [openM] using this
  have hent : ∀ x ∈ es.toList, ∃ o ∈ S.open_, x.key = .int .i64 o.1 ∧ x.val = attVal o.2 := by
    intro x hx
    have : (x.key, x.val) ∈ (openM S).map (fun p => (mapI p.1, p.2)) := by rw [← hes]; exact List.mem_map.2 ⟨x, hx, rfl⟩
    obtain ⟨p, hp, he⟩ := List.mem_map.1 this
    obtain ⟨o, ho, rfl⟩ := List.mem_map.1 hp
    exact ⟨o, ho, (congrArg Prod.fst he).symm, (congrArg Prod.snd he).symm⟩
  have hrd : ∀ x ∈ es.toList, ∀ o : Int × Int × Cx, (Lit.int .i64 o.1).wf = true → x.key = .int .i64 o.1 → x.val = attVal o.2 → Go.WideElems.rd Tryz.prog 3 atR x = some (.int .i64 o.1, .lit (.int .i64 o.2.1)) := by
    intro x _ o hw hk hv
    unfold Go.WideElems.rd
    rw [hk, keyOf_int_mk Tryz.underlying3 hw, hv, atR_att]
    rfl
  refine ⟨es, clock, hb, ⟨by omega, ⟨hbc, hbn, ?_⟩, fun x hx => ?_⟩, by omega, ?_⟩
  · have e1 : es.toList.map (·.key) = ((openM S).map (·.1)).map mapI := by
      have := congrArg (List.map Prod.fst) hes
      rw [List.map_map, List.map_map] at this
      rw [List.map_map]; exact this
    rw [e1]
    exact List.pairwise_map.2 (hnd.imp (fun h e => h (by simpa using e)))
  · obtain ⟨o, ho, hk, hv⟩ := hent x hx
    exact ⟨_, hrd x hx o (hwf o ho) hk hv⟩
  · unfold mapA
    congr 2
    apply List.ext_getElem?
    intro i
    have hi := congrArg (fun l => l[i]?) hes
    simp only [List.getElem?_map] at hi
    unfold keysA
    rw [List.getElem?_map, List.getElem?_map]
    unfold openM at hi
    rw [List.getElem?_map] at hi
    cases ho : S.open_[i]? with
    | none =>
      rw [ho] at hi
      cases he : es.toList[i]? with
      | none => rfl
      | some e => rw [he] at hi; simp at hi
    | some o =>
      rw [ho] at hi
      cases he : es.toList[i]? with
      | none => rw [he] at hi; simp at hi
      | some e =>
        rw [he] at hi
        simp only [Option.map_some, Option.some.injEq, Prod.mk.injEq] at hi
        simp only [Option.map_some, Option.some.injEq]
        unfold Go.WideElems.rg
        rw [hrd e (List.mem_of_getElem? he) o (hwf o (List.mem_of_getElem? ho)) hi.1 hi.2]
        rfl

/-- What comes is of an attempt that is open. -/
theorem atKey_open {l : List (Int × Int × Cx)} {x a : Int} (h : ∀ zd, (mapA l).atKey (.int .i64 x) zd = .lit (.int .i64 a)) : ∃ o ∈ l, o.1 = x ∧ o.2.1 = a := by
  have h0 := h .nil
  unfold mapA DataW.atKey at h0
  simp only at h0
  split at h0
  · rename_i p hp
    have hm := List.mem_of_find?_eq_some hp
    have hs := List.find?_some hp
    have hm' := (inserts_perm (keysA l)).mem_iff.1 hm
    obtain ⟨o, ho, rfl⟩ := List.mem_map.1 hm'
    refine ⟨o, ho, ?_, ?_⟩
    · simpa [Lit.sameKey] using hs
    · simpa using h0
  · cases h0

/-- Each open attempt is there. -/
theorem has_open' {l : List (Int × Int × Cx)} {o : Int × Int × Cx} (h : o ∈ l) : Maps.has (mapA l) (.int .i64 o.1) = true := by
  unfold mapA
  rw [has_eq, List.any_eq_true]
  exact ⟨(.int .i64 o.1, .lit (.int .i64 o.2.1)), (inserts_perm (keysA l)).mem_iff.2 (List.mem_map.2 ⟨o, h, rfl⟩), by simp [Lit.sameKey]⟩

end Go.Proofs.YtkpjjhiighakfaaGreatDoor
