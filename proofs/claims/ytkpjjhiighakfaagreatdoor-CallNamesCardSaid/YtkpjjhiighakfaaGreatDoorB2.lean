/- The keys of a map of ints, sorted: (*Call).Open. -/
import Derived.Test.YtkpjjhiighakfaaGreatDoorPlain
import Derived.Test.YtkpjjhiighakfaaGreatDoorB1
import Derived.Test.YtkpjjhiighakfaaGreatDoorMap
import Derived.Test.YtkpjjhiighakfaaGreatDoorIn
namespace Go.Proofs.YtkpjjhiighakfaaGreatDoor
open Go.RowKit Go.Maps Go.Sort Go.Shelf

theorem insert_perm {H : Type} (x : Lit × DataW H) : ∀ l : List (Lit × DataW H), (DataW.insert x l).Perm (x :: l)
  | [] => List.Perm.refl _
  | y :: r => by
    unfold DataW.insert
    split
    · exact List.Perm.refl _
    · exact ((insert_perm x r).cons y).trans (List.Perm.swap x y r)
theorem inserts_perm {H : Type} (l : List (Lit × DataW H)) : (l.foldr DataW.insert []).Perm l := by
  induction l with
  | nil => exact List.Perm.refl _
  | cons x l ih => exact (insert_perm x _).trans (ih.cons x)

abbrev mapI (n : Int) : Value := .int .i64 n
def anyR (_ : Value) : Option (DataW Unit × List MemPlace) := some (.nil, [])
def keysD (m : List (Int × Value)) : List (Lit × DataW Unit) := m.map fun p => (.int .i64 p.1, .nil)
def mapD (m : List (Int × Value)) : DataW Unit := .map ((keysD m).foldr DataW.insert [])

theorem keysD_perm (m : List (Int × Value)) : (intKeys (mapD m)).Perm (m.map (·.1)) := by
  have h := (inserts_perm (keysD m)).map (fun p => Go.intOf p.1)
  unfold mapD intKeys
  refine h.trans ?_
  unfold keysD
  rw [List.map_map]
  exact List.Perm.refl _

theorem mapD_size (m : List (Int × Value)) : Maps.size (mapD m) = m.length := by
  show ((keysD m).foldr DataW.insert []).length = _
  rw [(inserts_perm (keysD m)).length_eq]
  unfold keysD; rw [List.length_map]

theorem owns_of {w : World} {mb : Nat} {m : List (Int × Value)} (h : MapAt mapI w mb m) (hwf : ∀ p ∈ m, (Lit.int .i64 p.1).wf = true) (hlen : m.length ≤ maxLen) :
    w.ownsMap Tryz.prog 3 anyR mb m.length (mapD m) := by
  obtain ⟨hnd, es, clock, hb, hes, hbn, hbc⟩ := h
  have hsz : es.size = m.length := by have := congrArg List.length hes; simpa using this
  have hkey : ∀ x ∈ es.toList, ∃ n, x.key = .int .i64 n ∧ (Lit.int .i64 n).wf = true := by
    intro x hx
    have : (x.key, x.val) ∈ m.map (fun p => (mapI p.1, p.2)) := by rw [← hes]; exact List.mem_map.2 ⟨x, hx, rfl⟩
    obtain ⟨p, hp, he⟩ := List.mem_map.1 this
    exact ⟨p.1, (congrArg Prod.fst he).symm, hwf p hp⟩
  have hrd : ∀ x ∈ es.toList, ∀ n, x.key = .int .i64 n → (Lit.int .i64 n).wf = true → Go.WideElems.rd Tryz.prog 3 anyR x = some (.int .i64 n, .nil) := by
    intro x _ n hn hw
    unfold Go.WideElems.rd
    rw [hn, keyOf_int_mk Tryz.underlying3 hw]
    rfl
  refine ⟨es, clock, hb, ⟨by omega, ⟨hbc, hbn, ?_⟩, fun x hx => ?_⟩, by omega, ?_⟩
  · have e1 : es.toList.map (·.key) = (m.map (·.1)).map mapI := by
      have := congrArg (List.map Prod.fst) hes
      rw [List.map_map, List.map_map] at this
      rw [List.map_map]; exact this
    rw [e1]
    exact List.pairwise_map.2 (hnd.imp (fun h e => h (by simpa using e)))
  · obtain ⟨n, hn, hw⟩ := hkey x hx
    exact ⟨_, hrd x hx n hn hw⟩
  · unfold mapD
    congr 2
    have e2 : es.toList.map (Go.WideElems.rg Tryz.prog 3 anyR) = (es.toList.map (fun e => (e.key, e.val))).map (fun kv => (match kv.1 with | .int _ n => (Lit.int .i64 n, DataW.nil) | _ => (.bool false, .nil))) := by
      rw [List.map_map]
      refine List.map_congr_left fun x hx => ?_
      obtain ⟨n, hn, hw⟩ := hkey x hx
      unfold Go.WideElems.rg
      rw [hrd x hx n hn hw]
      simp [hn]
    rw [e2, hes, List.map_map]
    rfl

theorem sortsA (m : Nat) : AnyZI.SortsIn Tryz.prog Tryz.sortedA_ren Fence.wide m :=
  ⟨fun blk off cap ss W hH hblk hsz => callsIn_wide.2 (AnyM.slices_Sort_int Tryz.sortA blk off cap ss W hH hblk hsz),
   fun p cap W => callsIn_wide.2 (AnyM.slices_Sort_int_none Tryz.sortA p cap W)⟩

set_option maxHeartbeats 1000000 in
theorem openraw {w : World} {cb mb : Nat} {m : List (Int × Value)} (hc : w.cell? ⟨cb, 17, none⟩ = some (.map (some mb))) (h : MapAt mapI w mb m) (hwf : ∀ p ∈ m, (Lit.int .i64 p.1).wf = true) (hlen : m.length ≤ 1000000) :
    Calls Tryz.prog 30 #[.pointer (some ⟨cb, 0, none⟩)] w fun e w' => ∃ (v : Value) (ss : List Int), e = .returned v ∧ ss.Perm (m.map (·.1)) ∧
      w'.ownsRow w.heap.size 3 1 v ss.length ((ss.mergeSort (fun x y => decide (x ≤ y))).map encZ) ∧ Below w.heap.size w w' := by
  refine (callsIn_wide (n := 6)).1 ?_
  have hown := owns_of h hwf (by unfold maxLen; omega)
  have hbl := hown.lt
  have hsz := mapD_size m
  have hseq : SeqGives Fence.wide 2 Tryz.prog 66 #[.pointer (some ⟨w.heap.size, 0, none⟩)] encZ (fun ss => ss.Perm (intKeys (mapD m))) (Maps.size (mapD m)) (w.alloc (.cells #[.map (some mb)] 54)) :=
    AnyZI.keys_gives (ρ := Tryz.keysA_ren) { Tryz.keysA with } Fence.wide _ trivial rfl (by omega) w.heap.size mb m.length (mapD m) _ (by simp) (by simp) (by
      obtain ⟨es, clock, hb, Ft, hs, hD⟩ := hown
      exact ⟨es, clock, (Below.heap_alloc _ _ mb hbl).trans hb, Ft, hs, hD⟩)
  have cK : ∀ mb W, CallsIn Fence.wide 5 Tryz.prog 50 #[.map mb] W fun e w' => e = .returned (.func (.func 66) #[] #[.pointer (some ⟨W.heap.size, 0, none⟩)]) ∧ w' = W.alloc (.cells #[.map mb] 54) := fun mb W => AnyZI.keys_in Tryz.keysA Fence.wide 5 trivial rfl mb W
  have cS := AnyZI.sorted_in Tryz.sortedA Fence.wide 5 trivial trivial trivial trivial rfl (by omega) (sortsA _) (enters_of Tryz.func65 (by kernel_rfl) rfl) 66 #[.pointer (some ⟨w.heap.size, 0, none⟩)] trivial (enters_of Tryz.func66 (by kernel_rfl) rfl) _ _ (by rw [hsz]; unfold maxLen; omega) (by rw [hsz]; omega) _ hseq
  change CallsIn _ _ Tryz.prog 49 _ _ _ at cS
  have hfK : Fence.wide.fn 50 := trivial
  have hfS : Fence.wide.fn 49 := trivial
  have hkp := keysD_perm m
  clear hown h hwf hseq
  refine callsIn_of_wp Tryz.func30 rfl trivial ?_ rfl
  simp only [Tryz.ntmps30, List.size_toArray, List.length_cons, List.length_nil, Nat.reduceAdd, Nat.reduceSub, Array.replicate_succ, Array.replicate_zero, List.push_toArray, List.append_toArray, List.nil_append, List.cons_append]
  gi_wp2_with (first
    | (gi_at_call 50; refine (cK _ _).mono ?_; rintro e w' ⟨rfl, rfl⟩)
    | (gi_at_call 49; refine cS.mono ?_; rintro e w' ⟨v, ss, rfl, hS, hrow, hnil, hb⟩))
  go_ret
  exact ⟨v, ss, rfl, hS.trans hkp, ownsRow_base_a hrow (by simp), ((Below.refl _ w).alloc (Nat.le_refl _) _).trans (hb.mono (by simp))⟩

theorem ownsRow_ints {w : World} {base : Nat} {v : Value} {l : List Int} (h : w.ownsRow base 3 1 v l.length (l.map encZ)) (hl : l.length ≤ 4611686018427387903) :
    ∃ sb, IntsAt w v l sb ∧ ∀ g, sb = some g → base ≤ g := by
  obtain ⟨hx, h | ⟨g, cap, cur, rfl, hg, hb, hn, hm, hs, ht⟩⟩ := h
  · obtain ⟨rfl, h0⟩ := h
    obtain rfl := List.eq_nil_of_length_eq_zero h0
    exact ⟨none, RowAt.nil _ _ _, fun _ hg => nomatch hg⟩
  · exact ⟨some g, ⟨hx, hl, .inr ⟨g, 0, cap, cur, rfl, rfl, hb, hn, hm, by omega, by rw [List.drop_zero]; exact ht⟩⟩, fun k hk => by cases hk; exact hg⟩

/-- What Open tells: the keys, where they rise as they stand. -/
def OpenPost (w : World) (l : List Int) (e : Ending) (w' : World) : Prop :=
  ∃ v sb, e = .returned v ∧ IntsAt w' v l sb ∧ (∀ g, sb = some g → w.heap.size ≤ g) ∧ Below w.heap.size w w'

theorem open_any {w : World} {cb mb : Nat} {m : List (Int × Value)} (hc : w.cell? ⟨cb, 17, none⟩ = some (.map (some mb))) (h : MapAt mapI w mb m) (hwf : ∀ p ∈ m, (Lit.int .i64 p.1).wf = true) (hlen : m.length ≤ 1000000) (hs : (m.map (·.1)).Pairwise (· ≤ ·)) :
    Calls Tryz.prog 30 #[.pointer (some ⟨cb, 0, none⟩)] w (OpenPost w (m.map (·.1))) := by
  refine (openraw hc h hwf hlen).mono ?_
  rintro e w' ⟨v, ss, rfl, hp, hrow, hb⟩
  have hl : ss.length = m.length := by rw [hp.length_eq, List.length_map]
  have e1 : ss.mergeSort (fun x y => decide (x ≤ y)) = m.map (·.1) := by
    have := mergeSort_of_perm_i hp
    rw [this]
    refine List.mergeSort_of_pairwise (hs.imp fun h => ?_)
    simpa using h
  rw [e1, hl, ← List.length_map (f := fun p : Int × Value => p.1)] at hrow
  obtain ⟨sb, h1, h2⟩ := ownsRow_ints hrow (by rw [List.length_map]; omega)
  exact ⟨v, sb, rfl, h1, h2, hb⟩

end Go.Proofs.YtkpjjhiighakfaaGreatDoor
