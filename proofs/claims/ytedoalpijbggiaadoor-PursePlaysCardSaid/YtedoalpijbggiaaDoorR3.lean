/- The document's ledger: Of, Put. -/
import Derived.Test.YtedoalpijbggiaaDoorR2
import Derived.Test.YtedoalpijbggiaaDoorRec
namespace Go.Proofs.YtedoalpijbggiaaDoor
open Go.RowKit Go.Lib
attribute [local go_sem ↓] Go.wp_at_zero Go.wp_at_succ

abbrev Ent := ByteArray × Int
def oneK : Kd Tryd.prog Ent where
  f := fun x => [.string x.1, .int .i64 x.2]
  s := 2
  bytes := 24
  T := 67
  T' := 27
  z := .agg #[.string ⟨#[]⟩, .int .i64 0]
  len := fun _ => rfl
  one := fun a u hu => by
    simp only [List.mem_cons, List.not_mem_nil, or_false] at hu
    rcases hu with rfl | rfl <;> rfl
  zs := rfl
  small := by decide
  under := Tryd.underlying27
  info := by kernel_rfl

def nameEq (s : ByteArray) (x : Ent) : Bool := x.1.toList == s.toList
theorem nameEq_iff {s : ByteArray} {x : Ent} : nameEq s x = true ↔ x.1 = s := by
  unfold nameEq
  rw [ByteArray.toList_eq, ByteArray.toList_eq]
  exact ⟨fun e => bytes_ext (beq_iff_eq.1 e), fun e => by rw [e]; exact beq_self_eq_true _⟩
def ofR (l : List Ent) (s : ByteArray) : Option Int := (l.find? (nameEq s)).map (·.2)
theorem find_step {α : Type} {p : α → Bool} {l : List α} {i : Nat} {x : α} (h : (l.take i).find? p = none) (hx : l[i]? = some x) :
    (p x = true → l.find? p = some x) ∧ (p x = false → (l.take (i + 1)).find? p = none) := by
  have hl : l.take (i + 1) = l.take i ++ [x] := by rw [List.take_add_one, hx]; rfl
  refine ⟨fun hp => ?_, fun hp => by rw [hl, List.find?_append, h]; simp [hp]⟩
  have e : l = l.take (i + 1) ++ l.drop (i + 1) := (List.take_append_drop ..).symm
  rw [e, hl, List.find?_append, List.find?_append, h]
  simp [hp]

set_option maxRecDepth 8000 in
set_option maxHeartbeats 2000000 in
theorem of_any {w : World} {v : Value} {l : List Ent} {sb : Option Nat} (h : oneK.At w v l sb) (hl : l.length ≤ 1000000) (s : ByteArray) :
    Calls Tryd.prog 16 #[v, .string s] w fun e w' => e = .returned (.tuple #[.int .i64 ((ofR l s).getD 0), .bool (ofR l s).isSome]) ∧ w' = w := by
  obtain ⟨la, lc, rfl⟩ := h.form
  obtain ⟨m, hm⟩ : ∃ m, m = l.length := ⟨_, rfl⟩
  rw [← hm] at h hl ⊢
  have HM := Lib.hid hm
  have H := Lib.hid h
  clear h hm
  go_enter Tryd.func16, Tryd.ntmps16
  go_wp2_with fail
  go_loopw [6] (fun vi wr => ∃ i : Nat, vi = .int .i64 i ∧ i ≤ m ∧ wr = w ∧ Hid ((l.take i).find? (nameEq s) = none)) (fun vi _ => (m - RowKit.intOf vi).toNat)
  case atStart => exact ⟨0, rfl, Nat.zero_le _, rfl, by show _ = _; simp⟩
  case round =>
    obtain ⟨i, rfl, hi, rfl, hn⟩ := hrel
    by_cases him : i < m
    · have t0 : decide ((i : Int) < (m : Int)) = true := decide_eq_true (by omega)
      obtain ⟨x, hx⟩ : ∃ x, l[i]? = some x := ⟨_, List.getElem?_eq_getElem (by have := HM.out; omega)⟩
      obtain ⟨g, off, lc', e1, e2, hcl⟩ := H.out.cells (by have := HM.out; omega)
      have hq := hcl wr rfl i x hx
      rw [← HM.out] at e1
      injection e1 with e1 e3 e4
      subst e1
      have q0 : wr.cell? ⟨g, off + i * 2, none⟩ = some (.string x.1) := hq 0 _ rfl
      have q1 : wr.cell? ⟨g, off + i * 2 + 1, none⟩ = some (.int .i64 x.2) := hq 1 _ rfl
      have i1 : (0 : Int) ≤ (i : Int) := by omega
      have i2 : (i : Int) < (m : Int) := by omega
      have HS := Lib.hid (find_step hn.out hx)
      clear hx e2 e3 e4 hcl hq hn
      cases hp : nameEq s x with
      | true =>
        have HF : Hid (ofR l s = some x.2) := by show ofR l s = _; unfold ofR; rw [HS.out.1 hp]; rfl
        have t1 : (x.1.toList == s.toList) = true := hp
        clear hp HS
        go_wp2_with fail
        go_ret2
        rw [HF.out]
        exact ⟨rfl, rfl⟩
      | false =>
        have HF : Hid ((l.take (i + 1)).find? (nameEq s) = none) := HS.out.2 hp
        have t1 : (x.1.toList == s.toList) = false := hp
        clear hp HS
        go_wp2_with fail
        go_roundw
        case rel => exact ⟨i + 1, by go_num, by omega, trivial, HF⟩
        case measure => simp [RowKit.intOf]; omega
    · have t0 : decide ((i : Int) < (m : Int)) = false := decide_eq_false (by omega)
      have HF : Hid (ofR l s = none) := by
        have hh := hn.out
        rw [List.take_of_length_le (by rw [← HM.out]; omega)] at hh
        show ofR l s = none
        unfold ofR; rw [hh]; rfl
      clear hn
      go_wp2_with fail
      go_ret2
      rw [HF.out]
      exact ⟨rfl, rfl⟩

def putE (s : ByteArray) (n : Int) (x : Ent) : Ent := if nameEq s x then (x.1, x.2 + n) else x
def putR (l : List Ent) (s : ByteArray) (n : Int) : List Ent := l.map (putE s n) ++ if l.any (nameEq s) then [] else [(s, n)]

set_option maxRecDepth 8000 in
set_option maxHeartbeats 8000000 in
theorem put_any {w : World} {v : Value} {l : List Ent} {sb : Option Nat} (h : oneK.At w v l sb) (hl : l.length ≤ 100000) (s : ByteArray) (n : Int) (hb : ∀ x ∈ l, -4611686018427387904 ≤ x.2 ∧ x.2 ≤ 4611686018427387903) (hn : -4611686018427387904 ≤ n ∧ n ≤ 4611686018427387903) :
    Calls Tryd.prog 42 #[v, .string s, .int .i64 n] w fun e w' => ∃ u, e = .returned u ∧ oneK.New w w' u (putR l s n) := by
  obtain ⟨la, lc, rfl⟩ := h.form
  obtain ⟨m, hm⟩ : ∃ m, m = l.length := ⟨_, rfl⟩
  rw [← hm] at h hl ⊢
  have HM := Lib.hid hm
  have H := Lib.hid h
  have HB := Lib.hid hb
  have HST : Hid (oneK.New w w (.slice none 0 0) ((l.take 0).map (putE s n))) := Kd.New.start oneK w
  clear h hm hb
  go_enter Tryd.func42, Tryd.ntmps42
  go_wp2_with fail
  go_loopw [7, 8, 9] (fun va vf vi wr => ∃ (i : Nat) (ls : Option Addr) (cs : Nat), vi = .int .i64 i ∧ i ≤ m ∧ va = .slice ls i cs ∧ vf = .bool ((l.take i).any (nameEq s)) ∧ Hid (oneK.New w wr (.slice ls i cs) ((l.take i).map (putE s n)))) (fun _ _ vi _ => (m - RowKit.intOf vi).toNat)
  case atStart => exact ⟨0, none, 0, rfl, Nat.zero_le _, rfl, by simp, HST⟩
  case round =>
    obtain ⟨i, ls, cs, rfl, hi, rfl, rfl, hR⟩ := hrel
    by_cases him : i < m
    · have t0 : decide ((i : Int) < (m : Int)) = true := decide_eq_true (by omega)
      obtain ⟨x, hx⟩ : ∃ x, l[i]? = some x := ⟨_, List.getElem?_eq_getElem (by have := HM.out; omega)⟩
      obtain ⟨g, off, lc', e1, e2, hcl⟩ := H.out.cells (by have := HM.out; omega)
      have hq := hcl wr (hR.out.below.block g (H.out.lt g e2)) i x hx
      rw [← HM.out] at e1
      injection e1 with e1 e3 e4
      subst e1
      have q0 : wr.cell? ⟨g, off + i * 2, none⟩ = some (.string x.1) := hq 0 _ rfl
      have q1 : wr.cell? ⟨g, off + i * 2 + 1, none⟩ = some (.int .i64 x.2) := hq 1 _ rfl
      have i1 : (0 : Int) ≤ (i : Int) := by omega
      have i2 : (i : Int) < (m : Int) := by omega
      have hxb := HB.out x (List.mem_of_getElem? hx)
      have hTK : l.take (i + 1) = l.take i ++ [x] := by rw [List.take_add_one, hx]; rfl
      obtain ⟨wa, hwa⟩ : ∃ wa, wr.alloc (.cells #[.string x.1, .int .i64 x.2] 67) = wa := ⟨_, rfl⟩
      have ba : Below wr.heap.size wr wa := by rw [← hwa]; exact (Below.refl _ _).alloc (Nat.le_refl _) _
      have za : wa.heap[wr.heap.size]? = some (.cells #[.string x.1, .int .i64 x.2] 67 (0, 0)) := by rw [← hwa]; exact heap_alloc_new wr _
      have hll : ((l.take i).map (putE s n)).length = i := by rw [List.length_map, List.length_take]; have := HM.out; omega
      have k0 := block_cell za 0 _ rfl
      have k1 := block_cell za 1 _ rfl
      have f1 := block_free za 1
      cases hp : nameEq s x with
      | true =>
        have t1 : (x.1.toList == s.toList) = true := hp
        have g1 : IntKind.i64.wrap (x.2 + n) = x.2 + n := IntWalk.i64_in _ (by omega)
        have hset := setCell_block wa wr.heap.size 1 _ _ _ (.int .i64 (x.2 + n)) za
        have hfs : Below wr.heap.size wr (wa.setCell ⟨wr.heap.size, 1, none⟩ (.int .i64 (x.2 + n))) := ((Fr.ofBelow (F := fun k => k = wr.heap.size) ba).trans (Fr.setCell (fun k => k = wr.heap.size) wa ⟨wr.heap.size, 1, none⟩ (.int .i64 (x.2 + n)) rfl) (fun b hb => .inl hb)).toBelow (fun k hk e => by omega)
        obtain ⟨wb, hwb⟩ : ∃ wb, wa.setCell ⟨wr.heap.size, 1, none⟩ (.int .i64 (x.2 + n)) = wb := ⟨_, rfl⟩
        rw [hwb] at hset hfs
        have r0 : wb.cell? ⟨wr.heap.size, 0, none⟩ = some (.string x.1) := block_cell hset 0 _ rfl
        have r1 : wb.cell? ⟨wr.heap.size, 1, none⟩ = some (.int .i64 (x.2 + n)) := block_cell hset 1 _ rfl
        have bb := (Below.refl wb.heap.size wb).alloc (Nat.le_refl _) (.cells #[.string x.1, .int .i64 (x.2 + n)] 67)
        obtain ⟨ls2, cs2, w9, hap, hN, _⟩ := (hR.out.keep (btrans hfs bb)).push hll.symm (by rw [hll]; omega) (a := (x.1, x.2 + n)) (heap_alloc_new wb _) 1
        have happ : (Builtin.append_ #[27, 27] 27 #[.slice ls i cs, .slice (some ⟨wb.heap.size, 0, none⟩) 1 1]).run Tryd.prog (wb.alloc (.cells #[.string x.1, .int .i64 (x.2 + n)] 67)) = .ok (.slice ls2 (i + 1) cs2) w9 := hap
        have HF : Hid (oneK.New w w9 (.slice ls2 (i + 1) cs2) ((l.take (i + 1)).map (putE s n))) := by
          show oneK.New w w9 _ _
          rw [hTK, List.map_append]
          have e : [x].map (putE s n) = [(x.1, x.2 + n)] := by simp [putE, hp]
          rw [e]; exact hN
        have hany : (l.take (i + 1)).any (nameEq s) = true := by rw [hTK, List.any_append]; simp [hp]
        have HANY := Lib.hid hany
        clear hx e2 e3 e4 hcl hq hR hp hset hfs hap hN hTK hll ba za bb hany
        go_wp2_with (at_builtin; refine wpList_run (by rfl) (exec_append _ _ _ _ (by rfl) _ _ (by rfl) (by rfl) happ) ?_)
        go_roundw
        case rel => exact ⟨i + 1, ls2, cs2, by go_num, by omega, rfl, by rw [HANY.out], HF⟩
        case measure => simp [RowKit.intOf]; omega
      | false =>
        have t1 : (x.1.toList == s.toList) = false := hp
        have bb := (Below.refl wa.heap.size wa).alloc (Nat.le_refl _) (.cells #[.string x.1, .int .i64 x.2] 67)
        obtain ⟨ls2, cs2, w9, hap, hN, _⟩ := (hR.out.keep (btrans ba bb)).push hll.symm (by rw [hll]; omega) (a := x) (heap_alloc_new wa _) 1
        have happ : (Builtin.append_ #[27, 27] 27 #[.slice ls i cs, .slice (some ⟨wa.heap.size, 0, none⟩) 1 1]).run Tryd.prog (wa.alloc (.cells #[.string x.1, .int .i64 x.2] 67)) = .ok (.slice ls2 (i + 1) cs2) w9 := hap
        have HF : Hid (oneK.New w w9 (.slice ls2 (i + 1) cs2) ((l.take (i + 1)).map (putE s n))) := by
          show oneK.New w w9 _ _
          rw [hTK, List.map_append]
          have e : [x].map (putE s n) = [x] := by simp [putE, hp]
          rw [e]; exact hN
        have hany : (l.take (i + 1)).any (nameEq s) = (l.take i).any (nameEq s) := by rw [hTK, List.any_append]; simp [hp]
        have HANY := Lib.hid hany
        clear hx e2 e3 e4 hcl hq hR hp hap hN hTK hll ba za bb hany
        go_wp2_with (at_builtin; refine wpList_run (by rfl) (exec_append _ _ _ _ (by rfl) _ _ (by rfl) (by rfl) happ) ?_)
        go_roundw
        case rel => exact ⟨i + 1, ls2, cs2, by go_num, by omega, rfl, by rw [HANY.out], HF⟩
        case measure => simp [RowKit.intOf]; omega
    · have t0 : decide ((i : Int) < (m : Int)) = false := decide_eq_false (by omega)
      obtain rfl : i = m := by omega
      have hT : l.take i = l := List.take_of_length_le (by rw [← HM.out]; exact Nat.le_refl _)
      have hR2 := hR.out
      rw [hT] at hR2 ⊢
      clear hR
      cases hany : l.any (nameEq s) with
      | true =>
        have HF : Hid (oneK.New w wr (.slice ls i cs) (putR l s n)) := by show oneK.New w wr _ (putR l s n); unfold putR; rw [hany]; simpa using hR2
        clear hR2 hany hT
        go_wp2_with fail
        go_ret
        exact ⟨_, rfl, HF.out⟩
      | false =>
        have bb := (Below.refl wr.heap.size wr).alloc (Nat.le_refl _) (.cells #[.string s, .int .i64 n] 67)
        have hll : (l.map (putE s n)).length = i := by rw [List.length_map]; exact HM.out.symm
        obtain ⟨ls2, cs2, w9, hap, hN, _⟩ := (hR2.keep bb).push hll.symm (by rw [hll]; omega) (a := (s, n)) (heap_alloc_new wr _) 1
        have happ : (Builtin.append_ #[27, 27] 27 #[.slice ls i cs, .slice (some ⟨wr.heap.size, 0, none⟩) 1 1]).run Tryd.prog (wr.alloc (.cells #[.string s, .int .i64 n] 67)) = .ok (.slice ls2 (i + 1) cs2) w9 := hap
        have HF : Hid (oneK.New w w9 (.slice ls2 (i + 1) cs2) (putR l s n)) := by show oneK.New w w9 _ (putR l s n); unfold putR; rw [hany]; exact hN
        clear hR2 hany hT hap hN hll bb
        go_wp2_with (at_builtin; refine wpList_run (by rfl) (exec_append _ _ _ _ (by rfl) _ _ (by rfl) (by rfl) happ) ?_)
        go_ret
        exact ⟨_, rfl, HF.out⟩

end Go.Proofs.YtedoalpijbggiaaDoor
