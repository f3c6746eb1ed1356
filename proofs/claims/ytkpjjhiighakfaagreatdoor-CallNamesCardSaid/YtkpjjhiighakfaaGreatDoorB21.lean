/- Begin, Answer, Wake. -/
import Derived.Test.YtkpjjhiighakfaaGreatDoorB20
namespace Go.Proofs.YtkpjjhiighakfaaGreatDoor
open Go.RowKit
attribute [local go_sem ↓] Go.wp_at_zero Go.wp_at_succ

/-! What stays in bounds. -/

theorem CS.Ok.att {S : CS} (h : S.Ok) (hm : S.made < 8) {now : Int} (hn : -1000000000 ≤ now ∧ now ≤ 1000000) : (S.att now).Ok := by
  obtain ⟨m0, m1⟩ := h.made
  obtain ⟨l0, l1⟩ := h.left
  refine { h with made := ⟨by show (0 : Int) ≤ S.made + 1; omega, by show S.made + 1 ≤ 8; omega⟩, left := ⟨by show 0 ≤ S.left - S.left / 2; omega, by show S.left - S.left / 2 ≤ 1000; omega⟩, frm := ⟨hn.1, by show now ≤ _; omega⟩, keys := ?_, keyb := ?_, ats := ?_ }
  · show ((S.open_ ++ [(S.made + 1, now, S.cx)]).map (·.1)).Pairwise (· < ·)
    rw [List.map_append, List.pairwise_append]
    refine ⟨h.keys, List.pairwise_singleton _ _, fun a ha b hb => ?_⟩
    obtain ⟨o, ho, rfl⟩ := List.mem_map.1 ha
    have := h.keyb o ho
    simp only [List.map_cons, List.map_nil, List.mem_singleton] at hb
    omega
  · intro x hx
    rcases List.mem_append.1 hx with hx | hx
    · have := h.keyb x hx
      exact ⟨this.1, by show x.1 ≤ S.made + 1; omega⟩
    · rw [List.mem_singleton.1 hx]; exact ⟨by show 1 ≤ S.made + 1; omega, Int.le_refl _⟩
  · intro x hx
    rcases List.mem_append.1 hx with hx | hx
    · exact h.ats x hx
    · rw [List.mem_singleton.1 hx]; exact ⟨hn.1, by show now ≤ _; omega⟩

theorem Bk.Ok.take {B : Bk} (h : B.Ok) : B.take.Ok := by
  obtain ⟨h1, h2, h3, h4⟩ := h
  unfold Bk.take
  split
  · exact ⟨h1, h2, ⟨by show 0 ≤ B.parts - B.of; omega, by show B.parts - B.of ≤ B.most; omega⟩, h4⟩
  · exact ⟨h1, h2, h3, h4⟩

theorem more_of {S : CS} (h : S.more = true) : S.made < S.p.tries ∧ 1 ≤ S.left := by
  unfold CS.more at h
  rw [Bool.and_eq_true] at h
  exact ⟨of_decide_eq_true h.1, of_decide_eq_true h.2⟩
theorem mayS_of {S : CS} {now : Int} {B : Bk} (h : S.mayS now B = true) : S.made < S.p.tries ∧ 1 ≤ S.left ∧ now < S.c.dl ∧ B.of ≤ B.parts := by
  unfold CS.mayS at h
  rw [Bool.and_eq_true, Bool.and_eq_true] at h
  obtain ⟨⟨h1, h2⟩, h3⟩ := h
  exact ⟨(more_of h1).1, (more_of h1).2, of_decide_eq_true h2, of_decide_eq_true h3⟩

theorem CS.Ok.fur {S : CS} (h : S.Ok) {now : Int} (hn : -1000000000 ≤ now ∧ now ≤ 1000000) (B : Bk) : (S.furS now B).Ok := by
  unfold CS.furS
  split
  · rename_i hm
    obtain ⟨h1, h2, _, _⟩ := mayS_of hm
    have h3 := h.tries
    have h4 := h.left
    exact CS.Ok.att (S := { S with left := S.left - 1 }) { h with left := ⟨by show 0 ≤ S.left - 1; omega, by show S.left - 1 ≤ 1000; omega⟩ } (by show S.made < 8; omega) hn
  · exact h
theorem Bk.Ok.fur {B : Bk} (h : B.Ok) (S : CS) (now : Int) : (S.furB now B).Ok := by
  unfold CS.furB
  split
  · exact h.take
  · exact h

theorem CS.Ok.go {S : CS} (h : S.Ok) {now : Int} (hn : -1000000000 ≤ now ∧ now ≤ 1000000) (B : Bk) : (S.goS now B).Ok := by
  have hd : CS.Ok { S with due := false } := { h with dueAt := fun e => by cases e }
  unfold CS.goS
  split
  · split
    · exact hd.fur hn B
    · split
      · exact { hd with }
      · exact hd
  · split
    · split
      · exact h.fur hn B
      · exact { h with frm := ⟨hn.1, by show now ≤ _; omega⟩ }
    · exact h
theorem Bk.Ok.go {B : Bk} (h : B.Ok) (S : CS) (now : Int) : (S.goB now B).Ok := by
  unfold CS.goB
  split
  · exact h.fur _ _
  · split
    · exact h.fur _ _
    · exact h

theorem CS.Ok.wake {S : CS} (h : S.Ok) {now : Int} (hn : -1000000000 ≤ now ∧ now ≤ 1000000) (B : Bk) : (S.wakeS now B).Ok := by
  unfold CS.wakeS
  split
  · exact { h with }
  · split
    · exact (toS_ok h hn).ok
    · exact (toS_ok h hn).ok.go hn B
theorem Bk.Ok.wake {B : Bk} (h : B.Ok) (S : CS) (now : Int) : (S.wakeB now B).Ok := by
  unfold CS.wakeB
  split
  · exact h
  · split
    · exact h
    · exact h.go _ _
theorem CS.Ok.begin {S : CS} (h : S.Ok) (hm : S.made < 8) {now : Int} (hn : -1000000000 ≤ now ∧ now ≤ 1000000) : (S.beginS now).Ok := by
  unfold CS.beginS
  split
  · exact { h with }
  · exact h.att hm hn
theorem hasK_made {S : CS} (h : S.Ok) {k : Int} (hk : S.hasK k = true) : 1 ≤ S.made := by
  obtain ⟨o, ho, _⟩ := List.any_eq_true.1 hk
  have := h.keyb o ho; omega
theorem CS.Ok.ans {S : CS} (h : S.Ok) {now not_ : Int} (k e : Int) (hn : -1000000000 ≤ now ∧ now ≤ 1000000) (ht : -1000000000 ≤ not_ ∧ not_ ≤ 1000000) : (S.ansS now k e not_).Ok := by
  unfold CS.ansS
  split
  · exact h
  · rename_i hk
    have hk' : S.hasK k = true := by simpa using hk
    split
    · exact { h.del k with }
    · exact (h.del k).fail (hasK_made (S := S) h hk') hn ht
theorem CS.Ok.fin {S : CS} (h : S.Ok) : S.fin.Ok := by
  unfold CS.fin
  split
  · exact { h with keys := List.Pairwise.nil, keyb := fun x hx => (by cases hx), ats := fun x hx => (by cases hx) }
  · exact h

theorem furL_len (S : CS) (now : Int) (B : Bk) : (S.furL now B).length ≤ 1 := by unfold CS.furL; split <;> simp
theorem goL_len (S : CS) (now : Int) (B : Bk) : (S.goL now B).length ≤ 1 := by
  unfold CS.goL
  split
  · exact furL_len _ _ _
  · split
    · exact furL_len _ _ _
    · simp
theorem wakeL_len {S : CS} (h : S.Ok) {now : Int} (hn : -1000000000 ≤ now ∧ now ≤ 1000000) (B : Bk) : (S.wakeL now B).length ≤ 900 := by
  unfold CS.wakeL
  have h1 := (toS_ok h hn).len
  have h2 := goL_len (S.toS now).1 now B
  split
  · simp
  · split
    · omega
    · rw [List.length_append]; omega

/-! One act. -/

def actS (S S1 : CS) : CS := if S.over then S else S1.fin
def actB (S : CS) (B B1 : Bk) : Bk := if S.over then B else B1
def actL (S S1 : CS) (l : List Ac) : List Ac := if S.over then [] else l ++ S1.finL

theorem CS.Ok.act {S S1 : CS} (h : S.Ok) (h1 : S1.Ok) : (actS S S1).Ok := by
  unfold actS
  split
  · exact h
  · exact h1.fin
theorem Bk.Ok.act {B B1 : Bk} (S : CS) (h : B.Ok) (h1 : B1.Ok) : (actB S B B1).Ok := by
  unfold actB
  split
  · exact h
  · exact h1

theorem GR.before {w w1 w' : World} {cb mb bb : Nat} {S : CS} {B : Bk} {L : List Ac} {v : Value} (hb : Below w.heap.size w w1) (h : GR w1 w' cb mb bb S B L v) : GR w w' cb mb bb S B L v := by
  obtain ⟨h1, ⟨sb, h2, h3⟩, h4⟩ := h
  exact ⟨h1, ⟨sb, h2, fun g hg => ⟨Nat.le_trans hb.size (h3 g hg).1, (h3 g hg).2⟩⟩, (Fr.ofBelow (F := CFoot cb mb bb) hb).trans h4 (fun _ h => .inl h)⟩
theorem Did.before {w w1 w' : World} {cb mb bb : Nat} {S : CS} {B : Bk} {L : List Ac} {e : Ending} (hb : Below w.heap.size w w1) (h : Did w1 cb mb bb S B L e w') : Did w cb mb bb S B L e w' := by
  obtain ⟨v, he, hg⟩ := h
  exact ⟨v, he, hg.before hb⟩

theorem gather_any {w : World} {cb mb bb : Nat} {S S1 : CS} {B B1 : Bk} {L1 : List Ac} (h : CallAt w cb mb bb S B) (hok1 : S1.Ok) (hL1 : L1.length ≤ 900) (F : Nat) (caps : Array Value) (hF : Enters F)
    (hdo : S.over = false → DoneBy w cb mb bb S B F caps S1 B1 L1) :
    Calls Tryz.prog 16 #[.pointer (some ⟨cb, 0, none⟩), .func (.func F) #[] caps] w (Did w cb mb bb (actS S S1) (actB S B B1) (actL S S1 L1)) := by
  cases hov : S.over with
  | true =>
    have e : actS S S1 = S ∧ actB S B B1 = B ∧ actL S S1 L1 = [] := by unfold actS actB actL; rw [hov]; exact ⟨rfl, rfl, rfl⟩
    rw [e.1, e.2.1, e.2.2]
    exact gather_none h hov _
  | false =>
    have e : actS S S1 = S1.fin ∧ actB S B B1 = B1 ∧ actL S S1 L1 = L1 ++ S1.finL := by unfold actS actB actL; rw [hov]; exact ⟨rfl, rfl, rfl⟩
    rw [e.1, e.2.1, e.2.2]
    cases hov1 : S1.over with
    | true =>
      have e1 : S1.fin = { S1 with open_ := [] } ∧ S1.finL = S1.open_.map dropA ++ [⟨3, 0, S1.c, S1.end_⟩] := by unfold CS.fin CS.finL; rw [hov1]; exact ⟨rfl, rfl⟩
      rw [e1.1, e1.2, ← List.append_assoc]
      exact gather_ends h hov hok1 hov1 hL1 F caps hF (hdo hov)
    | false =>
      have e1 : S1.fin = S1 ∧ S1.finL = [⟨2, S1.nextT, cx0, 0⟩] := by unfold CS.fin CS.finL; rw [hov1]; exact ⟨rfl, rfl⟩
      rw [e1.1, e1.2]
      exact gather_goes h hov hok1 hov1 hL1 F caps hF (hdo hov)

theorem caught_new {w w2 : World} {cb mb bb : Nat} {S : CS} {B : Bk} (h : CallAt w cb mb bb S B) {k : Nat} (hk : w.heap.size ≤ k) (hk2 : k < w2.heap.size) : Caught ⟨w2, CFoot cb mb bb⟩ k := by
  have h1 := h.call.lt
  have h2 := (Array.getElem?_eq_some_iff.1 h.bk).1
  exact ⟨hk2, by unfold CFoot; omega⟩

set_option maxRecDepth 8000 in
set_option maxHeartbeats 2000000 in
theorem begin_any {w : World} {cb mb bb : Nat} {S : CS} {B : Bk} (h : CallAt w cb mb bb S B) (hok : S.Ok) (hm : S.made < 8) (now : Int) (hn : -1000000000 ≤ now ∧ now ≤ 1000000) :
    Calls Tryz.prog 5 #[.pointer (some ⟨cb, 0, none⟩), .int .i64 now] w (Did w cb mb bb (actS S (S.beginS now)) B (actL S (S.beginS now) (S.beginL now))) := by
  obtain ⟨w2, hw2⟩ : ∃ w2, w2 = (w.alloc (.cells #[.pointer (some ⟨cb, 0, none⟩)] 23)).alloc (.cells #[.int .i64 now] 3) := ⟨_, rfl⟩
  have hb : Below w.heap.size w w2 := by rw [hw2]; exact ((Below.refl _ _).alloc (Nat.le_refl _) _).alloc (by simp) _
  have k1 : w2.heap[w.heap.size]? = some (.cells #[.pointer (some ⟨cb, 0, none⟩)] 23 (0, 0)) := by
    rw [hw2, Below.heap_alloc _ _ _ (by simp)]; exact heap_alloc_new w _
  have k2 : w2.heap[w.heap.size + 1]? = some (.cells #[.int .i64 now] 3 (0, 0)) := by
    rw [hw2]; have := heap_alloc_new (w.alloc (.cells #[.pointer (some ⟨cb, 0, none⟩)] 23)) (.cells #[.int .i64 now] 3); simpa using this
  have l1 := (Array.getElem?_eq_some_iff.1 k1).1
  have l2 := (Array.getElem?_eq_some_iff.1 k2).1
  have h2 := h.below hb
  have HG := Lib.hid (gather_any (B1 := B) (L1 := S.beginL now) h2 (hok.begin hm hn) (by unfold CS.beginL; split <;> simp) 17 #[.pointer (some ⟨w.heap.size + 1, 0, none⟩), .pointer (some ⟨w.heap.size, 0, none⟩)] (fun _ _ => by kernel_rfl)
    (fun _ wi lb hc => by
      have := begin1_any hc hok hm (by decide) now (caught_new h (by omega) l2) (caught_new h (by omega) l1) (block_cell k2 0 _ rfl) (block_cell k1 0 _ rfl)
      rwa [List.nil_append] at this))
  have eB : actB S B B = B := by unfold actB; split <;> rfl
  rw [eB] at HG
  have HB := Lib.hid hb
  rw [hw2] at HG HB
  clear h h2 hb k1 k2 l1 l2 hw2
  go_enter Tryz.func5, Tryz.ntmps5
  go_wp2_with fail
  refine HG.out.mono ?_
  rintro e w3 ⟨v, rfl, hg⟩
  have HR := Lib.hid (hg.before HB.out)
  clear hg
  go_wp2_with fail
  go_ret
  exact ⟨_, rfl, HR.out⟩

set_option maxRecDepth 8000 in
set_option maxHeartbeats 2000000 in
theorem wake_any {w : World} {cb mb bb : Nat} {S : CS} {B : Bk} (h : CallAt w cb mb bb S B) (hok : S.Ok) (hB : B.Ok) (now : Int) (hn : -1000000000 ≤ now ∧ now ≤ 1000000) :
    Calls Tryz.prog 21 #[.pointer (some ⟨cb, 0, none⟩), .int .i64 now] w (Did w cb mb bb (actS S (S.wakeS now B)) (actB S B (S.wakeB now B)) (actL S (S.wakeS now B) (S.wakeL now B))) := by
  obtain ⟨w2, hw2⟩ : ∃ w2, w2 = (w.alloc (.cells #[.pointer (some ⟨cb, 0, none⟩)] 23)).alloc (.cells #[.int .i64 now] 3) := ⟨_, rfl⟩
  have hb : Below w.heap.size w w2 := by rw [hw2]; exact ((Below.refl _ _).alloc (Nat.le_refl _) _).alloc (by simp) _
  have k1 : w2.heap[w.heap.size]? = some (.cells #[.pointer (some ⟨cb, 0, none⟩)] 23 (0, 0)) := by
    rw [hw2, Below.heap_alloc _ _ _ (by simp)]; exact heap_alloc_new w _
  have k2 : w2.heap[w.heap.size + 1]? = some (.cells #[.int .i64 now] 3 (0, 0)) := by
    rw [hw2]; have := heap_alloc_new (w.alloc (.cells #[.pointer (some ⟨cb, 0, none⟩)] 23)) (.cells #[.int .i64 now] 3); simpa using this
  have l1 := (Array.getElem?_eq_some_iff.1 k1).1
  have l2 := (Array.getElem?_eq_some_iff.1 k2).1
  have h2 := h.below hb
  have HG := Lib.hid (gather_any (B1 := S.wakeB now B) (L1 := S.wakeL now B) h2 (hok.wake hn B) (wakeL_len hok hn B) 36 #[.pointer (some ⟨w.heap.size + 1, 0, none⟩), .pointer (some ⟨w.heap.size, 0, none⟩)] (fun _ _ => by kernel_rfl)
    (fun _ wi lb hc => by
      have := wake1_any hc hok hB (by decide) now hn (caught_new h (by omega) l2) (caught_new h (by omega) l1) (block_cell k2 0 _ rfl) (block_cell k1 0 _ rfl)
      rwa [List.nil_append] at this))
  have HB := Lib.hid hb
  rw [hw2] at HG HB
  clear h h2 hb k1 k2 l1 l2 hw2
  go_enter Tryz.func21, Tryz.ntmps21
  go_wp2_with fail
  refine HG.out.mono ?_
  rintro e w3 ⟨v, rfl, hg⟩
  have HR := Lib.hid (hg.before HB.out)
  clear hg
  go_wp2_with fail
  go_ret
  exact ⟨_, rfl, HR.out⟩

theorem alloc_keep {w : World} (o : Obj) {k : Nat} {x : Obj} (h : w.heap[k]? = some x) : (w.alloc o).heap[k]? = some x :=
  (((Below.refl w.heap.size w).alloc (Nat.le_refl _) o).block k (Array.getElem?_eq_some_iff.1 h).1).trans h
theorem alloc_new' (w : World) (o : Obj) {n : Nat} (h : w.heap.size = n) : (w.alloc o).heap[n]? = some o := by rw [← h]; exact heap_alloc_new w o
/-- Boxes, one behind the other. -/
theorem box_at (w : World) (a b c d e : Obj) : ∃ w', w' = ((((w.alloc a).alloc b).alloc c).alloc d).alloc e ∧ Below w.heap.size w w' ∧ w'.heap[w.heap.size]? = some a ∧ w'.heap[w.heap.size + 1]? = some b ∧ w'.heap[w.heap.size + 2]? = some c ∧ w'.heap[w.heap.size + 3]? = some d ∧ w'.heap[w.heap.size + 4]? = some e :=
  ⟨_, rfl, (((((Below.refl _ _).alloc (Nat.le_refl _) _).alloc (by simp) _).alloc (by simp; omega) _).alloc (by simp; omega) _).alloc (by simp; omega) _,
    alloc_keep _ (alloc_keep _ (alloc_keep _ (alloc_keep _ (alloc_new' _ _ rfl)))), alloc_keep _ (alloc_keep _ (alloc_keep _ (alloc_new' _ _ (by simp)))), alloc_keep _ (alloc_keep _ (alloc_new' _ _ (by simp))), alloc_keep _ (alloc_new' _ _ (by simp)), alloc_new' _ _ (by simp)⟩

set_option maxRecDepth 8000 in
set_option maxHeartbeats 2000000 in
theorem answer_any {w : World} {cb mb bb : Nat} {S : CS} {B : Bk} (h : CallAt w cb mb bb S B) (hok : S.Ok) (now try_ er not_ : Int) (hn : -1000000000 ≤ now ∧ now ≤ 1000000) (ht : -1000000000 ≤ not_ ∧ not_ ≤ 1000000) :
    Calls Tryz.prog 20 #[.pointer (some ⟨cb, 0, none⟩), .int .i64 now, .int .i64 try_, .int .i64 er, .int .i64 not_] w (Did w cb mb bb (actS S (S.ansS now try_ er not_)) B (actL S (S.ansS now try_ er not_) [])) := by
  obtain ⟨w2, hw2, hb, k1, k2, k3, k4, k5⟩ := box_at w (.cells #[.pointer (some ⟨cb, 0, none⟩)] 23) (.cells #[.int .i64 now] 3) (.cells #[.int .i64 try_] 3) (.cells #[.int .i64 er] 36) (.cells #[.int .i64 not_] 3)
  have l1 := (Array.getElem?_eq_some_iff.1 k1).1
  have l2 := (Array.getElem?_eq_some_iff.1 k2).1
  have l3 := (Array.getElem?_eq_some_iff.1 k3).1
  have l4 := (Array.getElem?_eq_some_iff.1 k4).1
  have l5 := (Array.getElem?_eq_some_iff.1 k5).1
  have h2 := h.below hb
  have HG := Lib.hid (gather_any (B1 := B) (L1 := []) h2 (hok.ans try_ er hn ht) (by decide) 34 #[.pointer (some ⟨w.heap.size, 0, none⟩), .pointer (some ⟨w.heap.size + 2, 0, none⟩), .pointer (some ⟨w.heap.size + 3, 0, none⟩), .pointer (some ⟨w.heap.size + 1, 0, none⟩), .pointer (some ⟨w.heap.size + 4, 0, none⟩)] (fun _ _ => by kernel_rfl)
    (fun _ wi lb hc => answer1_any hc hok now try_ er not_ hn ht (caught_new h (by omega) l2) (caught_new h (by omega) l1) (caught_new h (by omega) l3) (caught_new h (by omega) l4) (caught_new h (by omega) l5) (block_cell k2 0 _ rfl) (block_cell k1 0 _ rfl) (block_cell k3 0 _ rfl) (block_cell k4 0 _ rfl) (block_cell k5 0 _ rfl)))
  have eB : actB S B B = B := by unfold actB; split <;> rfl
  rw [eB] at HG
  have HB := Lib.hid hb
  rw [hw2] at HG HB
  clear h h2 hb k1 k2 k3 k4 k5 l1 l2 l3 l4 l5 hw2
  go_enter Tryz.func20, Tryz.ntmps20
  go_wp2_with fail
  refine HG.out.mono ?_
  rintro e w3 ⟨v, rfl, hg⟩
  have HR := Lib.hid (hg.before HB.out)
  clear hg
  go_wp2_with fail
  go_ret
  exact ⟨_, rfl, HR.out⟩

end Go.Proofs.YtkpjjhiighakfaaGreatDoor
