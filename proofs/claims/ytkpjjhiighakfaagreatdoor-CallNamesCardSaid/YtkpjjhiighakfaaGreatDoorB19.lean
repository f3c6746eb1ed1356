/- The closures of Wake and Answer. -/
import Derived.Test.YtkpjjhiighakfaaGreatDoorB18
namespace Go.Proofs.YtkpjjhiighakfaaGreatDoor
open Go.RowKit
attribute [local go_sem ↓] Go.wp_at_zero Go.wp_at_succ

/-- What stays behind timeouts. -/
structure ToOk (S : CS) (n : Nat) (st : CS × List Ac) : Prop where
  ok : st.1.Ok
  made : st.1.made = S.made
  left : st.1.left = S.left
  c : st.1.c = S.c
  p : st.1.p = S.p
  sub : ∀ o ∈ st.1.open_, o ∈ S.open_
  len : st.2.length ≤ n

theorem toStep_ok {S : CS} (hok : S.Ok) {now : Int} (hn : -1000000000 ≤ now ∧ now ≤ 1000000) : ∀ (l : List (Int × Int × Cx)) (n : Nat) (st : CS × List Ac), (∀ o ∈ l, o ∈ S.open_) → ToOk S n st → ToOk S (n + l.length) (l.foldl (toStep now) st)
  | [], _, _, _, h => h
  | o :: l, n, st, hl, h => by
    have hm : 1 ≤ st.1.made := by rw [h.made]; have := hok.keyb o (hl o (List.mem_cons_self ..)); omega
    have h' : ToOk S (n + 1) (toStep now st o) := by
      unfold toStep
      split
      · exact { h with len := Nat.le_succ_of_le h.len }
      · obtain ⟨f1, f2, f3, f4, f5⟩ := failS_same (st.1.del o.1) now 37 0
        exact ⟨CS.Ok.fail (e := 37) (not_ := 0) (h.ok.del o.1) hm hn ⟨by omega, by omega⟩, f4.trans h.made, f5.trans h.left, f3.trans h.c, f2.trans h.p, fun x hx => h.sub x (by rw [f1] at hx; exact (List.mem_filter.1 hx).1), by rw [List.length_append]; exact Nat.succ_le_succ h.len⟩
    have := toStep_ok hok hn l (n + 1) _ (fun x hx => hl x (List.mem_cons_of_mem _ hx)) h'
    rw [List.foldl_cons, List.length_cons, show n + (l.length + 1) = n + 1 + l.length by omega]
    exact this
theorem toS_ok {S : CS} (hok : S.Ok) {now : Int} (hn : -1000000000 ≤ now ∧ now ≤ 1000000) : ToOk S 8 (S.toS now) := by
  have h := toStep_ok hok hn S.open_ 0 (S, []) (fun _ h => h) ⟨hok, rfl, rfl, rfl, rfl, fun _ h => h, Nat.le_refl _⟩
  exact { h with len := Nat.le_trans h.len (by have := hok.len; omega) }

def CS.wakeS (S : CS) (now : Int) (B : Bk) : CS := if S.c.dl ≤ now then { S with over := true, end_ := 32 } else if (S.toS now).1.over then (S.toS now).1 else (S.toS now).1.goS now B
def CS.wakeB (S : CS) (now : Int) (B : Bk) : Bk := if S.c.dl ≤ now then B else if (S.toS now).1.over then B else (S.toS now).1.goB now B
def CS.wakeL (S : CS) (now : Int) (B : Bk) : List Ac := if S.c.dl ≤ now then [] else if (S.toS now).1.over then (S.toS now).2 else (S.toS now).2 ++ (S.toS now).1.goL now B

set_option maxRecDepth 8000 in
set_option maxHeartbeats 2000000 in
theorem wake1_any {w0 : Base} {wi : World} {cb mb bb lb kn kc : Nat} {S : CS} {B : Bk} {L : List Ac} (h : CW w0 wi cb mb bb lb S B L) (hok : S.Ok) (hB : B.Ok) (hL : L.length ≤ 900) (now : Int) (hnow : -1000000000 ≤ now ∧ now ≤ 1000000) (h1 : Caught w0 kn) (h2 : Caught w0 kc) (hn : w0.w.cell? ⟨kn, 0, none⟩ = some (.int .i64 now)) (hc : w0.w.cell? ⟨kc, 0, none⟩ = some (.pointer (some ⟨cb, 0, none⟩))) :
    Calls Tryz.prog 36 #[.func (.func 28) #[] #[.pointer (some ⟨lb, 0, none⟩)], .pointer (some ⟨kn, 0, none⟩), .pointer (some ⟨kc, 0, none⟩)] wi fun e w' => e = .returned (.tuple #[]) ∧ CW w0 w' cb mb bb lb (S.wakeS now B) (S.wakeB now B) (L ++ S.wakeL now B) := by
  have cn := h.caught h1 hn
  have cc := h.caught h2 hc
  have c5 := h.call.cell 5 (.int .i64 S.c.dl) rfl
  have c24 := h.call.cell 24 (.bool S.over) rfl
  have c25 := h.call.cell 25 (.int .i64 S.end_) rfl
  have f24 := h.call.free 24
  have f25 := h.call.free 25
  have H := Lib.hid h
  have HNW := Lib.hid hnow
  have HOK := Lib.hid hok
  have HN := Lib.hid hn
  have HC := Lib.hid hc
  clear hn hc
  by_cases hd : S.c.dl ≤ now
  · have HE : Hid (S.wakeS now B = { S with over := true, end_ := 32 } ∧ S.wakeB now B = B ∧ S.wakeL now B = []) := by unfold CS.wakeS CS.wakeB CS.wakeL; rw [if_pos hd, if_pos hd, if_pos hd]; exact ⟨rfl, rfl, rfl⟩
    have t1 : decide (S.c.dl ≤ now) = true := decide_eq_true hd
    clear h hok hnow
    go_enter Tryz.func36, Tryz.ntmps36
    go_wp2_with fail
    go_quiet (fail)
    go_wp2_with fail
    go_region
    go_wp2_with fail
    first | go_end0 | (refine bodyPost_ret (results_none rfl _ _ _) rfl ?_)
    rw [HE.out.1, HE.out.2.1, HE.out.2.2, List.append_nil]
    exact ⟨rfl, ((H.out.keep (below_drewN (nq := nq) (Below.refl _ _))).drew.set 24 (.bool true) (S' := { S with over := true }) rfl rfl).set 25 (.int .i64 32) (S' := { S with over := true, end_ := 32 }) rfl rfl⟩
  · have t1 : decide (S.c.dl ≤ now) = false := decide_eq_false hd
    have HT := Lib.hid (toS_ok hok hnow)
    clear hok hnow
    clear h c24 c25 f24 f25
    cases ho : (S.toS now).1.over with
    | true =>
      have HE : Hid (S.wakeS now B = (S.toS now).1 ∧ S.wakeB now B = B ∧ S.wakeL now B = (S.toS now).2) := by unfold CS.wakeS CS.wakeB CS.wakeL; rw [if_neg hd, if_neg hd, if_neg hd, if_pos ho, if_pos ho, if_pos ho]; exact ⟨rfl, rfl, rfl⟩
      have HO := Lib.hid ho
      clear ho
      go_enter Tryz.func36, Tryz.ntmps36
      go_wp2_with fail
      go_quiet (fail)
      go_wp2_with fail
      refine (timeouts_any (H.out.keep (below_drewN (nq := nq) (Below.refl _ _))) HOK.out (by omega) now HNW.out).mono ?_
      rintro e w' ⟨rfl, hw⟩
      have d24 := hw.call.cell 24 (.bool true) (by rw [← HO.out]; rfl)
      have dc := hw.caught h2 HC.out
      have HW := Lib.hid hw
      clear hw
      go_wp2_with fail
      go_end0
      rw [HE.out.1, HE.out.2.1, HE.out.2.2]
      exact ⟨rfl, HW.out⟩
    | false =>
      have HE : Hid (S.wakeS now B = (S.toS now).1.goS now B ∧ S.wakeB now B = (S.toS now).1.goB now B ∧ S.wakeL now B = (S.toS now).2 ++ (S.toS now).1.goL now B) := by
        have : ¬ (S.toS now).1.over = true := by rw [ho]; decide
        unfold CS.wakeS CS.wakeB CS.wakeL; rw [if_neg hd, if_neg hd, if_neg hd, if_neg this, if_neg this, if_neg this]; exact ⟨rfl, rfl, rfl⟩
      have HO := Lib.hid ho
      clear ho
      go_enter Tryz.func36, Tryz.ntmps36
      go_wp2_with fail
      go_quiet (fail)
      go_wp2_with fail
      refine (timeouts_any (H.out.keep (below_drewN (nq := nq) (Below.refl _ _))) HOK.out (by omega) now HNW.out).mono ?_
      rintro e w' ⟨rfl, hw⟩
      have d24 := hw.call.cell 24 (.bool false) (by rw [← HO.out]; rfl)
      have dc := hw.caught h2 HC.out
      have dn := hw.caught h1 HN.out
      have HW := Lib.hid hw
      have HG := Lib.hid (goOn_any hw HT.out.ok hB (by rw [List.length_append]; have := HT.out.len; omega) now)
      clear hw
      go_wp2_with fail
      refine HG.out.mono ?_
      rintro e w2 ⟨rfl, hw⟩
      have HW := Lib.hid hw
      clear hw
      go_wp2_with fail
      go_end0
      rw [HE.out.1, HE.out.2.1, HE.out.2.2, ← List.append_assoc]
      exact ⟨rfl, HW.out⟩

/-- Answer's. -/
def CS.hasK (S : CS) (k : Int) : Bool := S.open_.any (fun o => decide (o.1 = k))
def CS.ansS (S : CS) (now try_ e not_ : Int) : CS := if !S.hasK try_ then S else if e = 0 then { S.del try_ with over := true, end_ := 0 } else (S.del try_).failS now e not_

theorem look_att {w : World} {cb mb bb : Nat} {S : CS} (h : CallW w cb mb bb S) (hok : S.Ok) (k : Int) : ∃ x : Int × Cx, ∀ W : World, W.heap[mb]? = w.heap[mb]? → (Instr.lookup 54 (.map (some mb)) (.int .i64 k) true).run Tryz.prog W = .ok (.tuple #[attVal x, .bool (S.hasK k)]) W := by
  have hl := fun (W : World) (hW : W.heap[mb]? = w.heap[mb]?) => run_lookup_at (int_law Tryz.underlying3) (h.map.keep hW) Tryz.underlying54 (z := attVal (0, cx0)) (by kernel_rfl) k true
  simp only [if_true] at hl
  cases hk : S.hasK k with
  | true =>
    obtain ⟨o, ho, he⟩ := List.any_eq_true.1 hk
    have he' : o.1 = k := of_decide_eq_true he
    rw [← he'] at hl ⊢
    rw [openM_get hok ho] at hl
    exact ⟨o.2, hl⟩
  | false =>
    have : mget (openM S) k = none := mget_none.2 fun p hp e => by
      obtain ⟨o, ho, rfl⟩ := List.mem_map.1 hp
      have : S.hasK k = true := List.any_eq_true.2 ⟨o, ho, decide_eq_true e⟩
      rw [hk] at this; cases this
    rw [this] at hl
    exact ⟨(0, cx0), hl⟩

set_option maxRecDepth 8000 in
set_option maxHeartbeats 2000000 in
theorem answer1_any {w0 : Base} {wi : World} {cb mb bb lb kn kc kt ke ko : Nat} {S : CS} {B : Bk} {L : List Ac} (h : CW w0 wi cb mb bb lb S B L) (hok : S.Ok) (now try_ er not_ : Int) (hnow : -1000000000 ≤ now ∧ now ≤ 1000000) (hnot : -1000000000 ≤ not_ ∧ not_ ≤ 1000000)
    (h1 : Caught w0 kn) (h2 : Caught w0 kc) (h3 : Caught w0 kt) (h4 : Caught w0 ke) (h5 : Caught w0 ko)
    (hn : w0.w.cell? ⟨kn, 0, none⟩ = some (.int .i64 now)) (hc : w0.w.cell? ⟨kc, 0, none⟩ = some (.pointer (some ⟨cb, 0, none⟩))) (ht : w0.w.cell? ⟨kt, 0, none⟩ = some (.int .i64 try_)) (he : w0.w.cell? ⟨ke, 0, none⟩ = some (.int .i64 er)) (ho : w0.w.cell? ⟨ko, 0, none⟩ = some (.int .i64 not_)) :
    Calls Tryz.prog 34 #[.func (.func 28) #[] #[.pointer (some ⟨lb, 0, none⟩)], .pointer (some ⟨kc, 0, none⟩), .pointer (some ⟨kt, 0, none⟩), .pointer (some ⟨ke, 0, none⟩), .pointer (some ⟨kn, 0, none⟩), .pointer (some ⟨ko, 0, none⟩)] wi fun e w' => e = .returned (.tuple #[]) ∧ CW w0 w' cb mb bb lb (S.ansS now try_ er not_) B L := by
  have cn := h.caught h1 hn
  have cc := h.caught h2 hc
  have ct := h.caught h3 ht
  have ce := h.caught h4 he
  have co := h.caught h5 ho
  have c17 := h.call.cell 17 (.map (some mb)) rfl
  obtain ⟨x, hl⟩ := look_att h.call hok try_
  dsimp only [attVal] at hl
  have HL := Lib.hid hl
  have H := Lib.hid h
  have HC := Lib.hid hc
  have HCN := Lib.hid hn
  have HCE := Lib.hid he
  have HCO := Lib.hid ho
  have HT := Lib.hid ht
  have HOK := Lib.hid hok
  have HNW := Lib.hid hnow
  have HNT := Lib.hid hnot
  have HCC := Lib.hid cc
  have HCT := Lib.hid ct
  have HC17 := Lib.hid c17
  clear h hl hok hnow hnot hn hc ht he ho
  cases hk : S.hasK try_ with
  | false =>
    rw [hk] at HL
    have HE : Hid (S.ansS now try_ er not_ = S) := by unfold CS.ansS; rw [hk]; rfl
    clear hk
    go_enter Tryz.func34, Tryz.ntmps34
    go_wp2_with fail
    refine wp_region_held_drew (S := fun w' => w'.cell? ⟨kc, 0, none⟩ = some (.pointer (some ⟨cb, 0, none⟩)) ∧ w'.cell? ⟨kt, 0, none⟩ = some (.int .i64 try_) ∧ w'.cell? ⟨cb, 17, none⟩ = some (.map (some mb)) ∧ (Instr.lookup 54 (.map (some mb)) (.int .i64 try_) true).run Tryz.prog w' = .ok (.tuple #[.agg #[.int .i64 x.1, .int .i64 x.2.req, .string x.2.call, .int .i64 x.2.try_, .bool x.2.idem, .bool x.2.shadow, .int .i64 x.2.dl, .int .i64 x.2.purse, .int .i64 x.2.ver, .int .i64 x.2.prio], .bool false]) w') (by kernel_rfl) ⟨cc, ct, c17, HL.out _ rfl⟩ (fun hHeld => ?_)
    refine wpAnyH_take (i := 0) (v := ?_) rfl (by kernel_rfl) (by kernel_rfl) (by kernel_rfl) (fun _ _ _ h => h) (Or.inl ⟨by kernel_rfl, ?_⟩) (by assumption) ?_
    rotate_left
    · (intro w hSw; (try dsimp only at hSw); go_simp; try with_reducible rfl)
    try simp only [Act.put]
    refine wpAnyH_take (i := 1) (v := ?_) rfl (by kernel_rfl) (by kernel_rfl) (by kernel_rfl) (fun _ _ _ h => h) (Or.inl ⟨by kernel_rfl, ?_⟩) (by assumption) ?_
    rotate_left
    · (intro w hSw; (try dsimp only at hSw); go_simp; try with_reducible rfl)
    try simp only [Act.put]
    refine wpAnyH_take (i := 2) (v := ?_) rfl (by kernel_rfl) (by kernel_rfl) (by kernel_rfl) (fun _ _ _ h => h) (Or.inl ⟨by kernel_rfl, ?_⟩) (by assumption) ?_
    rotate_left
    · (intro w hSw; (try dsimp only at hSw); go_simp; try with_reducible rfl)
    try simp only [Act.put]
    refine wpAnyH_take (i := 3) (v := ?_) rfl (by kernel_rfl) (by kernel_rfl) (by kernel_rfl) (fun _ _ _ h => h) (Or.inl ⟨by kernel_rfl, ?_⟩) (by assumption) ?_
    rotate_left
    · (intro w hSw; (try dsimp only at hSw); go_simp; try with_reducible rfl)
    try simp only [Act.put]
    refine wpAnyH_take (i := 4) (v := ?_) rfl (by kernel_rfl) (by kernel_rfl) (by kernel_rfl) (fun _ _ _ h => h) (Or.inl ⟨by kernel_rfl, ?_⟩) (by assumption) ?_
    rotate_left
    · (intro w hSw; (try dsimp only at hSw); go_simp; try with_reducible rfl)
    try simp only [Act.put]
    refine wpAnyH_take (i := 5) (v := ?_) rfl (by kernel_rfl) (by kernel_rfl) (by kernel_rfl) (fun _ _ _ h => h) (Or.inl ⟨by kernel_rfl, ?_⟩) (by assumption) ?_
    rotate_left
    · (intro w hSw; (try dsimp only at hSw); go_simp; try with_reducible rfl)
    try simp only [Act.put]
    refine wpAnyH_take (i := 6) (v := ?_) rfl (by kernel_rfl) (by kernel_rfl) (by kernel_rfl) (fun _ _ _ h => h) (Or.inl ⟨by kernel_rfl, ?_⟩) (by assumption) ?_
    rotate_left
    · (intro w hSw; (try dsimp only at hSw); go_simp; try with_reducible rfl)
    try simp only [Act.put]
    refine wpAnyH_take (i := 7) (v := ?_) rfl (by kernel_rfl) (by kernel_rfl) (by kernel_rfl) (fun _ _ _ h => h) (Or.inl ⟨by kernel_rfl, ?_⟩) (by assumption) ?_
    rotate_left
    · (intro w hSw; (try dsimp only at hSw); go_simp; try with_reducible rfl)
    try simp only [Act.put]
    refine wpAnyH_take (i := 8) (v := ?_) rfl (by kernel_rfl) (by kernel_rfl) (by kernel_rfl) (fun _ _ _ h => h) (Or.inl ⟨by kernel_rfl, ?_⟩) (by assumption) ?_
    rotate_left
    · (intro w hSw; (try dsimp only at hSw); go_simp; try with_reducible rfl)
    try simp only [Act.put]
    refine wpAnyH_ready (rs := [9]) (by kernel_rfl) (by simp) ?_
    refine AllReadyH.cons rfl (fun K hK => ?_) AllReadyH.nil
    go_simp
    refine hK.out _ _ (⟨bkeep ((Below.refl _ _).drew.alloc (Nat.le_refl _) _) HCC.out, bkeep ((Below.refl _ _).drew.alloc (Nat.le_refl _) _) HCT.out, bkeep ((Below.refl _ _).drew.alloc (Nat.le_refl _) _) HC17.out, HL.out _ (((Below.refl _ _).drew.alloc (Nat.le_refl _) _).block _ H.out.call.lt.2)⟩) (fun hHeld => ?_)
    clear hK K
    try simp only [Act.put]
    refine wpAnyH_ready (rs := [10]) (by kernel_rfl) (by simp) ?_
    refine AllReadyH.cons rfl (fun K hK => ?_) AllReadyH.nil
    go_simp
    have hbn := fun ob => ((Below.refl wi.heap.size wi).alloc (Nat.le_refl _) ob).drew
    refine hK.out _ _ (⟨bkeep (hbn _) HCC.out, bkeep (hbn _) HCT.out, bkeep (hbn _) HC17.out, HL.out _ ((hbn _).block _ H.out.call.lt.2)⟩) (fun hHeld => ?_)
    clear hK K
    try simp only [Act.put]
    refine wpAnyH_ready (rs := [11]) (by kernel_rfl) (by simp) ?_
    refine AllReadyH.cons rfl (fun K hK => ?_) AllReadyH.nil
    go_simp
    refine hK.out _ _ (⟨bkeep (hbn _) HCC.out, bkeep (hbn _) HCT.out, bkeep (hbn _) HC17.out, HL.out _ ((hbn _).block _ H.out.call.lt.2)⟩) (fun hHeld => ?_)
    clear hK K
    try simp only [Act.put]
    refine wpAnyH_done (by kernel_rfl) ?_ _
    try simp only [Act.put]
    have HK := Lib.hid (fun ob => H.out.keep (hbn ob))
    clear hHeld hbn
    go_wp2_with fail
    first | go_end0 | (refine bodyPost_ret (results_none rfl _ _ _) rfl ?_)
    rw [HE.out]
    exact ⟨rfl, HK.out _⟩
  | true =>
    rw [hk] at HL
    have HM : Hid (1 ≤ S.made) := by obtain ⟨o, ho, _⟩ := List.any_eq_true.1 hk; have := HOK.out.keyb o ho; show _ ≤ _; omega
    have HE : Hid (S.ansS now try_ er not_ = if er = 0 then { S.del try_ with over := true, end_ := 0 } else (S.del try_).failS now er not_) := by unfold CS.ansS; rw [hk]; rfl
    clear hk
    go_enter Tryz.func34, Tryz.ntmps34
    go_wp2_with fail
    refine wp_region_held_drew (S := fun w' => w'.cell? ⟨kc, 0, none⟩ = some (.pointer (some ⟨cb, 0, none⟩)) ∧ w'.cell? ⟨kt, 0, none⟩ = some (.int .i64 try_) ∧ w'.cell? ⟨cb, 17, none⟩ = some (.map (some mb)) ∧ (Instr.lookup 54 (.map (some mb)) (.int .i64 try_) true).run Tryz.prog w' = .ok (.tuple #[.agg #[.int .i64 x.1, .int .i64 x.2.req, .string x.2.call, .int .i64 x.2.try_, .bool x.2.idem, .bool x.2.shadow, .int .i64 x.2.dl, .int .i64 x.2.purse, .int .i64 x.2.ver, .int .i64 x.2.prio], .bool true]) w') (by kernel_rfl) ⟨cc, ct, c17, HL.out _ rfl⟩ (fun hHeld => ?_)
    refine wpAnyH_take (i := 0) (v := ?_) rfl (by kernel_rfl) (by kernel_rfl) (by kernel_rfl) (fun _ _ _ h => h) (Or.inl ⟨by kernel_rfl, ?_⟩) (by assumption) ?_
    rotate_left
    · (intro w hSw; (try dsimp only at hSw); go_simp; try with_reducible rfl)
    try simp only [Act.put]
    refine wpAnyH_take (i := 1) (v := ?_) rfl (by kernel_rfl) (by kernel_rfl) (by kernel_rfl) (fun _ _ _ h => h) (Or.inl ⟨by kernel_rfl, ?_⟩) (by assumption) ?_
    rotate_left
    · (intro w hSw; (try dsimp only at hSw); go_simp; try with_reducible rfl)
    try simp only [Act.put]
    refine wpAnyH_take (i := 2) (v := ?_) rfl (by kernel_rfl) (by kernel_rfl) (by kernel_rfl) (fun _ _ _ h => h) (Or.inl ⟨by kernel_rfl, ?_⟩) (by assumption) ?_
    rotate_left
    · (intro w hSw; (try dsimp only at hSw); go_simp; try with_reducible rfl)
    try simp only [Act.put]
    refine wpAnyH_take (i := 3) (v := ?_) rfl (by kernel_rfl) (by kernel_rfl) (by kernel_rfl) (fun _ _ _ h => h) (Or.inl ⟨by kernel_rfl, ?_⟩) (by assumption) ?_
    rotate_left
    · (intro w hSw; (try dsimp only at hSw); go_simp; try with_reducible rfl)
    try simp only [Act.put]
    refine wpAnyH_take (i := 4) (v := ?_) rfl (by kernel_rfl) (by kernel_rfl) (by kernel_rfl) (fun _ _ _ h => h) (Or.inl ⟨by kernel_rfl, ?_⟩) (by assumption) ?_
    rotate_left
    · (intro w hSw; (try dsimp only at hSw); go_simp; try with_reducible rfl)
    try simp only [Act.put]
    refine wpAnyH_take (i := 5) (v := ?_) rfl (by kernel_rfl) (by kernel_rfl) (by kernel_rfl) (fun _ _ _ h => h) (Or.inl ⟨by kernel_rfl, ?_⟩) (by assumption) ?_
    rotate_left
    · (intro w hSw; (try dsimp only at hSw); go_simp; try with_reducible rfl)
    try simp only [Act.put]
    refine wpAnyH_take (i := 6) (v := ?_) rfl (by kernel_rfl) (by kernel_rfl) (by kernel_rfl) (fun _ _ _ h => h) (Or.inl ⟨by kernel_rfl, ?_⟩) (by assumption) ?_
    rotate_left
    · (intro w hSw; (try dsimp only at hSw); go_simp; try with_reducible rfl)
    try simp only [Act.put]
    refine wpAnyH_take (i := 7) (v := ?_) rfl (by kernel_rfl) (by kernel_rfl) (by kernel_rfl) (fun _ _ _ h => h) (Or.inl ⟨by kernel_rfl, ?_⟩) (by assumption) ?_
    rotate_left
    · (intro w hSw; (try dsimp only at hSw); go_simp; try with_reducible rfl)
    try simp only [Act.put]
    refine wpAnyH_take (i := 8) (v := ?_) rfl (by kernel_rfl) (by kernel_rfl) (by kernel_rfl) (fun _ _ _ h => h) (Or.inl ⟨by kernel_rfl, ?_⟩) (by assumption) ?_
    rotate_left
    · (intro w hSw; (try dsimp only at hSw); go_simp; try with_reducible rfl)
    try simp only [Act.put]
    refine wpAnyH_ready (rs := [9]) (by kernel_rfl) (by simp) ?_
    refine AllReadyH.cons rfl (fun K hK => ?_) AllReadyH.nil
    go_simp
    refine hK.out _ _ (⟨bkeep ((Below.refl _ _).drew.alloc (Nat.le_refl _) _) HCC.out, bkeep ((Below.refl _ _).drew.alloc (Nat.le_refl _) _) HCT.out, bkeep ((Below.refl _ _).drew.alloc (Nat.le_refl _) _) HC17.out, HL.out _ (((Below.refl _ _).drew.alloc (Nat.le_refl _) _).block _ H.out.call.lt.2)⟩) (fun hHeld => ?_)
    clear hK K
    try simp only [Act.put]
    refine wpAnyH_ready (rs := [10]) (by kernel_rfl) (by simp) ?_
    refine AllReadyH.cons rfl (fun K hK => ?_) AllReadyH.nil
    go_simp
    have hbn := fun ob => ((Below.refl wi.heap.size wi).alloc (Nat.le_refl _) ob).drew
    refine hK.out _ _ (⟨bkeep (hbn _) HCC.out, bkeep (hbn _) HCT.out, bkeep (hbn _) HC17.out, HL.out _ ((hbn _).block _ H.out.call.lt.2)⟩) (fun hHeld => ?_)
    clear hK K
    try simp only [Act.put]
    refine wpAnyH_ready (rs := [11]) (by kernel_rfl) (by simp) ?_
    refine AllReadyH.cons rfl (fun K hK => ?_) AllReadyH.nil
    go_simp
    refine hK.out _ _ (⟨bkeep (hbn _) HCC.out, bkeep (hbn _) HCT.out, bkeep (hbn _) HC17.out, HL.out _ ((hbn _).block _ H.out.call.lt.2)⟩) (fun hHeld => ?_)
    clear hK K
    try simp only [Act.put]
    refine wpAnyH_done (by kernel_rfl) ?_ _
    try simp only [Act.put]
    obtain ⟨W, hW⟩ : ∃ W, W = (wi.alloc (.cells #[.int .i64 x.1, .int .i64 x.2.req, .string x.2.call, .int .i64 x.2.try_, .bool x.2.idem, .bool x.2.shadow, .int .i64 x.2.dl, .int .i64 x.2.purse, .int .i64 x.2.ver, .int .i64 x.2.prio] 71)).drew := ⟨_, rfl⟩
    have hbW : Below wi.heap.size wi W := by rw [hW]; exact hbn _
    rw [← hW]
    have HCW := Lib.hid (H.out.keep hbW)
    have kc' := bkeep hbW cc
    have kt' := bkeep hbW ct
    have k17 := bkeep hbW c17
    obtain ⟨w5, hdel, hm5, hg5⟩ := run_delete_at (w := W.drew) (int_law Tryz.underlying3) (HCW.out.call.map.keep (w' := W.drew) rfl) Tryz.underlying54 3 0 try_
    rw [openM_del HOK.out] at hm5
    have hc5 := HCW.out.upd (S' := S.del try_) hg5 hm5 rfl
    have HC5 := Lib.hid hc5
    have dn := hc5.caught h1 HCN.out
    have dc := hc5.caught h2 HC.out
    have de := hc5.caught h4 HCE.out
    have d_ := hc5.caught h5 HCO.out
    have d24 := hc5.call.cell 24 (.bool S.over) rfl
    have d25 := hc5.call.cell 25 (.int .i64 S.end_) rfl
    have g24 := hc5.call.free 24
    have g25 := hc5.call.free 25
    have HFA := Lib.hid (fun n => fail_any (hc5.keep (below_drewN (nq := n) (Below.refl _ _))) (HOK.out.del try_) HM.out now er not_ HNW.out HNT.out)
    clear hHeld hbn hW hbW hm5 hg5 hc5 c17 cc ct cn ce co HL HCC HCT HC17
    go_wp2_with fail
    refine wp_region_split_held 5 (fun w' => w'.cell? ⟨kc, 0, none⟩ = some (.pointer (some ⟨cb, 0, none⟩)) ∧ w'.cell? ⟨kt, 0, none⟩ = some (.int .i64 try_) ∧ w'.cell? ⟨cb, 17, none⟩ = some (.map (some mb))) (by kernel_rfl) (by kernel_rfl) ⟨kc', kt', k17⟩ (fun K0 hK0 hHeld => ?_)
    simp only [List.take_succ_cons, List.take_zero]
    refine wpAnyH_take (i := 0) (v := ?_) rfl (by kernel_rfl) (by kernel_rfl) (by kernel_rfl) (fun _ _ _ h => h) (Or.inl ⟨by kernel_rfl, ?_⟩) (by assumption) ?_
    rotate_left
    · (intro w hSw; (try dsimp only at hSw); go_simp; try with_reducible rfl)
    try simp only [Act.put]
    refine wpAnyH_take (i := 1) (v := ?_) rfl (by kernel_rfl) (by kernel_rfl) (by kernel_rfl) (fun _ _ _ h => h) (Or.inl ⟨by kernel_rfl, ?_⟩) (by assumption) ?_
    rotate_left
    · (intro w hSw; (try dsimp only at hSw); go_simp; try with_reducible rfl)
    try simp only [Act.put]
    refine wpAnyH_take (i := 2) (v := ?_) rfl (by kernel_rfl) (by kernel_rfl) (by kernel_rfl) (fun _ _ _ h => h) (Or.inl ⟨by kernel_rfl, ?_⟩) (by assumption) ?_
    rotate_left
    · (intro w hSw; (try dsimp only at hSw); go_simp; try with_reducible rfl)
    try simp only [Act.put]
    refine wpAnyH_take (i := 3) (v := ?_) rfl (by kernel_rfl) (by kernel_rfl) (by kernel_rfl) (fun _ _ _ h => h) (Or.inl ⟨by kernel_rfl, ?_⟩) (by assumption) ?_
    rotate_left
    · (intro w hSw; (try dsimp only at hSw); go_simp; try with_reducible rfl)
    try simp only [Act.put]
    refine wpAnyH_take (i := 4) (v := ?_) rfl (by kernel_rfl) (by kernel_rfl) (by kernel_rfl) (fun _ _ _ h => h) (Or.inl ⟨by kernel_rfl, ?_⟩) (by assumption) ?_
    rotate_left
    · (intro w hSw; (try dsimp only at hSw); go_simp; try with_reducible rfl)
    try simp only [Act.put]
    refine wpAnyH_done (by kernel_rfl) ?_ _
    simp only [Exit.then]
    refine hK0 _ _ ?_
    clear hK0 K0 hHeld
    try simp only [Act.put]
    by_cases her : er = 0
    · have t1 : (er == 0) = true := by rw [her]; rfl
      have HE' := Lib.hid (HE.out.trans (if_pos her))
      clear her
      go_wp2_with fail
      go_region
      go_wp2_with fail
      first | go_end0 | (refine bodyPost_ret (results_none rfl _ _ _) rfl ?_)
      rw [HE'.out]
      exact ⟨rfl, (HC5.out.drew.set 24 (.bool true) (S' := { S.del try_ with over := true }) rfl rfl).set 25 (.int .i64 0) (S' := { S.del try_ with over := true, end_ := 0 }) rfl rfl⟩
    · have t1 : (er == 0) = false := beq_eq_false_iff_ne.2 her
      have HE' := Lib.hid (HE.out.trans (if_neg her))
      clear her
      go_wp2_with fail
      refine (HFA.out 0).mono ?_
      rintro e w6 ⟨rfl, hw⟩
      have HW := Lib.hid hw
      clear hw
      go_wp2_with fail
      first | go_end0 | (refine bodyPost_ret (results_none rfl _ _ _) rfl ?_)
      rw [HE'.out]
      exact ⟨rfl, HW.out⟩

end Go.Proofs.YtkpjjhiighakfaaGreatDoor
