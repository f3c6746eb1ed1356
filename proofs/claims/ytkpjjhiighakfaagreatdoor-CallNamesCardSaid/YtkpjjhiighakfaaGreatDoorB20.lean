/- gather. -/
import Derived.Test.YtkpjjhiighakfaaGreatDoorB19
namespace Go.Proofs.YtkpjjhiighakfaaGreatDoor
open Go.RowKit
attribute [local go_sem ↓] Go.wp_at_zero Go.wp_at_succ

/-- A call and its bucket. -/
structure CallAt (w : World) (cb mb bb : Nat) (S : CS) (B : Bk) : Prop where
  call : CallW w cb mb bb S
  bk : BkAt w bb B
  ne : cb ≠ mb ∧ cb ≠ bb ∧ mb ≠ bb

theorem CallAt.below {w w' : World} {cb mb bb : Nat} {S : CS} {B : Bk} (h : CallAt w cb mb bb S B) (hb : Below w.heap.size w w') : CallAt w' cb mb bb S B :=
  ⟨h.call.below hb, (hb.block _ (Array.getElem?_eq_some_iff.1 h.bk).1).trans h.bk, h.ne⟩

/-- What one act of a call leads to: the call, the bucket, what is told in a row that is new. -/
structure GR (w w' : World) (cb mb bb : Nat) (S : CS) (B : Bk) (L : List Ac) (v : Value) : Prop where
  at_ : CallAt w' cb mb bb S B
  row : ∃ sb, RowAt w' 42 12 v L.length (acsCells L) sb ∧ ∀ g, sb = some g → w.heap.size ≤ g ∧ ¬ CFoot cb mb bb g
  fr : Fr (CFoot cb mb bb) w w'

def Did (w : World) (cb mb bb : Nat) (S : CS) (B : Bk) (L : List Ac) (e : Ending) (w' : World) : Prop := ∃ v, e = .returned v ∧ GR w w' cb mb bb S B L v

theorem CallAt.start {w w' : World} {cb mb bb lb : Nat} {S : CS} {B : Bk} (h : CallAt w cb mb bb S B) (hb : Below w.heap.size w w') (hl : w.heap.size ≤ lb) (hbox : w'.heap[lb]? = some (.cells #[.slice none 0 0] 32 (0, 0))) : CW ⟨w, CFoot cb mb bb⟩ w' cb mb bb lb S B [] := by
  have hbw := (Array.getElem?_eq_some_iff.1 h.bk).1
  have hlt := h.call.lt
  refine ⟨h.call.below hb, (hb.block _ hbw).trans h.bk, ⟨.slice none 0 0, none, hbox, RowAt.nil _ _ _, fun g hg => by cases hg⟩, ⟨.inr hl, ?_⟩, ⟨.inl rfl, .inr (.inl rfl), .inr (.inr rfl)⟩, h.ne, Fr.ofBelow hb⟩
  unfold CFoot; omega

theorem CW.done {w wi w' : World} {cb mb bb lb : Nat} {S : CS} {B : Bk} {L : List Ac} (h : CW ⟨w, CFoot cb mb bb⟩ wi cb mb bb lb S B L) (hb : Below wi.heap.size wi w') : ∃ v, wi.cell? ⟨lb, 0, none⟩ = some v ∧ GR w w' cb mb bb S B L v := by
  obtain ⟨h1, h2, ⟨v, sb, h3, h4, h5⟩, h6, h6', h7, h8⟩ := h
  exact ⟨v, block_cell h3 0 v rfl, ⟨h1.below hb, (hb.block _ (Array.getElem?_eq_some_iff.1 h2).1).trans h2, h7⟩, ⟨sb, h4.keep hb, fun g hg => ⟨(h5 g hg).1.resolve_left (h5 g hg).2.2, (h5 g hg).2.2⟩⟩, h8.trans (Fr.ofBelow (F := CFoot cb mb bb) hb) (fun _ h => .inl h)⟩

theorem gather_none {w : World} {cb mb bb : Nat} {S : CS} {B : Bk} (h : CallAt w cb mb bb S B) (hov : S.over = true) (f : Value) :
    Calls Tryz.prog 16 #[.pointer (some ⟨cb, 0, none⟩), f] w (Did w cb mb bb S B []) := by
  have c24 := h.call.cell 24 (.bool S.over) rfl
  rw [hov] at c24
  have H : Hid (GR w w cb mb bb S B [] (.slice none 0 0)) := ⟨h, ⟨none, RowAt.nil _ _ _, fun g hg => by cases hg⟩, Fr.refl _ _⟩
  clear h hov
  go_enter Tryz.func16, Tryz.ntmps16
  go_wp2_with fail
  go_ret
  exact ⟨_, rfl, H.out⟩

/-- A function value that may be called. -/
def Enters (F : Nat) : Prop := ∀ (args : Array Value) (W : World), (callFunc F args).run Tryz.prog W = .ok (.enter F args) W

/-- What is done in between. -/
def DoneBy (w : World) (cb mb bb : Nat) (S : CS) (B : Bk) (F : Nat) (caps : Array Value) (S1 : CS) (B1 : Bk) (L1 : List Ac) : Prop :=
  ∀ wi lb, CW ⟨w, CFoot cb mb bb⟩ wi cb mb bb lb S B [] → Calls Tryz.prog F (#[.func (.func 28) #[] #[.pointer (some ⟨lb, 0, none⟩)]] ++ caps) wi fun e w' => e = .returned (.tuple #[]) ∧ CW ⟨w, CFoot cb mb bb⟩ w' cb mb bb lb S1 B1 L1

set_option maxRecDepth 8000 in
set_option maxHeartbeats 2000000 in
theorem gather_goes {w : World} {cb mb bb : Nat} {S S1 : CS} {B B1 : Bk} {L1 : List Ac} (h : CallAt w cb mb bb S B) (hov : S.over = false) (hok1 : S1.Ok) (hov1 : S1.over = false) (hL1 : L1.length ≤ 900) (F : Nat) (caps : Array Value) (hF : Enters F)
    (hdo : DoneBy w cb mb bb S B F caps S1 B1 L1) :
    Calls Tryz.prog 16 #[.pointer (some ⟨cb, 0, none⟩), .func (.func F) #[] caps] w (Did w cb mb bb S1 B1 (L1 ++ [⟨2, S1.nextT, cx0, 0⟩])) := by
  have c24 := h.call.cell 24 (.bool S.over) rfl
  rw [hov] at c24
  have e24 := fun ob => akeep c24 ob
  have HS := Lib.hid (h.start ((Below.refl w.heap.size w).alloc (Nat.le_refl _) (.cells #[.slice none 0 0] 32)) (Nat.le_refl _) (heap_alloc_new w _))
  have HDO := Lib.hid hdo
  have hFF : ∀ (args : Array Value) (W : World), (callFunc F args).run Tryz.prog W = .ok (.enter F args) W := hF
  have HOV := Lib.hid hov1
  clear h hov hdo hF hov1
  go_enter Tryz.func16, Tryz.ntmps16
  go_wp2_with fail
  refine (HDO.out _ _ HS.out).mono ?_
  rintro e w1 ⟨rfl, h1⟩
  have d24 := h1.call.cell 24 (.bool false) (by rw [← HOV.out]; rfl)
  have HN := Lib.hid (next_any h1.call hok1)
  have H1 := Lib.hid h1
  clear h1 hFF
  go_wp2_with fail
  refine HN.out.mono ?_
  rintro e w2 ⟨rfl, hb2⟩
  have H2 := Lib.hid (H1.out.keep hb2)
  have HT := Lib.hid (tell_any H2.out (by omega) ⟨2, S1.nextT, cx0, 0⟩)
  clear hb2
  go_wp2_with fail
  refine HT.out.mono ?_
  rintro e w3 ⟨rfl, h3⟩
  obtain ⟨v, hv, hg⟩ := h3.done (Below.refl _ _)
  have HG := Lib.hid hg
  clear h3 hg
  go_wp2_with fail
  go_ret
  exact ⟨_, rfl, HG.out⟩

/-- A call that is over drops what is open. -/
def dropA (o : Int × Int × Cx) : Ac := ⟨4, 0, o.2.2, 0⟩
def CS.fin (S : CS) : CS := if S.over then { S with open_ := [] } else S
def CS.finL (S : CS) : List Ac := if S.over then S.open_.map dropA ++ [⟨3, 0, S.c, S.end_⟩] else [⟨2, S.nextT, cx0, 0⟩]

structure DropInv (w0 : Base) (wr : World) (cb mb bb lb : Nat) (S : CS) (B : Bk) (L : List Ac) (i : Nat) : Prop where
  cw : CW w0 wr cb mb bb lb { S with open_ := S.open_.drop i } B (L ++ (S.open_.take i).map dropA)

theorem drop_ok {S : CS} (h : S.Ok) (i : Nat) : CS.Ok { S with open_ := S.open_.drop i } :=
  { h with
    keys := h.keys.sublist ((List.drop_sublist i S.open_).map _)
    keyb := fun x hx => h.keyb x (List.mem_of_mem_drop hx)
    ats := fun x hx => h.ats x (List.mem_of_mem_drop hx) }
theorem drop_del {S : CS} (h : S.Ok) {i : Nat} {o : Int × Int × Cx} (ho : S.open_[i]? = some o) : CS.del { S with open_ := S.open_.drop i } o.1 = { S with open_ := S.open_.drop (i + 1) } := by
  obtain ⟨hi, he⟩ := List.getElem?_eq_some_iff.1 ho
  have hk := (drop_ok h i).keys
  unfold CS.del
  rw [List.drop_eq_getElem_cons hi, he] at hk ⊢
  rw [List.map_cons, List.pairwise_cons] at hk
  rw [List.filter_cons_of_neg (by simp), List.filter_eq_self.2]
  intro x hx
  have := hk.1 x.1 (List.mem_map.2 ⟨x, hx, rfl⟩)
  exact decide_eq_true (by omega)

set_option maxRecDepth 8000 in
set_option maxHeartbeats 2000000 in
theorem gather_ends {w : World} {cb mb bb : Nat} {S S1 : CS} {B B1 : Bk} {L1 : List Ac} (h : CallAt w cb mb bb S B) (hov : S.over = false) (hok1 : S1.Ok) (hov1 : S1.over = true) (hL1 : L1.length ≤ 900) (F : Nat) (caps : Array Value) (hF : Enters F)
    (hdo : DoneBy w cb mb bb S B F caps S1 B1 L1) :
    Calls Tryz.prog 16 #[.pointer (some ⟨cb, 0, none⟩), .func (.func F) #[] caps] w (Did w cb mb bb { S1 with open_ := [] } B1 (L1 ++ S1.open_.map dropA ++ [⟨3, 0, S1.c, S1.end_⟩])) := by
  have c24 := h.call.cell 24 (.bool S.over) rfl
  rw [hov] at c24
  have e24 := fun ob => akeep c24 ob
  have HS := Lib.hid (h.start ((Below.refl w.heap.size w).alloc (Nat.le_refl _) (.cells #[.slice none 0 0] 32)) (Nat.le_refl _) (heap_alloc_new w _))
  have HDO := Lib.hid hdo
  have hFF : ∀ (args : Array Value) (W : World), (callFunc F args).run Tryz.prog W = .ok (.enter F args) W := hF
  have HOV := Lib.hid hov1
  have HOK := Lib.hid hok1
  have hmk : (openM S1).map (·.1) = S1.open_.map (·.1) := by unfold openM; rw [List.map_map]; rfl
  have HMK := Lib.hid hmk
  have hlen8 := hok1.len
  clear h hov hdo hF hov1 hok1 hmk
  go_enter Tryz.func16, Tryz.ntmps16
  go_wp2_with fail
  refine (HDO.out _ _ HS.out).mono ?_
  rintro e w1 ⟨rfl, h1⟩
  have d24 := h1.call.cell 24 (.bool true) (by rw [← HOV.out]; rfl)
  have HOP := Lib.hid (open_any (h1.call.cell 17 _ rfl) h1.call.map (fun p hp => by obtain ⟨o, ho, rfl⟩ := List.mem_map.1 hp; have h1 := HOK.out.keyb o ho; have h2 := HOK.out.made; exact wf_i64 (by show _ ≤ o.1; omega) (by show o.1 ≤ _; omega)) (by unfold openM; rw [List.length_map]; omega) (by rw [HMK.out]; exact HOK.out.keys.imp (fun h => Int.le_of_lt h)))
  rw [HMK.out] at HOP
  have H1 := Lib.hid h1
  clear h1 hFF
  go_wp2_with fail
  refine HOP.out.mono ?_
  rintro e w2 ⟨v, sb, rfl, hi, hfr, hb1⟩
  obtain ⟨P, hc1, hP⟩ := H1.out.here' hb1
  have HC1 := Lib.hid hc1
  have HP := Lib.hid hP
  have HB1 := Lib.hid hb1
  obtain ⟨la, lc, rfl⟩ := hi.form
  obtain ⟨n, hnn⟩ : ∃ n, n = S1.open_.length := ⟨_, rfl⟩
  have HROW : Hid (∀ i (o : Int × Int × Cx), S1.open_[i]? = some o → ∃ g off, la = some ⟨g, off, none⟩ ∧ ∀ W, Fr P w2 W → W.cell? ⟨g, off + i, none⟩ = some (.int .i64 o.1)) := by
    intro i o ho
    have hil := (List.getElem?_eq_some_iff.1 ho).1
    rcases hi.2.2 with ⟨_, h0, _⟩ | ⟨g, off, cap, cur, hv, hsg, _⟩
    · rw [List.length_map] at h0; omega
    · injection hv with e1 e2 e3
      refine ⟨g, off, e1, fun W hW => hW.cell ?_ (fun hp => by have := (hP g hp).1; have := hfr g hsg; omega)⟩
      have hc := RowAt.cell (cap := lc) (n := (S1.open_.map (·.1)).length) (cs := intCells (S1.open_.map (·.1))) (T := 3) (s := 1) (g := g) (off := off) (sb := sb) (w := w2) (by rw [← e1]; exact hi) i (by rw [List.length_map]; omega)
      rw [hc, intCells_get, List.getElem?_map, ho]; rfl
  rw [List.length_map, ← hnn]
  have HNN := Lib.hid hnn
  rw [← hnn] at hlen8
  clear hi hfr hb1 hc1 hP hnn HOP
  go_wp2_with fail
  go_loopw [31] (fun vi wr => ∃ (i : Nat), vi = .int .i64 i ∧ i ≤ n ∧ DropInv ⟨w2, P⟩ wr cb mb bb w.heap.size S1 B1 L1 i) (fun vi _ => (n - intOf vi).toNat)
  case atStart => exact ⟨0, rfl, Nat.zero_le _, ⟨by rw [List.take_zero, List.map_nil, List.append_nil]; exact HC1.out⟩⟩
  case round =>
    obtain ⟨i, rfl, hin, hinv⟩ := hrel
    have HI := Lib.hid hinv
    clear hinv
    by_cases hlt : i < n
    · obtain ⟨o, ho⟩ : ∃ o, S1.open_[i]? = some o := ⟨S1.open_[i]'(by rw [← HNN.out]; exact hlt), List.getElem?_eq_getElem _⟩
      obtain ⟨g, off, rfl, hcell⟩ := HROW.out i o ho
      have c0 := hcell wr HI.out.cw.fr
      have i1 : (0 : Int) ≤ (i : Int) := by omega
      have i2 : (i : Int) < (n : Int) := by omega
      have hmem : o ∈ S1.open_.drop i := by
        obtain ⟨hi, he⟩ := List.getElem?_eq_some_iff.1 ho
        rw [List.drop_eq_getElem_cons hi, he]; exact List.mem_cons_self ..
      have hl := run_lookup_at (int_law Tryz.underlying3) HI.out.cw.call.map Tryz.underlying54 (z := .agg #[.int .i64 0, .int .i64 0, .string ⟨#[]⟩, .int .i64 0, .bool false, .bool false, .int .i64 0, .int .i64 0, .int .i64 0, .int .i64 0]) (by kernel_rfl) o.1 false
      rw [openM_get (S := { S1 with open_ := S1.open_.drop i }) (drop_ok HOK.out i) hmem] at hl
      simp only [Bool.false_eq_true, if_false, Option.getD_some, attVal] at hl
      have c17 := HI.out.cw.call.cell 17 (.map (some mb)) rfl
      have hfl : ∀ W : World, (Instr.field 71 (.agg #[.int .i64 o.2.1, .int .i64 o.2.2.req, .string o.2.2.call, .int .i64 o.2.2.try_, .bool o.2.2.idem, .bool o.2.2.shadow, .int .i64 o.2.2.dl, .int .i64 o.2.2.purse, .int .i64 o.2.2.ver, .int .i64 o.2.2.prio]) 1).run Tryz.prog W = .ok (.agg #[.int .i64 o.2.2.req, .string o.2.2.call, .int .i64 o.2.2.try_, .bool o.2.2.idem, .bool o.2.2.shadow, .int .i64 o.2.2.dl, .int .i64 o.2.2.purse, .int .i64 o.2.2.ver, .int .i64 o.2.2.prio]) W := fun _ => by kernel_rfl
      have HO := Lib.hid ho
      have HTL := Lib.hid (tell_any HI.out.cw (by rw [List.length_append, List.length_map, List.length_take]; omega) (dropA o))
      clear hcell ho hmem
      go_wp2_with fail
      refine HTL.out.mono ?_
      rintro e w6 ⟨rfl, h6⟩
      have d17 := h6.call.cell 17 (.map (some mb)) rfl
      obtain ⟨w7, hdel, hm7, hg7⟩ := run_delete_at (int_law Tryz.underlying3) h6.call.map Tryz.underlying54 3 0 o.1
      rw [openM_del (S := { S1 with open_ := S1.open_.drop i }) (drop_ok HOK.out i), drop_del HOK.out HO.out] at hm7
      have h7 := h6.upd (S' := { S1 with open_ := S1.open_.drop (i + 1) }) ⟨hg7.os, hg7.tape, hg7.output, hg7.size, hg7.block⟩ hm7 rfl
      have HNX : Hid (DropInv ⟨w2, P⟩ w7 cb mb bb w.heap.size S1 B1 L1 (i + 1)) := by
        refine ⟨?_⟩
        rw [List.take_add_one, HO.out, List.map_append, ← List.append_assoc]
        exact h7
      clear h6 hm7 hg7 h7 hl c0 c17
      go_wp2_with fail
      go_roundw
      case rel => exact ⟨i + 1, by go_num, by omega, HNX.out⟩
      case measure => simp [intOf]; omega
    · obtain rfl : n = i := by omega
      have hfin := HI.out.cw
      rw [List.take_of_length_le (by rw [← HNN.out]; exact Nat.le_refl _), List.drop_eq_nil_of_le (by rw [← HNN.out]; exact Nat.le_refl _)] at hfin
      have HF := Lib.hid hfin
      have hsee := hfin.call.see
      have c25 := hfin.call.cell 25 (.int .i64 S1.end_) rfl
      have HSEE := Lib.hid hsee
      obtain ⟨s0, s1, s2, s3, s4, s5, s6, s7, s8, _⟩ := hsee
      have HTL := Lib.hid (fun nq => tell_any (hfin.keep (below_drewN (nq := nq) (Below.refl _ _))) (by rw [List.length_append, List.length_map]; have := HNN.out; omega) ⟨3, 0, S1.c, S1.end_⟩)
      clear hfin
      go_wp2_with fail
      refine wp_region_split_held 10 (fun w' => w'.cell? ⟨cb, 0, none⟩ = some (.int .i64 S1.c.req) ∧ w'.cell? ⟨cb, 1, none⟩ = some (.string S1.c.call) ∧ w'.cell? ⟨cb, 2, none⟩ = some (.int .i64 S1.c.try_) ∧ w'.cell? ⟨cb, 3, none⟩ = some (.bool S1.c.idem) ∧ w'.cell? ⟨cb, 4, none⟩ = some (.bool S1.c.shadow) ∧ w'.cell? ⟨cb, 5, none⟩ = some (.int .i64 S1.c.dl) ∧ w'.cell? ⟨cb, 6, none⟩ = some (.int .i64 S1.c.purse) ∧ w'.cell? ⟨cb, 7, none⟩ = some (.int .i64 S1.c.ver) ∧ w'.cell? ⟨cb, 8, none⟩ = some (.int .i64 S1.c.prio) ∧ w'.cell? ⟨cb, 25, none⟩ = some (.int .i64 S1.end_)) (by kernel_rfl) (by kernel_rfl) ⟨s0, s1, s2, s3, s4, s5, s6, s7, s8, c25⟩ (fun K0 hK0 hHeld => ?_)
      simp only [List.take_succ_cons, List.take_zero]
      refine wpAnyH_take (i := 0) (v := ?_) rfl (by kernel_rfl) (by kernel_rfl) (by kernel_rfl) (fun _ _ _ h => h) (Or.inl ⟨by kernel_rfl, ?_⟩) (by assumption) ?_
      rotate_left
      · (intro w hSw; (try dsimp only at hSw); go_simp; try with_reducible rfl)
      try simp only [Act.put]
      refine wpAnyH_take (i := 1) (v := ?_) rfl (by kernel_rfl) (by kernel_rfl) (by kernel_rfl) (fun _ _ _ h => h) (Or.inl ⟨by kernel_rfl, ?_⟩) (by assumption) ?_
      rotate_left
      · (intro w hSw; (try dsimp only at hSw); go_simp; try with_reducible rfl)
      try simp only [Act.put]
      refine wpAnyH_take (i := 2) (v := ?_) rfl (by kernel_rfl) (by kernel_rfl) (by kernel_rfl) (fun _ _ _ h => h) (Or.inl ⟨by kernel_rfl, ?_⟩) (by assumption) ?_
      rotate_left
      · (intro w hSw; (try dsimp only at hSw); go_simp; try with_reducible rfl)
      try simp only [Act.put]
      refine wpAnyH_take (i := 3) (v := ?_) rfl (by kernel_rfl) (by kernel_rfl) (by kernel_rfl) (fun _ _ _ h => h) (Or.inl ⟨by kernel_rfl, ?_⟩) (by assumption) ?_
      rotate_left
      · (intro w hSw; (try dsimp only at hSw); go_simp; try with_reducible rfl)
      try simp only [Act.put]
      refine wpAnyH_take (i := 4) (v := ?_) rfl (by kernel_rfl) (by kernel_rfl) (by kernel_rfl) (fun _ _ _ h => h) (Or.inl ⟨by kernel_rfl, ?_⟩) (by assumption) ?_
      rotate_left
      · (intro w hSw; (try dsimp only at hSw); go_simp; try with_reducible rfl)
      try simp only [Act.put]
      refine wpAnyH_take (i := 5) (v := ?_) rfl (by kernel_rfl) (by kernel_rfl) (by kernel_rfl) (fun _ _ _ h => h) (Or.inl ⟨by kernel_rfl, ?_⟩) (by assumption) ?_
      rotate_left
      · (intro w hSw; (try dsimp only at hSw); go_simp; try with_reducible rfl)
      try simp only [Act.put]
      refine wpAnyH_take (i := 6) (v := ?_) rfl (by kernel_rfl) (by kernel_rfl) (by kernel_rfl) (fun _ _ _ h => h) (Or.inl ⟨by kernel_rfl, ?_⟩) (by assumption) ?_
      rotate_left
      · (intro w hSw; (try dsimp only at hSw); go_simp; try with_reducible rfl)
      try simp only [Act.put]
      refine wpAnyH_take (i := 7) (v := ?_) rfl (by kernel_rfl) (by kernel_rfl) (by kernel_rfl) (fun _ _ _ h => h) (Or.inl ⟨by kernel_rfl, ?_⟩) (by assumption) ?_
      rotate_left
      · (intro w hSw; (try dsimp only at hSw); go_simp; try with_reducible rfl)
      try simp only [Act.put]
      refine wpAnyH_take (i := 8) (v := ?_) rfl (by kernel_rfl) (by kernel_rfl) (by kernel_rfl) (fun _ _ _ h => h) (Or.inl ⟨by kernel_rfl, ?_⟩) (by assumption) ?_
      rotate_left
      · (intro w hSw; (try dsimp only at hSw); go_simp; try with_reducible rfl)
      try simp only [Act.put]
      refine wpAnyH_take (i := 9) (v := ?_) rfl (by kernel_rfl) (by kernel_rfl) (by kernel_rfl) (fun _ _ _ h => h) (Or.inl ⟨by kernel_rfl, ?_⟩) (by assumption) ?_
      rotate_left
      · (intro w hSw; (try dsimp only at hSw); go_simp; try with_reducible rfl)
      try simp only [Act.put]
      refine wpAnyH_done (by kernel_rfl) ?_ _
      simp only [Exit.then]
      refine hK0 _ _ ?_
      clear hK0 K0 hHeld
      try simp only [Act.put]
      go_wp2_with fail
      refine (HTL.out 1).mono ?_
      rintro e w3 ⟨rfl, h3⟩
      obtain ⟨v, hv, hg⟩ := ((H1.out.keep HB1.out).back (fun k hk => (HP.out k hk).2) h3).done (Below.refl _ _)
      have HG := Lib.hid hg
      clear h3 hg
      go_wp2_with fail
      go_ret
      exact ⟨_, rfl, HG.out⟩

end Go.Proofs.YtkpjjhiighakfaaGreatDoor
