/- timeouts: the walk. -/
import Derived.Test.YtkpjjhiighakfaaGreatDoorB16
namespace Go.Proofs.YtkpjjhiighakfaaGreatDoor
open Go.RowKit
attribute [local go_sem ↓] Go.wp_at_zero Go.wp_at_succ

theorem openM_nodup {S : CS} (h : S.Ok) : ((openM S).map (·.1)).Nodup := by
  have : (openM S).map (·.1) = S.open_.map (·.1) := by unfold openM; rw [List.map_map]; rfl
  rw [this]
  exact h.keys.imp (fun h e => by omega)
theorem openM_get {S : CS} (h : S.Ok) {o : Int × Int × Cx} (ho : o ∈ S.open_) : mget (openM S) o.1 = some (attVal o.2) := mget_mem (openM_nodup h) (List.mem_map.2 ⟨o, ho, rfl⟩)
theorem openM_del {S : CS} (h : S.Ok) (k : Int) : mdel (openM S) k = openM (S.del k) := by
  rw [mdel_filter _ _ (openM_nodup h)]
  unfold openM CS.del
  rw [List.filter_map]
  rfl

set_option maxRecDepth 8000 in
set_option maxHeartbeats 2000000 in
theorem timeouts_any {w0 : Base} {wi : World} {cb mb bb lb : Nat} {S : CS} {B : Bk} {L : List Ac} (h : CW w0 wi cb mb bb lb S B L) (hok : S.Ok) (hL : L.length ≤ 900) (now : Int) (hn : -1000000000 ≤ now ∧ now ≤ 1000000) :
    Calls Tryz.prog 37 #[.pointer (some ⟨cb, 0, none⟩), .int .i64 now, .func (.func 28) #[] #[.pointer (some ⟨lb, 0, none⟩)]] wi fun e w' => e = .returned (.tuple #[]) ∧ CW w0 w' cb mb bb lb (S.toS now).1 B (L ++ (S.toS now).2) := by
  have hlen8 := hok.len
  have hmk : (openM S).map (·.1) = S.open_.map (·.1) := by unfold openM; rw [List.map_map]; rfl
  have HOP := Lib.hid (open_any (h.call.cell 17 _ rfl) h.call.map (fun p hp => by obtain ⟨o, ho, rfl⟩ := List.mem_map.1 hp; have h1 := hok.keyb o ho; have h2 := hok.made; exact wf_i64 (by show _ ≤ o.1; omega) (by show o.1 ≤ _; omega)) (by unfold openM; rw [List.length_map]; omega) (by rw [hmk]; exact hok.keys.imp (fun h => Int.le_of_lt h)))
  rw [hmk] at HOP
  have H := Lib.hid h
  have HOK := Lib.hid hok
  have HN := Lib.hid hn
  clear h hok hmk
  go_enter Tryz.func37, Tryz.ntmps37
  go_wp2_with fail
  refine HOP.out.mono ?_
  rintro e w1 ⟨v, sb, rfl, hi, hfr, hb1⟩
  obtain ⟨P, hc1, hP⟩ := H.out.here' hb1
  have HC1 := Lib.hid hc1
  have HP := Lib.hid hP
  have HB1 := Lib.hid hb1
  obtain ⟨la, lc, rfl⟩ := hi.form
  obtain ⟨n, hnn⟩ : ∃ n, n = S.open_.length := ⟨_, rfl⟩
  have HROW : Hid (∀ i (o : Int × Int × Cx), S.open_[i]? = some o → ∃ g off, la = some ⟨g, off, none⟩ ∧ ∀ W, Fr P w1 W → W.cell? ⟨g, off + i, none⟩ = some (.int .i64 o.1)) := by
    intro i o ho
    have hil := (List.getElem?_eq_some_iff.1 ho).1
    rcases hi.2.2 with ⟨_, h0, _⟩ | ⟨g, off, cap, cur, hv, hsg, _⟩
    · rw [List.length_map] at h0; omega
    · injection hv with e1 e2 e3
      refine ⟨g, off, e1, fun W hW => hW.cell ?_ (fun hp => by have := (hP g hp).1; have := hfr g hsg; omega)⟩
      have hc := RowAt.cell (cap := lc) (n := (S.open_.map (·.1)).length) (cs := intCells (S.open_.map (·.1))) (T := 3) (s := 1) (g := g) (off := off) (sb := sb) (w := w1) (by rw [← e1]; exact hi) i (by rw [List.length_map]; omega)
      rw [hc, intCells_get, List.getElem?_map, ho]; rfl
  rw [List.length_map, ← hnn]
  have HNN := Lib.hid hnn
  rw [← hnn] at hlen8
  clear hi hfr hb1 hc1 hP hnn HOP
  go_wp2_with fail
  go_loopw [12] (fun vi wr => ∃ (i : Nat) (st : CS × List Ac), vi = .int .i64 i ∧ i ≤ n ∧ ToInv ⟨w1, P⟩ wr cb mb bb lb S B L now i st) (fun vi _ => (n - intOf vi).toNat)
  case atStart => exact ⟨0, (S, []), rfl, Nat.zero_le _, ⟨rfl, by rw [List.append_nil]; exact HC1.out, HOK.out, rfl, rfl, fun j o _ ho => List.mem_of_getElem? ho, Nat.le_refl _⟩⟩
  case round =>
    obtain ⟨i, st, rfl, hin, hinv⟩ := hrel
    have HI := Lib.hid hinv
    clear hinv
    by_cases hlt : i < n
    · obtain ⟨o, ho⟩ : ∃ o, S.open_[i]? = some o := ⟨S.open_[i]'(by rw [← HNN.out]; exact hlt), List.getElem?_eq_getElem _⟩
      obtain ⟨g, off, rfl, hcell⟩ := HROW.out i o ho
      have c0 := hcell wr HI.out.cw.fr
      have i1 : (0 : Int) ≤ (i : Int) := by omega
      have i2 : (i : Int) < (n : Int) := by omega
      have hmem := HI.out.here i o (Nat.le_refl _) ho
      have hl := run_lookup_at (int_law Tryz.underlying3) HI.out.cw.call.map Tryz.underlying54 (z := .agg #[.int .i64 0, .int .i64 0, .string ⟨#[]⟩, .int .i64 0, .bool false, .bool false, .int .i64 0, .int .i64 0, .int .i64 0, .int .i64 0]) (by kernel_rfl) o.1 false
      rw [openM_get HI.out.ok hmem] at hl
      simp only [Bool.false_eq_true, if_false, Option.getD_some, attVal] at hl
      have c17 := HI.out.cw.call.cell 17 (.map (some mb)) rfl
      have c24 := HI.out.cw.call.cell 24 (.bool st.1.over) rfl
      have c9 := HI.out.cw.call.cell 9 (.int .i64 st.1.p.tmo) rfl
      have e24 := fun ob => akeep c24 ob
      have e9 := fun ob => akeep c9 ob
      have e17 := fun ob => akeep c17 ob
      obtain ⟨a0, a1⟩ := HI.out.ok.ats o hmem
      obtain ⟨n0, n1⟩ := HN.out
      have HO := Lib.hid ho
      have HMEM := Lib.hid hmem
      clear hcell ho hmem
      cases hov : st.1.over with
      | true =>
        rw [hov] at c24 e24
        have hs : (st.1.over || decide (now - o.2.1 < st.1.p.tmo)) = true := by rw [hov]; rfl
        have HNX := Lib.hid (fun ob nq => HI.out.stay HO.out (w' := (wr.alloc ob).drewN nq) (below_drewN ((Below.refl _ _).alloc (Nat.le_refl _) ob)) hs)
        clear hs
        go_wp2_with fail
        go_quiet (fail)
        go_wp2_with fail
        go_roundw
        case rel => exact ⟨i + 1, st, by go_num, by omega, HNX.out _ _⟩
        case measure => simp [intOf]; omega
      | false =>
        rw [hov] at c24 e24
        cases htm : decide (now - o.2.1 < st.1.p.tmo) with
        | true =>
          have hs : (st.1.over || decide (now - o.2.1 < st.1.p.tmo)) = true := by rw [hov, htm]; rfl
          have HNX := Lib.hid (fun ob nq => HI.out.stay HO.out (w' := (wr.alloc ob).drewN nq) (below_drewN ((Below.refl _ _).alloc (Nat.le_refl _) ob)) hs)
          clear hs
          go_wp2_with fail
          go_quiet (fail)
          go_wp2_with fail
          go_roundw
          case rel => exact ⟨i + 1, st, by go_num, by omega, HNX.out _ _⟩
          case measure => simp [intOf]; omega
        | false =>
          have hs : (st.1.over || decide (now - o.2.1 < st.1.p.tmo)) = false := by rw [hov, htm]; rfl
          have HS := Lib.hid hs
          clear hs
          go_wp2_with fail
          go_quiet (fail)
          obtain ⟨W, hW⟩ : ∃ W, W = (wr.alloc (.cells #[.int .i64 o.2.1, .int .i64 o.2.2.req, .string o.2.2.call, .int .i64 o.2.2.try_, .bool o.2.2.idem, .bool o.2.2.shadow, .int .i64 o.2.2.dl, .int .i64 o.2.2.purse, .int .i64 o.2.2.ver, .int .i64 o.2.2.prio] 71)).drewN nq := ⟨_, rfl⟩
          rw [← hW]
          have hbW : Below wr.heap.size wr W := by rw [hW]; exact below_drewN ((Below.refl _ _).alloc (Nat.le_refl _) _)
          have hbox : W.heap[wr.heap.size]? = some (.cells #[.int .i64 o.2.1, .int .i64 o.2.2.req, .string o.2.2.call, .int .i64 o.2.2.try_, .bool o.2.2.idem, .bool o.2.2.shadow, .int .i64 o.2.2.dl, .int .i64 o.2.2.purse, .int .i64 o.2.2.ver, .int .i64 o.2.2.prio] 71 (0, 0)) := by rw [hW]; exact heap_alloc_new wr _
          have hcW := HI.out.cw.keep hbW
          have hNm : wr.heap.size ≠ mb := fun e => by have := HI.out.cw.call.lt.2; omega
          obtain ⟨w5, hdel, hm5, hg5⟩ := run_delete_at (int_law Tryz.underlying3) hcW.call.map Tryz.underlying54 3 0 o.1
          rw [openM_del HI.out.ok] at hm5
          have hc5 := hcW.upd (S' := st.1.del o.1) ⟨hg5.os, hg5.tape, hg5.output, hg5.size, hg5.block⟩ hm5 rfl
          have HC5 := Lib.hid hc5
          have k17 := hcW.call.cell 17 (.map (some mb)) rfl
          have b1 := hg5.cell (a := ⟨wr.heap.size, 1, none⟩) (block_cell hbox 1 (.int .i64 o.2.2.req) rfl) (by simp; exact hNm)
          have b2 := hg5.cell (a := ⟨wr.heap.size, 2, none⟩) (block_cell hbox 2 (.string o.2.2.call) rfl) (by simp; exact hNm)
          have b3 := hg5.cell (a := ⟨wr.heap.size, 3, none⟩) (block_cell hbox 3 (.int .i64 o.2.2.try_) rfl) (by simp; exact hNm)
          have b4 := hg5.cell (a := ⟨wr.heap.size, 4, none⟩) (block_cell hbox 4 (.bool o.2.2.idem) rfl) (by simp; exact hNm)
          have b5 := hg5.cell (a := ⟨wr.heap.size, 5, none⟩) (block_cell hbox 5 (.bool o.2.2.shadow) rfl) (by simp; exact hNm)
          have b6 := hg5.cell (a := ⟨wr.heap.size, 6, none⟩) (block_cell hbox 6 (.int .i64 o.2.2.dl) rfl) (by simp; exact hNm)
          have b7 := hg5.cell (a := ⟨wr.heap.size, 7, none⟩) (block_cell hbox 7 (.int .i64 o.2.2.purse) rfl) (by simp; exact hNm)
          have b8 := hg5.cell (a := ⟨wr.heap.size, 8, none⟩) (block_cell hbox 8 (.int .i64 o.2.2.ver) rfl) (by simp; exact hNm)
          have b9 := hg5.cell (a := ⟨wr.heap.size, 9, none⟩) (block_cell hbox 9 (.int .i64 o.2.2.prio) rfl) (by simp; exact hNm)
          have HTL := Lib.hid (tell_any hc5 (by rw [List.length_append]; have := HI.out.len; omega) ⟨4, 0, o.2.2, 37⟩)
          clear hW hbW hbox hcW hm5 hg5 hc5 hl c0 c17 c24 c9 e24 e9 e17 htm hov
          go_wp2_with (go_at_call 28; refine HTL.out.mono ?_; rintro e w6 ⟨rfl, h6⟩)
          have hmm := HI.out.made
          have hm1 : 1 ≤ st.1.made := by have h1 := HOK.out.keyb o (List.mem_of_getElem? HO.out); omega
          have HFA := Lib.hid (fail_any h6 (HI.out.ok.del o.1) hm1 now 37 0 ⟨n0, n1⟩ ⟨by omega, by omega⟩)
          clear h6 hmm hm1
          refine HFA.out.mono ?_
          rintro e w7 ⟨rfl, h7⟩
          have HNX := Lib.hid (HI.out.drop HOK.out HO.out ⟨n0, n1⟩ HS.out h7)
          clear h7
          go_wp2_with fail
          go_roundw
          case rel => exact ⟨i + 1, _, by go_num, by omega, HNX.out⟩
          case measure => simp [intOf]; omega
    · obtain rfl : n = i := by omega
      have hT : S.toS now = st := by
        have := HI.out.eq
        rw [List.take_of_length_le (by rw [← HNN.out]; exact Nat.le_refl _)] at this
        exact this
      have HF := Lib.hid (H.out.keep HB1.out |>.back (fun k hk => (HP.out k hk).2) HI.out.cw)
      rw [← hT] at HF
      clear hT
      go_wp2_with fail
      go_end0
      exact ⟨rfl, HF.out⟩

end Go.Proofs.YtkpjjhiighakfaaGreatDoor
