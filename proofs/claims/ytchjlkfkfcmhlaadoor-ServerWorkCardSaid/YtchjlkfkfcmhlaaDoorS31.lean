/- A server: a tick passes. -/
import Derived.Test.YtchjlkfkfcmhlaaDoorS30
namespace Go.Proofs.YtchjlkfkfcmhlaaDoor
open Go.RowKit
attribute [local go_sem ↓] Go.wp_at_zero Go.wp_at_succ

theorem SD.Ok.ended' {D : SD} {now hz sick : Int} {k : Nat} (h : D.Ok now k) {on : List Wk} {outs : List Ou} {n : Int} {E : List (ByteArray × Int)} (he : EndR hz now sick D.ended D.eff D.works on outs n E) {kt : Nat} (hk : kt + on.length ≤ D.kt + D.works.length) (who : Nat → Nat) (wv : Value) (wb : Option Nat) :
    ({ D with works := on, ended := n, eff := E, kt := kt, who := who, wv := wv, wb := wb } : SD).Ok now k := by
  obtain ⟨h1, h2⟩ := he.count
  have h3 := h.ended
  refine ⟨h.ids, h.le, h.last, by show 0 ≤ n; omega, ?_, ?_, fun x hx => ?_, h.up, fun x hx => ?_, h.mc⟩
  · have := h.sum; show (kt : Int) + (on.length : Nat) + (D.mm.length : Nat) ≤ k; omega
  · have := h.sum2; show n + (on.length : Nat) + (D.mm.length : Nat) ≤ k; omega
  · obtain ⟨g1, y, g2, g3, g4⟩ := he.left x hx
    have := h.left y g2
    omega
  · obtain ⟨g1, y, g2, g3, g4⟩ := he.left x hx
    rw [← g3]; exact h.wc y g2

/-- Two rows of what became, one behind the other. -/
theorem outs_join {w wr : World} {sb : Nat} {hz now : Int} {s : Sv} {D D' : SD} (h : SR wr sb hz s now D') (m : Mv w D wr D') {v1 v2 : Value} {o1 o2 : List Ou} (h1 : OutAt w wr D' v1 o1) (h2 : OutAt w wr D' v2 o2) (hb : o1.length ≤ 100000 ∧ o2.length ≤ 100000) :
    ∃ v w', (Builtin.append_ #[33, 33] 33 #[v1, v2]).run Tryd.prog wr = .ok v w' ∧ SR w' sb hz s now D' ∧ Mv w D w' D' ∧ OutAt w w' D' v (o1 ++ o2) := by
  obtain ⟨b1, r1, q1⟩ := h1
  obtain ⟨b2, r2, q2⟩ := h2
  obtain ⟨la, lc, sb', w', e1, e2, e3, e4⟩ := row_append_row (P := Tryd.prog) wr 33 33 40 _ 12 96 ouK.under ouK.info ouK.zs r1 r2 (flat_one _ ouK.one _) (by omega) (by omega)
  obtain ⟨g1, g2⟩ := h.other m (fun b e => ⟨(q1 b e).2, (q1 b e).1⟩) (Fr.ofGrown (F := fun b => b1 = some b) e3 (fun k e => e))
  refine ⟨_, w', e1, g1, g2, sb', ?_, fun g e => ?_⟩
  · unfold Kd.At
    rw [List.length_append, List.flatMap_append]
    exact e2
  · rcases e4 with e4 | e4
    · exact q1 g (e4.symm.trans e)
    · rw [e] at e4; cases e4
      exact ⟨m.1.size, Classical.byContradiction fun hne => by have := h.lt _ hne; omega⟩

def StepPost (w : World) (sb : Nat) (hz now : Int) (s : Sv) (paused : Bool) (sick lazy : Int) (k : Nat) (D : SD) (e : Ending) (w' : World) : Prop :=
  ∃ D' outs v, e = .returned v ∧ SR w' sb hz s now D' ∧ Mv w D w' D' ∧ OutAt w w' D' v outs ∧ D'.Ok now k ∧ StepR hz s now paused sick lazy D.t D'.t outs ∧ outs.length ≤ 200

set_option maxRecDepth 8000 in
set_option maxHeartbeats 4000000 in
theorem step_any {w : World} {sb : Nat} {hz now : Int} {s : Sv} {D : SD} {k : Nat} (h : SR w sb hz s now D) (hG : Glob w D) (hok : D.Ok now k) (hk : k ≤ 100) (hs : s.Ok) (hn : 0 ≤ now ∧ now ≤ 1000000) (hz1 : 1 ≤ hz) (paused : Bool) (sick lazy : Int) (hlz : 1 ≤ lazy ∧ lazy ≤ 4) :
    Calls Tryd.prog 14 #[.pointer (some ⟨sb, 0, none⟩), .int .i64 now, .bool paused, .int .i64 sick, .int .i64 lazy] w (StepPost w sb hz now s paused sick lazy k D) := by
  have c14 : w.cell? ⟨sb, 14, none⟩ = some (.bool D.down) := h.cell rfl
  have HF : Hid (D.down = true ∨ paused = true → StepPost w sb hz now s paused sick lazy k D (.returned (.slice none 0 0)) w) := fun e => ⟨D, [], _, rfl, h, Mv.refl _ _, OutAt.nil _ _ _, hok, .inl ⟨e, rfl, rfl⟩, by simp⟩
  cases hd : D.down with
  | true =>
    have HF1 := Lib.hid (HF.out (.inl hd))
    rw [hd] at c14
    clear h hok hd hn hlz hs HF
    go_enter Tryd.func14, Tryd.ntmps14
    go_wp2
    go_ret
    exact HF1.out
  | false =>
    cases paused with
    | true =>
      have HF1 := Lib.hid (HF.out (.inr rfl))
      rw [hd] at c14
      clear h hok hd hn hlz hs HF
      go_enter Tryd.func14, Tryd.ntmps14
      go_wp2
      go_ret
      exact HF1.out
    | false =>
      rw [hd] at c14
      have HD := Lib.hid hd
      have HOK := Lib.hid hok
      have HE := Lib.hid (end_any h hG hok hk hn hz1 sick)
      have HB : Hid (∀ W D2, SR W sb hz s now D2 → D2.Ok now k → Calls Tryd.prog 31 #[.pointer (some ⟨sb, 0, none⟩), .int .i64 now, .int .i64 lazy] W (BegPost W sb hz now (s.work * lazy) s k D2)) := fun W D2 h2 hok2 => begin_any h2 hok2 hk hs hn lazy hlz
      have HK := Lib.hid hk
      clear h hok hd hn hlz hs HF hG
      go_enter Tryd.func14, Tryd.ntmps14
      go_wp2_with fail
      refine HE.out.mono ?_
      rintro e W2 ⟨on, o1, n, E, kt, who, wv, wb, v, rfl, sr2, mv2, ho2, hER, hkt⟩
      obtain ⟨ob2, hr2, hq2⟩ := ho2
      obtain ⟨la, lc, rfl⟩ := hr2.form
      have HO2 : Hid (OutAt w W2 { D with works := on, ended := n, eff := E, kt := kt, who := who, wv := wv, wb := wb } (.slice la o1.length lc) o1) := ⟨ob2, hr2, hq2⟩
      have HOK2 := Lib.hid (HOK.out.ended' hER hkt who wv wb)
      have HER := Lib.hid hER
      have HM2 := Lib.hid mv2
      have HBG := Lib.hid (HB.out W2 _ sr2 HOK2.out)
      clear hr2 hq2 sr2 mv2 hER hkt c14
      go_wp2_with fail
      refine HBG.out.mono ?_
      rintro e W3 ⟨D3, o2, v3, rfl, sr3, mv3, ho3, hok3, ⟨l0, mm0, works0, wv0, wb0, who0, hD3⟩, hBR, hfull⟩
      have hl1 := HER.out.outs
      have hl2 := hBR.count
      have hm3 := HM2.out.trans mv3
      have ho3' : OutAt w W3 D3 v3 o2 := by
        obtain ⟨ob3, g1, g2⟩ := ho3
        exact ⟨ob3, g1, fun g e => ⟨Nat.le_trans HM2.out.1.size (g2 g e).1, (g2 g e).2⟩⟩
      have hw1 := HOK.out.sum
      have hw2 : D.mm.length ≤ 100 := by have := HK.out; omega
      have hq2 : o2.length ≤ 100 := by
        have h1 : (D.mm.map (·.2)).length = D.mm.length := List.length_map _
        have h2 : o2.length + D3.t.waits.length = (D.mm.map (·.2)).length := hl2.2
        omega
      obtain ⟨v, W4, happ, sr4, mv4, ho4⟩ := outs_join sr3 hm3 (HO2.out.mv mv3) ho3' ⟨by have := HK.out; omega, by omega⟩
      have HF : Hid (StepPost w sb hz now s false sick lazy k D (.returned v) W4) := by
        refine ⟨D3, o1 ++ o2, v, rfl, sr4, mv4, ho4, hok3, .inr ⟨HD.out, rfl, on, o1, n, E, D3.t.waits, D3.works, o2, HER.out, hBR, hfull, ?_, rfl⟩, by rw [List.length_append]; have := HK.out; omega⟩
        rw [hD3]; rfl
      clear sr3 mv3 ho3 hok3 hD3 hBR hfull hl1 hl2 hm3 ho3' hw1 hw2 hq2 sr4 mv4 ho4
      go_wp2_with (at_builtin; refine wpList_run (by rfl) (exec_append _ _ _ _ (by rfl) _ _ (by rfl) (by rfl) happ) ?_)
      go_ret
      exact HF.out

end Go.Proofs.YtchjlkfkfcmhlaaDoor
