/- ServerWork: how long work takes (plain). -/
import Derived.Test.YtchjlkfkfcmhlaaDoorS44
import Derived.Test.YtchjlkfkfcmhlaaDoorS41
namespace Go.Proofs.YtchjlkfkfcmhlaaDoor
open Go.RowKit

theorem EvI.drop {q' q : List Cx} {w : List Wk} {came : List ByteArray} {all : List (Ou × Int)} {c : Cx} (h : EvI q w came all) (hp : (c :: q').Perm q) : EvI q' w came all := by
  refine ⟨fun nm => ?_, h.ahead, h.kinds⟩
  obtain ⟨h1, h2, h3⟩ := h.names nm
  have e := nC_perm (nm := nm) hp
  rw [nC_cons] at e
  exact ⟨by omega, fun hn => by have := h2 hn; omega, h3⟩
theorem ComeR.ev0 {s : Sv} {c : Cx} {t t' : SS} {outs : List Ou} {fresh : Bool} {all : List (Ou × Int)} (h : ComeR s c t t' outs fresh) (h0 : EvI t.waits t.works t.came all) : EvI t'.waits t'.works t'.came all := by
  rcases h with ⟨_, rfl, rfl, _⟩ | ⟨_, hn, _, q, rfl, ⟨_, h2, rfl⟩ | ⟨_, y, h2, rfl⟩⟩
  · exact h0
  · exact (h0.comes hn).perm h2
  · exact (h0.comes hn).drop h2
theorem one_of {α : Type} {p : α → Bool} {l : List α} (h : l.countP p ≤ 1) {x y : α} (hx : x ∈ l) (hy : y ∈ l) (px : p x = true) (py : p y = true) : x = y := by
  induction l with
  | nil => cases hx
  | cons a l ih =>
    rw [List.countP_cons] at h
    rcases List.mem_cons.1 hx with e | hx'
    · rcases List.mem_cons.1 hy with e2 | hy'
      · rw [e, e2]
      · have hp := List.countP_pos_iff.2 ⟨y, hy', py⟩
        rw [← e, px, if_pos rfl] at h
        omega
    · rcases List.mem_cons.1 hy with e2 | hy'
      · have hp := List.countP_pos_iff.2 ⟨x, hx', px⟩
        rw [← e2, py, if_pos rfl] at h
        omega
      · exact ih (Nat.le_trans (Nat.le_add_right _ _) h) hx' hy'

/-- Times, behind the step at 'now': K: how long a work takes. -/
structure TmI (K now : Int) (works : List Wk) (all : List (Ou × Int)) : Prop where
  work : ∀ x ∈ works, 1 ≤ x.2 ∧ ∃ y ∈ all, y.1.what = 1 ∧ y.1.c = x.1 ∧ y.2 + K = now + x.2
  done : ∀ z ∈ all, z.1.what = 2 → ∃ y ∈ all, y.1.what = 1 ∧ y.1.c = z.1.c ∧ z.2 = y.2 + K
theorem TmI.told {K now : Int} {works : List Wk} {all : List (Ou × Int)} (h : TmI K now works all) (x : Ou × Int) (hx : x.1.what = 2 → ∃ y ∈ all, y.1.what = 1 ∧ y.1.c = x.1.c ∧ x.2 = y.2 + K) : TmI K now works (all ++ [x]) := by
  refine ⟨fun z hz => ?_, fun z hz hw => ?_⟩
  · obtain ⟨h1, y, h2, h3⟩ := h.work z hz
    exact ⟨h1, y, List.mem_append_left _ h2, h3⟩
  · rcases List.mem_append.1 hz with e | e
    · obtain ⟨y, h2, h3⟩ := h.done z e hw
      exact ⟨y, List.mem_append_left _ h2, h3⟩
    · rw [List.mem_singleton.1 e] at hw ⊢
      obtain ⟨y, h2, h3⟩ := hx hw
      exact ⟨y, List.mem_append_left _ h2, h3⟩
/-- A tick's works go on or end: on: at the new tick; rest: at the old one. -/
theorem EndR.tm {hz now n0 K : Int} {E0 E : List (ByteArray × Int)} {ws on : List Wk} {outs : List Ou} {n : Int} {all : List (Ou × Int)} (h : EndR hz now 0 n0 E0 ws on outs n E)
    (h0 : TmI K (now - 1) ws all) : TmI K now on (all ++ atNow outs now) ∧ (∀ o ∈ outs, o.what = 2) ∧ on.length + outs.length = ws.length := by
  induction h with
  | start => exact ⟨⟨fun x hx => by (cases hx), by have e : all ++ atNow [] now = all := List.append_nil _; rw [e]; exact h0.done⟩, fun o ho => by (cases ho), rfl⟩
  | @on ws on outs n E c left h1 h2 ih =>
    obtain ⟨i1, i2, i3⟩ := ih ⟨fun x hx => h0.work x (List.mem_append_left _ hx), h0.done⟩
    refine ⟨⟨fun x hx => ?_, i1.done⟩, i2, by simp only [List.length_append, List.length_singleton]; omega⟩
    rcases List.mem_append.1 hx with e | e
    · exact i1.work x e
    · rw [List.mem_singleton.1 e]
      obtain ⟨g1, y, g2, g3, g4, g5⟩ := h0.work (c, left) (List.mem_append_right _ List.mem_cons_self)
      exact ⟨by show 1 ≤ left - 1; omega, y, List.mem_append_left _ g2, g3, g4, by show y.2 + K = now + (left - 1); have g6 : y.2 + K = now - 1 + left := g5; omega⟩
  | @sick ws on outs n E c left h1 h2 h3 ih => rw [each_zero] at h3; cases h3
  | @none ws on outs n E c left h1 h2 h3 h5 ih | @idem ws on outs n E c left h1 h2 h3 h5 h6 ih | @eff ws on outs n E c left h1 h2 h3 h5 h6 h7 ih =>
    obtain ⟨i1, i2, i3⟩ := ih ⟨fun x hx => h0.work x (List.mem_append_left _ hx), h0.done⟩
    refine ⟨?_, fun o ho => ?_, by simp only [List.length_append, List.length_singleton]; omega⟩
    · rw [atNow_snoc]
      refine i1.told _ fun _ => ?_
      obtain ⟨g1, y, g2, g3, g4, g5⟩ := h0.work (c, left) (List.mem_append_right _ List.mem_cons_self)
      have g6 : y.2 + K = now - 1 + left := g5
      have g7 : 1 ≤ left := g1
      exact ⟨y, List.mem_append_left _ g2, g3, g4, by show now = y.2 + K; omega⟩
    · rcases List.mem_append.1 ho with e | e
      · exact i2 o e
      · rw [List.mem_singleton.1 e]

theorem BegR.tm {slots K now : Int} {q0 q : List Cx} {w0 w : List Wk} {o : List Ou} {all : List (Ou × Int)} (h : BegR slots K now q0 w0 q w o) (h0 : TmI K now w0 all) (hK : 1 ≤ K) (hd : ∀ c ∈ q0, now < c.dl) : TmI K now w (all ++ atNow o now) ∧ (∀ x ∈ o, x.what = 1) ∧ w.length = w0.length + o.length ∧ ∀ c ∈ q, now < c.dl := by
  induction h with
  | start => exact ⟨by have e : all ++ atNow [] now = all := List.append_nil _; rw [e]; exact h0, fun x hx => by (cases hx), rfl, hd⟩
  | late _ _ hp hl ih =>
    obtain ⟨_, _, _, i4⟩ := ih
    have := i4 _ (hp.mem_iff.1 List.mem_cons_self)
    omega
  | @take q w o c q' h1 h2 hp hl ih =>
    obtain ⟨i1, i2, i3, i4⟩ := ih
    refine ⟨?_, fun x hx => ?_, by simp only [List.length_append, List.length_singleton]; omega, fun x hx => i4 x (hp.mem_iff.1 (List.mem_cons_of_mem _ hx))⟩
    · rw [atNow_snoc]
      have i5 := i1.told (⟨1, c, false, 0⟩, now) (fun hw => absurd hw (by show (1 : Int) ≠ 2; decide))
      refine ⟨fun x hx => ?_, i5.done⟩
      rcases List.mem_append.1 hx with e | e
      · exact i5.work x e
      · rw [List.mem_singleton.1 e]
        exact ⟨hK, (⟨1, c, false, 0⟩, now), List.mem_append_right _ List.mem_cons_self, rfl, rfl, rfl⟩
    · rcases List.mem_append.1 hx with e | e
      · exact i2 x e
      · rw [List.mem_singleton.1 e]

end Go.Proofs.YtchjlkfkfcmhlaaDoor
