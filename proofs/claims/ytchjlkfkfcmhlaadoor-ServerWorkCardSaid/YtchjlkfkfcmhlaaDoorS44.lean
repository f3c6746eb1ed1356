/- ServerEach: a run keeps what is had of names (plain). -/
import Derived.Test.YtchjlkfkfcmhlaaDoorS43
namespace Go.Proofs.YtchjlkfkfcmhlaaDoor
open Go.RowKit

theorem EndR.ev {hz now sick n0 : Int} {E0 E : List (ByteArray × Int)} {ws on : List Wk} {outs : List Ou} {n : Int} {q : List Cx} {came : List ByteArray} {all : List (Ou × Int)} (h : EndR hz now sick n0 E0 ws on outs n E) : ∀ rest, EvI q (ws ++ rest) came all → EvI q (on ++ rest) came (all ++ atNow outs now) := by
  induction h with
  | start => intro rest h; show EvI q ([] ++ rest) came (all ++ []); rw [List.append_nil]; exact h
  | @on ws on outs n E c left h1 h2 ih =>
    intro rest h
    have h3 := ih ((c, left) :: rest) (by rw [List.append_assoc] at h; exact h)
    exact h3.goes _
  | @sick ws on outs n E c left h1 h2 h3 ih =>
    intro rest h
    have h4 := ih ((c, left) :: rest) (by rw [List.append_assoc] at h; exact h)
    rw [atNow_snoc]
    exact h4.ends rfl (.inr ⟨rfl, rfl⟩) now
  | @none ws on outs n E c left h1 h2 h3 h5 ih =>
    intro rest h
    have h4 := ih ((c, left) :: rest) (by rw [List.append_assoc] at h; exact h)
    rw [atNow_snoc]
    exact h4.ends rfl (.inl rfl) now
  | @idem ws on outs n E c left h1 h2 h3 h5 h6 ih =>
    intro rest h
    have h4 := ih ((c, left) :: rest) (by rw [List.append_assoc] at h; exact h)
    rw [atNow_snoc]
    exact h4.ends rfl (.inl rfl) now
  | @eff ws on outs n E c left h1 h2 h3 h5 h6 h7 ih =>
    intro rest h
    have h4 := ih ((c, left) :: rest) (by rw [List.append_assoc] at h; exact h)
    rw [atNow_snoc]
    exact h4.ends rfl (.inl rfl) now
theorem BegR.ev {slots work now : Int} {q0 q : List Cx} {w0 w : List Wk} {o : List Ou} {came : List ByteArray} {all : List (Ou × Int)} (h : BegR slots work now q0 w0 q w o) (h0 : EvI q0 w0 came all) : EvI q w came (all ++ atNow o now) := by
  induction h with
  | start => show EvI q0 w0 came (all ++ []); rw [List.append_nil]; exact h0
  | late _ _ hp _ ih => rw [atNow_snoc]; exact ih.fails hp rfl ⟨rfl, by show (32 : Int) ≠ 35; decide⟩ now
  | take _ _ hp _ ih => rw [atNow_snoc]; exact ih.begins hp _ rfl rfl now
theorem StepR.ev {hz now sick lazy : Int} {s : Sv} {p : Bool} {t t' : SS} {outs : List Ou} {all : List (Ou × Int)} (h : StepR hz s now p sick lazy t t' outs) (h0 : EvI t.waits t.works t.came all) : EvI t'.waits t'.works t'.came (all ++ atNow outs now) ∧ t'.down = t.down := by
  rcases h with ⟨_, rfl, rfl⟩ | ⟨_, _, on, o1, n, E, q, w, o2, h1, h2, _, rfl, rfl⟩
  · refine ⟨?_, rfl⟩; show EvI _ _ _ (all ++ []); rw [List.append_nil]; exact h0
  · refine ⟨?_, rfl⟩
    have h3 := h1.ev [] (by rw [List.append_nil]; exact h0)
    rw [List.append_nil] at h3
    have h4 := h2.ev h3
    show EvI q w t.came (all ++ (o1 ++ o2).map _)
    rw [List.map_append, ← List.append_assoc]
    exact h4
theorem ComeR.ev {s : Sv} {c : Cx} {t t' : SS} {outs : List Ou} {fresh : Bool} {all : List (Ou × Int)} {now : Int} (h : ComeR s c t t' outs fresh) (h0 : EvI t.waits t.works t.came all) : EvI t'.waits t'.works t'.came (all ++ atNow outs now) ∧ t'.down = t.down := by
  rcases h with ⟨_, rfl, rfl, _⟩ | ⟨_, hn, _, q, rfl, ⟨_, h2, rfl⟩ | ⟨_, y, h2, rfl⟩⟩
  · refine ⟨?_, rfl⟩; show EvI _ _ _ (all ++ []); rw [List.append_nil]; exact h0
  · refine ⟨?_, rfl⟩; show EvI q _ _ (all ++ []); rw [List.append_nil]; exact (h0.comes hn).perm h2
  · exact ⟨(h0.comes hn).fails h2 rfl ⟨rfl, by show (3 : Int) ≠ 35; decide⟩ now, rfl⟩
theorem ActR.ev {hz : Int} {s : Sv} {now : Int} {t t' : SS} {outs : List Ou} {all : List (Ou × Int)} (h : ActR hz s false now t t' outs) (hd : t.down = false) (h0 : EvI t.waits t.works t.came all) : EvI t'.waits t'.works t'.came (all ++ atNow outs now) ∧ t'.down = false := by
  have hn : EvI t.waits t.works t.came (all ++ atNow [] now) := by show EvI _ _ _ (all ++ []); rw [List.append_nil]; exact h0
  cases h with
  | come hc => obtain ⟨h1, h2⟩ := hc.ev (now := now) h0; exact ⟨h1, h2.trans hd⟩
  | crash h => cases h
  | idle _ => exact ⟨hn, hd⟩
  | up =>
    rw [show t.upAt now = t by unfold SS.upAt; rw [if_neg (by rw [hd]; decide)]]
    exact ⟨hn, hd⟩
  | step _ _ hs => obtain ⟨h1, h2⟩ := hs.ev h0; exact ⟨h1, h2.trans hd⟩
theorem EvI.new : EvI [] [] [] [] := ⟨fun nm => ⟨Nat.zero_le _, fun _ => rfl, rfl⟩, fun i x hx => by simp at hx, fun x hx => by cases hx⟩
theorem RunR.ev {hz : Int} {s : Sv} {t : SS} {now : Int} {all : List (Ou × Int)} (h : RunR hz s false SS.new t now all) : EvI t.waits t.works t.came all ∧ t.down = false := by
  induction h with
  | start => exact ⟨EvI.new, rfl⟩
  | act _ _ ha ih => exact ha.ev ih.2 ih.1

theorem nO_pos {what : Int} {all : List (Ou × Int)} {x : Ou × Int} (hx : x ∈ all) (hw : x.1.what = what) : 1 ≤ nO what x.1.c.span all := by
  unfold nO
  exact List.countP_pos_iff.2 ⟨x, hx, by simp [hw]⟩
theorem n35_pos {all : List (Ou × Int)} {x : Ou × Int} (hx : x ∈ all) (hw : x.1.what = 3) (he : x.1.e = 35) : 1 ≤ n35 x.1.c.span all := by
  unfold n35
  exact List.countP_pos_iff.2 ⟨x, hx, by simp [hw, he]⟩
theorem n35_lt {all : List (Ou × Int)} {x : Ou × Int} (hx : x ∈ all) (hw : x.1.what = 3) (he : x.1.e ≠ 35) : n35 x.1.c.span all + 1 ≤ nO 3 x.1.c.span all := by
  obtain ⟨l1, l2, rfl⟩ := List.append_of_mem hx
  have e : l1 ++ x :: l2 = (l1 ++ [x]) ++ l2 := by simp
  unfold n35 nO
  rw [e, List.countP_append, List.countP_append, List.countP_append, List.countP_append]
  have h1 := n35_le x.1.c.span l1
  have h2 := n35_le x.1.c.span l2
  unfold n35 nO at h1 h2
  rw [List.countP_singleton, List.countP_singleton]
  simp only [hw, he, decide_true, decide_false, Bool.and_false, Bool.and_true, if_true, Bool.false_eq_true, if_false]
  omega
/-- What ServerEach asks. -/
theorem EvI.each {q : List Cx} {w : List Wk} {came : List ByteArray} {all : List (Ou × Int)} (h : EvI q w came all) {x : Ou × Int} (hx : x ∈ all) :
    nO 1 x.1.c.span all ≤ 1 ∧ nO 2 x.1.c.span all + nO 3 x.1.c.span all ≤ 1 ∧ nO 2 x.1.c.span all ≤ nO 1 x.1.c.span all ∧ (x.1.what = 3 → (x.1.e = 35 ↔ nO 1 x.1.c.span all = 1)) := by
  obtain ⟨h1, h2, h3⟩ := h.names x.1.c.span
  have h4 := n35_le x.1.c.span all
  refine ⟨by omega, by omega, by omega, fun hw => ⟨fun he => ?_, fun hb => Classical.byContradiction fun he => ?_⟩⟩
  · have := n35_pos hx hw he; omega
  · have := n35_lt hx hw he; omega

end Go.Proofs.YtchjlkfkfcmhlaaDoor
