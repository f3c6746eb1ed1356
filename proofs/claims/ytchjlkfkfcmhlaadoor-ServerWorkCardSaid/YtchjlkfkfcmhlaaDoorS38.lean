/- ServerOnce: no effect twice (plain). -/
import Derived.Test.YtchjlkfkfcmhlaaDoorS36
namespace Go.Proofs.YtchjlkfkfcmhlaaDoor
open Go.RowKit

/-- What is had of every attempt that a server holds. -/
def SS.All (t : SS) (P : Cx → Prop) : Prop := (∀ c ∈ t.waits, P c) ∧ ∀ x ∈ t.works, P x.1
theorem EndR.all {hz now sick n0 : Int} {E0 E : List (ByteArray × Int)} {ws on : List Wk} {outs : List Ou} {n : Int} {P : Cx → Prop} (h : EndR hz now sick n0 E0 ws on outs n E) (hp : ∀ x ∈ ws, P x.1) : (∀ x ∈ on, P x.1) ∧ ∀ o ∈ outs, P o.c := by
  induction h with
  | start => exact ⟨fun x hx => by (cases hx), fun x hx => by (cases hx)⟩
  | on _ _ ih =>
    obtain ⟨h1, h2⟩ := ih fun x hx => hp x (List.mem_append_left _ hx)
    refine ⟨fun x hx => ?_, h2⟩
    rcases List.mem_append.1 hx with e | e
    · exact h1 x e
    · have h3 := hp _ (List.mem_append_right _ (List.mem_singleton.2 rfl)); rw [List.mem_singleton.1 e]; exact h3
  | sick _ _ _ ih | none _ _ _ _ ih | idem _ _ _ _ _ ih | eff _ _ _ _ _ _ ih =>
    obtain ⟨h1, h2⟩ := ih fun x hx => hp x (List.mem_append_left _ hx)
    refine ⟨h1, fun x hx => ?_⟩
    rcases List.mem_append.1 hx with e | e
    · exact h2 x e
    · rw [List.mem_singleton.1 e]; exact hp _ (List.mem_append_right _ List.mem_cons_self)
theorem BegR.all {slots work now : Int} {q0 q : List Cx} {w0 w : List Wk} {o : List Ou} {P : Cx → Prop} (h : BegR slots work now q0 w0 q w o) (hq : ∀ c ∈ q0, P c) (hw : ∀ x ∈ w0, P x.1) : (∀ c ∈ q, P c) ∧ (∀ x ∈ w, P x.1) ∧ ∀ x ∈ o, P x.c := by
  induction h with
  | start => exact ⟨hq, hw, fun x hx => by cases hx⟩
  | late _ _ hp _ ih =>
    obtain ⟨h1, h2, h3⟩ := ih
    refine ⟨fun c hc => h1 c (hp.mem_iff.1 (List.mem_cons_of_mem _ hc)), h2, fun x hx => ?_⟩
    rcases List.mem_append.1 hx with e | e
    · exact h3 x e
    · rw [List.mem_singleton.1 e]; exact h1 _ (hp.mem_iff.1 List.mem_cons_self)
  | take _ _ hp _ ih =>
    obtain ⟨h1, h2, h3⟩ := ih
    refine ⟨fun c hc => h1 c (hp.mem_iff.1 (List.mem_cons_of_mem _ hc)), fun x hx => ?_, fun x hx => ?_⟩
    · rcases List.mem_append.1 hx with e | e
      · exact h2 x e
      · rw [List.mem_singleton.1 e]; exact h1 _ (hp.mem_iff.1 List.mem_cons_self)
    · rcases List.mem_append.1 hx with e | e
      · exact h3 x e
      · rw [List.mem_singleton.1 e]; exact h1 _ (hp.mem_iff.1 List.mem_cons_self)
theorem ComeR.all {s : Sv} {c : Cx} {t t' : SS} {outs : List Ou} {fresh : Bool} {P : Cx → Prop} (h : ComeR s c t t' outs fresh) (hc : P c) (ht : t.All P) : t'.All P ∧ ∀ o ∈ outs, P o.c := by
  rcases h with ⟨_, rfl, rfl, _⟩ | ⟨_, _, _, q, rfl, ⟨_, h2, rfl⟩ | ⟨_, y, h2, rfl⟩⟩
  · exact ⟨ht, fun o ho => by cases ho⟩
  · refine ⟨⟨fun x hx => ?_, ht.2⟩, fun o ho => by cases ho⟩
    rcases List.mem_cons.1 (h2.mem_iff.1 hx) with e | e
    · rw [e]; exact hc
    · exact ht.1 x e
  · have hq : ∀ x ∈ y :: q, P x := fun x hx => by
      rcases List.mem_cons.1 (h2.mem_iff.1 hx) with e | e
      · rw [e]; exact hc
      · exact ht.1 x e
    exact ⟨⟨fun x hx => hq x (List.mem_cons_of_mem _ hx), ht.2⟩, fun o ho => by rw [List.mem_singleton.1 ho]; exact hq y List.mem_cons_self⟩
theorem StepR.all {hz now sick lazy : Int} {s : Sv} {p : Bool} {t t' : SS} {outs : List Ou} {P : Cx → Prop} (h : StepR hz s now p sick lazy t t' outs) (ht : t.All P) : t'.All P ∧ ∀ o ∈ outs, P o.c := by
  rcases h with ⟨_, rfl, rfl⟩ | ⟨_, _, on, o1, n, E, q, w, o2, h1, h2, _, rfl, rfl⟩
  · exact ⟨ht, fun o ho => by cases ho⟩
  · obtain ⟨g1, g2⟩ := h1.all ht.2
    obtain ⟨g3, g4, g5⟩ := h2.all ht.1 g1
    exact ⟨⟨g3, g4⟩, fun o ho => (List.mem_append.1 ho).elim (g2 o) (g5 o)⟩
theorem SS.All.up {t : SS} {P : Cx → Prop} (h : t.All P) (now : Int) : (t.upAt now).All P := by unfold SS.upAt; split <;> exact h
theorem SS.All.crash {t : SS} {P : Cx → Prop} : t.crash.All P := ⟨fun c hc => by (cases hc), fun c hc => by (cases hc)⟩
theorem ActR.all {hz : Int} {s : Sv} {faults : Bool} {now : Int} {t t' : SS} {outs : List Ou} {P : Cx → Prop} (h : ActR hz s faults now t t' outs) (hp : ∀ n now, P (atOf n now)) (ht : t.All P) : t'.All P ∧ ∀ o ∈ outs, P o.c := by
  cases h with
  | come hc => exact hc.all (hp _ _) ht
  | crash _ => exact ⟨SS.All.crash, fun o ho => by cases ho⟩
  | idle _ => exact ⟨ht, fun o ho => by cases ho⟩
  | up => exact ⟨ht.up _, fun o ho => by cases ho⟩
  | step _ _ hs => exact hs.all ht
theorem RunR.all {hz : Int} {s : Sv} {faults : Bool} {t0 t : SS} {now : Int} {all : List (Ou × Int)} {P : Cx → Prop} (h : RunR hz s faults t0 t now all) (hp : ∀ n now, P (atOf n now)) (ht : t0.All P) : t.All P ∧ ∀ x ∈ all, P x.1.c := by
  induction h with
  | start => exact ⟨ht, fun x hx => by cases hx⟩
  | act _ _ ha ih =>
    obtain ⟨g1, g2⟩ := ha.all hp ih.1
    refine ⟨g1, fun x hx => ?_⟩
    rcases List.mem_append.1 hx with e | e
    · exact ih.2 x e
    · obtain ⟨o, ho, rfl⟩ := List.mem_map.1 e
      exact g2 o ho
theorem SS.new_all (P : Cx → Prop) : SS.new.All P := ⟨fun c hc => by (cases hc), fun c hc => by (cases hc)⟩

/-- An effect that counts. -/
def Eff (x : Ou × Int) : Prop := x.1.eff = true ∧ x.1.c.idem = false
structure OI (hz : Int) (E : List (ByteArray × Int)) (all : List (Ou × Int)) : Prop where
  good : ∀ x ∈ all, x.1.eff = true → x.1.what = 2 ∧ x.1.c.shadow = false
  rem : ∀ x ∈ all, Eff x → (keyOf x.1.c.call, x.2) ∈ E
  once : ∀ (i k : Nat) x y, all[i]? = some x → all[k]? = some y → k < i → Eff x → Eff y → keyOf x.1.c.call = keyOf y.1.c.call → hz ≤ x.2 - y.2
theorem OI.snoc {hz : Int} {E E' : List (ByteArray × Int)} {all : List (Ou × Int)} (h : OI hz E all) (x : Ou × Int) (hE : ∀ p ∈ E, p ∈ E') (hg : x.1.eff = true → x.1.what = 2 ∧ x.1.c.shadow = false) (hr : Eff x → (keyOf x.1.c.call, x.2) ∈ E') (ho : Eff x → ∀ y ∈ all, Eff y → keyOf x.1.c.call = keyOf y.1.c.call → hz ≤ x.2 - y.2) :
    OI hz E' (all ++ [x]) := by
  refine ⟨fun z hz => ?_, fun z hz hf => ?_, fun i k z y hi hk hlt hf hf2 he => ?_⟩
  · rcases List.mem_append.1 hz with e | e
    · exact h.good z e
    · rw [List.mem_singleton.1 e]; exact hg
  · rcases List.mem_append.1 hz with e | e
    · exact hE _ (h.rem z e hf)
    · rw [List.mem_singleton.1 e] at hf ⊢; exact hr hf
  · have hi2 := (List.getElem?_eq_some_iff.1 hi).1
    rw [List.length_append, List.length_singleton] at hi2
    have hk2 : all[k]? = some y := by rw [List.getElem?_append_left (by omega)] at hk; exact hk
    by_cases hil : i < all.length
    · rw [List.getElem?_append_left hil] at hi
      exact h.once i k z y hi hk2 hlt hf hf2 he
    · rw [List.getElem?_append_right (by omega), show i - all.length = 0 by omega] at hi
      simp only [List.getElem?_cons_zero, Option.some.injEq] at hi
      subst hi
      exact ho hf y (List.mem_of_getElem? hk2) hf2 he
theorem OI.plain {hz : Int} {E : List (ByteArray × Int)} {all : List (Ou × Int)} (h : OI hz E all) {o : Ou} (ho : o.eff = false) (at_ : Int) : OI hz E (all ++ [(o, at_)]) :=
  h.snoc (o, at_) (fun _ h => h) (fun e => by rw [ho] at e; cases e) (fun e => by have := e.1; rw [show (o, at_).1.eff = o.eff from rfl, ho] at this; cases this) (fun e => by have := e.1; rw [show (o, at_).1.eff = o.eff from rfl, ho] at this; cases this)
theorem OI.plains {hz : Int} {E : List (ByteArray × Int)} : ∀ {outs : List Ou} {all : List (Ou × Int)}, OI hz E all → (∀ o ∈ outs, o.eff = false) → ∀ at_, OI hz E (all ++ atNow outs at_)
  | [], all, h, _, _ => by show OI hz E (all ++ []); rw [List.append_nil]; exact h
  | o :: outs, all, h, ho, at_ => by
    have h1 := h.plain (ho o List.mem_cons_self) at_
    have h2 := OI.plains h1 (fun x hx => ho x (List.mem_cons_of_mem _ hx)) at_
    rw [List.append_assoc] at h2
    exact h2
theorem atNow_snoc (outs : List Ou) (o : Ou) (now : Int) (all : List (Ou × Int)) : all ++ atNow (outs ++ [o]) now = (all ++ atNow outs now) ++ [(o, now)] := by
  show all ++ (outs ++ [o]).map (fun o => (o, now)) = _
  rw [List.map_append, ← List.append_assoc]; rfl
theorem EndR.oi {hz now sick n0 : Int} {E0 E : List (ByteArray × Int)} {ws on : List Wk} {outs : List Ou} {n : Int} (h : EndR hz now sick n0 E0 ws on outs n E) {all : List (Ou × Int)} (ha : OI hz E0 all) : OI hz E (all ++ atNow outs now) := by
  induction h with
  | start => show OI hz E0 (all ++ []); rw [List.append_nil]; exact ha
  | on _ _ ih => exact ih
  | sick _ _ _ ih => rw [atNow_snoc]; exact ih.plain rfl now
  | none _ _ _ _ ih => rw [atNow_snoc]; exact ih.plain rfl now
  | idem _ _ _ h1 h2 ih => rw [atNow_snoc]; exact ih.snoc _ (fun _ h => h) (fun _ => ⟨rfl, h1⟩) (fun e => by have := e.2; dsimp only at this; rw [h2] at this; cases this) (fun e => by have := e.2; dsimp only at this; rw [h2] at this; cases this)
  | eff _ _ _ h1 h2 h3 ih =>
    rw [atNow_snoc]
    exact ih.snoc _ (fun p hp => List.mem_cons_of_mem _ hp) (fun _ => ⟨rfl, h1⟩) (fun _ => List.mem_cons_self) (fun _ y hy hf he => h3 _ (ih.rem y hy hf) he.symm)
theorem BegR.plain {slots work now : Int} {q0 q : List Cx} {w0 w : List Wk} {o : List Ou} (h : BegR slots work now q0 w0 q w o) : ∀ x ∈ o, x.eff = false := by
  induction h with
  | start => intro x hx; cases hx
  | late _ _ _ _ ih => intro x hx; rcases List.mem_append.1 hx with e | e; exact ih x e; rw [List.mem_singleton.1 e]
  | take _ _ _ _ ih => intro x hx; rcases List.mem_append.1 hx with e | e; exact ih x e; rw [List.mem_singleton.1 e]
theorem ActR.oi {hz : Int} {s : Sv} {faults : Bool} {now : Int} {t t' : SS} {outs : List Ou} (h : ActR hz s faults now t t' outs) {all : List (Ou × Int)} (ha : OI hz t.eff all) : OI hz t'.eff (all ++ atNow outs now) := by
  have h0 : OI hz t.eff (all ++ atNow [] now) := ha.plains (fun o ho => by cases ho) now
  cases h with
  | come hc =>
    rcases hc with ⟨_, rfl, rfl, _⟩ | ⟨_, _, _, q, rfl, ⟨_, h2, rfl⟩ | ⟨_, y, h2, rfl⟩⟩
    · exact h0
    · exact h0
    · exact ha.plains (fun o ho => by rw [List.mem_singleton.1 ho]) now
  | crash _ => exact h0
  | idle _ => exact h0
  | up => rw [show (t.upAt now).eff = t.eff by unfold SS.upAt; split <;> rfl]; exact h0
  | step _ _ hs =>
    rcases hs with ⟨_, rfl, rfl⟩ | ⟨_, _, on, o1, n, E, q, w, o2, h1, h2, _, rfl, rfl⟩
    · exact h0
    · have h3 := (h1.oi ha).plains h2.plain now
      rw [List.append_assoc] at h3
      show OI hz E (all ++ (o1 ++ o2).map _)
      rw [List.map_append]
      exact h3
theorem RunR.oi {hz : Int} {s : Sv} {faults : Bool} {t : SS} {now : Int} {all : List (Ou × Int)} (h : RunR hz s faults SS.new t now all) : OI hz t.eff all := by
  induction h with
  | start => exact ⟨fun x hx => by (cases hx), fun x hx => by (cases hx), fun i k x y hx => by simp at hx⟩
  | act _ _ ha ih => exact ha.oi ih

theorem RunR.times {hz : Int} {s : Sv} {faults : Bool} {t0 t : SS} {now : Int} {all : List (Ou × Int)} (h : RunR hz s faults t0 t now all) : 0 ≤ now ∧ ∀ x ∈ all, 0 ≤ x.2 ∧ x.2 ≤ now := by
  induction h with
  | start => exact ⟨Int.le_refl _, fun x hx => by cases hx⟩
  | act _ hn _ ih =>
    refine ⟨by omega, fun x hx => ?_⟩
    rcases List.mem_append.1 hx with e | e
    · have := ih.2 x e; omega
    · obtain ⟨o, ho, rfl⟩ := List.mem_map.1 e
      exact ⟨by dsimp only; omega, Int.le_refl _⟩

end Go.Proofs.YtchjlkfkfcmhlaaDoor
