/- ServerTime: what is told is told in time (plain). -/
import Derived.Test.YtchjlkfkfcmhlaaDoorS35
namespace Go.Proofs.YtchjlkfkfcmhlaaDoor
open Go.RowKit

def TimeOk (o : Ou) (at_ : Int) : Prop := (o.what = 1 ∧ at_ < o.c.dl ∧ o.e = 0) ∨ (o.what = 2 ∧ o.e = 0) ∨ (o.what = 3 ∧ o.eff = false ∧ (o.e = 3 ∨ o.e = 35 ∨ (o.e = 32 ∧ o.c.dl ≤ at_)))
theorem EndR.time {hz now sick n0 : Int} {E0 E : List (ByteArray × Int)} {ws on : List Wk} {outs : List Ou} {n : Int} (h : EndR hz now sick n0 E0 ws on outs n E) : ∀ o ∈ outs, TimeOk o now := by
  induction h with
  | start => intro o ho; cases ho
  | on _ _ ih => exact ih
  | sick _ _ _ ih => intro o ho; rcases List.mem_append.1 ho with e | e; exact ih o e; rw [List.mem_singleton.1 e]; exact .inr (.inr ⟨rfl, rfl, .inr (.inl rfl)⟩)
  | none _ _ _ _ ih => intro o ho; rcases List.mem_append.1 ho with e | e; exact ih o e; rw [List.mem_singleton.1 e]; exact .inr (.inl ⟨rfl, rfl⟩)
  | idem _ _ _ _ _ ih => intro o ho; rcases List.mem_append.1 ho with e | e; exact ih o e; rw [List.mem_singleton.1 e]; exact .inr (.inl ⟨rfl, rfl⟩)
  | eff _ _ _ _ _ _ ih => intro o ho; rcases List.mem_append.1 ho with e | e; exact ih o e; rw [List.mem_singleton.1 e]; exact .inr (.inl ⟨rfl, rfl⟩)
theorem BegR.time {slots work now : Int} {q0 q : List Cx} {w0 w : List Wk} {o : List Ou} (h : BegR slots work now q0 w0 q w o) : ∀ x ∈ o, TimeOk x now := by
  induction h with
  | start => intro o ho; cases ho
  | late _ _ _ hd ih => intro o ho; rcases List.mem_append.1 ho with e | e; exact ih o e; rw [List.mem_singleton.1 e]; exact .inr (.inr ⟨rfl, rfl, .inr (.inr ⟨rfl, hd⟩)⟩)
  | take _ _ _ hd ih => intro o ho; rcases List.mem_append.1 ho with e | e; exact ih o e; rw [List.mem_singleton.1 e]; exact .inl ⟨rfl, hd, rfl⟩
theorem ActR.time {hz : Int} {s : Sv} {faults : Bool} {now : Int} {t t' : SS} {outs : List Ou} (h : ActR hz s faults now t t' outs) : ∀ o ∈ outs, TimeOk o now := by
  cases h with
  | come hc =>
    rcases hc with ⟨_, _, rfl, _⟩ | ⟨_, _, _, q, _, ⟨_, _, rfl⟩ | ⟨_, y, _, rfl⟩⟩
    · intro o ho; cases ho
    · intro o ho; cases ho
    · intro o ho; rw [List.mem_singleton.1 ho]; exact .inr (.inr ⟨rfl, rfl, .inl rfl⟩)
  | crash _ => intro o ho; cases ho
  | idle _ => intro o ho; cases ho
  | up => intro o ho; cases ho
  | step _ _ hs =>
    rcases hs with ⟨_, _, rfl⟩ | ⟨_, _, on, o1, n, E, q, w, o2, h1, h2, _, _, rfl⟩
    · intro o ho; cases ho
    · intro o ho
      rcases List.mem_append.1 ho with e | e
      · exact h1.time o e
      · exact h2.time o e
theorem RunR.time {hz : Int} {s : Sv} {faults : Bool} {t0 t : SS} {now : Int} {all : List (Ou × Int)} (h : RunR hz s faults t0 t now all) : ∀ x ∈ all, TimeOk x.1 x.2 := by
  induction h with
  | start => intro x hx; cases hx
  | act _ _ ha ih =>
    intro x hx
    rcases List.mem_append.1 hx with e | e
    · exact ih x e
    · obtain ⟨o, ho, rfl⟩ := List.mem_map.1 e
      exact ha.time o ho

end Go.Proofs.YtchjlkfkfcmhlaaDoor
