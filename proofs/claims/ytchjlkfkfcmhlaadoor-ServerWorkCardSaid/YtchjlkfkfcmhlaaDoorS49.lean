/- ServerWork: the walk (printed by wip/tools/gen49s.py). -/
import Derived.Test.YtchjlkfkfcmhlaaDoorS48
import Derived.Test.YtchjlkfkfcmhlaaDoorS37
namespace Go.Proofs.YtchjlkfkfcmhlaaDoor
open Go.RowKit
attribute [local go_sem ↓] Go.wp_at_zero Go.wp_at_succ

/-- What has come. -/
def WkA (W2 : World) (sb : Nat) (s : Sv) (D : SD) (i : Nat) (wr : World) : Prop :=
  ∃ D', SR wr sb 10 s 0 D' ∧ Mv W2 D wr D' ∧ D'.Ok 0 i ∧ D'.t.down = false ∧ D'.t.again = false ∧ D'.t.works = [] ∧ (∀ c ∈ D'.t.waits, 1000 ≤ c.dl) ∧ EvI D'.t.waits D'.t.works D'.t.came [] ∧ (D'.t.waits.length : Int) ≤ s.queue
theorem come_more {s : Sv} {c : Cx} {t t' : SS} {outs : List Ou} {fresh : Bool} (h : ComeR s c t t' outs fresh) (hq : (t.waits.length : Int) ≤ s.queue) (hd : ∀ c ∈ t.waits, 1000 ≤ c.dl) (hc : 1000 ≤ c.dl) :
    t'.down = t.down ∧ t'.again = t.again ∧ t'.works = t.works ∧ (∀ c ∈ t'.waits, 1000 ≤ c.dl) ∧ (t'.waits.length : Int) ≤ s.queue := by
  rcases h with ⟨_, rfl, _, _⟩ | ⟨_, _, _, q, rfl, ⟨h1, h2, _⟩ | ⟨h1, y, h2, _⟩⟩
  · exact ⟨rfl, rfl, rfl, hd, hq⟩
  · refine ⟨rfl, rfl, rfl, fun x hx => ?_, ?_⟩
    · rcases List.mem_cons.1 (h2.mem_iff.1 hx) with e | e
      · rw [e]; exact hc
      · exact hd x e
    · have := h2.length_eq; rw [List.length_cons] at this
      show (q.length : Int) ≤ s.queue
      omega
  · refine ⟨rfl, rfl, rfl, fun x hx => ?_, ?_⟩
    · rcases List.mem_cons.1 (h2.mem_iff.1 (List.mem_cons_of_mem _ hx)) with e | e
      · rw [e]; exact hc
      · exact hd x e
    · have := h2.length_eq; simp only [List.length_cons] at this
      show (q.length : Int) ≤ s.queue
      omega
theorem WkI.start {s : Sv} {K : Int} {t : SS} (h1 : t.down = false) (h2 : t.again = false) (h3 : t.works = []) (h4 : ∀ c ∈ t.waits, 1000 ≤ c.dl) (h5 : EvI t.waits t.works t.came []) (h6 : (t.waits.length : Int) ≤ s.queue) (hK : 0 ≤ K) (hs : s.Ok) : WkI s K (K * 4) 0 t [] := by
  refine ⟨⟨h1, h2⟩, (fun x hx => by rw [h3] at hx; cases hx), (fun h => absurd h (by decide)), ?_, (fun h => absurd h (by decide)), h4, h5, ⟨fun x hx => by (rw [h3] at hx; cases hx), fun z hz => by cases hz⟩, ⟨0, by rw [h3]; rfl⟩⟩
  unfold SS.potK
  rw [h3]
  have hq := hs.queue
  have : K * (t.waits.length : Int) ≤ K * 4 := Int.mul_le_mul_of_nonneg_left (by omega) hK
  show 0 + K * (t.waits.length : Int) ≤ K * 4
  omega

end Go.Proofs.YtchjlkfkfcmhlaaDoor
