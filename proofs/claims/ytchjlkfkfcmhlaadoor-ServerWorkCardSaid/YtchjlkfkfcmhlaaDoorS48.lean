/- ServerWork: step by step (plain). -/
import Derived.Test.YtchjlkfkfcmhlaaDoorS47
namespace Go.Proofs.YtchjlkfkfcmhlaaDoor
open Go.RowKit

def SS.potK (t : SS) (K : Int) : Int := SumL t.works + K * t.waits.length
/-- Behind i steps (the next is at tick i). -/
structure WkI (s : Sv) (K P : Int) (i : Nat) (t : SS) (all : List (Ou × Int)) : Prop where
  up : t.down = false ∧ t.again = false
  lb : t.Lb K
  good : 0 < i → t.works ≠ [] ∨ t.waits = []
  pot : t.potK K ≤ P
  less : 0 < i → (t.works = [] ∧ t.waits = []) ∨ t.potK K + i ≤ P + 1
  dl : ∀ c ∈ t.waits, 1000 ≤ c.dl
  ev : EvI t.waits t.works t.came all
  tm : TmI K ((i : Int) - 1) t.works all
  par : ∃ m : Nat, all.length = t.works.length + 2 * m
theorem BegR.sub {slots work now : Int} {q0 q : List Cx} {w0 w : List Wk} {o : List Ou} (h : BegR slots work now q0 w0 q w o) : ∀ c ∈ q, c ∈ q0 := by
  induction h with
  | start => exact fun c hc => hc
  | late _ _ hp _ ih => exact fun c hc => ih c (hp.mem_iff.1 (List.mem_cons_of_mem _ hc))
  | take _ _ hp _ ih => exact fun c hc => ih c (hp.mem_iff.1 (List.mem_cons_of_mem _ hc))
theorem WkI.step {s : Sv} {K P : Int} {i : Nat} {t t' : SS} {all : List (Ou × Int)} {hz k : Int} {outs : List Ou} (hs : s.Ok) (h : WkI s K P i t all) (hK : K = s.work * k) (hK1 : 1 ≤ K) (hi : i < 1000) (hst : StepR hz s i false 0 k t t' outs) : WkI s K P (i + 1) t' (all ++ atNow outs i) := by
  have hlb := hst.lb (B := K) (by rw [← hK]; omega) h.lb
  have hev := (hst.ev h.ev).1
  rcases hst with ⟨h1 | h1, _⟩ | ⟨_, _, on, o1, n, E, q, w, o2, h1, h2, h3, rfl, rfl⟩
  · rw [h.up.1] at h1; cases h1
  · cases h1
  · rw [← hK] at h2
    have hp1 := h1.pot fun x hx => (h.lb x hx).1
    have hp2 := h2.pot (by omega)
    rw [h.up.1, h.up.2] at h3 h2
    have hsl : slotsOf s false false t.up i = s.slots := rfl
    rw [hsl] at h3 h2
    obtain ⟨t1, t2, t3⟩ := h1.tm h.tm
    obtain ⟨t4, t5, t6, t7⟩ := h2.tm t1 hK1 fun c hc => by have := h.dl c hc; omega
    have hgood : w ≠ [] ∨ q = [] := by
      rcases h3 with h3 | h3
      · refine .inl fun e => ?_
        rw [e] at h3
        have := hs.slots
        simp at h3
        omega
      · exact .inr h3
    have hpot : (SumL w + K * q.length) + t.works.length ≤ t.potK K := by unfold SS.potK; omega
    have hnil : t.works = [] → t.waits = [] → w = [] ∧ q = [] := fun e1 e2 => by
      rw [e1] at h1
      rw [e2] at h2
      obtain ⟨e3, -⟩ := h1.nil
      rw [e3] at h2
      obtain ⟨e4, e5, -⟩ := h2.none
      exact ⟨e5, e4⟩
    have hat : all ++ atNow (o1 ++ o2) i = (all ++ atNow o1 i) ++ atNow o2 i := by show all ++ (o1 ++ o2).map _ = _; rw [List.map_append, ← List.append_assoc]
    refine ⟨h.up, hlb, fun _ => hgood, ?_, fun _ => ?_, fun c hc => ?_, hev, ?_, ?_⟩
    · show SumL w + K * q.length ≤ P
      have := h.pot; omega
    · by_cases hi0 : 0 < i
      · rcases h.less hi0 with ⟨e1, e2⟩ | h4
        · exact .inl (hnil e1 e2)
        · by_cases hwk : t.works = []
          · rcases h.good hi0 with e | e
            · exact absurd hwk e
            · exact .inl (hnil hwk e)
          · right
            have : 0 < t.works.length := List.length_pos_iff.2 hwk
            show SumL w + K * q.length + ((i + 1 : Nat) : Int) ≤ P + 1
            omega
      · right
        have := h.pot
        show SumL w + K * q.length + ((i + 1 : Nat) : Int) ≤ P + 1
        omega
    · exact h.dl c (h2.sub c hc)
    · rw [hat]
      show TmI K (((i + 1 : Nat) : Int) - 1) w _
      rw [show ((i + 1 : Nat) : Int) - 1 = (i : Int) by omega]
      exact t4
    · obtain ⟨m, hm⟩ := h.par
      refine ⟨m + o1.length, ?_⟩
      show (all ++ (o1 ++ o2).map _).length = w.length + 2 * (m + o1.length)
      rw [List.length_append, List.length_map, List.length_append]
      omega
theorem WkI.done {s : Sv} {K P : Int} {i : Nat} {t : SS} {all : List (Ou × Int)} (h : WkI s K P i t all) (hK : 1 ≤ K) (hi : P + 2 ≤ i) (hP : 0 ≤ P) : t.works = [] ∧ t.waits = [] := by
  rcases h.less (by omega) with e | e
  · exact e
  · have h1 := SumL_pos (ws := t.works) fun x hx => (h.lb x hx).1
    have h2 : 0 ≤ K * (t.waits.length : Int) := Int.mul_nonneg (by omega) (by omega)
    unfold SS.potK at e
    omega
/-- What ServerWork asks of two that were told. -/
theorem WkI.just {s : Sv} {K P : Int} {i : Nat} {t : SS} {all : List (Ou × Int)} (h : WkI s K P i t all) {x y : Ou × Int} (hx : x ∈ all) (hy : y ∈ all) (wx : x.1.what = 2) (wy : y.1.what = 1) (hc : x.1.c = y.1.c) : x.2 = y.2 + K := by
  obtain ⟨z, hz, wz, cz, e⟩ := h.tm.done x hx wx
  obtain ⟨h1, h2, h3⟩ := h.ev.names y.1.c.span
  have h4 := n35_le y.1.c.span all
  have hb : nO 1 y.1.c.span all ≤ 1 := by omega
  unfold nO at hb
  have e2 := one_of hb hz hy (by simp [wz, cz, hc]) (by simp [wy])
  rw [e, e2]

end Go.Proofs.YtchjlkfkfcmhlaaDoor
