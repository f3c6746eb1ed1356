/- A holder's request, at any text (printed by wip/tools/genr2.py). -/
import Derived.Test.YtedoalpijbggiaaDoorR1
import Derived.Test.YtedoalpijbggiaaDoorPowP
import Derived.Lib.AtoiAllCases
namespace Go.Proofs.YtedoalpijbggiaaDoor
open Go.RowKit Go.Lib
attribute [local go_sem ↓] Go.wp_at_zero Go.wp_at_succ

theorem indexAny_ways : ∀ l : List UInt8, (Lib.indexAny l seps.data.toList = -1 ∧ l.takeWhile (fun b => !sepB b) = l) ∨ ∃ i : Nat, Lib.indexAny l seps.data.toList = i ∧ i < l.length ∧ l.takeWhile (fun b => !sepB b) = l.take i := by
  intro l
  induction l with
  | nil => exact .inl ⟨rfl, rfl⟩
  | cons b l ih =>
    have hc : seps.data.toList.contains b = sepB b := by
      show ([58, 47, 126] : List UInt8).contains b = _
      unfold sepB
      rw [List.contains_cons, List.contains_cons, List.contains_cons, List.contains_nil]
      cases h1 : b == 58 <;> cases h2 : b == 47 <;> cases h3 : b == 126 <;> simp_all
    unfold Lib.indexAny
    rw [hc, List.takeWhile_cons]
    cases h : sepB b with
    | true => exact .inr ⟨0, rfl, by simp, rfl⟩
    | false =>
      simp only [Bool.not_false, if_true, Bool.false_eq_true, if_false]
      rcases ih with ⟨i1, i2⟩ | ⟨i, i1, i2, i3⟩
      · left; rw [i1, i2]; exact ⟨rfl, rfl⟩
      · right
        refine ⟨i + 1, ?_, by simpa using i2, by rw [i3]; rfl⟩
        rw [i1, if_neg (by rw [beq_iff_eq]; omega)]
        rfl

/-- The two errors of the library stand where they stood. -/
def ErrAt (w : World) : Prop := (∃ t p, w.var? Tryd.prog "strconv.ErrSyntax" = some #[.iface t p]) ∧ ∃ t p, w.var? Tryd.prog "strconv.ErrRange" = some #[.iface t p]
theorem var_below {w w' : World} {n : String} {cs : Array Value} (h : w.var? Tryd.prog n = some cs) (hb : Below w.heap.size w w') : w'.var? Tryd.prog n = some cs := by
  unfold World.var? at h ⊢
  cases hg : Tryd.prog.globalNamed n with
  | none => simp [hg] at h
  | some g =>
    simp only [hg, Option.bind_some] at h ⊢
    have hlt : g < w.heap.size := by
      rcases Nat.lt_or_ge g w.heap.size with h' | h'
      · exact h'
      · simp [Array.getElem?_eq_none h'] at h
    rw [hb.block g hlt]
    exact h
theorem ErrAt.below {w w' : World} (h : ErrAt w) (hb : Below w.heap.size w w') : ErrAt w' := by
  obtain ⟨⟨t, p, h1⟩, t2, p2, h2⟩ := h
  exact ⟨⟨t, p, var_below h1 hb⟩, t2, p2, var_below h2 hb⟩
/-- What the library's functions ask of the world. -/
structure Env (w : World) : Prop where
  err : ErrAt w
  pow : PowAt w
theorem Env.below {w w' : World} (h : Env w) (hb : Below w.heap.size w w') : Env w' := ⟨h.err.below hb, h.pow.keep hb (Nat.le_refl _)⟩

/-- What Atoi tells of a text. -/
def AtoiAny (w : World) (p : ByteArray) (e : Ending) (w' : World) : Prop :=
  Below w.heap.size w w' ∧ ((∃ v, Lib.atoiAll p.data.toList = .ok v ∧ e = .returned (.tuple #[.int .i64 v, .nilIface])) ∨ ((∀ v, Lib.atoiAll p.data.toList ≠ .ok v) ∧ ∃ n t q, e = .returned (.tuple #[.int .i64 n, .iface t (.pointer (some q))])))
theorem atoi_all (p : ByteArray) (hp : p.size ≤ 2147483647) (w : World) (hE : Env w) : Calls Tryd.prog 45 #[.string p] w (AtoiAny w p) := by
  rcases h : Lib.atoiAll p.data.toList with v | _ | _
  · have k : Calls Tryd.prog 45 #[.string p] w fun e w' => e = .returned (.tuple #[.int .i64 v, .nilIface]) ∧ (w' = w ∨ ∃ t, w' = Lib.bytesWorld w 5 t) := Any.strconv_Atoi_ok Tryd.laysC172 p (by omega) v h w
    refine k.mono ?_
    rintro e w' ⟨rfl, h2⟩
    refine ⟨?_, .inl ⟨v, h, rfl⟩⟩
    rcases h2 with rfl | ⟨t, rfl⟩
    · exact Below.refl _ _
    · exact Lib.bytesWorld_below _ _ _
  · obtain ⟨⟨t, q, h1⟩, _⟩ := hE.err
    have k : Calls Tryd.prog 45 #[.string p] w (fun e w' => ∃ N, e = .returned (.tuple #[.int .i64 0, .iface (Tryd.laysC172_ren.t 168) (.pointer (some ⟨N, 0, none⟩))]) ∧ w.heap.size ≤ N ∧ w'.heap[N]? = some (.cells #[.string ⟨#[65, 116, 111, 105]⟩, .string p, .iface t q] (Tryd.laysC172_ren.t 210) (0, 0)) ∧ Below w.heap.size w w') := Any.strconv_Atoi_syntax_var Tryd.laysC172 p (by omega) h t q w h1
    refine k.mono ?_
    rintro e w' ⟨N, rfl, _, _, h2⟩
    exact ⟨h2, .inr ⟨(fun v e => by rw [e] at h; cases h), _, _, _, rfl⟩⟩
  · obtain ⟨_, t, q, h1⟩ := hE.err
    have k : Calls Tryd.prog 45 #[.string p] w (fun e w' => ∃ N, e = .returned (.tuple #[.int .i64 (Lib.atoiSat p.data.toList), .iface (Tryd.laysC172_ren.t 168) (.pointer (some ⟨N, 0, none⟩))]) ∧ w.heap.size ≤ N ∧ w'.heap[N]? = some (.cells #[.string ⟨#[65, 116, 111, 105]⟩, .string p, .iface t q] (Tryd.laysC172_ren.t 210) (0, 0)) ∧ Below w.heap.size w w') := Any.strconv_Atoi_range_var Tryd.laysC172 p (by omega) h t q w h1
    refine k.mono ?_
    rintro e w' ⟨N, rfl, _, _, h2⟩
    exact ⟨h2, .inr ⟨(fun v e => by rw [e] at h; cases h), _, _, _, rfl⟩⟩

theorem preOf_ways (s : ByteArray) : (Lib.indexAny s.data.toList seps.data.toList = -1 ∧ preOf s = s.data.toList) ∨ ∃ i : Nat, Lib.indexAny s.data.toList seps.data.toList = i ∧ i < s.size ∧ preOf s = (s.extract 0 i).data.toList := by
  rcases indexAny_ways s.data.toList with h | ⟨i, h1, h2, h3⟩
  · exact .inl h
  · refine .inr ⟨i, h1, h2, h3.trans ?_⟩
    rw [Lib.extract_data]
    simp

theorem text_eq (v : Int) (p : ByteArray) : ((numText v).toList == p.toList) = decide (Lib.itoa v = p.data.toList) := by
  rw [ByteArray.toList_eq, ByteArray.toList_eq]
  show (Lib.itoa v == p.data.toList) = _
  cases h : decide (Lib.itoa v = p.data.toList) with
  | true => exact beq_iff_eq.2 (of_decide_eq_true h)
  | false => exact beq_eq_false_iff_ne.2 (of_decide_eq_false h)

theorem atoi_bd {l : List UInt8} {v : Int} (h : Lib.atoiAll l = .ok v) : -9223372036854775808 ≤ v ∧ v ≤ 9223372036854775807 := by
  exact Lib.atoiAll_bounds h

set_option maxRecDepth 8000 in
set_option maxHeartbeats 4000000 in
theorem request_all (s : ByteArray) (hs : s.size ≤ 2147483647) (w : World) (hE : Env w) :
    Calls Tryd.prog 35 #[.string s] w fun e w' => e = .returned (.int .i64 (reqOf s)) ∧ Below w.heap.size w w' := by
  have HI := Lib.hid (fun w => indexAny_all s w hs)
  have HE := Lib.hid hE
  have hR : reqOf s = numOf (preOf s) := rfl
  clear hE
  rcases preOf_ways s with ⟨hx, hp⟩ | ⟨i, hx, hi, hp⟩
  · rw [hp] at hR
    rw [hx] at HI
    have HA := Lib.hid (fun w hE => atoi_all s hs w hE)
    clear hx hp
    have HR := Lib.hid hR
    clear hR
    go_enter Tryd.func35, Tryd.ntmps35
    go_wp2_with fail
    refine (HI.out _).mono ?_
    rintro e w1 ⟨rfl, h1⟩
    have H1 := Lib.hid h1
    clear h1
    go_wp2_with fail
    refine (HA.out _ (HE.out.below H1.out)).mono ?_
    rintro e w2 ⟨h2, ⟨v, ha, rfl⟩ | ⟨ha, n, t, q, rfl⟩⟩
    · have H2 := Lib.hid (btrans H1.out h2)
      have hv := atoi_bd ha
      have HN : Hid (numOf s.data.toList = if 1 ≤ v ∧ v ≤ 2147483647 ∧ Lib.itoa v = s.data.toList then v else 0) := by show numOf _ = _; unfold numOf; rw [ha]
      have HT := Lib.hid (itoa_all v hv w2 (HE.out.below H2.out).pow)
      have HTE := Lib.hid (text_eq v s)
      clear h2 ha
      by_cases c1 : v < 1
      · have HZ : Hid (reqOf s = 0) := HR.out.trans (HN.out.trans (if_neg (fun h => by have := h.1; omega)))
        have t1 : decide (v < 1) = true := decide_eq_true c1
        clear HTE
        go_wp2_with fail
        go_ret
        exact ⟨by rw [HZ.out]; rfl, H2.out⟩
      by_cases c2 : 2147483647 < v
      · have HZ : Hid (reqOf s = 0) := HR.out.trans (HN.out.trans (if_neg (fun h => by have := h.2.1; omega)))
        clear HTE
        go_wp2_with fail
        go_ret
        exact ⟨by rw [HZ.out]; rfl, H2.out⟩
      by_cases c3 : Lib.itoa v = s.data.toList
      · have HZ : Hid (reqOf s = v) := HR.out.trans (HN.out.trans (if_pos ⟨by omega, by omega, c3⟩))
        have t3 : ((numText v).toList == s.toList) = true := HTE.out.trans (decide_eq_true c3)
        clear c3 HTE
        go_wp2_with fail
        refine HT.out.mono ?_
        rintro e w3 ⟨rfl, h3⟩
        have H3 := Lib.hid (btrans H2.out h3)
        clear h3
        go_wp2_with fail
        go_ret
        exact ⟨by rw [HZ.out]; rfl, H3.out⟩
      · have HZ : Hid (reqOf s = 0) := HR.out.trans (HN.out.trans (if_neg (fun h => c3 h.2.2)))
        have t3 : ((numText v).toList == s.toList) = false := HTE.out.trans (decide_eq_false c3)
        clear c3 HTE
        go_wp2_with fail
        refine HT.out.mono ?_
        rintro e w3 ⟨rfl, h3⟩
        have H3 := Lib.hid (btrans H2.out h3)
        clear h3
        go_wp2_with fail
        go_ret
        exact ⟨by rw [HZ.out]; rfl, H3.out⟩
    · have H2 := Lib.hid (btrans H1.out h2)
      have HZ : Hid (reqOf s = 0) := HR.out.trans (by
        unfold numOf
        split
        · exact absurd (by assumption) (ha _)
        · rfl)
      clear h2 ha
      go_wp2_with fail
      go_ret
      exact ⟨by rw [HZ.out]; rfl, H2.out⟩
  · rw [hp] at hR
    rw [hx] at HI
    have hps : (s.extract 0 i).size ≤ 2147483647 := by rw [Lib.size_eq, Lib.extract_data]; have := Lib.size_eq s; simp; omega
    have HA := Lib.hid (fun w hE => atoi_all (s.extract 0 i) hps w hE)
    have hi1 : (i : Int) ≤ (s.size : Int) := by omega
    obtain ⟨p, hpp⟩ : ∃ p, p = s.extract 0 i := ⟨_, rfl⟩
    rw [← hpp] at hR HA
    have HPP := Lib.hid hpp
    clear hx hp hps hpp
    have HR := Lib.hid hR
    clear hR
    go_enter Tryd.func35, Tryd.ntmps35
    go_wp2_with fail
    refine (HI.out _).mono ?_
    rintro e w1 ⟨rfl, h1⟩
    have H1 := Lib.hid h1
    clear h1
    go_wp2_with fail
    rw [← HPP.out]
    refine (HA.out _ (HE.out.below H1.out)).mono ?_
    rintro e w2 ⟨h2, ⟨v, ha, rfl⟩ | ⟨ha, n, t, q, rfl⟩⟩
    · have H2 := Lib.hid (btrans H1.out h2)
      have hv := atoi_bd ha
      have HN : Hid (numOf p.data.toList = if 1 ≤ v ∧ v ≤ 2147483647 ∧ Lib.itoa v = p.data.toList then v else 0) := by show numOf _ = _; unfold numOf; rw [ha]
      have HT := Lib.hid (itoa_all v hv w2 (HE.out.below H2.out).pow)
      have HTE := Lib.hid (text_eq v p)
      clear h2 ha
      by_cases c1 : v < 1
      · have HZ : Hid (reqOf s = 0) := HR.out.trans (HN.out.trans (if_neg (fun h => by have := h.1; omega)))
        have t1 : decide (v < 1) = true := decide_eq_true c1
        clear HTE
        go_wp2_with fail
        go_ret
        exact ⟨by rw [HZ.out]; rfl, H2.out⟩
      by_cases c2 : 2147483647 < v
      · have HZ : Hid (reqOf s = 0) := HR.out.trans (HN.out.trans (if_neg (fun h => by have := h.2.1; omega)))
        clear HTE
        go_wp2_with fail
        go_ret
        exact ⟨by rw [HZ.out]; rfl, H2.out⟩
      by_cases c3 : Lib.itoa v = p.data.toList
      · have HZ : Hid (reqOf s = v) := HR.out.trans (HN.out.trans (if_pos ⟨by omega, by omega, c3⟩))
        have t3 : ((numText v).toList == p.toList) = true := HTE.out.trans (decide_eq_true c3)
        clear c3 HTE
        go_wp2_with fail
        refine HT.out.mono ?_
        rintro e w3 ⟨rfl, h3⟩
        have H3 := Lib.hid (btrans H2.out h3)
        clear h3
        go_wp2_with fail
        go_ret
        exact ⟨by rw [HZ.out]; rfl, H3.out⟩
      · have HZ : Hid (reqOf s = 0) := HR.out.trans (HN.out.trans (if_neg (fun h => c3 h.2.2)))
        have t3 : ((numText v).toList == p.toList) = false := HTE.out.trans (decide_eq_false c3)
        clear c3 HTE
        go_wp2_with fail
        refine HT.out.mono ?_
        rintro e w3 ⟨rfl, h3⟩
        have H3 := Lib.hid (btrans H2.out h3)
        clear h3
        go_wp2_with fail
        go_ret
        exact ⟨by rw [HZ.out]; rfl, H3.out⟩
    · have H2 := Lib.hid (btrans H1.out h2)
      have HZ : Hid (reqOf s = 0) := HR.out.trans (by
        unfold numOf
        split
        · exact absurd (by assumption) (ha _)
        · rfl)
      clear h2 ha
      go_wp2_with fail
      go_ret
      exact ⟨by rw [HZ.out]; rfl, H2.out⟩

end Go.Proofs.YtedoalpijbggiaaDoor
