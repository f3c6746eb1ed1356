/- strings.IndexAny of ":/~", at whatever text of at most 2147483647 bytes. -/
import Derived.Test.YtedoalpijbggiaaDoorP9
import Derived.Shelf.Small.Utf8
import Derived.Laws.RangeAny
import Derived.Laws.Runes
import Derived.Lib.OthersKept
import Derived.Deep.LoopGhost
import Derived.Deep.CutBlock
namespace Go.Proofs.YtedoalpijbggiaaDoor
open Go.RowKit Go.Lib
attribute [local go_sem ↓] Go.wp_at_zero Go.wp_at_succ

theorem decode_val (s : ByteArray) (pos : Nat) (h : pos < s.size) (ha : 128 ≤ (s[pos]'h).toNat) :
    Utf8.decode s pos = (65533, 1) ∨ (128 ≤ (Utf8.decode s pos).1 ∧ Utf8.valid ((Utf8.decode s pos).1 : Nat) = true) := by
  have hn : ¬ (s[pos]'h).toNat < 128 := by omega
  have hb : ∀ k, (s.get! (pos + k)).toNat < 256 := fun k => (s.get! (pos + k)).toNat_lt
  have h0 := hb 0; have h1 := hb 1; have h2 := hb 2; have h3 := hb 3
  simp only [Utf8.decode, get_at s pos h, hn, if_false]
  rw [get_at s pos h] at h0
  split
  · split
    · right
      refine ⟨by assumption, ?_⟩
      simp only [Utf8.valid]
      simp
      omega
    · left; rfl
  · split
    · split
      · right
        rename_i hc
        simp only [Bool.and_eq_true, decide_eq_true_eq] at hc
        exact ⟨by omega, hc.2⟩
      · left; rfl
    · split
      · split
        · right
          rename_i hc
          simp only [Bool.and_eq_true, decide_eq_true_eq] at hc
          exact ⟨by omega, hc.2⟩
        · left; rfl
      · left; rfl

/-- The bytes that a rune takes, behind its first one, are no ASCII. -/
theorem decode_high_bytes (s : ByteArray) (pos : Nat) (h : pos < s.size) (ha : 128 ≤ (s[pos]'h).toNat) :
    pos + (Utf8.decode s pos).2 ≤ s.size ∧ ∀ k, k < (Utf8.decode s pos).2 → 128 ≤ (s.get! (pos + k)).toNat := by
  have hn : ¬ (s[pos]'h).toNat < 128 := by omega
  have e0 := get_at s pos h
  have hk0 : ∀ k, k < 1 → 128 ≤ (s.get! (pos + k)).toNat := fun k hk => by
    obtain rfl : k = 0 := by omega
    rw [e0]; exact ha
  simp only [Utf8.decode, e0, hn, if_false]
  split
  · rename_i hc
    simp only [Bool.and_eq_true, decide_eq_true_eq, beq_iff_eq] at hc
    obtain ⟨_, g1, g2⟩ := hc
    split
    · refine ⟨by show pos + 2 ≤ s.size; omega, fun k hk => ?_⟩
      have hk' : k = 0 ∨ k = 1 := by change k < 2 at hk; omega
      rcases hk' with rfl | rfl
      · rw [e0]; exact ha
      · omega
    · exact ⟨h, hk0⟩
  · split
    · rename_i hc
      simp only [Bool.and_eq_true, decide_eq_true_eq, beq_iff_eq] at hc
      obtain ⟨⟨_, g1, g2⟩, g3, g4⟩ := hc
      split
      · refine ⟨by show pos + 3 ≤ s.size; omega, fun k hk => ?_⟩
        have hk' : k = 0 ∨ k = 1 ∨ k = 2 := by change k < 3 at hk; omega
        rcases hk' with rfl | rfl | rfl
        · rw [e0]; exact ha
        · omega
        · omega
      · exact ⟨h, hk0⟩
    · split
      · rename_i hc
        simp only [Bool.and_eq_true, decide_eq_true_eq, beq_iff_eq] at hc
        obtain ⟨⟨⟨_, g1, g2⟩, g3, g4⟩, g5, g6⟩ := hc
        split
        · refine ⟨by show pos + 4 ≤ s.size; omega, fun k hk => ?_⟩
          have hk' : k = 0 ∨ k = 1 ∨ k = 2 ∨ k = 3 := by change k < 4 at hk; omega
          rcases hk' with rfl | rfl | rfl | rfl
          · rw [e0]; exact ha
          · omega
          · omega
          · omega
        · exact ⟨h, hk0⟩
      · exact ⟨h, hk0⟩

theorem seps_contains_high (b : UInt8) (h : 128 ≤ b.toNat) : seps.data.toList.contains b = false := by
  have h1 : b ≠ 58 := fun e => by subst e; exact absurd h (by decide)
  have h2 : b ≠ 47 := fun e => by subst e; exact absurd h (by decide)
  have h3 : b ≠ 126 := fun e => by subst e; exact absurd h (by decide)
  simp [seps, h1, h2, h3]

theorem validRune_any (r : Int) (w : World) :
    Calls Tryd.prog 55 #[.int .i32 r] w fun e w' => e = .returned (.bool (Lib.validRune r)) ∧ w' = w := Any.utf8_ValidRune Tryd.lays119 r w

theorem indexByte_none (s : ByteArray) (c : UInt8) (w : World) (h : ∀ b ∈ s.data.toList, b ≠ c) :
    Calls Tryd.prog 54 #[.string s, .int .u8 c.toNat] w fun e w' => e = .returned (.int .i64 (-1)) ∧ w' = w := by
  have hn : ∀ l : List UInt8, (∀ b ∈ l, b ≠ c) → Lib.indexByte l c = -1 := by
    intro l
    induction l with
    | nil => intro _; rfl
    | cons b l ih =>
      intro h
      rw [Lib.indexByte, ih fun x hx => h x (List.mem_cons_of_mem _ hx)]
      have : (b == c) = false := by simpa using h b List.mem_cons_self
      rw [this]; rfl
  have hr : Calls Tryd.prog 54 #[.string s, .int .u8 c.toNat] w fun e w' => e = .returned (.int .i64 (Lib.indexByte s.data.toList ((c.toNat : Int).toNat.toUInt8))) ∧ w' = w := Any.strings_IndexByte Tryd.lays137 s c.toNat w
  have hb : ((c.toNat : Int)).toNat.toUInt8 = c := by simp
  rw [hb, hn _ h] at hr
  exact hr

set_option maxHeartbeats 2000000 in
set_option maxRecDepth 100000 in
theorem indexRune_high (r : Int) (w : World) (hv : Utf8.valid r = true) (h0 : 128 ≤ r) (h1 : r ≠ 65533) :
    Calls Tryd.prog 47 #[.string seps, .int .i32 r] w fun e w' => e = .returned (.int .i64 (-1)) ∧ Below w.heap.size w w' := by
  have hlt : decide (r < 128) = false := decide_eq_false (by omega)
  have hne : (r == 65533) = false := beq_eq_false_iff_ne.2 h1
  have hE := encode_facts r hv h0
  have hv' : Lib.validRune r = true := by rw [validRune_eq] at hv; exact hv
  obtain ⟨rs, hrs⟩ : ∃ rs, rs = Utf8.encode r := ⟨_, rfl⟩
  rw [← hrs] at hE
  obtain ⟨n, hn⟩ : ∃ n, n = rs.size := ⟨_, rfl⟩
  obtain ⟨e1, e2, e3⟩ := hE
  have hlast := e3 (by omega)
  have HIB := fun (c : UInt8) (hc : 128 ≤ c.toNat) (t : ByteArray) (ht : ∀ x ∈ t.data.toList, x.toNat < 128) w => indexByte_none t c w (fun x hx => by
    intro e
    subst e
    have := ht _ hx
    omega)
  have hcv := fun w => run_convert_int_string (P := Tryd.prog) w 21 9 .i32 r (by rw [Tryd.underlying21]; rfl) Tryd.underlying9
  simp only [← hrs] at hcv
  have hsz : seps.size = 3 := rfl
  have hn2 : rs.size = 2 ∨ rs.size = 3 ∨ rs.size = 4 := by omega
  clear hn e3
  rcases hn2 with hz | hz | hz
  · have gw : IntKind.i64.wrap 2 = 2 := by decide
    have hl : 128 ≤ (rs[1]'(by omega)).toNat := by
      have e : rs[rs.size - 1]'(by omega) = rs[1]'(by omega) := by congr 1; omega
      rw [← e]; exact hlast
    have hne2 : (((seps[1]'(by decide)).toNat : Int) == ((rs[1]'(by omega)).toNat : Int)) = false := by
      rw [beq_eq_false_iff_ne]
      have : (seps[1]'(by decide)).toNat < 128 := by decide
      omega
    have HX := Lib.hid (HIB _ hl (seps.extract 2 3) (by intro x hx; have hx' := mem_extract hx; simp [seps] at hx'; rcases hx' with rfl | rfl | rfl <;> decide))
    clear hl HIB hlast
    go_enter Tryd.func47, Tryd.ntmps47
    go_wp2_with fail
    refine (validRune_any _ _).mono ?_
    rintro e w' ⟨rfl, rfl⟩
    rw [hv']
    go_wp2_with fail
    refine wp_scope_straight ?_
    go_upto_region 2 with fail
    rw [← hrs]
    clear hcv hrs hv hlt hne hv'
    go_wp2_with fail
    go_loopg [9, 10, 11, 12] 0 (fun _ i _ _ _ wx => i = .int .i64 1 ∧ wx = w')
    case atStart => exact ⟨rfl, rfl⟩
    case round =>
      obtain ⟨rfl, rfl⟩ := hrel
      go_wp2_with fail
      refine wp_scope_straight ?_
      go_wp2_with fail
      go_quiet (fail)
      go_wp2_with fail
      obtain ⟨wd, hwd⟩ : ∃ wd, wd = wr.drewN nq := ⟨_, rfl⟩
      rw [← hwd]
      have HBD : Hid (Below wr.heap.size wr wd) := by show Below wr.heap.size wr wd; rw [hwd]; exact below_drewN (Below.refl _ _)
      clear hwd
      go_quiet (first | (go_at_call 54; with_reducible exact Calls.quiet_of_same (HX.out _)))
      go_wp2_with fail
      simp only [Exit.noGoto, Exit.inBlock, Exit.then]
      go_ret
      exact ⟨rfl, below_drewN HBD.out⟩
  · have gw : IntKind.i64.wrap 3 = 3 := by decide
    have hl : 128 ≤ (rs[2]'(by omega)).toNat := by
      have e : rs[rs.size - 1]'(by omega) = rs[2]'(by omega) := by congr 1; omega
      rw [← e]; exact hlast
    have hne2 : (((seps[2]'(by decide)).toNat : Int) == ((rs[2]'(by omega)).toNat : Int)) = false := by
      rw [beq_eq_false_iff_ne]
      have : (seps[2]'(by decide)).toNat < 128 := by decide
      omega
    have HX := Lib.hid (HIB _ hl ByteArray.empty (by intro x hx; cases hx))
    clear hl HIB hlast
    go_enter Tryd.func47, Tryd.ntmps47
    go_wp2_with fail
    refine (validRune_any _ _).mono ?_
    rintro e w' ⟨rfl, rfl⟩
    rw [hv']
    go_wp2_with fail
    refine wp_scope_straight ?_
    go_upto_region 2 with fail
    rw [← hrs]
    clear hcv hrs hv hlt hne hv'
    go_wp2_with fail
    go_loopg [9, 10, 11, 12] 0 (fun _ i _ _ _ wx => i = .int .i64 2 ∧ wx = w')
    case atStart => exact ⟨rfl, rfl⟩
    case round =>
      obtain ⟨rfl, rfl⟩ := hrel
      go_wp2_with fail
      refine wp_scope_straight ?_
      go_wp2_with fail
      go_quiet (fail)
      go_wp2_with fail
      obtain ⟨wd, hwd⟩ : ∃ wd, wd = wr.drewN nq := ⟨_, rfl⟩
      rw [← hwd]
      have HBD : Hid (Below wr.heap.size wr wd) := by show Below wr.heap.size wr wd; rw [hwd]; exact below_drewN (Below.refl _ _)
      clear hwd
      go_quiet (first | (go_at_call 54; with_reducible exact Calls.quiet_of_same (HX.out _)))
      go_wp2_with fail
      simp only [Exit.noGoto, Exit.inBlock, Exit.then]
      go_ret
      exact ⟨rfl, below_drewN HBD.out⟩
  · go_enter Tryd.func47, Tryd.ntmps47
    go_wp2_with fail
    refine (validRune_any _ _).mono ?_
    rintro e w' ⟨rfl, rfl⟩
    rw [hv']
    go_wp2_with fail
    refine wp_scope_straight ?_
    go_upto_region 2 with fail
    rw [← hrs]
    clear hcv hrs hv hlt hne hv'
    go_wp2_with fail
    go_loopg [9, 10, 11, 12] 0 (fun _ i _ _ _ wx => i = .int .i64 3 ∧ wx = w')
    case atStart => exact ⟨rfl, rfl⟩
    case round =>
      obtain ⟨rfl, rfl⟩ := hrel
      go_wp2_with fail
      show Exit.inBlock 0 _ Exit.ret _ _
      go_ret
      exact ⟨rfl, Below.refl _ _⟩

set_option maxHeartbeats 2000000 in
set_option maxRecDepth 100000 in
theorem indexRune_err (w : World) :
    Calls Tryd.prog 47 #[.string seps, .int .i32 65533] w fun e w' => e = .returned (.int .i64 (-1)) ∧ Below w.heap.size w w' := by
  have hb : ∀ p, Below w.heap.size w (w.iter seps p) := fun p => (Below.refl _ _).alloc (Nat.le_refl _) _
  have h0 := fun ty => run_next_ascii (P := Tryd.prog) w seps 0 ty (by decide) (by decide)
  have h1 := fun ty => run_next_ascii (P := Tryd.prog) w seps 1 ty (by decide) (by decide)
  have h2 := fun ty => run_next_ascii (P := Tryd.prog) w seps 2 ty (by decide) (by decide)
  have h3 := fun ty => run_next_end (P := Tryd.prog) w seps 3 ty (by decide)
  have HB := Lib.hid hb
  clear hb
  go_enter Tryd.func47, Tryd.ntmps47
  go_wp2_with fail
  go_loopg [5, 6] 3 (fun g _ _ wx => ∃ i : Nat, i + g = 3 ∧ wx = w.iter seps i)
  case atStart => exact ⟨0, rfl, rfl⟩
  case round =>
    obtain ⟨i, hig, rfl⟩ := hrel
    rcases (show i = 0 ∨ i = 1 ∨ i = 2 ∨ i = 3 by omega) with rfl | rfl | rfl | rfl
    · obtain rfl : gk = 2 + 1 := by omega
      go_wp2_with fail
      go_roundg 2
      case measure => omega
      case rel => exact ⟨1, by omega, rfl⟩
    · obtain rfl : gk = 1 + 1 := by omega
      go_wp2_with fail
      go_roundg 1
      case measure => omega
      case rel => exact ⟨2, by omega, rfl⟩
    · obtain rfl : gk = 0 + 1 := by omega
      go_wp2_with fail
      go_roundg 0
      case measure => omega
      case rel => exact ⟨3, by omega, rfl⟩
    · obtain rfl : gk = 0 := by omega
      go_wp2_with fail
      go_ret
      exact ⟨rfl, HB.out _⟩

/-- The kinds of runes that a text's next one may be. -/
theorem decode_kind (s : ByteArray) (pos : Nat) (h : pos < s.size) (ha : 128 ≤ (s[pos]'h).toNat) (w : World) :
    Calls Tryd.prog 47 #[.string seps, .int .i32 (Utf8.decode s pos).1] w fun e w' => e = .returned (.int .i64 (-1)) ∧ Below w.heap.size w w' := by
  by_cases h0 : (Utf8.decode s pos).1 = 65533
  · rw [h0]; exact indexRune_err w
  · rcases decode_val s pos h ha with e | ⟨e1, e2⟩
    · rw [e] at h0; exact absurd rfl h0
    · exact indexRune_high _ w e2 (by omega) (by omega)

theorem use_any (n : Int) (w : World) : Calls Tryd.prog 48 #[.int .i64 n] w fun e w' => e = .returned (.bool (decide (8 < n))) ∧ w' = w := by
  go_enter Tryd.func48, Tryd.ntmps48
  go_wp2_with fail
  go_ret
  exact ⟨rfl, rfl⟩

/-- s of at most 8 bytes. -/
def ShInv (w : World) (s : ByteArray) (i : Nat) (wx : World) : Prop :=
  i ≤ s.size ∧ wx.heap[w.heap.size]? = some (.stringIter s i) ∧ Below w.heap.size w wx ∧ Lib.NoAny s.data.toList seps.data.toList i

theorem ShInv.step {w wx wy : World} {s : ByteArray} {i n : Nat} (h : ShInv w s i wx) (hn : i + n ≤ s.size) (hno : Lib.NoAny s.data.toList seps.data.toList (i + n)) (hb : Below (wx.iterAt w.heap.size s (i + n)).heap.size (wx.iterAt w.heap.size s (i + n)) wy) : ShInv w s (i + n) wy := by
  obtain ⟨h1, h2, h3, h4⟩ := h
  have hlt : w.heap.size < wx.heap.size := (Array.getElem?_eq_some_iff.1 h2).1
  exact ⟨hn, (hb.block _ (by rw [Lib.iterAt_size]; exact hlt)).trans (Lib.iterAt_heap wx _ s i (i + n) h2), btrans (Lib.below_iterAt h3 (Nat.le_refl _) s (i + n)) hb, hno⟩
theorem NoAny.high {s : ByteArray} {i n : Nat} (h : Lib.NoAny s.data.toList seps.data.toList i) (hn : i + n ≤ s.size) (hh : ∀ k, k < n → 128 ≤ (s.get! (i + k)).toNat) : Lib.NoAny s.data.toList seps.data.toList (i + n) := by
  induction n with
  | zero => exact h
  | succ n ih =>
    have hlt : i + n < s.size := by omega
    have h1 := hh n (by omega)
    have e : s.get! (i + n) = s[i + n]'hlt := by have := Go.get_at s (i + n) hlt; rwa [Nat.add_zero] at this
    rw [e] at h1
    exact (ih (by omega) fun k hk => hh k (by omega)).succ (Lib.data_getElem? s (i + n) hlt) (seps_contains_high _ h1)

set_option maxHeartbeats 4000000 in
set_option maxRecDepth 100000 in
theorem indexAny_short (s : ByteArray) (w : World) (h8 : s.size ≤ 8) :
    Calls Tryd.prog 44 #[.string s, .string seps] w fun e w' => e = .returned (.int .i64 (Lib.indexAny s.data.toList seps.data.toList)) ∧ Below w.heap.size w w' := by
  have h8z : decide ((8 : Int) < (s.size : Int)) = false := decide_eq_false (by omega)
  have hemp : seps.toList.isEmpty = false := by rw [Lib.toList_data]; rfl
  have hsz : seps.size = 3 := rfl
  have HK := Lib.hid (fun pos h ha w => decode_kind s pos h ha w)
  have HST : Hid (ShInv w s 0 (w.iter s 0)) := ⟨Nat.zero_le _, World.iter_heap .., (Below.refl _ _).alloc (Nat.le_refl _) _, Lib.NoAny.zero _ _⟩
  have hu := use_any (s.size : Int)
  rw [h8z] at hu
  have HU := Lib.hid hu
  clear hu
  go_enter Tryd.func44, Tryd.ntmps44
  go_wp2_with fail
  refine (HU.out _).mono ?_
  rintro e w' ⟨rfl, rfl⟩
  go_wp2_with fail
  go_loopg [9, 10] s.size (fun g _ _ wx => ∃ i : Nat, i + g = s.size ∧ Hid (ShInv w' s i wx))
  case atStart => exact ⟨0, by omega, HST.out⟩
  case round =>
    obtain ⟨i, hig, hI⟩ := hrel
    obtain ⟨i1, i2, i3, i4⟩ := hI.out
    have hlt : w'.heap.size < wr.heap.size := (Array.getElem?_eq_some_iff.1 i2).1
    by_cases hi : i < s.size
    · have hnx := fun ty => run_next_any_at (P := Tryd.prog) wr w'.heap.size s i ty i2 hi
      obtain ⟨x, hx⟩ : ∃ x : UInt8, s[i]'hi = x := ⟨_, rfl⟩
      have hxl : s.data.toList[i]? = some x := by rw [← hx]; exact Lib.data_getElem? s i hi
      by_cases ha : x.toNat < 128
      · have hd := decode_ascii s i hi (by rw [hx]; exact ha)
        rw [hd, hx] at hnx
        have HIA := Lib.hid (fun W => Any.strings_IndexRune_ascii { Tryd.lays153 with } seps x.toNat W (by omega) (by omega))
        have hback : ((x.toNat : Int)).toNat.toUInt8 = x := by simp
        rw [hback] at HIA
        have hcon := Lib.contains_iff_indexByte seps.data.toList x
        have HI := Lib.hid hI.out
        have HXL := Lib.hid hxl
        have hz : (wr.iterAt w'.heap.size s (i + 1)).heap.size = wr.heap.size := Lib.iterAt_size ..
        clear hback hd hx hxl i2 i3 hI
        cases hin : seps.data.toList.contains x with
        | false =>
          rw [hin] at hcon
          have hlt2 : ¬ ((0 : Int) ≤ Lib.indexByte seps.data.toList x) := of_decide_eq_false hcon.symm
          have HS : Hid (ShInv w' s (i + 1) (wr.iterAt w'.heap.size s (i + 1))) := HI.out.step (by omega) (i4.succ HXL.out hin) (Below.refl _ _)
          clear hcon i4 hin
          go_wp2_with fail
          refine (HIA.out _).mono ?_
          rintro e W ⟨rfl, rfl⟩
          go_wp2_with fail
          go_roundg (gk - 1)
          case measure => omega
          case rel => exact ⟨i + 1, by omega, HS⟩
        | true =>
          rw [hin] at hcon
          have hge : (0 : Int) ≤ Lib.indexByte seps.data.toList x := of_decide_eq_true hcon.symm
          have HR : Hid (Lib.indexAny s.data.toList seps.data.toList = i) := Lib.indexAny_hit i4 HXL.out hin
          have HB : Hid (Below w'.heap.size w' (wr.iterAt w'.heap.size s (i + 1))) := Lib.below_iterAt HI.out.2.2.1 (Nat.le_refl _) s (i + 1)
          clear hcon i4 hin
          go_wp2_with fail
          refine (HIA.out _).mono ?_
          rintro e W ⟨rfl, rfl⟩
          go_wp2_with fail
          go_ret
          exact ⟨by rw [HR.out]; rfl, HB.out⟩
      · obtain ⟨n, hn⟩ : ∃ n, n = (Utf8.decode s i).2 := ⟨_, rfl⟩
        obtain ⟨c, hc⟩ : ∃ c, c = (Utf8.decode s i).1 := ⟨_, rfl⟩
        obtain ⟨d1, d2⟩ := decode_high_bytes s i hi (by rw [hx]; omega)
        have d3 := (decode_high s i hi (by rw [hx]; omega)).2
        have HKI := Lib.hid (fun W => HK.out i hi (by rw [hx]; omega) W)
        rw [← hn] at hnx d1 d2 d3
        rw [← hc] at hnx HKI
        have hno := NoAny.high i4 d1 d2
        have HS : Hid (∀ wy, Below (wr.iterAt w'.heap.size s (i + n)).heap.size (wr.iterAt w'.heap.size s (i + n)) wy → ShInv w' s (i + n) wy) := fun wy hb => hI.out.step d1 hno hb
        have hz : (wr.iterAt w'.heap.size s (i + n)).heap.size = wr.heap.size := Lib.iterAt_size ..
        clear hno d2 hn hc hx hxl ha i2 i3 i4 hI
        go_wp2_with fail
        refine (HKI.out _).mono ?_
        rintro e W ⟨rfl, hb⟩
        have HSW := Lib.hid (HS.out W hb)
        clear hb HS
        go_wp2_with fail
        go_roundg (gk - n)
        case measure => omega
        case rel => exact ⟨i + n, by omega, HSW⟩
    · have hnx := fun ty => run_next_end_at (P := Tryd.prog) wr w'.heap.size s i ty i2 hi
      obtain rfl : i = s.size := by omega
      have HR : Hid (Lib.indexAny s.data.toList seps.data.toList = -1) := Lib.indexAny_none (by rw [← Lib.size_eq]; exact i4)
      have HB := Lib.hid i3
      clear hI i1 i2 i3 i4
      go_wp2_with fail
      go_ret
      exact ⟨by rw [HR.out]; rfl, HB.out⟩

/-- strings.IndexAny of ":/~", at whatever text. -/
theorem indexAny_all (s : ByteArray) (w : World) (hs : s.size ≤ 2147483647) :
    Calls Tryd.prog 44 #[.string s, .string seps] w fun e w' => e = .returned (.int .i64 (Lib.indexAny s.data.toList seps.data.toList)) ∧ Below w.heap.size w w' := by
  by_cases h8 : s.size ≤ 8
  · exact indexAny_short s w h8
  · have h := Any.strings_IndexAny_long Tryd.lays153 (zero_of_info (show (Tryd.prog.info? (Tryd.lays153_ren.t 116)).map (fun i => (i.zero, i.size)) = some (some (.agg (Array.replicate 256 (.bool false))), 256) by kernel_rfl)).1 (zero_of_info (show (Tryd.prog.info? (Tryd.lays153_ren.t 116)).map (fun i => (i.zero, i.size)) = some (some (.agg (Array.replicate 256 (.bool false))), 256) by kernel_rfl)).2 s seps w (by decide) (by omega) (by omega) (by decide) (by intro j b h; match j, h with | 0, h => cases h; decide | 1, h => cases h; decide | 2, h => cases h; decide | j + 3, h => cases h)
    have h' : Calls Tryd.prog 44 #[.string s, .string seps] w fun e w' => e = .returned (.int .i64 (Lib.indexAny s.data.toList seps.data.toList)) ∧ w' = ((w.alloc (.cells (Lib.setCells seps.data.toList) (Tryd.lays153_ren.t 116))).alloc (.cells (Lib.setCells seps.data.toList) (Tryd.lays153_ren.t 116))) := h
    refine h'.mono ?_
    rintro e w' ⟨rfl, rfl⟩
    exact ⟨rfl, ((Below.refl _ _).alloc (Nat.le_refl _) _).alloc (by simp) _⟩

end Go.Proofs.YtedoalpijbggiaaDoor
