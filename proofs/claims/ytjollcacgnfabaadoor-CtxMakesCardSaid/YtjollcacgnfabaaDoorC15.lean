/- CtxTree. -/
import Derived.Test.YtjollcacgnfabaaDoorC14
import Derived.Test.YtjollcacgnfabaaDoorSplit
namespace Go.Proofs.YtjollcacgnfabaaDoor
open Go.RowKit
attribute [local go_sem ↓] Go.wp_at_zero Go.wp_at_succ

/-- What stands in boxes, while nothing old is written. -/
structure St (w0 w : World) (L : List (Nat × Cx)) : Prop where
  boxes : ∀ p ∈ L, w.heap[p.1]? = some (.cells (cxCells p.2).toArray 24 (0, 0))
  below : Below w0.heap.size w0 w
theorem St.call {w0 w w' : World} {L : List (Nat × Cx)} (h : St w0 w L) (hb : Below w.heap.size w w') : St w0 w' L :=
  ⟨fun p hp => (hb.block _ (Array.getElem?_eq_some_iff.1 (h.boxes p hp)).1).trans (h.boxes p hp), btrans h.below hb⟩
theorem St.push {w0 w : World} {L : List (Nat × Cx)} (h : St w0 w L) (c : Cx) : St w0 (w.alloc (.cells (cxCells c).toArray 24)) ((w.heap.size, c) :: L) := by
  have h2 := h.call ((Below.refl w.heap.size w).alloc (Nat.le_refl _) (.cells (cxCells c).toArray 24))
  refine ⟨fun p hp => ?_, h2.below⟩
  rcases List.mem_cons.1 hp with rfl | hp
  · exact heap_alloc_new w _
  · exact h2.boxes p hp
theorem St.drewN {w0 w : World} {L : List (Nat × Cx)} (h : St w0 w L) (nq : Nat) : St w0 (w.drewN nq) L := h.call (below_drewN (Below.refl _ _))
theorem St.fill {w0 w w2 : World} {L : List (Nat × Cx)} (h : St w0 w L) (hb : Below w.heap.size w w2) {z0 z1 z2 z3 z4 z5 z6 z7 z8 : Value} (hz : w2.heap[w.heap.size]? = some (.cells #[z0, z1, z2, z3, z4, z5, z6, z7, z8] 24 (0, 0))) (c : Cx) :
    ∃ W6, setsFrom w2 w.heap.size 0 (cxCells c) = W6 ∧ St w0 W6 ((w.heap.size, c) :: L) := by
  have h2 := h.call hb
  obtain ⟨W6, e, hu, u1⟩ := copy_out c hz h2.below h.below.size
  have e2 : ∀ (b : Nat), b ≠ w.heap.size → ∀ (vs : List Value) (o : Nat) (W : World), (setsFrom W w.heap.size o vs).heap[b]? = W.heap[b]? := by
    intro b hne vs
    induction vs with
    | nil => intro o W; rfl
    | cons v vs ih => intro o W; rw [setsFrom, ih]; exact Below.heap_setCell W ⟨w.heap.size, o, none⟩ v _ hne
  refine ⟨W6, e, fun p hp => ?_, hu⟩
  rcases List.mem_cons.1 hp with rfl | hp
  · exact u1
  · rw [← e, e2 _ (by have := (Array.getElem?_eq_some_iff.1 (h.boxes p hp)).1; omega)]
    exact h2.boxes p hp

theorem nine {w : World} {b : Nat} {v0 v1 v2 v3 v4 v5 v6 v7 v8 : Value} {T : TypeId} {fr : Nat × Nat} (h : w.heap[b]? = some (.cells #[v0, v1, v2, v3, v4, v5, v6, v7, v8] T fr)) :
    w.cell? ⟨b, 0, none⟩ = some v0 ∧ w.cell? ⟨b, 1, none⟩ = some v1 ∧ w.cell? ⟨b, 2, none⟩ = some v2 ∧ w.cell? ⟨b, 3, none⟩ = some v3 ∧ w.cell? ⟨b, 4, none⟩ = some v4 ∧ w.cell? ⟨b, 5, none⟩ = some v5 ∧ w.cell? ⟨b, 6, none⟩ = some v6 ∧ w.cell? ⟨b, 7, none⟩ = some v7 ∧ w.cell? ⟨b, 8, none⟩ = some v8 :=
  ⟨block_cell h 0 _ rfl, block_cell h 1 _ rfl, block_cell h 2 _ rfl, block_cell h 3 _ rfl, block_cell h 4 _ rfl, block_cell h 5 _ rfl, block_cell h 6 _ rfl, block_cell h 7 _ rfl, block_cell h 8 _ rfl⟩

theorem byte_at (s : ByteArray) (j : Nat) (h : j < s.size) (c : UInt8) : (((s.data[j]!).toNat : Int) = (c.toNat : Int)) ↔ s.data.toList[j]? = some c := by
  have h2 : j < s.data.toList.length := by rw [← Lib.size_eq s]; exact h
  have h3 : s.data[j]! = s.data.toList[j] := by
    rw [getElem!_pos s.data j h, Array.getElem_toList]
  rw [h3, List.getElem?_eq_getElem h2]
  constructor
  · intro e
    have e2 : s.data.toList[j] = c := UInt8.toNat_inj.1 (by omega)
    rw [e2]
  · intro e; rw [Option.some.inj e]

/-- Up of what stands behind the last sign. -/
theorem up_of (p r : ByteArray) (hr : (47 : UInt8) ∉ r.data.toList) : upOf (p ++ ⟨#[47]⟩ ++ r) = p := by
  have hl : (p ++ ⟨#[47]⟩ ++ r).data.toList = p.data.toList ++ 47 :: r.data.toList := by rw [data_append, data_append]; simp
  have hsz : (p ++ ⟨#[47]⟩ ++ r).size = p.size + 1 + r.size := by rw [ByteArray.size_append, ByteArray.size_append]; rfl
  have hp : p.size = p.data.toList.length := Lib.size_eq p
  have hat : (p ++ ⟨#[47]⟩ ++ r).data.toList[p.size]? = some 47 := by rw [hl, hp, List.getElem?_append_right (Nat.le_refl _), Nat.sub_self]; rfl
  have hi : Lib.lastIndexByte (p ++ ⟨#[47]⟩ ++ r) 47 = (p.size : Int) := by
    rcases Lib.lastIndexByte_spec (p ++ ⟨#[47]⟩ ++ r) 47 with ⟨_, h⟩ | ⟨i, h1, h2, h3, h4⟩
    · exact absurd ((byte_at _ p.size (by omega) 47).2 hat) (h p.size (by omega))
    · have h3' := (byte_at _ i h1 47).1 h3
      have hge : ¬ i < p.size := fun e => h4 p.size e (by omega) ((byte_at _ p.size (by omega) 47).2 hat)
      have hle : ¬ p.size < i := fun e => by
        rw [hl, List.getElem?_append_right (by omega)] at h3'
        obtain ⟨j, hj⟩ : ∃ j, i - p.data.toList.length = j + 1 := ⟨i - p.data.toList.length - 1, by omega⟩
        rw [hj, List.getElem?_cons_succ] at h3'
        exact hr (List.mem_of_getElem? h3')
      rw [h2]; congr 1; omega
  have hm : (max (Lib.lastIndexByte (p ++ ⟨#[47]⟩ ++ r) 47) 0).toNat = p.size := by rw [hi]; omega
  unfold upOf
  rw [hm]
  apply bytes_ext
  rw [Lib.extract_data, hl, hp]
  simp

theorem depth_append (a b : ByteArray) : depthOf (a ++ b) = depthOf a + depthOf b := by
  unfold depthOf Lib.countByte
  rw [data_append, List.count_append]
  omega
theorem depth_none (r : ByteArray) (hr : (47 : UInt8) ∉ r.data.toList) : depthOf r = 0 := by
  unfold depthOf Lib.countByte
  rw [List.count_eq_zero.2 hr]
  rfl
theorem digit_data (i : Nat) : (digit i).data.toList = [UInt8.ofNat (48 + i)] := rfl
theorem digit_not {i : Nat} (hi : i ≤ 9) (c : UInt8) (hc : c.toNat < 48 ∨ 57 < c.toNat) : c ∉ (digit i).data.toList := by
  rw [digit_data]
  intro h
  have := List.mem_singleton.1 h
  rw [this] at hc
  rw [UInt8.toNat_ofNat'] at hc
  omega
theorem size_lt_depth (s : ByteArray) (h : s.size ≤ 100) : 0 ≤ depthOf s ∧ depthOf s ≤ 100 := by
  unfold depthOf Lib.countByte
  have := List.count_le_length (a := (47 : UInt8)) (l := s.data.toList)
  rw [← Lib.size_eq s] at this
  omega
theorem toList_ne {a b : ByteArray} (h : a ≠ b) : ¬ a.toList = b.toList := fun e => h (bytes_ext (by rw [← Lib.toList_data, ← Lib.toList_data, e]))
theorem size_ne {a b : ByteArray} (h : a.size ≠ b.size) : a ≠ b := fun e => h (by rw [e])

set_option maxRecDepth 8000 in
set_option maxHeartbeats 4000000 in
theorem tree_walk {w : World} {A : Option Addr} {k0 : Nat} {l : List Int} (h : ArgInts w A k0 l) (cap : Nat) (n a i : Int) (hn : -9223372036854775808 ≤ n ∧ n ≤ 9223372036854775807) (ha : -9223372036854775808 ≤ a ∧ a ≤ 9223372036854775807) (hi : -9223372036854775808 ≤ i ∧ i ≤ 9223372036854775807) (hL : MaxLenAt w) :
    Calls Tryd.prog 7 #[.slice A k0 cap, .int .i64 n, .int .i64 a, .int .i64 i] w fun e w' => e = .returned (.bool true) ∧ Below w.heap.size w w' := by
  have HAT := Lib.hid (attempt_any h cap n hn)
  have HIN := Lib.hid (attOf_in l n)
  obtain ⟨c, hc⟩ : ∃ c, c = attOf l n := ⟨_, rfl⟩
  rw [← hc] at HAT HIN
  obtain ⟨q, s, tr, b1, b2, d, u, v, z⟩ := c
  dsimp only [cxV, cxCells] at HAT HIN
  clear hc
  have HI4 := Lib.hid (fun w => around_any i 4 w hi.1 hi.2 (by decide) (by decide))
  obtain ⟨i4, hi4, hi4b⟩ : ∃ i4 : Nat, (i4 : Int) = around i 4 ∧ i4 < 4 := by
    obtain ⟨x0, x1⟩ := around_bd i (show (1 : Int) ≤ 4 by decide)
    exact ⟨(around i 4).toNat, by omega, by omega⟩
  rw [← hi4] at HI4
  have HA8 := Lib.hid (fun w => around_any a 8 w ha.1 ha.2 (by decide) (by decide))
  obtain ⟨x0, x1⟩ := around_bd a (show (1 : Int) ≤ 8 by decide)
  obtain ⟨x, hx⟩ : ∃ x, x = around a 8 := ⟨_, rfl⟩
  rw [← hx] at HA8 x0 x1
  have HSP := Lib.hid (fun w => span_any ⟨q, s, tr, b1, b2, d, u, v, z⟩ (by have := HIN.out; dsimp only; omega) (by have := HIN.out; dsimp only; omega) w)
  have HKD := Lib.hid (fun w => kid_any ⟨q, s, tr, b1, b2, d, u, v, z⟩ i4 4 1 (by have := HIN.out; dsimp only; omega) (by have := HIN.out; dsimp only; omega) (by omega) (by omega) (by have := HIN.out; dsimp only; omega) (by have := HIN.out; dsimp only; omega) (by omega) w)
  obtain ⟨name, hname⟩ : ∃ y, y = (⟨q, s, tr, b1, b2, d, u, v, z⟩ : Cx).span := ⟨_, rfl⟩
  have hnsz : name.size ≤ 31 := by
    have := span_size ⟨q, s, tr, b1, b2, d, u, v, z⟩
    have := HIN.out.1
    rw [hname]
    dsimp only at *
    omega
  obtain ⟨ks, hks⟩ : ∃ ks, ks = name ++ ⟨#[47]⟩ ++ digit i4 := ⟨_, rfl⟩
  have hkd : (⟨q, s, tr, b1, b2, d, u, v, z⟩ : Cx).kid i4 4 1 = ⟨q, ks, 0, b1, b2, d - 1, shareAt u 4 i4, v, z⟩ := by rw [hks, hname]; exact rfl
  rw [hkd] at HKD
  obtain ⟨d1, hd1⟩ : ∃ d1, d1 = d - 1 := ⟨_, rfl⟩
  obtain ⟨ku, hku⟩ : ∃ ku, ku = shareAt u 4 i4 := ⟨_, rfl⟩
  rw [← hd1, ← hku] at HKD
  rw [← hname] at HSP
  have hksz : ks.size = name.size + 2 := by rw [hks, ByteArray.size_append, ByteArray.size_append]; rfl
  have HSK : Hid (∀ w, Calls Tryd.prog 27 #[cxV ⟨q, ks, 0, b1, b2, d1, ku, v, z⟩] w fun e w' => e = .returned (.string ks) ∧ Below w.heap.size w w') := fun w => span_any ⟨q, ks, 0, b1, b2, d1, ku, v, z⟩ (by dsimp only; omega) (by dsimp only; omega) w
  have HUK : Hid (∀ w, Calls Tryd.prog 17 #[.string ks] w fun e w' => e = .returned (.string name) ∧ w' = w) := fun w => by
    have h := up_any ks (by omega) w
    rw [show upOf ks = name by rw [hks]; exact up_of name _ (digit_not (by omega) 47 (by decide))] at h
    exact h
  have HTRY : Hid (∀ y w, Calls Tryd.prog 24 #[cxV ⟨q, ks, 0, b1, b2, d1, ku, v, z⟩, .int .i64 y, .int .i64 0] w fun e w' => e = .returned (cxV ⟨q, ks, y, b1, b2, d1, 0, v, z⟩) ∧ Below w.heap.size w w') := fun y w => try_any ⟨q, ks, 0, b1, b2, d1, ku, v, z⟩ y 0 w
  obtain ⟨ta, hta⟩ : ∃ ta, ta = 1 + x := ⟨_, rfl⟩
  obtain ⟨tq, hto⟩ : ∃ tq, tq = 2 + x := ⟨_, rfl⟩
  obtain ⟨ts, hts⟩ : ∃ ts, ts = ks ++ ⟨#[58]⟩ ++ digit ta.toNat := ⟨_, rfl⟩
  obtain ⟨os, hos⟩ : ∃ os, os = ks ++ ⟨#[58]⟩ ++ digit tq.toNat := ⟨_, rfl⟩
  obtain ⟨ps, hps⟩ : ∃ ps, ps = ks ++ ⟨#[126]⟩ := ⟨_, rfl⟩
  obtain ⟨pz, hpz⟩ : ∃ pz, pz = ps ++ ⟨#[58]⟩ ++ digit 1 := ⟨_, rfl⟩
  have hpsz : ps.size = name.size + 3 := by rw [hps, ByteArray.size_append, hksz]; rfl
  have htsz : ts.size = name.size + 4 := by rw [hts, ByteArray.size_append, ByteArray.size_append, hksz]; rfl
  have hpzz : pz.size = name.size + 5 := by rw [hpz, ByteArray.size_append, ByteArray.size_append, hpsz]; rfl
  have n58 : ∀ m ≤ 9, (47 : UInt8) ∉ (digit i4 ++ ⟨#[58]⟩ ++ digit m).data.toList := fun m hm h => by
    rw [data_append, data_append] at h
    simp only [List.mem_append] at h
    rcases h with (h | h) | h
    · exact digit_not (by omega) 47 (by decide) h
    · exact absurd h (by decide)
    · exact digit_not hm 47 (by decide) h
  have hts2 : ts = name ++ ⟨#[47]⟩ ++ (digit i4 ++ ⟨#[58]⟩ ++ digit ta.toNat) := by
    rw [hts, hks]; apply bytes_ext; simp only [data_append, List.append_assoc]
  have HUT : Hid (∀ w, Calls Tryd.prog 17 #[.string ts] w fun e w' => e = .returned (.string name) ∧ w' = w) := fun w => by
    have h := up_any ts (by omega) w
    rw [show upOf ts = name by rw [hts2]; exact up_of name _ (n58 _ (by omega))] at h
    exact h
  have HUP : Hid (∀ w, Calls Tryd.prog 17 #[.string pz] w fun e w' => e = .returned (.string name) ∧ w' = w) := fun w => by
    have h := up_any pz (by omega) w
    rw [show upOf pz = name by
      have e : pz = name ++ ⟨#[47]⟩ ++ (digit i4 ++ ⟨#[126]⟩ ++ ⟨#[58]⟩ ++ digit 1) := by
        rw [hpz, hps, hks]; apply bytes_ext; simp only [data_append, List.append_assoc]
      rw [e]
      refine up_of name _ (fun h => ?_)
      rw [data_append, data_append, data_append] at h
      simp only [List.mem_append] at h
      rcases h with ((h | h) | h) | h
      · exact digit_not (by omega) 47 (by decide) h
      · exact absurd h (by decide)
      · exact absurd h (by decide)
      · exact digit_not (by decide) 47 (by decide) h] at h
    exact h
  have HST : Hid (∀ w, Calls Tryd.prog 27 #[cxV ⟨q, ks, ta, b1, b2, d1, 0, v, z⟩] w fun e w' => e = .returned (.string ts) ∧ Below w.heap.size w w') := fun w => by
    have h := span_any ⟨q, ks, ta, b1, b2, d1, 0, v, z⟩ (by dsimp only; omega) (by dsimp only; omega) w
    rw [show (⟨q, ks, ta, b1, b2, d1, 0, v, z⟩ : Cx).span = ts by rw [hts]; exact if_pos (show 0 < ta by omega)] at h
    exact h
  have HSO : Hid (∀ w, Calls Tryd.prog 27 #[cxV ⟨q, ks, tq, b1, b2, d1, 0, v, z⟩] w fun e w' => e = .returned (.string os) ∧ Below w.heap.size w w') := fun w => by
    have h := span_any ⟨q, ks, tq, b1, b2, d1, 0, v, z⟩ (by dsimp only; omega) (by dsimp only; omega) w
    rw [show (⟨q, ks, tq, b1, b2, d1, 0, v, z⟩ : Cx).span = os by rw [hos]; exact if_pos (show 0 < tq by omega)] at h
    exact h
  have HCO : Hid (∀ w, Calls Tryd.prog 25 #[cxV ⟨q, ks, 0, b1, b2, d1, ku, v, z⟩] w fun e w' => e = .returned (cxV ⟨q, ps, 0, b1, true, d1, 0, v, z⟩) ∧ Below w.heap.size w w') := fun w => by
    have h := copy_any ⟨q, ks, 0, b1, b2, d1, ku, v, z⟩ (by dsimp only; omega) w
    rw [show (⟨q, ks, 0, b1, b2, d1, ku, v, z⟩ : Cx).copy = ⟨q, ps, 0, b1, true, d1, 0, v, z⟩ by rw [hps]; exact rfl] at h
    exact h
  have HTP : Hid (∀ w, Calls Tryd.prog 24 #[cxV ⟨q, ps, 0, b1, true, d1, 0, v, z⟩, .int .i64 1, .int .i64 0] w fun e w' => e = .returned (cxV ⟨q, ps, 1, b1, true, d1, 0, v, z⟩) ∧ Below w.heap.size w w') := fun w => try_any ⟨q, ps, 0, b1, true, d1, 0, v, z⟩ 1 0 w
  have HSP2 : Hid (∀ w, Calls Tryd.prog 27 #[cxV ⟨q, ps, 1, b1, true, d1, 0, v, z⟩] w fun e w' => e = .returned (.string pz) ∧ Below w.heap.size w w') := fun w => by
    have h := span_any ⟨q, ps, 1, b1, true, d1, 0, v, z⟩ (by dsimp only; omega) (by dsimp only; omega) w
    rw [show (⟨q, ps, 1, b1, true, d1, 0, v, z⟩ : Cx).span = pz by rw [hpz]; exact if_pos (show (0 : Int) < 1 by decide)] at h
    exact h
  have HDN := Lib.hid (fun w => depth_any name w)
  have HDT := Lib.hid (fun w => depth_any ts w)
  have hdt : depthOf ts = depthOf name + 1 := by
    rw [hts2, depth_append, depth_append, depth_none _ (n58 _ (by omega))]
    have : depthOf ⟨#[47]⟩ = 1 := by decide
    omega
  obtain ⟨dn0, dn1⟩ := size_lt_depth name (by omega)
  rw [hdt] at HDT
  obtain ⟨dn, hdn⟩ : ∃ dn, dn = depthOf name := ⟨_, rfl⟩
  rw [← hdn] at HDN HDT dn0 dn1
  have hne1 : os ≠ ts := by
    rw [hos, hts]
    intro e
    have e2 := congrArg (fun s => s.data.toList) e
    simp only [data_append, digit_data] at e2
    have e3 := List.append_cancel_left e2
    have e4 : UInt8.ofNat (48 + tq.toNat) = UInt8.ofNat (48 + ta.toNat) := by simpa using e3
    have e5 := congrArg UInt8.toNat e4
    rw [UInt8.toNat_ofNat', UInt8.toNat_ofNat'] at e5
    omega
  have hne2 : ks ≠ ts := size_ne (by omega)
  have hne3 : pz ≠ ts := size_ne (by omega)
  have q1 := beq_eq_false_iff_ne.2 (toList_ne hne1)
  have q2 := beq_eq_false_iff_ne.2 (toList_ne hne2)
  have q3 := beq_eq_false_iff_ne.2 (toList_ne hne3)
  have t1 := toList_ne hne1
  have t2 := toList_ne hne2
  have t3 := toList_ne hne3
  have g1 : IntKind.i64.wrap (1 + x) = 1 + x := IntWalk.i64_in _ (by omega)
  have g2 : IntKind.i64.wrap (2 + x) = 2 + x := IntWalk.i64_in _ (by omega)
  have g3 : IntKind.i64.wrap (dn + 1) = dn + 1 := IntWalk.i64_in _ (by omega)
  rw [hta, hto] at *
  dsimp only [cxV, cxCells] at HSP HKD HSK HTRY HST HSO HCO HTP HSP2
  have HLV := Lib.hid (fun w' (hb : Below w.heap.size w w') => lives_any w' (hL.below hL.lt hb))
  clear hname hnsz hks hkd hd1 hku hksz hta hto hts hos hps hpz hpsz htsz hpzz n58 hts2 hdt hdn hne1 hne2 hne3 hx hi4 HIN hL h hn ha hi
  go_enter Tryd.func7, Tryd.ntmps7
  go_wp2_with fail
  refine HAT.out.mono ?_
  rintro e w1 ⟨rfl, hb1⟩
  have S1 : Hid (St w w1 []) := ⟨(fun p hp => by cases hp), hb1⟩
  have S2 := Lib.hid (S1.out.push ⟨q, s, tr, b1, b2, d, u, v, z⟩)
  dsimp only [cxCells] at S2
  have m := S2.out.boxes (w1.heap.size, ⟨q, s, tr, b1, b2, d, u, v, z⟩) (by simp)
  dsimp only [cxCells] at m
  have r0 := block_cell m 0 _ rfl
  have r1 := block_cell m 1 _ rfl
  have r2 := block_cell m 2 _ rfl
  have r3 := block_cell m 3 _ rfl
  have r4 := block_cell m 4 _ rfl
  have r5 := block_cell m 5 _ rfl
  have r6 := block_cell m 6 _ rfl
  have r7 := block_cell m 7 _ rfl
  have r8 := block_cell m 8 _ rfl
  clear m
  clear hb1
  go_wp2_with fail
  refine (HSP.out _).mono ?_
  rintro e w2 ⟨rfl, hb2⟩
  have S3 := Lib.hid (S2.out.call hb2)
  clear r0 r1 r2 r3 r4 r5 r6 r7 r8
  have m := S3.out.boxes (w1.heap.size, ⟨q, s, tr, b1, b2, d, u, v, z⟩) (by simp)
  dsimp only [cxCells] at m
  have r0 := block_cell m 0 _ rfl
  have r1 := block_cell m 1 _ rfl
  have r2 := block_cell m 2 _ rfl
  have r3 := block_cell m 3 _ rfl
  have r4 := block_cell m 4 _ rfl
  have r5 := block_cell m 5 _ rfl
  have r6 := block_cell m 6 _ rfl
  have r7 := block_cell m 7 _ rfl
  have r8 := block_cell m 8 _ rfl
  clear m
  clear hb2 S1 S2
  go_wp2_with fail
  go_cut [11] from 20 to 23 (fun vv wx => ∃ B, vv = .pointer (some ⟨B, 0, none⟩) ∧ St w wx ((B, ⟨q, ks, 0, b1, b2, d1, ku, v, z⟩) :: [(w1.heap.size, ⟨q, s, tr, b1, b2, d, u, v, z⟩)]))
  case first =>
    refine wp_region_split_held 5 (fun w' => w'.cell? ⟨w1.heap.size, 0, none⟩ = some (.int .i64 q) ∧ w'.cell? ⟨w1.heap.size, 1, none⟩ = some (.string s) ∧ w'.cell? ⟨w1.heap.size, 2, none⟩ = some (.int .i64 tr) ∧ w'.cell? ⟨w1.heap.size, 3, none⟩ = some (.bool b1) ∧ w'.cell? ⟨w1.heap.size, 4, none⟩ = some (.bool b2) ∧ w'.cell? ⟨w1.heap.size, 5, none⟩ = some (.int .i64 d) ∧ w'.cell? ⟨w1.heap.size, 6, none⟩ = some (.int .i64 u) ∧ w'.cell? ⟨w1.heap.size, 7, none⟩ = some (.int .i64 v) ∧ w'.cell? ⟨w1.heap.size, 8, none⟩ = some (.int .i64 z)) (by kernel_rfl) (by kernel_rfl) ⟨r0, r1, r2, r3, r4, r5, r6, r7, r8⟩ (fun K0 hK0 hHeld => ?_)
    simp only [List.take_succ_cons, List.take_zero]
    refine wpAnyH_take (i := 0) (v := ?_) rfl (by kernel_rfl) (by kernel_rfl) (by kernel_rfl) (fun _ _ _ h => h) (Or.inl ⟨by kernel_rfl, ?_⟩) (by assumption) ?_
    rotate_left
    · (intro w hSw; (try dsimp only at hSw); go_simp; (try rw [if_neg (by (try simp only [ByteArray.size_append]); omega)]); (try with_reducible rfl))
    try simp only [Act.put]
    refine wpAnyH_take (i := 1) (v := ?_) rfl (by kernel_rfl) (by kernel_rfl) (by kernel_rfl) (fun _ _ _ h => h) (Or.inl ⟨by kernel_rfl, ?_⟩) (by assumption) ?_
    rotate_left
    · (intro w hSw; (try dsimp only at hSw); go_simp; (try rw [if_neg (by (try simp only [ByteArray.size_append]); omega)]); (try with_reducible rfl))
    try simp only [Act.put]
    refine wpAnyH_ready (rs := [2, 4]) (by kernel_rfl) (by simp) ?_
    refine AllReadyH.cons rfl (fun K hK => ?_) (AllReadyH.cons rfl (fun K hK => ?_) AllReadyH.nil)
    · go_simp
      refine (HI4.out _).mono ?_
      rintro e wq ⟨rfl, rfl⟩
      refine hK.out _ _ hHeld (fun hHeld => ?_)
      clear hK K
      try simp only [Act.put]
      refine wpAnyH_ready (rs := [3, 4]) (by kernel_rfl) (by simp) ?_
      refine AllReadyH.cons rfl (fun K hK => ?_) (AllReadyH.cons rfl (fun K hK => ?_) AllReadyH.nil)
      · go_simp
        refine (HKD.out _).mono ?_
        rintro e wk ⟨rfl, hbk⟩
        refine hK.out _ _ ⟨bkeep hbk hHeld.1, bkeep hbk hHeld.2.1, bkeep hbk hHeld.2.2.1, bkeep hbk hHeld.2.2.2.1, bkeep hbk hHeld.2.2.2.2.1, bkeep hbk hHeld.2.2.2.2.2.1, bkeep hbk hHeld.2.2.2.2.2.2.1, bkeep hbk hHeld.2.2.2.2.2.2.2.1, bkeep hbk hHeld.2.2.2.2.2.2.2.2⟩ (fun hHeld => ?_)
        clear hK K
        try simp only [Act.put]
        refine wpAnyH_ready (rs := [4]) (by kernel_rfl) (by simp) ?_
        refine AllReadyH.cons rfl (fun K hK => ?_) AllReadyH.nil
        go_simp
        refine hK.out _ _ ⟨bkeep ((Below.refl _ _).alloc (Nat.le_refl _) _) hHeld.1, bkeep ((Below.refl _ _).alloc (Nat.le_refl _) _) hHeld.2.1, bkeep ((Below.refl _ _).alloc (Nat.le_refl _) _) hHeld.2.2.1, bkeep ((Below.refl _ _).alloc (Nat.le_refl _) _) hHeld.2.2.2.1, bkeep ((Below.refl _ _).alloc (Nat.le_refl _) _) hHeld.2.2.2.2.1, bkeep ((Below.refl _ _).alloc (Nat.le_refl _) _) hHeld.2.2.2.2.2.1, bkeep ((Below.refl _ _).alloc (Nat.le_refl _) _) hHeld.2.2.2.2.2.2.1, bkeep ((Below.refl _ _).alloc (Nat.le_refl _) _) hHeld.2.2.2.2.2.2.2.1, bkeep ((Below.refl _ _).alloc (Nat.le_refl _) _) hHeld.2.2.2.2.2.2.2.2⟩ (fun hHeld => ?_)
        clear hK K
        try simp only [Act.put]
        refine wpAnyH_done (by kernel_rfl) ?_ _
        simp only [Exit.then]
        refine hK0 _ _ ?_
        clear hK0 K0 hHeld
        try simp only [Act.put]
        go_wp2_with fail
        go_meet
        exact ⟨_, rfl, (S3.out.call (bdrew hbk)).push ⟨q, ks, 0, b1, b2, d1, ku, v, z⟩⟩
      · go_simp
        have hbn : Below w2.heap.size w2 ((w2.alloc (.cells #[.int .i64 0, .string ⟨#[]⟩, .int .i64 0, .bool false, .bool false, .int .i64 0, .int .i64 0, .int .i64 0, .int .i64 0] 24)).drew) := ((Below.refl _ _).alloc (Nat.le_refl _) _).drew
        refine hK.out _ _ ⟨bkeep ((Below.refl _ _).alloc (Nat.le_refl _) _) hHeld.1, bkeep ((Below.refl _ _).alloc (Nat.le_refl _) _) hHeld.2.1, bkeep ((Below.refl _ _).alloc (Nat.le_refl _) _) hHeld.2.2.1, bkeep ((Below.refl _ _).alloc (Nat.le_refl _) _) hHeld.2.2.2.1, bkeep ((Below.refl _ _).alloc (Nat.le_refl _) _) hHeld.2.2.2.2.1, bkeep ((Below.refl _ _).alloc (Nat.le_refl _) _) hHeld.2.2.2.2.2.1, bkeep ((Below.refl _ _).alloc (Nat.le_refl _) _) hHeld.2.2.2.2.2.2.1, bkeep ((Below.refl _ _).alloc (Nat.le_refl _) _) hHeld.2.2.2.2.2.2.2.1, bkeep ((Below.refl _ _).alloc (Nat.le_refl _) _) hHeld.2.2.2.2.2.2.2.2⟩ (fun hHeld => ?_)
        clear hK K
        try simp only [Act.put]
        refine wpAnyH_ready (rs := [3]) (by kernel_rfl) (by simp) ?_
        refine AllReadyH.cons rfl (fun K hK => ?_) AllReadyH.nil
        go_simp
        refine (HKD.out _).mono ?_
        rintro e wk ⟨rfl, hbk⟩
        have hbb := btrans hbn hbk
        have kN : wk.heap[w2.heap.size]? = some (.cells #[.int .i64 0, .string ⟨#[]⟩, .int .i64 0, .bool false, .bool false, .int .i64 0, .int .i64 0, .int .i64 0, .int .i64 0] 24 (0, 0)) := (hbk.block w2.heap.size (by simp)).trans (heap_alloc_new w2 _)
        refine hK.out _ _ ⟨bkeep hbk hHeld.1, bkeep hbk hHeld.2.1, bkeep hbk hHeld.2.2.1, bkeep hbk hHeld.2.2.2.1, bkeep hbk hHeld.2.2.2.2.1, bkeep hbk hHeld.2.2.2.2.2.1, bkeep hbk hHeld.2.2.2.2.2.2.1, bkeep hbk hHeld.2.2.2.2.2.2.2.1, bkeep hbk hHeld.2.2.2.2.2.2.2.2⟩ (fun hHeld => ?_)
        clear hK K
        try simp only [Act.put]
        refine wpAnyH_done (by kernel_rfl) ?_ _
        simp only [Exit.then]
        refine hK0 _ _ ?_
        clear hK0 K0 hHeld
        try simp only [Act.put]
        obtain ⟨W6, hW6, hst6⟩ := S3.out.fill hbb kN ⟨q, ks, 0, b1, b2, d1, ku, v, z⟩
        simp only [cxCells, setsFrom, Nat.reduceAdd] at hW6
        have HST6 := Lib.hid hst6
        have x0 := block_cell kN 0 _ rfl
        have x1 := block_cell kN 1 _ rfl
        have x2 := block_cell kN 2 _ rfl
        have x3 := block_cell kN 3 _ rfl
        have x4 := block_cell kN 4 _ rfl
        have x5 := block_cell kN 5 _ rfl
        have x6 := block_cell kN 6 _ rfl
        have x7 := block_cell kN 7 _ rfl
        have x8 := block_cell kN 8 _ rfl
        have f0 := block_free kN 0
        have f1 := block_free kN 1
        have f2 := block_free kN 2
        have f3 := block_free kN 3
        have f4 := block_free kN 4
        have f5 := block_free kN 5
        have f6 := block_free kN 6
        have f7 := block_free kN 7
        have f8 := block_free kN 8
        clear kN hst6 hbb hbk hbn
        go_wp2_with fail
        go_meet
        exact ⟨_, rfl, HST6.out⟩
    · go_simp
      have hbn : Below w2.heap.size w2 ((w2.alloc (.cells #[.int .i64 0, .string ⟨#[]⟩, .int .i64 0, .bool false, .bool false, .int .i64 0, .int .i64 0, .int .i64 0, .int .i64 0] 24)).drew) := ((Below.refl _ _).alloc (Nat.le_refl _) _).drew
      refine hK.out _ _ ⟨bkeep ((Below.refl _ _).alloc (Nat.le_refl _) _) hHeld.1, bkeep ((Below.refl _ _).alloc (Nat.le_refl _) _) hHeld.2.1, bkeep ((Below.refl _ _).alloc (Nat.le_refl _) _) hHeld.2.2.1, bkeep ((Below.refl _ _).alloc (Nat.le_refl _) _) hHeld.2.2.2.1, bkeep ((Below.refl _ _).alloc (Nat.le_refl _) _) hHeld.2.2.2.2.1, bkeep ((Below.refl _ _).alloc (Nat.le_refl _) _) hHeld.2.2.2.2.2.1, bkeep ((Below.refl _ _).alloc (Nat.le_refl _) _) hHeld.2.2.2.2.2.2.1, bkeep ((Below.refl _ _).alloc (Nat.le_refl _) _) hHeld.2.2.2.2.2.2.2.1, bkeep ((Below.refl _ _).alloc (Nat.le_refl _) _) hHeld.2.2.2.2.2.2.2.2⟩ (fun hHeld => ?_)
      clear hK K
      try simp only [Act.put]
      refine wpAnyH_ready (rs := [2]) (by kernel_rfl) (by simp) ?_
      refine AllReadyH.cons rfl (fun K hK => ?_) AllReadyH.nil
      go_simp
      refine (HI4.out _).mono ?_
      rintro e wq ⟨rfl, rfl⟩
      refine hK.out _ _ hHeld (fun hHeld => ?_)
      clear hK K
      try simp only [Act.put]
      refine wpAnyH_ready (rs := [3]) (by kernel_rfl) (by simp) ?_
      refine AllReadyH.cons rfl (fun K hK => ?_) AllReadyH.nil
      go_simp
      refine (HKD.out _).mono ?_
      rintro e wk ⟨rfl, hbk⟩
      have hbb := btrans hbn hbk
      have kN : wk.heap[w2.heap.size]? = some (.cells #[.int .i64 0, .string ⟨#[]⟩, .int .i64 0, .bool false, .bool false, .int .i64 0, .int .i64 0, .int .i64 0, .int .i64 0] 24 (0, 0)) := (hbk.block w2.heap.size (by simp)).trans (heap_alloc_new w2 _)
      refine hK.out _ _ ⟨bkeep hbk hHeld.1, bkeep hbk hHeld.2.1, bkeep hbk hHeld.2.2.1, bkeep hbk hHeld.2.2.2.1, bkeep hbk hHeld.2.2.2.2.1, bkeep hbk hHeld.2.2.2.2.2.1, bkeep hbk hHeld.2.2.2.2.2.2.1, bkeep hbk hHeld.2.2.2.2.2.2.2.1, bkeep hbk hHeld.2.2.2.2.2.2.2.2⟩ (fun hHeld => ?_)
      clear hK K
      try simp only [Act.put]
      refine wpAnyH_done (by kernel_rfl) ?_ _
      simp only [Exit.then]
      refine hK0 _ _ ?_
      clear hK0 K0 hHeld
      try simp only [Act.put]
      obtain ⟨W6, hW6, hst6⟩ := S3.out.fill hbb kN ⟨q, ks, 0, b1, b2, d1, ku, v, z⟩
      simp only [cxCells, setsFrom, Nat.reduceAdd] at hW6
      have HST6 := Lib.hid hst6
      have x0 := block_cell kN 0 _ rfl
      have x1 := block_cell kN 1 _ rfl
      have x2 := block_cell kN 2 _ rfl
      have x3 := block_cell kN 3 _ rfl
      have x4 := block_cell kN 4 _ rfl
      have x5 := block_cell kN 5 _ rfl
      have x6 := block_cell kN 6 _ rfl
      have x7 := block_cell kN 7 _ rfl
      have x8 := block_cell kN 8 _ rfl
      have f0 := block_free kN 0
      have f1 := block_free kN 1
      have f2 := block_free kN 2
      have f3 := block_free kN 3
      have f4 := block_free kN 4
      have f5 := block_free kN 5
      have f6 := block_free kN 6
      have f7 := block_free kN 7
      have f8 := block_free kN 8
      clear kN hst6 hbb hbk hbn
      go_wp2_with fail
      go_meet
      exact ⟨_, rfl, HST6.out⟩
  case rest =>
    obtain ⟨B1, rfl, hst⟩ := hcut
    have S4 := Lib.hid hst
    clear hst S3
    clear r0 r1 r2 r3 r4 r5 r6 r7 r8
    have m := S4.out.boxes (B1, ⟨q, ks, 0, b1, b2, d1, ku, v, z⟩) (by simp)
    dsimp only [cxCells] at m
    have r0 := block_cell m 0 _ rfl
    have r1 := block_cell m 1 _ rfl
    have r2 := block_cell m 2 _ rfl
    have r3 := block_cell m 3 _ rfl
    have r4 := block_cell m 4 _ rfl
    have r5 := block_cell m 5 _ rfl
    have r6 := block_cell m 6 _ rfl
    have r7 := block_cell m 7 _ rfl
    have r8 := block_cell m 8 _ rfl
    clear m
    go_wp2_with fail
    go_cut [12] from 24 to 28 (fun vv wx => ∃ B, vv = .pointer (some ⟨B, 0, none⟩) ∧ St w wx ((B, ⟨q, ks, 1 + x, b1, b2, d1, 0, v, z⟩) :: [(B1, ⟨q, ks, 0, b1, b2, d1, ku, v, z⟩), (w1.heap.size, ⟨q, s, tr, b1, b2, d, u, v, z⟩)]))
    case first =>
      refine wp_region_split_held 6 (fun w' => w'.cell? ⟨B1, 0, none⟩ = some (.int .i64 q) ∧ w'.cell? ⟨B1, 1, none⟩ = some (.string ks) ∧ w'.cell? ⟨B1, 2, none⟩ = some (.int .i64 0) ∧ w'.cell? ⟨B1, 3, none⟩ = some (.bool b1) ∧ w'.cell? ⟨B1, 4, none⟩ = some (.bool b2) ∧ w'.cell? ⟨B1, 5, none⟩ = some (.int .i64 d1) ∧ w'.cell? ⟨B1, 6, none⟩ = some (.int .i64 ku) ∧ w'.cell? ⟨B1, 7, none⟩ = some (.int .i64 v) ∧ w'.cell? ⟨B1, 8, none⟩ = some (.int .i64 z)) (by kernel_rfl) (by kernel_rfl) ⟨r0, r1, r2, r3, r4, r5, r6, r7, r8⟩ (fun K0 hK0 hHeld => ?_)
      simp only [List.take_succ_cons, List.take_zero]
      refine wpAnyH_take (i := 0) (v := ?_) rfl (by kernel_rfl) (by kernel_rfl) (by kernel_rfl) (fun _ _ _ h => h) (Or.inl ⟨by kernel_rfl, ?_⟩) (by assumption) ?_
      rotate_left
      · (intro w hSw; (try dsimp only at hSw); go_simp; (try rw [if_neg (by (try simp only [ByteArray.size_append]); omega)]); (try with_reducible rfl))
      try simp only [Act.put]
      refine wpAnyH_take (i := 1) (v := ?_) rfl (by kernel_rfl) (by kernel_rfl) (by kernel_rfl) (fun _ _ _ h => h) (Or.inl ⟨by kernel_rfl, ?_⟩) (by assumption) ?_
      rotate_left
      · (intro w hSw; (try dsimp only at hSw); go_simp; (try rw [if_neg (by (try simp only [ByteArray.size_append]); omega)]); (try with_reducible rfl))
      try simp only [Act.put]
      refine wpAnyH_ready (rs := [2, 5]) (by kernel_rfl) (by simp) ?_
      refine AllReadyH.cons rfl (fun K hK => ?_) (AllReadyH.cons rfl (fun K hK => ?_) AllReadyH.nil)
      · go_simp
        refine (HA8.out _).mono ?_
        rintro e wq ⟨rfl, rfl⟩
        refine hK.out _ _ hHeld (fun hHeld => ?_)
        clear hK K
        try simp only [Act.put]
        refine wpAnyH_take (i := 3) (v := ?_) rfl (by kernel_rfl) (by kernel_rfl) (by kernel_rfl) (fun _ _ _ h => h) (Or.inl ⟨by kernel_rfl, ?_⟩) (by assumption) ?_
        rotate_left
        · (intro w hSw; (try dsimp only at hSw); go_simp; (try rw [if_neg (by (try simp only [ByteArray.size_append]); omega)]); (try with_reducible rfl))
        try simp only [Act.put]
        refine wpAnyH_ready (rs := [4, 5]) (by kernel_rfl) (by simp) ?_
        refine AllReadyH.cons rfl (fun K hK => ?_) (AllReadyH.cons rfl (fun K hK => ?_) AllReadyH.nil)
        · go_simp
          refine (HTRY.out _ _).mono ?_
          rintro e wk ⟨rfl, hbk⟩
          refine hK.out _ _ ⟨bkeep hbk hHeld.1, bkeep hbk hHeld.2.1, bkeep hbk hHeld.2.2.1, bkeep hbk hHeld.2.2.2.1, bkeep hbk hHeld.2.2.2.2.1, bkeep hbk hHeld.2.2.2.2.2.1, bkeep hbk hHeld.2.2.2.2.2.2.1, bkeep hbk hHeld.2.2.2.2.2.2.2.1, bkeep hbk hHeld.2.2.2.2.2.2.2.2⟩ (fun hHeld => ?_)
          clear hK K
          try simp only [Act.put]
          refine wpAnyH_ready (rs := [5]) (by kernel_rfl) (by simp) ?_
          refine AllReadyH.cons rfl (fun K hK => ?_) AllReadyH.nil
          go_simp
          refine hK.out _ _ ⟨bkeep ((Below.refl _ _).alloc (Nat.le_refl _) _) hHeld.1, bkeep ((Below.refl _ _).alloc (Nat.le_refl _) _) hHeld.2.1, bkeep ((Below.refl _ _).alloc (Nat.le_refl _) _) hHeld.2.2.1, bkeep ((Below.refl _ _).alloc (Nat.le_refl _) _) hHeld.2.2.2.1, bkeep ((Below.refl _ _).alloc (Nat.le_refl _) _) hHeld.2.2.2.2.1, bkeep ((Below.refl _ _).alloc (Nat.le_refl _) _) hHeld.2.2.2.2.2.1, bkeep ((Below.refl _ _).alloc (Nat.le_refl _) _) hHeld.2.2.2.2.2.2.1, bkeep ((Below.refl _ _).alloc (Nat.le_refl _) _) hHeld.2.2.2.2.2.2.2.1, bkeep ((Below.refl _ _).alloc (Nat.le_refl _) _) hHeld.2.2.2.2.2.2.2.2⟩ (fun hHeld => ?_)
          clear hK K
          try simp only [Act.put]
          refine wpAnyH_done (by kernel_rfl) ?_ _
          simp only [Exit.then]
          refine hK0 _ _ ?_
          clear hK0 K0 hHeld
          try simp only [Act.put]
          go_wp2_with fail
          go_meet
          exact ⟨_, rfl, (S4.out.call (bdrew hbk)).push ⟨q, ks, 1 + x, b1, b2, d1, 0, v, z⟩⟩
        · go_simp
          have hbn : Below wc.heap.size wc ((wc.alloc (.cells #[.int .i64 0, .string ⟨#[]⟩, .int .i64 0, .bool false, .bool false, .int .i64 0, .int .i64 0, .int .i64 0, .int .i64 0] 24)).drew) := ((Below.refl _ _).alloc (Nat.le_refl _) _).drew
          refine hK.out _ _ ⟨bkeep ((Below.refl _ _).alloc (Nat.le_refl _) _) hHeld.1, bkeep ((Below.refl _ _).alloc (Nat.le_refl _) _) hHeld.2.1, bkeep ((Below.refl _ _).alloc (Nat.le_refl _) _) hHeld.2.2.1, bkeep ((Below.refl _ _).alloc (Nat.le_refl _) _) hHeld.2.2.2.1, bkeep ((Below.refl _ _).alloc (Nat.le_refl _) _) hHeld.2.2.2.2.1, bkeep ((Below.refl _ _).alloc (Nat.le_refl _) _) hHeld.2.2.2.2.2.1, bkeep ((Below.refl _ _).alloc (Nat.le_refl _) _) hHeld.2.2.2.2.2.2.1, bkeep ((Below.refl _ _).alloc (Nat.le_refl _) _) hHeld.2.2.2.2.2.2.2.1, bkeep ((Below.refl _ _).alloc (Nat.le_refl _) _) hHeld.2.2.2.2.2.2.2.2⟩ (fun hHeld => ?_)
          clear hK K
          try simp only [Act.put]
          refine wpAnyH_ready (rs := [4]) (by kernel_rfl) (by simp) ?_
          refine AllReadyH.cons rfl (fun K hK => ?_) AllReadyH.nil
          go_simp
          refine (HTRY.out _ _).mono ?_
          rintro e wk ⟨rfl, hbk⟩
          have hbb := btrans hbn hbk
          have kN : wk.heap[wc.heap.size]? = some (.cells #[.int .i64 0, .string ⟨#[]⟩, .int .i64 0, .bool false, .bool false, .int .i64 0, .int .i64 0, .int .i64 0, .int .i64 0] 24 (0, 0)) := (hbk.block wc.heap.size (by simp)).trans (heap_alloc_new wc _)
          refine hK.out _ _ ⟨bkeep hbk hHeld.1, bkeep hbk hHeld.2.1, bkeep hbk hHeld.2.2.1, bkeep hbk hHeld.2.2.2.1, bkeep hbk hHeld.2.2.2.2.1, bkeep hbk hHeld.2.2.2.2.2.1, bkeep hbk hHeld.2.2.2.2.2.2.1, bkeep hbk hHeld.2.2.2.2.2.2.2.1, bkeep hbk hHeld.2.2.2.2.2.2.2.2⟩ (fun hHeld => ?_)
          clear hK K
          try simp only [Act.put]
          refine wpAnyH_done (by kernel_rfl) ?_ _
          simp only [Exit.then]
          refine hK0 _ _ ?_
          clear hK0 K0 hHeld
          try simp only [Act.put]
          obtain ⟨W6, hW6, hst6⟩ := S4.out.fill hbb kN ⟨q, ks, 1 + x, b1, b2, d1, 0, v, z⟩
          simp only [cxCells, setsFrom, Nat.reduceAdd] at hW6
          have HST6 := Lib.hid hst6
          have x0 := block_cell kN 0 _ rfl
          have x1 := block_cell kN 1 _ rfl
          have x2 := block_cell kN 2 _ rfl
          have x3 := block_cell kN 3 _ rfl
          have x4 := block_cell kN 4 _ rfl
          have x5 := block_cell kN 5 _ rfl
          have x6 := block_cell kN 6 _ rfl
          have x7 := block_cell kN 7 _ rfl
          have x8 := block_cell kN 8 _ rfl
          have f0 := block_free kN 0
          have f1 := block_free kN 1
          have f2 := block_free kN 2
          have f3 := block_free kN 3
          have f4 := block_free kN 4
          have f5 := block_free kN 5
          have f6 := block_free kN 6
          have f7 := block_free kN 7
          have f8 := block_free kN 8
          clear kN hst6 hbb hbk hbn
          go_wp2_with fail
          go_meet
          exact ⟨_, rfl, HST6.out⟩
      · go_simp
        have hbn : Below wc.heap.size wc ((wc.alloc (.cells #[.int .i64 0, .string ⟨#[]⟩, .int .i64 0, .bool false, .bool false, .int .i64 0, .int .i64 0, .int .i64 0, .int .i64 0] 24)).drew) := ((Below.refl _ _).alloc (Nat.le_refl _) _).drew
        refine hK.out _ _ ⟨bkeep ((Below.refl _ _).alloc (Nat.le_refl _) _) hHeld.1, bkeep ((Below.refl _ _).alloc (Nat.le_refl _) _) hHeld.2.1, bkeep ((Below.refl _ _).alloc (Nat.le_refl _) _) hHeld.2.2.1, bkeep ((Below.refl _ _).alloc (Nat.le_refl _) _) hHeld.2.2.2.1, bkeep ((Below.refl _ _).alloc (Nat.le_refl _) _) hHeld.2.2.2.2.1, bkeep ((Below.refl _ _).alloc (Nat.le_refl _) _) hHeld.2.2.2.2.2.1, bkeep ((Below.refl _ _).alloc (Nat.le_refl _) _) hHeld.2.2.2.2.2.2.1, bkeep ((Below.refl _ _).alloc (Nat.le_refl _) _) hHeld.2.2.2.2.2.2.2.1, bkeep ((Below.refl _ _).alloc (Nat.le_refl _) _) hHeld.2.2.2.2.2.2.2.2⟩ (fun hHeld => ?_)
        clear hK K
        try simp only [Act.put]
        refine wpAnyH_ready (rs := [2]) (by kernel_rfl) (by simp) ?_
        refine AllReadyH.cons rfl (fun K hK => ?_) AllReadyH.nil
        go_simp
        refine (HA8.out _).mono ?_
        rintro e wq ⟨rfl, rfl⟩
        refine hK.out _ _ hHeld (fun hHeld => ?_)
        clear hK K
        try simp only [Act.put]
        refine wpAnyH_take (i := 3) (v := ?_) rfl (by kernel_rfl) (by kernel_rfl) (by kernel_rfl) (fun _ _ _ h => h) (Or.inl ⟨by kernel_rfl, ?_⟩) (by assumption) ?_
        rotate_left
        · (intro w hSw; (try dsimp only at hSw); go_simp; (try rw [if_neg (by (try simp only [ByteArray.size_append]); omega)]); (try with_reducible rfl))
        try simp only [Act.put]
        refine wpAnyH_ready (rs := [4]) (by kernel_rfl) (by simp) ?_
        refine AllReadyH.cons rfl (fun K hK => ?_) AllReadyH.nil
        go_simp
        refine (HTRY.out _ _).mono ?_
        rintro e wk ⟨rfl, hbk⟩
        have hbb := btrans hbn hbk
        have kN : wk.heap[wc.heap.size]? = some (.cells #[.int .i64 0, .string ⟨#[]⟩, .int .i64 0, .bool false, .bool false, .int .i64 0, .int .i64 0, .int .i64 0, .int .i64 0] 24 (0, 0)) := (hbk.block wc.heap.size (by simp)).trans (heap_alloc_new wc _)
        refine hK.out _ _ ⟨bkeep hbk hHeld.1, bkeep hbk hHeld.2.1, bkeep hbk hHeld.2.2.1, bkeep hbk hHeld.2.2.2.1, bkeep hbk hHeld.2.2.2.2.1, bkeep hbk hHeld.2.2.2.2.2.1, bkeep hbk hHeld.2.2.2.2.2.2.1, bkeep hbk hHeld.2.2.2.2.2.2.2.1, bkeep hbk hHeld.2.2.2.2.2.2.2.2⟩ (fun hHeld => ?_)
        clear hK K
        try simp only [Act.put]
        refine wpAnyH_done (by kernel_rfl) ?_ _
        simp only [Exit.then]
        refine hK0 _ _ ?_
        clear hK0 K0 hHeld
        try simp only [Act.put]
        obtain ⟨W6, hW6, hst6⟩ := S4.out.fill hbb kN ⟨q, ks, 1 + x, b1, b2, d1, 0, v, z⟩
        simp only [cxCells, setsFrom, Nat.reduceAdd] at hW6
        have HST6 := Lib.hid hst6
        have x0 := block_cell kN 0 _ rfl
        have x1 := block_cell kN 1 _ rfl
        have x2 := block_cell kN 2 _ rfl
        have x3 := block_cell kN 3 _ rfl
        have x4 := block_cell kN 4 _ rfl
        have x5 := block_cell kN 5 _ rfl
        have x6 := block_cell kN 6 _ rfl
        have x7 := block_cell kN 7 _ rfl
        have x8 := block_cell kN 8 _ rfl
        have f0 := block_free kN 0
        have f1 := block_free kN 1
        have f2 := block_free kN 2
        have f3 := block_free kN 3
        have f4 := block_free kN 4
        have f5 := block_free kN 5
        have f6 := block_free kN 6
        have f7 := block_free kN 7
        have f8 := block_free kN 8
        clear kN hst6 hbb hbk hbn
        go_wp2_with fail
        go_meet
        exact ⟨_, rfl, HST6.out⟩
    case rest =>
      obtain ⟨B2, rfl, hst⟩ := hcut
      have S5 := Lib.hid hst
      clear hst S4
      clear r0 r1 r2 r3 r4 r5 r6 r7 r8
      have m := S5.out.boxes (B1, ⟨q, ks, 0, b1, b2, d1, ku, v, z⟩) (by simp)
      dsimp only [cxCells] at m
      have r0 := block_cell m 0 _ rfl
      have r1 := block_cell m 1 _ rfl
      have r2 := block_cell m 2 _ rfl
      have r3 := block_cell m 3 _ rfl
      have r4 := block_cell m 4 _ rfl
      have r5 := block_cell m 5 _ rfl
      have r6 := block_cell m 6 _ rfl
      have r7 := block_cell m 7 _ rfl
      have r8 := block_cell m 8 _ rfl
      clear m
      go_wp2_with fail
      refine (HCO.out _).mono ?_
      rintro e w5 ⟨rfl, hb5⟩
      have S6 := Lib.hid (S5.out.call hb5)
      clear hb5 S5
      go_wp2_with fail
      refine (HTP.out _).mono ?_
      rintro e w6 ⟨rfl, hb6⟩
      have S7 := Lib.hid ((S6.out.call hb6).push ⟨q, ps, 1, b1, true, d1, 0, v, z⟩)
      dsimp only [cxCells] at S7
      clear hb6 S6
      clear r0 r1 r2 r3 r4 r5 r6 r7 r8
      have m := S7.out.boxes (B1, ⟨q, ks, 0, b1, b2, d1, ku, v, z⟩) (by simp)
      dsimp only [cxCells] at m
      have r0 := block_cell m 0 _ rfl
      have r1 := block_cell m 1 _ rfl
      have r2 := block_cell m 2 _ rfl
      have r3 := block_cell m 3 _ rfl
      have r4 := block_cell m 4 _ rfl
      have r5 := block_cell m 5 _ rfl
      have r6 := block_cell m 6 _ rfl
      have r7 := block_cell m 7 _ rfl
      have r8 := block_cell m 8 _ rfl
      clear m
      have m := S7.out.boxes (B2, ⟨q, ks, 1 + x, b1, b2, d1, 0, v, z⟩) (by simp)
      dsimp only [cxCells] at m
      have t0 := block_cell m 0 _ rfl
      have t1 := block_cell m 1 _ rfl
      have t2 := block_cell m 2 _ rfl
      have t3 := block_cell m 3 _ rfl
      have t4 := block_cell m 4 _ rfl
      have t5 := block_cell m 5 _ rfl
      have t6 := block_cell m 6 _ rfl
      have t7 := block_cell m 7 _ rfl
      have t8 := block_cell m 8 _ rfl
      clear m
      have m := S7.out.boxes (w6.heap.size, ⟨q, ps, 1, b1, true, d1, 0, v, z⟩) (by simp)
      dsimp only [cxCells] at m
      have p0 := block_cell m 0 _ rfl
      have p1 := block_cell m 1 _ rfl
      have p2 := block_cell m 2 _ rfl
      have p3 := block_cell m 3 _ rfl
      have p4 := block_cell m 4 _ rfl
      have p5 := block_cell m 5 _ rfl
      have p6 := block_cell m 6 _ rfl
      have p7 := block_cell m 7 _ rfl
      have p8 := block_cell m 8 _ rfl
      clear m
      go_wp2_with fail
      refine (HSK.out _).mono ?_
      rintro e w7 ⟨rfl, hb⟩
      have S8 := Lib.hid (S7.out.call hb)
      clear hb S7
      clear r0 r1 r2 r3 r4 r5 r6 r7 r8
      clear t0 t1 t2 t3 t4 t5 t6 t7 t8
      clear p0 p1 p2 p3 p4 p5 p6 p7 p8
      have m := S8.out.boxes (B2, ⟨q, ks, 1 + x, b1, b2, d1, 0, v, z⟩) (by simp)
      dsimp only [cxCells] at m
      have t0 := block_cell m 0 _ rfl
      have t1 := block_cell m 1 _ rfl
      have t2 := block_cell m 2 _ rfl
      have t3 := block_cell m 3 _ rfl
      have t4 := block_cell m 4 _ rfl
      have t5 := block_cell m 5 _ rfl
      have t6 := block_cell m 6 _ rfl
      have t7 := block_cell m 7 _ rfl
      have t8 := block_cell m 8 _ rfl
      clear m
      have m := S8.out.boxes (w6.heap.size, ⟨q, ps, 1, b1, true, d1, 0, v, z⟩) (by simp)
      dsimp only [cxCells] at m
      have p0 := block_cell m 0 _ rfl
      have p1 := block_cell m 1 _ rfl
      have p2 := block_cell m 2 _ rfl
      have p3 := block_cell m 3 _ rfl
      have p4 := block_cell m 4 _ rfl
      have p5 := block_cell m 5 _ rfl
      have p6 := block_cell m 6 _ rfl
      have p7 := block_cell m 7 _ rfl
      have p8 := block_cell m 8 _ rfl
      clear m
      go_wp2_with fail
      refine (HUK.out _).mono ?_
      rintro e wz1 ⟨rfl, rfl⟩
      go_wp2_with fail
      refine (HST.out _).mono ?_
      rintro e w8 ⟨rfl, hb⟩
      have S9 := Lib.hid (S8.out.call hb)
      clear hb S8
      clear t0 t1 t2 t3 t4 t5 t6 t7 t8
      clear p0 p1 p2 p3 p4 p5 p6 p7 p8
      have m := S9.out.boxes (B2, ⟨q, ks, 1 + x, b1, b2, d1, 0, v, z⟩) (by simp)
      dsimp only [cxCells] at m
      have t0 := block_cell m 0 _ rfl
      have t1 := block_cell m 1 _ rfl
      have t2 := block_cell m 2 _ rfl
      have t3 := block_cell m 3 _ rfl
      have t4 := block_cell m 4 _ rfl
      have t5 := block_cell m 5 _ rfl
      have t6 := block_cell m 6 _ rfl
      have t7 := block_cell m 7 _ rfl
      have t8 := block_cell m 8 _ rfl
      clear m
      have m := S9.out.boxes (w6.heap.size, ⟨q, ps, 1, b1, true, d1, 0, v, z⟩) (by simp)
      dsimp only [cxCells] at m
      have p0 := block_cell m 0 _ rfl
      have p1 := block_cell m 1 _ rfl
      have p2 := block_cell m 2 _ rfl
      have p3 := block_cell m 3 _ rfl
      have p4 := block_cell m 4 _ rfl
      have p5 := block_cell m 5 _ rfl
      have p6 := block_cell m 6 _ rfl
      have p7 := block_cell m 7 _ rfl
      have p8 := block_cell m 8 _ rfl
      clear m
      go_wp2_with fail
      refine (HUT.out _).mono ?_
      rintro e wz2 ⟨rfl, rfl⟩
      go_wp2_with fail
      refine (HSP2.out _).mono ?_
      rintro e w9 ⟨rfl, hb⟩
      have S10 := Lib.hid (S9.out.call hb)
      clear hb S9
      clear t0 t1 t2 t3 t4 t5 t6 t7 t8
      clear p0 p1 p2 p3 p4 p5 p6 p7 p8
      have m := S10.out.boxes (B2, ⟨q, ks, 1 + x, b1, b2, d1, 0, v, z⟩) (by simp)
      dsimp only [cxCells] at m
      have t0 := block_cell m 0 _ rfl
      have t1 := block_cell m 1 _ rfl
      have t2 := block_cell m 2 _ rfl
      have t3 := block_cell m 3 _ rfl
      have t4 := block_cell m 4 _ rfl
      have t5 := block_cell m 5 _ rfl
      have t6 := block_cell m 6 _ rfl
      have t7 := block_cell m 7 _ rfl
      have t8 := block_cell m 8 _ rfl
      clear m
      go_wp2_with fail
      refine (HUP.out _).mono ?_
      rintro e wz3 ⟨rfl, rfl⟩
      go_wp2_with fail
      refine (HST.out _).mono ?_
      rintro e wa ⟨rfl, hb⟩
      have S11 := Lib.hid (S10.out.call hb)
      clear hb S10
      clear t0 t1 t2 t3 t4 t5 t6 t7 t8
      have m := S11.out.boxes (B1, ⟨q, ks, 0, b1, b2, d1, ku, v, z⟩) (by simp)
      dsimp only [cxCells] at m
      have r0 := block_cell m 0 _ rfl
      have r1 := block_cell m 1 _ rfl
      have r2 := block_cell m 2 _ rfl
      have r3 := block_cell m 3 _ rfl
      have r4 := block_cell m 4 _ rfl
      have r5 := block_cell m 5 _ rfl
      have r6 := block_cell m 6 _ rfl
      have r7 := block_cell m 7 _ rfl
      have r8 := block_cell m 8 _ rfl
      clear m
      go_wp2_with fail
      refine (HDT.out _).mono ?_
      rintro e wz4 ⟨rfl, rfl⟩
      go_wp2_with fail
      refine (HDN.out _).mono ?_
      rintro e wz5 ⟨rfl, rfl⟩
      go_wp2_with fail
      go_cut [14] from 60 to 64 (fun vv wx => ∃ B, vv = .pointer (some ⟨B, 0, none⟩) ∧ St w wx ((B, ⟨q, ks, 2 + x, b1, b2, d1, 0, v, z⟩) :: [(w6.heap.size, ⟨q, ps, 1, b1, true, d1, 0, v, z⟩), (B2, ⟨q, ks, 1 + x, b1, b2, d1, 0, v, z⟩), (B1, ⟨q, ks, 0, b1, b2, d1, ku, v, z⟩), (w1.heap.size, ⟨q, s, tr, b1, b2, d, u, v, z⟩)]))
      case first =>
        refine wp_region_split_held 6 (fun w' => w'.cell? ⟨B1, 0, none⟩ = some (.int .i64 q) ∧ w'.cell? ⟨B1, 1, none⟩ = some (.string ks) ∧ w'.cell? ⟨B1, 2, none⟩ = some (.int .i64 0) ∧ w'.cell? ⟨B1, 3, none⟩ = some (.bool b1) ∧ w'.cell? ⟨B1, 4, none⟩ = some (.bool b2) ∧ w'.cell? ⟨B1, 5, none⟩ = some (.int .i64 d1) ∧ w'.cell? ⟨B1, 6, none⟩ = some (.int .i64 ku) ∧ w'.cell? ⟨B1, 7, none⟩ = some (.int .i64 v) ∧ w'.cell? ⟨B1, 8, none⟩ = some (.int .i64 z)) (by kernel_rfl) (by kernel_rfl) ⟨r0, r1, r2, r3, r4, r5, r6, r7, r8⟩ (fun K0 hK0 hHeld => ?_)
        simp only [List.take_succ_cons, List.take_zero]
        refine wpAnyH_take (i := 0) (v := ?_) rfl (by kernel_rfl) (by kernel_rfl) (by kernel_rfl) (fun _ _ _ h => h) (Or.inl ⟨by kernel_rfl, ?_⟩) (by assumption) ?_
        rotate_left
        · (intro w hSw; (try dsimp only at hSw); go_simp; (try rw [if_neg (by (try simp only [ByteArray.size_append]); omega)]); (try with_reducible rfl))
        try simp only [Act.put]
        refine wpAnyH_take (i := 1) (v := ?_) rfl (by kernel_rfl) (by kernel_rfl) (by kernel_rfl) (fun _ _ _ h => h) (Or.inl ⟨by kernel_rfl, ?_⟩) (by assumption) ?_
        rotate_left
        · (intro w hSw; (try dsimp only at hSw); go_simp; (try rw [if_neg (by (try simp only [ByteArray.size_append]); omega)]); (try with_reducible rfl))
        try simp only [Act.put]
        refine wpAnyH_ready (rs := [2, 5]) (by kernel_rfl) (by simp) ?_
        refine AllReadyH.cons rfl (fun K hK => ?_) (AllReadyH.cons rfl (fun K hK => ?_) AllReadyH.nil)
        · go_simp
          refine (HA8.out _).mono ?_
          rintro e wq ⟨rfl, rfl⟩
          refine hK.out _ _ hHeld (fun hHeld => ?_)
          clear hK K
          try simp only [Act.put]
          refine wpAnyH_take (i := 3) (v := ?_) rfl (by kernel_rfl) (by kernel_rfl) (by kernel_rfl) (fun _ _ _ h => h) (Or.inl ⟨by kernel_rfl, ?_⟩) (by assumption) ?_
          rotate_left
          · (intro w hSw; (try dsimp only at hSw); go_simp; (try rw [if_neg (by (try simp only [ByteArray.size_append]); omega)]); (try with_reducible rfl))
          try simp only [Act.put]
          refine wpAnyH_ready (rs := [4, 5]) (by kernel_rfl) (by simp) ?_
          refine AllReadyH.cons rfl (fun K hK => ?_) (AllReadyH.cons rfl (fun K hK => ?_) AllReadyH.nil)
          · go_simp
            refine (HTRY.out _ _).mono ?_
            rintro e wk ⟨rfl, hbk⟩
            refine hK.out _ _ ⟨bkeep hbk hHeld.1, bkeep hbk hHeld.2.1, bkeep hbk hHeld.2.2.1, bkeep hbk hHeld.2.2.2.1, bkeep hbk hHeld.2.2.2.2.1, bkeep hbk hHeld.2.2.2.2.2.1, bkeep hbk hHeld.2.2.2.2.2.2.1, bkeep hbk hHeld.2.2.2.2.2.2.2.1, bkeep hbk hHeld.2.2.2.2.2.2.2.2⟩ (fun hHeld => ?_)
            clear hK K
            try simp only [Act.put]
            refine wpAnyH_ready (rs := [5]) (by kernel_rfl) (by simp) ?_
            refine AllReadyH.cons rfl (fun K hK => ?_) AllReadyH.nil
            go_simp
            refine hK.out _ _ ⟨bkeep ((Below.refl _ _).alloc (Nat.le_refl _) _) hHeld.1, bkeep ((Below.refl _ _).alloc (Nat.le_refl _) _) hHeld.2.1, bkeep ((Below.refl _ _).alloc (Nat.le_refl _) _) hHeld.2.2.1, bkeep ((Below.refl _ _).alloc (Nat.le_refl _) _) hHeld.2.2.2.1, bkeep ((Below.refl _ _).alloc (Nat.le_refl _) _) hHeld.2.2.2.2.1, bkeep ((Below.refl _ _).alloc (Nat.le_refl _) _) hHeld.2.2.2.2.2.1, bkeep ((Below.refl _ _).alloc (Nat.le_refl _) _) hHeld.2.2.2.2.2.2.1, bkeep ((Below.refl _ _).alloc (Nat.le_refl _) _) hHeld.2.2.2.2.2.2.2.1, bkeep ((Below.refl _ _).alloc (Nat.le_refl _) _) hHeld.2.2.2.2.2.2.2.2⟩ (fun hHeld => ?_)
            clear hK K
            try simp only [Act.put]
            refine wpAnyH_done (by kernel_rfl) ?_ _
            simp only [Exit.then]
            refine hK0 _ _ ?_
            clear hK0 K0 hHeld
            try simp only [Act.put]
            go_wp2_with fail
            go_meet
            exact ⟨_, rfl, (S11.out.call (bdrew hbk)).push ⟨q, ks, 2 + x, b1, b2, d1, 0, v, z⟩⟩
          · go_simp
            have hbn : Below wz5.heap.size wz5 ((wz5.alloc (.cells #[.int .i64 0, .string ⟨#[]⟩, .int .i64 0, .bool false, .bool false, .int .i64 0, .int .i64 0, .int .i64 0, .int .i64 0] 24)).drew) := ((Below.refl _ _).alloc (Nat.le_refl _) _).drew
            refine hK.out _ _ ⟨bkeep ((Below.refl _ _).alloc (Nat.le_refl _) _) hHeld.1, bkeep ((Below.refl _ _).alloc (Nat.le_refl _) _) hHeld.2.1, bkeep ((Below.refl _ _).alloc (Nat.le_refl _) _) hHeld.2.2.1, bkeep ((Below.refl _ _).alloc (Nat.le_refl _) _) hHeld.2.2.2.1, bkeep ((Below.refl _ _).alloc (Nat.le_refl _) _) hHeld.2.2.2.2.1, bkeep ((Below.refl _ _).alloc (Nat.le_refl _) _) hHeld.2.2.2.2.2.1, bkeep ((Below.refl _ _).alloc (Nat.le_refl _) _) hHeld.2.2.2.2.2.2.1, bkeep ((Below.refl _ _).alloc (Nat.le_refl _) _) hHeld.2.2.2.2.2.2.2.1, bkeep ((Below.refl _ _).alloc (Nat.le_refl _) _) hHeld.2.2.2.2.2.2.2.2⟩ (fun hHeld => ?_)
            clear hK K
            try simp only [Act.put]
            refine wpAnyH_ready (rs := [4]) (by kernel_rfl) (by simp) ?_
            refine AllReadyH.cons rfl (fun K hK => ?_) AllReadyH.nil
            go_simp
            refine (HTRY.out _ _).mono ?_
            rintro e wk ⟨rfl, hbk⟩
            have hbb := btrans hbn hbk
            have kN : wk.heap[wz5.heap.size]? = some (.cells #[.int .i64 0, .string ⟨#[]⟩, .int .i64 0, .bool false, .bool false, .int .i64 0, .int .i64 0, .int .i64 0, .int .i64 0] 24 (0, 0)) := (hbk.block wz5.heap.size (by simp)).trans (heap_alloc_new wz5 _)
            refine hK.out _ _ ⟨bkeep hbk hHeld.1, bkeep hbk hHeld.2.1, bkeep hbk hHeld.2.2.1, bkeep hbk hHeld.2.2.2.1, bkeep hbk hHeld.2.2.2.2.1, bkeep hbk hHeld.2.2.2.2.2.1, bkeep hbk hHeld.2.2.2.2.2.2.1, bkeep hbk hHeld.2.2.2.2.2.2.2.1, bkeep hbk hHeld.2.2.2.2.2.2.2.2⟩ (fun hHeld => ?_)
            clear hK K
            try simp only [Act.put]
            refine wpAnyH_done (by kernel_rfl) ?_ _
            simp only [Exit.then]
            refine hK0 _ _ ?_
            clear hK0 K0 hHeld
            try simp only [Act.put]
            obtain ⟨W6, hW6, hst6⟩ := S11.out.fill hbb kN ⟨q, ks, 2 + x, b1, b2, d1, 0, v, z⟩
            simp only [cxCells, setsFrom, Nat.reduceAdd] at hW6
            have HST6 := Lib.hid hst6
            have x0 := block_cell kN 0 _ rfl
            have x1 := block_cell kN 1 _ rfl
            have x2 := block_cell kN 2 _ rfl
            have x3 := block_cell kN 3 _ rfl
            have x4 := block_cell kN 4 _ rfl
            have x5 := block_cell kN 5 _ rfl
            have x6 := block_cell kN 6 _ rfl
            have x7 := block_cell kN 7 _ rfl
            have x8 := block_cell kN 8 _ rfl
            have f0 := block_free kN 0
            have f1 := block_free kN 1
            have f2 := block_free kN 2
            have f3 := block_free kN 3
            have f4 := block_free kN 4
            have f5 := block_free kN 5
            have f6 := block_free kN 6
            have f7 := block_free kN 7
            have f8 := block_free kN 8
            clear kN hst6 hbb hbk hbn
            go_wp2_with fail
            go_meet
            exact ⟨_, rfl, HST6.out⟩
        · go_simp
          have hbn : Below wz5.heap.size wz5 ((wz5.alloc (.cells #[.int .i64 0, .string ⟨#[]⟩, .int .i64 0, .bool false, .bool false, .int .i64 0, .int .i64 0, .int .i64 0, .int .i64 0] 24)).drew) := ((Below.refl _ _).alloc (Nat.le_refl _) _).drew
          refine hK.out _ _ ⟨bkeep ((Below.refl _ _).alloc (Nat.le_refl _) _) hHeld.1, bkeep ((Below.refl _ _).alloc (Nat.le_refl _) _) hHeld.2.1, bkeep ((Below.refl _ _).alloc (Nat.le_refl _) _) hHeld.2.2.1, bkeep ((Below.refl _ _).alloc (Nat.le_refl _) _) hHeld.2.2.2.1, bkeep ((Below.refl _ _).alloc (Nat.le_refl _) _) hHeld.2.2.2.2.1, bkeep ((Below.refl _ _).alloc (Nat.le_refl _) _) hHeld.2.2.2.2.2.1, bkeep ((Below.refl _ _).alloc (Nat.le_refl _) _) hHeld.2.2.2.2.2.2.1, bkeep ((Below.refl _ _).alloc (Nat.le_refl _) _) hHeld.2.2.2.2.2.2.2.1, bkeep ((Below.refl _ _).alloc (Nat.le_refl _) _) hHeld.2.2.2.2.2.2.2.2⟩ (fun hHeld => ?_)
          clear hK K
          try simp only [Act.put]
          refine wpAnyH_ready (rs := [2]) (by kernel_rfl) (by simp) ?_
          refine AllReadyH.cons rfl (fun K hK => ?_) AllReadyH.nil
          go_simp
          refine (HA8.out _).mono ?_
          rintro e wq ⟨rfl, rfl⟩
          refine hK.out _ _ hHeld (fun hHeld => ?_)
          clear hK K
          try simp only [Act.put]
          refine wpAnyH_take (i := 3) (v := ?_) rfl (by kernel_rfl) (by kernel_rfl) (by kernel_rfl) (fun _ _ _ h => h) (Or.inl ⟨by kernel_rfl, ?_⟩) (by assumption) ?_
          rotate_left
          · (intro w hSw; (try dsimp only at hSw); go_simp; (try rw [if_neg (by (try simp only [ByteArray.size_append]); omega)]); (try with_reducible rfl))
          try simp only [Act.put]
          refine wpAnyH_ready (rs := [4]) (by kernel_rfl) (by simp) ?_
          refine AllReadyH.cons rfl (fun K hK => ?_) AllReadyH.nil
          go_simp
          refine (HTRY.out _ _).mono ?_
          rintro e wk ⟨rfl, hbk⟩
          have hbb := btrans hbn hbk
          have kN : wk.heap[wz5.heap.size]? = some (.cells #[.int .i64 0, .string ⟨#[]⟩, .int .i64 0, .bool false, .bool false, .int .i64 0, .int .i64 0, .int .i64 0, .int .i64 0] 24 (0, 0)) := (hbk.block wz5.heap.size (by simp)).trans (heap_alloc_new wz5 _)
          refine hK.out _ _ ⟨bkeep hbk hHeld.1, bkeep hbk hHeld.2.1, bkeep hbk hHeld.2.2.1, bkeep hbk hHeld.2.2.2.1, bkeep hbk hHeld.2.2.2.2.1, bkeep hbk hHeld.2.2.2.2.2.1, bkeep hbk hHeld.2.2.2.2.2.2.1, bkeep hbk hHeld.2.2.2.2.2.2.2.1, bkeep hbk hHeld.2.2.2.2.2.2.2.2⟩ (fun hHeld => ?_)
          clear hK K
          try simp only [Act.put]
          refine wpAnyH_done (by kernel_rfl) ?_ _
          simp only [Exit.then]
          refine hK0 _ _ ?_
          clear hK0 K0 hHeld
          try simp only [Act.put]
          obtain ⟨W6, hW6, hst6⟩ := S11.out.fill hbb kN ⟨q, ks, 2 + x, b1, b2, d1, 0, v, z⟩
          simp only [cxCells, setsFrom, Nat.reduceAdd] at hW6
          have HST6 := Lib.hid hst6
          have x0 := block_cell kN 0 _ rfl
          have x1 := block_cell kN 1 _ rfl
          have x2 := block_cell kN 2 _ rfl
          have x3 := block_cell kN 3 _ rfl
          have x4 := block_cell kN 4 _ rfl
          have x5 := block_cell kN 5 _ rfl
          have x6 := block_cell kN 6 _ rfl
          have x7 := block_cell kN 7 _ rfl
          have x8 := block_cell kN 8 _ rfl
          have f0 := block_free kN 0
          have f1 := block_free kN 1
          have f2 := block_free kN 2
          have f3 := block_free kN 3
          have f4 := block_free kN 4
          have f5 := block_free kN 5
          have f6 := block_free kN 6
          have f7 := block_free kN 7
          have f8 := block_free kN 8
          clear kN hst6 hbb hbk hbn
          go_wp2_with fail
          go_meet
          exact ⟨_, rfl, HST6.out⟩
      case rest =>
        obtain ⟨B3, rfl, hst⟩ := hcut
        have S12 := Lib.hid hst
        clear hst S11
        clear r0 r1 r2 r3 r4 r5 r6 r7 r8
        go_wp2_with fail
        have HSX : Hid (∀ w', St w w' [(B3, ⟨q, ks, 2 + x, b1, b2, d1, 0, v, z⟩), (w6.heap.size, ⟨q, ps, 1, b1, true, d1, 0, v, z⟩), (B2, ⟨q, ks, 1 + x, b1, b2, d1, 0, v, z⟩), (B1, ⟨q, ks, 0, b1, b2, d1, ku, v, z⟩), (w1.heap.size, ⟨q, s, tr, b1, b2, d, u, v, z⟩)] → (w'.cell? ⟨B3, 0, none⟩ = some (.int .i64 q) ∧ w'.cell? ⟨B3, 1, none⟩ = some (.string ks) ∧ w'.cell? ⟨B3, 2, none⟩ = some (.int .i64 (2 + x)) ∧ w'.cell? ⟨B3, 3, none⟩ = some (.bool b1) ∧ w'.cell? ⟨B3, 4, none⟩ = some (.bool b2) ∧ w'.cell? ⟨B3, 5, none⟩ = some (.int .i64 d1) ∧ w'.cell? ⟨B3, 6, none⟩ = some (.int .i64 0) ∧ w'.cell? ⟨B3, 7, none⟩ = some (.int .i64 v) ∧ w'.cell? ⟨B3, 8, none⟩ = some (.int .i64 z)) ∧ (w'.cell? ⟨B2, 0, none⟩ = some (.int .i64 q) ∧ w'.cell? ⟨B2, 1, none⟩ = some (.string ks) ∧ w'.cell? ⟨B2, 2, none⟩ = some (.int .i64 (1 + x)) ∧ w'.cell? ⟨B2, 3, none⟩ = some (.bool b1) ∧ w'.cell? ⟨B2, 4, none⟩ = some (.bool b2) ∧ w'.cell? ⟨B2, 5, none⟩ = some (.int .i64 d1) ∧ w'.cell? ⟨B2, 6, none⟩ = some (.int .i64 0) ∧ w'.cell? ⟨B2, 7, none⟩ = some (.int .i64 v) ∧ w'.cell? ⟨B2, 8, none⟩ = some (.int .i64 z)) ∧ (w'.cell? ⟨B1, 0, none⟩ = some (.int .i64 q) ∧ w'.cell? ⟨B1, 1, none⟩ = some (.string ks) ∧ w'.cell? ⟨B1, 2, none⟩ = some (.int .i64 0) ∧ w'.cell? ⟨B1, 3, none⟩ = some (.bool b1) ∧ w'.cell? ⟨B1, 4, none⟩ = some (.bool b2) ∧ w'.cell? ⟨B1, 5, none⟩ = some (.int .i64 d1) ∧ w'.cell? ⟨B1, 6, none⟩ = some (.int .i64 ku) ∧ w'.cell? ⟨B1, 7, none⟩ = some (.int .i64 v) ∧ w'.cell? ⟨B1, 8, none⟩ = some (.int .i64 z)) ∧ (w'.cell? ⟨w6.heap.size, 0, none⟩ = some (.int .i64 q) ∧ w'.cell? ⟨w6.heap.size, 1, none⟩ = some (.string ps) ∧ w'.cell? ⟨w6.heap.size, 2, none⟩ = some (.int .i64 1) ∧ w'.cell? ⟨w6.heap.size, 3, none⟩ = some (.bool b1) ∧ w'.cell? ⟨w6.heap.size, 4, none⟩ = some (.bool true) ∧ w'.cell? ⟨w6.heap.size, 5, none⟩ = some (.int .i64 d1) ∧ w'.cell? ⟨w6.heap.size, 6, none⟩ = some (.int .i64 0) ∧ w'.cell? ⟨w6.heap.size, 7, none⟩ = some (.int .i64 v) ∧ w'.cell? ⟨w6.heap.size, 8, none⟩ = some (.int .i64 z))) := fun w' h => ⟨nine (h.boxes (B3, ⟨q, ks, 2 + x, b1, b2, d1, 0, v, z⟩) (by simp)), nine (h.boxes (B2, ⟨q, ks, 1 + x, b1, b2, d1, 0, v, z⟩) (by simp)), nine (h.boxes (B1, ⟨q, ks, 0, b1, b2, d1, ku, v, z⟩) (by simp)), nine (h.boxes (w6.heap.size, ⟨q, ps, 1, b1, true, d1, 0, v, z⟩) (by simp))⟩
        refine wp_region_held_drew (S := fun w' => (w'.cell? ⟨B3, 0, none⟩ = some (.int .i64 q) ∧ w'.cell? ⟨B3, 1, none⟩ = some (.string ks) ∧ w'.cell? ⟨B3, 2, none⟩ = some (.int .i64 (2 + x)) ∧ w'.cell? ⟨B3, 3, none⟩ = some (.bool b1) ∧ w'.cell? ⟨B3, 4, none⟩ = some (.bool b2) ∧ w'.cell? ⟨B3, 5, none⟩ = some (.int .i64 d1) ∧ w'.cell? ⟨B3, 6, none⟩ = some (.int .i64 0) ∧ w'.cell? ⟨B3, 7, none⟩ = some (.int .i64 v) ∧ w'.cell? ⟨B3, 8, none⟩ = some (.int .i64 z)) ∧ (w'.cell? ⟨B2, 0, none⟩ = some (.int .i64 q) ∧ w'.cell? ⟨B2, 1, none⟩ = some (.string ks) ∧ w'.cell? ⟨B2, 2, none⟩ = some (.int .i64 (1 + x)) ∧ w'.cell? ⟨B2, 3, none⟩ = some (.bool b1) ∧ w'.cell? ⟨B2, 4, none⟩ = some (.bool b2) ∧ w'.cell? ⟨B2, 5, none⟩ = some (.int .i64 d1) ∧ w'.cell? ⟨B2, 6, none⟩ = some (.int .i64 0) ∧ w'.cell? ⟨B2, 7, none⟩ = some (.int .i64 v) ∧ w'.cell? ⟨B2, 8, none⟩ = some (.int .i64 z)) ∧ (w'.cell? ⟨B1, 0, none⟩ = some (.int .i64 q) ∧ w'.cell? ⟨B1, 1, none⟩ = some (.string ks) ∧ w'.cell? ⟨B1, 2, none⟩ = some (.int .i64 0) ∧ w'.cell? ⟨B1, 3, none⟩ = some (.bool b1) ∧ w'.cell? ⟨B1, 4, none⟩ = some (.bool b2) ∧ w'.cell? ⟨B1, 5, none⟩ = some (.int .i64 d1) ∧ w'.cell? ⟨B1, 6, none⟩ = some (.int .i64 ku) ∧ w'.cell? ⟨B1, 7, none⟩ = some (.int .i64 v) ∧ w'.cell? ⟨B1, 8, none⟩ = some (.int .i64 z)) ∧ (w'.cell? ⟨w6.heap.size, 0, none⟩ = some (.int .i64 q) ∧ w'.cell? ⟨w6.heap.size, 1, none⟩ = some (.string ps) ∧ w'.cell? ⟨w6.heap.size, 2, none⟩ = some (.int .i64 1) ∧ w'.cell? ⟨w6.heap.size, 3, none⟩ = some (.bool b1) ∧ w'.cell? ⟨w6.heap.size, 4, none⟩ = some (.bool true) ∧ w'.cell? ⟨w6.heap.size, 5, none⟩ = some (.int .i64 d1) ∧ w'.cell? ⟨w6.heap.size, 6, none⟩ = some (.int .i64 0) ∧ w'.cell? ⟨w6.heap.size, 7, none⟩ = some (.int .i64 v) ∧ w'.cell? ⟨w6.heap.size, 8, none⟩ = some (.int .i64 z))) (by kernel_rfl) (HSX.out _ (S12.out.call (Below.refl _ _).drew)) (fun hHeld => ?_)
        refine wpAnyH_take (i := 0) (v := ?_) rfl (by kernel_rfl) (by kernel_rfl) (by kernel_rfl) (fun _ _ _ h => h) (Or.inl ⟨by kernel_rfl, ?_⟩) (by assumption) ?_
        rotate_left
        · (intro w hSw; (try dsimp only at hSw); go_simp; (try rw [if_neg (by (try simp only [ByteArray.size_append]); omega)]); (try with_reducible rfl))
        try simp only [Act.put]
        refine wpAnyH_take (i := 2) (v := ?_) rfl (by kernel_rfl) (by kernel_rfl) (by kernel_rfl) (fun _ _ _ h => h) (Or.inl ⟨by kernel_rfl, ?_⟩) (by assumption) ?_
        rotate_left
        · (intro w hSw; (try dsimp only at hSw); go_simp; (try rw [if_neg (by (try simp only [ByteArray.size_append]); omega)]); (try with_reducible rfl))
        try simp only [Act.put]
        refine wpAnyH_ready (rs := [1]) (by kernel_rfl) (by simp) ?_
        refine AllReadyH.cons rfl (fun K hK => ?_) AllReadyH.nil
        go_simp
        try rw [if_neg (by assumption)]
        refine (HSO.out _).mono ?_
        rintro e wb ⟨rfl, hb⟩
        replace hb := bdrew hb
        have S13 := Lib.hid (S12.out.call hb)
        refine hK.out _ _ (HSX.out _ S13.out) (fun hHeld => ?_)
        clear hK K hb S12
        try simp only [Act.put]
        refine wpAnyH_ready (rs := [3]) (by kernel_rfl) (by simp) ?_
        refine AllReadyH.cons rfl (fun K hK => ?_) AllReadyH.nil
        go_simp
        try rw [if_neg (by assumption)]
        refine (HST.out _).mono ?_
        rintro e wd ⟨rfl, hb⟩
        have S14 := Lib.hid (S13.out.call hb)
        refine hK.out _ _ (HSX.out _ S14.out) (fun hHeld => ?_)
        clear hK K hb S13
        try simp only [Act.put]
        refine wpAnyH_take (i := 4) (v := ?_) rfl (by kernel_rfl) (by kernel_rfl) (by kernel_rfl) (fun _ _ _ h => h) (Or.inl ⟨by kernel_rfl, ?_⟩) (by assumption) ?_
        rotate_left
        · (intro w hSw; (try dsimp only at hSw); go_simp; (try simp only [q1, Bool.not_false]); (try with_reducible rfl))
        try simp only [Act.put]
        refine wpAnyH_take (i := 5) (v := ?_) rfl (by kernel_rfl) (by kernel_rfl) (by kernel_rfl) (fun _ _ _ h => h) (Or.inl ⟨by kernel_rfl, ?_⟩) (by assumption) ?_
        rotate_left
        · (intro w hSw; (try dsimp only at hSw); go_simp; (try rw [if_neg (by (try simp only [ByteArray.size_append]); omega)]); (try with_reducible rfl))
        try simp only [Act.put]
        refine wpAnyH_take (i := 6) (v := ?_) rfl (by kernel_rfl) (by kernel_rfl) (by kernel_rfl) (fun _ _ _ h => h) (Or.inl ⟨by kernel_rfl, ?_⟩) (by assumption) ?_
        rotate_left
        · (intro w hSw; (try dsimp only at hSw); go_simp; (try rw [if_neg (by (try simp only [ByteArray.size_append]); omega)]); (try with_reducible rfl))
        try simp only [Act.put]
        refine wpAnyH_take (i := 8) (v := ?_) rfl (by kernel_rfl) (by kernel_rfl) (by kernel_rfl) (fun _ _ _ h => h) (Or.inl ⟨by kernel_rfl, ?_⟩) (by assumption) ?_
        rotate_left
        · (intro w hSw; (try dsimp only at hSw); go_simp; (try rw [if_neg (by (try simp only [ByteArray.size_append]); omega)]); (try with_reducible rfl))
        try simp only [Act.put]
        refine wpAnyH_ready (rs := [7]) (by kernel_rfl) (by simp) ?_
        refine AllReadyH.cons rfl (fun K hK => ?_) AllReadyH.nil
        go_simp
        try rw [if_neg (by assumption)]
        refine (HSK.out _).mono ?_
        rintro e we ⟨rfl, hb⟩
        have S15 := Lib.hid (S14.out.call hb)
        refine hK.out _ _ (HSX.out _ S15.out) (fun hHeld => ?_)
        clear hK K hb S14
        try simp only [Act.put]
        refine wpAnyH_ready (rs := [9]) (by kernel_rfl) (by simp) ?_
        refine AllReadyH.cons rfl (fun K hK => ?_) AllReadyH.nil
        go_simp
        try rw [if_neg (by assumption)]
        refine (HST.out _).mono ?_
        rintro e wf ⟨rfl, hb⟩
        have S16 := Lib.hid (S15.out.call hb)
        refine hK.out _ _ (HSX.out _ S16.out) (fun hHeld => ?_)
        clear hK K hb S15
        try simp only [Act.put]
        refine wpAnyH_take (i := 10) (v := ?_) rfl (by kernel_rfl) (by kernel_rfl) (by kernel_rfl) (fun _ _ _ h => h) (Or.inl ⟨by kernel_rfl, ?_⟩) (by assumption) ?_
        rotate_left
        · (intro w hSw; (try dsimp only at hSw); go_simp; (try simp only [q2, Bool.not_false]); (try with_reducible rfl))
        try simp only [Act.put]
        refine wpAnyH_take (i := 11) (v := ?_) rfl (by kernel_rfl) (by kernel_rfl) (by kernel_rfl) (fun _ _ _ h => h) (Or.inl ⟨by kernel_rfl, ?_⟩) (by assumption) ?_
        rotate_left
        · (intro w hSw; (try dsimp only at hSw); go_simp; (try rw [if_neg (by (try simp only [ByteArray.size_append]); omega)]); (try with_reducible rfl))
        try simp only [Act.put]
        refine wpAnyH_take (i := 12) (v := ?_) rfl (by kernel_rfl) (by kernel_rfl) (by kernel_rfl) (fun _ _ _ h => h) (Or.inl ⟨by kernel_rfl, ?_⟩) (by assumption) ?_
        rotate_left
        · (intro w hSw; (try dsimp only at hSw); go_simp; (try rw [if_neg (by (try simp only [ByteArray.size_append]); omega)]); (try with_reducible rfl))
        try simp only [Act.put]
        refine wpAnyH_take (i := 13) (v := ?_) rfl (by kernel_rfl) (by kernel_rfl) (by kernel_rfl) (fun _ _ _ h => h) (Or.inl ⟨by kernel_rfl, ?_⟩) (by assumption) ?_
        rotate_left
        · (intro w hSw; (try dsimp only at hSw); go_simp; (try rw [if_neg (by (try simp only [ByteArray.size_append]); omega)]); (try with_reducible rfl))
        try simp only [Act.put]
        refine wpAnyH_take (i := 15) (v := ?_) rfl (by kernel_rfl) (by kernel_rfl) (by kernel_rfl) (fun _ _ _ h => h) (Or.inl ⟨by kernel_rfl, ?_⟩) (by assumption) ?_
        rotate_left
        · (intro w hSw; (try dsimp only at hSw); go_simp; (try rw [if_neg (by (try simp only [ByteArray.size_append]); omega)]); (try with_reducible rfl))
        try simp only [Act.put]
        refine wpAnyH_ready (rs := [14]) (by kernel_rfl) (by simp) ?_
        refine AllReadyH.cons rfl (fun K hK => ?_) AllReadyH.nil
        go_simp
        try rw [if_neg (by assumption)]
        refine (HSP2.out _).mono ?_
        rintro e wg ⟨rfl, hb⟩
        have S17 := Lib.hid (S16.out.call hb)
        refine hK.out _ _ (HSX.out _ S17.out) (fun hHeld => ?_)
        clear hK K hb S16
        try simp only [Act.put]
        refine wpAnyH_ready (rs := [16]) (by kernel_rfl) (by simp) ?_
        refine AllReadyH.cons rfl (fun K hK => ?_) AllReadyH.nil
        go_simp
        try rw [if_neg (by assumption)]
        refine (HST.out _).mono ?_
        rintro e wh ⟨rfl, hb⟩
        have S18 := Lib.hid (S17.out.call hb)
        refine hK.out _ _ (HSX.out _ S18.out) (fun hHeld => ?_)
        clear hK K hb S17
        try simp only [Act.put]
        refine wpAnyH_take (i := 17) (v := ?_) rfl (by kernel_rfl) (by kernel_rfl) (by kernel_rfl) (fun _ _ _ h => h) (Or.inl ⟨by kernel_rfl, ?_⟩) (by assumption) ?_
        rotate_left
        · (intro w hSw; (try dsimp only at hSw); go_simp; (try simp only [q3, Bool.not_false]); (try with_reducible rfl))
        try simp only [Act.put]
        refine wpAnyH_take (i := 18) (v := ?_) rfl (by kernel_rfl) (by kernel_rfl) (by kernel_rfl) (fun _ _ _ h => h) (Or.inl ⟨by kernel_rfl, ?_⟩) (by assumption) ?_
        rotate_left
        · (intro w hSw; (try dsimp only at hSw); go_simp; (try rw [if_neg (by (try simp only [ByteArray.size_append]); omega)]); (try with_reducible rfl))
        try simp only [Act.put]
        refine wpAnyH_take (i := 19) (v := ?_) rfl (by kernel_rfl) (by kernel_rfl) (by kernel_rfl) (fun _ _ _ h => h) (Or.inl ⟨by kernel_rfl, ?_⟩) (by assumption) ?_
        rotate_left
        · (intro w hSw; (try dsimp only at hSw); go_simp; (try rw [if_neg (by (try simp only [ByteArray.size_append]); omega)]); (try with_reducible rfl))
        try simp only [Act.put]
        refine wpAnyH_ready (rs := [20]) (by kernel_rfl) (by simp) ?_
        refine AllReadyH.cons rfl (fun K hK => ?_) AllReadyH.nil
        go_simp
        try rw [if_neg (by assumption)]
        refine (HLV.out _ S18.out.below).mono ?_
        rintro e wi ⟨rfl, hb⟩
        have S19 := Lib.hid (S18.out.call hb)
        refine hK.out _ _ (HSX.out _ S19.out) (fun hHeld => ?_)
        clear hK K hb S18
        try simp only [Act.put]
        refine wpAnyH_take (i := 21) (v := ?_) rfl (by kernel_rfl) (by kernel_rfl) (by kernel_rfl) (fun _ _ _ h => h) (Or.inl ⟨by kernel_rfl, ?_⟩) (by assumption) ?_
        rotate_left
        · (intro w hSw; (try dsimp only at hSw); go_simp; (try rw [if_neg (by (try simp only [ByteArray.size_append]); omega)]); (try with_reducible rfl))
        try simp only [Act.put]
        refine wpAnyH_ready (rs := [22]) (by kernel_rfl) (by simp) ?_
        refine AllReadyH.cons rfl (fun K hK => ?_) AllReadyH.nil
        go_simp
        refine hK.out _ _ ((HSX.out _ S19.out)) (fun hHeld => ?_)
        clear hK K
        try simp only [Act.put]
        refine wpAnyH_done (by kernel_rfl) ?_ _
        try simp only [Act.put]
        have HF := Lib.hid S19.out.below
        clear S19 HSX hHeld
        go_wp2_with fail
        go_ret
        exact ⟨rfl, HF.out⟩

end Go.Proofs.YtjollcacgnfabaaDoor
