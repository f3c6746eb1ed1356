/- O1: picked out of XDig, XC1; TrimLeft at the ten digits: its loop; TrimLeft at the ten digits; A call's key: plain; Key. -/
import Derived.Test.YtchjlkfkfcmhlaaDoorQ3
import Derived.Test.YtchjlkfkfcmhlaaDoorPlain
import Derived.Shelf.Strconv.Itoa3
import Derived.Lib.Strings
import Derived.Laws.IdiomStrings
import Derived.BigQuiet
import Derived.Shelf.Strings.AsciiSet
import Derived.Shelf.Strings.IndexAnyAll
import Derived.Deep.WholeRow
import Derived.Lib.SplitLaws
import Derived.Shelf.Strings.SplitShaped
import Derived.Shelf.Strings.OnBuilder
namespace Go.Proofs.YtchjlkfkfcmhlaaDoor
open Go.RowKit
attribute [local go_sem ↓] Go.wp_at_zero Go.wp_at_succ

/-! O1: picked out of XDig, XC1. -/
open Go.RowKit Go.Lib

theorem bytes_ext {s t : ByteArray} (h : s.data.toList = t.data.toList) : s = t := by
  obtain ⟨⟨a⟩⟩ := s
  obtain ⟨⟨b⟩⟩ := t
  have h' : a = b := h
  rw [h']

def digit (r : Nat) : ByteArray := ⟨#[UInt8.ofNat (48 + r)]⟩

theorem dec_facts : ∀ r : Nat, r ≤ 9 → (Lib.decDigits r) = [UInt8.ofNat (48 + r)] := by
  intro r h2
  have : r = 0 ∨ r = 1 ∨ r = 2 ∨ r = 3 ∨ r = 4 ∨ r = 5 ∨ r = 6 ∨ r = 7 ∨ r = 8 ∨ r = 9 := by omega
  rcases this with rfl | rfl | rfl | rfl | rfl | rfl | rfl | rfl | rfl | rfl <;> (unfold Lib.decDigits; rfl)

theorem itoa_any (r : Nat) (h1 : r ≤ 9) (w : World) :
    Calls Tryd.prog 37 #[.int .i64 r] w fun e w' => e = .returned (.string (digit r)) ∧ w' = w := by
  have h : Calls Tryd.prog 37 #[.int .i64 r] w fun e w' => e = .returned (.string ⟨(Lib.decDigits r).toArray⟩) ∧ w' = w := Any.strconv_Itoa_small Tryd.lays171 r (by omega) w
  rw [dec_facts r h1] at h
  exact h

def around (n m : Int) : Int := (if n < 0 then -(n+1) else n) % m

theorem around_bd (n : Int) {m : Int} (hm : 1 ≤ m) : 0 ≤ around n m ∧ around n m < m := ⟨Int.emod_nonneg _ (by omega), Int.emod_lt_of_pos _ (by omega)⟩

set_option maxHeartbeats 400000 in
theorem around_any (n m : Int) (w : World) (h1 : -9223372036854775808 ≤ n) (h2 : n ≤ 9223372036854775807) (hm : 1 ≤ m) (hm2 : m ≤ 9223372036854775807) :
    Calls Tryd.prog 11 #[.int .i64 n, .int .i64 m] w fun e w' => e = .returned (.int .i64 (around n m)) ∧ w = w' := by
  by_cases h : n < 0
  · go_enter Tryd.func11, Tryd.ntmps11
    go_wp2
    go_ret
    exact ⟨ret_int (by rw [around, if_pos h, ← Int.tmod_eq_emod_of_nonneg (by omega), Int.neg_tmod]), rfl⟩
  · go_enter Tryd.func11, Tryd.ntmps11
    go_wp2
    go_ret
    exact ⟨ret_int (by rw [around, if_neg (by omega)]), rfl⟩

theorem conv1 (w : World) (x : Int) (h0 : 0 ≤ x) (h1 : x < 10) :
    (convert 83 9 (.slice (some ⟨w.heap.size, 0, none⟩) 1 1)).run Tryd.prog (w.alloc (.cells #[.int .u8 (48 + x)] 5)) = .ok (.string ⟨[UInt8.ofNat (48 + x).toNat].toArray⟩) (w.alloc (.cells #[.int .u8 (48 + x)] 5)) := by
  refine run_convert_bytes_back (P := Tryd.prog) (w.alloc (.cells #[.int .u8 (48 + x)] 5)) 83 9 5 ⟨w.heap.size, 0, none⟩ 1 [UInt8.ofNat (48 + x).toNat] Tryd.underlying83 Tryd.underlying5 Tryd.underlying9 ?_
  intro j hj
  have : j = 0 := by simp at hj; omega
  subst this
  rw [Addr.add_lit]
  rw [block_cell (heap_alloc_new w _) 0 (.int .u8 (48 + x)) rfl]
  have : ((UInt8.ofNat (48 + x).toNat).toNat : Int) = 48 + x := by
    rw [UInt8.toNat_ofNat']; omega
  rw [show ([UInt8.ofNat (48 + x).toNat] : List UInt8)[0] = UInt8.ofNat (48 + x).toNat from rfl, this]

set_option maxRecDepth 8000 in
theorem dec1 (r : Nat) (w : World) (h1 : r < 10) : Calls Tryd.prog 28 #[.int .i64 r] w fun e w' => e = .returned (.string (digit r)) ∧ Below w.heap.size w w' := by
  have hc := conv1 w ((r : Int) % 10) (by omega) (by omega)
  have t1 : decide ((r : Int) % 10 < 0) = false := decide_eq_false (by omega)
  have hx : (48 + (r : Int) % 10).toNat = 48 + r := by omega
  rw [show (⟨[UInt8.ofNat (48 + (r : Int) % 10).toNat].toArray⟩ : ByteArray) = digit r by unfold digit; rw [hx]] at hc
  clear hx
  go_enter Tryd.func28, Tryd.ntmps28
  go_wp2_with fail
  go_ret
  exact ⟨rfl, (Below.refl _ _).alloc (Nat.le_refl _) _⟩

theorem data_append (a b : ByteArray) : (a ++ b).data.toList = a.data.toList ++ b.data.toList := by simp

structure Cx where
  req : Int
  call : ByteArray
  try_ : Int
  idem : Bool
  shadow : Bool
  dl : Int
  purse : Int
  ver : Int
  prio : Int

def cxCells (c : Cx) : List Value := [.int .i64 c.req, .string c.call, .int .i64 c.try_, .bool c.idem, .bool c.shadow, .int .i64 c.dl, .int .i64 c.purse, .int .i64 c.ver, .int .i64 c.prio]

def cxV (c : Cx) : Value := .agg (cxCells c).toArray

/-- Two new boxes, that hold one call both. -/
theorem cx_boxes (w : World) (c : Cx) : ∃ W, (w.alloc (.cells (cxCells c).toArray 31)).alloc (.cells (cxCells c).toArray 31) = W ∧ Below w.heap.size w W ∧ W.heap[w.heap.size + 1]? = some (.cells (cxCells c).toArray 31 (0, 0)) := by
  refine ⟨_, rfl, ((Below.refl _ _).alloc (Nat.le_refl _) _).alloc (by simp) _, ?_⟩
  have hbx := heap_alloc_new (w.alloc (.cells (cxCells c).toArray 31)) (.cells (cxCells c).toArray 31)
  rw [show (w.alloc (.cells (cxCells c).toArray 31)).heap.size = w.heap.size + 1 by simp] at hbx
  exact hbx

/-- An attempt's name, where the attempt's number is one digit. -/
def Cx.span (c : Cx) : ByteArray := if 0 < c.try_ then c.call ++ ⟨#[58]⟩ ++ digit c.try_.toNat else c.call

set_option maxRecDepth 8000 in
set_option maxHeartbeats 1000000 in
theorem span_any (c : Cx) (hs : c.call.size ≤ 1000000) (ht : c.try_ ≤ 9) (w : World) :
    Calls Tryd.prog 20 #[cxV c] w fun e w' => e = .returned (.string c.span) ∧ Below w.heap.size w w' := by
  have HS : Hid (c.span = if 0 < c.try_ then c.call ++ ⟨#[58]⟩ ++ digit c.try_.toNat else c.call) := rfl
  obtain ⟨y, hy⟩ : ∃ y, y = c.span := ⟨_, rfl⟩
  rw [← hy] at HS ⊢
  clear hy
  obtain ⟨q, s, t, a, b, d, u, v, z⟩ := c
  dsimp only at hs ht HS
  unfold cxV cxCells
  dsimp only
  obtain ⟨W, hW⟩ : ∃ W, w.alloc (.cells #[.int .i64 q, .string s, .int .i64 t, .bool a, .bool b, .int .i64 d, .int .i64 u, .int .i64 v, .int .i64 z] 31) = W := ⟨_, rfl⟩
  have hbx := heap_alloc_new w (.cells #[.int .i64 q, .string s, .int .i64 t, .bool a, .bool b, .int .i64 d, .int .i64 u, .int .i64 v, .int .i64 z] 31)
  have hb : Below w.heap.size w W := by rw [← hW]; exact (Below.refl _ _).alloc (Nat.le_refl _) _
  rw [hW] at hbx
  have HB := Lib.hid hb
  have r0 := block_cell hbx 0 _ rfl
  have r1 := block_cell hbx 1 _ rfl
  have r2 := block_cell hbx 2 _ rfl
  have r3 := block_cell hbx 3 _ rfl
  have r4 := block_cell hbx 4 _ rfl
  have r5 := block_cell hbx 5 _ rfl
  have r6 := block_cell hbx 6 _ rfl
  have r7 := block_cell hbx 7 _ rfl
  have r8 := block_cell hbx 8 _ rfl
  clear hbx hb
  by_cases h0 : 0 < t
  · obtain ⟨m, rfl⟩ : ∃ m : Nat, t = (m : Int) := ⟨t.toNat, by omega⟩
    have HS2 : Hid (y = s ++ ⟨#[58]⟩ ++ digit m) := by rw [HS.out, if_pos h0]; exact rfl
    have t1 : decide ((0 : Int) < (m : Int)) = true := decide_eq_true h0
    have h0' : 0 < m := by omega
    have HI := Lib.hid (fun k => itoa_any m (by omega) (W.drewN k))
    have h1 : (s ++ ⟨#[58]⟩).size ≤ 1000001 := by rw [ByteArray.size_append]; show _ + 1 ≤ _; omega
    have h2 : (⟨#[58]⟩ : ByteArray).size = 1 := rfl
    have h3 : (digit m).size = 1 := rfl
    clear HS h0
    go_enter Tryd.func20, Tryd.ntmps20
    go_wp2_with fail
    go_quiet (first | (go_at_call 37; with_reducible exact Calls.quiet_of_same (HI.out _)))
    go_wp2_with fail
    go_ret
    rw [HS2.out]
    exact ⟨rfl, below_drewN HB.out⟩
  · have HS2 : Hid (y = s) := by rw [HS.out, if_neg h0]; exact rfl
    have t1 : decide (0 < t) = false := decide_eq_false h0
    clear HS
    go_enter Tryd.func20, Tryd.ntmps20
    go_wp2_with fail
    go_ret
    rw [HS2.out]
    exact ⟨rfl, HB.out⟩

/-! TrimLeft at the ten digits: its loop. -/

def ten : ByteArray := ⟨#[48, 49, 50, 51, 52, 53, 54, 55, 56, 57]⟩
def isDig (x : UInt8) : Bool := ten.data.toList.contains x
/-- A text without the digits that stand ahead. -/
def dropDig (s : ByteArray) : ByteArray := ⟨(s.data.toList.dropWhile isDig).toArray⟩

def strSize : Value → Nat
  | .string t => t.size
  | _ => 0

theorem dropDig_cons (s : ByteArray) (h : 0 < s.size) : dropDig s = if isDig (s.data.toList[0]'h) then dropDig (s.extract 1 s.size) else s := by
  obtain ⟨⟨l⟩⟩ := s
  cases l with
  | nil => exact absurd h (by decide)
  | cons a l =>
    unfold dropDig
    rw [Lib.extract_data]
    show (⟨((a :: l).dropWhile isDig).toArray⟩ : ByteArray) = if isDig a then ⟨((((a :: l).drop 1).take ((⟨⟨a :: l⟩⟩ : ByteArray).size - 1)).dropWhile isDig).toArray⟩ else ⟨⟨a :: l⟩⟩
    have e1 : (((a :: l).drop 1).take ((⟨⟨a :: l⟩⟩ : ByteArray).size - 1)) = l := by
      show l.take ((a :: l).length - 1) = l
      rw [List.length_cons, Nat.add_sub_cancel, List.take_length]
    rw [e1, List.dropWhile_cons]
    cases isDig a <;> rfl

/-- The set's cells. -/
def SetAt (w : World) (b : Nat) : Prop := ∀ x : UInt8, w.cell? ⟨b, x.toNat, none⟩ = some (.bool (isDig x))

set_option maxRecDepth 8000 in
set_option maxHeartbeats 1000000 in
theorem trimASCII_any (s : ByteArray) (b : Nat) (w : World) (hb : SetAt w b) :
    Calls Tryd.prog 48 #[.string s, .pointer (some ⟨b, 0, none⟩)] w fun e w' => e = .returned (.string (dropDig s)) ∧ w' = w := by
  have HC : Hid (∀ x : UInt8, Calls Tryd.prog 64 #[.pointer (some ⟨b, 0, none⟩), .int .u8 x.toNat] w fun e w' => e = .returned (.bool (isDig x)) ∧ w' = w) := fun x => Any.asciiSet_contains Tryd.lays228 b x (isDig x) w (hb x)
  have HS : Hid (dropDig s = dropDig s) := rfl
  obtain ⟨y, hy⟩ : ∃ y, y = dropDig s := ⟨_, rfl⟩
  rw [← hy]
  have HY := Lib.hid hy
  clear hb hy HS
  go_enter Tryd.func48, Tryd.ntmps48
  go_wp2_with fail
  go_loopw [0] (fun v wr => ∃ t : ByteArray, v = .string t ∧ Hid (dropDig t = y) ∧ wr = w) (fun v _ => strSize v)
  case atStart => exact ⟨s, rfl, HY.out.symm, rfl⟩
  case round =>
    obtain ⟨t, rfl, ht, rfl⟩ := hrel
    by_cases h0 : 0 < t.size
    · have t1 : decide ((0 : Int) < (t.size : Int)) = true := decide_eq_true (by omega)
      obtain ⟨x, hx⟩ : ∃ x : UInt8, t[0]'h0 = x := ⟨_, rfl⟩
      have hd : dropDig t = if isDig x then dropDig (t.extract 1 t.size) else t := by rw [← hx]; exact dropDig_cons t h0
      have HD := Lib.hid hd
      have h1 : (t.extract 1 t.size).size = t.size - 1 := by rw [ByteArray.size_extract]; omega
      obtain ⟨d, hdd⟩ : ∃ d, d = isDig x := ⟨_, rfl⟩
      have HX := HC.out x
      rw [← hdd] at HX HD
      have HX := Lib.hid HX
      clear hd hdd
      go_wp2_with fail
      refine HX.out.mono ?_
      rintro e w' ⟨rfl, rfl⟩
      cases d with
      | true =>
        have HD2 : Hid (dropDig (t.extract 1 t.size) = y) := HD.out.symm.trans ht.out
        go_wp2_with fail
        go_roundw
        case rel => exact ⟨_, rfl, HD2.out, trivial⟩
        case measure => simp [strSize, h1]; omega
      | false =>
        have HD2 : Hid (t = y) := HD.out.symm.trans ht.out
        go_wp2_with fail
        go_ret
        rw [HD2.out]
        exact ⟨rfl, rfl⟩
    · have h00 : t.size = 0 := by omega
      have t1 : decide ((0 : Int) < (t.size : Int)) = false := decide_eq_false (by omega)
      have HD2 : Hid (t = y) := by
        rw [← ht.out]
        obtain ⟨⟨l⟩⟩ := t
        cases l with
        | nil => rfl
        | cons a l => exact absurd h00 (by show ¬ (a :: l).length = 0; simp)
      clear h0
      go_wp2_with fail
      go_ret
      rw [HD2.out]
      exact ⟨rfl, rfl⟩

/-! TrimLeft at the ten digits. -/

theorem info256 : (Tryd.prog.info? 101).map (fun i => (i.zero, i.size)) = some (some (.agg (Array.replicate 256 (.bool false))), 256) := by kernel_rfl

set_option maxRecDepth 100000 in
set_option maxHeartbeats 4000000 in
theorem trimLeft_any (s : ByteArray) (h0 : 0 < s.size) (w : World) :
    Calls Tryd.prog 35 #[.string s, .string ⟨#[48, 49, 50, 51, 52, 53, 54, 55, 56, 57]⟩] w fun e w' => e = .returned (.string (dropDig s)) ∧ Below w.heap.size w w' := by
  have HM : Hid (Calls Tryd.prog 47 #[.string ten] w fun e w' => e = .returned (.tuple #[.agg (Lib.setCells ten.data.toList), .bool true]) ∧ w' = w.alloc (.cells (Lib.setCells ten.data.toList) 101)) :=
    Any.strings_makeASCIISet Tryd.lays227 (zero_of_info info256).1 (zero_of_info info256).2 ten w (by decide) (fun j b hj => by
      have h : ∀ b ∈ ten.data.toList, b.toNat < 128 := by decide
      exact h b (List.mem_of_getElem? hj))
  have hne : s.toList.isEmpty = false := by
    rw [Lib.toList_data]
    cases h : s.data.toList with
    | nil => have := Lib.size_eq s; rw [h, List.length_nil] at this; omega
    | cons _ _ => rfl
  obtain ⟨C, hC⟩ : ∃ C, C = Lib.setCells ten.data.toList := ⟨_, rfl⟩
  have hsz : C.size = 256 := by rw [hC]; exact Lib.setCells_size _
  have hzc : Tryd.zeroCells101 = Array.replicate 256 (.bool false) := by kernel_rfl
  have hsc : (storeCells ⟨w.heap.size + 1, 0, none⟩ C.toList 0).run Tryd.prog ((w.alloc (.cells C 101)).alloc (.cells Tryd.zeroCells101 101)) = .ok () ((w.alloc (.cells C 101)).alloc (.cells C 101)) := by
    have := run_storeCells_new (P := Tryd.prog) (w.alloc (.cells C 101)) 101 (Array.replicate 256 (.bool false)) C (by rw [hsz]; exact (zero_of_info info256).2) (by rw [hsz]; simp) (by rw [hC]; exact Lib.setCells_one _)
    rw [hzc]
    simpa using this
  have HAT : Hid (SetAt ((w.alloc (.cells C 101)).alloc (.cells C 101)) (w.heap.size + 1)) := fun x => by
    rw [hC, World.cell?_alloc_at _ _ _ _ (by simp), Lib.setCells_at]; rfl
  rw [← hC] at HM
  clear hC hzc
  go_enter Tryd.func35, Tryd.ntmps35
  go_wp2_with fail
  refine HM.out.mono ?_
  rintro e w1 ⟨rfl, rfl⟩
  go_wp2_with fail
  try simp only [hsc, Result.andThen]
  try rw [Oper.upon_skip]
  have HTR := Lib.hid (trimASCII_any s _ _ HAT.out)
  clear hsc
  go_wp2_with fail
  refine HTR.out.mono ?_
  rintro e w' ⟨rfl, rfl⟩
  go_wp2_with fail
  go_ret
  exact ⟨rfl, ((Below.refl _ _).alloc (Nat.le_refl _) _).alloc (by simp) _⟩

/-! A call's key: plain. -/
/-- A name without what is an attempt's number, and its sign. -/
def keyFrom : Bool → List UInt8 → List UInt8
  | _, [] => []
  | k, x :: t => if x = 58 ∨ (k = true ∧ isDig x = true) then keyFrom true t else x :: keyFrom false t
def keyOf (s : ByteArray) : ByteArray := ⟨(keyFrom false s.data.toList).toArray⟩

def cutAll (s : List UInt8) : List (List UInt8) := Lib.splitK [58] 0 (Lib.count s [58]) s
theorem index_cons (b c : UInt8) (l : List UInt8) : Lib.index (b :: l) [c] = if b = c then 0 else if Lib.index l [c] == -1 then -1 else Lib.index l [c] + 1 := by
  by_cases h : b = c
  · subst h; rw [if_pos rfl, Lib.index]; simp [List.isPrefixOf]
  · have hp : ([c] : List UInt8).isPrefixOf (b :: l) = false := by simp [List.isPrefixOf, Ne.symm h]
    rw [if_neg h, Lib.index, hp]; simp
theorem cutAll_nil : cutAll [] = [[]] := by unfold cutAll; rw [Lib.count_one]; rfl
theorem cutAll_sep (l : List UInt8) : cutAll (58 :: l) = [] :: cutAll l := by
  unfold cutAll
  rw [Lib.count_cons_eq, Nat.add_comm, Lib.splitK, index_cons, if_pos rfl]
  rfl
theorem cutAll_cons (b : UInt8) (l : List UInt8) (h : b ≠ 58) : ∃ x xs, cutAll l = x :: xs ∧ cutAll (b :: l) = (b :: x) :: xs := by
  unfold cutAll
  rw [Lib.count_cons_ne b 58 l h]
  cases hk : Lib.count l [58] with
  | zero => exact ⟨l, [], rfl, rfl⟩
  | succ k =>
    rcases Lib.index_spec l [58] with ⟨hm, _⟩ | ⟨j, hj, _⟩
    · have := Lib.count_miss hm; omega
    · have hn : ¬ (Lib.index l [58] == -1) = true := fun e => by have := beq_iff_eq.1 e; omega
      have hn2 : ¬ ((Lib.index l [58] + 1) == -1) = true := fun e => by have := beq_iff_eq.1 e; omega
      rw [Lib.splitK, if_neg hn, Lib.splitK, index_cons, if_neg h, if_neg hn, if_neg hn2, hj]
      refine ⟨_, _, rfl, ?_⟩
      have e1 : ((j : Int) + 1).toNat = j + 1 := by omega
      have e2 : ((j : Int)).toNat = j := by omega
      rw [e1, e2]
      have e3 : j + 1 + ([58] : List UInt8).length = (j + ([58] : List UInt8).length) + 1 := by omega
      rw [e3, List.drop_succ_cons, Nat.add_zero, List.take_succ_cons]
      rfl

def dropL (l : List UInt8) : List UInt8 := l.dropWhile isDig
def joinF (k : Bool) : List (List UInt8) → List UInt8
  | [] => []
  | x :: xs => (if k then dropL x else x) ++ (xs.map dropL).flatten
theorem joinF_cut : ∀ (s : List UInt8) (k : Bool), joinF k (cutAll s) = keyFrom k s
  | [], k => by rw [cutAll_nil]; cases k <;> rfl
  | b :: l, k => by
    by_cases h : b = 58
    · subst h
      rw [cutAll_sep, keyFrom, if_pos (Or.inl rfl), ← joinF_cut l true]
      cases hc : cutAll l with
      | nil => cases k <;> rfl
      | cons x xs => cases k <;> simp [joinF, dropL]
    · obtain ⟨x, xs, e1, e2⟩ := cutAll_cons b l h
      have i1 := joinF_cut l true
      have i0 := joinF_cut l false
      rw [e1] at i1 i0
      rw [e2, keyFrom]
      simp only [joinF, if_true, Bool.false_eq_true, if_false] at i1 i0 ⊢
      cases k with
      | false => rw [if_neg (c := b = 58 ∨ (false = true ∧ isDig b = true)) (fun e => e.elim h (fun e => Bool.false_ne_true e.1))]; simp [i0]
      | true =>
        by_cases hd : isDig b = true
        · rw [if_pos (Or.inr ⟨rfl, hd⟩), ← i1]; simp [dropL, hd]
        · rw [if_neg (c := b = 58 ∨ (true = true ∧ isDig b = true)) (fun e => e.elim h (fun e => hd e.2)), ← i0]; simp [dropL, hd]

/-- What the loop of Key makes of the pieces. -/
def trimmed : List ByteArray → List ByteArray
  | [] => []
  | x :: xs => x :: xs.map dropDig
theorem trimmed_length (l : List ByteArray) : (trimmed l).length = l.length := by cases l <;> simp [trimmed]
theorem trimmed_get (l : List ByteArray) (j : Nat) : (trimmed l)[j]? = (l[j]?).map fun x => if j = 0 then x else dropDig x := by
  cases l with
  | nil => simp [trimmed]
  | cons x xs =>
    cases j with
    | zero => simp [trimmed]
    | succ j => simp [trimmed, List.getElem?_map]

def piecesOf (s : ByteArray) : List ByteArray := Lib.splitB ⟨#[58]⟩ 0 (Lib.countB s ⟨#[58]⟩) s
theorem key_join (s : ByteArray) : ((trimmed (piecesOf s)).map (·.data.toList)).flatten = keyFrom false s.data.toList := by
  have h : (piecesOf s).map (·.data.toList) = cutAll s.data.toList := by
    unfold piecesOf cutAll
    rw [Lib.splitB_data]
  rw [← joinF_cut, ← h]
  cases piecesOf s with
  | nil => rfl
  | cons x xs =>
    simp only [trimmed, List.map_cons, List.flatten_cons, joinF, List.map_map]
    rfl

theorem dropWhile_le (p : UInt8 → Bool) : ∀ l : List UInt8, (l.dropWhile p).length ≤ l.length
  | [] => Nat.le_refl _
  | a :: l => by rw [List.dropWhile_cons]; split; exact Nat.le_trans (dropWhile_le p l) (by simp); simp
theorem keyFrom_le : ∀ (l : List UInt8) (k : Bool), (keyFrom k l).length ≤ l.length
  | [], _ => Nat.le_refl _
  | x :: t, k => by
    rw [keyFrom]
    split
    · have := keyFrom_le t true; simp; omega
    · have := keyFrom_le t false; simp; omega
theorem join_empty : ∀ l : List (List UInt8), Lib.join l [] = l.flatten
  | [] => rfl
  | [x] => by rw [Lib.join_one]; simp
  | x :: y :: r => by
    rw [List.flatten_cons, ← join_empty (y :: r)]
    unfold Lib.join
    rw [List.intercalate, List.intercalate]
    simp [List.intersperse]

/-! Key. -/

/-- The library's table of lengths holds a number. -/
def MaxLenAt (w : World) : Prop := ∃ m : Int, w.cell? ⟨Tryd.lays146_ren.g 1, 0, none⟩ = some (.int .i64 m)
theorem MaxLenAt.lt {w : World} (h : MaxLenAt w) : Tryd.lays146_ren.g 1 < w.heap.size := by
  obtain ⟨m, h⟩ := h
  exact World.block_lt_of_cell? _ _ h
theorem MaxLenAt.below {n : Nat} {w w' : World} (h : MaxLenAt w) (hn : Tryd.lays146_ren.g 1 < n) (hb : Below n w w') : MaxLenAt w' := by
  obtain ⟨m, h⟩ := h
  exact ⟨m, (hb.cell (p := ⟨_, 0, none⟩) hn).trans h⟩

theorem dropDig_empty (s : ByteArray) (h : ¬ 0 < s.size) : dropDig s = s := by
  obtain ⟨⟨l⟩⟩ := s
  cases l with
  | nil => rfl
  | cons a l => exact absurd (by show 0 < (a :: l).length; simp) h

set_option maxRecDepth 8000 in
theorem trim_all (s : ByteArray) (w : World) :
    Calls Tryd.prog 35 #[.string s, .string ⟨#[48, 49, 50, 51, 52, 53, 54, 55, 56, 57]⟩] w fun e w' => e = .returned (.string (dropDig s)) ∧ Below w.heap.size w w' := by
  by_cases h0 : 0 < s.size
  · exact trimLeft_any s h0 w
  · have hs : s = ⟨#[]⟩ := by
      obtain ⟨⟨l⟩⟩ := s
      cases l with
      | nil => rfl
      | cons a l => exact absurd (by show 0 < (a :: l).length; simp) h0
    rw [dropDig_empty s h0]
    subst hs
    have h1 : (⟨#[]⟩ : ByteArray).size = 0 := rfl
    go_enter Tryd.func35, Tryd.ntmps35
    go_wp2_with fail
    go_ret
    exact ⟨rfl, Below.refl _ _⟩

theorem splitSep_any (s : ByteArray) (w : World) (hs : s.size ≤ 1000000) (hL : MaxLenAt w) :
    Calls Tryd.prog 34 #[.string s, .string ⟨#[58]⟩] w fun e w' =>
      e = .returned (.slice (some ⟨w.heap.size, 0, none⟩) (piecesOf s).length (piecesOf s).length) ∧ w' = w.alloc (.cells ((piecesOf s).map Value.string).toArray 9) := by
  obtain ⟨m, hm⟩ := hL
  have h := Any.strings_Split Tryd.lays146 Tryd.laysM146.i9 s ⟨#[58]⟩ m w (by omega) hm (by decide)
  have hl : (piecesOf s).length = Lib.countB s ⟨#[58]⟩ + 1 := Lib.splitB_all ⟨#[58]⟩ (by decide) 0 _ s rfl
  rw [hl]
  exact h

structure KeyInv (w wr : World) (l : List ByteArray) (i : Nat) : Prop where
  row : ∃ cur, wr.heap[w.heap.size]? = some (.cells cur 9 (0, 0)) ∧ cur.size = l.length ∧ ∀ j x, l[j]? = some x → cur[j]? = some (Value.string (if j = 0 ∨ i < j then x else dropDig x))
  below : Below w.heap.size w wr

theorem KeyInv.start (w : World) (l : List ByteArray) : KeyInv w (w.alloc (.cells (l.map Value.string).toArray 9)) l 0 := by
  refine ⟨⟨_, heap_alloc_new w _, by simp, fun j x hx => ?_⟩, (Below.refl _ _).alloc (Nat.le_refl _) _⟩
  rw [if_pos (by omega)]
  simp [hx]

theorem KeyInv.step {w wr : World} {l : List ByteArray} {i : Nat} (h : KeyInv w wr l i) {x : ByteArray} (hx : l[i + 1]? = some x) {w1 : World} (hb : Below wr.heap.size wr w1) :
    KeyInv w (w1.setCell ⟨w.heap.size, i + 1, none⟩ (.string (dropDig x))) l (i + 1) := by
  obtain ⟨⟨cur, h1, h2, h3⟩, hbel⟩ := h
  have h1' := (hb.block w.heap.size (Array.getElem?_eq_some_iff.1 h1).1).trans h1
  refine ⟨⟨_, setCell_block w1 w.heap.size (i + 1) cur _ _ _ h1', by simp [h2], fun j y hy => ?_⟩, (hbel.trans (hb.mono hbel.size)).setCell (p := ⟨w.heap.size, i + 1, none⟩) (Nat.le_refl _) _⟩
  rw [Array.getElem?_setIfInBounds]
  by_cases e : i + 1 = j
  · subst e
    have hlt := (List.getElem?_eq_some_iff.1 hx).1
    rw [if_pos rfl, if_pos (by omega), if_neg (by omega)]
    rw [hx] at hy; cases hy; rfl
  · rw [if_neg e, h3 j y hy]
    by_cases e2 : j = 0 ∨ i < j
    · rw [if_pos e2, if_pos (by omega)]
    · rw [if_neg e2, if_neg (by omega)]

theorem KeyInv.cell {w wr : World} {l : List ByteArray} {i : Nat} (h : KeyInv w wr l i) {x : ByteArray} (hx : l[i + 1]? = some x) :
    wr.cell? ⟨w.heap.size, i + 1, none⟩ = some (.string x) := by
  obtain ⟨⟨cur, h1, h2, h3⟩, _⟩ := h
  have := h3 (i + 1) x hx
  rw [if_pos (by omega)] at this
  exact block_cell h1 (i + 1) _ this
theorem KeyInv.free {w wr : World} {l : List ByteArray} {i : Nat} (h : KeyInv w wr l i) (j : Nat) : wr.frozen? ⟨w.heap.size, j, none⟩ = false := by
  obtain ⟨⟨cur, h1, h2, h3⟩, _⟩ := h
  exact block_free h1 j

theorem join_done {w wr : World} {s : ByteArray} {i : Nat} (h : KeyInv w wr (piecesOf s) i) (hi : (piecesOf s).length = i + 1) (hs : s.size ≤ 1000000) (hn : (piecesOf s).length ≤ 1000001) :
    Calls Tryd.prog 36 #[.slice (some ⟨w.heap.size, 0, none⟩) (piecesOf s).length (piecesOf s).length, .string ⟨#[]⟩] wr fun e w' => e = .returned (.string (keyOf s)) ∧ Below w.heap.size w w' := by
  obtain ⟨⟨cur, h1, h2, h3⟩, hb⟩ := h
  have hk : Lib.join ((trimmed (piecesOf s)).map (·.data.toList)) (⟨#[]⟩ : ByteArray).data.toList = keyFrom false s.data.toList := (join_empty _).trans (key_join s)
  have hsz := Lib.size_eq s
  have hj := Any.strings_Join Tryd.lays156 Tryd.Builder_Extra_156 w.heap.size 0 (piecesOf s).length (trimmed (piecesOf s)) ⟨#[]⟩ wr (fun j x hx => by
      rw [trimmed_get] at hx
      cases hp : (piecesOf s)[j]? with
      | none => rw [hp] at hx; cases hx
      | some y =>
        rw [hp, Option.map_some] at hx
        cases hx
        have hlt := (List.getElem?_eq_some_iff.1 hp).1
        have h4 := h3 j y hp
        rw [Nat.zero_add]
        refine block_cell h1 j _ ?_
        rw [h4]
        by_cases e : j = 0
        · rw [if_pos e, if_pos (Or.inl e)]
        · rw [if_neg e, if_neg (by omega)])
    (Array.getElem?_eq_some_iff.1 h1).1 (by rw [trimmed_length]; omega) (by rw [trimmed_length]; exact Nat.le_refl _)
    (by rw [hk]; exact Nat.le_trans (keyFrom_le _ _) (by omega))
  rw [trimmed_length, hk] at hj
  exact hj.mono fun e w' ⟨he, hw⟩ => ⟨he, hb.trans (hw.mono hb.size)⟩

theorem pieces_bd (s : ByteArray) (hs : s.size ≤ 1000000) : 1 ≤ (piecesOf s).length ∧ (piecesOf s).length ≤ 1000001 := by
  have h1 : (piecesOf s).length = Lib.countB s ⟨#[58]⟩ + 1 := Lib.splitB_all ⟨#[58]⟩ (by decide) 0 _ s rfl
  have h2 := Lib.countB_le ⟨#[58]⟩ (by decide) s.size s (Nat.le_refl _)
  omega

set_option maxRecDepth 8000 in
set_option maxHeartbeats 1000000 in
theorem key_any (c : Cx) (hs : c.call.size ≤ 1000000) (w : World) (hL : MaxLenAt w) :
    Calls Tryd.prog 19 #[cxV c] w fun e w' => e = .returned (.string (keyOf c.call)) ∧ Below w.heap.size w w' := by
  obtain ⟨q, s, t, a, b, d, u, v, z⟩ := c
  dsimp only at hs
  unfold cxV cxCells
  dsimp only
  obtain ⟨p0, p1⟩ := pieces_bd s hs
  obtain ⟨W, hW⟩ : ∃ W, w.alloc (.cells #[.int .i64 q, .string s, .int .i64 t, .bool a, .bool b, .int .i64 d, .int .i64 u, .int .i64 v, .int .i64 z] 31) = W := ⟨_, rfl⟩
  have hbx := heap_alloc_new w (.cells #[.int .i64 q, .string s, .int .i64 t, .bool a, .bool b, .int .i64 d, .int .i64 u, .int .i64 v, .int .i64 z] 31)
  have hb : Below w.heap.size w W := by rw [← hW]; exact (Below.refl _ _).alloc (Nat.le_refl _) _
  rw [hW] at hbx
  have HB := Lib.hid hb
  have HSP := Lib.hid (splitSep_any s W hs (hL.below hL.lt hb))
  have HJ := Lib.hid (fun wr i => @join_done W wr s i)
  have HST := Lib.hid (KeyInv.start W (piecesOf s))
  obtain ⟨l, hl⟩ : ∃ l, l = piecesOf s := ⟨_, rfl⟩
  rw [← hl] at p0 p1 HSP HST HJ
  have r0 := block_cell hbx 0 _ rfl
  have r1 := block_cell hbx 1 _ rfl
  have r2 := block_cell hbx 2 _ rfl
  have r3 := block_cell hbx 3 _ rfl
  have r4 := block_cell hbx 4 _ rfl
  have r5 := block_cell hbx 5 _ rfl
  have r6 := block_cell hbx 6 _ rfl
  have r7 := block_cell hbx 7 _ rfl
  have r8 := block_cell hbx 8 _ rfl
  clear hbx hb hL hl
  by_cases hone : l.length = 1
  · go_enter Tryd.func19, Tryd.ntmps19
    go_wp2_with fail
    refine HSP.out.mono ?_
    rintro e w1 ⟨rfl, hw1⟩
    rw [← hw1] at HST
    clear hw1 HSP
    have HJ1 := Lib.hid (HJ.out w1 0 HST.out (by omega) hs p1)
    rw [hone] at HJ1
    rw [hone]
    clear HJ HST
    go_wp2_with fail
    go_loopw [11] (fun v wr => v = .int .i64 0 ∧ wr = w1) (fun _ _ => 0)
    case atStart => exact ⟨rfl, rfl⟩
    case round =>
      obtain ⟨rfl, rfl⟩ := hrel
      go_wp2_with fail
      refine HJ1.out.mono ?_
      rintro e w2 ⟨rfl, hb2⟩
      have HB2 := Lib.hid (btrans HB.out hb2)
      clear hb2
      go_wp2_with fail
      go_ret
      exact ⟨rfl, HB2.out⟩
  · have p2 : 2 ≤ l.length := by omega
    go_enter Tryd.func19, Tryd.ntmps19
    go_wp2_with fail
    refine HSP.out.mono ?_
    rintro e w1 ⟨rfl, hw1⟩
    rw [← hw1] at HST
    clear hw1 HSP
    go_wp2_with fail
    go_loopw [11] (fun v wr => ∃ i : Nat, v = .int .i64 i ∧ i + 1 ≤ l.length ∧ KeyInv W wr l i) (fun v _ => (l.length - RowKit.intOf v).toNat)
    case atStart => exact ⟨0, rfl, by omega, HST.out⟩
    case round =>
      obtain ⟨i, rfl, hi, hinv⟩ := hrel
      have HI := Lib.hid hinv
      by_cases hik : i + 1 < l.length
      · have t1 : decide ((i : Int) < (l.length : Int) - 1) = true := decide_eq_true (by omega)
        have hx : l[i + 1]? = some l[i + 1] := List.getElem?_eq_getElem hik
        obtain ⟨x, hxx⟩ : ∃ x, x = l[i + 1] := ⟨_, rfl⟩
        rw [← hxx] at hx
        have c := hinv.cell hx
        have f := hinv.free (i + 1)
        have HT := Lib.hid (trim_all x wr)
        have HX := Lib.hid hx
        have g1 : IntKind.i64.wrap ((i : Int) + 1) = (i : Int) + 1 := IntWalk.i64_in _ (by omega)
        have i0 : (0 : Int) ≤ (i : Int) + 1 := by omega
        have i1 : (i : Int) + 1 < (l.length : Int) := by omega
        clear hx hxx
        go_wp2_with fail
        refine HT.out.mono ?_
        rintro e w2 ⟨rfl, hb2⟩
        have f2 := (hb2.frozen (p := ⟨W.heap.size, i + 1, none⟩) (World.block_lt_of_cell? _ _ c)).trans f
        have c2 := (hb2.cell (p := ⟨W.heap.size, i + 1, none⟩) (World.block_lt_of_cell? _ _ c)).trans c
        have HE : Hid (KeyInv W (w2.setCell ⟨W.heap.size, i + 1, none⟩ (.string (dropDig x))) l (i + 1)) := HI.out.step HX.out hb2
        clear hinv hb2 c f
        go_wp2_with fail
        go_roundw
        case rel => exact ⟨i + 1, by go_num, by omega, HE.out⟩
        case measure => simp [RowKit.intOf]; omega
      · have hli : l.length = i + 1 := by omega
        have t1 : decide ((i : Int) < (l.length : Int) - 1) = false := decide_eq_false (by omega)
        have HJ1 := Lib.hid (HJ.out wr i hinv hli hs p1)
        clear HJ hinv hli
        go_wp2_with fail
        refine HJ1.out.mono ?_
        rintro e w2 ⟨rfl, hb2⟩
        have HB2 := Lib.hid (btrans HB.out hb2)
        clear hb2
        go_wp2_with fail
        go_ret
        exact ⟨rfl, HB2.out⟩

end Go.Proofs.YtchjlkfkfcmhlaaDoor
