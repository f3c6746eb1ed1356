/- An act, done to a ledger that is sound. -/
import Derived.Test.YtedoalpijbggiaaDoorP8
import Derived.Test.YtedoalpijbggiaaDoorP9
namespace Go.Proofs.YtedoalpijbggiaaDoor
open Go.RowKit
attribute [local go_sem ↓] Go.wp_at_zero Go.wp_at_succ

def dec (r : Int) : ByteArray := ⟨(Lib.itoa r).toArray⟩
theorem dec_digit (r : Nat) (h1 : 1 ≤ r) (h2 : r ≤ 9) : dec r = digit r := by
  unfold dec Lib.itoa
  rw [if_neg (by omega), show (r : Int).toNat = r by omega, (digit_facts r h1 h2).2.1]
  rfl

/-- A new ledger out of an old one, its memory beside all else. -/
def Did (w : World) (gb lb sb : Nat) (L' : Led) (er : Int) (e : Ending) (w' : World) : Prop := e = .returned (.int .i64 er) ∧ ChInv w w' gb lb sb L' ∧ L'.Ok

def Led.mintS (L : Led) (r n : Int) : Led := if L.mintE r n = 0 then L.does r n 0 [(dec r, n)] else L
def Led.moveS (L : Led) (s t : ByteArray) (n : Int) : Led := if L.moveE (reqOf s) (reqOf t) s n = 0 then L.does (reqOf s) 0 0 [(s, -n), (t, n)] else L
def Led.spendS (L : Led) (s : ByteArray) (n : Int) : Led := if L.spendE (reqOf s) s n = 0 then L.does (reqOf s) 0 n [(s, -n)] else L

theorem ch_did {w w' : World} {gb lb sb : Nat} {L L1 L2 : Led} {er : Int} {e : Ending} (h : ChAny w gb lb sb L L1 er e w') (h2 : L2 = if er = 0 then L1 else L) (hok : L2.Ok) : Did w gb lb sb L2 er e w' := by
  obtain ⟨h3, h4⟩ := h
  rw [← h2] at h4
  exact ⟨h3, h4, hok⟩

def ItoaAt (w : World) (r : Int) : Prop := ∀ W, Below w.heap.size w W → Calls Tryd.prog 41 #[.int .i64 r] W fun e w' => e = .returned (.string (dec r)) ∧ Below W.heap.size W w'

theorem mint_ok {w : World} {gb lb sb : Nat} {L : Led} (h : LedAt w gb lb sb L) (hok : L.Ok) (r n : Int) (hit : ItoaAt w r) (hown : 1 ≤ r → r ≤ 2147483647 → reqOf (dec r) = r) :
    Calls Tryd.prog 29 #[.pointer (some ⟨gb, 0, none⟩), .int .i64 r, .int .i64 n] w (Did w gb lb sb (L.mintS r n) (L.mintE r n)) := by
  have hm := fun k => hok.most k
  have hs := fun k => hok.spent k
  have hd := fun k => hok.held k
  have hl := hok.left_most (dec r)
  have hE : L.mintE r n = 0 → 1 ≤ r ∧ r ≤ 2147483647 ∧ 0 ≤ n ∧ n ≤ 2147483647 := fun h0 => by
    unfold Led.mintE at h0
    split at h0
    · cases h0
    · omega
  refine (mint_any h r n (dec r) hit (fun h0 => ?_) (fun h0 => ?_) (fun h0 => ?_)).mono fun e w' hc => ch_did hc rfl ?_
  · have := hE h0; have := hm r; have := hs r; have := hd r; exact IntWalk.i64_in _ (by omega)
  · have := hm r; have := hs r; have := hd r; exact IntWalk.i64_in _ (by omega)
  · have := hE h0; exact IntWalk.i64_in _ (by omega)
  · unfold Led.mintS
    split
    · rename_i h0
      exact hok.mint h0 (hown (hE h0).1 (hE h0).2.1)
    · exact hok

theorem wrap_neg (n : Int) (h : -9223372036854775808 ≤ n ∧ n ≤ 9223372036854775807) : ∃ nn, IntKind.i64.wrap (-n) = nn ∧ (0 ≤ n → nn = -n) :=
  ⟨_, rfl, fun h0 => IntWalk.i64_in _ (by omega)⟩

theorem move_ok {w : World} {gb lb sb : Nat} {L : Led} (h : LedAt w gb lb sb L) (hok : L.Ok) (s t : ByteArray) (n : Int) (hn : -9223372036854775808 ≤ n ∧ n ≤ 9223372036854775807) (hr : ReqAt w s (reqOf s)) (hrt : ReqAt w t (reqOf t)) :
    Calls Tryd.prog 22 #[.pointer (some ⟨gb, 0, none⟩), .string s, .string t, .int .i64 n] w (Did w gb lb sb (L.moveS s t n) (L.moveE (reqOf s) (reqOf t) s n)) := by
  have hm := fun k => hok.most k
  have hs := fun k => hok.spent k
  have hd := fun k => hok.held k
  have hl := hok.left_most s
  have hl2 := hok.left_most t
  obtain ⟨nn, hnn, hneg⟩ := wrap_neg n hn
  refine (move_any h s t (reqOf s) (reqOf t) n nn hr hrt (fun h0 => ?_) (fun h0 => ?_) (fun h0 => ?_) (fun h0 => ?_) hnn).mono fun e w' hc => ch_did hc ?_ ?_
  · have := hm (reqOf s); have := hs (reqOf s); have := hd (reqOf s); exact IntWalk.i64_in _ (by omega)
  · have := hm (reqOf s); have := hs (reqOf s); have := hd (reqOf s); exact IntWalk.i64_in _ (by omega)
  · obtain ⟨n0, _, _, _, n1⟩ := moveE_ok h0
    rw [hneg n0]
    exact IntWalk.i64_in _ (by omega)
  · obtain ⟨n0, _, _, _, n1⟩ := moveE_ok h0
    rw [hneg n0]
    have : (L.shift (s, -n)).left t = if t = s then L.left s + -n else L.left t := rfl
    rw [this]
    refine IntWalk.i64_in _ ?_
    split <;> omega
  · unfold Led.moveS
    split
    · rename_i h0
      rw [hneg (moveE_ok h0).1]
    · rfl
  · unfold Led.moveS
    split
    · rename_i h0
      exact hok.move h0
    · exact hok

theorem spend_ok {w : World} {gb lb sb : Nat} {L : Led} (h : LedAt w gb lb sb L) (hok : L.Ok) (s : ByteArray) (n : Int) (hn : -9223372036854775808 ≤ n ∧ n ≤ 9223372036854775807) (hr : ReqAt w s (reqOf s)) :
    Calls Tryd.prog 23 #[.pointer (some ⟨gb, 0, none⟩), .string s, .int .i64 n] w (Did w gb lb sb (L.spendS s n) (L.spendE (reqOf s) s n)) := by
  have hm := fun k => hok.most k
  have hs := fun k => hok.spent k
  have hd := fun k => hok.held k
  have hl := hok.left_most s
  obtain ⟨nn, hnn, hneg⟩ := wrap_neg n hn
  refine (spend_any h s (reqOf s) n nn hr (fun h0 => ?_) (fun h0 => ?_) (fun h0 => ?_) hnn).mono fun e w' hc => ch_did hc ?_ ?_
  · have := hm (reqOf s); have := hs (reqOf s); have := hd (reqOf s); exact IntWalk.i64_in _ (by omega)
  · obtain ⟨n0, _, _, n1⟩ := spendE_ok h0
    have := hm (reqOf s); have := hs (reqOf s); have := hd (reqOf s); exact IntWalk.i64_in _ (by omega)
  · obtain ⟨n0, _, _, n1⟩ := spendE_ok h0
    rw [hneg n0]
    exact IntWalk.i64_in _ (by omega)
  · unfold Led.spendS
    split
    · rename_i h0
      rw [hneg (spendE_ok h0).1]
    · rfl
  · unfold Led.spendS
    split
    · rename_i h0
      exact hok.spend h0
    · exact hok

/-- Sum of a ledger that is sound. -/
theorem sum_ok {w : World} {gb lb sb : Nat} {L : Led} (h : LedAt w gb lb sb L) (hok : L.Ok) (r : Int) :
    Calls Tryd.prog 18 #[.pointer (some ⟨gb, 0, none⟩), .int .i64 r] w fun e w' => e = .returned (.tuple #[.int .i64 ((L.sum r).1 - (L.sum r).2), .int .i64 (L.sum r).2]) ∧ Below w.heap.size w w' := by
  have := hok.most r; have := hok.spent r; have := hok.held r
  exact sum_any h r (by omega) (by omega)

def Led.actE (L : Led) (a : PA) : Int := if a.do_ = 0 then L.mintE a.req a.n else if a.do_ = 1 then L.moveE (reqOf a.from_) (reqOf a.to) a.from_ a.n else L.spendE (reqOf a.from_) a.from_ a.n
def Led.actS (L : Led) (a : PA) : Led := if a.do_ = 0 then L.mintS a.req a.n else if a.do_ = 1 then L.moveS a.from_ a.to a.n else L.spendS a.from_ a.n

/-- What an act asks of the library's functions. -/
structure ActEnv (w : World) (a : PA) : Prop where
  n : -9223372036854775808 ≤ a.n ∧ a.n ≤ 9223372036854775807
  it : a.do_ = 0 → ItoaAt w a.req
  own : a.do_ = 0 → 1 ≤ a.req → a.req ≤ 2147483647 → reqOf (dec a.req) = a.req
  rf : a.do_ ≠ 0 → ReqAt w a.from_ (reqOf a.from_)
  rt : a.do_ = 1 → ReqAt w a.to (reqOf a.to)

theorem ActEnv.keep {w w' : World} {a : PA} (h : ActEnv w a) (hb : Below w.heap.size w w') : ActEnv w' a :=
  ⟨h.n, fun h0 W hW => h.it h0 W (btrans hb hW), h.own, fun h0 => (h.rf h0).keep hb, fun h0 => (h.rt h0).keep hb⟩

theorem Holder.at_ {r : Nat} {s : ByteArray} (h : Holder r s) (w : World) : ReqAt w s (reqOf s) := fun W _ => by rw [h.req]; exact request_any h W

theorem digit_req (r : Nat) (h1 : 1 ≤ r) (h2 : r ≤ 9) : reqOf (digit r) = r :=
  (holder_of h1 h2 (show (digit r).data.toList = UInt8.ofNat (48 + r) :: [] from rfl) ⟨by simp, .inl rfl⟩ (by simp)).req

theorem itoaAt_digit (r : Nat) (h1 : 1 ≤ r) (h2 : r ≤ 9) (w : World) : ItoaAt w r := fun W _ => by
  rw [dec_digit r h1 h2]
  exact (itoa_any r h2 h1 W).mono fun e w' ⟨a, b⟩ => ⟨a, by rw [b]; exact Below.refl _ _⟩

theorem PA.Ok.env {a : PA} (h : a.Ok) (w : World) : ActEnv w a := by
  obtain ⟨r, hr, h1, h2, hh⟩ := h.req
  obtain ⟨r', h1', h2', hh'⟩ := h.to
  exact ⟨by have := h.n; omega, fun _ => by rw [hr]; exact itoaAt_digit r h1 (by omega) w, fun _ _ _ => by rw [hr, dec_digit r h1 (by omega)]; exact digit_req r h1 (by omega), fun _ => hh.at_ w, fun _ => hh'.at_ w⟩

set_option maxRecDepth 8000 in
set_option maxHeartbeats 1000000 in
theorem does_any {w : World} {gb lb sb : Nat} {L : Led} (h : LedAt w gb lb sb L) (hok : L.Ok) (a : PA) (env : ActEnv w a) :
    Calls Tryd.prog 15 #[.pointer (some ⟨gb, 0, none⟩), .agg #[.int .i64 a.do_, .int .i64 a.req, .string a.from_, .string a.to, .int .i64 a.n]] w (Did w gb lb sb (L.actS a) (L.actE a)) := by
  obtain ⟨W, hW⟩ : ∃ W, w.alloc (.cells #[.int .i64 a.do_, .int .i64 a.req, .string a.from_, .string a.to, .int .i64 a.n] 24) = W := ⟨_, rfl⟩
  have hb : Below w.heap.size w W := by rw [← hW]; exact (Below.refl _ _).alloc (Nat.le_refl _) _
  have hbx := heap_alloc_new w (.cells #[.int .i64 a.do_, .int .i64 a.req, .string a.from_, .string a.to, .int .i64 a.n] 24)
  rw [hW] at hbx
  have k0 := block_cell hbx 0 _ rfl
  have k1 := block_cell hbx 1 _ rfl
  have k2 := block_cell hbx 2 _ rfl
  have k3 := block_cell hbx 3 _ rfl
  have k4 := block_cell hbx 4 _ rfl
  have fin : ∀ (L' : Led) (er : Int) (e : Ending) (w' : World), Did W gb lb sb L' er e w' → Did w gb lb sb L' er e w' := fun _ _ _ _ ⟨h1, h2, h3⟩ => ⟨h1, ⟨h2.at_, (Fr.ofBelow (F := LF lb sb) hb).trans h2.fr (fun b h => .inl h)⟩, h3⟩
  have FIN := Lib.hid fin
  have HA : Hid (L.actE a = (if a.do_ = 0 then L.mintE a.req a.n else if a.do_ = 1 then L.moveE (reqOf a.from_) (reqOf a.to) a.from_ a.n else L.spendE (reqOf a.from_) a.from_ a.n) ∧ L.actS a = if a.do_ = 0 then L.mintS a.req a.n else if a.do_ = 1 then L.moveS a.from_ a.to a.n else L.spendS a.from_ a.n) := ⟨rfl, rfl⟩
  obtain ⟨hA1, hA2⟩ := HA.out
  have henv := env.keep hb
  by_cases h0 : a.do_ = 0
  · rw [if_pos h0] at hA1 hA2
    have HC := Lib.hid (mint_ok (h.below hb) hok a.req a.n (henv.it h0) (henv.own h0))
    have t0 : (a.do_ == 0) = true := by rw [h0]; rfl
    rw [hA1, hA2]
    clear h env henv hA1 hA2 hbx hb fin h0 HA
    go_enter Tryd.func15, Tryd.ntmps15
    go_wp2_with fail
    refine HC.out.mono ?_
    rintro e w1 hd
    have HD := Lib.hid (FIN.out _ _ _ _ hd)
    obtain ⟨rfl, -, -⟩ := hd
    go_wp2_with fail
    go_ret
    exact HD.out
  · have t0 : (a.do_ == 0) = false := beq_eq_false_iff_ne.2 h0
    rw [if_neg h0] at hA1 hA2
    by_cases h1 : a.do_ = 1
    · rw [if_pos h1] at hA1 hA2
      have HC := Lib.hid (move_ok (h.below hb) hok a.from_ a.to a.n henv.n (henv.rf h0) (henv.rt h1))
      have t1 : (a.do_ == 1) = true := by rw [h1]; rfl
      rw [hA1, hA2]
      clear h env henv hA1 hA2 hbx hb fin h0 h1 HA
      go_enter Tryd.func15, Tryd.ntmps15
      go_wp2_with fail
      refine HC.out.mono ?_
      rintro e w1 hd
      have HD := Lib.hid (FIN.out _ _ _ _ hd)
      obtain ⟨rfl, -, -⟩ := hd
      go_wp2_with fail
      go_ret
      exact HD.out
    · rw [if_neg h1] at hA1 hA2
      have HC := Lib.hid (spend_ok (h.below hb) hok a.from_ a.n henv.n (henv.rf h0))
      have t1 : (a.do_ == 1) = false := beq_eq_false_iff_ne.2 h1
      rw [hA1, hA2]
      clear h env henv hA1 hA2 hbx hb fin h0 h1 HA
      go_enter Tryd.func15, Tryd.ntmps15
      go_wp2_with fail
      refine HC.out.mono ?_
      rintro e w1 hd
      have HD := Lib.hid (FIN.out _ _ _ _ hd)
      obtain ⟨rfl, -, -⟩ := hd
      go_wp2_with fail
      go_ret
      exact HD.out

end Go.Proofs.YtedoalpijbggiaaDoor
