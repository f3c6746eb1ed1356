/- does, lives. -/
import Derived.Test.YtkpjjhiighakfaaGreatDoorB25
namespace Go.Proofs.YtkpjjhiighakfaaGreatDoor
open Go.RowKit
attribute [local go_sem ↓] Go.wp_at_zero Go.wp_at_succ

/-- A row that holds something, told by its cells: in every world in which its block is as it was. -/
theorem row_rec {w : World} {T s n : Nat} {v : Value} {cs : List Value} {sb : Option Nat} (h : RowAt w T s v n cs sb) (hn : 0 < n) :
    ∃ g off cap, v = .slice (some ⟨g, off, none⟩) n cap ∧ sb = some g ∧ ∀ W : World, W.heap[g]? = w.heap[g]? → ∀ k u, cs[k]? = some u → W.cell? ⟨g, off + k, none⟩ = some u := by
  have h0 := h
  rcases h.2.2 with ⟨_, h1, _⟩ | ⟨g, off, cap, cur, hv, hs, hh, _, _, _, _⟩
  · omega
  · refine ⟨g, off, cap, hv, hs, fun W hW k u hk => ?_⟩
    subst hv
    have hl : k < n * s := by rw [← h0.1]; exact (List.getElem?_eq_some_iff.1 hk).1
    rw [World.cell?_of_block (a := ⟨g, off + k, none⟩) hW, RowAt.cell h0 k hl, hk]

theorem flat_get {α : Type} (f : α → List Value) (s : Nat) (hf : ∀ a, (f a).length = s) : ∀ (l : List α) (i : Nat) (a : α), l[i]? = some a → ∀ j, j < s → (l.flatMap f)[i * s + j]? = (f a)[j]?
  | [], _, _, h, _, _ => by simp at h
  | b :: l, 0, a, h, j, hj => by
    have : b = a := by simpa using h
    subst this
    rw [List.flatMap_cons, Nat.zero_mul, Nat.zero_add, List.getElem?_append_left (by rw [hf]; exact hj)]
  | b :: l, i + 1, a, h, j, hj => by
    rw [List.flatMap_cons, List.getElem?_append_right (by rw [hf, Nat.succ_mul]; omega), hf, show (i + 1) * s + j - s = i * s + j by rw [Nat.succ_mul]; omega]
    exact flat_get f s hf l i a (by simpa using h) j hj

/-- One step. -/
def CS.doS (S : CS) (B : Bk) (now : Int) (t : St) : CS := if t.do_ < 3 then actS S (S.ansS now t.try_ t.e t.not_) else actS S (S.wakeS now B)
def CS.doB (S : CS) (B : Bk) (now : Int) (t : St) : Bk := if t.do_ < 3 then B else actB S B (S.wakeB now B)
def CS.doL (S : CS) (B : Bk) (now : Int) (t : St) : List Ac := if t.do_ < 3 then actL S (S.ansS now t.try_ t.e t.not_) [] else actL S (S.wakeS now B) (S.wakeL now B)

def stVal (t : St) : Value := .agg #[.int .i64 t.wait, .int .i64 t.do_, .int .i64 t.try_, .int .i64 t.e, .int .i64 t.not_]

set_option maxRecDepth 8000 in
theorem does_any {w : World} {cb mb bb : Nat} {S : CS} {B : Bk} (h : CallAt w cb mb bb S B) (hok : S.Ok) (hB : B.Ok) (now : Int) (hn : -1000000000 ≤ now ∧ now ≤ 1000000) (t : St) (ht : -1000000000 ≤ t.not_ ∧ t.not_ ≤ 1000000) :
    Calls Tryz.prog 7 #[.pointer (some ⟨cb, 0, none⟩), .int .i64 now, stVal t] w (Did w cb mb bb (S.doS B now t) (S.doB B now t) (S.doL B now t)) := by
  have hb : ∀ ob, Below w.heap.size w (w.alloc ob) := fun ob => (Below.refl _ _).alloc (Nat.le_refl _) ob
  have HB := Lib.hid hb
  unfold stVal
  by_cases hd : t.do_ < 3
  · have HE : Hid (S.doS B now t = actS S (S.ansS now t.try_ t.e t.not_) ∧ S.doB B now t = B ∧ S.doL B now t = actL S (S.ansS now t.try_ t.e t.not_) []) := by unfold CS.doS CS.doB CS.doL; rw [if_pos hd, if_pos hd, if_pos hd]; exact ⟨rfl, rfl, rfl⟩
    rw [HE.out.1, HE.out.2.1, HE.out.2.2]
    have HA := Lib.hid (fun ob => answer_any (h.below (hb ob)) hok now t.try_ t.e t.not_ hn ht)
    clear h hok hB hn ht hb
    go_enter Tryz.func7, Tryz.ntmps7
    go_wp2_with fail
    refine (HA.out _).mono ?_
    rintro e w' ⟨v, rfl, hg⟩
    have HG := Lib.hid (hg.before (HB.out _))
    clear hg
    go_wp2_with fail
    go_ret
    exact ⟨_, rfl, HG.out⟩
  · have HE : Hid (S.doS B now t = actS S (S.wakeS now B) ∧ S.doB B now t = actB S B (S.wakeB now B) ∧ S.doL B now t = actL S (S.wakeS now B) (S.wakeL now B)) := by unfold CS.doS CS.doB CS.doL; rw [if_neg hd, if_neg hd, if_neg hd]; exact ⟨rfl, rfl, rfl⟩
    rw [HE.out.1, HE.out.2.1, HE.out.2.2]
    have HA := Lib.hid (fun ob => wake_any (h.below (hb ob)) hok hB now hn)
    clear h hok hB hn ht hb
    go_enter Tryz.func7, Tryz.ntmps7
    go_wp2_with fail
    refine (HA.out _).mono ?_
    rintro e w' ⟨v, rfl, hg⟩
    have HG := Lib.hid (hg.before (HB.out _))
    clear hg
    go_wp2_with fail
    go_ret
    exact ⟨_, rfl, HG.out⟩

/-! The document's example. -/

def exC : Cx := ⟨1, ⟨#[49]⟩, 0, false, false, 900, 3, 1, 0⟩
def exP : Pol := ⟨50, 3, 10, 0, 1, 1, 5⟩
def exB : Bk := ⟨1, 1, 5, 5⟩
def exS0 : CS := newS exC exP
def exS1 : CS := actS exS0 (exS0.beginS 0)
def exS2 : CS := actS exS1 (exS1.ansS 5 1 35 0)
def exS3 : CS := actS exS2 (exS2.wakeS 15 exB)
def exL1 : List Ac := actL exS0 (exS0.beginS 0) (exS0.beginL 0)
def exL2 : List Ac := actL exS1 (exS1.ansS 5 1 35 0) []
def exL3 : List Ac := actL exS2 (exS2.wakeS 15 exB) (exS2.wakeL 15 exB)
theorem newS_ok {c : Cx} {p : Pol} (h1 : 0 ≤ p.tmo ∧ p.tmo ≤ 1000000) (h2 : p.tries ≤ 8) (h3 : 0 ≤ p.back ∧ p.back ≤ 1000) (h4 : 0 ≤ p.hedge ∧ p.hedge ≤ 1000000) (h5 : 0 ≤ c.dl ∧ c.dl ≤ 1000000) (h6 : 0 ≤ c.purse ∧ c.purse ≤ 1000) : (newS c p).Ok :=
  ⟨h1, h2, h3, h4, h5, ⟨by show (0 : Int) ≤ 0; omega, by show (0 : Int) ≤ 8; omega⟩, h6, ⟨by show (-1000000000 : Int) ≤ 0; omega, by show (0 : Int) ≤ 1000000000; omega⟩, fun e => (by cases e), List.Pairwise.nil, fun x hx => (by cases hx), fun x hx => (by cases hx)⟩
theorem exS0_ok : exS0.Ok := newS_ok (by decide) (by decide) (by decide) (by decide) (by decide) (by decide)
theorem exS1_ok : exS1.Ok := exS0_ok.act (exS0_ok.begin (by decide) (by decide))
theorem exS2_ok : exS2.Ok := exS1_ok.act (exS1_ok.ans _ _ (by decide) (by decide))
theorem exB_ok : exB.Ok := ⟨by decide, by decide, by decide, by decide⟩
theorem exL1_len : exL1.length = 2 := by rfl
theorem exL2_len : exL2.length = 1 := by rfl
theorem exL3_len : exL3.length = 2 := by rfl
theorem ex_cells : (acsCells exL1)[0]? = some (.int .i64 1) ∧ (acsCells exL1)[8]? = some (.int .i64 1) ∧ (acsCells exL2)[0]? = some (.int .i64 2) ∧ (acsCells exL2)[1]? = some (.int .i64 15) ∧ (acsCells exL3)[4]? = some (.int .i64 2) ∧ (acsCells exL3)[8]? = some (.int .i64 0) ∧ exS3.left = 1 := by
  refine ⟨rfl, rfl, rfl, rfl, rfl, rfl, rfl⟩

set_option maxRecDepth 8000 in
set_option maxHeartbeats 1000000 in
theorem lives_any (w : World) : Calls Tryz.prog 11 #[] w fun e w' => e = .returned (.bool true) ∧ Below w.heap.size w w' := by
  go_enter Tryz.func11, Tryz.ntmps11
  go_wp2_with fail
  refine (bnew_any 1 1 5 _ (by omega) (by omega)).mono ?_
  rintro e w1 ⟨bb, rfl, hbb, hbk, hb1⟩
  go_wp2_with fail
  refine (cnew_any exC exP bb _).mono ?_
  rintro e w2 ⟨cb, mb, rfl, hcall, hcb, hmb, hb2⟩
  have hbl := (Array.getElem?_eq_some_iff.1 hbk).1
  have h0 : CallAt w2 cb mb bb exS0 exB := ⟨hcall, (hb2.block _ hbl).trans hbk, hcall.ne, by omega, by omega⟩
  have hb2' := btrans hb1 hb2
  have HB2 := Lib.hid hb2'
  have hcl := hcall.lt
  have HC0 : Hid (Calls Tryz.prog 5 #[.pointer (some ⟨cb, 0, none⟩), .int .i64 0] w2 (Did w2 cb mb bb exS1 exB exL1)) := begin_any h0 exS0_ok (by decide) 0 (by omega)
  clear hbk hcall hb1 hb2 hb2' h0
  go_wp2_with fail
  refine HC0.out.mono ?_
  rintro e w3 ⟨v1, rfl, ⟨h1, ⟨s1, r1, q1⟩, f1⟩⟩
  have HC1 : Hid (Calls Tryz.prog 20 #[.pointer (some ⟨cb, 0, none⟩), .int .i64 5, .int .i64 1, .int .i64 35, .int .i64 0] w3 (Did w3 cb mb bb exS2 exB exL2)) := answer_any h1 exS1_ok 5 1 35 0 (by omega) (by omega)
  clear h1
  go_wp2_with fail
  refine HC1.out.mono ?_
  rintro e w4 ⟨v2, rfl, ⟨h2, ⟨s2, r2, q2⟩, f2⟩⟩
  have HC2 : Hid (Calls Tryz.prog 21 #[.pointer (some ⟨cb, 0, none⟩), .int .i64 15] w4 (Did w4 cb mb bb exS3 (actB exS2 exB (exS2.wakeB 15 exB)) exL3)) := wake_any h2 exS2_ok exB_ok 15 (by omega)
  clear h2
  go_wp2_with fail
  refine HC2.out.mono ?_
  rintro e w5 ⟨v3, rfl, ⟨h3, ⟨s3, r3, q3⟩, f3⟩⟩
  have HPU := Lib.hid (cpurse_any h3.call)
  have HPF := ex_cells.2.2.2.2.2.2
  rw [HPF] at HPU
  clear HPF
  obtain ⟨g1, o1, c1, rfl, rfl, k1⟩ := row_rec r1 (by rw [exL1_len]; omega)
  obtain ⟨g2, o2, c2, rfl, rfl, k2⟩ := row_rec r2 (by rw [exL2_len]; omega)
  obtain ⟨g3, o3, c3, rfl, rfl, k3⟩ := row_rec r3 (by rw [exL3_len]; omega)
  have z2 := f2.size
  have z3 := f3.size
  have j1 := k1 w5 ((f3.block g1 (by have := r1.lt g1 rfl; omega) (q1 g1 rfl).2).trans (f2.block g1 (r1.lt g1 rfl) (q1 g1 rfl).2))
  have j2 := k2 w5 (f3.block g2 (r2.lt g2 rfl) (q2 g2 rfl).2)
  have j3 := k3 w5 rfl
  have a1 := j1 0 _ ex_cells.1
  have a2 := j1 8 _ ex_cells.2.1
  have a3 := j2 0 _ ex_cells.2.2.1
  have a4 := j2 1 _ ex_cells.2.2.2.1
  have a5 := j3 4 _ ex_cells.2.2.2.2.1
  have a6 := j3 8 _ ex_cells.2.2.2.2.2.1
  rw [Nat.add_zero] at a1 a3
  have e1 := exL1_len
  have e2 := exL2_len
  have e3 := exL3_len
  have HFIN : Hid (Below w.heap.size w w5) := by
    have hz := HB2.out.size
    have hf : Fr (CFoot cb mb bb) w w5 := (Fr.ofBelow (F := CFoot cb mb bb) HB2.out).trans ((f1.trans f2 (fun _ h => .inl h)).trans f3 (fun _ h => .inl h)) (fun _ h => .inl h)
    exact hf.toBelow fun k hk hc => by unfold CFoot at hc; omega
  clear j1 j2 j3 k1 k2 k3 r1 r2 r3 q1 q2 q3 f1 f2 f3 h3
  go_wp2_with fail
  refine HPU.out.mono ?_
  rintro e w6 ⟨rfl, rfl⟩
  go_wp2_with fail
  go_ret
  exact ⟨rfl, HFIN.out⟩

end Go.Proofs.YtkpjjhiighakfaaGreatDoor
