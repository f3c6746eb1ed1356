/- The attempts of a call: of one name, with numbers of their own (plain). -/
import Derived.Test.YtkpjjhiighakfaaGreatDoorN1
namespace Go.Proofs.YtkpjjhiighakfaaGreatDoor
open Go.RowKit

/-- What does not change from attempt to attempt. -/
def Same (c d : Cx) : Prop := d.call = c.call ∧ d.req = c.req ∧ d.dl = c.dl ∧ d.ver = c.ver
def SameS (c : Cx) (l : List Ac) : Prop := ∀ a ∈ l, a.what = 1 → Same c a.c
theorem SameS.no {c : Cx} {l : List Ac} (h : NoSend l) : SameS c l := fun a ha h1 => absurd h1 (h a ha)
theorem SameS.append {c : Cx} {l l' : List Ac} (h : SameS c l) (h' : SameS c l') : SameS c (l ++ l') := fun a ha => (List.mem_append.1 ha).elim (h a) (h' a)
theorem fur_sameS (S : CS) (now : Int) (B : Bk) : SameS S.c (S.furL now B) := by
  unfold CS.furL
  split
  · intro a ha _
    rw [List.mem_singleton.1 ha]; exact ⟨rfl, rfl, rfl, rfl⟩
  · exact .no .nil
theorem go_sameS (S : CS) (now : Int) (B : Bk) : SameS S.c (S.goL now B) := by
  unfold CS.goL
  split
  · exact fur_sameS { S with due := false } now B
  · split
    · exact fur_sameS S now B
    · exact .no .nil
theorem begin_sameS (S : CS) (now : Int) : SameS S.c (S.beginL now) := by
  unfold CS.beginL
  split
  · exact .no .nil
  · intro a ha _
    rw [List.mem_singleton.1 ha]; exact ⟨rfl, rfl, rfl, rfl⟩
theorem act_sameS {c : Cx} {S S1 : CS} {l : List Ac} (h : SameS c l) : SameS c (actL S S1 l) := by
  unfold actL
  split
  · exact .no .nil
  · exact h.append (.no (finL_no S1))
theorem wake_sameS {S : CS} (hok : S.Ok) {now : Int} (hn : -1000000000 ≤ now ∧ now ≤ 1000000) (B : Bk) : SameS S.c (S.wakeL now B) := by
  have ht := toS_ok hok hn
  unfold CS.wakeL
  split
  · exact .no .nil
  · split
    · exact .no (toS_no S now)
    · have h := go_sameS (S.toS now).1 now B
      rw [ht.c] at h
      exact (SameS.no (toS_no S now)).append h
theorem do_sameS {S : CS} (hok : S.Ok) {now : Int} (hn : -1000000000 ≤ now ∧ now ≤ 1000000) (B : Bk) (t : St) : SameS S.c (S.doL B now t) := by
  unfold CS.doL
  split
  · exact act_sameS (.no .nil)
  · exact act_sameS (wake_sameS hok hn B)
theorem first_sameS (x : Cx) (y : Pol) : SameS x (newS x y).firstL := act_sameS (begin_sameS (newS x y) 0)

def namesOf (l : List Ac) : List ByteArray := (l.filter fun a => decide (a.what = 1)).map fun a => a.c.span
theorem names_append (l l' : List Ac) : namesOf (l ++ l') = namesOf l ++ namesOf l' := by simp [namesOf]
theorem names_more {L : List Ac} {k : Nat} {a : Ac} (h : L[k]? = some a) : namesOf (L.take (k + 1)) = namesOf (L.take k) ++ if a.what = 1 then [a.c.span] else [] := by
  rw [(take_at h).1, names_append]
  congr 1
  unfold namesOf
  by_cases hw : a.what = 1
  · rw [if_pos hw, List.filter_cons_of_pos (by simpa using hw)]; rfl
  · rw [if_neg hw, List.filter_cons_of_neg (by simpa using hw)]; rfl

theorem span_try {c : Cx} (h : 1 ≤ c.try_) : c.span = c.call ++ ⟨#[58]⟩ ++ digit c.try_.toNat := if_pos (by omega)
theorem span_ne {c d : Cx} (hc : c.call = d.call) (h1 : 1 ≤ c.try_ ∧ c.try_ ≤ 9) (h2 : 1 ≤ d.try_ ∧ d.try_ ≤ 9) (hne : c.try_ ≠ d.try_) : c.span ≠ d.span := by
  intro e
  rw [span_try h1.1, span_try h2.1, hc] at e
  have h := congrArg (fun s : ByteArray => s.data.toList) e
  rw [data_append, data_append] at h
  have h3 := List.append_cancel_left h
  have h4 : UInt8.ofNat (48 + c.try_.toNat) = UInt8.ofNat (48 + d.try_.toNat) := by
    have : [UInt8.ofNat (48 + c.try_.toNat)] = [UInt8.ofNat (48 + d.try_.toNat)] := h3
    injection this
  have h5 := congrArg UInt8.toNat h4
  rw [UInt8.toNat_ofNat', UInt8.toNat_ofNat'] at h5
  omega

theorem names_new {x : Cx} {L : List Ac} (hg : GoodSends L) (hs : SameS x L) (h8 : sentOf L ≤ 8) {k : Nat} {a : Ac} (h : L[k]? = some a) (hw : a.what = 1) :
    (a.c.try_ = (sentOf (L.take k) : Int) + 1 ∧ a.c.try_ ≤ 8) ∧ ∀ nm ∈ namesOf (L.take k), nm ≠ a.c.span := by
  obtain ⟨t1, t2⟩ := take_at h
  have ha := (hg _ _ _ t2 hw).2
  have hsm := hs a (List.mem_of_getElem? h) hw
  have hle : sentOf (L.take k) + 1 ≤ sentOf L := by
    have := sent_take L (k + 1)
    rw [t1, sentOf_append, sentOf_cons, if_pos hw] at this
    omega
  refine ⟨⟨ha, by omega⟩, fun nm hnm => ?_⟩
  obtain ⟨b, hb, rfl⟩ := List.mem_map.1 hnm
  obtain ⟨hb1, hb2⟩ := List.mem_filter.1 hb
  have hbw : b.what = 1 := by simpa using hb2
  obtain ⟨A, F, he⟩ := List.append_of_mem hb1
  have t3 : L = A ++ b :: (F ++ a :: L.drop (k + 1)) := t2.trans (by rw [he]; simp)
  have hbt := (hg A b (F ++ a :: L.drop (k + 1)) t3 hbw).2
  have hlt : sentOf A + 1 ≤ sentOf (L.take k) := by rw [he, sentOf_append, sentOf_cons, if_pos hbw]; omega
  have hbm := hs b (List.mem_of_mem_take hb1) hbw
  exact span_ne (hbm.1.trans hsm.1.symm) ⟨by omega, by omega⟩ ⟨by omega, by omega⟩ (by omega)

end Go.Proofs.YtkpjjhiighakfaaGreatDoor
