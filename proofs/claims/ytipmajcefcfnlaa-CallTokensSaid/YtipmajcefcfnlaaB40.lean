/- CallTokens: the plain law. -/
import Derived.Test.YtipmajcefcfnlaaB39
namespace Go.Proofs.Ytipmajcefcfnlaa
open Go.RowKit

/-- What a call takes out of the bucket: a token for each attempt but its first. -/
structure Took (S S' : CS) (B B' : Bk) : Prop where
  of : B'.of = B.of
  per : B'.per = B.per
  most : B'.most = B.most
  made : S.made ≤ S'.made ∧ S'.made ≤ S.made + 1
  all : (S'.made - S.made) * B.of + B'.parts = B.parts

theorem Took.refl' {S S' : CS} (h : S'.made = S.made) (B : Bk) : Took S S' B B := ⟨rfl, rfl, rfl, ⟨by omega, by omega⟩, by rw [h, Int.sub_self, Int.zero_mul, Int.zero_add]⟩

theorem fur_took (S : CS) (now : Int) (B : Bk) : Took S (S.furS now B) B (S.furB now B) := by
  cases hm : S.mayS now B with
  | false =>
    have hr := furR_no hm
    rw [hr.s, hr.k]; exact .refl' rfl B
  | true =>
    have hr := furR_yes hm
    obtain ⟨_, _, _, h4⟩ := mayS_of hm
    rw [hr.s, hr.k]
    unfold Bk.take
    rw [if_pos h4]
    refine ⟨rfl, rfl, rfl, ⟨by show S.made ≤ S.made + 1; omega, Int.le_refl _⟩, ?_⟩
    show (S.made + 1 - S.made) * B.of + (B.parts - B.of) = B.parts
    rw [show S.made + 1 - S.made = 1 by omega, Int.one_mul]; omega

theorem go_took (S : CS) (now : Int) (B : Bk) : Took S (S.goS now B) B (S.goB now B) := by
  unfold CS.goS CS.goB
  split
  · have h := fur_took { S with due := false } now B
    split
    · exact ⟨h.of, h.per, h.most, h.made, h.all⟩
    · have hm : CS.mayS { S with due := false } now B = false := by simp_all
      have hr := furR_no hm
      rw [hr.k]
      split <;> exact .refl' (S := S) (by exact rfl) B
  · split
    · have h := fur_took S now B
      split
      · exact h
      · have hm : CS.mayS S now B = false := by simp_all
        have hr := furR_no hm
        rw [hr.k]; exact .refl' (S := S) (by exact rfl) B
    · exact .refl' rfl B

theorem wake_took {S : CS} (hok : S.Ok) {now : Int} (hn : -1000000000 ≤ now ∧ now ≤ 1000000) (B : Bk) : Took S (S.wakeS now B) B (S.wakeB now B) := by
  have ht := toS_ok hok hn
  unfold CS.wakeS CS.wakeB
  split
  · exact .refl' (S := S) (by exact rfl) B
  · split
    · exact .refl' ht.made B
    · have h := go_took (S.toS now).1 now B
      refine ⟨h.of, h.per, h.most, ?_, ?_⟩
      · rw [← ht.made]; exact h.made
      · rw [← ht.made]; exact h.all

theorem do_took {S : CS} (hok : S.Ok) {now : Int} (hn : -1000000000 ≤ now ∧ now ≤ 1000000) (B : Bk) (t : St) : Took S (S.doS B now t) B (S.doB B now t) := by
  unfold CS.doS CS.doB
  split
  · have hs := (ans_spent S now t.try_ t.e t.not_).act
    rcases hs.how with ⟨_, h, _⟩ | ⟨A, a, F, he, _, hF, ha, _⟩
    · exact .refl' h B
    · exfalso
      have : a ∈ actL S (S.ansS now t.try_ t.e t.not_) [] := by rw [he]; simp
      unfold actL at this
      split at this
      · cases this
      · rw [List.nil_append] at this
        exact finL_no _ a this ha
  · have h := wake_took hok hn B
    unfold actS actB
    split
    · exact .refl' rfl B
    · have hf := (fin_same (S.wakeS now B)).2.2.1
      refine ⟨h.of, h.per, h.most, ?_, ?_⟩
      · rw [hf]; exact h.made
      · rw [hf]; exact h.all

/-- So many further attempts were made behind so many calls. -/
structure Paid2 (y : Pol) (B : Bk) (calls more : Int) : Prop where
  of : B.of = y.of
  per : B.per = y.per
  most : B.most = y.burst * y.of
  all : more * y.of + B.parts ≤ y.burst * y.of + calls * y.per
  ok : B.Ok
  pos : 0 ≤ more

theorem paid2_fresh {y : Pol} {B : Bk} {calls more : Int} (h : Paid2 y B calls more) (hf : B.fresh.Ok) : Paid2 y B.fresh (calls + 1) more := by
  obtain ⟨h1, h2, h3, h4, h5, h6⟩ := h
  have e : (calls + 1) * y.per = calls * y.per + y.per := by rw [Int.add_mul, Int.one_mul]
  refine ⟨h1, h2, h3, ?_, hf, h6⟩
  show more * y.of + min (B.parts + B.per) B.most ≤ _
  rw [e, ← h2]; rw [← h2] at h4; omega

theorem paid2_done {y : Pol} {B : Bk} {calls more : Int} (h : Paid2 y B calls more) (ho : 1 ≤ y.of) : more ≤ y.burst + calls * y.per / y.of := by
  obtain ⟨h1, h2, h3, h4, h5, h6⟩ := h
  have hp := h5.parts.1
  have h7 : more * y.of ≤ y.burst * y.of + calls * y.per := by omega
  have h8 : (y.burst * y.of + calls * y.per) / y.of = y.burst + calls * y.per / y.of := by
    rw [Int.add_comm, Int.add_mul_ediv_right _ _ (by omega), Int.add_comm]
  rw [← h8]
  exact (Int.le_ediv_iff_mul_le (by omega)).2 h7

end Go.Proofs.Ytipmajcefcfnlaa
