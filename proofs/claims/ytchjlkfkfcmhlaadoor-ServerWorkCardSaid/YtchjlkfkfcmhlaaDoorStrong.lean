/- A drawn region walked under S: S may be made stronger on the way. -/
import Derived.Test.YtchjlkfkfcmhlaaDoorSplit
namespace Go.Proofs.YtchjlkfkfcmhlaaDoor
open Go.RowKit

theorem wpAnyH_strong {P : Program} {md : Region.Mode} {ops : Array Oper} {Q : Exit → Act → World → Prop} {S S' : World → Prop} (h : ∀ w, S' w → S w) : ∀ {_fuel : Nat} {listed : Array Bool} {a : Act} {w : World}, wpAnyH P md ops Q S' _fuel listed a w → wpAnyH P md ops Q S _fuel listed a w
  | 0, _, _, _, k => k
  | _ + 1, _, _, _, k => ⟨k.1, fun i hi => wpOp_mono (fun _ w' ⟨h1, h2⟩ => ⟨h w' h1, wpAnyH_strong h h2⟩) (k.2 i hi)⟩

theorem then_eta (Q : Exit → Act → World → Prop) : Exit.then (Q .normal) Q = Q := by funext e a w; cases e <;> rfl

/-- A drawn region whose tail is forced, in front of anything. -/
theorem wp_region_split_any {P : Program} {id : Nat} {l : List Oper} (n : Nat) (S : World → Prop) {Q : Exit → Act → World → Prop} {a : Act} {w : World} (hm : P.follows .mixedOrders = true) (hB : headB l n = true) (hS : S w.drew)
    (h : ∀ K0 : Act → World → Prop, (∀ a w, wpList P l.toArray Q (l.drop n) a w → K0 a w) → S w.drew → wpAnyH P .any (l.take n).toArray (Exit.then K0 Q) S (l.take n).toArray.size (Array.replicate (l.take n).toArray.size false) a w.drew) :
    (Code.region id l.toArray true).wp P Q a w := by
  have k := wp_region_split_held (P := P) (id := id) (l := l) n S (K := Q .normal) (Q' := Q) (a := a) (w := w) hm hB hS (by rw [then_eta]; exact h)
  rwa [then_eta] at k

end Go.Proofs.YtchjlkfkfcmhlaaDoor
