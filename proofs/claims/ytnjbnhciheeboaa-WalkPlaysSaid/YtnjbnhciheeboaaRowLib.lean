/- From a law at the heap to what a row says: nothing that was there has changed. -/
import Derived.Test.YtnjbnhciheeboaaP
import Derived.Test.YtnjbnhciheeboaaG
import Derived.Test.YtnjbnhciheeboaaDnO
import Derived.ProofKit
namespace Go.Dn
open Go.ChangeShapes Go.WideShapes Go.ChangeAt Go.RowKit

/-- What a law's call does: it answers true, and all that was there is as it was. -/
def Tells (r : Value) (w : World) : Ending → World → Prop := fun e w' => e = .returned r ∧ Below w.heap.size w w' ∧ ∀ a, w'.frozen? a = w.frozen? a
theorem tells_of {w w' : World} {e : Ending} {r : Value} (h : callQ (fun v h' => v = r ∧ KeptH w.heap h') (fun _ _ => False) w e w') : Tells r w e w' := by
  obtain ⟨k, h⟩ := h
  cases e with
  | returned v =>
    obtain ⟨rfl, kp⟩ := h
    exact ⟨rfl, ⟨k.os, k.tape, k.out, kp.size, fun b hb => kp.old b hb⟩, fun a => kp.froz a⟩
  | panicked ch => obtain ⟨_, _, h⟩ := h; exact h.elim
  | outgrown => exact h.elim
end Go.Dn
