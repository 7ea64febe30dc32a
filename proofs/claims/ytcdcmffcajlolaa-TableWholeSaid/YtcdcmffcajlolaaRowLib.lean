/- From a law at the heap to what a row says: nothing that was there has changed. -/
import Derived.Test.YtcdcmffcajlolaaP
import Derived.Test.YtcdcmffcajlolaaDnN
import Derived.ProofKit
namespace Go.Dn
open Go.ChangeShapes Go.WideShapes Go.ChangeAt Go.RowKit

/-- All that was there. -/
def Was (h : Hp) : SP := fun B => ∀ b o, h[b]? = some o → B b = some o
def allA (h : Hp) : AH := fun b => h[b]?
theorem own_all (h : Hp) : Own [Was h] (allA h) := ⟨allA h, fun _ => none, fun _ => .inr rfl, Sub.refl _, (fun _ _ e => nomatch e), fun _ _ e => e, True.intro⟩
structure KeptH (h h' : Hp) : Prop where
  size : h.size ≤ h'.size
  old : ∀ b, b < h.size → h'[b]? = h[b]?
theorem kept_of {h h' : Hp} {A : AH} {L : Bx} {l : List SP} (s : Sim A L h') (o : Own (Was h :: l) A) : KeptH h h' := by
  obtain ⟨B, u, w⟩ := o.sat
  have hold : ∀ b, b < h.size → h'[b]? = h[b]? := fun b hb => by
    have e : h[b]? = some h[b] := by simp [hb]
    rw [e]
    exact s.sub _ _ (u _ _ (w _ _ e))
  refine ⟨?_, hold⟩
  rcases Nat.lt_or_ge h'.size h.size with g | g
  · have h1 := hold h'.size g
    simp [g] at h1
  · exact g
/-- What a law's call does: it answers so, and all that was there is as it was. -/
def Tells (r : Value) (w : World) : Ending → World → Prop := fun e w' => e = .returned r ∧ Below w.heap.size w w'
theorem tells_of {w w' : World} {e : Ending} {r : Value} (h : callQ (fun v h' => v = r ∧ KeptH w.heap h') (fun _ _ => False) w e w') : Tells r w e w' := by
  obtain ⟨k, h⟩ := h
  cases e with
  | returned v =>
    obtain ⟨rfl, kp⟩ := h
    exact ⟨rfl, ⟨k.os, k.tape, k.out, kp.size, fun b hb => kp.old b hb⟩⟩
  | panicked ch => obtain ⟨_, _, h⟩ := h; exact h.elim
  | outgrown => exact h.elim
theorem lawQ {w : World} {v : Value} {A' : AH} {h' : Hp} {r : Value} (s : Sim A' [] h') (h : v = r ∧ Own [Was w.heap] A') : v = r ∧ KeptH w.heap h' := ⟨h.1, kept_of s h.2⟩
theorem i64_wf {c : Int} (h : (Lit.int .i64 c).wf = true) : -9223372036854775808 ≤ c ∧ c < 9223372036854775808 := by
  have h2 : (decide (IntKind.i64.min ≤ c) && decide (c ≤ IntKind.i64.max)) = true := h
  rw [show IntKind.i64.min = -9223372036854775808 by decide, show IntKind.i64.max = 9223372036854775807 by decide] at h2
  simp at h2
  exact ⟨h2.1, by omega⟩
theorem u64_wf0 {c : Int} (h : (Lit.int .u64 c).wf = true) : 0 ≤ c ∧ c < 18446744073709551616 := by
  have h2 : (decide (IntKind.u64.min ≤ c) && decide (c ≤ IntKind.u64.max)) = true := h
  rw [show IntKind.u64.min = 0 by decide, show IntKind.u64.max = 18446744073709551615 by decide] at h2
  simp at h2
  exact ⟨h2.1, by omega⟩
end Go.Dn
