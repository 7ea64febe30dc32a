/- What the proof stands on: RowLib, Inputs. -/
import Derived.Test.YthplpkndhmhahaaDnN
import Derived.Test.YthplpkndhmhahaaP
import Derived.ProofKit
import Derived.Deep.Slices
import Derived.Deep.Strs
import Derived.Lib.SmallJoins
/- From a law at the heap to what a row says: nothing that was there has changed. -/
namespace Go.Dn
open Go.ChangeShapes Go.WideShapes Go.ChangeAt Go.RowKit

/-- All that was there. -/
def Was (h : Hp) : SP := fun B => ∀ b o, h[b]? = some o → B b = some o
def allA (h : Hp) : AH := fun b => h[b]?
theorem own_all (h : Hp) : Own [Was h] (allA h) := ⟨allA h, fun _ => none, fun _ => .inr rfl, Sub.refl _, (fun _ _ e => nomatch e), fun _ _ e => e, True.intro⟩
structure KeptH (h h' : Hp) : Prop where
  size : h.size ≤ h'.size
  old : ∀ b, b < h.size → h'[b]? = h[b]?
theorem kept_of {h h' : Hp} {A : AH} {L : Bx} {l : List SP} (s : Sim A L h') (o : Own (Was h :: l) A) : KeptH h h' := by
  obtain ⟨B, u, w⟩ := o.sat
  have hold : ∀ b, b < h.size → h'[b]? = h[b]? := fun b hb => by
    have e : h[b]? = some h[b] := by simp [hb]
    rw [e]
    exact s.sub _ _ (u _ _ (w _ _ e))
  refine ⟨?_, hold⟩
  rcases Nat.lt_or_ge h'.size h.size with g | g
  · have h1 := hold h'.size g
    simp [g] at h1
  · exact g
/-- What a law's call does: it answers so, and all that was there is as it was. -/
def Tells (r : Value) (w : World) : Ending → World → Prop := fun e w' => e = .returned r ∧ Below w.heap.size w w'
theorem tells_of {w w' : World} {e : Ending} {r : Value} (h : callQ (fun v h' => v = r ∧ KeptH w.heap h') (fun _ _ => False) w e w') : Tells r w e w' := by
  obtain ⟨k, h⟩ := h
  cases e with
  | returned v =>
    obtain ⟨rfl, kp⟩ := h
    exact ⟨rfl, ⟨k.os, k.tape, k.out, kp.size, fun b hb => kp.old b hb⟩⟩
  | panicked ch => obtain ⟨_, _, h⟩ := h; exact h.elim
  | outgrown => exact h.elim
theorem lawQ {w : World} {v : Value} {A' : AH} {h' : Hp} {r : Value} (s : Sim A' [] h') (h : v = r ∧ Own [Was w.heap] A') : v = r ∧ KeptH w.heap h' := ⟨h.1, kept_of s h.2⟩
theorem i64_wf {c : Int} (h : (Lit.int .i64 c).wf = true) : -9223372036854775808 ≤ c ∧ c < 9223372036854775808 := by
  have h2 : (decide (IntKind.i64.min ≤ c) && decide (c ≤ IntKind.i64.max)) = true := h
  rw [show IntKind.i64.min = -9223372036854775808 by decide, show IntKind.i64.max = 9223372036854775807 by decide] at h2
  simp at h2
  exact ⟨h2.1, by omega⟩
theorem u64_wf0 {c : Int} (h : (Lit.int .u64 c).wf = true) : 0 ≤ c ∧ c < 18446744073709551616 := by
  have h2 : (decide (IntKind.u64.min ≤ c) && decide (c ≤ IntKind.u64.max)) = true := h
  rw [show IntKind.u64.min = 0 by decide, show IntKind.u64.max = 18446744073709551615 by decide] at h2
  simp at h2
  exact ⟨h2.1, by omega⟩
end Go.Dn
/- What a row's slices read as, in the heap as it was. -/
namespace Go.Dn
open Go.Deep Go.Joins Go.ChangeShapes Go.WideShapes Go.ChangeAt Go.RowKit

theorem reads_was {h : Hp} {a : Addr} {len cap sz : Nat} {cs : List Value} (hl : len * sz = cs.length) (hc : ∀ j v, cs[j]? = some v → cellH h (a.add j) = some v) : Reads (Was h) ⟨some a, len, cap⟩ sz cs := by
  intro B A hB u
  refine ⟨hl, fun j v hv => ?_⟩
  have hj := (List.getElem?_eq_some_iff.1 hv).1
  have h0 := hc 0 cs[0] (by simp [show 0 < cs.length by omega])
  have hs : a.spot = none := by
    have h1 : a.add 0 = a := by simp [Addr.add]
    rw [h1] at h0
    unfold cellH at h0
    split at h0
    · cases hsp : a.spot with
      | none => rfl
      | some _ => rw [hsp] at h0; simp at h0
    · cases h0
  obtain ⟨b, o, sp⟩ := a
  simp only at hs
  subst hs
  refine ⟨b, o, rfl, ?_⟩
  have h2 := hc j v hv
  rw [add_at] at h2
  unfold cellH at h2
  unfold cellA
  split at h2
  · rename_i c t f hb
    rw [u _ _ (hB _ _ hb)]
    exact h2
  · cases h2
theorem reads_nil {h : Hp} {sz : Nat} : Reads (Was h) Sl.nil sz [] := fun _ _ _ _ => ⟨by simp [Sl.nil], fun j v hv => by simp at hv⟩

end Go.Dn
