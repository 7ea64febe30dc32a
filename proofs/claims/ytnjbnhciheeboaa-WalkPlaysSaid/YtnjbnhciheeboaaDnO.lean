/- From a part of the heap back to the whole: what was there is there still. -/
import Derived.Test.YtnjbnhciheeboaaDnN
namespace Go.Dn

/-- All that was there. -/
def Was (h : Hp) : SP := fun B => ∀ b o, h[b]? = some o → B b = some o
def hotZ (h : Hp) : Nat → Prop := fun b => ∃ o, h[b]? = some o ∧ ¬ coldO o
def allA (h : Hp) : AH := fun b => h[b]?
theorem sim_all (h : Hp) : Sim (hotZ h) (allA h) [] h where
  cold b o e := by
    by_cases c : coldO o
    · exact .inl c
    · exact .inr ⟨o, e, c⟩
  sub _ _ e := e
  box _ m := by simp at m
  apart := List.Pairwise.nil
theorem own_all (h : Hp) : Own [Was h] (allA h) := ⟨allA h, fun _ => none, fun _ => .inr rfl, Sub.refl _, (fun _ _ e => nomatch e), fun _ _ e => e, True.intro⟩
structure KeptH (h h' : Hp) : Prop where
  size : h.size ≤ h'.size
  old : ∀ b, b < h.size → h'[b]? = h[b]?
  froz : ∀ a, frozH h' a = frozH h a
theorem kept_of {h h' : Hp} {A : AH} {L : Bx} {l : List SP} (s : Sim (hotZ h) A L h') (o : Own (Was h :: l) A) : KeptH h h' := by
  obtain ⟨B, u, w⟩ := o.sat
  have hold : ∀ b, b < h.size → h'[b]? = h[b]? := fun b hb => by
    have e : h[b]? = some h[b] := by simp [hb]
    rw [e]
    exact s.sub _ _ (u _ _ (w _ _ e))
  have hsz : h.size ≤ h'.size := by
    rcases Nat.lt_or_ge h'.size h.size with g | g
    · have h1 := hold h'.size g
      simp [g] at h1
    · exact g
  refine ⟨hsz, hold, fun a => ?_⟩
  unfold frozH
  by_cases g : a.block < h.size
  · rw [hold _ g]
  · have e : h[a.block]? = none := by simp; omega
    rw [e]
    cases e2 : h'[a.block]? with
    | none => rfl
    | some o =>
      rcases s.cold _ _ e2 with c | ⟨o2, c, _⟩
      · cases o with
        | cells c2 t f =>
          have c : f = (0, 0) := c
          subst c
          simp
        | _ => rfl
      · rw [e] at c; cases c
end Go.Dn
