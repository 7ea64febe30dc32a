/- A memory, made. -/
import Derived.Test.YtcdcmffcajlolaaSlices
import Derived.Test.YtcdcmffcajlolaaMaps
namespace Go.Dn

variable {A : AH} {l : List SP} {r : Nat} {fr : Int} {hs : List (Int × Int)} {M : Int → Int}
theorem Own.nilO {sz : Nat} (h : Own l A) : Own (SlO Sl.nil sz [] :: l) A := ⟨fun _ => none, _, fun _ => .inl rfl, (fun b o e => nomatch e), Sub.refl _, SlO.nil, h⟩
def holeOK (fr : Int) (p : Int × Int) : Bool := !(decide (p.1 < 0)) && !(decide (p.2 < p.1)) && !(decide (p.2 > fr))
def newCode (fr : Int) (hs : List (Int × Int)) : Int := if fr < 1 then 1 else if fr > 1048576 then 4 else if hs.length > 64 then 4 else if hs.all (holeOK fr) then 0 else 3
theorem New_spec {k : Nat} {s : Sl} {Q : Option Addr → Int → AH → Prop} (h : Own l A) (e : l[k]? = some (SlAt s 2 (holeCells hs))) (hn : newCode fr hs ≠ 0 → Q none (newCode fr hs) A)
    (hk : newCode fr hs = 0 → ∀ r A', Own (RamS r fr hs (fun _ => 0) :: l) A' → Q (some ⟨r, 0, none⟩) 0 A') : ram_New_A fr s Q A := by
  have hlen : s.len * 2 = hs.length * 2 := by rw [← holeCells_len]; exact sl_len h e
  have hlen : s.len = hs.length := by omega
  unfold ram_New_A
  unfold newCode at hn hk
  refine bsel_in (fun c => ?_) fun c => ?_
  · have c : fr < 1 := by simpa using c
    rw [if_pos c] at hn; exact hn (by decide)
  have c : ¬ fr < 1 := by simpa using c
  rw [if_neg c] at hn hk
  refine ⟨fun h2 => h2 = A ∧ ¬ fr > 1048576 ∧ ¬ hs.length > 64, ?_, bsel_in (fun c2 => ?_) fun c2 => bsel_in (fun c3 => ?_) fun c3 => ⟨rfl, by simpa using c2, by simp [hlen] at c3; omega⟩⟩
  rotate_left
  · have c2 : fr > 1048576 := by simpa using c2
    rw [if_pos c2] at hn; exact hn (by decide)
  · have c2 : ¬ fr > 1048576 := by simpa using c2
    rw [if_neg c2] at hn
    have c3 : hs.length > 64 := by simp [hlen] at c3; omega
    rw [if_pos c3] at hn; exact hn (by decide)
  intro A0 ⟨e0, c2, c3⟩
  subst e0
  rw [if_neg c2] at hn hk
  rw [if_neg c3] at hn hk
  refine ⟨fun x m h' => h' = A0 ∧ ∃ j : Nat, x = j ∧ j ≤ hs.length ∧ m = hs.length - j ∧ (hs.take j).all (holeOK fr) = true, ⟨_, rfl, 0, rfl, by omega, rfl, by simp⟩, ?_⟩
  intro x m h' ⟨e1, j, e2, e3, e4, e5⟩
  subst e1 e2 e4
  refine bsel_in (fun c4 => ?_) fun c4 => ?_
  · have c4 : j < hs.length := by simp [hlen] at c4; omega
    obtain ⟨p, hp⟩ : ∃ p, hs[j]? = some p := ⟨hs[j], by simp [c4]⟩
    obtain ⟨h1, h2⟩ := holeCells_at hp
    obtain ⟨b, o, g1, g2⟩ := sl_cell h e h1
    obtain ⟨b', o', g3, g4⟩ := sl_cell h e h2
    rw [g1] at g3
    cases g3
    rw [g1]
    refine inB_in (by omega) (by rw [hlen]; omega) ⟨p.1, ?_, p.2, ?_, ?_⟩
    · rw [add_at]; simpa using g2
    · rw [add_at, add_at]; simpa [Nat.add_assoc] using g4
    have hbad : holeOK fr p = false → Q none 3 h' := fun q => by
      have : hs.all (holeOK fr) = false := by
        rw [List.all_eq_false]
        exact ⟨p, List.mem_of_getElem? hp, by simp [q]⟩
      rw [this] at hn
      exact hn (by decide)
    refine bsel_in (fun c5 => hbad (by unfold holeOK; rw [c5]; rfl)) fun c5 => ?_
    refine bsel_in (fun c6 => hbad (by unfold holeOK; rw [c5, c6]; rfl)) fun c6 => ?_
    refine bsel_in (fun c7 => hbad (by unfold holeOK; rw [c5, c6, c7]; rfl)) fun c7 => ?_
    refine ⟨hs.length - (j + 1), by omega, rfl, j + 1, by rw [w64] <;> omega, by omega, rfl, ?_⟩
    rw [List.take_add_one, hp]
    simp only [List.all_append, e5, Option.toList_some, List.all_cons, List.all_nil, Bool.and_true, Bool.true_and]
    unfold holeOK
    rw [c5, c6, c7]; rfl
  · have : j = hs.length := by simp [hlen] at c4; omega
    subst this
    rw [List.take_length] at e5
    rw [e5] at hk
    have hnone : s.a = none → holeCells hs = [] := by
      intro q
      obtain ⟨B, _, hB⟩ := Own.get e h
      by_cases g : holeCells hs = []
      · exact g
      · obtain ⟨b, pre, rest, hb, _⟩ := hB.2.2 g
        rw [q] at hb; cases hb
    refine ap_head (i := k) h.nilO e hnone (fun _ => rfl) rfl ?_ ⟨by simp [Sl.nil, hlen]; omega, by simp [Sl.nil, hlen]; omega⟩ fun s' A' hs1 hs2 h1 => ?_
    · intro v hv
      simp only [holeCells, List.mem_flatMap] at hv
      obtain ⟨p, _, hv⟩ := hv
      simp at hv
      rcases hv with rfl | rfl <;> rfl
    refine new_M (k := .i64) h1 fun mb A2 h2 => ?_
    refine new_C h2 fun r A3 h3 => ?_
    refine hk rfl r A3 ?_
    refine Own.imp (P := Own (ramL r fr hs s' mb (fun _ => 0) [])) (fun B hB => ⟨s', mb, [], ⟨by simp, fun _ => by omega, fun _ _ _ => rfl⟩, hB⟩) ?_
    refine Own.app ?_
    show Own (_ :: SlAt s' 2 (holeCells hs) :: MapI mb .i64 [] :: l) A3
    refine h3.cons fun C hC => ?_
    exact Own.imp (fun B hB => hB.look) hC.swap

end Go.Dn
