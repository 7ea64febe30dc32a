/- BootmapRanges: ranges are merged and taken away. -/
import Derived.Test.YthplpkndhmhahaaP
import Derived.Test.YthplpkndhmhahaaInputs
import Derived.Test.YthplpkndhmhahaaLawRanges
import Derived.Test.YthplpkndhmhahaaFlat
import Derived.Test.YthplpkndhmhahaaOpenB
import Derived.Test.YthplpkndhmhahaaRows
import Derived.Lib.SmallJoins
namespace Go.Proofs.Ythplpkndhmhahaa
open Go.Joins Go.ChangeShapes Go.WideShapes Go.ChangeAt Go.RowKit Go.Dn

theorem Try.own : ownKnob Try.prog.godebug = none := by kernel_rfl
theorem Try.laidOut : laidOutB Try.prog = true := by kernel_rfl
theorem Try.mixedOK : Try.prog.follows .mixedOrders = true := Checked.mixed Try.checked
theorem ranges_any (w : World) (s0 : Sl) (l0 : List Rg) (hr0 : Reads (Was w.heap) s0 2 (l0.flatMap rgE)) (hq0 : ∀ x ∈ l0, (fun _ => True) x) (hl0 : l0.length < 9223372036854775808 ∧ s0.len ≤ s0.cap ∧ (s0.a = none → l0 = [])) (s1 : Sl) (l1 : List Rg) (hr1 : Reads (Was w.heap) s1 2 (l1.flatMap rgE)) (hq1 : ∀ x ∈ l1, (fun _ => True) x) (hl1 : l1.length < 9223372036854775808 ∧ s1.len ≤ s1.cap ∧ (s1.a = none → l1 = [])) :
    Calls Try.prog 4 #[.slice s0.a s0.len s0.cap, .slice s1.a s1.len s1.cap] w (Tells (.bool true) w) := by
  have hE : demesnelaw06_BootmapRanges_A s0 s1 (fun r0 A => Value.bool r0 = Value.bool true ∧ Dn.Own [Was w.heap] A) (allA w.heap) := BootmapRanges_spec (k := 0) (k2 := 0) (own_all w.heap) rfl hr0 hl0.2.1 hl0.2.2 rfl hr1 hl1.2.1 hl1.2.2 (fun A h => ⟨rfl, h⟩)
  have hok := demesnelaw06_BootmapRanges_ok Try.mixedOK
  obtain ⟨F, hF⟩ : ∃ F, F = demesnelaw06_BootmapRanges_A := ⟨_, rfl⟩
  rw [← hF] at hE hok
  have hc := callA hok [.slice s0.a s0.len s0.cap, .slice s1.a s1.len s1.cap] (fun v h' => v = Value.bool true ∧ KeptH w.heap h') w (KA := fun v A => v = Value.bool true ∧ Dn.Own [Was w.heap] A) hE (fun v A' h' s h => lawQ s h)
  exact hc.mono fun e w' h => tells_of h
set_option maxRecDepth 100000 in
theorem ranges_lifted (os : Os) (started : os.Started) (H : Type) (enc : TypeId × Value → H) :
    ReturnsInHanded {} Try.checked os 4 .any (Rows.bootmapRangesSpec.pre6 enc Try.prog Try.f4 Rows.bootmapRangesRow.domain false) (Rows.bootmapRangesSpec.post enc Try.prog Try.f4 false true false false) := by
  refine returnsInHanded_of_change (C := Try.checked) Try.own started (by kernel_rfl) Try.func4
    (ChangeSpec.witness6 (enc := enc) (C := Try.checked) false ⟨#[], #[.slice none 0 0, .slice none 0 0], []⟩ 8 (by kernel_rfl) (by kernel_rfl) (by kernel_rfl) (by kernel_rfl)) ?_
  intro W base args ds gs before hval0 hW hcnd _
  have hval : ∀ (j : Nat) t v, Try.f4.params[j]? = some t → args[j]? = some v → Value.okWide Try.prog W .any base t v := hval0
  have hW' := hW
  obtain ⟨p, q, hA0, hV, rfl, hfz, hnd⟩ := hW
  have hA : DataW.TrodAll enc Try.prog W 0 (fun _ => true) true Try.f4.params.toList args.toList ds p := hA0
  rw [Try.params4] at hA hval
  have hAk := hA
  obtain ⟨args⟩ := args
  obtain ⟨v0, as0, d0, ds0, p0, q0, e0, rfl, rfl, h0, g0⟩ := trodAll_cons hA
  obtain ⟨v1, as1, d1, ds1, p1, q1, e1, rfl, rfl, h1, g1⟩ := trodAll_cons g0
  obtain ⟨ee, rfl, rfl⟩ := trodAll_nil g1
  subst ee
  subst e1
  have e0 : args = _ := e0
  subst e0
  obtain ⟨rfl, rfl⟩ := trodVars_none hV
  have hlt := hW'.lt
  obtain ⟨s0, l0, rfl, hr0, hq0, hl0⟩ := open_elems rgE (fun _ => True) 2 (by decide) (fun _ => rfl) Try.underlying38 (by kernel_rfl) (fun n cs y hy => open_rg (flat_ok 9 44 [.i .i64, .i .i64] n cs y (by kernel_rfl) hy)) (hval 0 38 v0 rfl rfl) h0
  obtain ⟨s1, l1, rfl, hr1, hq1, hl1⟩ := open_elems rgE (fun _ => True) 2 (by decide) (fun _ => rfl) Try.underlying38 (by kernel_rfl) (fun n cs y hy => open_rg (flat_ok 9 44 [.i .i64, .i .i64] n cs y (by kernel_rfl) hy)) (hval 1 38 v1 rfl rfl) h1
  refine (ranges_any W s0 l0 hr0 hq0 hl0 s1 l1 hr1 hq1 hl1).mono fun e W' ⟨he, hb⟩ => ?_
  subst he
  refine ⟨_, rfl, _, _, _, [], _, [], hW', trodAll_mk1 (shut_bool Try.underlying4 true), allBelow Try.laidOut hb (by kernel_rfl) hAk (fun x hx => hlt x (by simp at hx ⊢; exact hx)), ?_, hb.frame _, fun h => by cases h⟩
  rfl
theorem ranges_holds : Rows.BootmapRangesSaid :=
  OpenClaim.holds_of_wide 4 Try.f4 rfl rfl rfl rfl rfl rfl rfl ⟨rfl, rfl, rfl, rfl, rfl⟩ rfl rfl rfl rfl rfl (by kernel_rfl) Try.func4 (by kernel_rfl)
    (of_decide_eq_true (by kernel_rfl)) (by unfold Func.isWrapper; first | (rw [if_pos (by decide +kernel)]; kernel_rfl) | (rw [if_neg (by decide +kernel)]; exact ⟨rfl, rfl⟩))
    (fun os started H enc _ => ranges_lifted os started H enc)
end Go.Proofs.Ythplpkndhmhahaa
