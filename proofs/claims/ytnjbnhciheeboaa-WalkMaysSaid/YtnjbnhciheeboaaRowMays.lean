/- WalkMays: an access may be, or not, as the page says. -/
import Derived.Test.YtnjbnhciheeboaaRows
import Derived.Test.YtnjbnhciheeboaaRowLib
import Derived.Test.YtnjbnhciheeboaaLawMays
import Derived.Lib.SmallJoins
namespace Go.Proofs.Ytnjbnhciheeboaa
open Go.Joins Go.ChangeShapes Go.WideShapes Go.ChangeAt Go.RowKit Go.Dn

theorem Try.own : ownKnob Try.prog.godebug = none := by kernel_rfl
theorem Try.laidOut : laidOutB Try.prog = true := by kernel_rfl
theorem Try.mixedOK : Try.prog.follows .mixedOrders = true := Checked.mixed Try.checked
theorem mays_any (p0 p1 p2 p3 p4 p5 : Bool) (w : World) :
    Calls Try.prog 4 #[.agg #[.bool p0, .bool p1, .bool p2], .agg #[.bool p3, .bool p4, .bool p5]] w (Tells (.bool true) w) := by
  have hE : demesnelaw04_WalkMays p0 p1 p2 p3 p4 p5 (fun r0 h' => Value.bool r0 = Value.bool true ∧ KeptH w.heap h') w.heap := by
    refine demesnelaw04_WalkMays_pro (Q2 := fun r A => r = true ∧ Own [Was w.heap] A) ?_ (sim_all w.heap) (WalkMays_A (own_all w.heap) fun A' h => ⟨rfl, h⟩)
    intro r A h s ⟨e, o⟩
    subst e
    exact ⟨rfl, kept_of s o⟩
  have hc := (demesnelaw04_WalkMays_ok Try.mixedOK).call [.agg #[.bool p0, .bool p1, .bool p2], .agg #[.bool p3, .bool p4, .bool p5]] (fun v h' => v = Value.bool true ∧ KeptH w.heap h') (fun _ _ => False) w hE
  exact hc.mono fun e w' h => tells_of h
set_option maxRecDepth 100000 in
theorem mays_lifted (os : Os) (started : os.Started) (H : Type) (enc : TypeId × Value → H) :
    ReturnsInHanded {} Try.checked os 4 .any (Rows.walkMaysSpec.pre6 enc Try.prog Try.f4 Rows.walkMaysRow.domain false) (Rows.walkMaysSpec.post enc Try.prog Try.f4 false true false false) := by
  refine returnsInHanded_of_change (C := Try.checked) Try.own started (by kernel_rfl) Try.func4
    (ChangeSpec.witness6 (enc := enc) (C := Try.checked) false ⟨#[], #[.agg #[.bool false, .bool false, .bool false], .agg #[.bool false, .bool false, .bool false]], []⟩ 8 (by kernel_rfl) (by kernel_rfl) (by kernel_rfl) (by kernel_rfl)) ?_
  intro W base args ds gs before hval0 hW hcnd _
  have hval : ∀ (j : Nat) t v, Try.f4.params[j]? = some t → args[j]? = some v → Value.okWide Try.prog W .any base t v := hval0
  have hW' := hW
  obtain ⟨p, q, hA0, hV, rfl, hfz, hnd⟩ := hW
  have hA : DataW.TrodAll enc Try.prog W 0 (fun _ => true) true Try.f4.params.toList args.toList ds p := hA0
  rw [Try.params4] at hA hval
  obtain ⟨v0, v1, d0, d1, p0, p1, rfl, rfl, rfl, h0, h1⟩ := trodAll_two hA
  obtain ⟨rfl, rfl⟩ := trodVars_none hV
  have h0k := h0
  have h1k := h1
  obtain ⟨c0, c1, c2, y0, y1, y2, m, rfl, rfl, rfl, hy0, hy1, hy2⟩ := open_agg3 Try.underlying38 (by kernel_rfl) (by kernel_rfl) (hval 0 38 v0 rfl rfl) h0
  obtain ⟨b0, e0, rfl⟩ := DataW.trod_bool Try.underlying4 hy0
  obtain ⟨b1, e1, rfl⟩ := DataW.trod_bool Try.underlying4 hy1
  obtain ⟨b2, e2, rfl⟩ := DataW.trod_bool Try.underlying4 hy2
  simp at e0 e1 e2
  subst e0 e1 e2
  obtain ⟨c3, c4, c5, y3, y4, y5, m2, rfl, rfl, rfl, hy3, hy4, hy5⟩ := open_agg3 Try.underlying34 (by kernel_rfl) (by kernel_rfl) (hval 1 34 v1 rfl rfl) h1
  obtain ⟨b3, e3, rfl⟩ := DataW.trod_bool Try.underlying4 hy3
  obtain ⟨b4, e4, rfl⟩ := DataW.trod_bool Try.underlying4 hy4
  obtain ⟨b5, e5, rfl⟩ := DataW.trod_bool Try.underlying4 hy5
  simp at e3 e4 e5
  subst e3 e4 e5
  refine (mays_any b0 b1 b2 b3 b4 b5 W).mono fun e W' ⟨he, hb, hf⟩ => ?_
  subst he
  have t0 := Below.trod Try.laidOut (by kernel_rfl) (of_decide_eq_true (by kernel_rfl)) h0k hb (fun x hx => by simp at hx)
  have t1 := Below.trod Try.laidOut (by kernel_rfl) (of_decide_eq_true (by kernel_rfl)) h1k hb (fun x hx => by simp at hx)
  refine ⟨_, rfl, _, _, _, [], _, [], hW', trodAll_mk1 (shut_bool Try.underlying4 true), trodAll_mk2 t0 t1, ?_, hb.frame _, fun h => by cases h⟩
  rfl
theorem mays_holds : Rows.WalkMaysSaid :=
  OpenClaim.holds_of_wide 4 Try.f4 rfl rfl rfl rfl rfl rfl rfl ⟨rfl, rfl, rfl, rfl, rfl⟩ rfl rfl rfl rfl rfl (by kernel_rfl) Try.func4 (by kernel_rfl)
    (of_decide_eq_true (by kernel_rfl)) (by unfold Func.isWrapper; first | (rw [if_pos (by decide +kernel)]; kernel_rfl) | (rw [if_neg (by decide +kernel)]; exact ⟨rfl, rfl⟩))
    (fun os started H enc _ => mays_lifted os started H enc)
end Go.Proofs.Ytnjbnhciheeboaa
