/- WalkLarge: a large page leads to 512 frames in a row. -/
import Derived.Test.YtnjbnhciheeboaaRows
import Derived.Test.YtnjbnhciheeboaaRowLib
import Derived.Test.YtnjbnhciheeboaaLawLarge
import Derived.Lib.SmallJoins
namespace Go.Proofs.Ytnjbnhciheeboaa
open Go.Joins Go.ChangeShapes Go.WideShapes Go.ChangeAt Go.RowKit Go.Dn

theorem Try.own : ownKnob Try.prog.godebug = none := by kernel_rfl
theorem Try.laidOut : laidOutB Try.prog = true := by kernel_rfl
theorem Try.mixedOK : Try.prog.follows .mixedOrders = true := Checked.mixed Try.checked
theorem large_any (n0 n1 n2 : Int) (p3 p4 p5 : Bool) (w : World) :
    Calls Try.prog 9 #[.int .i64 n0, .int .i64 n1, .int .i64 n2, .agg #[.bool p3, .bool p4, .bool p5]] w (Tells (.bool true) w) := by
  have hE : demesnelaw04_WalkLarge n0 n1 n2 p3 p4 p5 (fun r0 h' => Value.bool r0 = Value.bool true ∧ KeptH w.heap h') w.heap := by
    refine demesnelaw04_WalkLarge_pro (Q2 := fun r A => r = true ∧ Own [Was w.heap] A) ?_ (sim_all w.heap) (WalkLarge_A (own_all w.heap) fun A' h => ⟨rfl, h⟩)
    intro r A h s ⟨e, o⟩
    subst e
    exact ⟨rfl, kept_of s o⟩
  have hc := (demesnelaw04_WalkLarge_ok Try.mixedOK).call [.int .i64 n0, .int .i64 n1, .int .i64 n2, .agg #[.bool p3, .bool p4, .bool p5]] (fun v h' => v = Value.bool true ∧ KeptH w.heap h') (fun _ _ => False) w hE
  exact hc.mono fun e w' h => tells_of h
set_option maxRecDepth 100000 in
theorem large_lifted (os : Os) (started : os.Started) (H : Type) (enc : TypeId × Value → H) :
    ReturnsInHanded {} Try.checked os 9 .any (Rows.walkLargeSpec.pre6 enc Try.prog Try.f9 Rows.walkLargeRow.domain false) (Rows.walkLargeSpec.post enc Try.prog Try.f9 false true false false) := by
  refine returnsInHanded_of_change (C := Try.checked) Try.own started (by kernel_rfl) Try.func9
    (ChangeSpec.witness6 (enc := enc) (C := Try.checked) false ⟨#[], #[.int .i64 0, .int .i64 0, .int .i64 0, .agg #[.bool false, .bool false, .bool false]], []⟩ 8 (by kernel_rfl) (by kernel_rfl) (by kernel_rfl) (by kernel_rfl)) ?_
  intro W base args ds gs before hval0 hW hcnd _
  have hval : ∀ (j : Nat) t v, Try.f9.params[j]? = some t → args[j]? = some v → Value.okWide Try.prog W .any base t v := hval0
  have hW' := hW
  obtain ⟨p, q, hA0, hV, rfl, hfz, hnd⟩ := hW
  have hA : DataW.TrodAll enc Try.prog W 0 (fun _ => true) true Try.f9.params.toList args.toList ds p := hA0
  rw [Try.params9] at hA hval
  obtain ⟨v0, v1, v2, v3, d0, d1, d2, d3, p0, p1, p2, p3, rfl, rfl, rfl, h0, h1, h2, h3⟩ := trodAll_four hA
  obtain ⟨rfl, rfl⟩ := trodVars_none hV
  have h3k := h3
  obtain ⟨n0, rfl, rfl, rfl, w0⟩ := open_int Try.underlying3 (hval 0 3 v0 rfl rfl) h0
  obtain ⟨n1, rfl, rfl, rfl, w1⟩ := open_int Try.underlying3 (hval 1 3 v1 rfl rfl) h1
  obtain ⟨n2, rfl, rfl, rfl, w2⟩ := open_int Try.underlying3 (hval 2 3 v2 rfl rfl) h2
  obtain ⟨c3, c4, c5, y3, y4, y5, m2, rfl, rfl, rfl, hy3, hy4, hy5⟩ := open_agg3 Try.underlying34 (by kernel_rfl) (by kernel_rfl) (hval 3 34 v3 rfl rfl) h3
  obtain ⟨b3, e3, rfl⟩ := DataW.trod_bool Try.underlying4 hy3
  obtain ⟨b4, e4, rfl⟩ := DataW.trod_bool Try.underlying4 hy4
  obtain ⟨b5, e5, rfl⟩ := DataW.trod_bool Try.underlying4 hy5
  simp at e3 e4 e5
  subst e3 e4 e5
  refine (large_any n0 n1 n2 b3 b4 b5 W).mono fun e W' ⟨he, hb, hf⟩ => ?_
  subst he
  have t2 := Below.trod Try.laidOut (by kernel_rfl) (of_decide_eq_true (by kernel_rfl)) h3k hb (fun x hx => by simp at hx)
  refine ⟨_, rfl, _, _, _, [], _, [], hW', trodAll_mk1 (shut_bool Try.underlying4 true), trodAll_mk4 (shut_int Try.underlying3 w0) (shut_int Try.underlying3 w1) (shut_int Try.underlying3 w2) t2, ?_, hb.frame _, fun h => by cases h⟩
  rfl
theorem large_holds : Rows.WalkLargeSaid :=
  OpenClaim.holds_of_wide 9 Try.f9 rfl rfl rfl rfl rfl rfl rfl ⟨rfl, rfl, rfl, rfl, rfl⟩ rfl rfl rfl rfl rfl (by kernel_rfl) Try.func9 (by kernel_rfl)
    (of_decide_eq_true (by kernel_rfl)) (by unfold Func.isWrapper; first | (rw [if_pos (by decide +kernel)]; kernel_rfl) | (rw [if_neg (by decide +kernel)]; exact ⟨rfl, rfl⟩))
    (fun os started H enc _ => large_lifted os started H enc)
end Go.Proofs.Ytnjbnhciheeboaa
