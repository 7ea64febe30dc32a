/- FlatNone: a model that was not booted answers nothing. -/
import Derived.Test.YthbdbnadjpbfgaaGreatFlat
import Derived.Test.YthbdbnadjpbfgaaGreatLawNone
import Derived.Test.YthbdbnadjpbfgaaGreatRows
import Derived.Lib.SmallJoins
namespace Go.Proofs.YthbdbnadjpbfgaaGreat
open Go.Joins Go.ChangeShapes Go.WideShapes Go.ChangeAt Go.RowKit Go.Dn

theorem Tryz.own : ownKnob Tryz.prog.godebug = none := by kernel_rfl
theorem Tryz.laidOut : laidOutB Tryz.prog = true := by kernel_rfl
theorem Tryz.mixedOK : Tryz.prog.follows .mixedOrders = true := Checked.mixed Tryz.checked
theorem none_any (w : World) (w0 : Int) (h_w0 : (Lit.int .u64 w0).wf = true) (w1 : Int) (h_w1 : (Lit.int .u64 w1).wf = true) (w2 : Int) (h_w2 : (Lit.int .u64 w2).wf = true) (w3 : Int) (h_w3 : (Lit.int .u64 w3).wf = true) (w4 : Int) (h_w4 : (Lit.int .u64 w4).wf = true) (w5 : Int) (h_w5 : (Lit.int .u64 w5).wf = true) (pid : Int) (h_pid : (Lit.int .i64 pid).wf = true) :
    Calls Tryz.prog 5 #[.agg #[.int .u64 w0, .int .u64 w1, .int .u64 w2, .int .u64 w3, .int .u64 w4, .int .u64 w5], .int .i64 pid] w (Tells (.bool true) w) := by
  have hE : demesnelaw19_FlatNone_A w0 w1 w2 w3 w4 w5 pid (fun r0 A => Value.bool r0 = Value.bool true ∧ Dn.Own [Was w.heap] A) (allA w.heap) := FlatNone_spec (own_all w.heap) (fun A h => ⟨rfl, h⟩)
  have hok := demesnelaw19_FlatNone_ok Tryz.mixedOK
  obtain ⟨F, hF⟩ : ∃ F, F = demesnelaw19_FlatNone_A := ⟨_, rfl⟩
  rw [← hF] at hE hok
  have hc := callA hok [.agg #[.int .u64 w0, .int .u64 w1, .int .u64 w2, .int .u64 w3, .int .u64 w4, .int .u64 w5], .int .i64 pid] (fun v h' => v = Value.bool true ∧ KeptH w.heap h') w (KA := fun v A => v = Value.bool true ∧ Dn.Own [Was w.heap] A) hE (fun v A' h' s h => lawQ s h)
  exact hc.mono fun e w' h => tells_of h
set_option maxRecDepth 100000 in
theorem none_lifted (os : Os) (started : os.Started) (H : Type) (enc : TypeId × Value → H) :
    ReturnsInHanded {} Tryz.checked os 5 .any (Rows.flatNoneSpec.pre6 enc Tryz.prog Tryz.f5 Rows.flatNoneRow.domain false) (Rows.flatNoneSpec.post enc Tryz.prog Tryz.f5 false true false false) := by
  refine returnsInHanded_of_change (C := Tryz.checked) Tryz.own started (by kernel_rfl) Tryz.func5
    (ChangeSpec.witness6 (enc := enc) (C := Tryz.checked) false ⟨#[], #[.agg #[.int .u64 0, .int .u64 0, .int .u64 0, .int .u64 0, .int .u64 0, .int .u64 0], .int .i64 0], []⟩ 8 (by kernel_rfl) (by kernel_rfl) (by kernel_rfl) (by kernel_rfl)) ?_
  intro W base args ds gs before hval0 hW hcnd _
  have hval : ∀ (j : Nat) t v, Tryz.f5.params[j]? = some t → args[j]? = some v → Value.okWide Tryz.prog W .any base t v := hval0
  have hW' := hW
  obtain ⟨p, q, hA0, hV, rfl, hfz, hnd⟩ := hW
  have hA : DataW.TrodAll enc Tryz.prog W 0 (fun _ => true) true Tryz.f5.params.toList args.toList ds p := hA0
  rw [Tryz.params5] at hA hval
  have hAk := hA
  obtain ⟨args⟩ := args
  obtain ⟨v0, as0, d0, ds0, p0, q0, e0, rfl, rfl, h0, g0⟩ := trodAll_cons hA
  obtain ⟨v1, as1, d1, ds1, p1, q1, e1, rfl, rfl, h1, g1⟩ := trodAll_cons g0
  obtain ⟨ee, rfl, rfl⟩ := trodAll_nil g1
  subst ee
  subst e1
  have e0 : args = _ := e0
  subst e0
  obtain ⟨rfl, rfl⟩ := trodVars_none hV
  have hlt := hW'.lt
  obtain ⟨c0, rfl, _⟩ := okWide_array Tryz.underlying35 (hval 0 35 v0 rfl rfl)
  obtain ⟨fu0, hf0⟩ := h0
  have ok0 : AllOK [.i .u64, .i .u64, .i .u64, .i .u64, .i .u64, .i .u64] c0.toList := flat_ok 9 35 _ fu0 _ _ (by kernel_rfl) hf0
  obtain ⟨c0⟩ := c0
  obtain ⟨w0_0, o0_0, w0_1, o0_1, w0_2, o0_2, w0_3, o0_3, w0_4, o0_4, w0_5, o0_5, rfl⟩ := allOK_6 ok0
  obtain ⟨w0, rfl, h_w0⟩ := o0_0
  obtain ⟨w1, rfl, h_w1⟩ := o0_1
  obtain ⟨w2, rfl, h_w2⟩ := o0_2
  obtain ⟨w3, rfl, h_w3⟩ := o0_3
  obtain ⟨w4, rfl, h_w4⟩ := o0_4
  obtain ⟨w5, rfl, h_w5⟩ := o0_5
  obtain ⟨fu1, hf1⟩ := h1
  obtain ⟨pid, rfl⟩ := okWide_int Tryz.underlying3 (hval 1 3 v1 rfl rfl)
  have h_pid : (Lit.int .i64 pid).wf = true := by
    obtain ⟨⟨n, e, hw⟩, _⟩ : AllOK [.i .i64] [_] := flat_ok 9 3 _ fu1 _ _ (by kernel_rfl) hf1
    cases e; exact hw
  refine (none_any W w0 h_w0 w1 h_w1 w2 h_w2 w3 h_w3 w4 h_w4 w5 h_w5 pid h_pid).mono fun e W' ⟨he, hb⟩ => ?_
  subst he
  refine ⟨_, rfl, _, _, _, [], _, [], hW', trodAll_mk1 (shut_bool Tryz.underlying4 true), allBelow Tryz.laidOut hb (by kernel_rfl) hAk (fun x hx => hlt x (by simp at hx ⊢; exact hx)), ?_, hb.frame _, fun h => by cases h⟩
  rfl
theorem none_holds : Rows.FlatNoneSaid :=
  OpenClaim.holds_of_wide 5 Tryz.f5 rfl rfl rfl rfl rfl rfl rfl ⟨rfl, rfl, rfl, rfl, rfl⟩ rfl rfl rfl rfl rfl (by kernel_rfl) Tryz.func5 (by kernel_rfl)
    (of_decide_eq_true (by kernel_rfl)) (by unfold Func.isWrapper; first | (rw [if_pos (by decide +kernel)]; kernel_rfl) | (rw [if_neg (by decide +kernel)]; exact ⟨rfl, rfl⟩))
    (fun os started H enc _ => none_lifted os started H enc)
end Go.Proofs.YthbdbnadjpbfgaaGreat
