/- SpaceLends: what is lent leads to the lender his frame, and to nothing when it is back. -/
import Derived.Test.YtfchcnkgpklmhaaGreatP
import Derived.Test.YtfchcnkgpklmhaaGreatOpenI
import Derived.Test.YtfchcnkgpklmhaaGreatLawLends
import Derived.Test.YtfchcnkgpklmhaaGreatRows
import Derived.Lib.SmallJoins
namespace Go.Proofs.YtfchcnkgpklmhaaGreat
open Go.Joins Go.ChangeShapes Go.WideShapes Go.ChangeAt Go.RowKit Go.Dn

theorem Tryz.own : ownKnob Tryz.prog.godebug = none := by kernel_rfl
theorem Tryz.laidOut : laidOutB Tryz.prog = true := by kernel_rfl
theorem Tryz.mixedOK : Tryz.prog.follows .mixedOrders = true := Checked.mixed Tryz.checked
theorem lends_any (w : World) (fr : Int) (h_fr : (Lit.int .i64 fr).wf = true) (pg : Int) (h_pg : (Lit.int .i64 pg).wf = true) (at_ : Int) (h_at_ : (Lit.int .i64 at_).wf = true) (wr : Bool) (more : Bool) :
    Calls Tryz.prog 5 #[.int .i64 fr, .int .i64 pg, .int .i64 at_, .bool wr, .bool more] w (Tells (.bool true) w) := by
  have hE : demesnelaw12_SpaceLends_A fr pg at_ wr more (fun r0 A => Value.bool r0 = Value.bool true ∧ Dn.Own [Was w.heap] A) (allA w.heap) := SpaceLends_spec (own_all w.heap) (fun A h => ⟨rfl, h⟩)
  have hok := demesnelaw12_SpaceLends_ok Tryz.mixedOK
  obtain ⟨F, hF⟩ : ∃ F, F = demesnelaw12_SpaceLends_A := ⟨_, rfl⟩
  rw [← hF] at hE hok
  have hc := callA hok [.int .i64 fr, .int .i64 pg, .int .i64 at_, .bool wr, .bool more] (fun v h' => v = Value.bool true ∧ KeptH w.heap h') w (KA := fun v A => v = Value.bool true ∧ Dn.Own [Was w.heap] A) hE (fun v A' h' s h => lawQ s h)
  exact hc.mono fun e w' h => tells_of h
set_option maxRecDepth 100000 in
theorem lends_lifted (os : Os) (started : os.Started) (H : Type) (enc : TypeId × Value → H) :
    ReturnsInHanded {} Tryz.checked os 5 .any (Rows.spaceLendsSpec.pre6 enc Tryz.prog Tryz.f5 Rows.spaceLendsRow.domain false) (Rows.spaceLendsSpec.post enc Tryz.prog Tryz.f5 false true false false) := by
  refine returnsInHanded_of_change (C := Tryz.checked) Tryz.own started (by kernel_rfl) Tryz.func5
    (ChangeSpec.witness6 (enc := enc) (C := Tryz.checked) false ⟨#[], #[.int .i64 0, .int .i64 0, .int .i64 0, .bool false, .bool false], []⟩ 8 (by kernel_rfl) (by kernel_rfl) (by kernel_rfl) (by kernel_rfl)) ?_
  intro W base args ds gs before hval0 hW hcnd _
  have hval : ∀ (j : Nat) t v, Tryz.f5.params[j]? = some t → args[j]? = some v → Value.okWide Tryz.prog W .any base t v := hval0
  have hW' := hW
  obtain ⟨p, q, hA0, hV, rfl, hfz, hnd⟩ := hW
  have hA : DataW.TrodAll enc Tryz.prog W 0 (fun _ => true) true Tryz.f5.params.toList args.toList ds p := hA0
  rw [Tryz.params5] at hA hval
  have hAk := hA
  obtain ⟨args⟩ := args
  obtain ⟨v0, as0, d0, ds0, p0, q0, e0, rfl, rfl, h0, g0⟩ := trodAll_cons hA
  obtain ⟨v1, as1, d1, ds1, p1, q1, e1, rfl, rfl, h1, g1⟩ := trodAll_cons g0
  obtain ⟨v2, as2, d2, ds2, p2, q2, e2, rfl, rfl, h2, g2⟩ := trodAll_cons g1
  obtain ⟨v3, as3, d3, ds3, p3, q3, e3, rfl, rfl, h3, g3⟩ := trodAll_cons g2
  obtain ⟨v4, as4, d4, ds4, p4, q4, e4, rfl, rfl, h4, g4⟩ := trodAll_cons g3
  obtain ⟨ee, rfl, rfl⟩ := trodAll_nil g4
  subst ee
  subst e4
  subst e3
  subst e2
  subst e1
  have e0 : args = _ := e0
  subst e0
  obtain ⟨rfl, rfl⟩ := trodVars_none hV
  have hlt := hW'.lt
  obtain ⟨fu0, hf0⟩ := h0
  obtain ⟨fr, rfl⟩ := okWide_int Tryz.underlying3 (hval 0 3 v0 rfl rfl)
  have h_fr : (Lit.int .i64 fr).wf = true := by
    obtain ⟨⟨n, e, hw⟩, _⟩ : AllOK [.i .i64] [_] := flat_ok 9 3 _ fu0 _ _ (by kernel_rfl) hf0
    cases e; exact hw
  obtain ⟨fu1, hf1⟩ := h1
  obtain ⟨pg, rfl⟩ := okWide_int Tryz.underlying3 (hval 1 3 v1 rfl rfl)
  have h_pg : (Lit.int .i64 pg).wf = true := by
    obtain ⟨⟨n, e, hw⟩, _⟩ : AllOK [.i .i64] [_] := flat_ok 9 3 _ fu1 _ _ (by kernel_rfl) hf1
    cases e; exact hw
  obtain ⟨fu2, hf2⟩ := h2
  obtain ⟨at_, rfl⟩ := okWide_int Tryz.underlying3 (hval 2 3 v2 rfl rfl)
  have h_at_ : (Lit.int .i64 at_).wf = true := by
    obtain ⟨⟨n, e, hw⟩, _⟩ : AllOK [.i .i64] [_] := flat_ok 9 3 _ fu2 _ _ (by kernel_rfl) hf2
    cases e; exact hw
  obtain ⟨fu3, hf3⟩ := h3
  obtain ⟨wr, rfl⟩ := okWide_bool Tryz.underlying4 (hval 3 4 v3 rfl rfl)
  obtain ⟨fu4, hf4⟩ := h4
  obtain ⟨more, rfl⟩ := okWide_bool Tryz.underlying4 (hval 4 4 v4 rfl rfl)
  refine (lends_any W fr h_fr pg h_pg at_ h_at_ wr more).mono fun e W' ⟨he, hb⟩ => ?_
  subst he
  refine ⟨_, rfl, _, _, _, [], _, [], hW', trodAll_mk1 (shut_bool Tryz.underlying4 true), allBelow Tryz.laidOut hb (by kernel_rfl) hAk (fun x hx => hlt x (by simp at hx ⊢; exact hx)), ?_, hb.frame _, fun h => by cases h⟩
  rfl
theorem lends_holds : Rows.SpaceLendsSaid :=
  OpenClaim.holds_of_wide 5 Tryz.f5 rfl rfl rfl rfl rfl rfl rfl ⟨rfl, rfl, rfl, rfl, rfl⟩ rfl rfl rfl rfl rfl (by kernel_rfl) Tryz.func5 (by kernel_rfl)
    (of_decide_eq_true (by kernel_rfl)) (by unfold Func.isWrapper; first | (rw [if_pos (by decide +kernel)]; kernel_rfl) | (rw [if_neg (by decide +kernel)]; exact ⟨rfl, rfl⟩))
    (fun os started H enc _ => lends_lifted os started H enc)
end Go.Proofs.YtfchcnkgpklmhaaGreat
