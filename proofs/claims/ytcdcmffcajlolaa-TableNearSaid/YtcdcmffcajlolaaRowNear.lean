/- TableNear: pages that lie together share their tables. -/
import Derived.Test.YtcdcmffcajlolaaRowLib
import Derived.Test.YtcdcmffcajlolaaFlat
import Derived.Test.YtcdcmffcajlolaaOpenT
import Derived.Test.YtcdcmffcajlolaaRows
import Derived.Lib.SmallJoins
namespace Go.Proofs.Ytcdcmffcajlolaa
open Go.Joins Go.ChangeShapes Go.WideShapes Go.ChangeAt Go.RowKit Go.Dn

theorem Try.own : ownKnob Try.prog.godebug = none := by kernel_rfl
theorem Try.laidOut : laidOutB Try.prog = true := by kernel_rfl
theorem Try.mixedOK : Try.prog.follows .mixedOrders = true := Checked.mixed Try.checked
theorem near_any (w : World) (a : Int) (h_a : (Lit.int .i64 a).wf = true) (b : Int) (h_b : (Lit.int .i64 b).wf = true) (c : Int) (h_c : (Lit.int .i64 c).wf = true) :
    Calls Try.prog 5 #[.int .i64 a, .int .i64 b, .int .i64 c] w (Tells (.bool true) w) := by
  have hE : demesnelaw09_TableNear_A a b c (fun r0 A => Value.bool r0 = Value.bool true ∧ Own [Was w.heap] A) (allA w.heap) := TableNear_spec (own_all w.heap) ⟨i64_wf h_b, i64_wf h_c⟩ (fun A h => ⟨rfl, h⟩)
  have hok := demesnelaw09_TableNear_ok Try.mixedOK
  obtain ⟨F, hF⟩ : ∃ F, F = demesnelaw09_TableNear_A := ⟨_, rfl⟩
  rw [← hF] at hE hok
  have hc := callA hok [.int .i64 a, .int .i64 b, .int .i64 c] (fun v h' => v = Value.bool true ∧ KeptH w.heap h') w (KA := fun v A => v = Value.bool true ∧ Own [Was w.heap] A) hE (fun v A' h' s h => lawQ s h)
  exact hc.mono fun e w' h => tells_of h
set_option maxRecDepth 100000 in
theorem near_lifted (os : Os) (started : os.Started) (H : Type) (enc : TypeId × Value → H) :
    ReturnsInHanded {} Try.checked os 5 .any (Rows.tableNearSpec.pre6 enc Try.prog Try.f5 Rows.tableNearRow.domain false) (Rows.tableNearSpec.post enc Try.prog Try.f5 false true false false) := by
  refine returnsInHanded_of_change (C := Try.checked) Try.own started (by kernel_rfl) Try.func5
    (ChangeSpec.witness6 (enc := enc) (C := Try.checked) false ⟨#[], #[.int .i64 0, .int .i64 0, .int .i64 0], []⟩ 8 (by kernel_rfl) (by kernel_rfl) (by kernel_rfl) (by kernel_rfl)) ?_
  intro W base args ds gs before hval0 hW hcnd _
  have hval : ∀ (j : Nat) t v, Try.f5.params[j]? = some t → args[j]? = some v → Value.okWide Try.prog W .any base t v := hval0
  have hW' := hW
  obtain ⟨p, q, hA0, hV, rfl, hfz, hnd⟩ := hW
  have hA : DataW.TrodAll enc Try.prog W 0 (fun _ => true) true Try.f5.params.toList args.toList ds p := hA0
  rw [Try.params5] at hA hval
  have hAk := hA
  obtain ⟨args⟩ := args
  obtain ⟨v0, as0, d0, ds0, p0, q0, e0, rfl, rfl, h0, g0⟩ := trodAll_cons hA
  obtain ⟨v1, as1, d1, ds1, p1, q1, e1, rfl, rfl, h1, g1⟩ := trodAll_cons g0
  obtain ⟨v2, as2, d2, ds2, p2, q2, e2, rfl, rfl, h2, g2⟩ := trodAll_cons g1
  obtain ⟨ee, rfl, rfl⟩ := trodAll_nil g2
  subst ee
  subst e2
  subst e1
  have e0 : args = _ := e0
  subst e0
  obtain ⟨rfl, rfl⟩ := trodVars_none hV
  have hlt := hW'.lt
  obtain ⟨fu0, hf0⟩ := h0
  obtain ⟨a, rfl⟩ := okWide_int Try.underlying3 (hval 0 3 v0 rfl rfl)
  have h_a : (Lit.int .i64 a).wf = true := by
    obtain ⟨⟨n, e, hw⟩, _⟩ : AllOK [.i .i64] [_] := flat_ok 9 3 _ fu0 _ _ (by kernel_rfl) hf0
    cases e; exact hw
  obtain ⟨fu1, hf1⟩ := h1
  obtain ⟨b, rfl⟩ := okWide_int Try.underlying3 (hval 1 3 v1 rfl rfl)
  have h_b : (Lit.int .i64 b).wf = true := by
    obtain ⟨⟨n, e, hw⟩, _⟩ : AllOK [.i .i64] [_] := flat_ok 9 3 _ fu1 _ _ (by kernel_rfl) hf1
    cases e; exact hw
  obtain ⟨fu2, hf2⟩ := h2
  obtain ⟨c, rfl⟩ := okWide_int Try.underlying3 (hval 2 3 v2 rfl rfl)
  have h_c : (Lit.int .i64 c).wf = true := by
    obtain ⟨⟨n, e, hw⟩, _⟩ : AllOK [.i .i64] [_] := flat_ok 9 3 _ fu2 _ _ (by kernel_rfl) hf2
    cases e; exact hw
  refine (near_any W a h_a b h_b c h_c).mono fun e W' ⟨he, hb⟩ => ?_
  subst he
  refine ⟨_, rfl, _, _, _, [], _, [], hW', trodAll_mk1 (shut_bool Try.underlying4 true), allBelow Try.laidOut hb (by kernel_rfl) hAk (fun x hx => hlt x (by simp at hx ⊢; exact hx)), ?_, hb.frame _, fun h => by cases h⟩
  rfl
theorem near_holds : Rows.TableNearSaid :=
  OpenClaim.holds_of_wide 5 Try.f5 rfl rfl rfl rfl rfl rfl rfl ⟨rfl, rfl, rfl, rfl, rfl⟩ rfl rfl rfl rfl rfl (by kernel_rfl) Try.func5 (by kernel_rfl)
    (of_decide_eq_true (by kernel_rfl)) (by unfold Func.isWrapper; first | (rw [if_pos (by decide +kernel)]; kernel_rfl) | (rw [if_neg (by decide +kernel)]; exact ⟨rfl, rfl⟩))
    (fun os started H enc _ => near_lifted os started H enc)
end Go.Proofs.Ytcdcmffcajlolaa
