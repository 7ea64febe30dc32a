/- TableWhole: a page for whose tables there is no room is refused, and all is as it was. -/
import Derived.Test.YtcdcmffcajlolaaRowLib
import Derived.Test.YtcdcmffcajlolaaFlat
import Derived.Test.YtcdcmffcajlolaaOpenT
import Derived.Test.YtcdcmffcajlolaaRows
import Derived.Lib.SmallJoins
namespace Go.Proofs.Ytcdcmffcajlolaa
open Go.Joins Go.ChangeShapes Go.WideShapes Go.ChangeAt Go.RowKit Go.Dn

theorem Try.own : ownKnob Try.prog.godebug = none := by kernel_rfl
theorem Try.laidOut : laidOutB Try.prog = true := by kernel_rfl
theorem Try.mixedOK : Try.prog.follows .mixedOrders = true := Checked.mixed Try.checked
theorem whole_any (w : World) (a : Int) (h_a : (Lit.int .i64 a).wf = true) (b : Int) (h_b : (Lit.int .i64 b).wf = true) (c : Int) (h_c : (Lit.int .i64 c).wf = true) (d : Bool) (e : Bool) (f : Bool) (g : Int) (h_g : (Lit.int .i64 g).wf = true) (h : Int) (h_h : (Lit.int .i64 h).wf = true) (i : Int) (h_i : (Lit.int .i64 i).wf = true) (j : Bool) (k : Bool) (l : Bool) (m : Int) (h_m : (Lit.int .i64 m).wf = true) :
    Calls Try.prog 8 #[.agg #[.int .i64 a, .int .i64 b, .int .i64 c, .bool d, .bool e, .bool f], .agg #[.int .i64 g, .int .i64 h, .int .i64 i, .bool j, .bool k, .bool l], .int .i64 m] w (Tells (.bool true) w) := by
  have hE : demesnelaw09_TableWhole_A a b c d e f g h i j k l m (fun r0 A => Value.bool r0 = Value.bool true ∧ Own [Was w.heap] A) (allA w.heap) := TableWhole_spec (own_all w.heap) (fun A h => ⟨rfl, h⟩)
  have hok := demesnelaw09_TableWhole_ok Try.mixedOK
  obtain ⟨F, hF⟩ : ∃ F, F = demesnelaw09_TableWhole_A := ⟨_, rfl⟩
  rw [← hF] at hE hok
  have hc := callA hok [.agg #[.int .i64 a, .int .i64 b, .int .i64 c, .bool d, .bool e, .bool f], .agg #[.int .i64 g, .int .i64 h, .int .i64 i, .bool j, .bool k, .bool l], .int .i64 m] (fun v h' => v = Value.bool true ∧ KeptH w.heap h') w (KA := fun v A => v = Value.bool true ∧ Own [Was w.heap] A) hE (fun v A' h' s h => lawQ s h)
  exact hc.mono fun e w' h => tells_of h
set_option maxRecDepth 100000 in
theorem whole_lifted (os : Os) (started : os.Started) (H : Type) (enc : TypeId × Value → H) :
    ReturnsInHanded {} Try.checked os 8 .any (Rows.tableWholeSpec.pre6 enc Try.prog Try.f8 Rows.tableWholeRow.domain false) (Rows.tableWholeSpec.post enc Try.prog Try.f8 false true false false) := by
  refine returnsInHanded_of_change (C := Try.checked) Try.own started (by kernel_rfl) Try.func8
    (ChangeSpec.witness6 (enc := enc) (C := Try.checked) false ⟨#[], #[.agg #[.int .i64 0, .int .i64 0, .int .i64 0, .bool false, .bool false, .bool false], .agg #[.int .i64 0, .int .i64 0, .int .i64 0, .bool false, .bool false, .bool false], .int .i64 0], []⟩ 8 (by kernel_rfl) (by kernel_rfl) (by kernel_rfl) (by kernel_rfl)) ?_
  intro W base args ds gs before hval0 hW hcnd _
  have hval : ∀ (j : Nat) t v, Try.f8.params[j]? = some t → args[j]? = some v → Value.okWide Try.prog W .any base t v := hval0
  have hW' := hW
  obtain ⟨p, q, hA0, hV, rfl, hfz, hnd⟩ := hW
  have hA : DataW.TrodAll enc Try.prog W 0 (fun _ => true) true Try.f8.params.toList args.toList ds p := hA0
  rw [Try.params8] at hA hval
  have hAk := hA
  obtain ⟨args⟩ := args
  obtain ⟨v0, as0, d0, ds0, p0, q0, e0, rfl, rfl, h0, g0⟩ := trodAll_cons hA
  obtain ⟨v1, as1, d1, ds1, p1, q1, e1, rfl, rfl, h1, g1⟩ := trodAll_cons g0
  obtain ⟨v2, as2, d2, ds2, p2, q2, e2, rfl, rfl, h2, g2⟩ := trodAll_cons g1
  obtain ⟨ee, rfl, rfl⟩ := trodAll_nil g2
  subst ee
  subst e2
  subst e1
  have e0 : args = _ := e0
  subst e0
  obtain ⟨rfl, rfl⟩ := trodVars_none hV
  have hlt := hW'.lt
  obtain ⟨c0, rfl, _⟩ := okWide_struct Try.underlying52 (hval 0 52 v0 rfl rfl)
  obtain ⟨fu0, hf0⟩ := h0
  have ok0 : AllOK [.i .i64, .i .i64, .i .i64, .b, .b, .b] c0.toList := flat_ok 9 52 _ fu0 _ _ (by kernel_rfl) hf0
  obtain ⟨c0⟩ := c0
  obtain ⟨w0_0, o0_0, w0_1, o0_1, w0_2, o0_2, w0_3, o0_3, w0_4, o0_4, w0_5, o0_5, rfl⟩ := allOK_6 ok0
  obtain ⟨a, rfl, h_a⟩ := o0_0
  obtain ⟨b, rfl, h_b⟩ := o0_1
  obtain ⟨c, rfl, h_c⟩ := o0_2
  obtain ⟨d, rfl⟩ := o0_3
  obtain ⟨e, rfl⟩ := o0_4
  obtain ⟨f, rfl⟩ := o0_5
  obtain ⟨c1, rfl, _⟩ := okWide_struct Try.underlying52 (hval 1 52 v1 rfl rfl)
  obtain ⟨fu1, hf1⟩ := h1
  have ok1 : AllOK [.i .i64, .i .i64, .i .i64, .b, .b, .b] c1.toList := flat_ok 9 52 _ fu1 _ _ (by kernel_rfl) hf1
  obtain ⟨c1⟩ := c1
  obtain ⟨w1_0, o1_0, w1_1, o1_1, w1_2, o1_2, w1_3, o1_3, w1_4, o1_4, w1_5, o1_5, rfl⟩ := allOK_6 ok1
  obtain ⟨g, rfl, h_g⟩ := o1_0
  obtain ⟨h, rfl, h_h⟩ := o1_1
  obtain ⟨i, rfl, h_i⟩ := o1_2
  obtain ⟨j, rfl⟩ := o1_3
  obtain ⟨k, rfl⟩ := o1_4
  obtain ⟨l, rfl⟩ := o1_5
  obtain ⟨fu2, hf2⟩ := h2
  obtain ⟨m, rfl⟩ := okWide_int Try.underlying3 (hval 2 3 v2 rfl rfl)
  have h_m : (Lit.int .i64 m).wf = true := by
    obtain ⟨⟨n, e, hw⟩, _⟩ : AllOK [.i .i64] [_] := flat_ok 9 3 _ fu2 _ _ (by kernel_rfl) hf2
    cases e; exact hw
  refine (whole_any W a h_a b h_b c h_c d e f g h_g h h_h i h_i j k l m h_m).mono fun e W' ⟨he, hb⟩ => ?_
  subst he
  refine ⟨_, rfl, _, _, _, [], _, [], hW', trodAll_mk1 (shut_bool Try.underlying4 true), allBelow Try.laidOut hb (by kernel_rfl) hAk (fun x hx => hlt x (by simp at hx ⊢; exact hx)), ?_, hb.frame _, fun h => by cases h⟩
  rfl
theorem whole_holds : Rows.TableWholeSaid :=
  OpenClaim.holds_of_wide 8 Try.f8 rfl rfl rfl rfl rfl rfl rfl ⟨rfl, rfl, rfl, rfl, rfl⟩ rfl rfl rfl rfl rfl (by kernel_rfl) Try.func8 (by kernel_rfl)
    (of_decide_eq_true (by kernel_rfl)) (by unfold Func.isWrapper; first | (rw [if_pos (by decide +kernel)]; kernel_rfl) | (rw [if_neg (by decide +kernel)]; exact ⟨rfl, rfl⟩))
    (fun os started H enc _ => whole_lifted os started H enc)
end Go.Proofs.Ytcdcmffcajlolaa
