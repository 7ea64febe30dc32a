/- TableWalks: what a walk finds is what was mapped, and the kernel sees each frame. -/
import Derived.Test.YtcdcmffcajlolaaRowLib
import Derived.Test.YtcdcmffcajlolaaFlat
import Derived.Test.YtcdcmffcajlolaaOpenT
import Derived.Test.YtcdcmffcajlolaaRows
import Derived.Lib.SmallJoins
namespace Go.Proofs.Ytcdcmffcajlolaa
open Go.Joins Go.ChangeShapes Go.WideShapes Go.ChangeAt Go.RowKit Go.Dn

theorem Try.own : ownKnob Try.prog.godebug = none := by kernel_rfl
theorem Try.laidOut : laidOutB Try.prog = true := by kernel_rfl
theorem Try.mixedOK : Try.prog.follows .mixedOrders = true := Checked.mixed Try.checked
theorem walks_any (w : World) (s0 : Sl) (l0 : List ActZ) (hr0 : Reads (Was w.heap) s0 6 (l0.flatMap actCell)) (hq0 : ∀ x ∈ l0, (fun _ => True) x) (hl0 : l0.length < 9223372036854775808) (a : Int) (h_a : (Lit.int .u64 a).wf = true) (b : Bool) (c : Bool) (d : Bool) :
    Calls Try.prog 10 #[.slice s0.a s0.len s0.cap, .int .u64 a, .agg #[.bool b, .bool c, .bool d]] w (Tells (.bool true) w) := by
  have hE : demesnelaw09_TableWalks_A s0 a b c d (fun r0 A => Value.bool r0 = Value.bool true ∧ Own [Was w.heap] A) (allA w.heap) := TableWalks_spec (k := 0) (own_all w.heap) rfl hr0 (u64_wf0 h_a) (fun A h => ⟨rfl, h⟩)
  have hok := demesnelaw09_TableWalks_ok Try.mixedOK
  obtain ⟨F, hF⟩ : ∃ F, F = demesnelaw09_TableWalks_A := ⟨_, rfl⟩
  rw [← hF] at hE hok
  have hc := callA hok [.slice s0.a s0.len s0.cap, .int .u64 a, .agg #[.bool b, .bool c, .bool d]] (fun v h' => v = Value.bool true ∧ KeptH w.heap h') w (KA := fun v A => v = Value.bool true ∧ Own [Was w.heap] A) hE (fun v A' h' s h => lawQ s h)
  exact hc.mono fun e w' h => tells_of h
set_option maxRecDepth 100000 in
theorem walks_lifted (os : Os) (started : os.Started) (H : Type) (enc : TypeId × Value → H) :
    ReturnsInHanded {} Try.checked os 10 .any (Rows.tableWalksSpec.pre6 enc Try.prog Try.f10 Rows.tableWalksRow.domain false) (Rows.tableWalksSpec.post enc Try.prog Try.f10 false true false false) := by
  refine returnsInHanded_of_change (C := Try.checked) Try.own started (by kernel_rfl) Try.func10
    (ChangeSpec.witness6 (enc := enc) (C := Try.checked) false ⟨#[], #[.slice none 0 0, .int .u64 0, .agg #[.bool false, .bool false, .bool false]], []⟩ 8 (by kernel_rfl) (by kernel_rfl) (by kernel_rfl) (by kernel_rfl)) ?_
  intro W base args ds gs before hval0 hW hcnd _
  have hval : ∀ (j : Nat) t v, Try.f10.params[j]? = some t → args[j]? = some v → Value.okWide Try.prog W .any base t v := hval0
  have hW' := hW
  obtain ⟨p, q, hA0, hV, rfl, hfz, hnd⟩ := hW
  have hA : DataW.TrodAll enc Try.prog W 0 (fun _ => true) true Try.f10.params.toList args.toList ds p := hA0
  rw [Try.params10] at hA hval
  have hAk := hA
  obtain ⟨args⟩ := args
  obtain ⟨v0, as0, d0, ds0, p0, q0, e0, rfl, rfl, h0, g0⟩ := trodAll_cons hA
  obtain ⟨v1, as1, d1, ds1, p1, q1, e1, rfl, rfl, h1, g1⟩ := trodAll_cons g0
  obtain ⟨v2, as2, d2, ds2, p2, q2, e2, rfl, rfl, h2, g2⟩ := trodAll_cons g1
  obtain ⟨ee, rfl, rfl⟩ := trodAll_nil g2
  subst ee
  subst e2
  subst e1
  have e0 : args = _ := e0
  subst e0
  obtain ⟨rfl, rfl⟩ := trodVars_none hV
  have hlt := hW'.lt
  obtain ⟨s0, l0, rfl, hr0, hq0, hl0⟩ := open_elems actCell (fun _ => True) 6 (by decide) (fun _ => rfl) Try.underlying44 (by kernel_rfl) (fun n cs y hy => open_act (flat_ok 9 52 [.i .i64, .i .i64, .i .i64, .b, .b, .b] n cs y (by kernel_rfl) hy)) (hval 0 44 v0 rfl rfl) h0
  obtain ⟨fu1, hf1⟩ := h1
  obtain ⟨a, rfl⟩ := okWide_int Try.underlying75 (hval 1 75 v1 rfl rfl)
  have h_a : (Lit.int .u64 a).wf = true := by
    obtain ⟨⟨n, e, hw⟩, _⟩ : AllOK [.i .u64] [_] := flat_ok 9 75 _ fu1 _ _ (by kernel_rfl) hf1
    cases e; exact hw
  obtain ⟨c2, rfl, _⟩ := okWide_struct Try.underlying77 (hval 2 77 v2 rfl rfl)
  obtain ⟨fu2, hf2⟩ := h2
  have ok2 : AllOK [.b, .b, .b] c2.toList := flat_ok 9 77 _ fu2 _ _ (by kernel_rfl) hf2
  obtain ⟨c2⟩ := c2
  obtain ⟨w2_0, o2_0, w2_1, o2_1, w2_2, o2_2, rfl⟩ := allOK_3 ok2
  obtain ⟨b, rfl⟩ := o2_0
  obtain ⟨c, rfl⟩ := o2_1
  obtain ⟨d, rfl⟩ := o2_2
  refine (walks_any W s0 l0 hr0 hq0 hl0 a h_a b c d).mono fun e W' ⟨he, hb⟩ => ?_
  subst he
  refine ⟨_, rfl, _, _, _, [], _, [], hW', trodAll_mk1 (shut_bool Try.underlying4 true), allBelow Try.laidOut hb (by kernel_rfl) hAk (fun x hx => hlt x (by simp at hx ⊢; exact hx)), ?_, hb.frame _, fun h => by cases h⟩
  rfl
theorem walks_holds : Rows.TableWalksSaid :=
  OpenClaim.holds_of_wide 10 Try.f10 rfl rfl rfl rfl rfl rfl rfl ⟨rfl, rfl, rfl, rfl, rfl⟩ rfl rfl rfl rfl rfl (by kernel_rfl) Try.func10 (by kernel_rfl)
    (of_decide_eq_true (by kernel_rfl)) (by unfold Func.isWrapper; first | (rw [if_pos (by decide +kernel)]; kernel_rfl) | (rw [if_neg (by decide +kernel)]; exact ⟨rfl, rfl⟩))
    (fun os started H enc _ => walks_lifted os started H enc)
end Go.Proofs.Ytcdcmffcajlolaa
