/- SpaceTags: spaces get tags, and when a new generation begins what was kept is gone. -/
import Derived.Test.YtfchcnkgpklmhaaGreatP
import Derived.Test.YtfchcnkgpklmhaaGreatLawTags
import Derived.Test.YtfchcnkgpklmhaaGreatOpenI
import Derived.Test.YtfchcnkgpklmhaaGreatRows
import Derived.Lib.SmallJoins
namespace Go.Proofs.YtfchcnkgpklmhaaGreat
open Go.Joins Go.ChangeShapes Go.WideShapes Go.ChangeAt Go.RowKit Go.Dn

theorem Tryz.own : ownKnob Tryz.prog.godebug = none := by kernel_rfl
theorem Tryz.laidOut : laidOutB Tryz.prog = true := by kernel_rfl
theorem Tryz.mixedOK : Tryz.prog.follows .mixedOrders = true := Checked.mixed Tryz.checked
theorem tags_any (w : World) (tg : Int) (h_tg : (Lit.int .i64 tg).wf = true) (s1 : Sl) (l1 : List Int) (hr1 : Reads (Was w.heap) s1 1 (l1.flatMap ivE)) (hq1 : ∀ x ∈ l1, (fun _ => True) x) (hl1 : l1.length < 9223372036854775808 ∧ s1.len ≤ s1.cap ∧ (s1.a = none → l1 = [])) :
    Calls Tryz.prog 3 #[.int .i64 tg, .slice s1.a s1.len s1.cap] w (Tells (.bool true) w) := by
  have hE : demesnelaw12_SpaceTags_A tg s1 (fun r0 A => Value.bool r0 = Value.bool true ∧ Dn.Own [Was w.heap] A) (allA w.heap) := SpaceTags_spec (ids := l1) (k := 0) (own_all w.heap) rfl (by have hh := hr1; rw [flat_iv] at hh; exact hh) (fun A h => ⟨rfl, h⟩)
  have hok := demesnelaw12_SpaceTags_ok Tryz.mixedOK
  obtain ⟨F, hF⟩ : ∃ F, F = demesnelaw12_SpaceTags_A := ⟨_, rfl⟩
  rw [← hF] at hE hok
  have hc := callA hok [.int .i64 tg, .slice s1.a s1.len s1.cap] (fun v h' => v = Value.bool true ∧ KeptH w.heap h') w (KA := fun v A => v = Value.bool true ∧ Dn.Own [Was w.heap] A) hE (fun v A' h' s h => lawQ s h)
  exact hc.mono fun e w' h => tells_of h
set_option maxRecDepth 100000 in
theorem tags_lifted (os : Os) (started : os.Started) (H : Type) (enc : TypeId × Value → H) :
    ReturnsInHanded {} Tryz.checked os 3 .any (Rows.spaceTagsSpec.pre6 enc Tryz.prog Tryz.f3 Rows.spaceTagsRow.domain false) (Rows.spaceTagsSpec.post enc Tryz.prog Tryz.f3 false true false false) := by
  refine returnsInHanded_of_change (C := Tryz.checked) Tryz.own started (by kernel_rfl) Tryz.func3
    (ChangeSpec.witness6 (enc := enc) (C := Tryz.checked) false ⟨#[], #[.int .i64 0, .slice none 0 0], []⟩ 8 (by kernel_rfl) (by kernel_rfl) (by kernel_rfl) (by kernel_rfl)) ?_
  intro W base args ds gs before hval0 hW hcnd _
  have hval : ∀ (j : Nat) t v, Tryz.f3.params[j]? = some t → args[j]? = some v → Value.okWide Tryz.prog W .any base t v := hval0
  have hW' := hW
  obtain ⟨p, q, hA0, hV, rfl, hfz, hnd⟩ := hW
  have hA : DataW.TrodAll enc Tryz.prog W 0 (fun _ => true) true Tryz.f3.params.toList args.toList ds p := hA0
  rw [Tryz.params3] at hA hval
  have hAk := hA
  obtain ⟨args⟩ := args
  obtain ⟨v0, as0, d0, ds0, p0, q0, e0, rfl, rfl, h0, g0⟩ := trodAll_cons hA
  obtain ⟨v1, as1, d1, ds1, p1, q1, e1, rfl, rfl, h1, g1⟩ := trodAll_cons g0
  obtain ⟨ee, rfl, rfl⟩ := trodAll_nil g1
  subst ee
  subst e1
  have e0 : args = _ := e0
  subst e0
  obtain ⟨rfl, rfl⟩ := trodVars_none hV
  have hlt := hW'.lt
  obtain ⟨fu0, hf0⟩ := h0
  obtain ⟨tg, rfl⟩ := okWide_int Tryz.underlying3 (hval 0 3 v0 rfl rfl)
  have h_tg : (Lit.int .i64 tg).wf = true := by
    obtain ⟨⟨n, e, hw⟩, _⟩ : AllOK [.i .i64] [_] := flat_ok 9 3 _ fu0 _ _ (by kernel_rfl) hf0
    cases e; exact hw
  obtain ⟨s1, l1, rfl, hr1, hq1, hl1⟩ := open_elems ivE (fun _ => True) 1 (by decide) (fun _ => rfl) Tryz.underlying22 (by kernel_rfl) (fun n cs y hy => open_iv (flat_ok 9 3 [.i .i64] n cs y (by kernel_rfl) hy)) (hval 1 22 v1 rfl rfl) h1
  refine (tags_any W tg h_tg s1 l1 hr1 hq1 hl1).mono fun e W' ⟨he, hb⟩ => ?_
  subst he
  refine ⟨_, rfl, _, _, _, [], _, [], hW', trodAll_mk1 (shut_bool Tryz.underlying4 true), allBelow Tryz.laidOut hb (by kernel_rfl) hAk (fun x hx => hlt x (by simp at hx ⊢; exact hx)), ?_, hb.frame _, fun h => by cases h⟩
  rfl
theorem tags_holds : Rows.SpaceTagsSaid :=
  OpenClaim.holds_of_wide 3 Tryz.f3 rfl rfl rfl rfl rfl rfl rfl ⟨rfl, rfl, rfl, rfl, rfl⟩ rfl rfl rfl rfl rfl (by kernel_rfl) Tryz.func3 (by kernel_rfl)
    (of_decide_eq_true (by kernel_rfl)) (by unfold Func.isWrapper; first | (rw [if_pos (by decide +kernel)]; kernel_rfl) | (rw [if_neg (by decide +kernel)]; exact ⟨rfl, rfl⟩))
    (fun os started H enc _ => tags_lifted os started H enc)
end Go.Proofs.YtfchcnkgpklmhaaGreat
