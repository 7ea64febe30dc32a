/- SpaceBoots: a machine boots with just the frames that its map says. -/
import Derived.Test.YtfchcnkgpklmhaaGreatOpenP
import Derived.Test.YtfchcnkgpklmhaaGreatLawBoots
import Derived.Test.YtfchcnkgpklmhaaGreatRows
import Derived.Lib.SmallJoins
namespace Go.Proofs.YtfchcnkgpklmhaaGreat
open Go.Joins Go.ChangeShapes Go.WideShapes Go.ChangeAt Go.RowKit Go.Dn

theorem Tryz.own : ownKnob Tryz.prog.godebug = none := by kernel_rfl
theorem Tryz.laidOut : laidOutB Tryz.prog = true := by kernel_rfl
theorem Tryz.mixedOK : Tryz.prog.follows .mixedOrders = true := Checked.mixed Tryz.checked
theorem boots_any (w : World) (f : Int) (h_f : (Lit.int .i64 f).wf = true) (ka : Int) (h_ka : (Lit.int .i64 ka).wf = true) (kb : Int) (h_kb : (Lit.int .i64 kb).wf = true) (tg : Int) (h_tg : (Lit.int .i64 tg).wf = true) (s0 : Sl) (l0 : List Int) (hr0 : Reads (Was w.heap) s0 1 (l0.flatMap byC)) (hq0 : ∀ x ∈ l0, 0 ≤ x ∧ x < 256) (hl0 : l0.length < 9223372036854775808 ∧ s0.len ≤ s0.cap ∧ (s0.a = none → l0 = [])) :
    Calls Tryz.prog 6 #[.agg #[.int .i64 f, .int .i64 ka, .int .i64 kb, .int .i64 tg, .slice s0.a s0.len s0.cap]] w (Tells (.bool true) w) := by
  have hE : demesnelaw12_SpaceBoots_A f ka kb tg s0 (fun r0 A => Value.bool r0 = Value.bool true ∧ Dn.Own [Was w.heap] A) (allA w.heap) := SpaceBoots_spec (f := f) (kn := (ka, kb)) (tags := tg) (bs := l0) (k := 0) (own_all w.heap) rfl (by have hh := hr0; rw [flat_by] at hh; exact hh) hl0.2.1 hl0.2.2 hq0 (fun A h => ⟨rfl, h⟩)
  have hok := demesnelaw12_SpaceBoots_ok Tryz.mixedOK
  obtain ⟨F, hF⟩ : ∃ F, F = demesnelaw12_SpaceBoots_A := ⟨_, rfl⟩
  rw [← hF] at hE hok
  have hc := callA hok [.agg #[.int .i64 f, .int .i64 ka, .int .i64 kb, .int .i64 tg, .slice s0.a s0.len s0.cap]] (fun v h' => v = Value.bool true ∧ KeptH w.heap h') w (KA := fun v A => v = Value.bool true ∧ Dn.Own [Was w.heap] A) hE (fun v A' h' s h => lawQ s h)
  exact hc.mono fun e w' h => tells_of h
set_option maxRecDepth 100000 in
theorem boots_lifted (os : Os) (started : os.Started) (H : Type) (enc : TypeId × Value → H) :
    ReturnsInHanded {} Tryz.checked os 6 .any (Rows.spaceBootsSpec.pre6 enc Tryz.prog Tryz.f6 Rows.spaceBootsRow.domain false) (Rows.spaceBootsSpec.post enc Tryz.prog Tryz.f6 false true false false) := by
  refine returnsInHanded_of_change (C := Tryz.checked) Tryz.own started (by kernel_rfl) Tryz.func6
    (ChangeSpec.witness6 (enc := enc) (C := Tryz.checked) false ⟨#[], #[.agg #[.int .i64 0, .int .i64 0, .int .i64 0, .int .i64 0, .slice none 0 0]], []⟩ 8 (by kernel_rfl) (by kernel_rfl) (by kernel_rfl) (by kernel_rfl)) ?_
  intro W base args ds gs before hval0 hW hcnd _
  have hval : ∀ (j : Nat) t v, Tryz.f6.params[j]? = some t → args[j]? = some v → Value.okWide Tryz.prog W .any base t v := hval0
  have hW' := hW
  obtain ⟨p, q, hA0, hV, rfl, hfz, hnd⟩ := hW
  have hA : DataW.TrodAll enc Tryz.prog W 0 (fun _ => true) true Tryz.f6.params.toList args.toList ds p := hA0
  rw [Tryz.params6] at hA hval
  have hAk := hA
  obtain ⟨args⟩ := args
  obtain ⟨v0, as0, d0, ds0, p0, q0, e0, rfl, rfl, h0, g0⟩ := trodAll_cons hA
  obtain ⟨ee, rfl, rfl⟩ := trodAll_nil g0
  subst ee
  have e0 : args = _ := e0
  subst e0
  obtain ⟨rfl, rfl⟩ := trodVars_none hV
  have hlt := hW'.lt
  obtain ⟨f, ka, kb, tg, s0, l0, rfl, h_f, h_ka, h_kb, h_tg, hr0, hq0, hl0⟩ := open_plan Tryz.underlying75 ⟨rfl, rfl, rfl, rfl⟩ (by kernel_rfl) (by kernel_rfl) (by kernel_rfl) Tryz.underlying73 (by kernel_rfl) (by kernel_rfl) (by kernel_rfl) (by kernel_rfl) (by kernel_rfl) (by kernel_rfl) (by kernel_rfl) (hval 0 75 v0 rfl rfl) h0
  refine (boots_any W f h_f ka h_ka kb h_kb tg h_tg s0 l0 hr0 hq0 hl0).mono fun e W' ⟨he, hb⟩ => ?_
  subst he
  refine ⟨_, rfl, _, _, _, [], _, [], hW', trodAll_mk1 (shut_bool Tryz.underlying4 true), allBelow Tryz.laidOut hb (by kernel_rfl) hAk (fun x hx => hlt x (by simp at hx ⊢; exact hx)), ?_, hb.frame _, fun h => by cases h⟩
  rfl
theorem boots_holds : Rows.SpaceBootsSaid :=
  OpenClaim.holds_of_wide 6 Tryz.f6 rfl rfl rfl rfl rfl rfl rfl ⟨rfl, rfl, rfl, rfl, rfl⟩ rfl rfl rfl rfl rfl (by kernel_rfl) Tryz.func6 (by kernel_rfl)
    (of_decide_eq_true (by kernel_rfl)) (by unfold Func.isWrapper; first | (rw [if_pos (by decide +kernel)]; kernel_rfl) | (rw [if_neg (by decide +kernel)]; exact ⟨rfl, rfl⟩))
    (fun os started H enc _ => boots_lifted os started H enc)
end Go.Proofs.YtfchcnkgpklmhaaGreat
