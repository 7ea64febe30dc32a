/- BootmapFrames: just the frames that may be used come out of a map. -/
import Derived.Test.YthplpkndhmhahaaP
import Derived.Test.YthplpkndhmhahaaInputs
import Derived.Test.YthplpkndhmhahaaLawFrames
import Derived.Test.YthplpkndhmhahaaFlat
import Derived.Test.YthplpkndhmhahaaOpenB
import Derived.Test.YthplpkndhmhahaaRows
import Derived.Lib.SmallJoins
namespace Go.Proofs.Ythplpkndhmhahaa
open Go.Joins Go.ChangeShapes Go.WideShapes Go.ChangeAt Go.RowKit Go.Dn

theorem Try.own : ownKnob Try.prog.godebug = none := by kernel_rfl
theorem Try.laidOut : laidOutB Try.prog = true := by kernel_rfl
theorem Try.mixedOK : Try.prog.follows .mixedOrders = true := Checked.mixed Try.checked
theorem frames_any (w : World) (s0 : Sl) (l0 : List Int) (hr0 : Reads (Was w.heap) s0 1 (l0.flatMap byC)) (hq0 : ∀ x ∈ l0, (fun x => 0 ≤ x ∧ x < 256) x) (hl0 : l0.length < 9223372036854775808 ∧ s0.len ≤ s0.cap ∧ (s0.a = none → l0 = [])) (f : Int) (h_f : (Lit.int .i64 f).wf = true) (ka : Int) (h_ka : (Lit.int .i64 ka).wf = true) (kb : Int) (h_kb : (Lit.int .i64 kb).wf = true) :
    Calls Try.prog 5 #[.slice s0.a s0.len s0.cap, .int .i64 f, .agg #[.int .i64 ka, .int .i64 kb]] w (Tells (.bool true) w) := by
  have hE : demesnelaw06_BootmapFrames_A s0 f ka kb (fun r0 A => Value.bool r0 = Value.bool true ∧ Dn.Own [Was w.heap] A) (allA w.heap) := BootmapFrames_spec (bs := l0) (k := 0) (kn := (ka, kb)) (own_all w.heap) rfl (by have hh := hr0; rw [flat_by] at hh; exact hh) hl0.2.1 hl0.2.2 hq0 (fun A h => ⟨rfl, h⟩)
  have hok := demesnelaw06_BootmapFrames_ok Try.mixedOK
  obtain ⟨F, hF⟩ : ∃ F, F = demesnelaw06_BootmapFrames_A := ⟨_, rfl⟩
  rw [← hF] at hE hok
  have hc := callA hok [.slice s0.a s0.len s0.cap, .int .i64 f, .agg #[.int .i64 ka, .int .i64 kb]] (fun v h' => v = Value.bool true ∧ KeptH w.heap h') w (KA := fun v A => v = Value.bool true ∧ Dn.Own [Was w.heap] A) hE (fun v A' h' s h => lawQ s h)
  exact hc.mono fun e w' h => tells_of h
set_option maxRecDepth 100000 in
theorem frames_lifted (os : Os) (started : os.Started) (H : Type) (enc : TypeId × Value → H) :
    ReturnsInHanded {} Try.checked os 5 .any (Rows.bootmapFramesSpec.pre6 enc Try.prog Try.f5 Rows.bootmapFramesRow.domain false) (Rows.bootmapFramesSpec.post enc Try.prog Try.f5 false true false false) := by
  refine returnsInHanded_of_change (C := Try.checked) Try.own started (by kernel_rfl) Try.func5
    (ChangeSpec.witness6 (enc := enc) (C := Try.checked) false ⟨#[], #[.slice none 0 0, .int .i64 0, .agg #[.int .i64 0, .int .i64 0]], []⟩ 8 (by kernel_rfl) (by kernel_rfl) (by kernel_rfl) (by kernel_rfl)) ?_
  intro W base args ds gs before hval0 hW hcnd _
  have hval : ∀ (j : Nat) t v, Try.f5.params[j]? = some t → args[j]? = some v → Value.okWide Try.prog W .any base t v := hval0
  have hW' := hW
  obtain ⟨p, q, hA0, hV, rfl, hfz, hnd⟩ := hW
  have hA : DataW.TrodAll enc Try.prog W 0 (fun _ => true) true Try.f5.params.toList args.toList ds p := hA0
  rw [Try.params5] at hA hval
  have hAk := hA
  obtain ⟨args⟩ := args
  obtain ⟨v0, as0, d0, ds0, p0, q0, e0, rfl, rfl, h0, g0⟩ := trodAll_cons hA
  obtain ⟨v1, as1, d1, ds1, p1, q1, e1, rfl, rfl, h1, g1⟩ := trodAll_cons g0
  obtain ⟨v2, as2, d2, ds2, p2, q2, e2, rfl, rfl, h2, g2⟩ := trodAll_cons g1
  obtain ⟨ee, rfl, rfl⟩ := trodAll_nil g2
  subst ee
  subst e2
  subst e1
  have e0 : args = _ := e0
  subst e0
  obtain ⟨rfl, rfl⟩ := trodVars_none hV
  have hlt := hW'.lt
  obtain ⟨s0, l0, rfl, hr0, hq0, hl0⟩ := open_elems byC (fun x => 0 ≤ x ∧ x < 256) 1 (by decide) (fun _ => rfl) Try.underlying22 (by kernel_rfl) (fun n cs y hy => open_by (flat_ok 9 5 [.i .u8] n cs y (by kernel_rfl) hy)) (hval 0 22 v0 rfl rfl) h0
  obtain ⟨fu1, hf1⟩ := h1
  obtain ⟨f, rfl⟩ := okWide_int Try.underlying3 (hval 1 3 v1 rfl rfl)
  have h_f : (Lit.int .i64 f).wf = true := by
    obtain ⟨⟨n, e, hw⟩, _⟩ : AllOK [.i .i64] [_] := flat_ok 9 3 _ fu1 _ _ (by kernel_rfl) hf1
    cases e; exact hw
  obtain ⟨c2, rfl, _⟩ := okWide_struct Try.underlying44 (hval 2 44 v2 rfl rfl)
  obtain ⟨fu2, hf2⟩ := h2
  have ok2 : AllOK [.i .i64, .i .i64] c2.toList := flat_ok 9 44 _ fu2 _ _ (by kernel_rfl) hf2
  obtain ⟨c2⟩ := c2
  obtain ⟨w2_0, o2_0, w2_1, o2_1, rfl⟩ := allOK_2 ok2
  obtain ⟨ka, rfl, h_ka⟩ := o2_0
  obtain ⟨kb, rfl, h_kb⟩ := o2_1
  refine (frames_any W s0 l0 hr0 hq0 hl0 f h_f ka h_ka kb h_kb).mono fun e W' ⟨he, hb⟩ => ?_
  subst he
  refine ⟨_, rfl, _, _, _, [], _, [], hW', trodAll_mk1 (shut_bool Try.underlying4 true), allBelow Try.laidOut hb (by kernel_rfl) hAk (fun x hx => hlt x (by simp at hx ⊢; exact hx)), ?_, hb.frame _, fun h => by cases h⟩
  rfl
theorem frames_holds : Rows.BootmapFramesSaid :=
  OpenClaim.holds_of_wide 5 Try.f5 rfl rfl rfl rfl rfl rfl rfl ⟨rfl, rfl, rfl, rfl, rfl⟩ rfl rfl rfl rfl rfl (by kernel_rfl) Try.func5 (by kernel_rfl)
    (of_decide_eq_true (by kernel_rfl)) (by unfold Func.isWrapper; first | (rw [if_pos (by decide +kernel)]; kernel_rfl) | (rw [if_neg (by decide +kernel)]; exact ⟨rfl, rfl⟩))
    (fun os started H enc _ => frames_lifted os started H enc)
end Go.Proofs.Ythplpkndhmhahaa
