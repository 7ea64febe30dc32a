/- TablePlays: pages lead where they were mapped to, and just the tables that they need are charged. -/
import Derived.Test.YtcdcmffcajlolaaRowLib
import Derived.Test.YtcdcmffcajlolaaFlat
import Derived.Test.YtcdcmffcajlolaaOpenT
import Derived.Test.YtcdcmffcajlolaaRows
import Derived.Lib.SmallJoins
namespace Go.Proofs.Ytcdcmffcajlolaa
open Go.Joins Go.ChangeShapes Go.WideShapes Go.ChangeAt Go.RowKit Go.Dn

theorem Try.own : ownKnob Try.prog.godebug = none := by kernel_rfl
theorem Try.laidOut : laidOutB Try.prog = true := by kernel_rfl
theorem Try.mixedOK : Try.prog.follows .mixedOrders = true := Checked.mixed Try.checked
theorem plays_any (w : World) (a : Int) (h_a : (Lit.int .i64 a).wf = true) (s1 : Sl) (l1 : List ActZ) (hr1 : Reads (Was w.heap) s1 6 (l1.flatMap actCell)) (hq1 : ∀ x ∈ l1, (fun _ => True) x) (hl1 : l1.length < 9223372036854775808) :
    Calls Try.prog 9 #[.int .i64 a, .slice s1.a s1.len s1.cap] w (Tells (.bool true) w) := by
  have hE : demesnelaw09_TablePlays_A a s1 (fun r0 A => Value.bool r0 = Value.bool true ∧ Own [Was w.heap] A) (allA w.heap) := TablePlays_spec (k := 0) (own_all w.heap) rfl hr1 (i64_wf h_a) (fun A h => ⟨rfl, h⟩)
  have hok := demesnelaw09_TablePlays_ok Try.mixedOK
  obtain ⟨F, hF⟩ : ∃ F, F = demesnelaw09_TablePlays_A := ⟨_, rfl⟩
  rw [← hF] at hE hok
  have hc := callA hok [.int .i64 a, .slice s1.a s1.len s1.cap] (fun v h' => v = Value.bool true ∧ KeptH w.heap h') w (KA := fun v A => v = Value.bool true ∧ Own [Was w.heap] A) hE (fun v A' h' s h => lawQ s h)
  exact hc.mono fun e w' h => tells_of h
set_option maxRecDepth 100000 in
theorem plays_lifted (os : Os) (started : os.Started) (H : Type) (enc : TypeId × Value → H) :
    ReturnsInHanded {} Try.checked os 9 .any (Rows.tablePlaysSpec.pre6 enc Try.prog Try.f9 Rows.tablePlaysRow.domain false) (Rows.tablePlaysSpec.post enc Try.prog Try.f9 false true false false) := by
  refine returnsInHanded_of_change (C := Try.checked) Try.own started (by kernel_rfl) Try.func9
    (ChangeSpec.witness6 (enc := enc) (C := Try.checked) false ⟨#[], #[.int .i64 0, .slice none 0 0], []⟩ 8 (by kernel_rfl) (by kernel_rfl) (by kernel_rfl) (by kernel_rfl)) ?_
  intro W base args ds gs before hval0 hW hcnd _
  have hval : ∀ (j : Nat) t v, Try.f9.params[j]? = some t → args[j]? = some v → Value.okWide Try.prog W .any base t v := hval0
  have hW' := hW
  obtain ⟨p, q, hA0, hV, rfl, hfz, hnd⟩ := hW
  have hA : DataW.TrodAll enc Try.prog W 0 (fun _ => true) true Try.f9.params.toList args.toList ds p := hA0
  rw [Try.params9] at hA hval
  have hAk := hA
  obtain ⟨args⟩ := args
  obtain ⟨v0, as0, d0, ds0, p0, q0, e0, rfl, rfl, h0, g0⟩ := trodAll_cons hA
  obtain ⟨v1, as1, d1, ds1, p1, q1, e1, rfl, rfl, h1, g1⟩ := trodAll_cons g0
  obtain ⟨ee, rfl, rfl⟩ := trodAll_nil g1
  subst ee
  subst e1
  have e0 : args = _ := e0
  subst e0
  obtain ⟨rfl, rfl⟩ := trodVars_none hV
  have hlt := hW'.lt
  obtain ⟨fu0, hf0⟩ := h0
  obtain ⟨a, rfl⟩ := okWide_int Try.underlying3 (hval 0 3 v0 rfl rfl)
  have h_a : (Lit.int .i64 a).wf = true := by
    obtain ⟨⟨n, e, hw⟩, _⟩ : AllOK [.i .i64] [_] := flat_ok 9 3 _ fu0 _ _ (by kernel_rfl) hf0
    cases e; exact hw
  obtain ⟨s1, l1, rfl, hr1, hq1, hl1⟩ := open_elems actCell (fun _ => True) 6 (by decide) (fun _ => rfl) Try.underlying44 (by kernel_rfl) (fun n cs y hy => open_act (flat_ok 9 52 [.i .i64, .i .i64, .i .i64, .b, .b, .b] n cs y (by kernel_rfl) hy)) (hval 1 44 v1 rfl rfl) h1
  refine (plays_any W a h_a s1 l1 hr1 hq1 hl1).mono fun e W' ⟨he, hb⟩ => ?_
  subst he
  refine ⟨_, rfl, _, _, _, [], _, [], hW', trodAll_mk1 (shut_bool Try.underlying4 true), allBelow Try.laidOut hb (by kernel_rfl) hAk (fun x hx => hlt x (by simp at hx ⊢; exact hx)), ?_, hb.frame _, fun h => by cases h⟩
  rfl
theorem plays_holds : Rows.TablePlaysSaid :=
  OpenClaim.holds_of_wide 9 Try.f9 rfl rfl rfl rfl rfl rfl rfl ⟨rfl, rfl, rfl, rfl, rfl⟩ rfl rfl rfl rfl rfl (by kernel_rfl) Try.func9 (by kernel_rfl)
    (of_decide_eq_true (by kernel_rfl)) (by unfold Func.isWrapper; first | (rw [if_pos (by decide +kernel)]; kernel_rfl) | (rw [if_neg (by decide +kernel)]; exact ⟨rfl, rfl⟩))
    (fun os started H enc _ => plays_lifted os started H enc)
end Go.Proofs.Ytcdcmffcajlolaa
