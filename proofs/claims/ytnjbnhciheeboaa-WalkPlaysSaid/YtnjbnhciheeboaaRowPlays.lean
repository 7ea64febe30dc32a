/- WalkPlays: addresses lead where the tables say, faults have their codes, and entries are marked. -/
import Derived.Test.YtnjbnhciheeboaaRows
import Derived.Test.YtnjbnhciheeboaaRowLib
import Derived.Test.YtnjbnhciheeboaaLawPlays
import Derived.Test.YtnjbnhciheeboaaOpenW
import Derived.Test.YtnjbnhciheeboaaFlat
import Derived.Lib.SmallJoins
namespace Go.Proofs.Ytnjbnhciheeboaa
open Go.Joins Go.ChangeShapes Go.WideShapes Go.ChangeAt Go.RowKit Go.Dn

theorem Try.own : ownKnob Try.prog.godebug = none := by kernel_rfl
theorem Try.laidOut : laidOutB Try.prog = true := by kernel_rfl
theorem Try.mixedOK : Try.prog.follows .mixedOrders = true := Checked.mixed Try.checked
theorem plays_any (w : World) (s0 : Sl) (l0 : List Put) (hr0 : Reads (Was w.heap) s0 3 (l0.flatMap putC)) (hq0 : ∀ x ∈ l0, putQ x) (hl0 : l0.length < 9223372036854775808) (s1 : Sl) (l1 : List Stp) (hr1 : Reads (Was w.heap) s1 5 (l1.flatMap stpC)) (hq1 : ∀ x ∈ l1, stpQ x) (hl1 : l1.length < 9223372036854775808) :
    Calls Try.prog 3 #[.slice s0.a s0.len s0.cap, .slice s1.a s1.len s1.cap] w (Tells (.bool true) w) := by
  have hE : demesnelaw04_WalkPlays s0 s1 (fun r0 h' => Value.bool r0 = Value.bool true ∧ KeptH w.heap h') w.heap := by
    refine demesnelaw04_WalkPlays_pro (Q2 := fun r A => r = true ∧ Own [Was w.heap] A) ?_ (sim_all w.heap) (WalkPlays_A (k := 0) (own_all w.heap) rfl hr0 hr1 hq0 hl0 hq1 hl1 fun A h => ⟨rfl, h⟩)
    intro r A h s ⟨e, o⟩
    subst e
    exact ⟨rfl, kept_of s o⟩
  have hc := (demesnelaw04_WalkPlays_ok Try.mixedOK).call [.slice s0.a s0.len s0.cap, .slice s1.a s1.len s1.cap] (fun v h' => v = Value.bool true ∧ KeptH w.heap h') (fun _ _ => False) w hE
  exact hc.mono fun e w' h => tells_of h
set_option maxRecDepth 100000 in
theorem plays_lifted (os : Os) (started : os.Started) (H : Type) (enc : TypeId × Value → H) :
    ReturnsInHanded {} Try.checked os 3 .any (Rows.walkPlaysSpec.pre6 enc Try.prog Try.f3 Rows.walkPlaysRow.domain false) (Rows.walkPlaysSpec.post enc Try.prog Try.f3 false true false false) := by
  refine returnsInHanded_of_change (C := Try.checked) Try.own started (by kernel_rfl) Try.func3
    (ChangeSpec.witness6 (enc := enc) (C := Try.checked) false ⟨#[], #[.slice none 0 0, .slice none 0 0], []⟩ 8 (by kernel_rfl) (by kernel_rfl) (by kernel_rfl) (by kernel_rfl)) ?_
  intro W base args ds gs before hval0 hW hcnd _
  have hval : ∀ (j : Nat) t v, Try.f3.params[j]? = some t → args[j]? = some v → Value.okWide Try.prog W .any base t v := hval0
  have hW' := hW
  obtain ⟨p, q, hA0, hV, rfl, hfz, hnd⟩ := hW
  have hA : DataW.TrodAll enc Try.prog W 0 (fun _ => true) true Try.f3.params.toList args.toList ds p := hA0
  rw [Try.params3] at hA hval
  have hAk := hA
  obtain ⟨args⟩ := args
  obtain ⟨v0, as0, d0, ds0, p0, q0, e0, rfl, rfl, h0, g0⟩ := trodAll_cons hA
  obtain ⟨v1, as1, d1, ds1, p1, q1, e1, rfl, rfl, h1, g1⟩ := trodAll_cons g0
  obtain ⟨ee, rfl, rfl⟩ := trodAll_nil g1
  subst ee
  subst e1
  have e0 : args = _ := e0
  subst e0
  obtain ⟨rfl, rfl⟩ := trodVars_none hV
  have hlt := hW'.lt
  obtain ⟨s0, l0, rfl, hr0, hq0, hl0⟩ := open_elems putC putQ 3 (by decide) (fun _ => rfl) Try.underlying22 (by kernel_rfl) (fun n cs y hy => open_put1 (flat_ok 9 60 [.i .i64, .i .i64, .i .u64] n cs y (by kernel_rfl) hy)) (hval 0 22 v0 rfl rfl) h0
  obtain ⟨s1, l1, rfl, hr1, hq1, hl1⟩ := open_elems stpC stpQ 5 (by decide) (fun _ => rfl) Try.underlying23 (by kernel_rfl) (fun n cs y hy => open_stp1 (flat_ok 9 36 [.i .i64, .i .u64, .b, .b, .b] n cs y (by kernel_rfl) hy)) (hval 1 23 v1 rfl rfl) h1
  refine (plays_any W s0 l0 hr0 hq0 hl0 s1 l1 hr1 hq1 hl1).mono fun e W' ⟨he, hb, hf⟩ => ?_
  subst he
  refine ⟨_, rfl, _, _, _, [], _, [], hW', trodAll_mk1 (shut_bool Try.underlying4 true), allBelow Try.laidOut hb (by kernel_rfl) hAk (fun x hx => hlt x (by simp at hx ⊢; exact hx)), ?_, hb.frame _, fun h => by cases h⟩
  rfl
theorem plays_holds : Rows.WalkPlaysSaid :=
  OpenClaim.holds_of_wide 3 Try.f3 rfl rfl rfl rfl rfl rfl rfl ⟨rfl, rfl, rfl, rfl, rfl⟩ rfl rfl rfl rfl rfl (by kernel_rfl) Try.func3 (by kernel_rfl)
    (of_decide_eq_true (by kernel_rfl)) (by unfold Func.isWrapper; first | (rw [if_pos (by decide +kernel)]; kernel_rfl) | (rw [if_neg (by decide +kernel)]; exact ⟨rfl, rfl⟩))
    (fun os started H enc _ => plays_lifted os started H enc)
end Go.Proofs.Ytnjbnhciheeboaa
