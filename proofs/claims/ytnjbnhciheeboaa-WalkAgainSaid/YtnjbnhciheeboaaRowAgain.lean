/- WalkAgain: what was found is found again, and what was refused is refused for a greater access. -/
import Derived.Test.YtnjbnhciheeboaaRows
import Derived.Test.YtnjbnhciheeboaaRowLib
import Derived.Test.YtnjbnhciheeboaaLawAgain
import Derived.Test.YtnjbnhciheeboaaInputs
import Derived.Lib.SmallJoins
namespace Go.Proofs.Ytnjbnhciheeboaa
open Go.Joins Go.ChangeShapes Go.WideShapes Go.ChangeAt Go.RowKit Go.Dn

theorem Try.own : ownKnob Try.prog.godebug = none := by kernel_rfl
theorem Try.laidOut : laidOutB Try.prog = true := by kernel_rfl
theorem Try.mixedOK : Try.prog.follows .mixedOrders = true := Checked.mixed Try.checked
theorem again_any (s : Sl) (ps : List Put) (root a : Int) (b0 b1 b2 b3 b4 b5 : Bool) (w : World) (hr : Reads (Was w.heap) s 3 (putCells ps)) (hU : ∀ p ∈ ps, U64 p.x) (hl : ps.length < 9223372036854775808) (ha : U64 a) :
    Calls Try.prog 5 #[.slice s.a s.len s.cap, .agg #[.int .i64 root, .int .u64 a, .bool b0, .bool b1, .bool b2], .agg #[.bool b3, .bool b4, .bool b5]] w (Tells (.bool true) w) := by
  have hE : demesnelaw04_WalkAgain s root a b0 b1 b2 b3 b4 b5 (fun r0 h' => Value.bool r0 = Value.bool true ∧ KeptH w.heap h') w.heap := by
    refine demesnelaw04_WalkAgain_pro (Q2 := fun r A => r = true ∧ Own [Was w.heap] A) ?_ (sim_all w.heap) (WalkAgain_A (k := 0) (own_all w.heap) rfl hr hU hl ha fun A' h => ⟨rfl, h⟩)
    intro r A h s ⟨e, o⟩
    subst e
    exact ⟨rfl, kept_of s o⟩
  have hc := (demesnelaw04_WalkAgain_ok Try.mixedOK).call [.slice s.a s.len s.cap, .agg #[.int .i64 root, .int .u64 a, .bool b0, .bool b1, .bool b2], .agg #[.bool b3, .bool b4, .bool b5]] (fun v h' => v = Value.bool true ∧ KeptH w.heap h') (fun _ _ => False) w hE
  exact hc.mono fun e w' h => tells_of h
set_option maxRecDepth 100000 in
theorem again_lifted (os : Os) (started : os.Started) (H : Type) (enc : TypeId × Value → H) :
    ReturnsInHanded {} Try.checked os 5 .any (Rows.walkAgainSpec.pre6 enc Try.prog Try.f5 Rows.walkAgainRow.domain false) (Rows.walkAgainSpec.post enc Try.prog Try.f5 false true false false) := by
  refine returnsInHanded_of_change (C := Try.checked) Try.own started (by kernel_rfl) Try.func5
    (ChangeSpec.witness6 (enc := enc) (C := Try.checked) false ⟨#[], #[.slice none 0 0, .agg #[.int .i64 0, .int .u64 0, .bool false, .bool false, .bool false], .agg #[.bool false, .bool false, .bool false]], []⟩ 8 (by kernel_rfl) (by kernel_rfl) (by kernel_rfl) (by kernel_rfl)) ?_
  intro W base args ds gs before hval0 hW hcnd _
  have hval : ∀ (j : Nat) t v, Try.f5.params[j]? = some t → args[j]? = some v → Value.okWide Try.prog W .any base t v := hval0
  have hW' := hW
  obtain ⟨p, q, hA0, hV, rfl, hfz, hnd⟩ := hW
  have hA : DataW.TrodAll enc Try.prog W 0 (fun _ => true) true Try.f5.params.toList args.toList ds p := hA0
  rw [Try.params5] at hA hval
  obtain ⟨v0, v1, v2, d0, d1, d2, p0, p1, p2, rfl, rfl, rfl, h0, h1, h2⟩ := trodAll_three hA
  obtain ⟨rfl, rfl⟩ := trodVars_none hV
  have hlt := hW'.lt
  obtain ⟨s, ps, rfl, hr, hU, hl⟩ := open_puts Try.underlying22 Try.underlying60 (by kernel_rfl) (by kernel_rfl) Try.underlying3 Try.underlying3 Try.underlying32 (hval 0 22 v0 rfl rfl) h0
  obtain ⟨root, a, b0, b1, b2, rfl, ha⟩ := open_step Try.underlying36 (by kernel_rfl) ⟨⟨rfl, rfl, rfl⟩, by kernel_rfl, by kernel_rfl, by kernel_rfl⟩ Try.underlying3 Try.underlying32 Try.underlying34 (by kernel_rfl) Try.underlying4 Try.underlying4 Try.underlying4 (hval 1 36 v1 rfl rfl) h1
  have h2k := h2
  obtain ⟨c3, c4, c5, y3, y4, y5, m2, rfl, rfl, rfl, hy3, hy4, hy5⟩ := open_agg3 Try.underlying34 (by kernel_rfl) (by kernel_rfl) (hval 2 34 v2 rfl rfl) h2
  obtain ⟨b3, e3, rfl⟩ := DataW.trod_bool Try.underlying4 hy3
  obtain ⟨b4, e4, rfl⟩ := DataW.trod_bool Try.underlying4 hy4
  obtain ⟨b5, e5, rfl⟩ := DataW.trod_bool Try.underlying4 hy5
  simp at e3 e4 e5
  subst e3 e4 e5
  refine (again_any s ps root a b0 b1 b2 b3 b4 b5 W hr hU hl ha).mono fun e W' ⟨he, hb, hf⟩ => ?_
  subst he
  have t0 := Below.trod Try.laidOut (by kernel_rfl) (of_decide_eq_true (by kernel_rfl)) h0 hb (fun x hx => hlt x (by simp [hx]))
  have t1 := Below.trod Try.laidOut (by kernel_rfl) (of_decide_eq_true (by kernel_rfl)) h1 hb (fun x hx => hlt x (by simp [hx]))
  have t2 := Below.trod Try.laidOut (by kernel_rfl) (of_decide_eq_true (by kernel_rfl)) h2k hb (fun x hx => hlt x (by simp at hx))
  refine ⟨_, rfl, _, _, _, [], _, [], hW', trodAll_mk1 (shut_bool Try.underlying4 true), trodAll_mk3 t0 t1 t2, ?_, hb.frame _, fun h => by cases h⟩
  rfl
theorem again_holds : Rows.WalkAgainSaid :=
  OpenClaim.holds_of_wide 5 Try.f5 rfl rfl rfl rfl rfl rfl rfl ⟨rfl, rfl, rfl, rfl, rfl⟩ rfl rfl rfl rfl rfl (by kernel_rfl) Try.func5 (by kernel_rfl)
    (of_decide_eq_true (by kernel_rfl)) (by unfold Func.isWrapper; first | (rw [if_pos (by decide +kernel)]; kernel_rfl) | (rw [if_neg (by decide +kernel)]; exact ⟨rfl, rfl⟩))
    (fun os started H enc _ => again_lifted os started H enc)
end Go.Proofs.Ytnjbnhciheeboaa
