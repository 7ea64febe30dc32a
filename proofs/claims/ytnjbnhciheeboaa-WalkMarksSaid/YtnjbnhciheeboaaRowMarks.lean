/- WalkMarks: a walk marks its entries as used; one that is refused leaves all as it was. -/
import Derived.Test.YtnjbnhciheeboaaRows
import Derived.Test.YtnjbnhciheeboaaRowLib
import Derived.Test.YtnjbnhciheeboaaLawMarks
import Derived.Test.YtnjbnhciheeboaaInputs
import Derived.Lib.SmallJoins
namespace Go.Proofs.Ytnjbnhciheeboaa
open Go.Joins Go.ChangeShapes Go.WideShapes Go.ChangeAt Go.RowKit Go.Dn

theorem Try.own : ownKnob Try.prog.godebug = none := by kernel_rfl
theorem Try.laidOut : laidOutB Try.prog = true := by kernel_rfl
theorem Try.mixedOK : Try.prog.follows .mixedOrders = true := Checked.mixed Try.checked
theorem marks_any (s : Sl) (ps : List Put) (root a : Int) (b0 b1 b2 : Bool) (w : World) (hr : Reads (Was w.heap) s 3 (putCells ps)) (hU : ∀ p ∈ ps, U64 p.x) (hl : ps.length < 9223372036854775808) (ha : U64 a) :
    Calls Try.prog 6 #[.slice s.a s.len s.cap, .agg #[.int .i64 root, .int .u64 a, .bool b0, .bool b1, .bool b2]] w (Tells (.bool true) w) := by
  have hE : demesnelaw04_WalkMarks s root a b0 b1 b2 (fun r0 h' => Value.bool r0 = Value.bool true ∧ KeptH w.heap h') w.heap := by
    refine demesnelaw04_WalkMarks_pro (Q2 := fun r A => r = true ∧ Own [Was w.heap] A) ?_ (sim_all w.heap) (WalkMarks_A (k := 0) (own_all w.heap) rfl hr hU hl ha fun A' h => ⟨rfl, h⟩)
    intro r A h s ⟨e, o⟩
    subst e
    exact ⟨rfl, kept_of s o⟩
  have hc := (demesnelaw04_WalkMarks_ok Try.mixedOK).call [.slice s.a s.len s.cap, .agg #[.int .i64 root, .int .u64 a, .bool b0, .bool b1, .bool b2]] (fun v h' => v = Value.bool true ∧ KeptH w.heap h') (fun _ _ => False) w hE
  exact hc.mono fun e w' h => tells_of h
set_option maxRecDepth 100000 in
theorem marks_lifted (os : Os) (started : os.Started) (H : Type) (enc : TypeId × Value → H) :
    ReturnsInHanded {} Try.checked os 6 .any (Rows.walkMarksSpec.pre6 enc Try.prog Try.f6 Rows.walkMarksRow.domain false) (Rows.walkMarksSpec.post enc Try.prog Try.f6 false true false false) := by
  refine returnsInHanded_of_change (C := Try.checked) Try.own started (by kernel_rfl) Try.func6
    (ChangeSpec.witness6 (enc := enc) (C := Try.checked) false ⟨#[], #[.slice none 0 0, .agg #[.int .i64 0, .int .u64 0, .bool false, .bool false, .bool false]], []⟩ 8 (by kernel_rfl) (by kernel_rfl) (by kernel_rfl) (by kernel_rfl)) ?_
  intro W base args ds gs before hval0 hW hcnd _
  have hval : ∀ (j : Nat) t v, Try.f6.params[j]? = some t → args[j]? = some v → Value.okWide Try.prog W .any base t v := hval0
  have hW' := hW
  obtain ⟨p, q, hA0, hV, rfl, hfz, hnd⟩ := hW
  have hA : DataW.TrodAll enc Try.prog W 0 (fun _ => true) true Try.f6.params.toList args.toList ds p := hA0
  rw [Try.params6] at hA hval
  obtain ⟨v0, v1, d0, d1, p0, p1, rfl, rfl, rfl, h0, h1⟩ := trodAll_two hA
  obtain ⟨rfl, rfl⟩ := trodVars_none hV
  have hlt := hW'.lt
  obtain ⟨s, ps, rfl, hr, hU, hl⟩ := open_puts Try.underlying22 Try.underlying60 (by kernel_rfl) (by kernel_rfl) Try.underlying3 Try.underlying3 Try.underlying32 (hval 0 22 v0 rfl rfl) h0
  obtain ⟨root, a, b0, b1, b2, rfl, ha⟩ := open_step Try.underlying36 (by kernel_rfl) ⟨⟨rfl, rfl, rfl⟩, by kernel_rfl, by kernel_rfl, by kernel_rfl⟩ Try.underlying3 Try.underlying32 Try.underlying34 (by kernel_rfl) Try.underlying4 Try.underlying4 Try.underlying4 (hval 1 36 v1 rfl rfl) h1
  refine (marks_any s ps root a b0 b1 b2 W hr hU hl ha).mono fun e W' ⟨he, hb, hf⟩ => ?_
  subst he
  have t0 := Below.trod Try.laidOut (by kernel_rfl) (of_decide_eq_true (by kernel_rfl)) h0 hb (fun x hx => hlt x (by simp [hx]))
  have t1 := Below.trod Try.laidOut (by kernel_rfl) (of_decide_eq_true (by kernel_rfl)) h1 hb (fun x hx => hlt x (by simp [hx]))
  refine ⟨_, rfl, _, _, _, [], _, [], hW', trodAll_mk1 (shut_bool Try.underlying4 true), trodAll_mk2 t0 t1, ?_, hb.frame _, fun h => by cases h⟩
  rfl
theorem marks_holds : Rows.WalkMarksSaid :=
  OpenClaim.holds_of_wide 6 Try.f6 rfl rfl rfl rfl rfl rfl rfl ⟨rfl, rfl, rfl, rfl, rfl⟩ rfl rfl rfl rfl rfl (by kernel_rfl) Try.func6 (by kernel_rfl)
    (of_decide_eq_true (by kernel_rfl)) (by unfold Func.isWrapper; first | (rw [if_pos (by decide +kernel)]; kernel_rfl) | (rw [if_neg (by decide +kernel)]; exact ⟨rfl, rfl⟩))
    (fun os started H enc _ => marks_lifted os started H enc)
end Go.Proofs.Ytnjbnhciheeboaa
