/- BootmapOrder: in whatever order areas stand the same frames come of them, and reserved ones never add any. -/
import Derived.Test.YthplpkndhmhahaaP
import Derived.Test.YthplpkndhmhahaaInputs
import Derived.Test.YthplpkndhmhahaaLawOrder
import Derived.Test.YthplpkndhmhahaaFlat
import Derived.Test.YthplpkndhmhahaaOpenA
import Derived.Test.YthplpkndhmhahaaRows
import Derived.Lib.SmallJoins
namespace Go.Proofs.Ythplpkndhmhahaa
open Go.Joins Go.ChangeShapes Go.WideShapes Go.ChangeAt Go.RowKit Go.Dn

theorem Try.own : ownKnob Try.prog.godebug = none := by kernel_rfl
theorem Try.laidOut : laidOutB Try.prog = true := by kernel_rfl
theorem Try.mixedOK : Try.prog.follows .mixedOrders = true := Checked.mixed Try.checked
theorem order_any (w : World) (s0 : Sl) (l0 : List Ar) (hr0 : Reads (Was w.heap) s0 3 (l0.flatMap areaC)) (hq0 : ∀ x ∈ l0, ArW x) (hl0 : l0.length < 9223372036854775808 ∧ s0.len ≤ s0.cap ∧ (s0.a = none → l0 = [])) (ma : Int) (h_ma : (Lit.int .u64 ma).wf = true) (mb : Int) (h_mb : (Lit.int .u64 mb).wf = true) (mc : Int) (h_mc : (Lit.int .u32 mc).wf = true) (f : Int) (h_f : (Lit.int .i64 f).wf = true) :
    Calls Try.prog 7 #[.slice s0.a s0.len s0.cap, .agg #[.int .u64 ma, .int .u64 mb, .int .u32 mc], .int .i64 f] w (Tells (.bool true) w) := by
  have hE : demesnelaw06_BootmapOrder_A s0 ma mb mc f (fun r0 A => Value.bool r0 = Value.bool true ∧ Dn.Own [Was w.heap] A) (allA w.heap) := BootmapOrder_spec (L := l0) (x := (ma, mb, mc)) (k := 0) (own_all w.heap) rfl hr0 hq0 ⟨u64_rng h_ma, u64_rng h_mb, u32_rng h_mc⟩ (fun A h => ⟨rfl, h⟩)
  have hok := demesnelaw06_BootmapOrder_ok Try.mixedOK
  obtain ⟨F, hF⟩ : ∃ F, F = demesnelaw06_BootmapOrder_A := ⟨_, rfl⟩
  rw [← hF] at hE hok
  have hc := callA hok [.slice s0.a s0.len s0.cap, .agg #[.int .u64 ma, .int .u64 mb, .int .u32 mc], .int .i64 f] (fun v h' => v = Value.bool true ∧ KeptH w.heap h') w (KA := fun v A => v = Value.bool true ∧ Dn.Own [Was w.heap] A) hE (fun v A' h' s h => lawQ s h)
  exact hc.mono fun e w' h => tells_of h
set_option maxRecDepth 100000 in
theorem order_lifted (os : Os) (started : os.Started) (H : Type) (enc : TypeId × Value → H) :
    ReturnsInHanded {} Try.checked os 7 .any (Rows.bootmapOrderSpec.pre6 enc Try.prog Try.f7 Rows.bootmapOrderRow.domain false) (Rows.bootmapOrderSpec.post enc Try.prog Try.f7 false true false false) := by
  refine returnsInHanded_of_change (C := Try.checked) Try.own started (by kernel_rfl) Try.func7
    (ChangeSpec.witness6 (enc := enc) (C := Try.checked) false ⟨#[], #[.slice none 0 0, .agg #[.int .u64 0, .int .u64 0, .int .u32 0], .int .i64 0], []⟩ 8 (by kernel_rfl) (by kernel_rfl) (by kernel_rfl) (by kernel_rfl)) ?_
  intro W base args ds gs before hval0 hW hcnd _
  have hval : ∀ (j : Nat) t v, Try.f7.params[j]? = some t → args[j]? = some v → Value.okWide Try.prog W .any base t v := hval0
  have hW' := hW
  obtain ⟨p, q, hA0, hV, rfl, hfz, hnd⟩ := hW
  have hA : DataW.TrodAll enc Try.prog W 0 (fun _ => true) true Try.f7.params.toList args.toList ds p := hA0
  rw [Try.params7] at hA hval
  have hAk := hA
  obtain ⟨args⟩ := args
  obtain ⟨v0, as0, d0, ds0, p0, q0, e0, rfl, rfl, h0, g0⟩ := trodAll_cons hA
  obtain ⟨v1, as1, d1, ds1, p1, q1, e1, rfl, rfl, h1, g1⟩ := trodAll_cons g0
  obtain ⟨v2, as2, d2, ds2, p2, q2, e2, rfl, rfl, h2, g2⟩ := trodAll_cons g1
  obtain ⟨ee, rfl, rfl⟩ := trodAll_nil g2
  subst ee
  subst e2
  subst e1
  have e0 : args = _ := e0
  subst e0
  obtain ⟨rfl, rfl⟩ := trodVars_none hV
  have hlt := hW'.lt
  obtain ⟨s0, l0, rfl, hr0, hq0, hl0⟩ := open_elems areaC ArW 3 (by decide) (fun _ => rfl) Try.underlying24 (by kernel_rfl) (fun n cs y hy => open_ar (flat_ok 9 36 [.i .u64, .i .u64, .i .u32] n cs y (by kernel_rfl) hy)) (hval 0 24 v0 rfl rfl) h0
  obtain ⟨c1, rfl, _⟩ := okWide_struct Try.underlying36 (hval 1 36 v1 rfl rfl)
  obtain ⟨fu1, hf1⟩ := h1
  have ok1 : AllOK [.i .u64, .i .u64, .i .u32] c1.toList := flat_ok 9 36 _ fu1 _ _ (by kernel_rfl) hf1
  obtain ⟨c1⟩ := c1
  obtain ⟨w1_0, o1_0, w1_1, o1_1, w1_2, o1_2, rfl⟩ := allOK_3 ok1
  obtain ⟨ma, rfl, h_ma⟩ := o1_0
  obtain ⟨mb, rfl, h_mb⟩ := o1_1
  obtain ⟨mc, rfl, h_mc⟩ := o1_2
  obtain ⟨fu2, hf2⟩ := h2
  obtain ⟨f, rfl⟩ := okWide_int Try.underlying3 (hval 2 3 v2 rfl rfl)
  have h_f : (Lit.int .i64 f).wf = true := by
    obtain ⟨⟨n, e, hw⟩, _⟩ : AllOK [.i .i64] [_] := flat_ok 9 3 _ fu2 _ _ (by kernel_rfl) hf2
    cases e; exact hw
  refine (order_any W s0 l0 hr0 hq0 hl0 ma h_ma mb h_mb mc h_mc f h_f).mono fun e W' ⟨he, hb⟩ => ?_
  subst he
  refine ⟨_, rfl, _, _, _, [], _, [], hW', trodAll_mk1 (shut_bool Try.underlying4 true), allBelow Try.laidOut hb (by kernel_rfl) hAk (fun x hx => hlt x (by simp at hx ⊢; exact hx)), ?_, hb.frame _, fun h => by cases h⟩
  rfl
theorem order_holds : Rows.BootmapOrderSaid :=
  OpenClaim.holds_of_wide 7 Try.f7 rfl rfl rfl rfl rfl rfl rfl ⟨rfl, rfl, rfl, rfl, rfl⟩ rfl rfl rfl rfl rfl (by kernel_rfl) Try.func7 (by kernel_rfl)
    (of_decide_eq_true (by kernel_rfl)) (by unfold Func.isWrapper; first | (rw [if_pos (by decide +kernel)]; kernel_rfl) | (rw [if_neg (by decide +kernel)]; exact ⟨rfl, rfl⟩))
    (fun os started H enc _ => order_lifted os started H enc)
end Go.Proofs.Ythplpkndhmhahaa
