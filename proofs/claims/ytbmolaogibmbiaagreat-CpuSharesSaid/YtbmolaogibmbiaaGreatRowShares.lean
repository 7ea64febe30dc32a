/- CpuShares: what one stores in a lent page the other one loads, until it is back. -/
import Derived.Test.YtbmolaogibmbiaaGreatP
import Derived.Test.YtbmolaogibmbiaaGreatOpenC
import Derived.Test.YtbmolaogibmbiaaGreatLawShares
import Derived.Test.YtbmolaogibmbiaaGreatRows
import Derived.Lib.SmallJoins
namespace Go.Proofs.YtbmolaogibmbiaaGreat
open Go.Joins Go.ChangeShapes Go.WideShapes Go.ChangeAt Go.RowKit Go.Dn
theorem Tryz.own : ownKnob Tryz.prog.godebug = none := by kernel_rfl
theorem Tryz.laidOut : laidOutB Tryz.prog = true := by kernel_rfl
theorem Tryz.mixedOK : Tryz.prog.follows .mixedOrders = true := Checked.mixed Tryz.checked
theorem shares_any (w : World) (s0 : Sl) (l0 : List Int) (hr0 : Reads (Was w.heap) s0 1 (l0.flatMap ivE)) (hq0 : ∀ x ∈ l0, (fun _ => True) x) (hl0 : l0.length < 9223372036854775808 ∧ s0.len ≤ s0.cap ∧ (s0.a = none → l0 = [])) (pg : Int) (h_pg : (Lit.int .i64 pg).wf = true) (at_ : Int) (h_at_ : (Lit.int .i64 at_).wf = true) (x : Int) (h_x : (Lit.int .u64 x).wf = true) (y : Int) (h_y : (Lit.int .u64 y).wf = true) :
  Calls Tryz.prog 4 #[.slice s0.a s0.len s0.cap, .int .i64 pg, .int .i64 at_, .int .u64 x, .int .u64 y] w (Tells (.bool true) w) := by
 have hE : qep_A s0 pg at_ x y (fun r0 A => Value.bool r0 = Value.bool true ∧ Dn.Own [Was w.heap] A) (allA w.heap) := CpuShares_spec (ch := l0) (k := 0) (own_all w.heap) rfl (by have hh := hr0; rw [flat_iv] at hh; exact hh) hl0.2.1 hl0.2.2 (u64_rng h_x) (u64_rng h_y) (fun A h => ⟨rfl, h⟩)
 have hok := qep_ok Tryz.mixedOK
 obtain ⟨F, hF⟩ : ∃ F, F = qep_A := ⟨_, rfl⟩
 rw [← hF] at hE hok
 have hc := callA hok [.slice s0.a s0.len s0.cap, .int .i64 pg, .int .i64 at_, .int .u64 x, .int .u64 y] (fun v h' => v = Value.bool true ∧ KeptH w.heap h') w (KA := fun v A => v = Value.bool true ∧ Dn.Own [Was w.heap] A) hE (fun v A' h' s h => lawQ s h)
 exact hc.mono fun e w' h => tells_of h
set_option maxRecDepth 100000 in
theorem shares_lifted (os : Os) (started : os.Started) (H : Type) (enc : TypeId × Value → H) :
  ReturnsInHanded {} Tryz.checked os 4 .any (Rows.cpuSharesSpec.pre6 enc Tryz.prog Tryz.f4 Rows.cpuSharesRow.domain false) (Rows.cpuSharesSpec.post enc Tryz.prog Tryz.f4 false true false false) := by
 refine returnsInHanded_of_change (C := Tryz.checked) Tryz.own started (by kernel_rfl) Tryz.func4
  (ChangeSpec.witness6 (enc := enc) (C := Tryz.checked) false ⟨#[], #[.slice none 0 0, .int .i64 0, .int .i64 0, .int .u64 0, .int .u64 0], []⟩ 8 (by kernel_rfl) (by kernel_rfl) (by kernel_rfl) (by kernel_rfl)) ?_
 intro W base args ds gs before hval0 hW hcnd _
 have hval : ∀ (j : Nat) t v, Tryz.f4.params[j]? = some t → args[j]? = some v → Value.okWide Tryz.prog W .any base t v := hval0
 have hW' := hW
 obtain ⟨p, q, hA0, hV, rfl, hfz, hnd⟩ := hW
 have hA : DataW.TrodAll enc Tryz.prog W 0 (fun _ => true) true Tryz.f4.params.toList args.toList ds p := hA0
 rw [Tryz.params4] at hA hval
 have hAk := hA
 obtain ⟨args⟩ := args
 obtain ⟨v0, as0, d0, ds0, p0, q0, e0, rfl, rfl, h0, g0⟩ := trodAll_cons hA
 obtain ⟨v1, as1, d1, ds1, p1, q1, e1, rfl, rfl, h1, g1⟩ := trodAll_cons g0
 obtain ⟨v2, as2, d2, ds2, p2, q2, e2, rfl, rfl, h2, g2⟩ := trodAll_cons g1
 obtain ⟨v3, as3, d3, ds3, p3, q3, e3, rfl, rfl, h3, g3⟩ := trodAll_cons g2
 obtain ⟨v4, as4, d4, ds4, p4, q4, e4, rfl, rfl, h4, g4⟩ := trodAll_cons g3
 obtain ⟨ee, rfl, rfl⟩ := trodAll_nil g4
 subst ee
 subst e4
 subst e3
 subst e2
 subst e1
 have e0 : args = _ := e0
 subst e0
 obtain ⟨rfl, rfl⟩ := trodVars_none hV
 have hlt := hW'.lt
 obtain ⟨s0, l0, rfl, hr0, hq0, hl0⟩ := open_elems ivE (fun _ => True) 1 (by decide) (fun _ => rfl) Tryz.underlying22 (by kernel_rfl) (fun n cs y hy => open_iv (flat_ok 9 3 [.i .i64] n cs y (by kernel_rfl) hy)) (hval 0 22 v0 rfl rfl) h0
 obtain ⟨fu1, hf1⟩ := h1
 obtain ⟨pg, rfl⟩ := okWide_int Tryz.underlying3 (hval 1 3 v1 rfl rfl)
 have h_pg : (Lit.int .i64 pg).wf = true := by
  obtain ⟨⟨n, e, hw⟩, _⟩ : AllOK [.i .i64] [_] := flat_ok 9 3 _ fu1 _ _ (by kernel_rfl) hf1
  cases e; exact hw
 obtain ⟨fu2, hf2⟩ := h2
 obtain ⟨at_, rfl⟩ := okWide_int Tryz.underlying3 (hval 2 3 v2 rfl rfl)
 have h_at_ : (Lit.int .i64 at_).wf = true := by
  obtain ⟨⟨n, e, hw⟩, _⟩ : AllOK [.i .i64] [_] := flat_ok 9 3 _ fu2 _ _ (by kernel_rfl) hf2
  cases e; exact hw
 obtain ⟨fu3, hf3⟩ := h3
 obtain ⟨x, rfl⟩ := okWide_int Tryz.underlying23 (hval 3 23 v3 rfl rfl)
 have h_x : (Lit.int .u64 x).wf = true := by
  obtain ⟨⟨n, e, hw⟩, _⟩ : AllOK [.i .u64] [_] := flat_ok 9 23 _ fu3 _ _ (by kernel_rfl) hf3
  cases e; exact hw
 obtain ⟨fu4, hf4⟩ := h4
 obtain ⟨y, rfl⟩ := okWide_int Tryz.underlying23 (hval 4 23 v4 rfl rfl)
 have h_y : (Lit.int .u64 y).wf = true := by
  obtain ⟨⟨n, e, hw⟩, _⟩ : AllOK [.i .u64] [_] := flat_ok 9 23 _ fu4 _ _ (by kernel_rfl) hf4
  cases e; exact hw
 refine (shares_any W s0 l0 hr0 hq0 hl0 pg h_pg at_ h_at_ x h_x y h_y).mono fun e W' ⟨he, hb⟩ => ?_
 subst he
 refine ⟨_, rfl, _, _, _, [], _, [], hW', trodAll_mk1 (shut_bool Tryz.underlying4 true), allBelow Tryz.laidOut hb (by kernel_rfl) hAk (fun x hx => hlt x (by simp at hx ⊢; exact hx)), ?_, hb.frame _, fun h => by cases h⟩
 rfl
theorem shares_holds : Rows.CpuSharesSaid :=
 OpenClaim.holds_of_wide 4 Tryz.f4 rfl rfl rfl rfl rfl rfl rfl ⟨rfl, rfl, rfl, rfl, rfl⟩ rfl rfl rfl rfl rfl (by kernel_rfl) Tryz.func4 (by kernel_rfl)
  (of_decide_eq_true (by kernel_rfl)) (by unfold Func.isWrapper; first | (rw [if_pos (by decide +kernel)]; kernel_rfl) | (rw [if_neg (by decide +kernel)]; exact ⟨rfl, rfl⟩))
  (fun os started H enc _ => shares_lifted os started H enc)
end Go.Proofs.YtbmolaogibmbiaaGreat
