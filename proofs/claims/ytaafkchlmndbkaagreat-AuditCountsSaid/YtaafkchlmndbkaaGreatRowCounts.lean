/- AuditCounts: uses are counted. -/
import Derived.Test.YtaafkchlmndbkaaGreatP
import Derived.Test.YtaafkchlmndbkaaGreatFlat
import Derived.Test.YtaafkchlmndbkaaGreatOpenU
import Derived.Test.YtaafkchlmndbkaaGreatRows
import Derived.Lib.SmallJoins
namespace Go.Proofs.YtaafkchlmndbkaaGreat
open Go.Joins Go.ChangeShapes Go.WideShapes Go.ChangeAt Go.RowKit Go.Dn
theorem Tryz.own : ownKnob Tryz.prog.godebug = none := by kernel_rfl
theorem Tryz.laidOut : laidOutB Tryz.prog = true := by kernel_rfl
theorem Tryz.mixedOK : Tryz.prog.follows .mixedOrders = true := Checked.mixed Tryz.checked
theorem counts_any (w : World) (s0 : Sl) (l0 : List Us) (hr0 : Reads (Was w.heap) s0 3 (l0.flatMap useE)) (hq0 : ∀ x ∈ l0,(fun _ => True) x) (hl0 : l0.length < 9223372036854775808 ∧ s0.len ≤ s0.cap ∧ (s0.a = none→l0 = [])) :
  Calls Tryz.prog 3 #[.slice s0.a s0.len s0.cap] w (Tells (.bool true) w) := by
 have hE : qdx_A s0 (fun r0 A => Value.bool r0 = Value.bool true ∧ Dn.Own [Was w.heap] A) (allA w.heap) := AuditCounts_spec (k := 0) (own_all w.heap) rfl hr0 hl0.2.1 (fun A h => ⟨rfl,h⟩)
 have hok := qdx_ok Tryz.mixedOK
 obtain ⟨F,hF⟩ : ∃ F,F = qdx_A := ⟨_,rfl⟩
 rw [← hF] at hE hok
 have hc := callA hok [.slice s0.a s0.len s0.cap] (fun v h' => v = Value.bool true ∧ KeptH w.heap h') w (KA := fun v A => v = Value.bool true ∧ Dn.Own [Was w.heap] A) hE (fun v A' h' s h => lawQ s h)
 exact hc.mono fun e w' h => tells_of h
set_option maxRecDepth 100000 in
theorem counts_lifted (os : Os) (started : os.Started) (H : Type) (enc : TypeId × Value→H) :
  ReturnsInHanded {} Tryz.checked os 3 .any (Rows.auditCountsSpec.pre6 enc Tryz.prog Tryz.f3 Rows.auditCountsRow.domain false) (Rows.auditCountsSpec.post enc Tryz.prog Tryz.f3 false true false false) := by
 refine returnsInHanded_of_change (C := Tryz.checked) Tryz.own started (by kernel_rfl) Tryz.func3
  (ChangeSpec.witness6 (enc := enc) (C := Tryz.checked) false ⟨#[],#[.slice none 0 0],[]⟩ 8 (by kernel_rfl) (by kernel_rfl) (by kernel_rfl) (by kernel_rfl)) ?_
 intro W base args ds gs before hval0 hW hcnd _
 have hval : ∀ (j : Nat) t v,Tryz.f3.params[j]? = some t→args[j]? = some v→Value.okWide Tryz.prog W .any base t v := hval0
 have hW' := hW
 obtain ⟨p,q,hA0,hV,rfl,hfz,hnd⟩ := hW
 have hA : DataW.TrodAll enc Tryz.prog W 0 (fun _ => true) true Tryz.f3.params.toList args.toList ds p := hA0
 rw [Tryz.params3] at hA hval
 have hAk := hA
 obtain ⟨args⟩ := args
 obtain ⟨v0,as0,d0,ds0,p0,q0,e0,rfl,rfl,h0,g0⟩ := trodAll_cons hA
 obtain ⟨ee,rfl,rfl⟩ := trodAll_nil g0
 subst ee
 have e0 : args = _ := e0
 subst e0
 obtain ⟨rfl,rfl⟩ := trodVars_none hV
 have hlt := hW'.lt
 obtain ⟨s0,l0,rfl,hr0,hq0,hl0⟩ := open_elems useE (fun _ => True) 3 (by decide) (fun _ => rfl) Tryz.underlying22 (by kernel_rfl) (fun n cs y hy => open_use (flat_ok 9 26 [.i .i64,.i .i64,.i .i64] n cs y (by kernel_rfl) hy)) (hval 0 22 v0 rfl rfl) h0
 refine (counts_any W s0 l0 hr0 hq0 hl0).mono fun e W' ⟨he,hb⟩ => ?_
 subst he
 refine ⟨_,rfl,_,_,_,[],_,[],hW',trodAll_mk1 (shut_bool Tryz.underlying4 true),allBelow Tryz.laidOut hb (by kernel_rfl) hAk (fun x hx => hlt x (by simp at hx ⊢;exact hx)),?_,hb.frame _,fun h => by cases h⟩
 rfl
theorem counts_holds : Rows.AuditCountsSaid :=
 OpenClaim.holds_of_wide 3 Tryz.f3 rfl rfl rfl rfl rfl rfl rfl ⟨rfl,rfl,rfl,rfl,rfl⟩ rfl rfl rfl rfl rfl (by kernel_rfl) Tryz.func3 (by kernel_rfl)
  (of_decide_eq_true (by kernel_rfl)) (by unfold Func.isWrapper;first | (rw [if_pos (by decide +kernel)];kernel_rfl) | (rw [if_neg (by decide +kernel)];exact ⟨rfl,rfl⟩))
  (fun os started H enc _ => counts_lifted os started H enc)
end Go.Proofs.YtaafkchlmndbkaaGreat
