/- AuditBoots: of a machine without spaces all frames are free but the tables of the kernel. -/
import Derived.Test.YtaafkchlmndbkaaGreatP
import Derived.Test.YtaafkchlmndbkaaGreatFlat
import Derived.Test.YtaafkchlmndbkaaGreatLawAuBoots
import Derived.Test.YtaafkchlmndbkaaGreatRows
import Derived.Lib.SmallJoins
namespace Go.Proofs.YtaafkchlmndbkaaGreat
open Go.Joins Go.ChangeShapes Go.WideShapes Go.ChangeAt Go.RowKit Go.Dn
theorem Tryz.own : ownKnob Tryz.prog.godebug = none := by kernel_rfl
theorem Tryz.laidOut : laidOutB Tryz.prog = true := by kernel_rfl
theorem Tryz.mixedOK : Tryz.prog.follows .mixedOrders = true := Checked.mixed Tryz.checked
theorem boots_any (w : World) (fr : Int) (h_fr : (Lit.int .i64 fr).wf = true) :
  Calls Tryz.prog 4 #[.int .i64 fr] w (Tells (.bool true) w) := by
 have hE : qet_A fr (fun r0 A => Value.bool r0 = Value.bool true ∧ Dn.Own [Was w.heap] A) (allA w.heap) := AuditBoots_spec (own_all w.heap) (fun A h => ⟨rfl,h⟩)
 have hok := qet_ok Tryz.mixedOK
 obtain ⟨F,hF⟩ : ∃ F,F = qet_A := ⟨_,rfl⟩
 rw [← hF] at hE hok
 have hc := callA hok [.int .i64 fr] (fun v h' => v = Value.bool true ∧ KeptH w.heap h') w (KA := fun v A => v = Value.bool true ∧ Dn.Own [Was w.heap] A) hE (fun v A' h' s h => lawQ s h)
 exact hc.mono fun e w' h => tells_of h
set_option maxRecDepth 100000 in
theorem boots_lifted (os : Os) (started : os.Started) (H : Type) (enc : TypeId × Value→H) :
  ReturnsInHanded {} Tryz.checked os 4 .any (Rows.auditBootsSpec.pre6 enc Tryz.prog Tryz.f4 Rows.auditBootsRow.domain false) (Rows.auditBootsSpec.post enc Tryz.prog Tryz.f4 false true false false) := by
 refine returnsInHanded_of_change (C := Tryz.checked) Tryz.own started (by kernel_rfl) Tryz.func4
  (ChangeSpec.witness6 (enc := enc) (C := Tryz.checked) false ⟨#[],#[.int .i64 0],[]⟩ 8 (by kernel_rfl) (by kernel_rfl) (by kernel_rfl) (by kernel_rfl)) ?_
 intro W base args ds gs before hval0 hW hcnd _
 have hval : ∀ (j : Nat) t v,Tryz.f4.params[j]? = some t→args[j]? = some v→Value.okWide Tryz.prog W .any base t v := hval0
 have hW' := hW
 obtain ⟨p,q,hA0,hV,rfl,hfz,hnd⟩ := hW
 have hA : DataW.TrodAll enc Tryz.prog W 0 (fun _ => true) true Tryz.f4.params.toList args.toList ds p := hA0
 rw [Tryz.params4] at hA hval
 have hAk := hA
 obtain ⟨args⟩ := args
 obtain ⟨v0,as0,d0,ds0,p0,q0,e0,rfl,rfl,h0,g0⟩ := trodAll_cons hA
 obtain ⟨ee,rfl,rfl⟩ := trodAll_nil g0
 subst ee
 have e0 : args = _ := e0
 subst e0
 obtain ⟨rfl,rfl⟩ := trodVars_none hV
 have hlt := hW'.lt
 obtain ⟨fu0,hf0⟩ := h0
 obtain ⟨fr,rfl⟩ := okWide_int Tryz.underlying3 (hval 0 3 v0 rfl rfl)
 have h_fr : (Lit.int .i64 fr).wf = true := by
  obtain ⟨⟨n,e,hw⟩,_⟩ : AllOK [.i .i64] [_] := flat_ok 9 3 _ fu0 _ _ (by kernel_rfl) hf0
  cases e;exact hw
 refine (boots_any W fr h_fr).mono fun e W' ⟨he,hb⟩ => ?_
 subst he
 refine ⟨_,rfl,_,_,_,[],_,[],hW',trodAll_mk1 (shut_bool Tryz.underlying4 true),allBelow Tryz.laidOut hb (by kernel_rfl) hAk (fun x hx => hlt x (by simp at hx ⊢;exact hx)),?_,hb.frame _,fun h => by cases h⟩
 rfl
theorem boots_holds : Rows.AuditBootsSaid :=
 OpenClaim.holds_of_wide 4 Tryz.f4 rfl rfl rfl rfl rfl rfl rfl ⟨rfl,rfl,rfl,rfl,rfl⟩ rfl rfl rfl rfl rfl (by kernel_rfl) Tryz.func4 (by kernel_rfl)
  (of_decide_eq_true (by kernel_rfl)) (by unfold Func.isWrapper;first | (rw [if_pos (by decide +kernel)];kernel_rfl) | (rw [if_neg (by decide +kernel)];exact ⟨rfl,rfl⟩))
  (fun os started H enc _ => boots_lifted os started H enc)
end Go.Proofs.YtaafkchlmndbkaaGreat
