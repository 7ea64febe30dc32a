/- KernelChains: processes in a chain. -/
import Derived.Test.YtmfmhmipcdgikaaGreatP
import Derived.Test.YtmfmhmipcdgikaaGreatFlat
import Derived.Test.YtmfmhmipcdgikaaGreatLawChains
import Derived.Test.YtmfmhmipcdgikaaGreatRows
import Derived.Lib.SmallJoins
namespace Go.Proofs.YtmfmhmipcdgikaaGreat
open Go.Joins Go.ChangeShapes Go.WideShapes Go.ChangeAt Go.RowKit Go.Dn
theorem Tryz.own:ownKnob Tryz.prog.godebug=none:=by kernel_rfl
theorem Tryz.laidOut:laidOutB Tryz.prog=true:=by kernel_rfl
theorem Tryz.mixedOK:Tryz.prog.follows .mixedOrders=true:=Checked.mixed Tryz.checked
theorem chains_any (w:World) (n:Int) (h_n:(Lit.int .i64 n).wf=true) (at_:Int) (h_at_:(Lit.int .i64 at_).wf=true) :
  Calls Tryz.prog 5 #[.int .i64 n,.int .i64 at_] w (aJl (.bool true) w):=by
 have hE:qgj_A n at_ (λr0 A=>Value.bool r0=Value.bool true/\Dn.Own [Was w.heap] A) (aKj w.heap):=qO (aH7 w.heap) (λA h=>⟨rfl,h⟩);have hok:=qgj_ok Tryz.mixedOK;obtain ⟨F,hF⟩:∃ F,F=qgj_A:=⟨_,rfl⟩;rw [<-hF] at hE hok;have hc:=aLR hok [.int .i64 n,.int .i64 at_] (λv h'=>v=Value.bool true/\aDP w.heap h') w (KA:=λv A=>v=Value.bool true/\Dn.Own [Was w.heap] A) hE (λv A' h' s h=>aME s h);exact hc.mono λe w' h=>aGO h
set_option maxRecDepth 100000 in
theorem chains_lifted (os:Os) (started:os.Started) (H:Type) (enc:TypeId × Value->H) :
  ReturnsInHanded {} Tryz.checked os 5 .any (Rows.kernelChainsSpec.pre6 enc Tryz.prog Tryz.f5 Rows.kernelChainsRow.domain false) (Rows.kernelChainsSpec.post enc Tryz.prog Tryz.f5 false true false false):=by
 refine returnsInHanded_of_change (C:=Tryz.checked) Tryz.own started (by kernel_rfl) Tryz.func5
  (ChangeSpec.witness6 (enc:=enc) (C:=Tryz.checked) false ⟨#[],#[.int .i64 0,.int .i64 0],[]⟩ 8 (by kernel_rfl) (by kernel_rfl) (by kernel_rfl) (by kernel_rfl)) ?_
 intro W base args ds gs before hval0 hW hcnd _;have hval:∀ (j:Nat) t v,Tryz.f5.params[j]? = some t->args[j]? = some v->Value.okWide Tryz.prog W .any base t v:=hval0;have hW':=hW;obtain ⟨p,q,hA0,hV,rfl,hfz,hnd⟩:=hW;have hA:DataW.TrodAll enc Tryz.prog W 0 (λ_=>true) true Tryz.f5.params.toList args.toList ds p:=hA0;rw [Tryz.params5] at hA hval;have hAk:=hA;obtain ⟨args⟩:=args;obtain ⟨v0,as0,d0,ds0,p0,q0,e0,rfl,rfl,h0,g0⟩:=trodAll_cons hA;obtain ⟨v1,as1,d1,ds1,p1,q1,e1,rfl,rfl,h1,g1⟩:=trodAll_cons g0;obtain ⟨ee,rfl,rfl⟩:=trodAll_nil g1;subst ee;subst e1;have e0:args=_:=e0;subst e0;obtain ⟨rfl,rfl⟩:=trodVars_none hV;have hlt:=hW'.lt;obtain ⟨fu0,hf0⟩:=h0;obtain ⟨n,rfl⟩:=okWide_int Tryz.underlying3 (hval 0 3 v0 rfl rfl)
 have h_n:(Lit.int .i64 n).wf=true:=by
  obtain ⟨⟨n,e,hw⟩,_⟩:AllOK [.i .i64] [_]:=tW 9 3 _ fu0 _ _ (by kernel_rfl) hf0;cases e;exact hw
 obtain ⟨fu1,hf1⟩:=h1;obtain ⟨at_,rfl⟩:=okWide_int Tryz.underlying3 (hval 1 3 v1 rfl rfl)
 have h_at_:(Lit.int .i64 at_).wf=true:=by
  obtain ⟨⟨n,e,hw⟩,_⟩:AllOK [.i .i64] [_]:=tW 9 3 _ fu1 _ _ (by kernel_rfl) hf1;cases e;exact hw
 refine (chains_any W n h_n at_ h_at_).mono λe W' ⟨he,hb⟩=>?_;subst he;refine ⟨_,rfl,_,_,_,[],_,[],hW',trodAll_mk1 (shut_bool Tryz.underlying4 true),aBS Tryz.laidOut hb (by kernel_rfl) hAk (λx hx=>hlt x (by simp at hx ⊢;exact hx)),?_,hb.frame _,λh=>by cases h⟩;rfl
theorem chains_holds:Rows.KernelChainsSaid:=
 OpenClaim.holds_of_wide 5 Tryz.f5 rfl rfl rfl rfl rfl rfl rfl ⟨rfl,rfl,rfl,rfl,rfl⟩ rfl rfl rfl rfl rfl (by kernel_rfl) Tryz.func5 (by kernel_rfl)
  (of_decide_eq_true (by kernel_rfl)) (by unfold Func.isWrapper;first | (rw [if_pos (by decide +kernel)];kernel_rfl) | (rw [if_neg (by decide +kernel)];exact ⟨rfl,rfl⟩))
  (λos started H enc _=>chains_lifted os started H enc)
end Go.Proofs.YtmfmhmipcdgikaaGreat
