/- KernelSpawns: processes begin while there is room. -/
import Derived.Test.YtmfmhmipcdgikaaGreatP
import Derived.Test.YtmfmhmipcdgikaaGreatFlat
import Derived.Test.YtmfmhmipcdgikaaGreatOpenI
import Derived.Test.YtmfmhmipcdgikaaGreatRows
import Derived.Lib.SmallJoins
namespace Go.Proofs.YtmfmhmipcdgikaaGreat
open Go.Joins Go.ChangeShapes Go.WideShapes Go.ChangeAt Go.RowKit Go.Dn
theorem Tryz.own:ownKnob Tryz.prog.godebug=none:=by kernel_rfl
theorem Tryz.laidOut:laidOutB Tryz.prog=true:=by kernel_rfl
theorem Tryz.mixedOK:Tryz.prog.follows .mixedOrders=true:=Checked.mixed Tryz.checked
theorem spawns_any (w:World) (frames:Int) (h_frames:(Lit.int .i64 frames).wf=true) (s1:Sl) (l1:List Int) (hr1:bF (Was w.heap) s1 1 (l1.flatMap ivE)) (hq1:∀ x ∈ l1,(λ_=>True) x) (hl1:l1.length<9223372036854775808/\s1.len<=s1.cap/\(s1.a=none->l1=[])) :
  Calls Tryz.prog 4 #[.int .i64 frames,.slice s1.a s1.len s1.cap] w (aIi (.bool true) w):=by
 have hE:qfk_A frames s1 (λr0 A=>Value.bool r0=Value.bool true/\Dn.Own [Was w.heap] A) (aJj w.heap):=pC (k:=0) (may:=l1) (aHs w.heap) rfl (by have hh:=hr1;rw [aGA] at hh;exact hh) hl1.2.1 hl1.1 hl1.2.2 (λA h=>⟨rfl,h⟩);have hok:=qfk_ok Tryz.mixedOK;obtain ⟨F,hF⟩:∃ F,F=qfk_A:=⟨_,rfl⟩;rw [<-hF] at hE hok;have hc:=aKF hok [.int .i64 frames,.slice s1.a s1.len s1.cap] (λv h'=>v=Value.bool true/\aC4 w.heap h') w (KA:=λv A=>v=Value.bool true/\Dn.Own [Was w.heap] A) hE (λv A' h' s h=>aLg s h);exact hc.mono λe w' h=>aE8 h
set_option maxRecDepth 100000 in
theorem spawns_lifted (os:Os) (started:os.Started) (H:Type) (enc:TypeId × Value->H) :
  ReturnsInHanded {} Tryz.checked os 4 .any (Rows.kernelSpawnsSpec.pre6 enc Tryz.prog Tryz.f4 Rows.kernelSpawnsRow.domain false) (Rows.kernelSpawnsSpec.post enc Tryz.prog Tryz.f4 false true false false):=by
 refine returnsInHanded_of_change (C:=Tryz.checked) Tryz.own started (by kernel_rfl) Tryz.func4
  (ChangeSpec.witness6 (enc:=enc) (C:=Tryz.checked) false ⟨#[],#[.int .i64 0,.slice none 0 0],[]⟩ 8 (by kernel_rfl) (by kernel_rfl) (by kernel_rfl) (by kernel_rfl)) ?_
 intro W base args ds gs before hval0 hW hcnd _;have hval:∀ (j:Nat) t v,Tryz.f4.params[j]? = some t->args[j]? = some v->Value.okWide Tryz.prog W .any base t v:=hval0;have hW':=hW;obtain ⟨p,q,hA0,hV,rfl,hfz,hnd⟩:=hW;have hA:DataW.TrodAll enc Tryz.prog W 0 (λ_=>true) true Tryz.f4.params.toList args.toList ds p:=hA0;rw [Tryz.params4] at hA hval;have hAk:=hA;obtain ⟨args⟩:=args;obtain ⟨v0,as0,d0,ds0,p0,q0,e0,rfl,rfl,h0,g0⟩:=trodAll_cons hA;obtain ⟨v1,as1,d1,ds1,p1,q1,e1,rfl,rfl,h1,g1⟩:=trodAll_cons g0;obtain ⟨ee,rfl,rfl⟩:=trodAll_nil g1;subst ee;subst e1;have e0:args=_:=e0;subst e0;obtain ⟨rfl,rfl⟩:=trodVars_none hV;have hlt:=hW'.lt;obtain ⟨fu0,hf0⟩:=h0;obtain ⟨frames,rfl⟩:=okWide_int Tryz.underlying3 (hval 0 3 v0 rfl rfl)
 have h_frames:(Lit.int .i64 frames).wf=true:=by
  obtain ⟨⟨n,e,hw⟩,_⟩:AllOK [.i .i64] [_]:=sQ 9 3 _ fu0 _ _ (by kernel_rfl) hf0;cases e;exact hw
 obtain ⟨s1,l1,rfl,hr1,hq1,hl1⟩:=aCm ivE (λ_=>True) 1 (by decide) (λ_=>rfl) Tryz.underlying34 (by kernel_rfl) (λn cs y hy=>aGY (sQ 9 3 [.i .i64] n cs y (by kernel_rfl) hy)) (hval 1 34 v1 rfl rfl) h1;refine (spawns_any W frames h_frames s1 l1 hr1 hq1 hl1).mono λe W' ⟨he,hb⟩=>?_;subst he;refine ⟨_,rfl,_,_,_,[],_,[],hW',trodAll_mk1 (shut_bool Tryz.underlying4 true),aAq Tryz.laidOut hb (by kernel_rfl) hAk (λx hx=>hlt x (by simp at hx ⊢;exact hx)),?_,hb.frame _,λh=>by cases h⟩;rfl
theorem spawns_holds:Rows.KernelSpawnsSaid:=
 OpenClaim.holds_of_wide 4 Tryz.f4 rfl rfl rfl rfl rfl rfl rfl ⟨rfl,rfl,rfl,rfl,rfl⟩ rfl rfl rfl rfl rfl (by kernel_rfl) Tryz.func4 (by kernel_rfl)
  (of_decide_eq_true (by kernel_rfl)) (by unfold Func.isWrapper;first | (rw [if_pos (by decide +kernel)];kernel_rfl) | (rw [if_neg (by decide +kernel)];exact ⟨rfl,rfl⟩))
  (λos started H enc _=>spawns_lifted os started H enc)
end Go.Proofs.YtmfmhmipcdgikaaGreat
