/- SpaceFaults: a page that may not be used so faults, and nothing changes. -/
import Derived.Test.YtfnkdpmbpgffbaaGreatP
import Derived.Test.YtfnkdpmbpgffbaaGreatFlat
import Derived.Test.YtfnkdpmbpgffbaaGreatOpenAct
import Derived.Test.YtfnkdpmbpgffbaaGreatRows
import Derived.Lib.SmallJoins
namespace Go.Proofs.YtfnkdpmbpgffbaaGreat
open Go.Joins Go.ChangeShapes Go.WideShapes Go.ChangeAt Go.RowKit Go.Dn
theorem Tryz.own:ownKnob Tryz.prog.godebug=none:=by kernel_rfl
theorem Tryz.laidOut:laidOutB Tryz.prog=true:=by kernel_rfl
theorem Tryz.mixedOK:Tryz.prog.follows .mixedOrders=true:=Checked.mixed Tryz.checked
theorem faults_any (w:World) (a:Int) (b:(Lit.int .i64 a).wf=true) (s1:Sl) (c:List ActU) (g:Reads (Was w.heap) s1 11 (c.flatMap ActU.cells)) (i:∀ x ∈ c,ActU.ok x) (m:c.length<9223372036854775808/\s1.len<=s1.cap/\(s1.a=none->c=[])) (id:Int) (j:(Lit.int .i64 id).wf=true) (page:Int) (f:(Lit.int .i64 page).wf=true) (aw:Bool) (au:Bool) (af:Bool) :
  Calls Tryz.prog 5 #[.int .i64 a,.slice s1.a s1.len s1.cap,.int .i64 id,.int .i64 page,.agg #[.bool aw,.bool au,.bool af]] w (aKM (.bool true) w):=by
 have l:qgl_A a s1 id page aw au af (λn A=>Value.bool n=Value.bool true/\Dn.Own [Was w.heap] A) (aLz w.heap):=tF (acts:=c) (k:=0) (aIE w.heap) rfl g i (λA h=>⟨rfl,h⟩);have d:=qgl_ok.k Tryz.mixedOK;obtain ⟨F,o⟩:∃ F,F=qgl_A:=⟨_,rfl⟩;rw [<-o] at l d;have p:=aMX d [.int .i64 a,.slice s1.a s1.len s1.cap,.int .i64 id,.int .i64 page,.agg #[.bool aw,.bool au,.bool af]] (λv h'=>v=Value.bool true/\aEF w.heap h') w (KA:=λv A=>v=Value.bool true/\Dn.Own [Was w.heap] A) l (λv q h' s h=>aNO s h);exact p.mono λe w' h=>aHZ h
set_option maxRecDepth 100000 in
theorem faults_lifted (os:Os) (d:os.Started) (H:Type) (enc:TypeId × Value->H) :
  ReturnsInHanded {} Tryz.checked os 5 .any (Rows.spaceFaultsSpec.pre6 enc Tryz.prog Tryz.f5 Rows.spaceFaultsRow.domain false) (Rows.spaceFaultsSpec.post enc Tryz.prog Tryz.f5 false true false false):=by
 refine returnsInHanded_of_change (C:=Tryz.checked) Tryz.own d (by kernel_rfl) Tryz.func5
  (ChangeSpec.witness6 (enc:=enc) (C:=Tryz.checked) false ⟨#[],#[.int .i64 0,.slice none 0 0,.int .i64 0,.int .i64 0,.agg #[.bool false,.bool false,.bool false]],[]⟩ 8 (by kernel_rfl) (by kernel_rfl) (by kernel_rfl) (by kernel_rfl)) ?_
 intro W i args ds gs before g R S _;have a:∀ (j:Nat) t v,Tryz.f5.params[j]? = some t->args[j]? = some v->Value.okWide Tryz.prog W .any i t v:=g;have k:=R;obtain ⟨p,q,u,Z,rfl,hfz,hnd⟩:=R;have w:DataW.TrodAll enc Tryz.prog W 0 (λ_=>true) true Tryz.f5.params.toList args.toList ds p:=u;rw [Tryz.params5] at w a;have z:=w;obtain ⟨args⟩:=args;obtain ⟨v0,as0,d0,ds0,p0,q0,A,rfl,rfl,h0,g0⟩:=trodAll_cons w;obtain ⟨v1,as1,d1,ds1,p1,q1,e1,rfl,rfl,h1,g1⟩:=trodAll_cons g0;obtain ⟨v2,as2,d2,ds2,p2,q2,e2,rfl,rfl,h2,g2⟩:=trodAll_cons g1;obtain ⟨v3,as3,d3,ds3,p3,q3,e3,rfl,rfl,h3,g3⟩:=trodAll_cons g2;obtain ⟨v4,as4,d4,ds4,p4,q4,e4,rfl,rfl,h4,g4⟩:=trodAll_cons g3;obtain ⟨ee,rfl,rfl⟩:=trodAll_nil g4;subst ee;subst e4;subst e3;subst e2;subst e1;have A:args=_:=A;subst A;obtain ⟨rfl,rfl⟩:=trodVars_none Z;have B:=k.lt;obtain ⟨D,E⟩:=h0;obtain ⟨b,rfl⟩:=okWide_int Tryz.underlying3 (a 0 3 v0 rfl rfl)
 have c:(Lit.int .i64 b).wf=true:=by
  obtain ⟨⟨n,e,l⟩,_⟩:AllOK [.i .i64] [_]:=mD 9 3 _ D _ _ (by kernel_rfl) E;cases e;exact l
 obtain ⟨s1,l1,rfl,F,G,I⟩:=aDX ActU.cells ActU.ok 11 (by decide) (λ_=>rfl) Tryz.underlying22 (by kernel_rfl) (λn cs y hy=>aGa (mD 9 51 [.i .i64,.i .i64,.i .i64,.i .i64,.i .i64,.b,.b,.b,.b,.b,.b] n cs y (by kernel_rfl) hy)) (a 1 22 v1 rfl rfl) h1;obtain ⟨J,K⟩:=h2;obtain ⟨id,rfl⟩:=okWide_int Tryz.underlying3 (a 2 3 v2 rfl rfl)
 have m:(Lit.int .i64 id).wf=true:=by
  obtain ⟨⟨n,e,l⟩,_⟩:AllOK [.i .i64] [_]:=mD 9 3 _ J _ _ (by kernel_rfl) K;cases e;exact l
 obtain ⟨L,M⟩:=h3;obtain ⟨page,rfl⟩:=okWide_int Tryz.underlying3 (a 3 3 v3 rfl rfl)
 have f:(Lit.int .i64 page).wf=true:=by
  obtain ⟨⟨n,e,l⟩,_⟩:AllOK [.i .i64] [_]:=mD 9 3 _ L _ _ (by kernel_rfl) M;cases e;exact l
 obtain ⟨N,rfl,_⟩:=okWide_struct Tryz.underlying24 (a 4 24 v4 rfl rfl);obtain ⟨O,P⟩:=h4;have Q:AllOK [.b,.b,.b] N.toList:=mD 9 24 _ O _ _ (by kernel_rfl) P;obtain ⟨N⟩:=N;obtain ⟨T,o,U,r,V,s,rfl⟩:=aJ8 Q;obtain ⟨aw,rfl⟩:=o;obtain ⟨au,rfl⟩:=r;obtain ⟨af,rfl⟩:=s;refine (faults_any W b c s1 l1 F G I id m page f aw au af).mono λe W' ⟨he,X⟩=>?_;subst he;refine ⟨_,rfl,_,_,_,[],_,[],k,trodAll_mk1 (shut_bool Tryz.underlying4 true),aCH Tryz.laidOut X (by kernel_rfl) z (λx Y=>B x (by simp at Y ⊢;exact Y)),?_,X.frame _,λh=>by cases h⟩;rfl
theorem faults_holds:Rows.SpaceFaultsSaid:=
 OpenClaim.holds_of_wide 5 Tryz.f5 rfl rfl rfl rfl rfl rfl rfl ⟨rfl,rfl,rfl,rfl,rfl⟩ rfl rfl rfl rfl rfl (by kernel_rfl) Tryz.func5 (by kernel_rfl)
  (of_decide_eq_true (by kernel_rfl)) (by unfold Func.isWrapper;first | (rw [if_pos (by decide +kernel)];kernel_rfl) | (rw [if_neg (by decide +kernel)];exact ⟨rfl,rfl⟩))
  (λos a H enc _=>faults_lifted os a H enc)
end Go.Proofs.YtfnkdpmbpgffbaaGreat
