/- SpaceWhole: a touch for which there is no room leaves all as it was, and a frame that comes is of zeros. -/
import Derived.Test.YtfnkdpmbpgffbaaGreatP
import Derived.Test.YtfnkdpmbpgffbaaGreatFlat
import Derived.Test.YtfnkdpmbpgffbaaGreatOpenC
import Derived.Test.YtfnkdpmbpgffbaaGreatRows
import Derived.Lib.SmallJoins
namespace Go.Proofs.YtfnkdpmbpgffbaaGreat
open Go.Joins Go.ChangeShapes Go.WideShapes Go.ChangeAt Go.RowKit Go.Dn
theorem Tryz.own:ownKnob Tryz.prog.godebug=none:=by kernel_rfl
theorem Tryz.laidOut:laidOutB Tryz.prog=true:=by kernel_rfl
theorem Tryz.mixedOK:Tryz.prog.follows .mixedOrders=true:=Checked.mixed Tryz.checked
theorem whole_any (w:World) (a:Int) (b:(Lit.int .i64 a).wf=true) (s1:Sl) (c:List ActU) (g:Reads (Was w.heap) s1 11 (c.flatMap ActU.cells)) (i:∀ x ∈ c,ActU.ok x) (m:c.length<9223372036854775808/\s1.len<=s1.cap/\(s1.a=none->c=[])) (id:Int) (k:(Lit.int .i64 id).wf=true) (page:Int) (f:(Lit.int .i64 page).wf=true) (x:Int) (j:(Lit.int .u64 x).wf=true) :
  Calls Tryz.prog 4 #[.int .i64 a,.slice s1.a s1.len s1.cap,.int .i64 id,.int .i64 page,.int .u64 x] w (aKJ (.bool true) w):=by
 have l:qgm_A a s1 id page x (λn A=>Value.bool n=Value.bool true/\Dn.Own [Was w.heap] A) (aLH w.heap):=vG (acts:=c) (k0:=0) (aI3 w.heap) rfl g i (aKt j) (λA h=>⟨rfl,h⟩);have d:=qgm_ok.k Tryz.mixedOK;obtain ⟨F,o⟩:∃ F,F=qgm_A:=⟨_,rfl⟩;rw [<-o] at l d;have p:=aM8 d [.int .i64 a,.slice s1.a s1.len s1.cap,.int .i64 id,.int .i64 page,.int .u64 x] (λv h'=>v=Value.bool true/\aET w.heap h') w (KA:=λv A=>v=Value.bool true/\Dn.Own [Was w.heap] A) l (λv q h' s h=>aNA s h);exact p.mono λe w' h=>aHW h
set_option maxRecDepth 100000 in
theorem whole_lifted (os:Os) (d:os.Started) (H:Type) (enc:TypeId × Value->H) :
  ReturnsInHanded {} Tryz.checked os 4 .any (Rows.spaceWholeSpec.pre6 enc Tryz.prog Tryz.f4 Rows.spaceWholeRow.domain false) (Rows.spaceWholeSpec.post enc Tryz.prog Tryz.f4 false true false false):=by
 refine returnsInHanded_of_change (C:=Tryz.checked) Tryz.own d (by kernel_rfl) Tryz.func4
  (ChangeSpec.witness6 (enc:=enc) (C:=Tryz.checked) false ⟨#[],#[.int .i64 0,.slice none 0 0,.int .i64 0,.int .i64 0,.int .u64 0],[]⟩ 8 (by kernel_rfl) (by kernel_rfl) (by kernel_rfl) (by kernel_rfl)) ?_
 intro W k args ds gs before g N O _;have a:∀ (j:Nat) t v,Tryz.f4.params[j]? = some t->args[j]? = some v->Value.okWide Tryz.prog W .any k t v:=g;have l:=N;obtain ⟨p,q,o,R,rfl,S,T⟩:=N;have r:DataW.TrodAll enc Tryz.prog W 0 (λ_=>true) true Tryz.f4.params.toList args.toList ds p:=o;rw [Tryz.params4] at r a;have s:=r;obtain ⟨args⟩:=args;obtain ⟨U,V,d0,X,p0,q0,u,rfl,rfl,Y,Z⟩:=trodAll_cons r;obtain ⟨v1,as1,d1,ds1,p1,q1,e1,rfl,rfl,h1,g1⟩:=trodAll_cons Z;obtain ⟨v2,as2,d2,ds2,p2,q2,e2,rfl,rfl,h2,g2⟩:=trodAll_cons g1;obtain ⟨v3,as3,d3,ds3,p3,q3,e3,rfl,rfl,h3,g3⟩:=trodAll_cons g2;obtain ⟨v4,as4,d4,ds4,p4,q4,e4,rfl,rfl,h4,g4⟩:=trodAll_cons g3;obtain ⟨ee,rfl,rfl⟩:=trodAll_nil g4;subst ee;subst e4;subst e3;subst e2;subst e1;have u:args=_:=u;subst u;obtain ⟨rfl,rfl⟩:=trodVars_none R;have w:=l.lt;obtain ⟨z,A⟩:=Y;obtain ⟨b,rfl⟩:=okWide_int Tryz.underlying3 (a 0 3 U rfl rfl)
 have c:(Lit.int .i64 b).wf=true:=by
  obtain ⟨⟨n,e,i⟩,_⟩:AllOK [.i .i64] [_]:=lR 9 3 _ z _ _ (by kernel_rfl) A;cases e;exact i
 obtain ⟨s1,l1,rfl,B,D,E⟩:=aDK ActU.cells ActU.ok 11 (by decide) (λ_=>rfl) Tryz.underlying22 (by kernel_rfl) (λn cs y hy=>aFF (lR 9 51 [.i .i64,.i .i64,.i .i64,.i .i64,.i .i64,.b,.b,.b,.b,.b,.b] n cs y (by kernel_rfl) hy)) (a 1 22 v1 rfl rfl) h1;obtain ⟨F,G⟩:=h2;obtain ⟨id,rfl⟩:=okWide_int Tryz.underlying3 (a 2 3 v2 rfl rfl)
 have m:(Lit.int .i64 id).wf=true:=by
  obtain ⟨⟨n,e,i⟩,_⟩:AllOK [.i .i64] [_]:=lR 9 3 _ F _ _ (by kernel_rfl) G;cases e;exact i
 obtain ⟨I,J⟩:=h3;obtain ⟨page,rfl⟩:=okWide_int Tryz.underlying3 (a 3 3 v3 rfl rfl)
 have f:(Lit.int .i64 page).wf=true:=by
  obtain ⟨⟨n,e,i⟩,_⟩:AllOK [.i .i64] [_]:=lR 9 3 _ I _ _ (by kernel_rfl) J;cases e;exact i
 obtain ⟨K,L⟩:=h4;obtain ⟨x,rfl⟩:=okWide_int Tryz.underlying59 (a 4 59 v4 rfl rfl)
 have M:(Lit.int .u64 x).wf=true:=by
  obtain ⟨⟨n,e,i⟩,_⟩:AllOK [.i .u64] [_]:=lR 9 59 _ K _ _ (by kernel_rfl) L;cases e;exact i
 refine (whole_any W b c s1 l1 B D E id m page f x M).mono λe W' ⟨he,P⟩=>?_;subst he;refine ⟨_,rfl,_,_,_,[],_,[],l,trodAll_mk1 (shut_bool Tryz.underlying4 true),aCB Tryz.laidOut P (by kernel_rfl) s (λx Q=>w x (by simp at Q ⊢;exact Q)),?_,P.frame _,λh=>by cases h⟩;rfl
theorem whole_holds:Rows.SpaceWholeSaid:=
 OpenClaim.holds_of_wide 4 Tryz.f4 rfl rfl rfl rfl rfl rfl rfl ⟨rfl,rfl,rfl,rfl,rfl⟩ rfl rfl rfl rfl rfl (by kernel_rfl) Tryz.func4 (by kernel_rfl)
  (of_decide_eq_true (by kernel_rfl)) (by unfold Func.isWrapper;first | (rw [if_pos (by decide +kernel)];kernel_rfl) | (rw [if_neg (by decide +kernel)];exact ⟨rfl,rfl⟩))
  (λos a H enc _=>whole_lifted os a H enc)
end Go.Proofs.YtfnkdpmbpgffbaaGreat
