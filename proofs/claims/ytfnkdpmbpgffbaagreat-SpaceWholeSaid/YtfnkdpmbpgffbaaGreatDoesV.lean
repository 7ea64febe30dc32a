/- What the proof stands on. -/
import Derived.Test.YtfnkdpmbpgffbaaGreatStart
import Derived.Test.YtfnkdpmbpgffbaaGreatMmL
import Derived.Test.YtfnkdpmbpgffbaaGreatQTree
import Derived.Test.YtfnkdpmbpgffbaaGreatReg10
import Derived.Test.YtfnkdpmbpgffbaaGreatRef12e
namespace Go.Dn
variable {A:AH} {l R R':List SP} {c:Mc} {g g':Sg} {L pre post:List Sc} {M:Mm} {φ φ':Int->Int} {a a' b:Sc} {s s' t:Sm} {k p q d id to page at_:Int} {x:Pg} {pw pu px w:Bool} {y:Reg}
theorem aDT.bumpM (h:aDT M k d) (hs:s ∈ M.sps) (i:pgAt s p=some x) (j:x.key=k) (f:kdR s.regs p=0):bA (bumpM M s.id p d):=by
 obtain ⟨pre,post,e⟩:=List.append_of_mem hs;have:=h.bump e i j f;have m:=zP (p:=p) (d:=d) e (iG h.srt)
 have:(Dn.bumpM M s.id p d)=⟨pre++bumpS p d s::post,M.ns,M.keys,M.wd⟩:=by
  have n:Dn.bumpM M s.id p d=⟨(Dn.bumpM M s.id p d).sps,M.ns,M.keys,M.wd⟩:=rfl;rw [n,m]
 rw [this];assumption
theorem aEM {L:List Reg} {r:Reg} (e:findR L p=some r):kdR L p=r.k:=by
 unfold kdR;rw [bO,e];rfl
theorem aZ.borrow (h:aZ c g (pre++b::post) M φ) (P:bA M) (C:∀ x,g.F x->¬ g.G x) {nd:Nd} {sl:Sl} {tk:List Int} {W1:Int->Int->Int} {tab1:Tab} (Q:y.b=y.a+1) (B:y.k=1) (S:cG b.1.regs y=0) (hk:k ∈ ownK M.sps) (T:sl.a≠none)
  (n1:g.ns[b.1.box]? = some nd) (n2:nd.live=true) (n3:roomN M.ns b.1.box=nd.room) (hlen:tk.length=iR b.2.tab y.a) (U:(tk.length:Int)<=nd.room) (D:∀ x ∈ tk,g.F x)
  (hR:Rest (λx=>g.G x\/x ∈ tk) W1 b.2.root tab1 (setL (lfS φ b.1) y.a (some ⟨φ k,y.w,y.u,y.x⟩)) (b.2.tl++tk)) (hW:∀ f,f ∉ tk->f ∉ b.2.tl->W1 f=g.W f) (E:∀ j,256<=j->W1 b.2.root j=g.W b.2.root j) :
  aZ c { g with F:=λx=>g.F x/\x ∉ tk,G:=λx=>g.G x\/x ∈ tk,W:=W1,n:=g.n-tk.length,ns:=useN g.ns b.1.box nd (nd.use+tk.length) } (pre++(borS b.1 y k,{ b.2 with s:=sl,tab:=tab1,tl:=b.2.tl++tk })::post) (payM M b.1 (borS b.1 y k)) φ/\aDT (payM M b.1 (borS b.1 y k)) k 1/\¬ roomN M.ns b.1.box<costS (borS b.1 y k)-costS b.1:=by
 have u:b ∈ pre++b::post:=cmid_iff.2 (.inl rfl);have m:=h.one b u;have r:=h.in_ u;obtain ⟨b1,b2,b3,b4,b5,b6,b7⟩:=kF P.toInvL r Q B S;obtain ⟨o1,o2⟩:=aCc (k:=k) P.toInvL r Q B S;have hnd:=m.rest.need (p:=y.a) (ps:=nums b.1) (h.ps u)
 have o:costS (borS b.1 y k)-costS b.1=(tk.length:Int):=by
  rw [aAp P.toInvL r Q B S];omega
 have H:¬ roomN M.ns b.1.box<costS (borS b.1 y k)-costS b.1:=by rw [o,n3];omega
 have V:(borS b.1 y k).id=b.1.id:=rfl;have hD:=P.borrow h.mem Q B S hk H;have I:=h.pay (s':=borS b.1 y k) V;refine ⟨?_,by rw [I];exact hD,H⟩;rw [I]
 have X:lfS φ (borS b.1 y k)=setL (lfS φ b.1) y.a (some ⟨φ k,y.w,y.u,y.x⟩):=by
  unfold borS;rw [aFq (s:={ b.1 with regs:=addL b.1.regs y }) (φ:=φ) (φ':=φ) (k:=k) (h.inv.pgs b.1 r) b5 b4 λ_ _=>rfl,aCV (h.inv.pgs _ r) b2];rfl
 have Y:tk.Nodup:=by
  have:=hR.nd;rw [List.nodup_append] at this;exact this.2.1
 have Z:(ownK (pre.map (·.1)++borS b.1 y k::post.map (·.1))).Perm (ownK M.sps):=by
  rw [h.mem];exact cO.trans ((List.Perm.append_right _ (o1.map (·.key))).trans cO.symm)
 have J:∀ x,g.G x->x ∉ b.2.tl->W1 x=g.W x:=λx v hx2=>hW x (λz=>C x (D x z) v) hx2;refine h.grow (g':={ g with F:=λx=>g.F x/\x ∉ tk,G:=λx=>g.G x\/x ∈ tk,W:=W1,n:=g.n-tk.length,ns:=useN g.ns b.1.box nd (nd.use+tk.length) }) (nw:=tk) C rfl rfl (by simp) hD.toInvL rfl ?_ ?_ h.pc ?_ Y D (λ_=>Iff.rfl) (λ_=>Iff.rfl) ⟨?_,⟨?_,λj j1 j2=>?_⟩,m.lnd,λq=>?_,λz=>absurd z T⟩ (λ_ _ _ _=>rfl) J (λj hj i=>?_) ?_
 .rw [o,jU (by rw [<-h.ns];exact n1),h.ns]
 .show g.n-(tk.length:Int)=_;rw [o,jB (by rw [<-h.ns];exact n1) n2,h.n]
 .show (b.2.tl++tk++(ownP (borS b.1 y k)).map λg=>φ g.key).Perm (b.2.tl++((ownP b.1).map λg=>φ g.key)++tk);rw [List.append_assoc,List.append_assoc];exact List.Perm.append_left _ (List.perm_append_comm.trans (List.Perm.append_right _ (o1.map _)))
 .simp_all
 .obtain ⟨d1,d2,d3⟩:=m.rt.k;exact ⟨d1,d2,by show W1 b.2.root 256=_;rw [E 256 (by omega)];exact d3⟩
 .show W1 b.2.root j=0;rw [E j (by omega)];exact m.rt.z j j1 j2
 .show b.2.lent.lookup q=(pgAt (addP { b.1 with regs:=addL b.1.regs y } y.a k) q).bind _;rw [vW (s:={ b.1 with regs:=addL b.1.regs y }) (h.inv.pgs b.1 r) b5];by_cases e:q=y.a
  .subst e;rw [if_pos rfl,m.lent,b1];rfl
  .rw [if_neg e];exact m.lent q
 .have K:j ∈ ownK M.sps:=Z.mem_iff.1 hj;have hd:=h.data K;show W1 (φ j) i=M.wd j i;rw [J _ hd.1 (hd.2.1 b u)];exact h.wd j K i
 .have N:=h.ln;rw [h.mem] at N;refine N.mono (LF:=lfL φ (pre.map (·.1)++b.1::post.map (·.1))) λid q x v=>?_;have hn:=h.nodupI;rw [h.mem] at hn;have e1:pre.map (·.1)++borS b.1 y k::post.map (·.1)=(pre++(borS b.1 y k,b.2)::post).map (·.1):=by simp
  have e2:pre.map (·.1)++b.1::post.map (·.1)=(pre++b::post).map (·.1):=by simp
  have O:((pre++b::post).map λx=>x.1.id).Nodup:=by rw [e2,List.map_map] at hn;exact hn
  show lfL φ (pre.map (·.1)++borS b.1 y k::post.map (·.1)) id q=some x;rw [e2] at v;rw [e1,eV (a:=b) (a':=(borS b.1 y k,b.2)) (φ:=φ) O rfl λ_ _ _ _=>rfl];rw [eV (a:=b) (a':=b) (φ:=φ) O rfl λ_ _ _ _=>rfl] at v;by_cases e:id=b.1.id
  .rw [if_pos e] at v ⊢;show lfS φ (borS b.1 y k) q=some x;rw [X];unfold setL;rw [if_neg λz=>by rw [z,(h.lf_none u).2 b1] at v;cases v];exact v
  .rw [if_neg e] at v ⊢;exact v
theorem aLN {Q:Int->AH->Prop} (h:Own (MacS c M φ::R) A) (B:bA M) (hat : -9223372036854775808<=at_/\at_<9223372036854775808) (o:∀ u,bA (eJ M id page to at_ pw pu px).1->Own (MacS c (eJ M id page to at_ pw pu px).1 φ::R) u->Q (eJ M id page to at_ pw pu px).2 u) :
  qfh_A (some ⟨c.m,0,none⟩) id page to at_ pw pu px Q A:=by
 obtain ⟨g,L,m,h⟩:=MacS.openH h;have hFG:=(iF h.tail).1;unfold qfh_A qfh_G;simp only [aJ,add_at,Nat.zero_add];cases S:findS M id with
 | none=>
  have e:eJ M id page to at_ pw pu px=(M,5):=by unfold eJ;rw [S]
  rw [e] at o;refine jY h m S ⟨none,rfl,?_⟩;cases D:findS M to with
  | none=>exact jY h m D ⟨none,rfl,λ_=>False,λ_ z=>z.elim,aG rfl (o A B (MacS.closeH m h))⟩
  | some t=>
   obtain ⟨b,E,rfl,rfl⟩:=m.get D;refine fC (i:=3) h rfl rfl (iD (i:=4) h rfl ?_);rw [(m.lk E).1];exact ⟨_,rfl,λ_=>False,λ_ z=>z.elim,aG rfl (o A B (MacS.closeH m h))⟩
 | some s=>
  obtain ⟨a,P,rfl,rfl⟩:=m.get S;refine fC (i:=3) h rfl rfl (iD (i:=4) h rfl ?_);rw [(m.lk P).1];refine ⟨some ⟨a.2.p,0,none⟩,rfl,?_⟩;cases D:findS M to with
  | none=>
   have e:eJ M a.1.id page to at_ pw pu px=(M,5):=by unfold eJ;rw [S,D]
   rw [e] at o;exact jY h m D ⟨none,rfl,λ_=>False,λ_ z=>z.elim,bsel_f rfl (aG rfl (o A B (MacS.closeH m h)))⟩
  | some t=>
   obtain ⟨b,E,rfl,rfl⟩:=m.get D;refine fC (i:=3) h rfl rfl (iD (i:=4) h rfl ?_);rw [(m.lk E).1];refine ⟨some ⟨b.2.p,0,none⟩,rfl,λu=>u=A,λu e=>?_,bsel_f rfl (bsel_f rfl rfl)⟩;subst e
   have e:eJ M a.1.id page b.1.id at_ pw pu px=match lookR a.1.regs page,pgAt a.1 page with
    | some r,some x=>if r.2.2.2≠0 then (M,5) else if ((pw&&!r.1) || (px&&!r.2.2.1))=true then (M,10)
     else if cG b.1.regs ⟨at_,at_+1,pw,pu,px,1⟩≠0 then (M,cG b.1.regs ⟨at_,at_+1,pw,pu,px,1⟩)
     else if roomN M.ns b.1.box<costS (borS b.1 ⟨at_,at_+1,pw,pu,px,1⟩ x.key)-costS b.1 then (M,8)
     else (bumpM (payM M b.1 (borS b.1 ⟨at_,at_+1,pw,pu,px,1⟩ x.key)) a.1.id page 1,0)
    | _,_=>(M,5):=by
    unfold eJ;rw [S,D];cases e1:lookR a.1.regs page<;>cases e2:pgAt a.1 page<;>simp only [e1,e2]
   rw [e] at o;obtain ⟨i,hi⟩:=pV (c:=c) (g:=g) (R:=R) P;simp only [aJ,add_at,Nat.zero_add];refine lZ h hi ?_
   have qry:∀ {K:Int->Bool->AH->Prop},(∀ u,Own (macG c g (L.map ownC++R)) u->pgAt a.1 page=none->K 0 false u)->(∀ x u,Own (macG c g (L.map ownC++R)) u->pgAt a.1 page=some x->K (φ x.key) true u)->
     (aI .i64 ⟨a.2.p,0,none⟩ u λn17=>aI .i64 ⟨a.2.p,1,none⟩ u λn18=>qat_A (some ⟨c.m,0,none⟩) n17 (λpt19 pt20 pt21 n22 h23=>((aI .i64 ⟨a.2.p,1,none⟩ h23 λn24=>(((.int .i64 n24):Value)=(.int .i64 n18)))/\
     (qef_A pt19 pt20 pt21 n22 n18 page (λn _ _ _ b29 h30=>K n b29 h30) h23))) u):=λ{K} hK0 hK=>by
    refine jS h hi (cH h hi (prs (k:=3) h rfl ⟨cH h hi rfl,?_⟩));refine fE h m.hasF (m.one a P).rest (λhl H v=>hK0 H v ((m.lf_none P).1 hl)) λz hl H v=>?_;obtain ⟨x,y,e1,_,e3⟩:=m.lf_frame P hl;rw [e3];exact hK x H v e1
   refine gH h hi dZ (by have:=(m.regs P).1;omega) (λhn=>?_) λr Y _ _ _=>?_
   .rw [bO,hn] at o;refine qry (λH v _=>?_) λx H v _=>?_
    .exact ⟨λ_=>False,λ_ z=>z.elim,aG rfl (o H B (MacS.closeH m v))⟩
    .exact ⟨λ_=>False,λ_ z=>z.elim,aG rfl (o H B (MacS.closeH m v))⟩
   .rw [bO,Y] at o;simp only [Option.map_some] at o;refine qry (λH v J=>?_) λx H v J=>?_
    .rw [J] at o;refine ⟨λ_=>False,λ_ z=>z.elim,bsel_f rfl (bsel_in (λ_=>o H B (MacS.closeH m v)) λ_=>aG rfl (o H B (MacS.closeH m v)))⟩
    .rw [J] at o;simp only at o;by_cases c1:r.k=0
     rotate_left
     .rw [if_pos (show (attrR r).2.2.2≠0 from c1)] at o;exact ⟨λ_=>False,λ_ z=>z.elim,bsel_f rfl (aG (by simp_all) (o H B (MacS.closeH m v)))⟩
     rw [if_neg (show ¬ (attrR r).2.2.2≠0 from λz=>z c1)] at o;refine ⟨λu=>u=H,λA5 e5=>?_,bsel_f rfl (bsel_f (by simp_all) (bsel_f rfl rfl))⟩;subst e5;by_cases c2:((pw&&!(attrR r).1) || (px&&!(attrR r).2.2.1))=true
     .rw [if_pos c2] at o;have o:=o A5 B (MacS.closeH m v);have c2:((pw&&!r.w) || (px&&!r.x))=true:=c2
      refine ⟨λ_=>False,λ_ z=>z.elim,?_⟩;refine bsel_in (λd1=>bsel_in (λ_=>o) λd2=>bsel_in (λZ=>bsel_in (λ_=>o) λd4=>?_) λZ=>?_) λd1=>bsel_in (λZ=>bsel_in (λ_=>o) λd4=>?_) λZ=>?_
      all_goals simp_all
     rw [if_neg c2] at o;have c2:¬ ((pw&&!r.w) || (px&&!r.x))=true:=c2
     refine ⟨λu=>u=A5,λA6 e6=>?_,?_⟩
     rotate_left
     .refine bsel_in (λd1=>bsel_in (λd2=>?_) λd2=>bsel_in (λZ=>bsel_in (λd4=>?_) λd4=>rfl) λZ=>rfl) λd1=>bsel_in (λZ=>bsel_in (λd4=>?_) λd4=>rfl) λZ=>rfl
      all_goals simp_all
     subst e6;by_cases hmx:at_=9223372036854775807
     .have hw:IntKind.wrap .i64 (at_+1) = -9223372036854775808:=by rw [hmx];decide
      rw [hw];have e1:∀ (L:List Reg) (y:Reg),rightB y.a y.b=false->cG L y=1:=λL y hy=>by unfold cG;rw [if_pos hy]
      have r1:rightB (⟨at_,at_+1,pw,pu,px,1⟩:Reg).a (⟨at_,at_+1,pw,pu,px,1⟩:Reg).b=false:=by show rightB at_ (at_+1)=false;rw [hmx];decide
      have r2:rightB (⟨at_,-9223372036854775808,pw,pu,px,1⟩:Reg).a (⟨at_,-9223372036854775808,pw,pu,px,1⟩:Reg).b=false:=by show rightB at_ (-9223372036854775808)=false;rw [hmx];decide
      rw [e1 _ _ r1,if_pos (by decide)] at o;obtain ⟨j,hj⟩:=pV (c:=c) (g:=g) (R:=R) E;have e2:=e1 b.1.regs ⟨at_,-9223372036854775808,pw,pu,px,1⟩ r2;refine lZ v hj (wS (y:=⟨at_,-9223372036854775808,pw,pu,px,1⟩) v hj dZ (m.one b E).sl (λA7 h7 N=>?_) λsl A7 N _ _=>absurd N (by rw [e2];decide));rw [e2];exact aG (by simp) (o A7 B (MacS.closeH m h7))
     have hw:IntKind.wrap .i64 (at_+1)=at_+1:=w64 (by omega) (by omega);rw [hw];obtain ⟨y,I⟩:∃ y:Reg,y=⟨at_,at_+1,pw,pu,px,1⟩:=⟨_,rfl⟩;rw [<-I] at o;have hadd:∀ (s:Sl) (Q':Sl->Int->AH->Prop) (u:AH),qcx_A s y.a y.b y.w y.u y.x y.k Q' u->qcx_A s at_ (at_+1) pw pu px 1 Q' u:=by rw [I];exact λ_ _ _ z=>z
     have O:=m.one b E;obtain ⟨j,hj⟩:=pV (c:=c) (g:=g) (R:=R) E;refine lZ v hj (hadd _ _ _ (wS v hj dZ O.sl (λA7 h7 N=>?_) λsl A7 N hsl h7=>?_))
     .rw [if_pos N] at o;exact aG (by simpa using N) (o A7 B (MacS.closeH m h7))
     rw [if_neg (by simp [N])] at o;refine bsel_f rfl ?_;have T:y.b=y.a+1:=by rw [I]
     have hy1:y.k=1:=by rw [I]
     have U:y.a=at_:=by rw [I]
     obtain ⟨b1,b2,b3,b4,b5,b6,b7⟩:=kF B.toInvL (m.in_ E) T hy1 N;have V:=pS N
     have V:0<=at_/\at_<34359738368:=by
      rw [T,U] at V;unfold rightB at V;simp only [Bool.and_eq_true,decide_eq_true_eq] at V;omega
     have h8:Own (macG c g (L.map ownC++(SlO sl 6 (regC (addL b.1.regs y))::R))) A7:=macG.mapR (λC hC=>hC.perm List.perm_middle.symm) (macG.backX h7);obtain ⟨j2,hj2⟩:=pV (c:=c) (g:=g) (R:=SlO sl 6 (regC (addL b.1.regs y))::R) E;refine jS h8 hj2 (cH h8 hj2 (prs (k:=3) h8 rfl ⟨cH h8 hj2 rfl,?_⟩));obtain ⟨nd,n1,n2,n3,n4,n5⟩:=m.node E;have X:=m.key_le P (aL J).1;have hfr:=(m.rng (φ x.key)).1 (.inr (m.data X.2).1);have hNN:=m.N.2;refine aAn (i:=b.1.box) (nd:=nd) h8 n1 n2 (λf S=>vJ.2 (by have:=(m.rng f).1 (.inl S);omega)) m.hasF O.rest (λc3=>?_) (λ_ _ _ _ c3=>?_) (λ_ _ _ _ hl e W1 A8 he8 hW _ _ h9=>?_) λ_ _ _ _ hl tk W1 tab1 A8 hlen hr1 hr2 htk hR hW hHi h9=>?_
     .omega
     .exact absurd ((m.lf_none E).2 (by rw [<-U];exact b1)) c3
     .have hnd:=O.rest.need (p:=at_) (ps:=nums b.1) (m.ps E)
      have hcost:costS (borS b.1 y x.key)-costS b.1=eN (nums b.1) at_:=by
       rw [aAp B.toInvL (m.in_ E) T hy1 N,U];omega
      have Y:roomN M.ns b.1.box<costS (borS b.1 y x.key)-costS b.1/\e=8:=by
       rw [hcost,n3];unfold Nd.room at *;omega
      rw [if_pos Y.1] at o;rw [Y.2];refine aG rfl (o A8 B (MacS.closeH (m.w (W':=W1) λf S=>hW f λz=>hFG f z S) ?_));have h10:Own (macG c { g with W:=W1 } (L.map ownC++(SlO sl 6 (regC (addL b.1.regs y))::R))) A8:=h9;exact macG.mapR (λC hC=>(hC.perm List.perm_middle).tail) h10
     .refine bsel_f rfl ?_;obtain ⟨pre,post,rfl⟩:=List.append_of_mem E;obtain ⟨hS2,hD,hrm⟩:=m.borrow (y:=y) (k:=x.key) (sl:=sl) (tk:=tk) (W1:=W1) (tab1:=tab1) B hFG T hy1 N X.2 hsl n1 n2 n3 (by rw [U];exact hlen) (by unfold Nd.room;exact hr1) htk (by rw [I];exact hR) hW hHi;rw [if_neg hrm] at o;have h10:Own (macG c { g with F:=λx=>g.F x/\x ∉ tk,G:=λx=>g.G x\/x ∈ tk,W:=W1,n:=g.n-tk.length,ns:=useN g.ns b.1.box nd (nd.use+tk.length) } ((pre++b::post).map ownC++(SlO sl 6 (regC (addL b.1.regs y))::R))) A8:=h9;have h11:=macG.mapR (R':=ownC b::SlO sl 6 (regC (addL b.1.regs y))::((pre++post).map ownC++R)) (λC hC=>hC.perm (by exact (List.perm_middle).cons _)) (macG.focus h10)
      refine aHb h11 λA9 h12=>?_;have h13:=macG.unfocus (pre:=pre) (post:=post) (a:=(borS b.1 y x.key,{ b.2 with s:=sl,tab:=tab1,tl:=b.2.tl++tk })) h12
      have hpa:∃ a',a' ∈ pre++(borS b.1 y x.key,{ b.2 with s:=sl,tab:=tab1,tl:=b.2.tl++tk })::post/\a'.2.p=a.2.p/\a'.1.id=a.1.id/\pgAt a'.1 page=some x/\kdR a'.1.regs page=0:=by
       by_cases eab:a=b
       .subst eab;refine ⟨_,cmid_iff.2 (.inl rfl),rfl,rfl,?_,?_⟩
        .show pgAt (addP { a.1 with regs:=addL a.1.regs y } y.a x.key) page=_;have hne:page≠y.a:=λz=>by rw [z,b1] at J;cases J
         rw [vW (s:={ a.1 with regs:=addL a.1.regs y }) (m.inv.pgs a.1 (m.in_ P)) b5,if_neg hne];exact J
        .show kdR (addL a.1.regs y) page=0;unfold kdR;rw [b2 page (List.mem_map.2 ⟨x,(aL J).1,(aL J).2⟩)];have:=aEM Y;unfold kdR at this;rw [this];exact c1
       .refine ⟨a,cmid_iff.2 (.inr ?_),rfl,rfl,J,by rw [aEM Y];exact c1⟩;rcases cmid_iff.1 P with z | z
        .exact absurd z eab
        .exact z
      obtain ⟨a',ha',ep,ei,hx',hkd'⟩:=hpa;have hxo:x ∈ ownP a.1:=cJ.2 ⟨(aL J).1,by rw [(aL J).2,aEM Y];exact c1⟩;have hxl:x.lent=((borK M.sps).count x.key:Nat):=B.lent _ (m.in_ P) x hxo;have hlt:=m.lent_lt;have hcnt:=List.count_le_length (a:=x.key) (l:=borK M.sps);rw [<-ep];refine aL8 h13 hS2 ha' hx' (by omega) λA10 h14=>?_;rw [ei] at h14;refine o A10 ?_ h14;rw [<-ei];exact hD.bumpM (hS2.in_ ha') hx' rfl hkd'
end Go.Dn
namespace Go.Dn
variable {A:AH} {l R:List SP} {c:Mc} {g:Sg} {L pre post:List Sc} {M:Mm} {φ:Int->Int} {a a' b:Sc} {s s' t:Sm} {k p id to page at_:Int} {x:Pg} {w:Bool} {y:Reg}
theorem aLi {Q:Int->AH->Prop} (h:Own (MacS c M φ::R) A) (q:bA M) (hcut:∀ t a,findS M to=some t->lookR t.regs at_=some a->a.2.2.2=1->gU t.regs at_ (at_+1)=0)
  (f:∀ m,bA (fF M id page to at_).1->Own (MacS c (fF M id page to at_).1 φ::R) m->Q (fF M id page to at_).2 m) :
  qfj_A (some ⟨c.m,0,none⟩) id page to at_ Q A:=by
 obtain ⟨g,L,d,h⟩:=MacS.openH h;unfold qfj_A qfj_G;simp only [aJ,add_at,Nat.zero_add];cases hf:findS M id with
 | none=>
  have e:fF M id page to at_=(M,5):=by unfold fF;rw [hf]
  rw [e] at f;refine jY h d hf ⟨none,rfl,?_⟩;cases D:findS M to with
  | none=>exact jY h d D ⟨none,rfl,λ_=>False,λ_ z=>z.elim,aG rfl (f A q (MacS.closeH d h))⟩
  | some t=>
   obtain ⟨b,B,rfl,rfl⟩:=d.get D;refine fC (i:=3) h rfl rfl (iD (i:=4) h rfl ?_);rw [(d.lk B).1];exact ⟨_,rfl,λ_=>False,λ_ z=>z.elim,aG rfl (f A q (MacS.closeH d h))⟩
 | some s=>
  obtain ⟨a,G,rfl,rfl⟩:=d.get hf;refine fC (i:=3) h rfl rfl (iD (i:=4) h rfl ?_);rw [(d.lk G).1];refine ⟨some ⟨a.2.p,0,none⟩,rfl,?_⟩;cases D:findS M to with
  | none=>
   have e:fF M a.1.id page to at_=(M,5):=by unfold fF;rw [hf,D]
   rw [e] at f;exact jY h d D ⟨none,rfl,λ_=>False,λ_ z=>z.elim,bsel_f rfl (aG rfl (f A q (MacS.closeH d h)))⟩
  | some t=>
   obtain ⟨b,B,rfl,rfl⟩:=d.get D;refine fC (i:=3) h rfl rfl (iD (i:=4) h rfl ?_);rw [(d.lk B).1]
   have e:fF M a.1.id page b.1.id at_=match pgAt a.1 page,pgAt b.1 at_,lookR b.1.regs at_ with
    | some x,some y,some r=>if x.lent=0\/r.2.2.2≠1\/x.key≠y.key then (M,5) else (bumpM (payM M b.1 (retS b.1 at_)) a.1.id page (-1),0)
    | _,_,_=>(M,5):=by
    unfold fF;rw [hf,D];cases e1:pgAt a.1 page<;>cases e2:pgAt b.1 at_<;>cases e3:lookR b.1.regs at_<;>simp only [e1,e2,e3]
   rw [e] at f;have I:=d.one a G;obtain ⟨i,hi⟩:=pV (c:=c) (g:=g) (R:=R) G;obtain ⟨j,O⟩:=pV (c:=c) (g:=g) (R:=R) B
   -- nobody has it
   cases E:pgAt a.1 page with
   | none=>
    rw [E] at f;refine ⟨some ⟨b.2.p,0,none⟩,rfl,λ_=>False,λ_ z=>z.elim,bsel_f rfl (bsel_f rfl ?_)⟩;simp only [aJ,add_at,Nat.zero_add];refine aCH h hi ?_;rw [I.lent,E];exact ⟨0,rfl,aG rfl (f A q (MacS.closeH d h))⟩
   | some x=>
   rw [E] at f
   have S:∀ {K:AP},(x.lent=0->Q 5 A)->(x.lent≠0->K A)->aM ⟨a.2.p,3,none⟩ A λmp=>lG A mp .i64 page λo=>∃ n:Int,((o.getD (.int .i64 (0:Int))):Value)=(.int .i64 n)/\bsel (n==(0:Int)) (Q 5 A) (K A):=λ{K} k0 k1=>by
    refine aCH h hi ?_;rw [I.lent,E];by_cases e:x.lent=0
    .refine ⟨0,?_,aG rfl (k0 e)⟩;simp only [Option.bind_some];rw [if_pos e];rfl
    .refine ⟨x.lent,?_,bsel_f (by simp_all) (k1 e)⟩;simp only [Option.bind_some];rw [if_neg e];rfl
   refine ⟨some ⟨b.2.p,0,none⟩,rfl,λm=>m=A/\x.lent≠0,λm ⟨e,W⟩=>?_,bsel_f rfl (bsel_f rfl ?_)⟩
   rotate_left
   .simp only [aJ,add_at,Nat.zero_add];refine S (K:=λ_=>True/\x.lent≠0) (λe=>?_) λe=>⟨trivial,e⟩;cases u:pgAt b.1 at_ with
    | none=>rw [u] at f;exact f A q (MacS.closeH d h)
    | some y=>
     rw [u] at f;cases v:lookR b.1.regs at_ with
     | none=>rw [v] at f;exact f A q (MacS.closeH d h)
     | some r=>
      rw [v] at f;simp only at f;rw [if_pos (.inl e)] at f;exact f A q (MacS.closeH d h)
   subst e;simp only [aJ,add_at,Nat.zero_add];refine jS h hi (cH h hi (prs (k:=3) h rfl ⟨cH h hi rfl,?_⟩));refine fE h d.hasF I.rest (λS A4 h4=>?_) λz S A4 h4=>?_
   .exact absurd ((d.lf_none G).1 S) (by rw [E];simp)
   obtain ⟨x',xa,e1,_,e3⟩:=d.lf_frame G S;rw [E] at e1;cases e1;rw [e3];have h:=h4;refine jS h O (cH h O (prs (k:=3) h rfl ⟨cH h O rfl,?_⟩))
   have bad:∀ {P:Prop},(pgAt b.1 at_=none\/(∃ r,findR b.1.regs at_=some r/\r.k≠1)\/findR b.1.regs at_=none\/(∃ y,pgAt b.1 at_=some y/\x.key≠y.key))->∀ m,Own (macG c g (L.map ownC++R)) m->Q 5 m:=λ{P} B m h'=>by
    cases u:pgAt b.1 at_ with
    | none=>rw [u] at f;exact f m q (MacS.closeH d h')
    | some y=>
     rw [u] at f;cases v:findR b.1.regs at_ with
     | none=>rw [bO,v] at f;exact f m q (MacS.closeH d h')
     | some r=>
      rw [bO,v] at f;simp only [Option.map_some] at f;rw [if_pos] at f
      .exact f m q (MacS.closeH d h')
      .rw [u,v] at B;rcases B with z | ⟨r',z,X⟩ | z | ⟨y',z,X⟩
       .cases z
       .cases z;exact .inr (.inl X)
       .cases z
       .cases z;exact .inr (.inr X)
   -- what the other one has
   have qry:∀ {K:Int->Bool->AH->Prop} {H:AH},Own (macG c g (L.map ownC++R)) H->(∀ m,Own (macG c g (L.map ownC++R)) m->pgAt b.1 at_=none->K 0 false m)->(∀ x m,Own (macG c g (L.map ownC++R)) m->pgAt b.1 at_=some x->K (φ x.key) true m)->
     qef_A (some ⟨c.r,0,none⟩) (some ⟨c.b,0,none⟩) (some ⟨c.t,0,none⟩) b.1.box b.2.root at_ (λn _ _ _ b29 h30=>K n b29 h30) H:=λ{K H} F hK0 hK=>by
    refine fE F d.hasF (d.one b B).rest (λS A6 h6=>hK0 A6 h6 ((d.lf_none B).1 S)) λz S A6 h6=>?_;obtain ⟨x,y,e1,_,e3⟩:=d.lf_frame B S;rw [e3];exact hK x A6 h6 e1
   refine qry h (λH F u=>?_) λy H F u=>?_
   .refine ⟨λ_=>False,λ_ z=>z.elim,lZ F O ?_⟩;refine gH F O dZ (by have:=(d.regs B).1;omega) (λhn=>aG rfl (bad (P:=True) (.inl u) H F)) λr v _ _ _=>bsel_f rfl ?_;exact bsel_in (λ_=>bad (P:=True) (.inl u) H F) λ_=>bsel_f rfl (aG rfl (bad (P:=True) (.inl u) H F))
   by_cases T:findR b.1.regs at_=none\/(∃ r,findR b.1.regs at_=some r/\r.k≠1)\/x.key≠y.key
   .refine ⟨λ_=>False,λ_ z=>z.elim,lZ F O ?_⟩;refine gH F O dZ (by have:=(d.regs B).1;omega) (λhn=>aG rfl (bad (P:=True) (.inr (.inr (.inl hn))) H F)) λr v _ _ _=>bsel_f rfl ?_;refine bsel_in (λc1=>bad (P:=True) (.inr (.inl ⟨r,v,by simpa using c1⟩)) H F) λc1=>bsel_f rfl (bsel_f rfl (aG ?_ (bad (P:=True) ?_ H F)))
    all_goals
     rcases T with z | ⟨r',z,X⟩ | z
     .rw [v] at z;cases z
     .rw [v] at z;cases z;exact absurd (by simpa using c1) X
    .have:=λw=>z (d.inj (d.key_le G (aL E).1).2 (d.key_le B (aL u).1).2 w);simpa using this
    .exact .inr (.inr (.inr ⟨y,u,z⟩))
   obtain ⟨r,v⟩:∃ r,findR b.1.regs at_=some r:=Option.ne_none_iff_exists'.1 λz=>T (.inl z);have J:r.k=1:=Classical.byContradiction λz=>T (.inr (.inl ⟨r,v,z⟩));have Y:x.key=y.key:=Classical.byContradiction λz=>T (.inr (.inr z));refine ⟨λm=>m=H,λA6 e6=>?_,lZ F O ?_⟩
   rotate_left
   .refine gH F O dZ (by have:=(d.regs B).1;omega) (λhn=>by rw [v] at hn;cases hn) λr' hr' _ _ _=>bsel_f rfl ?_;rw [v] at hr';cases hr';exact bsel_f (by simp [J]) (bsel_f rfl (bsel_f rfl (bsel_f (by simp [Y]) rfl)))
   subst e6;rw [u,bO,v] at f;simp only [Option.map_some] at f
   rw [if_neg (by
    rintro (z | z | z)
    .exact W z
    .exact z J
    .exact z Y)] at f
   have hlo:lookR b.1.regs at_=some (attrR r):=by rw [bO,v];rfl
   have he:=hcut b.1 (attrR r) D hlo J;have hkd:kdR b.1.regs at_=1:=by rw [aEM v];exact J
   have Z:=d.in_ B
   have hy0:y.lent=0:=by
    obtain ⟨z,z1,X,z3⟩:=q.bor b.1 Z at_ _ hlo J;have:=bR (q.pgs _ Z) z1;rw [X,u] at this;cases this;exact z3
   have hpr:=(d.one b B).rest.pr at_ _ (d.lf_at B u v);obtain ⟨pre,post,rfl⟩:=List.append_of_mem B;refine aHn (p:=at_) d (macG.focus F) u hy0 (λz=>by rw [hkd] at z;cases z) λg2 V A7 hS2 N eb2 eb3 _ h7=>?_
   rw [<-eb2];refine lZ (i:=7) h7 rfl ?_;obtain ⟨c1,c2,c3,c4⟩:=sB q.toInvL Z he
   have hw:IntKind.wrap .i64 (at_+1)=at_+1:=by
    have:=hpr;exact w64 (by omega) (by omega)
   rw [hw];have hrg:V.1.regs=b.1.regs:=by rw [N];rfl
   refine zO (k:=7) h7 rfl dZ (λA8 h8 z=>absurd (by rw [hrg];exact he) z) λsl A8 _ hsl h8=>?_;have h9:=macG.mapR (λC hC=>hC.swap) (macG.backX h8);rw [hrg] at h9 hsl;refine aHb h9 λA9 h10=>?_;have hS3:=hS2.regsU (a:=V) (r':=cutR b.1.regs at_ (at_+1)) (sl:=sl) (by rw [N];exact c4) c1 hsl
   have eM:payM (payM M b.1 (remP b.1 at_)) V.1 { V.1 with regs:=cutR b.1.regs at_ (at_+1) } = payM M b.1 (retS b.1 at_):=by
    rw [N];exact lN rfl rfl rfl
   rw [eM] at hS3;have h13:=macG.unfocus (pre:=pre) (post:=post) h10;have hMp:=d.pay (s':=retS b.1 at_) rfl;have hD:=q.ret d.mem u hkd he;rw [<-hMp] at hD
   have hpa:∃ a',a' ∈ pre++({ V.1 with regs:=cutR b.1.regs at_ (at_+1) },{ V.2 with s:=sl })::post/\a'.2.p=a.2.p/\a'.1.id=a.1.id/\pgAt a'.1 page=some x/\kdR a'.1.regs page=kdR a.1.regs page:=by
    by_cases eab:a=b
    .subst eab
     have hne:page≠at_:=λz=>by
      rw [z,u] at E;cases E;exact W hy0
     refine ⟨_,cmid_iff.2 (.inl rfl),eb2,by show V.1.id=_;rw [N];rfl,?_,?_⟩
     .show pgAt { V.1 with regs:=cutR a.1.regs at_ (at_+1) } page=_;rw [N];show pgAt (remP a.1 at_) page=_;rw [aBH (d.inv.pgs _ (d.in_ G)),if_neg hne];exact E
     .show kdR (cutR a.1.regs at_ (at_+1)) page=_;unfold kdR;rw [c2 page hne]
    .refine ⟨a,cmid_iff.2 (.inr ?_),rfl,rfl,E,rfl⟩;rcases cmid_iff.1 G with z | z
     .exact absurd z eab
     .exact z
   obtain ⟨a',ha',ep,ei,hx',hkd'⟩:=hpa
   -- the lent page is its own
   have hk0:kdR a.1.regs page=0:=by
    obtain ⟨ra,U⟩:=Option.ne_none_iff_exists'.1 (q.reg _ (d.in_ G) x (aL E).1);rw [(aL E).2] at U;have hk2:kdR a.1.regs page=ra.2.2.2:=by unfold kdR;rw [U]
    rcases q.kind _ (d.in_ G) page ra U with z | z
    .rw [hk2];exact z
    .exfalso;obtain ⟨w,w1,w2,w3⟩:=q.bor _ (d.in_ G) page ra U z;have:=bR (q.pgs _ (d.in_ G)) w1;rw [w2,E] at this;cases this;exact W w3
   have hxo:x ∈ ownP a.1:=cJ.2 ⟨(aL E).1,by rw [(aL E).2];exact hk0⟩;have hxl:x.lent=((borK M.sps).count x.key:Nat):=q.lent _ (d.in_ G) x hxo;have hlt:=d.lent_lt;have hcnt:=List.count_le_length (a:=x.key) (l:=borK M.sps);rw [<-ep];refine ⟨λm=>Own (MacS c (bumpM (payM M b.1 (retS b.1 at_)) a.1.id page (-1)) φ::R) m,λA10 h14=>f A10 ?_ h14,aLg h13 hS3 ha' hx' (by omega) λA10 h14=>?_⟩
   .rw [<-ei];exact hD.bumpM (hS3.in_ ha') hx' Y (by rw [hkd'];exact hk0)
   .rw [<-ei];exact h14
end Go.Dn
namespace Go.Dn
variable {A:AH} {R:List SP} {c:Mc} {M M':Mm} {φ φ':Int->Int} {s t T:Sm} {keys id box page to_ at_ p q a b:Int} {n r:Nat} {pw pu px aw au af:Bool} {L:List Reg}
theorem rJ {Q:Int->Int->Int->AH->Prop} (h:Own (MacS c M φ::R) A) (o:bA M)
  (l:∀ φ' f,bA (touchM M id page aw au af).1->(∀ j,j<=M.keys->φ' j=φ j)->Own (MacS c (touchM M id page aw au af).1 φ'::R) f->Q (if (touchM M id page aw au af).2.2.2=0 then φ' (touchM M id page aw au af).2.1 else 0) (touchM M id page aw au af).2.2.1 (touchM M id page aw au af).2.2.2 f):qez_A (some ⟨c.m,0,none⟩) id page aw au af Q A:=by
 obtain ⟨g,L,m,h⟩:=MacS.openH h;cases u:findS M id with
 | none=>
  have e:touchM M id page aw au af=(M,0,0,5):=by unfold touchM;rw [u]
  rw [e] at l;unfold qez_A qez_G;simp only [aJ,add_at,Nat.zero_add];exact jY h m u ⟨none,rfl,aG rfl (l φ A o (λ_ _=>rfl) (MacS.closeH m h))⟩
 | some s=>
  obtain ⟨a,pre,post,rfl,rfl,rfl,_⟩:=m.has u;refine aK7 m o (macG.focus h) (λM' k i e v w x W' f d h'=>?_) λy M' k _ _ v g' a' φ' f d z _ _ _ _ _ _ hφ _ _ h'=>?_
  .obtain ⟨rfl,rfl⟩:=x;have:=l φ f;rw [v,if_neg (show ¬ ((M',(0:Int),i,e):Mm × Int × Int × Int).2.2.2=0 from w)] at this;exact this o (λ_ _=>rfl) (MacS.closeH d (macG.unfocus h'))
  .have:=l φ' f;rw [v] at this;exact this z hφ (MacS.closeH d (macG.unfocus h'))
theorem aFa {ch:Reg->List Reg} (i:∀ y,(ch y).length<=1) (e:p<q):∀ {L:List Reg},srtR L->(L.flatMap (spl1 ch p q)).length<=L.length+(if ∀ z ∈ L,p<=z.a then 0 else 1)+(if ∀ z ∈ L,q<=z.a then 0 else 1)
 | [],_=>by simp
 | y::L,h=>by
  have o:=aFa i e h.2.2;have u:=h.1;have j:=i (inR6 y p q);rw [List.flatMap_cons,List.length_append,List.length_cons];have v:¬ (∀ z ∈ y::L,p<=z.a)\/p<=y.a:=by grind
  have w:¬ (∀ z ∈ y::L,q<=z.a)\/q<=y.a:=by grind
  have x:p<=y.b->∀ z ∈ L,p<=z.a:=λg z f=>by have:=h.2.1 z f;omega
  have B:q<=y.b->∀ z ∈ L,q<=z.a:=λg z f=>by have:=h.2.1 z f;omega
  have C:(if ∀ z ∈ L,p<=z.a then 0 else 1:Nat)<=1:=by split<;>omega
  have D:(if ∀ z ∈ L,q<=z.a then 0 else 1:Nat)<=1:=by split<;>omega
  have hs:(spl1 ch p q y).length<=1+(if p<=y.a\/y.b<=p then 0 else 1)+(if q<=y.a\/y.b<=q then 0 else 1):=by
   unfold spl1;by_cases d:(inR6 y p q).b<=(inR6 y p q).a
   .grind
   .rw [if_neg d,List.length_append,List.length_append]
    have k:p<y.b/\y.a<q:=by
     unfold inR6 at d;simp only at d;split at d<;>split at d<;>omega
    have l:(aheadR y p).b<=p:=by
     unfold aheadR;simp only;split<;>omega
    have m:(behR y q).a>=q:=by
     unfold behR;simp only;split<;>omega
    have e1:(if (aheadR y p).b > y.a then [aheadR y p] else []).length<=(if p<=y.a\/y.b<=p then 0 else 1):=by grind
    have E:(if y.b > (behR y q).a then [behR y q] else []).length<=(if q<=y.a\/y.b<=q then 0 else 1):=by grind
    omega
  by_cases F:q<=y.b
  .grind
  .grind
theorem aB9 {ch:Reg->List Reg} (e:∀ y,(ch y).length<=1) (d:p<q) (hs:srtR L):(mergedR (L.flatMap (spl1 ch p q))).length<=L.length+2:=by
 have f:=oF (L.flatMap (spl1 ch p q));have g:=aFa e d hs;have h:(if ∀ z ∈ L,p<=z.a then 0 else 1:Nat)<=1:=by split<;>omega
 have i:(if ∀ z ∈ L,q<=z.a then 0 else 1:Nat)<=1:=by split<;>omega
 omega
theorem aA5 (hs:srtR L) (d:p<q):(cutR L p q).length<=L.length+2:=by
 unfold cutR;rw [aBz];exact aB9 (λ_=>by simp [noR]) d hs
theorem aHe (hs:srtR L) (d:p<q):(protR L p q pw pu px).length<=L.length+2:=aB9 (λ_=>by simp [asR]) d hs
structure Fw (n r:Nat) (M:Mm):Prop where
 few:Few n M
 regs:∀ s ∈ M.sps,s.regs.length<=r
 ids:∀ s ∈ M.sps,0<=s.id/\s.id<9223372036854775808
theorem Fw.mono (h:Fw n r M):Fw (n+1) (r+2) M:=⟨⟨by have:=h.few.sps;omega,λs hs=>by have:=h.few.pgs s hs;omega,by have:=h.few.keys;omega,h.few.all⟩,λs hs=>by have:=h.regs s hs;omega,h.ids⟩
theorem Fw.put (h:Fw n r M) (g:findS M id=some s) (i:T.id=id) (j:T.pgs.length<=n+1) (l:T.regs.length<=r+2) {k:Int} (m:k<=n+1) {wd:Int->Int->Int} {ns:List Nd} (e:allN ns):Fw (n+1) (r+2) ⟨putS M.sps T,ns,k,wd⟩:=by
 have f:∀ x ∈ putS M.sps T,x=T\/x ∈ M.sps:=λx d=>by
  unfold putS at d;obtain ⟨z,o,rfl⟩:=List.mem_map.1 d;split
  .simp_all
  .exact .inr o
 have hs:=aU g;refine ⟨⟨by show (putS M.sps T).length<=n+1;have:=aA0 (t':=T) h.few;omega,λx d=>?_,m,e⟩,λx d=>?_,λx d=>?_⟩
 .rcases f x d with rfl | d
  .exact j
  .have:=h.few.pgs x d;omega
 .rcases f x d with rfl | d
  .exact l
  .have:=h.regs x d;omega
 .rcases f x d with rfl | d
  .have:=h.ids s hs.1;rw [hs.2] at this;rw [i];exact this
  .exact h.ids x d
theorem Fw.bump (h:Fw n r M) {k:Int}:Fw n r (bumpM M id p k):=by
 have g:∀ x ∈ (bumpM M id p k).sps,∃ y ∈ M.sps,x.pgs.length=y.pgs.length/\x.regs=y.regs/\x.id=y.id:=λx d=>by
  obtain ⟨z,i,rfl⟩:=List.mem_map.1 d;refine ⟨z,i,?_⟩;split
  .exact ⟨by simp [bumpS],rfl,rfl⟩
  .simp_all
 refine ⟨⟨by show (List.map _ _).length<=n;rw [List.length_map];exact h.few.sps,λx d=>?_,h.few.keys,h.few.all⟩,λx d=>?_,λx d=>?_⟩
 .obtain ⟨y,e,f,_⟩:=g x d;rw [f];exact h.few.pgs y e
 .obtain ⟨y,e,_,f,_⟩:=g x d;rw [f];exact h.regs y e
 .obtain ⟨y,e,_,_,f⟩:=g x d;rw [f];exact h.ids y e
theorem Fw.opn (h:Fw n r M) (g:id<9223372036854775808):Fw (n+1) (r+2) (jK M id box).1:=by
 unfold jK;split
 .exact h.mono
 split
 .exact h.mono
 split
 .split
  .exact h.mono
  .rename_i i _ _ _;obtain ⟨pre,post,e1,f⟩:=iX (newS id box.toNat) M.sps;have e:∀ x,x ∈ insS M.sps (newS id box.toNat)->x=newS id box.toNat\/x ∈ M.sps:=λx d=>by rw [f] at d;rw [e1];exact mid_iff.1 d
   refine ⟨⟨?_,λx d=>?_,by have:=h.few.keys;show M.keys<=_;omega,allN_add h.few.all⟩,λx d=>?_,λx d=>?_⟩
   .show (insS M.sps (newS id box.toNat)).length<=n+1;have:=h.few.sps;rw [e1] at this;rw [f];simp at this ⊢;omega
   .rcases e x d with rfl | d
    .simp [newS]
    .have:=h.few.pgs x d;omega
   .rcases e x d with rfl | d
    .simp [newS]
    .have:=h.regs x d;omega
   .rcases e x d with rfl | d
    .show 0<=id/\id<9223372036854775808;omega
    .exact h.ids x d
 .exact h.mono
theorem aCe {L:List Reg} {y:Reg} (e:goodB L=true) (d:cG L y=0):(addL L y).length<=L.length+1:=(kN e (pS d) d).2.1
theorem aKu {L:List Reg} (d:gU L p q=0):p<q:=by
 unfold gU at d;cases g:rightB p q with
 | true=>exact (dC.1 g).2.1
 | false=>rw [if_pos g] at d;cases d
theorem aGZ {L:List Reg} (d:eC L p q pw pu px=0):p<q:=by
 unfold eC at d;cases g:rightB p q with
 | true=>exact (dC.1 g).2.1
 | false=>rw [if_pos g] at d;cases d
theorem Fw.map (h:Fw n r M) (e:bA M) {y:Reg}:Fw (n+1) (r+2) (mapM M id y).1:=by
 unfold mapM;cases d:findS M id with
 | none=>exact h.mono
 | some s=>
  have hs:=aU d;simp only;split
  .exact h.mono
  .rename_i g;have:=aCe (e.good s hs.1) (by simpa using g);exact h.put (T:={ s with regs:=addL s.regs y }) d hs.2 (by have:=h.few.pgs s hs.1;show s.pgs.length<=_;omega) (by have:=h.regs s hs.1;show (addL s.regs y).length<=_;omega) (by have:=h.few.keys;omega) (allN_add h.few.all)
theorem Fw.unmap (h:Fw n r M) (e:bA M):Fw (n+1) (r+2) (fA M id a b).1:=by
 unfold fA;cases d:findS M id with
 | none=>exact h.mono
 | some s=>
  have hs:=aU d;simp only;split
  .exact h.mono
  .rename_i g;split
   .exact h.mono
   .have:=aA5 (bJ.1 (e.good s hs.1)).2.1 (aKu (by simpa using g));exact h.put (T:={ s with regs:=cutR s.regs a b,pgs:=s.pgs.filter λg=>!inZ a b g.num }) d hs.2 (by have:=h.few.pgs s hs.1;have:=List.length_filter_le (λg:Pg=>!inZ a b g.num) s.pgs;show (s.pgs.filter _).length<=_;omega) (by have:=h.regs s hs.1;show (cutR s.regs a b).length<=_;omega) (by have:=h.few.keys;omega) (allN_add h.few.all)
theorem Fw.prot (h:Fw n r M) (e:bA M):Fw (n+1) (r+2) (iS M id a b pw pu px).1:=by
 unfold iS;cases d:findS M id with
 | none=>exact h.mono
 | some s=>
  have hs:=aU d;simp only;split
  .exact h.mono
  .rename_i g;split
   .exact h.mono
   .have:=aHe (pw:=pw) (pu:=pu) (px:=px) (bJ.1 (e.good s hs.1)).2.1 (aGZ (by simpa using g));exact h.put (T:={ s with regs:=protR s.regs a b pw pu px }) d hs.2 (by have:=h.few.pgs s hs.1;show s.pgs.length<=_;omega) (by have:=h.regs s hs.1;show (protR s.regs a b pw pu px).length<=_;omega) (by have:=h.few.keys;omega) (allN_add h.few.all)
theorem Fw.touch (h:Fw n r M):Fw (n+1) (r+2) (touchM M id page aw au af).1:=by
 unfold touchM;cases d:findS M id with
 | none=>exact h.mono
 | some s=>
  have hs:=aU d;simp only;split
  .exact h.mono
  .split
   .exact h.mono
   .split
    .exact h.mono
    .split
     .exact h.mono
     .have e:(addP s page (M.keys+1)).pgs.length=s.pgs.length+1:=(insG_perm (g:=⟨page,M.keys+1,0⟩) s.pgs).length_eq;exact h.put (T:=addP s page (M.keys+1)) d hs.2 (by have:=h.few.pgs s hs.1;omega) (by have:=h.regs s hs.1;show s.regs.length<=_;omega) (by have:=h.few.keys;omega) (allN_add h.few.all)
theorem Fw.lend (h:Fw n r M) (e:bA M):Fw (n+1) (r+2) (eJ M id page to_ at_ pw pu px).1:=by
 unfold eJ;split
 .rename_i s t f d;have hs:=aU d;split
  .split
   .exact h.mono
   split
   .exact h.mono
   split
   .exact h.mono
   split
   .exact h.mono
   .rename_i i x _ _ _ _ g _;refine Fw.bump ?_;have:=aCe (e.good t hs.1) (by simpa using g);have j:(borS t ⟨at_,at_+1,pw,pu,px,1⟩ x.key).pgs.length=t.pgs.length+1:=(insG_perm (g:=⟨at_,x.key,0⟩) t.pgs).length_eq;exact h.put (T:=borS t ⟨at_,at_+1,pw,pu,px,1⟩ x.key) d hs.2 (by have:=h.few.pgs t hs.1;omega) (by have:=h.regs t hs.1;show (addL t.regs _).length<=_;omega) (by have:=h.few.keys;omega) (allN_add h.few.all)
  .exact h.mono
 .exact h.mono
theorem Fw.back (h:Fw n r M) (e:bA M):Fw (n+1) (r+2) (fF M id page to_ at_).1:=by
 unfold fF;split
 .rename_i s t f d;have hs:=aU d;split
  .split
   .exact h.mono
   .refine Fw.bump ?_;have:=aA5 (p:=at_) (q:=at_+1) (bJ.1 (e.good t hs.1)).2.1 (by omega);have:=List.length_filter_le (λg:Pg=>g.num != at_) t.pgs;exact h.put (T:=retS t at_) d hs.2 (by have:=h.few.pgs t hs.1;show (t.pgs.filter _).length<=_;omega) (by have:=h.regs t hs.1;show (cutR t.regs at_ (at_+1)).length<=_;omega) (by have:=h.few.keys;omega) (allN_add h.few.all)
  .exact h.mono
 .exact h.mono
theorem Fw.close (h:Fw n r M):Fw (n+1) (r+2) (eD M id).1:=by
 unfold eD;cases f:findS M id with
 | none=>exact h.mono
 | some s=>
  simp only;split
  .exact h.mono
  .have e:∀ x ∈ delS M.sps id,x ∈ M.sps:=λx d=>(List.mem_filter.1 d).1;refine ⟨⟨?_,λx d=>by have:=h.few.pgs x (e x d);omega,by have:=h.few.keys;show M.keys<=_;omega,allN_add h.few.all⟩,λx d=>by have:=h.regs x (e x d);omega,λx d=>h.ids x (e x d)⟩;show (delS M.sps id).length<=n+1;have:=List.length_filter_le (λs:Sm=>s.id != id) M.sps;have:=h.few.sps;unfold delS;omega
theorem aH6 (h:Fw n r M) (e:bA M) (j:r<=62) (f:findS M to_=some t) {y:At4} (g:lookR t.regs at_=some y):gU t.regs at_ (at_+1)=0:=by
 have hs:=aU f;have d:=e.good t hs.1;obtain ⟨z,i,k,l⟩:=pO.2 (show lookR t.regs at_≠none by rw [g];simp);have:=srt_mem (bJ.1 d).2.1 z i;have m:=aA5 (p:=at_) (q:=at_+1) (bJ.1 d).2.1 (by omega);have o:=h.regs t hs.1;unfold gU;rw [if_neg (by rw [dC.2 (by omega)];simp),if_neg (by simp_all),if_neg (by omega)]
end Go.Dn
namespace Go.Dn
variable {A B B':AH} {R:List SP} {c:Mc} {M M':Mm} {φ φ':Int->Int} {sp bx:Sl} {s t:Sm} {kind id box page to_ at_ q a b from_ keys:Int} {n r i fm:Nat} {pw pu px aw au af:Bool} {fs:List (Int × Value)}
def jL (φ:Int->Int) (M:Mm) (fs:List (Int × Value)):Prop:=∀ k,1<=k->k<=M.keys->fs.lookup k=some (.int .i64 (φ k))
def xO (fs:List (Int × Value)):Prop:=∀ k v,fs.lookup k=some v->∃ n,v = .int .i64 n
theorem aFz {q:Int} (C:bA M) (p:allN M.ns) (D:i<M.ns.length):(mZ M i q).2.2=fD (bxs M.ns) i q/\((mZ M i q).2.2=0->(mZ M i q).2.1=M.ns.length/\bxs (mZ M i q).1.ns=bxs M.ns++[⟨M.ns.length,i,q,0⟩]/\allN (mZ M i q).1.ns)/\((mZ M i q).2.2≠0->(mZ M i q).1=M/\(mZ M i q).2.1=0)/\(mZ M i q).1.sps=M.sps/\(mZ M i q).1.keys=M.keys:=by
 obtain ⟨d,m⟩:∃ d,M.ns[i]? = some d:=⟨M.ns[i],by simp [D]⟩
 have u:firstDead M.ns=none:=by
  cases e:firstDead M.ns with
  | none=>rfl
  | some j=>
   exfalso
   have:∀ (l:List Nd) (j:Nat),firstDead l=some j->(∀ d ∈ l,d.live=true)->False:=by
    intro l
    induction l with
    | nil=>intro j h;cases h
    | cons y r ih=>
     intro j h o;unfold firstDead at h;rw [if_pos (o y (by simp))] at h;cases v:firstDead r with
     | none=>rw [v] at h;cases h
     | some k=>exact ih k v λd m=>o d (by simp [m])
   exact this _ j e p
 have E:fD (bxs M.ns) i q=kidE M.ns d q:=by
  unfold fD kidE;rw [vQ,m];simp only [Option.map_some];rw [aCY C.tree p m,gZ];by_cases H:q<0
  .omega
  .grind
 have w:mZ M i q=if kidE M.ns d q≠0 then (M,0,kidE M.ns d q) else (nsM M (kidN M.ns i d q).1,(kidN M.ns i d q).2,0):=by unfold mZ;rw [m]
 rw [E];by_cases g:kidE M.ns d q=0
 .rw [if_neg (by simp [g])] at w;rw [w,g,aAm u];refine ⟨rfl,λ_=>⟨rfl,?_,?_⟩,λz=>absurd rfl z,rfl,rfl⟩
  .show bxs (M.ns.set i { d with lent:=d.lent+q }++[⟨i,q,0,0,true⟩])=_;apply List.ext_getElem?;intro j;rw [mA];by_cases F:j<M.ns.length
   .rw [List.getElem?_append_left (by simp_all),List.getElem?_append_left (by rw [gZ];exact F),mA,List.getElem?_set];by_cases G:i=j
    .simp_all
    .simp_all
   .rw [List.getElem?_append_right (by simp;omega),List.getElem?_append_right (by rw [gZ];omega),gZ,List.length_set];by_cases G:j=M.ns.length
    .simp_all
    .grind
  .show allN (M.ns.set i { d with lent:=d.lent+q }++[⟨i,q,0,0,true⟩]);intro x f;rcases List.mem_append.1 f with f | f
   .rcases List.mem_or_eq_of_mem_set f with f | f
    .exact p x f
    .rw [f];exact p d (List.mem_of_getElem? m)
   .simp_all
 .simp_all
theorem aHL {y:Reg}:(mapM M id y).1.keys=M.keys:=by
 unfold mapM;cases findS M id with
 | none=>rfl
 | some s=>simp only;split<;>rfl
theorem aD9:(fA M id a b).1.keys=M.keys:=by
 unfold fA;cases findS M id with
 | none=>rfl
 | some s=>simp only;split;rfl;split<;>rfl
theorem aFL:(iS M id a b pw pu px).1.keys=M.keys:=by
 unfold iS;cases findS M id with
 | none=>rfl
 | some s=>simp only;split;rfl;split<;>rfl
theorem aGR:(jK M id box).1.keys=M.keys:=by
 unfold jK;split;rfl;split;rfl;split
 .split<;>rfl
 .rfl
theorem aGy:(eJ M id page to_ at_ pw pu px).1.keys=M.keys:=by
 unfold eJ;split
 .split
  .split;rfl;split;rfl;split;rfl;split<;>rfl
  .rfl
 .rfl
theorem aFE:(fF M id page to_ at_).1.keys=M.keys:=by
 unfold fF;split
 .split
  .split<;>rfl
  .rfl
 .rfl
theorem aDA:(eD M id).1.keys=M.keys:=by
 unfold eD;cases findS M id with
 | none=>rfl
 | some s=>simp only;split<;>rfl
theorem jL.congr (h:jL φ M fs) (e:M'.keys=M.keys):jL φ M' fs:=λk d f=>h k d (by omega)
theorem nJ (d:bA M):((touchM M id page aw au af).2.2.2≠0->(touchM M id page aw au af).1=M)/\((touchM M id page aw au af).2.2.2=0->
  1<=(touchM M id page aw au af).2.1/\(touchM M id page aw au af).2.1<=(touchM M id page aw au af).1.keys/\
   (((touchM M id page aw au af).1=M)\/((touchM M id page aw au af).1.keys=M.keys+1/\(touchM M id page aw au af).2.1=M.keys+1))):=by
 unfold touchM;cases e:findS M id with
 | none=>exact ⟨λ_=>rfl,λz=>by cases z⟩
 | some s=>
  have hs:=aU e;simp only;split
  .simp_all
  .split
   .simp_all
   .split
    .rename_i g f;refine ⟨λ_=>rfl,λ_=>?_⟩;have:=d.key g.key (d.src s hs.1 g (aL f).1);exact ⟨this.1,this.2,.inl rfl⟩
    .split
     .simp_all
     .have:=d.keys0;exact ⟨λz=>absurd rfl z,λ_=>⟨by show 1<=M.keys+1;omega,Int.le_refl _,.inr ⟨rfl,rfl⟩⟩⟩
set_option maxHeartbeats 2000000 in
theorem aKT {Q:Option Addr->Sl->Sl->Int->Option Nat->Bool->AH->Prop} (h:Own (MacS c M φ::Fz B::MapI fm .i64 fs::R) A) (E:mI B sp bx keys M) (o:bA M) (C:Fw n r M) (hn:n<=900) (hr:r<=62) (hid:id<9223372036854775808) (X : -9223372036854775808<=to_/\to_<9223372036854775808) (J:xO fs)
  (hk:∀ ok l m L φ' B' d M' G,bA M'->Fw (n+1) (r+2) M'->mI B' l m L M'->xO d->(jL φ M fs->ok=true/\jL φ' M' d)->Own (MacS c M' φ'::Fz B'::MapI fm .i64 d::R) G->Q (some ⟨c.m,0,none⟩) l m L (some fm) ok G) :
  qfx_A (some ⟨c.m,0,none⟩) sp bx keys (some fm) kind id box from_ to_ pw pu px aw au af Q A:=by
 unfold qfx_A qfx_G;refine ⟨λx y l m k' _ _ _ _ _ G=>x=y/\∃ φ' B' M',bA M'/\Fw (n+1) (r+2) M'/\mI B' l m k' M'/\(∃ d,xO d/\(jL φ M fs->jL φ' M' d)/\Own (MacS c M' φ'::Fz B'::MapI fm .i64 d::R) G),λx y l m k' _ _ _ _ _ G ⟨e,φ',B',M',D,p,S,d,h4,h5,h6⟩=>?_,?_⟩
 .grind
 -- what changes no keys
 have done:∀ {B':AH} {M':Mm} {l m:Sl} {k' x:Int} {G:AH},bA M'->Fw (n+1) (r+2) M'->mI B' l m k' M'->M'.keys=M.keys->Own (Fz B'::MacS c M' φ::MapI fm .i64 fs::R) G->x=x/\∃ φ' B' M',bA M'/\Fw (n+1) (r+2) M'/\mI B' l m k' M'/\(∃ d,xO d/\(jL φ M fs->jL φ' M' d)/\Own (MacS c M' φ'::Fz B'::MapI fm .i64 d::R) G):=
  λi1 i2 i3 i4 i5=>⟨rfl,φ,_,_,i1,i2,i3,fs,J,λz=>z.congr i4,i5.swap⟩
 refine bsel_in (λ_=>?_) λ_=>bsel_in (λ_=>?_) λ_=>bsel_in (λ_=>?_) λ_=>bsel_in (λ_=>?_) λ_=>bsel_in (λ_=>?_) λ_=>bsel_in (λ_=>?_) λ_=>bsel_in (λ_=>?_) λ_=>bsel_in (λ_=>?_) λ_=>bsel_in (λ_=>?_) λ_=>?_
 .-- a space more
  have H:=C.opn (box:=box) hid
  have ref:∀ {N:AH},Own (MacS c (jK M id box).1 φ::Fz B::MapI fm .i64 fs::R) N->bA (jK M id box).1->qcl_A sp bx keys id box (λY Z n6 n7 h8=>(jK M id box).2=n7/\∃ φ' B' M',bA M'/\Fw (n+1) (r+2) M'/\mI B' Y Z n6 M'/\(∃ d,xO d/\(jL φ M fs->jL φ' M' d)/\Own (MacS c M' φ'::Fz B'::MapI fm .i64 d::R) h8)) N:=λD hi=>
   aBE D.swap E o C.few (by omega) λl m k' B' O u f p=>by
    have:=done (x:=(jK M id box).2) hi H f aGR p;exact this
  by_cases g:noN M.ns box
  .have hno:¬ (0<=box/\liveN M.ns box.toNat=true):=λz=>by
    rcases g with g | g
    .omega
    .simp_all
   have e0:∀ e,jK M id box=(M,e)->qcl_A sp bx keys id box (λY Z n6 n7 h8=>e=n7/\∃ φ' B' M',bA M'/\Fw (n+1) (r+2) M'/\mI B' Y Z n6 M'/\(∃ d,xO d/\(jL φ M fs->jL φ' M' d)/\Own (MacS c M' φ'::Fz B'::MapI fm .i64 d::R) h8)) A:=λe he=>by simp_all
   refine aII h g (λc1=>e0 1 (by unfold jK;rw [if_pos c1])) (λc1 c2=>e0 6 (by unfold jK;rw [if_neg c1,if_pos c2])) λc1 c2=>e0 5 (by unfold jK;rw [if_neg c1,c2,if_neg (by simp),if_neg hno])
  .have T:0<=box:=by
    rcases Int.lt_or_le box 0 with w | w
    .exact absurd (.inl w) g
    .exact w
   have K:liveN M.ns box.toNat=true:=by
    cases e:liveN M.ns box.toNat with
    | true=>rfl
    | false=>exact absurd (.inr e) g
   have eo:jK M id box=openM M id box.toNat:=by
    unfold jK openM;rw [if_pos (show 0<=box/\liveN M.ns box.toNat=true from ⟨T,K⟩)]
   have:=aG2 (i:=box.toNat) (id:=id) h o K (Q:=λn2 S=>qcl_A sp bx keys id box (λY Z n6 n7 h8=>n2=n7/\∃ φ' B' M',bA M'/\Fw (n+1) (r+2) M'/\mI B' Y Z n6 M'/\(∃ d,xO d/\(jL φ M fs->jL φ' M' d)/\Own (MacS c M' φ'::Fz B'::MapI fm .i64 d::R) h8)) S) λN hi D=>by simp_all
   rw [Int.toNat_of_nonneg T] at this;exact this
 .refine aFm (y:=⟨from_,to_,pw,pu,px,0⟩) h o rfl λN hi D=>?_;refine iY (how:=1) D.swap E o C.few (by omega) (.inl rfl) λl m k' B' O u f p=>?_;have e:vE M id from_ to_ 1 pw pu px=mapM M id ⟨from_,to_,pw,pu,px,0⟩:=by unfold vE;rw [if_pos rfl]
  rw [e] at f ⊢;exact done hi (C.map o) f aHL p
 .refine aGz h o λN hi D=>?_;refine iY (how:=2) D.swap E o C.few (by omega) (.inr (.inl rfl)) λl m k' B' O u f p=>?_;have e:vE M id from_ to_ 2 pw pu px=fA M id from_ to_:=by unfold vE;rw [if_neg (by decide),if_pos rfl]
  rw [e] at f ⊢;exact done hi (C.unmap o) f aD9 p
 .refine aB8 h o λN hi D=>?_;refine iY (how:=3) D.swap E o C.few (by omega) (.inr (.inr rfl)) λl m k' B' O u f p=>?_;have e:vE M id from_ to_ 3 pw pu px=iS M id from_ to_ pw pu px:=by unfold vE;rw [if_neg (by decide),if_neg (by decide)]
  rw [e] at f ⊢;exact done hi (C.prot o) f aFL p
 .-- a touch
  refine rJ h o λφ1 N hi hφ D=>?_;refine pD D.swap E o C.few (by omega) λl m k' B' O u f p=>?_;have H:=C.touch (id:=id) (page:=from_) (aw:=aw) (au:=au) (af:=af);have F:=nJ (M:=M) (id:=id) (page:=from_) (aw:=aw) (au:=au) (af:=af) o;obtain ⟨I,k1,c1,e1,he⟩:∃ I k1 c1 e1,touchM M id from_ aw au af=(I,k1,c1,e1):=⟨_,_,_,_,rfl⟩;rw [he] at hi D f H F p ⊢
  dsimp only at hi D f H F p ⊢
  have p:Own (MacS c I φ1::Fz B'::MapI fm .i64 fs::R) O:=p.swap;refine bsel_f (by simp) (bsel_f (by simp) ?_);refine bsel_in (λg=>?_) λg=>?_
  .have g:e1≠0:=by simpa using g
   rw [if_neg g];refine bsel_f (by simp) ?_;have hM1:I=M:=F.1 g;refine ⟨λ_ _ _ _ _ G=>G=O,λ_ _ _ _ _ U e3=>?_,bsel_f (by simp_all) rfl⟩;subst e3;exact ⟨rfl,φ1,B',I,hi,H,f,fs,J,λz k q1 q2=>by rw [z k q1 (by simp_all),hφ k (by simp_all)],p⟩
  .have g:e1=0:=by simpa using g
   subst g;rw [if_pos rfl];obtain ⟨q1,q2,q3⟩:=F.2 rfl;refine ⟨λ_ _ _ _ _ G=>∃ d,xO d/\(jL φ M fs->jL φ1 I d)/\Own (MacS c I φ1::Fz B'::MapI fm .i64 d::R) G,λ_ _ _ _ _ U ⟨d,w1,w2,w3⟩=>⟨rfl,φ1,B',I,hi,H,f,d,w1,w2,w3⟩,aG rfl ?_⟩;rcases q3 with q3 | ⟨q3,q4⟩
   .subst q3;have hne:¬ k' > keys:=by rw [f.keys,E.keys];omega
    refine ⟨λG=>G=O,λU e3=>?_,bsel_f (decide_eq_false hne) rfl⟩;subst e3;refine iD (i:=2) p rfl ?_;have hfr:jL φ I fs->jL φ1 I fs:=λz k w1 w2=>by rw [z k w1 w2,hφ k w2]
    have go:∀ W:Int,((fs.lookup k1).getD (.int .i64 (0:Int)):Value) = .int .i64 W->∃ n46:Int,((fs.lookup k1).getD (.int .i64 (0:Int)):Value)=(.int .i64 n46)/\(bsel (n46 != φ1 k1) (Q (some ⟨c.m,0,none⟩) sp bx keys (some fm) false U) (∃ d,xO d/\(jL φ I fs->jL φ1 I d)/\Own (MacS c I φ1::Fz B'::MapI fm .i64 d::R) U)):=λW V=>by
     refine ⟨W,V,bsel_in (λw=>?_) λw=>⟨fs,J,hfr,p⟩⟩;have w:W≠φ1 k1:=by simpa using w
     refine hk false sp bx keys φ1 B' fs I U hi H (E.mono u) J (λz=>?_) p;exfalso;rw [hfr z k1 q1 q2] at V;apply w;cases V;rfl
    cases e4:fs.lookup k1 with
    | none=>rw [e4] at go;exact go 0 rfl
    | some v=>
     obtain ⟨W,rfl⟩:=J k1 v e4;rw [e4] at go;exact go W rfl
   .have hgt:k' > keys:=by rw [f.keys,E.keys];omega
    have hI:xO (putM fs k1 (.int .i64 (φ1 k1))):=λk v hv=>by
     rw [jQ] at hv;split at hv
     .grind
     .exact J k v hv
    refine ⟨λG=>Own (MacS c I φ1::Fz B'::MapI fm .i64 (putM fs k1 (.int .i64 (φ1 k1)))::R) G,λU S=>?_,aG (decide_eq_true hgt) (aDs (i:=2) p rfl λU S=>S)⟩;refine iD (i:=2) S rfl ?_;rw [jQ,if_pos rfl];refine ⟨φ1 k1,rfl,bsel_f (by simp) ⟨_,hI,λz k w1 w2=>?_,S⟩⟩;rw [jQ];by_cases g:k=k1
    .simp_all
    .rw [if_neg g,z k w1 (by omega),hφ k (by omega)]
 .refine aDu h λN D=>sN D.swap E o C.few (by omega) (bsel_f (by simp) ?_);refine aLN D o X λO hi p=>?_;refine aAV p.swap E o C.few (by omega) X λl m k' B' U u f S=>?_;exact done hi (C.lend o) f aGy S
 .refine aLi h o (λt y hf hl _=>aH6 C o hr hf hl) λN hi D=>?_;refine aBh D.swap E o C.few (by omega) λl m k' B' O u f p=>?_;exact done hi (C.back o) f aFE p
 .refine aIV h o λN hi D=>?_;refine zA D.swap E o C.few (by omega) λl m k' B' O u f p=>?_;exact done hi C.close f aDA p
 .-- a container more
  show aP (Addr.add ⟨c.m,0,none⟩ 2) A _;rw [add_at];refine MacS.ptr (j:=0+2) h rfl ?_;by_cases g:noN M.ns id
  .refine aLA h g ?_
   have hce:fD (bxs M.ns) id box=5:=by
    unfold fD
    have:sX (bxs M.ns) id=none:=by
     rcases Int.lt_or_le id 0 with w | w
     .exact aBp (.inl w)
     .refine aBp (.inr ?_);rcases g with g | g
      .omega
      .rw [sT C.few.all] at g;have:=of_decide_eq_false g;omega
    rw [this]
   refine rA (i:=id) (q:=box) h.swap E.bxs (sQ o.tree) vX (λ_=>?_) λz=>?_
   .rw [hce];exact bsel_f (by simp) (bsel_f (by simp) (done o C.mono E rfl h.swap))
   .omega
  .have T:0<=id:=by
    rcases Int.lt_or_le id 0 with w | w
    .exact absurd (.inl w) g
    .exact w
   have K:liveN M.ns id.toNat=true:=by
    cases e:liveN M.ns id.toNat with
    | true=>rfl
    | false=>exact absurd (.inr e) g
   have hlt:id.toNat<M.ns.length:=by
    rw [sT C.few.all] at K;exact of_decide_eq_true K
   have eid:id=((id.toNat:Nat):Int):=(Int.toNat_of_nonneg T).symm;obtain ⟨k1,k2,k3,k4,k5⟩:=aFz (q:=box) o C.few.all hlt;rw [eid];refine aMR h o K λN hi D=>?_;refine rA (i:=((id.toNat:Nat):Int)) (q:=box) D.swap E.bxs (sQ o.tree) vX (λz=>?_) λz sx B' O u hbx p=>?_
   .rw [<-k1] at z;obtain ⟨k6,k7⟩:=k3 z;rw [k6] at D;rw [k7,<- k1];exact bsel_f (by simp) (bsel_f (by simp) (done o C.mono E rfl D.swap))
   .rw [<-k1] at z;obtain ⟨k6,k7,k8⟩:=k2 z;rw [k6,z,gZ];refine bsel_f (by simp) (bsel_f (by simp) ?_);rw [gZ] at hbx;refine done hi ?_ ⟨by rw [k4];exact E.sps.mono u,by rw [k7];exact hbx,by rw [k5];exact E.keys⟩ k5 p;have P:=C.mono;exact ⟨⟨by rw [k4];exact P.few.sps,by rw [k4];exact P.few.pgs,by rw [k5];exact P.few.keys,k8⟩,by rw [k4];exact P.regs,by rw [k4];exact P.ids⟩
 .exact done o C.mono E rfl h.swap
end Go.Dn
