/- What the proof stands on. -/
import Derived.Test.YtfnkdpmbpgffbaaGreatFlat
import Derived.Test.YtfnkdpmbpgffbaaGreatMacT2
import Derived.Test.YtfnkdpmbpgffbaaGreatDoesV
namespace Go.Dn
variable {A B:AH} {l R:List SP} {c:Mc} {g:Sg} {M:Mm} {φ:Int->Int} {sp bx:Sl} {s t:Sm} {id keys:Int} {n r i:Nat} {P1 P2:SP} {s1 s2:Sl}
theorem aGk {Q:Sl->AH->Prop} (h:Own (MacS c M φ::R) A) (j:findS M id=some s) (m:∀ s' f,Own (SlO s' 6 (regC s.regs)::MacS c M φ::R) f->Q s' f):qga_A (some ⟨c.m,0,none⟩) id Q A:=by
 obtain ⟨g,L,b,h⟩:=MacS.openH h;obtain ⟨a,pre,post,rfl,rfl,rfl,_⟩:=b.has j;have d:a ∈ pre++a::post:=cmid_iff.2 (.inl rfl);have e:=macG.focus h
 unfold qga_A qga_G;simp only [aJ,add_at,Nat.zero_add];refine uJ e b ⟨some ⟨a.2.p,0,none⟩,rfl,aG rfl ?_⟩;simp only [aJ,add_at,Nat.zero_add];refine lZ (i:=7) e rfl ?_;refine mV (k:=7) e rfl dZ (by have:=(b.regs d).1;omega) (b.one a d).sl λs' o _ _ p=>m s' o ?_;exact p.cons λC q=>MacS.closeH b (macG.unfocus q)
theorem aA8:∀ {a b:List Int},a.Pairwise (· < ·)->b.Pairwise (· < ·)->(∀ x,x ∈ a↔x ∈ b)->a=b
 | [],[],_,_,_=>rfl
 | [],y::b,_,_,h=>by have:=(h y).2 (by simp);simp at this
 | x::a,[],_,_,h=>by have:=(h x).1 (by simp);simp at this
 | x::a,y::b,h1,h2,h=>by
  obtain ⟨j,d⟩:=List.pairwise_cons.1 h1;obtain ⟨k,f⟩:=List.pairwise_cons.1 h2
  have e:x=y:=by
   have k1:=(h x).1 (by simp);have k2:=(h y).2 (by simp);rcases List.mem_cons.1 k1 with k1 | k1
   .exact k1
   .grind
  subst e;refine congrArg _ (aA8 d f λz=>?_);have m:=h z;constructor
  .grind
  .grind
theorem aIO {Q:Sl->AH->Prop} (h:Own (MacS c M φ::R) A) (o:findS M id=some s) (v:∀ s' q,Own (SlO s' 1 (intsV (nums s))::MacS c M φ::R) q->Q s' q):qgb_A (some ⟨c.m,0,none⟩) id Q A:=by
 obtain ⟨g,L,b,h⟩:=MacS.openH h;obtain ⟨a,pre,post,rfl,rfl,rfl,_⟩:=b.has o;have d:a ∈ pre++a::post:=cmid_iff.2 (.inl rfl);have j:=macG.focus h
 unfold qgb_A qgb_G;simp only [aJ,add_at,Nat.zero_add];refine uJ j b ⟨some ⟨a.2.p,0,none⟩,rfl,aG rfl ?_⟩;simp only [aJ,add_at,Nat.zero_add];refine jS (i:=7) j rfl (cH (i:=7) j rfl (prs (k:=3) j rfl ⟨cH (i:=7) j rfl rfl,?_⟩));refine jP j (λf o=>vJ.2 (by have:=(b.rng f).1 (.inr o);omega)) (b.one a d).rest λs' ps u _ _ e m w=>?_
 have p:ps=nums a.1:=aA8 e (b.inv.pgs _ (b.in_ d)) λx=>by
  rw [m,Ne,b.lf_none d,iB];exact Decidable.not_not
 subst p;have y:Own (SlO s' 1 (intsV (nums a.1))::macG c g (ownC a::((pre++post).map ownC++R))) u:=w.swap;exact v s' u (y.cons λC z=>MacS.closeH b (macG.unfocus z))
theorem aGo {sz:Nat} {cs:List Value} {s:Sl} (h:Own (SlAt s sz cs::R) A) (d:cs≠[]):∃ b pre rest,s.a=some ⟨b,pre.length,none⟩/\s.len*sz=cs.length/\s.len<=s.cap/\Own (At b (pre++cs++rest)::R) A:=by
 have a:Own ((λB=>∃ b pre rest,s.a=some ⟨b,pre.length,none⟩/\(s.len*sz=cs.length/\s.len<=s.cap)/\At b (pre++cs++rest) B)::R) A:=h.imp λB e=>by
  obtain ⟨b,pre,rest,f,j⟩:=e.2.2 d;exact ⟨b,pre,rest,f,⟨e.1,e.2.1⟩,j⟩
 obtain ⟨b,a⟩:=a.ex;obtain ⟨pre,a⟩:=a.ex;obtain ⟨rest,a⟩:=a.ex;obtain ⟨e1,a⟩:=a.pure;obtain ⟨⟨k,m⟩,a⟩:=a.pure;exact ⟨b,pre,rest,e1,k,m,a⟩
theorem aHM {Q:Sl->AH->Prop} (h:Own (MacS c M φ::R) A) (W:Fw n r M) (hn:n<=1000) (X:∀ s' Y,Own (SlAt s' 1 (intsV (M.sps.map (·.id)))::MacS c M φ::R) Y->Q s' Y):qbx_A (some ⟨c.m,0,none⟩) Q A:=by
 obtain ⟨g,L,u,h⟩:=MacS.openH h;unfold qbx_A qbx_G qbt_A qbw_A qbw_G qbu_A qbv_A;simp only [aJ,add_at,Nat.zero_add];refine fC (i:=3) h rfl rfl ?_
 have f:(g.sps.map (·.1)).Perm (M.sps.map (·.id)):=by
  have o:=u.sps.map (·.1)
  have z:(entC L).map (·.1)=M.sps.map (·.id):=by
   rw [<-u.abs];unfold entC;rw [List.map_map,List.map_map];rfl
  rw [z] at o;exact o
 have F:g.sps.length=M.sps.length:=by have:=f.length_eq;simpa using this
 have hsl:=W.few.sps
 have J:∀ p ∈ g.sps,(Lit.int .i64 p.1).wf=true:=λp D=>by
  have:p.1 ∈ M.sps.map (·.id):=f.mem_iff.1 (List.mem_map_of_mem D);obtain ⟨s,hs,e⟩:=List.mem_map.1 this;have:=W.ids s hs;rw [<-e];exact aMD (by omega) (by omega)
 have K:∀ (s:Sl) (d:List Int),d.Perm (g.sps.map (·.1))->(d.mergeSort λx y=>decide (x<=y))=M.sps.map (·.id):=λs d D=>by
  have k:(d.mergeSort λx y=>decide (x<=y)).Perm (M.sps.map (·.id)):=((List.mergeSort_perm _ _).trans D).trans f
  have G:(d.mergeSort λx y=>decide (x<=y)).Pairwise (λx y=>decide (x<=y)=true):=List.pairwise_mergeSort (λa b c o z=>decide_eq_true (by have:=of_decide_eq_true o;have:=of_decide_eq_true z;omega)) (λa b=>by
   by_cases w:a<=b
   .rw [decide_eq_true w];rfl
   .rw [decide_eq_true (show b<=a by omega),Bool.or_true]) d
  have N:(d.mergeSort λx y=>decide (x<=y)).Nodup:=k.nodup_iff.2 (iG u.inv.srt);refine aA8 ?_ u.inv.srt λx=>k.mem_iff;have:=G.and N;exact this.imp λ{a b} h=>by have:=of_decide_eq_true h.1;have:=h.2;omega
 refine aT (cs:=[.map (some c.sp)]) h λb A1 o=>?_;refine aMZ (m:=g.sps) (i:=5) (j:=0) o rfl rfl (by omega) J (λh0=>?_) λd s Z D O H z=>?_
 .refine ⟨[],rfl,by simp [Sl.nil],rfl,(λa E=>by cases E),X Sl.nil A1 ?_⟩;have P:M.sps.map (·.id)=[]:=by rw [h0] at f;exact List.nil_perm.1 f
  rw [P];exact aHG (MacS.closeH u o.tail)
 .have S:d.map (Value.int .i64)≠[]:=λq=>O (List.map_eq_nil_iff.1 q);obtain ⟨b2,pre,rest,E,e2,e3,h3⟩:=aGo z S;have T:d.length=g.sps.length:=by rw [D.length_eq,List.length_map]
  obtain ⟨B,u2,U⟩:=z.sat;obtain ⟨t,ht⟩:=h3.at (i:=0) rfl;refine ⟨d,H.symm,by omega,?_,λa I i hi=>?_,?_⟩
  .have:=aA1 U u2 (λg=>by rw [E] at g;cases g);simpa using this
  .rw [E] at I;cases I;rw [add_at];simp [uX,ht]
  .rw [E];show vB _ (Addr.add ⟨b2,pre.length,none⟩ 0) 0 Z _;rw [add_at,Nat.add_zero];have k:(d.mergeSort λx y=>decide (x<=y)).Perm d:=List.mergeSort_perm _ _;refine iW _ 0 Z pre (d.map (.int .i64)) rest _ h3 (by simp [k.length_eq]) rfl (λv hv=>by obtain ⟨x,_,rfl⟩:=List.mem_map.1 hv;rfl) λA3 h4=>X s A3 ?_;rw [K s d D] at h4;have V:(M.sps.map (·.id)).length=d.length:=by rw [List.length_map,T,F]
   refine (h4.imp λB U=>?_).cons λC hC=>MacS.closeH u hC.tail;exact ⟨by show s.len*1=(intsV _).length;rw [oD,V];omega,e3,λ_=>⟨b2,pre,rest,E,U⟩⟩
theorem aE2 {k1 k2:Nat} {L:List Int} {Q:Bool->AH->Prop} (h:Own l A) (e1:l[k1]? = some P1) (b:Reads P1 s1 1 (intsV L)) (d:l[k2]? = some P2) (e:Reads P2 s2 1 (intsV L)) (D:L.length<=1000000) (j:Q true A):qgc_A s1 s2 Q A:=by
 have k:=dV h e1 b;have l2:=dV h d e;rw [oD] at k l2;unfold qgc_A;refine bsel_f (by simp_all) ?_;refine ⟨λx m o=>∃ v:Nat,x=v/\m+v=L.length/\o=A,⟨L.length,0,rfl,rfl,rfl⟩,?_⟩;intro x m E ⟨v,p,F,q⟩;subst p q;refine bsel_in (λc=>?_) λc=>j;have c:(v:Int)<s1.len:=of_decide_eq_true c;obtain ⟨y,f⟩:∃ y,L[v]? = some y:=⟨L[v]'(by omega),by simp⟩;obtain ⟨a,u,w⟩:=aAw h e1 b f;obtain ⟨a',z,C⟩:=aAw h d e f;rw [u,z];exact inB_in (by omega) c (w _ (inB_in (by omega) (by omega) (C _ (bsel_f (by simp) ⟨m-1,by omega,v+1,by rw [w64]<;>omega,by omega,rfl⟩))))
theorem aCQ {α:Type} {f h:α->Int}:∀ l:List α,sumZ (λx=>f x+h x) l=sumZ f l+sumZ h l
 | []=>rfl
 | x::r=>by simp only [sumZ,aCQ r];omega
theorem yF {α:Type} {f h:α->Int}:∀ l:List α,sumZ (λx=>f x-h x) l=sumZ f l-sumZ h l
 | []=>rfl
 | x::r=>by simp only [sumZ,yF r];omega
theorem zI {α β:Type} {f:α->β->Int}:∀ (a:List α) (b:List β),sumZ (λx=>sumZ (f x) b) a=sumZ (λy=>sumZ (λx=>f x y) a) b
 | [],b=>(tA λ_ _=>rfl).symm
 | x::r,b=>by
  simp only [sumZ];rw [zI r b,<- aCQ]
theorem aCh {q:Int}:∀ (n:Nat) (p:Int),sumZ (λi:Nat=>if p=(i:Int) then q else 0) (List.range n)=if 0<=p/\p<n then q else 0
 | 0,p=>by simp [sumZ];omega
 | n+1,p=>by
  rw [List.range_succ,jD,aCh n p];simp only [sumZ];by_cases h:p=n
  .omega
  .omega
theorem yV {f:Nd->Int}:∀ (ns:List Nd),sumZ f ns=sumZ (λi:Nat=>match ns[i]? with | some d=>f d | none=>0) (List.range ns.length)
 | []=>rfl
 | d::r=>by
  rw [List.length_cons,List.range_succ_eq_map];simp only [sumZ];rw [yV r];congr 1
  have:∀ (l:List Nat),sumZ (λi:Nat=>match r[i]? with | some d=>f d | none=>0) l=sumZ (λi:Nat=>match (d::r)[i]? with | some d=>f d | none=>0) (l.map (·+1)):=λl=>by
   induction l with
   | nil=>rfl
   | cons x l ih=>simp only [List.map_cons,sumZ,ih,List.getElem?_cons_succ]
  exact this _
theorem aHN {ns:List Nd} {d:Nd} (h:TreeOK ns) (e:allN ns) (f:ns[0]? = some d):sumZ rmN ns=d.quo-sumZ (·.use) ns:=by
 have e1:sumZ rmN ns=sumZ (·.quo) ns-sumZ (·.use) ns-sumZ (·.lent) ns:=by
  rw [<-yF,<- yF];exact dP λx k=>by unfold rmN Nd.room;rw [if_pos (e x k)]
 have v:sumZ (·.lent) ns=sumZ (λd=>if 0<=d.par/\d.par<(ns.length:Int) then d.quo else 0) ns:=by
  have w:sumZ (·.lent) ns=sumZ (λi:Nat=>sumZ (kdN i) ns) (List.range ns.length):=by
   rw [yV];refine dP λi hi=>?_;have hi:=List.mem_range.1 hi;have:ns[i]? = some ns[i]:=by simp [hi]
   rw [this];exact h.lent i _ this (e _ (List.getElem_mem _))
  rw [w,zI];refine dP λx k=>?_;have z:sumZ (λi:Nat=>kdN i x) (List.range ns.length)=sumZ (λi:Nat=>if x.par=(i:Int) then x.quo else 0) (List.range ns.length):=dP λi _=>by unfold kdN;rw [e x k];simp
  rw [z,aCh]
 have D:sumZ (·.quo) ns-sumZ (·.lent) ns=d.quo:=by
  rw [v];obtain ⟨E,q,F,G⟩:=h.root;rw [f] at q;cases q;cases a:ns with
  | nil=>rw [a] at f;cases f
  | cons y r=>
   have u:y=d:=by rw [a] at f;simpa using f
   simp only [sumZ];rw [u,if_neg (by omega)]
   have:sumZ (λb:Nd=>if 0<=b.par/\b.par<((y::r).length:Int) then b.quo else 0) r=sumZ (·.quo) r:=dP λx k=>by
    obtain ⟨j,C⟩:=List.mem_iff_getElem?.1 k;have o:ns[j+1]? = some x:=by rw [a];simpa using C
    obtain ⟨m,H,p⟩:=h.par (j+1) x o (e x (List.mem_of_getElem? o)) (by omega);rw [sT e] at p;have p:=of_decide_eq_true p;rw [a] at p;rw [if_pos ⟨by omega,by omega⟩]
   rw [u] at this;rw [this];omega
 omega
set_option maxHeartbeats 2000000 in
theorem aIM {o:Option Nat} {Q:Int->AH->Prop} (h:Own (MacS c M φ::Fz B::R) A) (S:mI B sp bx keys M) (G:bA M) (T:Fw n r M) (hn:n<=1000) (hk:∀ C,Own (MacS c M φ::Fz B::R) C->Q 0 C):qgl_A (some ⟨c.m,0,none⟩) sp bx keys o Q A:=by
 unfold qgl_A qgl_G qgk_A qgk_G;obtain ⟨X,H,hr,hX⟩:=S.sps;have hXl:X.length=M.sps.length:=by have:=congrArg List.length H;simpa using this
 have hsl:=T.few.sps;have hl:=cZ (f:=λx:Sx × Sm=>x.1.cells) sY (by decide) (k:=1) h rfl hr.rd;refine aT (cs:=[]) h λb1 A1 h1=>?_;have h1:Own (SlO ⟨some ⟨b1,0,none⟩,0,0⟩ 1 (intsV [])::MacS c M φ::Fz B::R) A1:=h1.slo0;refine ⟨λo x m C=>∃ v:Nat,x=v/\m+v=X.length/\o.a≠none/\Own (SlO o 1 (intsV ((X.take v).map (·.2.id)))::MacS c M φ::Fz B::R) C,⟨X.length,0,rfl,rfl,(λg=>nomatch g),h1⟩,?_⟩;intro s7 x m A2 ⟨v,e1,e2,ho,L⟩;subst e1;refine bsel_in (λN=>?_) λN=>?_
 .have N:(v:Int)<sp.len:=of_decide_eq_true N;obtain ⟨y,hy⟩:∃ y,X[v]? = some y:=⟨X[v]'(by omega),by simp⟩;have D:=hX y (List.mem_of_getElem? hy);have I:y.2 ∈ M.sps:=by rw [<-H];exact List.mem_map_of_mem (List.mem_of_getElem? hy)
  have U:findS M y.2.id=some y.2:=by
   obtain ⟨pre,post,e⟩:=List.append_of_mem I;unfold findS;rw [e,List.find?_append]
   have:pre.find? (λs=>s.id==y.2.id)=none:=by
    rw [List.find?_eq_none];intro w hw hh;have hs:=G.srt;rw [e,List.map_append,List.map_cons,List.pairwise_append] at hs;have:=hs.2.2 w.id (List.mem_map_of_mem hw) y.2.id (by simp);have hh:w.id=y.2.id:=by simpa using hh
    omega
   rw [this];simp
  have hrl:=wI G I;have hpl:=T.few.pgs _ I;obtain ⟨a,O,q2⟩:=aE1 (k:=2) L rfl hr.rd hy;rw [O];refine inB_in (by omega) N (q2 _ ?_);rw [D.id];refine oE L (λw=>absurd w ho) (by simp;omega) λs' A3 hs' J=>?_;rw [show ((X.take v).map (·.2.id))++[y.2.id]=(X.take (v+1)).map (·.2.id) by rw [dX hy,List.map_append];rfl] at J;refine aGk J.swap U λK A4 E=>?_;have hl18:=bF (k:=0) E rfl aY;have hl12:=bF (k:=3) E rfl D.rs.rd;refine ⟨λC=>∃ F p,Own (SlO F 1 (intsV (nums y.2))::Fz B::SlO p 1 (intsV (nums y.2))::MacS c M φ::SlO K 6 (regC y.2.regs)::SlO s' 1 (intsV ((X.take (v+1)).map (·.2.id)))::R) C,λV ⟨F,p,q⟩=>?_,?_⟩
  .refine ⟨λx m' C=>∃ w:Nat,x=w/\m'+w=y.2.regs.length/\C=V,⟨y.2.regs.length,0,rfl,rfl,rfl⟩,?_⟩;intro x m' A6 ⟨w,e3,e4,e5⟩;subst e3 e5;refine bsel_in (λc2=>?_) λc2=>?_
   .have c2:(w:Int)<K.len:=of_decide_eq_true c2;obtain ⟨z,hz⟩:∃ z,y.2.regs[w]? = some z:=⟨y.2.regs[w]'(by omega),by simp⟩;obtain ⟨a1,p1,p2⟩:=dT (k:=4) q rfl aY hz;obtain ⟨a2,p3,p4⟩:=dT (k:=1) q rfl D.rs.rd hz;rw [p1,p3];refine inB_in (by omega) c2 (p2 _ (inB_in (by omega) (by omega) (p4 _ (bsel_f (by simp) ?_))));exact ⟨m'-1,by omega,w+1,by rw [w64]<;>omega,by omega,rfl⟩
   .refine ⟨m-1,by omega,v+1,by rw [w64]<;>omega,by omega,hs',?_⟩;have W:Own (Fz B::MacS c M φ::SlO s' 1 (intsV ((X.take (v+1)).map (·.2.id)))::R) A6:=q.tail.cons λ_ Y=>Y.tail.cons λ_ hD=>hD.tail;exact (W.pick 2 rfl).cons λ_ Y=>Y.swap
  .refine bsel_f (by simp_all) ?_;refine aIO E.swap U λp V q=>?_;have W:Own (Fz B::SlO p 1 (intsV (nums y.2))::MacS c M φ::SlO K 6 (regC y.2.regs)::SlO s' 1 (intsV ((X.take (v+1)).map (·.2.id)))::R) V:=q.pick 4 rfl;have nm:=λ{Q:Sl->AH->Prop}=>qM (id:=y.2.id) (box:=y.1.box) (sl:=y.1.rs) (Q:=Q) W D (by omega);refine nm λF A6 _ h7=>?_;have hnl:(nums y.2).length<=1000000:=by unfold nums;rw [List.length_map];omega
   refine aE2 (k1:=2) (k2:=0) h7 rfl aY rfl aY hnl (bsel_f rfl ⟨F,p,h7⟩)
 .have N:¬(v:Int)<sp.len:=of_decide_eq_false N;rw [List.take_of_length_le (by omega)] at L;have Z:X.map (·.2.id)=M.sps.map (·.id):=by rw [<-H,List.map_map];rfl
  rw [Z] at L;have hbl:=cZ mD (by decide) (k:=2) L rfl S.bxs.rd;rw [gZ] at hbl;have h64:=G.tree.len;obtain ⟨u,d1,d2,d3⟩:=G.tree.root
  have b:∀ v,0<=sumZ (·.use) (M.ns.take v)/\sumZ (·.use) (M.ns.take v)<=67108864:=λv=>by
   have:=yJ (f:=λd:Nd=>d.use) (n:=1048576) (l:=M.ns.take v) λd P=>by
    have:=G.tree.ok d (List.mem_of_mem_take P);obtain ⟨u1,u2,u3,u4⟩:=this;omega
   have hl:(M.ns.take v).length<=64:=Nat.le_trans (by simp;omega) h64;omega
  refine ⟨λx z m C=>∃ v:Nat,z=v/\m+v=M.ns.length/\x=sumZ (·.use) (M.ns.take v)/\Own (SlO s7 1 (intsV (M.sps.map (·.id)))::MacS c M φ::Fz B::R) C,⟨M.ns.length,0,rfl,rfl,rfl,L⟩,?_⟩;intro x z m A3 ⟨v,e3,e4,e5,J⟩;subst e3 e5;refine bsel_in (λc2=>?_) λc2=>?_
  .have c2:(v:Int)<bx.len:=of_decide_eq_true c2;obtain ⟨d,P⟩:∃ d,M.ns[v]? = some d:=⟨M.ns[v]'(by omega),by simp⟩;have hb:(bxs M.ns)[v]? = some ⟨v,d.par,d.quo,d.use⟩:=by rw [mA,P];rfl
   obtain ⟨a,O,q2⟩:=aAC (k:=2) J rfl S.bxs.rd hb;rw [O];refine inB_in (by omega) c2 (q2 _ ?_);have E:=J.swap;show aP (Addr.add ⟨c.m,0,none⟩ 2) A3 _;rw [add_at];refine MacS.ptr (j:=0+2) E rfl ?_;refine aK6 E P (T.few.all d (List.mem_of_getElem? P)) (bsel_f rfl (bsel_f (by simp) (bsel_f (by simp) ?_)));have et:sumZ (·.use) (M.ns.take (v+1))=sumZ (·.use) (M.ns.take v)+d.use:=by rw [dX P,jD];simp [sumZ]
   have k1:=b v;have k2:=b (v+1);exact ⟨m-1,by omega,v+1,by rw [w64]<;>omega,by omega,by show IntKind.wrap .i64 (sumZ (λd:Nd=>d.use) (M.ns.take v)+d.use)=_;rw [w64 (by omega) (by omega)];exact et.symm,J⟩
  .have c2:¬(v:Int)<bx.len:=of_decide_eq_false c2;have k1:=b v;rw [List.take_of_length_le (by omega)] at k1 ⊢;refine aHM J.swap T hn λs67 A4 E=>?_;refine aE2 (k1:=0) (k2:=2) E rfl pP rfl aY (by simp;omega) (aG rfl ?_);have q:Own (MacS c M φ::Fz B::R) A4:=E.tail.cons λ_ Y=>Y.tail;show aP (Addr.add ⟨c.m,0,none⟩ 1) A4 _;rw [add_at];refine MacS.ptr (j:=0+1) q rfl ?_;have hb:(bxs M.ns)[0]? = some ⟨(0:Nat),u.par,u.quo,u.use⟩:=by rw [mA,d1];rfl
   obtain ⟨a,O,q2,q3⟩:=rdG mD (by decide) (k:=1) q rfl S.bxs.rd hb;have hb2:bx.len≠0:=by have:=(List.getElem?_eq_some_iff.1 d1).1;omega
   rw [O];refine inB_in (by omega) (by omega) ?_
   have ec:bM A4 (Addr.add a 2)=some (.int .i64 u.quo):=by
    have:=q3 2 _ rfl;obtain ⟨ab,ao,asp⟩:=a
    obtain ⟨bb,oo,w1,_⟩:=bK (i:=1) q rfl S.bxs.rd (j:=0) (v:=.int .i64 ((0:Nat):Int)) (by
     have:=rQ (f:=Bod.cells) mD (c:=0) (w:=.int .i64 ((0:Nat):Int)) (y:=⟨(0:Nat),u.par,u.quo,u.use⟩) rfl hb;simpa using this)
    rw [O] at w1;cases w1;simp only [add_at] at this ⊢;simpa using this
   refine ⟨u.quo,ec,?_⟩;refine aBr q ⟨⟨u.quo,ec,rfl⟩,?_⟩;rw [aHN G.tree T.few.all d1];have hq:=G.tree.ok u (List.mem_of_getElem? d1);obtain ⟨u1,u2,u3,u4⟩:=hq;rw [w64 (n:=u.quo-sumZ (·.use) M.ns) (by omega) (by omega)];refine aG (by simp) ?_;refine aKp q λs V hs W=>?_;rw [hs];exact aG rfl (hk V W)
end Go.Dn
namespace Go.Dn
variable {A B:AH} {l:List SP} {c:Mc} {g:Sg} {M:Mm} {φ:Int->Int} {sp bx:Sl} {s:Sm} {id keys k:Int} {n r i:Nat} {P:SP} {s1:Sl} {fs:List (Int × Value)}
structure ActU where
 kind:Int
 a:Int
 b:Int
 from_:Int
 to_:Int
 w:Bool
 u:Bool
 x:Bool
 aw:Bool
 au:Bool
 af:Bool
def ActU.cells (y:ActU):List Value:=[.int .i64 y.kind,.int .i64 y.a,.int .i64 y.b,.int .i64 y.from_,.int .i64 y.to_,.bool y.w,.bool y.u,.bool y.x,.bool y.aw,.bool y.au,.bool y.af]
def I64 (x:Int):Prop:=-9223372036854775808<=x/\x<9223372036854775808
def ActU.ok (y:ActU):Prop:=I64 y.kind/\I64 y.a/\I64 y.b/\I64 y.from_/\I64 y.to_
theorem aEK (y:ActU):y.cells.length=11:=rfl
theorem aIo {k v:Nat} {acts:List ActU} {y:ActU} {l:List SP} (h:Own l A) (e:l[k]? = some P) (j:Reads P s1 11 (acts.flatMap ActU.cells)) (m:acts[v]? = some y) :
  ∃ a,s1.a=some a/\(∀ K:Int->Int->Int->Int->Int->Bool->Bool->Bool->Bool->Bool->Bool->Prop,K y.kind y.a y.b y.from_ y.to_ y.w y.u y.x y.aw y.au y.af->
   aI .i64 (Addr.add a (Int.toNat (v:Int)*11)) A λo=>aI .i64 (Addr.add (Addr.add a (Int.toNat (v:Int)*11)) 1) A λp=>aI .i64 (Addr.add (Addr.add a (Int.toNat (v:Int)*11)) 2) A λq=>aI .i64 (Addr.add (Addr.add a (Int.toNat (v:Int)*11)) 3) A λt=>aI .i64 (Addr.add (Addr.add a (Int.toNat (v:Int)*11)) 4) A λu=>
    aB (Addr.add (Addr.add a (Int.toNat (v:Int)*11)) 5) A λw=>aB (Addr.add (Addr.add a (Int.toNat (v:Int)*11)) 6) A λx=>aB (Addr.add (Addr.add a (Int.toNat (v:Int)*11)) 7) A λz=>aB (Addr.add (Addr.add a (Int.toNat (v:Int)*11)) 8) A λC=>aB (Addr.add (Addr.add a (Int.toNat (v:Int)*11)) 9) A λD=>aB (Addr.add (Addr.add a (Int.toNat (v:Int)*11)) 10) A λf=>K o p q t u w x z C D f)/\
   (∀ K:Int->Prop,K y.a->aI .i64 (Addr.add (Addr.add a (Int.toNat (v:Int)*11)) 1) A K)/\(∀ K:Int->Prop,K y.from_->aI .i64 (Addr.add (Addr.add a (Int.toNat (v:Int)*11)) 3) A K):=by
 obtain ⟨a,E,F,b⟩:=rdG aEK (by decide) h e j m;exact ⟨a,E,λK d=>⟨_,F,_,b 1 _ rfl,_,b 2 _ rfl,_,b 3 _ rfl,_,b 4 _ rfl,_,b 5 _ rfl,_,b 6 _ rfl,_,b 7 _ rfl,_,b 8 _ rfl,_,b 9 _ rfl,_,b 10 _ rfl,d⟩,λK d=>⟨_,b 1 _ rfl,d⟩,λK d=>⟨_,b 3 _ rfl,d⟩⟩
theorem Own.fz0 (h:Own l A):Own (Fz (λ_=>none)::l) A:=⟨λ_=>none,A,λ_=>.inl rfl,(λ_ _ e=>nomatch e),eU.refl A,rfl,h⟩
theorem aMb {N:Int} {Q:Option Addr->Sl->Sl->Int->Bool->AH->Prop} (h:Own l A) (f:4<=N/\N<=262144)
  (j:∀ c B sp bx a,c.N=N->mI B sp bx 0 (m0 N)->Own (MacS c (m0 N) (λ_=>0)::Fz B::l) a->Q (some ⟨c.m,0,none⟩) sp bx 0 true a):qbs_A N 3 Q A:=by
 refine aG8 h.fz0 f ⟨by omega,by omega⟩ λc b a m o=>?_;have p:Own (At b [.int .i64 0,.int .i64 (-1),.int .i64 (N-1),.int .i64 2]::Fz (λ_=>none)::MacS c (m0 N) (λ_=>0)::l) a:=o.cons λ_ d=>d.swap;obtain ⟨B,u,⟨q,t,w⟩,y⟩:=p.frz;refine j c B _ _ a m ⟨⟨[],rfl,RdF.none,λx z=>by cases z⟩,⟨λC D d v=>?_,(λg=>nomatch g),Nat.le_refl _⟩,rfl⟩ y.swap;have e:C=B:=d;subst e;have:=eI (b:=b) (n:=1) (cap:=1) (sz:=4) (cs:=[.int .i64 0,.int .i64 (-1),.int .i64 (N-1),.int .i64 2]) (rest:=[]) rfl;exact this q D (by simp_all) (t.trans v)
theorem fw0 {N:Int}:Fw 0 0 (m0 N):=⟨⟨Nat.le_refl _,λs hs=>(by cases hs),Int.le_refl _,λd a=>by simp [m0] at a;rw [a]⟩,λs hs=>(by cases hs),λs hs=>by cases hs⟩
theorem aDB {Q:Bool->AH->Prop} (h:Own l A) (U:∀ u,Own l u->Q true u):qfy_A Q A:=by
 unfold qfy_A qfy_G;refine aG8 h (by omega) (by omega) λc b A1 hc x=>?_;have x:=x.tail;have V:=aGV (N:=20) (by omega);obtain ⟨v,a⟩:∃ v,v=(openM (m0 20) 1 0).1:=⟨_,rfl⟩;have e1:(openM (m0 20) 1 0).2=0:=by decide +kernel
 obtain ⟨M2,f⟩:∃ M2,M2=(mapM v 1 ⟨0,4,true,true,false,0⟩).1:=⟨_,rfl⟩;have W:(mapM v 1 ⟨0,4,true,true,false,0⟩).2=0:=by rw [a];decide +kernel
 obtain ⟨p,m⟩:∃ p,p=(touchM M2 1 2 true true false).1:=⟨_,rfl⟩;have O:(touchM M2 1 2 true true false).2.2=(0,0):=by rw [f,a];decide +kernel
 have R:(touchM p 1 9 true true false).2.2=(6,9):=by rw [m,f,a];decide +kernel
 have o:(touchM p 1 9 true true false).1.ns[0]?.map (λd=>(d.room,d.live))=some (12,true):=by rw [m,f,a];decide +kernel
 refine ⟨λu=>bA M2/\Own (MacS c M2 (λ_=>0)::l) u,λX ⟨z,w⟩=>?_,bsel_f rfl ?_⟩
 .refine rJ w z λφ3 Y e _ q=>?_;rw [<-m] at e q;refine rJ q e λφ4 S C _ D=>?_;have E:=congrArg Prod.fst O;have F:=congrArg Prod.snd O;have G:=congrArg Prod.fst R;have H:=congrArg Prod.snd R;simp only at E F G H;refine aG (by simp_all) (aG (by simp_all) (aG (by simp_all) ?_));show aP (Addr.add ⟨c.m,0,none⟩ 2) S _;rw [add_at];refine MacS.ptr (j:=0+2) D rfl ?_;cases I:(touchM p 1 9 true true false).1.ns[0]? with
  | none=>rw [I] at o;cases o
  | some d=>
   rw [I] at o;simp only [Option.map_some,Option.some.injEq,Prod.mk.injEq] at o;have:=aLq D C I o.2 (Q:=λJ K=>Q (J==12) K) (by rw [o.1];exact U S D.tail);exact this
 .have Z:liveN (m0 20).ns 0=true:=rfl
  have:=aG2 (i:=0) (id:=1) x V Z (Q:=λn8 T=>bsel (n8 != (0:Int)) (Q false T) (qcy_A (some ⟨c.m,0,none⟩) (1:Int) (0:Int) (4:Int) true true false (λL t=>bsel (L != (0:Int)) (Q false t) (bA M2/\Own (MacS c M2 (λ_=>0)::l) t)) T)) λX hi w=>by
   rw [e1];rw [<-a] at hi w;refine bsel_f rfl (aFm (y:=⟨0,4,true,true,false,0⟩) w hi rfl λY e q=>?_);rw [W];rw [<-f] at e q;exact bsel_f rfl ⟨e,q⟩
  exact this
def StU (c:Mc) (b13 v:Nat) (l:List SP) (o:Option Addr) (sp bx:Sl) (keys:Int) (mp:Option Nat) (F:Prop) (A:AH):Prop:=
 o=some ⟨c.m,0,none⟩/\mp=some b13/\∃ M φ B fs n,n<=2*v/\bA M/\Fw n (2*v) M/\mI B sp bx keys M/\xO fs/\(F->jL φ M fs)/\Own (MacS c M φ::Fz B::MapI b13 .i64 fs::l) A
theorem Fw.wk {n a r r':Nat} (h:Fw n r M) (b:n<=a) (d:r<=r'):Fw a r' M:=⟨⟨by have:=h.few.sps;omega,λs hs=>by have:=h.few.pgs s hs;omega,by have:=h.few.keys;omega,h.few.all⟩,λs hs=>by have:=h.regs s hs;omega,h.ids⟩
end Go.Dn
namespace Go.Dn
variable {A B B':AH} {l R:List SP} {c:Mc} {g:Sg} {L:List Sc} {M M':Mm} {φ φ':Int->Int} {sp bx:Sl} {s:Sm} {id keys k page:Int} {n r i:Nat} {P:SP} {s1:Sl} {fs:List (Int × Value)} {aw au af:Bool}
theorem aGI {d:Nat} {fr t o x:Int} {hs:List (Int × Int)} {W:Int->Int->Int} {Q:Int->AH->Prop} (h:Own (RamW d fr hs W::R) A) (m:hasF fr hs t=true) (G:0<=o/\o<=4088)
  (w:∀ W' b,(∀ t',t'≠t->W' t'=W t')->Own (RamW d fr hs W'::R) b->Q 0 b):qbo_A (some ⟨d,0,none⟩) (t*4096+o) 8 x Q A:=by
 obtain ⟨M,⟨a,y⟩,z⟩:=RamW.openH h;have H:=gF m a.hi;have C:=a.hi
 have f:okA fr hs (t*4096+o) 8=true:=by
  have e1:(t*4096+o) / 4096=t:=by omega
  have D:(t*4096+o+8-1) / 4096=t:=by omega
  unfold okA;rw [e1,D,m];simp;omega
 refine xK (n:=8) z a.holes ⟨a.lo,a.hi⟩ (.inr (.inr (.inr rfl))) ⟨by omega,by omega⟩ (λq=>absurd (f.symm.trans q) (by decide)) λ_ b E=>?_;refine w (λt' i=>if t'=t then (if 0<=t'/\0<=i/\i<512 then fO (vC M (t*4096+o) 8 x) t' i else 0) else W t' i) b (λt' j=>?_) (RamW.closeH a (λt' F p u v=>?_) E)
 .funext i;exact if_neg j
 .by_cases e:t'=t
  .rw [if_pos e,if_pos ⟨p,u,v⟩]
  .rw [if_neg e,y t' F p u v];unfold fO;exact (aCk M _ _ x 8 8 (by omega)).symm
theorem bA.wr2 (h:bA M) (b:k ∈ ownK M.sps) {w:Int->Int}:bA { M with wd:=λj i=>if j=k then w i else M.wd j i }:=by
 have d:∀ k' i,M.keys<k'->(if k'=k then w i else M.wd k' i)=0:=λk' i a=>by
  have:=(h.key k b).2;rw [if_neg (by omega)];exact h.zero k' i a
 exact { srt:=h.srt,good:=h.good,pgs:=h.pgs,reg:=h.reg,own:=h.own,src:=h.src,key:=h.key,keys0:=h.keys0,tree:=h.tree,live:=h.live,use:=h.use,kind:=h.kind,bor:=h.bor,lent:=h.lent,zero:=d }
theorem aZ.wr2 (a:aZ c g L M φ) (u:k ∈ ownK M.sps) {W':Int->Int->Int} (m:∀ t,t≠φ k->W' t=g.W t) (d:InvL { M with wd:=λj i=>if j=k then W' (φ k) i else M.wd j i }):aZ c { g with W:=W' } L { M with wd:=λj i=>if j=k then W' (φ k) i else M.wd j i } φ:=by
 obtain ⟨y,v,w⟩:=a.data u;refine ⟨d,a.abs,a.ns,a.n,a.sps,a.nd,a.G,a.rng,λb o=>(a.one b o).keep (λf p=>m f λe=>v b o (by rw [<-e];exact p)) (λf p=>a.fr_tl o p) λ_ _=>rfl,λk' h i=>?_,λq x=>?_,a.pc,a.ln,a.N⟩
 .show W' (φ k') i=if k'=k then W' (φ k) i else M.wd k' i
  by_cases e:k'=k
  .rw [if_pos e,e]
  .rw [if_neg e,m _ λz=>e (a.inj h u z)];exact a.wd k' h i
 .show W' c.kern q=_;rw [m _ λe=>w e.symm];exact a.kw q x
theorem aJ5 {o x:Int} {Q:Int->AH->Prop} (h:Own (MacS c M φ::R) A) (e:bA M) (b:k ∈ ownK M.sps) (f:0<=o/\o<=4088) (j:∀ wd a,bA { M with wd:=wd }->Own (MacS c { M with wd:=wd } φ::R) a->Q 0 a) :
  qbo_A (some ⟨c.r,0,none⟩) (φ k*4096+o) 8 x Q A:=by
 obtain ⟨g,L,d,h⟩:=MacS.openH h;refine aGI h (d.hasF _ (d.data b).1) f λW' a m p=>?_;have hi:=e.wr2 b (w:=W' (φ k));exact j _ a hi (MacS.closeH (d.wr2 b m hi.toInvL) p)
theorem aM9 {Q:Bool->AH->Prop} (h:Own (MacS c M φ::R) A) (b:k ∈ ownK M.sps) (d:Q true A):qbb_A (some ⟨c.r,0,none⟩) (φ k) Q A:=by
 obtain ⟨g,L,a,h⟩:=MacS.openH h;have:=a.hasF _ (a.data b).1;exact aHZ h (by rw [this];exact d)
theorem aE5 (h:Own (MacS c M φ::R) A) (b:k ∈ ownK M.sps):0<=φ k/\φ k<262144:=by
 obtain ⟨g,L,a,h⟩:=MacS.openH h;have:=(a.rng (φ k)).1 (.inr (a.data b).1);have:=a.N;omega
theorem aJW {Q:Bool->AH->Prop} (h:Own (MacS c M φ::R) A) (a:k ∈ ownK M.sps) (b:∀ i,M.wd k i=0) (d:Q true A):qeg_A (some ⟨c.r,0,none⟩) (φ k) Q A:=by
 have e:=aE5 h a;obtain ⟨g,L,f,h⟩:=MacS.openH h;refine yR h e.1 (λ_=>d) λj=>absurd (λi _ _=>?_) j;rw [f.wd k a];exact b i
theorem aFB (a:findS M id=some s) {T:Sm} (b:T.id=id) {ns:List Nd} {kk:Int} {wd:Int->Int->Int}:findS ⟨putS M.sps T,ns,kk,wd⟩ id=some T:=by
 have:=yK (id:=id) a b;rw [if_pos rfl] at this;exact this
theorem aAj (f:bA M) (hi:bA (touchM M id page aw au af).1) (a:(touchM M id page aw au af).2.2.2=0):(touchM M id page aw au af).2.1 ∈ ownK (touchM M id page aw au af).1.sps/\
  ((∃ s g,findS M id=some s/\pgAt s page=some g)\/((∃ s,findS M id=some s/\pgAt s page=none)/\(touchM M id page aw au af).2.1=M.keys+1/\(touchM M id page aw au af).1.wd=M.wd/\sumZ rmN (touchM M id page aw au af).1.ns<sumZ rmN M.ns)):=by
 unfold touchM at hi a ⊢;cases e:findS M id with
 | none=>rw [e] at a;cases a
 | some s=>
  have hs:=aU e;rw [e] at hi a;simp only at hi a ⊢;cases h:lookR s.regs page with
  | none=>rw [h] at a;cases a
  | some y=>
   rw [h] at hi a;simp only at hi a ⊢;by_cases q:mayZ y.1 y.2.1 y.2.2.1 aw au af=false
   .rw [if_pos q] at a;cases a
   rw [if_neg q] at hi a ⊢;cases b:pgAt s page with
   | some g=>
    rw [b] at hi a;exact ⟨f.src s hs.1 g (aL b).1,.inl ⟨s,g,rfl,b⟩⟩
   | none=>
    rw [b] at hi a;simp only at hi a ⊢;by_cases t:roomN M.ns s.box<costS (addP s page (M.keys+1))-costS s
    .rw [if_pos t] at a;cases a
    rw [if_neg t] at hi ⊢;have v:(addP s page (M.keys+1)).id=id:=hs.2;have j:=aFB (ns:=addU M.ns s.box (costS (addP s page (M.keys+1))-costS s)) (kk:=M.keys+1) (wd:=M.wd) e v;refine ⟨hi.src _ (aU j).1 ⟨page,M.keys+1,0⟩ (mem_addP.2 (.inl rfl)),.inr ⟨⟨s,rfl,b⟩,rfl,rfl,?_⟩⟩;have w:=nT (s:=s) (p:=page) (k:=M.keys+1);rw [if_pos (f.kd0 hs.1 h b)] at w;have m:=f.live s hs.1;obtain ⟨d,u,o⟩:=aEs m;show sumZ rmN (addU M.ns s.box _)<_;rw [jU u];unfold useN;rw [iO rmN u];unfold rmN Nd.room;rw [o];simp only [if_true];omega
theorem mI.wd {wd:Int->Int->Int} (h:mI B sp bx keys M):mI B sp bx keys { M with wd:=wd }:=⟨h.sps,h.bxs,h.keys⟩
theorem Fw.wd {wd:Int->Int->Int} (h:Fw n r M):Fw n r { M with wd:=wd }:=⟨⟨h.few.sps,h.few.pgs,h.few.keys,h.few.all⟩,h.regs,h.ids⟩
theorem Fw.touch0 (h:Fw n r M):Fw (n+1) r (touchM M id page aw au af).1:=by
 have a:=h.touch (id:=id) (page:=page) (aw:=aw) (au:=au) (af:=af);refine ⟨a.few,?_,a.ids⟩;unfold touchM;cases d:findS M id with
 | none=>exact h.regs
 | some s=>
  simp only;split
  .exact h.regs
  .split
   .exact h.regs
   .split
    .exact h.regs
    .split
     .exact h.regs
     .intro x b;unfold payM putS at b;obtain ⟨z,e,rfl⟩:=List.mem_map.1 b;split
      .exact h.regs s (aU d).1
      .exact h.regs z e
set_option maxHeartbeats 2000000 in
theorem vG {k0:Nat} {N x:Int} {acts:List ActU} {Q:Bool->AH->Prop} (h:Own l A) (e:l[k0]? = some P) (hr:Reads P s1 11 (acts.flatMap ActU.cells)) (hok:∀ y ∈ acts,y.ok) (hx:0<=x/\x<18446744073709551616) (hk:∀ d,Own l d->Q true d):qgm_A N s1 id page x Q A:=by
 unfold qgm_A qgm_G;have Y:∀ {A1:AH},Own l A1->qfy_A (λb2 C=>Q b2 C) A1:=λh1=>aDB h1 hk;refine ⟨λd=>(20<=N/\N<=120)/\d=A,λA0 ⟨hN,e0⟩=>?_,bsel_in (λ_=>Y h) λc1=>bsel_in (λ_=>Y h) λc2=>⟨by have:=of_decide_eq_false c1;have:=of_decide_eq_false c2;omega,rfl⟩⟩;subst e0;refine aMb h ⟨by omega,by omega⟩ λc B sp bx A1 hc O h1=>bsel_f rfl ?_;refine uT (k:=.i64) h1 λq A2 h2=>?_;have h2:Own (MacS c (m0 N) (λ_=>0)::Fz B::MapI q .i64 []::l) A2:=(h2.pick 1 rfl).cons λ_ hC=>hC.swap;refine ⟨λo sp bx keys F d=>∃ v,v<=30/\StU c q v l o sp bx keys F False d,λo sp bx keys F A3 ⟨v,Z,e1,e2,M,φ,B,fs,n,hn,D,hF,O,S,_,C⟩=>?_,?_⟩
 .subst e1 e2
  have p1:∀ {d:AH} {M':Mm} {φ':Int->Int} {R':List SP} {K:Option Addr->Prop},Own (MacS c M' φ'::R') d->K (some ⟨c.b,0,none⟩)->aP (Addr.add ⟨c.m,0,none⟩ 1) d K:=λh' hK=>by
   rw [add_at];exact MacS.ptr (j:=0+1) h' rfl hK
  have p0:∀ {d:AH} {M':Mm} {φ':Int->Int} {R':List SP} {K:Option Addr->Prop},Own (MacS c M' φ'::R') d->K (some ⟨c.r,0,none⟩)->aP ⟨c.m,0,none⟩ d K:=λh' hK=>MacS.ptr (j:=0) h' rfl hK;refine p1 C (aBr C ?_);refine nM C.swap O D hF.few (by omega) λos y G hy hb1 hb2=>?_;unfold qfz_A qfz_G;refine qS C.swap hy (by omega) λog t=>?_;refine rJ C D λφ1 A4 hi hφ T=>?_;have b:=nJ (M:=M) (id:=id) (page:=page) (aw:=false) (au:=false) (af:=false) D;have f:=aAj (M:=M) (id:=id) (page:=page) (aw:=false) (au:=false) (af:=false) D hi;obtain ⟨J,k1,c1,H,he⟩:∃ J k1 c1 H,touchM M id page false false false=(J,k1,c1,H):=⟨_,_,_,_,rfl⟩;rw [he] at hi T b f ⊢
  dsimp only at hi T b f ⊢
  have rot:∀ {d:AH} {M':Mm},Own (MacS c M' φ1::Fz B::MapI q .i64 fs::l) d->Own (l++[MacS c M' φ1,Fz B]) d:=λh'=>(h'.cons λ_ hC=>hC.cons λ_ hD=>hD.tail:Own (MacS c _ φ1::Fz B::l) _).perm (List.perm_append_comm (l₁:=[MacS c _ φ1,Fz B]) (l₂:=l));have tor:∀ {d:AH} {M':Mm},Own (l++[MacS c M' φ1,Fz B]) d->Own (MacS c M' φ1::Fz B::l) d:=λh'=>h'.perm (List.perm_append_comm (l₁:=l) (l₂:=[MacS c _ φ1,Fz B]));refine bsel_in (λg=>?_) λg=>?_
  .have g:H≠0:=by simpa using g
   have U:J=M:=b.1 g;rw [U] at T;refine aDB (rot T) λA5 E=>aG rfl ?_;have w:=tor E;refine p1 w (aBr w (aG (by simp) ?_));exact aIM w O D hF (by omega) λA6 h7=>hk A6 h7.tail.tail
  .have g:H=0:=by simpa using g
   subst g;obtain ⟨w1,w2⟩:=f rfl;rw [if_pos rfl];refine aDB (rot T) λA5 E=>aG rfl ?_;have w:=tor E;refine p0 w (aM9 w w1 (aG rfl ?_));rcases w2 with ⟨s,g,w3,w4⟩ | ⟨⟨s,w3,w4⟩,w5,w6,w7⟩
   .refine aG ?_ (hk A5 w.tail.tail);rw [w3] at G;subst G;have t:pgAt s page=og:=t;rw [w4] at t;subst t;have:=D.key g.key (D.src s (aU w3).1 g (aL w4).1);show (g.key != 0)=true;simp;omega
   .rw [w3] at G;subst G;have t:pgAt s page=og:=t;rw [w4] at t;subst t;refine bsel_f rfl (p0 w (aJW w w1 (λi=>?_) (aG rfl (p1 w (aBr w ?_)))))
    .rw [w6,w5];exact D.zero _ _ (by omega)
    .rw [decide_eq_true w7];exact hk A5 w.tail.tail
 .refine ⟨λx o sp bx keys F m d=>∃ v:Nat,x=v/\v<=30/\m+v=30/\StU c q v l o sp bx keys F False d,⟨30,0,rfl,by omega,rfl,rfl,rfl,m0 N,_,B,[],0,by omega,aGV (by omega),fw0,O,(λk v Z=>by cases Z),(λz=>z.elim),h2⟩,?_⟩;intro z o sp bx keys F m A3 ⟨v,e3,Z,hmv,e1,e2,M,φ,B,fs,n,hn,D,hF,O,S,hfr,C⟩;have hst:StU c q v l o sp bx keys F False A3:=⟨e1,e2,M,φ,B,fs,n,hn,D,hF,O,S,hfr,C⟩;subst e1 e2 e3;have hl:=cZ aEK (by decide) h e hr;refine ⟨λd=>d=A3/\(v:Int)<s1.len/\(v:Int)<30,λA3' ⟨eA,V,c30⟩=>?_,bsel_in (λV=>bsel_in (λc30=>⟨rfl,of_decide_eq_true V,of_decide_eq_true c30⟩) λ_=>⟨v,Z,hst⟩) λ_=>⟨v,Z,hst⟩⟩;subst eA;obtain ⟨y,hy⟩:∃ y,acts[v]? = some y:=⟨acts[v]'(by omega),by simp⟩;obtain ⟨a,q1,q2,_⟩:=aIo (k:=k0+3) C (by simpa using e) hr hy;obtain ⟨_,y1,y2,y3,y4⟩:=hok y (List.mem_of_getElem? hy);refine ⟨λo sp bx keys F d=>StU c q (v+1) l o sp bx keys F False d,λo sp bx keys F A4 T=>⟨m-1,by omega,v+1,by rw [w64]<;>omega,by omega,by omega,T⟩,?_⟩;rw [q1];refine inB_in (by omega) V (q2 _ ?_);refine aKT C O D hF (by omega) (by omega) y1.2 y4 S λok sp' bx' k' φ' B' I M' A4 i1 i2 i3 i4 i5 i6=>?_;refine inB_in (by omega) V (inB_in (by omega) V ?_);have ld:=λ{d:AH} {M2:Mm} {φ2:Int->Int} (h':Own (MacS c M2 φ2::Fz B'::MapI q .i64 I::l) d)=>aIo (k:=k0+3) (l:=MacS c M2 φ2::Fz B'::MapI q .i64 I::l) h' (by simpa using e) hr hy;obtain ⟨a4,r1,_,r2,r3⟩:=ld i6;rw [q1] at r1;cases r1;refine r2 _ (r3 _ ?_);refine rJ i6 i1 λφ1 A5 hi hφ E=>?_;have b:=nJ (M:=M') (id:=y.a) (page:=y.from_) (aw:=false) (au:=false) (af:=false) i1;have f:=aAj (M:=M') (id:=y.a) (page:=y.from_) (aw:=false) (au:=false) (af:=false) i1 hi;have W:=i2.touch0 (id:=y.a) (page:=y.from_) (aw:=false) (au:=false) (af:=false);have X:=λ{Q:Sl->Sl->Int->Int->Int->Int->AH->Prop} {R':List SP} {d:AH} (h':Own (Fz B'::R') d)=>pD (id:=y.a) (p:=y.from_) (aw:=false) (au:=false) (af:=false) (Q:=Q) h' i3 i1 i2.few (by omega);obtain ⟨J,k1,c1,H,he⟩:∃ J k1 c1 H,touchM M' y.a y.from_ false false false=(J,k1,c1,H):=⟨_,_,_,_,rfl⟩;rw [he] at hi E b f W X ⊢
  dsimp only at hi E b f W X ⊢
  refine bsel_in (λg=>?_) λg=>?_
  .have g:H=0:=by simpa using g
   subst g;obtain ⟨w1,_⟩:=f rfl;rw [if_pos rfl];have hf:=aE5 E w1;refine MacS.ptr (j:=0) E rfl ?_
   have ew:IntKind.wrap .u64 (IntKind.wrap .u64 (IntKind.wrap .u64 (φ1 k1)*4096)+Int.tmod x 4089)=φ1 k1*4096+x % 4089:=by
    rw [Int.tmod_eq_emod_of_nonneg hx.1,dO (n:=φ1 k1) (by omega) (by omega),dO (n:=φ1 k1*4096) (by omega) (by omega),dO (by omega) (by omega)]
   rw [ew];refine aJ5 E hi w1 (by omega) λwd A6 hi6 w=>?_;refine inB_in (by omega) V (inB_in (by omega) V ?_);obtain ⟨a6,r4,_,r5,r6⟩:=ld w;rw [q1] at r4;cases r4;refine r5 _ (r6 _ (X w.swap λsp'' bx'' k'' B'' A7 u hm7 h7=>?_));exact ⟨rfl,rfl,{ J with wd:=wd },φ1,B'',I,n+1+1,by omega,hi6,(W.wk (Nat.le_refl _) (by omega)).wd,hm7.wd,i4,λz=>z.elim,h7.swap⟩
  .have g:H≠0:=by simpa using g
   have U:J=M':=b.1 g;rw [U] at E;exact ⟨rfl,rfl,M',φ1,B',I,n+1,by omega,i1,i2.wk (Nat.le_refl _) (by omega),i3,i4,λz=>z.elim,E⟩
end Go.Dn
namespace Go.Dn
theorem sI {a:Int} (h:(Lit.int .i64 a).wf=true) : -9223372036854775808<=a/\a<9223372036854775808:=by
 have b : -9223372036854775808<=a/\a<=9223372036854775807:=by simpa [Lit.wf,IntKind.min,IntKind.max,IntKind.bits,IntKind.signed] using h
 omega
end Go.Dn
namespace Go.Dn
instance:Inhabited ActU:=⟨⟨0,0,0,0,0,false,false,false,false,false,false⟩⟩
theorem aFF {cs:List Value} (h:AllOK [.i .i64,.i .i64,.i .i64,.i .i64,.i .i64,.b,.b,.b,.b,.b,.b] cs):∃ x:ActU,cs=ActU.cells x/\ActU.ok x:=by
 obtain ⟨w0,⟨a,rfl,l⟩,s,⟨b,rfl,n⟩,t,⟨c,rfl,o⟩,u,⟨d,rfl,p⟩,v,⟨e,rfl,q⟩,w,⟨f,rfl⟩,y,⟨g,rfl⟩,z,⟨i,rfl⟩,A,⟨j,rfl⟩,B,⟨k,rfl⟩,r,⟨m,rfl⟩,rfl⟩:=aGU h;exact ⟨⟨a,b,c,d,e,f,g,i,j,k,m⟩,rfl,sI l,sI n,sI o,sI p,sI q⟩
end Go.Dn
namespace Go.Dn
theorem aKt {a:Int} (h:(Lit.int .u64 a).wf=true):U64 a:=by
 have b:0<=a/\a<=18446744073709551615:=by simpa [Lit.wf,IntKind.min,IntKind.max,IntKind.bits,IntKind.signed] using h
 exact ⟨b.1,by omega⟩
end Go.Dn
