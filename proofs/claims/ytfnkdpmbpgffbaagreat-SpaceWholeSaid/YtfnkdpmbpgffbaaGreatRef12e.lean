/- What the proof stands on. -/
import Derived.Test.YtfnkdpmbpgffbaaGreatMmL
import Derived.Test.YtfnkdpmbpgffbaaGreatQTree
import Derived.Test.YtfnkdpmbpgffbaaGreatRef12
namespace Go.Dn
variable {B B':AH} {l:List Sm} {L:List Pg} {sp bx:Sl} {x:Sx} {s t:Sm} {g:Pg} {keys id p q a b:Int} {v i:Nat} {M:Mm} {ns:List Nd} {d:Nd}
def bxs (ns:List Nd):List Bod:=ns.mapIdx λi d=>⟨i,d.par,d.quo,d.use⟩
theorem mA:(bxs ns)[i]? = (ns[i]?).map λd=>⟨i,d.par,d.quo,d.use⟩:=by unfold bxs;rw [List.getElem?_mapIdx]
theorem gZ:(bxs ns).length=ns.length:=by unfold bxs;simp
theorem vX:aK5 (bxs ns):=λv b h=>by
 rw [mA] at h;cases e:ns[v]? with
 | none=>rw [e] at h;cases h
 | some d=>rw [e] at h;cases h;rfl
theorem aJD {b:Bod} (h:b ∈ bxs ns):∃ d ∈ ns,∃ i:Nat,b=⟨i,d.par,d.quo,d.use⟩:=by
 obtain ⟨i,hi⟩:=List.mem_iff_getElem?.1 h;rw [mA] at hi;cases e:ns[i]? with
 | none=>rw [e] at hi;cases hi
 | some d=>rw [e] at hi;cases hi;exact ⟨d,List.mem_of_getElem? e,i,rfl⟩
theorem sQ (h:TreeOK ns):aF2 (bxs ns):=⟨by rw [gZ];exact h.len,λb c=>by
 obtain ⟨d,e,i,rfl⟩:=aJD c;obtain ⟨f,j,k,m⟩:=h.ok d e;simp only;omega⟩
theorem vQ (i:Nat):sX (bxs ns) i=(ns[i]?).map λd=>⟨i,d.par,d.quo,d.use⟩:=by rw [aBD vX,mA]
theorem aBp {i:Int} (h:i<0\/ns.length<=i):sX (bxs ns) i=none:=by
 unfold sX;rw [List.find?_eq_none];intro b e;obtain ⟨j,c⟩:=List.mem_iff_getElem?.1 e;have k:=vX j b c;have f:=(List.getElem?_eq_some_iff.1 c).1;rw [gZ] at f;simp;omega
theorem aCp {α β:Type} {f:β->Int} {gg:Nat->α->β} {h:α->Int} (e:∀ i x,f (gg i x)=h x):∀ (l:List α),sumZ f (l.mapIdx gg)=sumZ h l
 | []=>rfl
 | x::r=>by
  rw [List.mapIdx_cons];simp only [sumZ];rw [e,aCp (gg:=λi=>gg (i+1)) (λi x=>e (i+1) x) r]
def allN (ns:List Nd):Prop:=∀ d ∈ ns,d.live=true
theorem aIh (c:allN ns):kY (bxs ns) i=sumZ (kdN i) ns:=by
 unfold kY bxs;rw [aCp (h:=λd:Nd=>if d.par=(i:Int) then d.quo else 0) λi x=>rfl];refine dP λd e=>?_;unfold kdN;rw [c d e];simp
theorem aCY (h:TreeOK ns) (e:allN ns) (c:ns[i]? = some d):uV (bxs ns) i=d.room:=by
 unfold uV;rw [vQ,c];show d.quo-d.use-kY (bxs ns) i=d.room;rw [aIh e];unfold Nd.room;rw [h.lent i d c (e d (List.mem_of_getElem? c))]
theorem wJ {k:Int}:aBu (bxs ns) i k=bxs (addU ns i k):=by
 apply List.ext_getElem?;intro j;unfold aBu;rw [List.getElem?_map,mA,mA,dL];cases e:ns[j]? with
 | none=>rfl
 | some d=>
  simp only [Option.map_some];by_cases g:i=j
  .simp_all
  .grind
theorem allN_add {k:Int} (h:allN ns):allN (addU ns i k):=λd f=>by
 obtain ⟨j,c⟩:=List.mem_iff_getElem?.1 f;rw [dL] at c;cases e:ns[j]? with
 | none=>rw [e] at c;cases c
 | some x=>
  rw [e] at c;have:=h x (List.mem_of_getElem? e);simp only [Option.map_some,Option.some.injEq] at c;subst c;split<;>exact this
theorem sT (h:allN ns):liveN ns i=decide (i<ns.length):=by
 unfold liveN;cases e:ns[i]? with
 | none=>
  have:=List.getElem?_eq_none_iff.1 e;rw [decide_eq_false (by omega)]
 | some d=>
  rw [decide_eq_true (List.getElem?_eq_some_iff.1 e).1];exact h d (List.mem_of_getElem? e)
def aDm {α:Type} (key:α->Int) (l:List α) (s:α):List α:=match l with
 | []=>[s]
 | x::r=>if key s<key x then s::x::r else x::aDm key r s
theorem aG3:∀ {l:List Sm} {s:Sm},insS l s=aDm (·.id) l s
 | [],_=>rfl
 | x::r,s=>by unfold insS aDm;rw [aG3]
theorem aG7:∀ {l:List Pg} {g:Pg},insG l g=aDm (·.num) l g
 | [],_=>rfl
 | x::r,s=>by unfold insG aDm;rw [aG7]
theorem xW {α:Type} {key:α->Int} {s:α}:∀ {l:List α},(∀ x ∈ l,key x≠key s)->wthL key s true l=l
 | [],_=>rfl
 | x::r,h=>by
  unfold wthL;rw [if_pos rfl,if_neg (h x (by simp)),Bool.true_or,xW λy c=>h y (by simp [c])];rfl
theorem aAQ {α:Type} {key:α->Int} {s:α}:∀ {l:List α},(l.map key).Pairwise (· < ·)->(∀ x ∈ l,key x≠key s)->wthL key s false l=aDm key l s
 | [],_,_=>rfl
 | x::r,h,hn=>by
  rw [List.map_cons,List.pairwise_cons] at h;have e:=hn x (by simp);unfold wthL aDm;by_cases g:key s<key x
  .rw [if_pos g,if_neg (by simp),if_pos (by omega),if_neg e,decide_eq_true (show key x>=key s by omega),Bool.or_true,xW λy c=>hn y (by simp [c])];rfl
  .rw [if_neg g,if_neg (by simp),if_neg (by omega),if_neg e,decide_eq_false (show ¬ key x>=key s by omega),Bool.or_false,aAQ h.2 λy c=>hn y (by simp [c])];rfl
theorem aA3 {α:Type} {key:α->Int} {s:α}:∀ {l:List α},(l.map key).Pairwise (· < ·)->(∃ x ∈ l,key x=key s)->wthL key s false l=l.map λx=>if key x=key s then s else x
 | [],_,⟨x,n,_⟩=>by cases n
 | x::r,h,⟨y,hy,e⟩=>by
  rw [List.map_cons,List.pairwise_cons] at h;have c:∀ z ∈ r,key x<key z:=λz f=>h.1 _ (List.mem_map_of_mem f);unfold wthL;rw [List.map_cons];by_cases g:key x=key s
  .have m:∀ z ∈ r,key z≠key s:=λz f=>by have:=c z f;omega
   rw [if_neg (by simp),if_pos (by omega),if_pos g,if_pos g,decide_eq_true (show key x>=key s by omega),Bool.or_true,xW m]
   have:r.map (λx=>if key x=key s then s else x)=r:=by
    conv=>rhs;rw [<-List.map_id r]
    exact List.map_congr_left λz f=>by rw [if_neg (m z f)];rfl
   rw [this];rfl
  .have j:y ∈ r:=by grind
   have k:¬ key x>=key s:=by have:=c y j;omega
   rw [if_neg (by simp),if_neg k,if_neg g,if_neg g,decide_eq_false k,Bool.or_false,aA3 h.2 ⟨y,j,e⟩];rfl
theorem fH (h:(M.sps.map (·.id)).Pairwise (· < ·)) (e:findS M id=some s) (f:t.id=id):wthL (·.id) t false M.sps=putS M.sps t:=by
 have hs:=List.mem_of_find?_eq_some e;have c:s.id=id:=by have:=List.find?_some e;simpa using this
 rw [aA3 h ⟨s,hs,by rw [c,f]⟩];unfold putS;refine List.map_congr_left λz _=>?_;by_cases g:z.id=t.id
 .simp_all
 .simp_all
theorem aBO (h:(M.sps.map (·.id)).Pairwise (· < ·)) (c:findS M id=none) (e:t.id=id):wthL (·.id) t false M.sps=insS M.sps t:=by
 rw [aG3];refine aAQ h λx f=>?_;unfold findS at c;rw [List.find?_eq_none] at c;have:=c x f;rw [e];simpa using this
theorem uL (h:(nums s).Pairwise (· < ·)) (c:pgAt s p=none) {k n:Int}:wthL (·.num) ⟨p,k,n⟩ false s.pgs=insG s.pgs ⟨p,k,n⟩:=by
 rw [aG7];refine aAQ h λx f e=>?_;exact iB.1 c (List.mem_map.2 ⟨x,f,e⟩)
theorem aBw (h:(nums s).Pairwise (· < ·)) (c:pgAt s p=some g) {d:Int}:wthL (·.num) ⟨g.num,g.key,g.lent+d⟩ false s.pgs=s.pgs.map (bumpG p d):=by
 obtain ⟨f,j⟩:=aL c;rw [aA3 (s:=⟨g.num,g.key,g.lent+d⟩) h ⟨g,f,rfl⟩];refine List.map_congr_left λz k=>?_;unfold bumpG;by_cases e:z.num=p
 .rw [if_pos (by rw [e,j]),if_pos e];have:=bR h k;rw [e,c] at this;cases this;rfl
 .simp_all
theorem aBV:∀ ps:List Int,tabsN ps<=1+3*ps.length
 | []=>by simp [tabsN]
 | p::r=>by
  have:=aBV r;have:=aGG (ps:=r) (p:=p);simp only [tabsN,List.length_cons];omega
theorem iT:costS s<=1+4*s.pgs.length:=by
 have c:=aBV (nums s);have e:(ownP s).length<=s.pgs.length:=List.length_filter_le _ _;have f:(nums s).length=s.pgs.length:=by unfold nums;simp
 unfold costS;omega
structure mI (B:AH) (sp bx:Sl) (keys:Int) (M:Mm):Prop where
 sps:SpsR B sp M.sps
 bxs:RdF B bx 4 (bxC (bxs M.ns))
 keys:keys=M.keys
theorem mI.mono (h:mI B sp bx keys M) (u:eU B B'):mI B' sp bx keys M:=⟨h.sps.mono u,h.bxs.mono u,h.keys⟩
structure Few (n:Nat) (M:Mm):Prop where
 sps:M.sps.length<=n
 pgs:∀ s ∈ M.sps,s.pgs.length<=n
 keys:M.keys<=n
 all:allN M.ns
theorem aU (h:findS M id=some s):s ∈ M.sps/\s.id=id:=⟨List.mem_of_find?_eq_some h,by have:=List.find?_some h;simpa using this⟩
theorem aJL {L:List Reg} {r:Reg} {n:Int} (hs:srtR L) (c:r ∈ L) (e:r.a<=n) (f:n<r.b):lookR L n=some (attrR r):=by
 induction L with
 | nil=>cases c
 | cons y L ih=>
  rw [bE];rcases List.mem_cons.1 c with rfl | c
  .simp_all
  .have:=hs.2.1 r c;rw [if_neg (by omega)];exact ih hs.2.2 c
theorem aFc (k:bA M) (hs:s ∈ M.sps) (D:p<q):gW s p q=s.pgs.any λg=>inZ p q g.num&&(decide (g.lent > 0) || kdR s.regs g.num==1):=by
 have E:∀ g ∈ s.pgs,g.lent≠0->g.lent > 0:=λg m F=>by
  by_cases e:kdR s.regs g.num=0
  .have:=k.lent s hs g (cJ.2 ⟨m,e⟩);omega
  .obtain ⟨y,w⟩:∃ y,lookR s.regs g.num=some y:=Option.ne_none_iff_exists'.1 (k.reg s hs g m)
   have G:y.2.2.2=1:=by
    rcases k.kind s hs g.num y w with c | c
    .exact absurd (by unfold kdR;rw [w];exact c) e
    .exact c
   obtain ⟨z,H,I,J⟩:=k.bor s hs g.num y w G;have j:=bR (k.pgs s hs) m;have f:=bR (k.pgs s hs) H;rw [I,j] at f;cases f;exact absurd J F
 rw [Bool.eq_iff_iff];unfold gW regBusy;rw [Bool.or_eq_true,List.any_eq_true,List.any_eq_true,List.any_eq_true];constructor
 .rintro (⟨g,m,h⟩ | ⟨r,C,h⟩)
  .grind
  .rw [Bool.and_eq_true,Bool.and_eq_true,decide_eq_true_eq,decide_eq_true_eq] at h;obtain ⟨j,f,R⟩:=h;have j:r.k=1:=by simpa using j
   have o:=(bJ.1 (k.good s hs)).2.1;have K:=srt_mem o r C;obtain ⟨n,S,T,N,O⟩:∃ n:Int,p<=n/\n<q/\r.a<=n/\n<r.b:=⟨if p<=r.a then r.a else p,by split<;>omega,by split<;>omega,by split<;>omega,by split<;>omega⟩;have u:=aJL o C N O;obtain ⟨g,P,Q,U⟩:=k.bor s hs n _ u j;refine ⟨g,P,?_⟩;have:kdR s.regs g.num=1:=by unfold kdR;rw [Q,u];exact j
   rw [this];have:inZ p q g.num=true:=by unfold inZ;rw [decide_eq_true (by omega),decide_eq_true (by omega)];rfl
   rw [this];simp
 .rintro ⟨g,m,h⟩;rw [Bool.and_eq_true,Bool.or_eq_true,decide_eq_true_eq] at h;obtain ⟨j,f | f⟩:=h
  .grind
  .have f:kdR s.regs g.num=1:=by simpa using f
   unfold kdR lookR at f;cases e:findR s.regs g.num with
   | none=>rw [e] at f;cases f
   | some r=>
    rw [e] at f;have f:r.k=1:=f;have A:=List.find?_some e;simp only [Bool.and_eq_true,decide_eq_true_eq] at A;unfold inZ at j;simp only [Bool.and_eq_true,decide_eq_true_eq] at j;refine .inr ⟨r,List.mem_of_find?_eq_some e,?_⟩;rw [f,decide_eq_true (by omega),decide_eq_true (by omega)];rfl
end Go.Dn
namespace Go.Dn
variable {A B B':AH} {R:List SP} {sp bx:Sl} {x:Sx} {s t:Sm} {g:Pg} {keys id box p q a:Int} {v i n:Nat} {M:Mm} {ns:List Nd} {d:Nd} {e:Int}
theorem sH {id box:Int} {Q:Bool->AH->Prop} (h:Own (Fz B::R) A) (C:qJ B x s) (V:s.pgs.length<=100000) (J:s.regs.length<=1000)
  (o:Q (s.pgs.any λg=>inZ p q g.num&&(decide (g.lent > 0) || kdR s.regs g.num==1)) A):qdf_A id box x.rs x.ps p q Q A:=by
 have W:=cZ (f:=Pg.cells) nD (by decide) (k:=0) h rfl C.ps.rd;unfold qdf_A qdf_G;obtain ⟨f,G⟩:∃ f:Pg->Bool,f=λg=>inZ p q g.num&&(decide (g.lent > 0) || kdR s.regs g.num==1):=⟨_,rfl⟩
 rw [<-G] at o;refine ⟨λz m K=>∃ v:Nat,z=v/\m+v=s.pgs.length/\K=A/\s.pgs.any f=(s.pgs.drop v).any f,⟨s.pgs.length,0,rfl,rfl,rfl,rfl⟩,?_⟩;intro z m j ⟨v,e1,X,L,r⟩;subst e1 L;refine bsel_in (λc=>?_) λc=>?_
 .have c:(v:Int)<x.ps.len:=of_decide_eq_true c;obtain ⟨y,H⟩:∃ y,s.pgs[v]? = some y:=⟨s.pgs[v]'(by omega),by simp⟩;rw [jR H,List.any_cons] at r;obtain ⟨a,N,O⟩:=aAt (k:=0) h rfl C.ps.rd H;rw [N];refine inB_in (by omega) c (O _ ?_);have nx:f y=false->∃ l,l<m/\∃ b:Nat,IntKind.wrap .i64 ((v:Int)+1)=b/\l+b=s.pgs.length/\j=j/\s.pgs.any f=(s.pgs.drop b).any f:=λw=>⟨m-1,by omega,v+1,by rw [w64]<;>omega,by omega,rfl,by rw [r,w,Bool.false_or]⟩;have u:f y=true->Q true j:=λw=>by rw [r,w,Bool.true_or] at o;exact o
  have D:f y=(decide (p<=y.num)&&decide (y.num<q)&&(decide (y.lent > 0) || kdR s.regs y.num==1)):=by rw [G];rfl
  have I:∀ kk:Int,kdR s.regs y.num=kk->bsel (decide (y.num>=p)) (bsel (decide (y.num<q)) (bsel (decide (y.lent > 0)) (Q true j) (bsel (kk==1) (Q true j) (∃ l,l<m/\∃ b:Nat,IntKind.wrap .i64 ((v:Int)+1)=b/\l+b=s.pgs.length/\j=j/\s.pgs.any f=(s.pgs.drop b).any f)))
    (∃ l,l<m/\∃ b:Nat,IntKind.wrap .i64 ((v:Int)+1)=b/\l+b=s.pgs.length/\j=j/\s.pgs.any f=(s.pgs.drop b).any f)) (∃ l,l<m/\∃ b:Nat,IntKind.wrap .i64 ((v:Int)+1)=b/\l+b=s.pgs.length/\j=j/\s.pgs.any f=(s.pgs.drop b).any f):=λkk E=>by
   rw [E] at D;have F:decide (y.num>=p)=decide (p<=y.num):=rfl;rw [F];refine bsel_in (λP=>bsel_in (λS=>bsel_in (λT=>u (by simp_all)) λT=>bsel_in (λU=>u (by simp_all)) λU=>nx (by simp_all)) λS=>nx (by simp_all)) λP=>nx (by simp_all)
  refine fN (k:=0) h rfl C.rs.rd (by omega) (λw=>I 0 (vL.1 w)) λz w=>I z.k (vL.2 z w)
 .have c:¬(v:Int)<x.ps.len:=of_decide_eq_false c;rw [List.drop_eq_nil_of_le (by omega)] at r;rw [r] at o;exact o
def kE (M:Mm) (id:Int):Int:=match findS M id with | none=>0 | some t=>costS t
theorem aJF {n:Nat} (b:Few n M):0<=kE M id/\kE M id<=1+4*n:=by
 unfold kE;cases e:findS M id with
 | none=>simp only;omega
 | some t=>
  have c:=iT (s:=t);have f:=b.pgs t (aU e).1;have h:=cE (s:=t);simp only;omega
theorem wI (b:bA M) (hs:s ∈ M.sps):s.regs.length<=64:=lB (b.good s hs)
theorem mC {Q:Sl->Sl->Int->Int->AH->Prop} (h:Own (Fz B::R) A) (E:mI B sp bx keys M) (L:bA M) (F:Few n M) (hn:n<=1000) (m:qJ B x s) (hb:s.pgs.length<=n+1) (G:s.regs.length<=1000) (hs:(nums s).Pairwise (· < ·))
  (P:0<=box->box=(s.box:Int)) (h5:∀ b,¬ (0<=box/\liveN M.ns box.toNat=true)->Own (Fz B::R) b->Q sp bx keys 5 b)
  (h8:∀ b,0<=box->liveN M.ns s.box=true->roomN M.ns s.box<costS s-kE M s.id->Own (Fz B::R) b->Q sp bx keys 8 b)
  (hk:∀ c f B' b,0<=box->liveN M.ns s.box=true->¬ roomN M.ns s.box<costS s-kE M s.id->eU B B'->SpsR B' c (wthL (·.id) s false M.sps)->RdF B' f 4 (bxC (bxs (addU M.ns s.box (costS s-kE M s.id))))->Own (Fz B'::R) b->Q c f keys 0 b) :
  qck_A sp bx keys x.id box x.rs x.ps Q A:=by
 have o:=sQ L.tree;have hcs:=iT (s:=s);have hcp:=cE (s:=s);have hw:=aJF (id:=s.id) F;have hsl:=F.sps;unfold qck_A qck_G
 -- behind the costs
 have S:∀ r,Own (Fz B::R) r->qcf_A bx box (λ_ _ _ _ T H=>bsel (!T) (Q sp bx keys (5:Int) H) (qch_A bx box (λU I=>bsel (decide (costS s-kE M s.id > U)) (Q sp bx keys (8:Int) I)
   (qci_A sp bx keys x.id box x.rs x.ps (λV _ W X=>qcj_A bx box (costS s-kE M s.id) (λY Z=>Q V Y W (0:Int) Z) X) I)) H)) r:=λr j=>by
  refine jM (k:=0) j rfl E.bxs.rd (by have:=o.len;omega) (λg=>aG rfl (h5 r (λz=>?_) j)) λbb g=>bsel_f rfl ?_
  .obtain ⟨z1,z2⟩:=z;have e:box=((box.toNat:Nat):Int):=by omega
   rw [e,vQ] at g;unfold liveN at z2;cases e2:M.ns[box.toNat]? with
   | none=>rw [e2] at z2;cases z2
   | some d=>rw [e2] at g;cases g
  .have u:0<=box:=by
    rcases Int.lt_or_le box 0 with w | w
    .rw [aBp (.inl w)] at g;cases g
    .exact w
   have C:=P u
   obtain ⟨d,N⟩:∃ d,M.ns[s.box]? = some d:=by
    rw [C,vQ] at g;cases e:M.ns[s.box]? with
    | none=>rw [e] at g;cases g
    | some d=>exact ⟨d,rfl⟩
   have J:liveN M.ns s.box=true:=by unfold liveN;rw [N];exact F.all d (List.mem_of_getElem? N)
   have hro:uV (bxs M.ns) box=roomN M.ns s.box:=by rw [C,aCY L.tree F.all N];unfold roomN;rw [N]
   refine vA (k:=0) j rfl E.bxs.rd o ?_;rw [hro];refine bsel_in (λw=>h8 r u J (by simp_all) j) λw=>?_;have w:¬ costS s-kE M s.id > roomN M.ns s.box:=of_decide_eq_false w;rw [C,<- m.box];refine gP j E.sps m (by omega) λc B1 O u1 hsp h2=>?_;refine lY h2 (E.bxs.mono u1) o (by omega) λf B2 A3 u2 l h3=>?_;rw [m.box,wJ] at l;exact hk c f B2 A3 u J (by omega) (u1.trans u2) (hsp.mono u2) l h3
 refine fP h E.sps (by omega) (λg=>?_) λy t g hy=>?_
 .have K:kE M s.id=0:=by
   have g:findS M s.id=none:=by unfold findS;rw [<-m.id];exact g
   unfold kE;rw [g]
  refine cU h m (by omega) G hs λr j=>?_;refine ⟨λz b=>z=costS s-kE M s.id/\Own (Fz B::R) b,λz O ⟨f1,f2⟩=>?_,bsel_f rfl ⟨by omega,j⟩⟩;subst f1;exact S O f2
 .have g:findS M s.id=some t:=by unfold findS;rw [<-m.id];exact g
  have K:kE M s.id=costS t:=by unfold kE;rw [g]
  have D:=(aU g).1;refine cU h m (by omega) G hs λr j=>?_;refine ⟨λz b=>z=costS s-kE M s.id/\Own (Fz B::R) b,λz O ⟨f1,f2⟩=>?_,aG rfl ?_⟩
  .simp_all
  .refine cU j hy (by have:=F.pgs t D;omega) (by have:=wI L D;omega) (L.pgs t D) λO h2=>⟨?_,h2⟩;rw [<-K];exact w64 (by omega) (by omega)
def jK (M:Mm) (id box:Int):Mm × Int:=if id<0 then (M,1) else if (findS M id).isSome=true then (M,6) else if 0<=box/\liveN M.ns box.toNat=true then (if roomN M.ns box.toNat<1 then (M,8) else ({ M with sps:=insS M.sps (newS id box.toNat),ns:=addU M.ns box.toNat 1 },0)) else (M,5)
theorem aBE {Q:Sl->Sl->Int->Int->AH->Prop} (h:Own (Fz B::R) A) (r:mI B sp bx keys M) (G:bA M) (H:Few n M) (K:n<=1000)
  (I:∀ c f b B' l,eU B B'->mI B' c f b (jK M id box).1->Own (Fz B'::R) l->Q c f b (jK M id box).2 l):qcl_A sp bx keys id box Q A:=by
 have same:∀ e,jK M id box=(M,e)->∀ l,Own (Fz B::R) l->Q sp bx keys e l:=λe L l h'=>by
  have:=I sp bx keys B l (eU.refl B);rw [L] at this;exact this r h'
 unfold qcl_A qcl_G;refine bsel_in (λg=>?_) λg=>?_
 .have g:=of_decide_eq_true g;exact same 1 (by unfold jK;rw [if_pos g]) A h
 have g:¬ id<0:=of_decide_eq_false g;refine fP h r.sps (by have:=H.sps;omega) (λw=>?_) λy t w O=>?_
 .have w:findS M id=none:=w;have j:kE M (newS id box.toNat).id=0:=by unfold kE;rw [show (newS id box.toNat).id=id from rfl,w]
  have J:jK M id box=if 0<=box/\liveN M.ns box.toNat=true then (if roomN M.ns box.toNat<1 then (M,8) else ({ M with sps:=insS M.sps (newS id box.toNat),ns:=addU M.ns box.toNat 1 },0)) else (M,5):=by unfold jK;rw [if_neg g,w,if_neg (by simp)]
  refine bsel_f rfl (mC (x:=⟨id,box.toNat,Sl.nil,Sl.nil⟩) (s:=newS id box.toNat) h r G H K ⟨rfl,rfl,RdF.none,RdF.none⟩ (by simp [newS]) (by simp [newS]) List.Pairwise.nil (λw=>(Int.toNat_of_nonneg w).symm) (λu z C=>?_) (λu D E k C=>?_) λc f B' u D E k N m o C=>?_)
  .simp_all
  .rw [j] at k;exact same 8 (by rw [J,if_pos ⟨D,E⟩,if_pos (by rw [aCx] at k;exact k)]) u C
  .rw [j,aCx,Int.sub_zero] at k o;have k:¬ roomN M.ns box.toNat<1:=k;have F:jK M id box=({ M with sps:=insS M.sps (newS id box.toNat),ns:=addU M.ns box.toNat 1 },0):=by rw [J,if_pos ⟨D,E⟩,if_neg k]
   have:=I c f keys B' u N;rw [F] at this;refine this ⟨?_,o,r.keys⟩ C;rw [aBO G.srt w rfl] at m;exact m
 .have w:findS M id=some t:=w;exact aG rfl (same 6 (by unfold jK;rw [if_neg g,w,if_pos (show (some t).isSome=true from rfl)]) A h)
theorem yU {aw au af:Bool} {Q:Int->AH->Prop} (f:Q (gX aw au af) A):qfa_A aw au af Q A:=by
 unfold qfa_A;refine ⟨λx b=>x=(if aw then 2 else 0)/\b=A,λx h ⟨e1,c⟩=>?_,by cases aw<;>exact ⟨rfl,rfl⟩⟩;subst e1 c;refine ⟨λx b=>x=(if aw then 2 else 0)+(if au then 4 else 0)/\b=h,λx j ⟨e1,c⟩=>?_,by cases aw<;>cases au<;>exact ⟨by decide,rfl⟩⟩;subst e1 c;refine ⟨λx b=>x=gX aw au af/\b=j,λx k ⟨e1,c⟩=>?_,by cases aw<;>cases au<;>cases af<;>exact ⟨by decide,rfl⟩⟩;subst e1 c;exact f
theorem aIP {w u b aw au af:Bool} {Q:Bool->AH->Prop} (c:Q (mayZ w u b aw au af) A):qfc_A w u b aw au af Q A:=by
 unfold qfc_A;cases w<;>cases u<;>cases b<;>cases aw<;>cases au<;>cases af<;>exact c
set_option maxHeartbeats 1000000 in
theorem pD {aw au af:Bool} {Q:Sl->Sl->Int->Int->Int->Int->AH->Prop} (h:Own (Fz B::R) A) (I:mI B sp bx keys M) (T:bA M) (hF:Few n M) (hn:n<=1000)
  (hk:∀ b f m B' J,eU B B'->mI B' b f m (touchM M id p aw au af).1->Own (Fz B'::R) J->Q b f m (touchM M id p aw au af).2.1 (touchM M id p aw au af).2.2.1 (touchM M id p aw au af).2.2.2 J):qfe_A sp bx keys id p aw au af Q A:=by
 have same:∀ k c e,touchM M id p aw au af=(M,k,c,e)->∀ J,Own (Fz B::R) J->Q sp bx keys k c e J:=λk c e he J h'=>by
  have:=hk sp bx keys B J (eU.refl B);rw [he] at this;exact this I h'
 have hky:=hF.keys;have hk0:=T.keys0;unfold qfe_A qfe_G;refine fP h I.sps (by have:=hF.sps;omega) (λw=>?_) λy s w X=>?_
 .have w:findS M id=none:=w;exact aG rfl (same 0 0 5 (by unfold touchM;rw [w]) A h)
 have w:findS M id=some s:=w;have j:=aU w;have hsp:=hF.pgs s j.1;have hrl:=wI T j.1;refine bsel_f rfl ?_;refine fN (k:=0) h rfl X.rs.rd (by omega) (λY=>aG rfl (yU ?_)) λr Y=>bsel_f rfl ?_
 .exact same 0 _ 9 (by unfold touchM;rw [w];simp only;rw [show lookR s.regs p=none by unfold lookR;rw [Y];rfl]) A h
 have Y:lookR s.regs p=some (attrR r):=by unfold lookR;rw [Y];rfl
 have u:touchM M id p aw au af=if mayZ r.w r.u r.x aw au af=false then ((M,0,gX aw au af+(if (pgAt s p).isNone then 0 else 1),9):Mm × Int × Int × Int)
   else match pgAt s p with
    | some g=>(M,g.key,0,0)
    | none=>if roomN M.ns s.box<costS (addP s p (M.keys+1))-costS s then (M,0,0,8)
     else ({ payM M s (addP s p (M.keys+1)) with keys:=M.keys+1 },M.keys+1,0,0):=by unfold touchM;rw [w];simp only;rw [Y];rfl
 -- the page, in a block of its own
 have pg:∀ {K:Int->Int->Int->Bool->AH->Prop},(∀ (o:Option Pg),pgAt s p=o->K (o.elim 0 (·.num)) (o.elim 0 (·.key)) (o.elim 0 (·.lent)) o.isSome A)->qfb_A y.id y.box y.rs y.ps p K A:=λU=>rS h X.ps (by omega) (λg=>U none g) λz g=>U (some z) g;refine pg λo ho=>?_;refine aT (cs:=[.int .i64 0,.int .i64 0,.int .i64 0]) h λZ A1 h1=>?_;refine bU (i:=0) h1 rfl rfl rfl λA2 h2=>?_;rw [add_at];refine bU (i:=0) h2 rfl rfl rfl λA3 h3=>?_;rw [add_at];refine bU (i:=0) h3 rfl rfl rfl λV L=>?_;have L:Own (At Z [.int .i64 (o.elim 0 (·.num)),.int .i64 (o.elim 0 (·.key)),.int .i64 (o.elim 0 (·.lent))]::Fz B::R) V:=L;refine aIP ?_;refine bsel_in (λg=>?_) λg=>?_
 .have g:mayZ r.w r.u r.x aw au af=false:=by simpa using g
  rw [if_pos g,ho] at u;cases o with
  | none=>exact bsel_f rfl (yU (same 0 _ 9 (by simp_all) V L.tail))
  | some z=>
   refine aG rfl (yU ?_);have hc:0<=gX aw au af/\gX aw au af<=22:=by cases aw<;>cases au<;>cases af<;>simp [gX]
   rw [w64 (by omega) (by omega)];exact same 0 _ 9 (by simp_all) V L.tail
 have g:mayZ r.w r.u r.x aw au af=true:=by simpa using g
 rw [if_neg (by simp_all),ho] at u;cases o with
 | some z=>
  refine aG rfl ?_;have W:∀ {K:Int->Prop},K z.key->aI .i64 (⟨Z,0+1,none⟩:Addr) V K:=λU=>bQ (i:=0) L rfl rfl U;exact W ⟨W rfl,same z.key 0 0 u V L.tail⟩
 | none=>
  refine bsel_f rfl ?_;have u:touchM M id p aw au af=if roomN M.ns s.box<costS (addP s p (M.keys+1))-costS s then (M,0,0,8) else ({ payM M s (addP s p (M.keys+1)) with keys:=M.keys+1 },M.keys+1,0,0):=u
  have h5:Own (Fz B::R) V:=L.tail;rw [I.keys,w64 (n:=M.keys+1) (by omega) (by omega)];have E:=T.pgs s j.1;refine l9 h5 X (by omega) λps' B1 A5 u1 C h6=>?_;rw [uL E ho] at C;have C:qJ B1 { y with ps:=ps' } (addP s p (M.keys+1)):=C
  have hpl:(addP s p (M.keys+1)).pgs.length=s.pgs.length+1:=by
   have:=(insG_perm (g:=⟨p,M.keys+1,0⟩) s.pgs).length_eq;exact this
  have F:kE M (addP s p (M.keys+1)).id=costS s:=by unfold kE;rw [show (addP s p (M.keys+1)).id=id from j.2,w]
  have hlv:=T.live s j.1;have hm1:=I.mono u1;rw [I.keys] at hm1;refine mC (x:=⟨y.id,y.box,y.rs,ps'⟩) (s:=addP s p (M.keys+1)) (box:=y.box) h6 hm1 T hF hn C (by omega) (by show s.regs.length<=1000;omega) (mW E ho) (λ_=>X.box) (λA6 z _=>?_) (λA6 z1 z2 D h7=>?_) λb f B2 A6 z1 z2 D u2 G H h7=>?_
  .exfalso;apply z;rw [X.box];exact ⟨by omega,by rw [Int.toNat_natCast];exact hlv⟩
  .rw [F] at D;have D:roomN M.ns s.box<costS (addP s p (M.keys+1))-costS s:=D;rw [if_pos D] at u;refine aT (cs:=[.slice none 0 0,.slice none 0 0,.int .i64 0]) h7 λN A7 h8=>?_;refine bU (i:=0) h8 rfl rfl rfl λA8 h9=>?_;rw [add_at];refine bU (i:=0) h9 rfl rfl rfl λA9 O=>?_;rw [add_at];refine bU (i:=0) O rfl rfl rfl λA10 P=>aG rfl ?_;have:=hk sp bx keys B1 A10 u1;rw [u] at this;have:=this (I.mono u1) P.tail;rw [I.keys] at this;exact this
  .rw [F] at D H;have D:¬ roomN M.ns s.box<costS (addP s p (M.keys+1))-costS s:=D;rw [if_neg D] at u;refine aT (cs:=[.slice none 0 0,.slice none 0 0,.int .i64 0]) h7 λN A7 h8=>?_;refine bU (i:=0) h8 rfl rfl rfl λA8 h9=>?_;rw [add_at];refine bU (i:=0) h9 rfl rfl rfl λA9 O=>?_;rw [add_at];refine bU (i:=0) O rfl rfl rfl λA10 P=>bsel_f rfl ?_;refine bU (i:=0) P rfl rfl rfl λS l=>?_;have l:Own (At N [.slice b.a b.len b.cap,.slice f.a f.len f.cap,.int .i64 (M.keys+1)]::Fz B2::R) S:=l;have W:∀ {K:Int->Prop},K (M.keys+1)->aI .i64 (⟨N,0+2,none⟩:Addr) S K:=λU=>bQ (i:=0) l rfl rfl U;refine ld_S (i:=0) l rfl rfl (ld_S (i:=0) l rfl rfl (W (W ⟨W rfl,?_⟩)));have:=hk b f (M.keys+1) B2 S (u1.trans u2);rw [u] at this;refine this ⟨?_,H,rfl⟩ l.tail;rw [fH (t:=addP s p (M.keys+1)) T.srt w j.2] at G;exact G
end Go.Dn
namespace Go.Dn
variable {A B B':AH} {R:List SP} {l:List Sm} {L:List Pg} {sp bx:Sl} {x:Sx} {s t t':Sm} {g:Pg} {keys id box p q a b:Int} {v n how:Nat} {M:Mm} {ns:List Nd} {e:Int} {pw pu px:Bool}
theorem qS {o:Sl} {id box:Int} {Q:Int->Int->Int->Bool->AH->Prop} (h:Own (Fz B::R) A) (c:qJ B x s) (d:s.pgs.length<=1000000) (hQ:∀ (o:Option Pg),pgAt s p=o->Q (o.elim 0 (·.num)) (o.elim 0 (·.key)) (o.elim 0 (·.lent)) o.isSome A):qfb_A id box o x.ps p Q A:=
 rS h c.ps d (λg=>hQ none g) λz g=>hQ (some z) g
theorem aDv {Q:Int->Int->Bool->Bool->Bool->Int->Bool->AH->Prop} (h:Own (Fz B::R) A) (d:qJ B x s) (j:s.regs.length<=1000) (hQ:∀ (f i:Int) (w u c:Bool) (k:Int) (ok:Bool),lookR s.regs p=(if ok then some (w,u,c,k) else none)->Q f i w u c k ok A):qcd_A x.rs p Q A:=
 fN (k:=0) h rfl d.rs.rd (by omega) (λg=>hQ _ _ _ _ _ _ false (by unfold lookR;rw [g];rfl)) λy g=>hQ _ _ _ _ _ _ true (by unfold lookR;rw [g];rfl)
def no0:Sm:=⟨0,0,[],[]⟩
theorem nM {Q:Int->Int->Sl->Sl->Bool->AH->Prop} (h:Own (Fz B::R) A) (d:mI B sp bx keys M) (f:bA M) (c:Few n M) (j:n<=1000) (hQ:∀ (o:Option Sm) (x:Sx),findS M id=o->qJ B x (o.getD no0)->(o.getD no0).regs.length<=64->(o.getD no0).pgs.length<=n->Q x.id x.box x.rs x.ps o.isSome A):qca_A sp bx keys id Q A:=
 fP h d.sps (by have:=c.sps;omega) (λg=>hQ none ⟨0,0,Sl.nil,Sl.nil⟩ g ⟨rfl,rfl,RdF.none,RdF.none⟩ (by simp [no0]) (by simp [no0])) λx s g i=>hQ (some s) x g i (wI f (aU g).1) (c.pgs s (aU g).1)
theorem aJ3:pgAt no0 p=none:=rfl
theorem sN {j:Bool} {Q:Int->AH->Prop} (h:Own (Fz B::R) A) (E:mI B sp bx keys M) (r:bA M) (F:Few n M) (G:n<=1000) (f:Q (gD M id p j) A):qfg_A sp bx keys id p j Q A:=by
 unfold qfg_A qfg_G;refine nM h E r F G λo y C D H I=>aDv h D (by omega) λK N w u O k ok i=>qS h D (by omega) λJ d=>?_;unfold gD at f;rw [C] at f;cases o with
 | none=>
  rw [show (none:Option Sm).getD no0=no0 from rfl,aJ3] at d;subst d;exact aG rfl f
 | some s=>
  have m:=aU C;rw [show (some s).getD no0=s from rfl] at d i;simp only at f;rw [d,i] at f;cases J with
  | none=>exact aG rfl (by simp_all)
  | some z=>
   refine bsel_f rfl ?_;cases ok with
   | false=>exact absurd i (by have:=r.reg s m.1 z (aL d).1;rw [(aL d).2] at this;exact this)
   | true=>
    have f:Q (if k≠0 then 5 else if (j&&!w)=true then 10 else 0) A:=f;refine bsel_in (λc=>?_) λc=>?_
    .simp_all
    .rw [if_neg (by simp_all)] at f;refine bsel_in (λc1=>bsel_in (λc2=>?_) λc2=>?_) λc1=>?_
     .simp_all
     .simp_all
     .simp_all
theorem yK (c:findS M p=some t) (f:t'.id=p):(putS M.sps t').find? (λs=>s.id==id)=if id=p then some t' else findS M id:=by
 unfold putS;rw [List.find?_map];have e:((λs:Sm=>s.id==id) ∘ λx:Sm=>if (x.id==t'.id)=true then t' else x)=λs=>s.id==id:=by grind
 rw [e];show (findS M id).map _=_;by_cases g:id=p
 .subst g;rw [if_pos rfl,c];have:=(aU c).2;simp only [Option.map_some];rw [if_pos (by simp_all)]
 .rw [if_neg g];cases d:findS M id with
  | none=>rfl
  | some z=>
   have:=(aU d).2;simp only [Option.map_some];rw [if_neg (by simp_all)]
theorem aDb (c:t'.id=t.id) (d:findS M p=some t):(putS M.sps t').map (·.id)=M.sps.map (·.id):=by
 unfold putS;rw [List.map_map];refine List.map_congr_left λx _=>?_;simp only [Function.comp];split
 .simp_all
 .rfl
theorem aBx {x:Reg} {how:Int} {C:List Reg} {y:Sx} {Q:Sl->AH->Prop} (h:Own (Fz B::R) A) (d:qJ B y s) (r:goodB s.regs=true) (i:0<=p/\p<q/\q<=34359738368) (u:how=1\/how=2\/how=3) (j:srtR C/\njR C/\∀ n,lookR C n=uO s.regs p q how x n)
  (w:∀ c B' f,eU B B'->qJ B' { y with rs:=c } { s with regs:=C }->Own (Fz B'::R) f->Q c f):qdd_A y.rs p q how x.a x.b x.w x.u x.x x.k Q A:=by
 obtain ⟨J,z,_⟩:=bJ.1 r;refine mQ (k:=0) h rfl d.rs.rd (by omega) z i u λD s' f E F G _ m h'=>?_;have:D=C:=aBo E F j.1 j.2.1 λn=>by rw [G,j.2.2]
 subst this;obtain ⟨B',o,H,I⟩:=h'.frzS λg=>absurd g m;exact w s' B' f o ⟨d.id,d.box,H,d.ps.mono o⟩ I
theorem aD5 {L:List Reg} {y:Reg} (i:goodB L=true) (d:rightB y.a y.b=true) (j:¬ cntZ L y.a y.b > 0):srtR (addL L y)/\njR (addL L y)/\∀ n,lookR (addL L y) n=uO L y.a y.b 1 y n:=by
 obtain ⟨_,f,_⟩:=bJ.1 i;have c:=(dC.1 d).2.1;cases h:atS y L 0 0 with
 | none=>exact absurd ((aBn f c).2 (sJ.1 h)) j
 | some v=>
  obtain ⟨k,m,o⟩:=aJR f d h;refine ⟨k,m,λn=>?_⟩;rw [o];unfold uO;rw [if_pos (rfl:(1:Int)=1)]
theorem aIk {L:List Reg} {x:Reg} (d:goodB L=true) (c:p<q):srtR (cutR L p q)/\njR (cutR L p q)/\∀ n,lookR (cutR L p q) n=uO L p q 2 x n:=by
 obtain ⟨f,h,i⟩:=aKf (bJ.1 d).2.1 c;refine ⟨f,h,λn=>?_⟩;rw [i];unfold uO;rw [if_neg (by decide:¬ (2:Int)=1),if_pos (rfl:(2:Int)=2)]
theorem aJM {L:List Reg} {x:Reg} (d:goodB L=true) (c:p<q):srtR (protR L p q x.w x.u x.x)/\njR (protR L p q x.w x.u x.x)/\∀ n,lookR (protR L p q x.w x.u x.x) n=uO L p q 3 x n:=by
 obtain ⟨f,h,i⟩:=aHC (pw:=x.w) (pu:=x.u) (px:=x.x) (bJ.1 d).2.1 c;refine ⟨f,h,λn=>?_⟩;rw [i];unfold uO;rw [if_neg (by decide:¬ (3:Int)=1),if_neg (by decide:¬ (3:Int)=2),if_pos (rfl:(3:Int)=3)]
def vE (M:Mm) (id a b how:Int) (pw pu px:Bool):Mm × Int:=if how=1 then mapM M id ⟨a,b,pw,pu,px,0⟩ else if how=2 then fA M id a b else iS M id a b pw pu px
theorem iY {how:Int} {Q:Sl->Sl->Int->Int->AH->Prop} (h:Own (Fz B::R) A) (V:mI B sp bx keys M) (P:bA M) (hF:Few n M) (hn:n<=1000) (W:how=1\/how=2\/how=3)
  (hk:∀ r S F B' f,eU B B'->mI B' r S F (vE M id a b how pw pu px).1->Own (Fz B'::R) f->Q r S F (vE M id a b how pw pu px).2 f):qdi_A sp bx keys id a b how pw pu px Q A:=by
 have same:∀ e,vE M id a b how pw pu px=(M,e)->∀ f,Own (Fz B::R) f->Q sp bx keys e f:=λe he f h'=>by
  have:=hk sp bx keys B f (eU.refl B);rw [he] at this;exact this V h'
 unfold qdi_A qdi_G;refine nM h V P hF hn λo y X K hb1 Y=>?_;cases o with
 | none=>
  refine aG rfl (same 5 ?_ A h);unfold vE mapM fA iS;rw [X];rcases W with rfl | rfl | rfl<;>rfl
 | some s=>
 have m:=aU X;have K:qJ B y s:=K;have hb1:s.regs.length<=64:=hb1;have Y:s.pgs.length<=n:=Y;have u:=P.good s m.1;refine bsel_f rfl ?_;obtain ⟨x,hx⟩:∃ x:Reg,x=⟨a,b,pw,pu,px,0⟩:=⟨_,rfl⟩;obtain ⟨C,N⟩:∃ C,C=if how=1 then addL s.regs x else if how=2 then cutR s.regs a b else protR s.regs a b pw pu px:=⟨_,rfl⟩
 have Z:rightB a b=true->(how=1->¬ cntZ s.regs a b > 0)->srtR C/\njR C/\∀ n,lookR C n=uO s.regs a b how x n:=λhr hc=>by
  have G:=(dC.1 hr).2.1;rcases W with rfl | rfl | rfl
  .rw [N,if_pos rfl,hx];exact aD5 (y:=⟨a,b,pw,pu,px,0⟩) u hr (hc rfl)
  .rw [N,if_neg (by decide),if_pos rfl];exact aIk u G
  .rw [N,if_neg (by decide),if_neg (by decide),hx];exact aJM (x:=⟨a,b,pw,pu,px,0⟩) u G
 obtain ⟨E,O⟩:∃ E,E=chE s.regs a b how C:=⟨_,rfl⟩;obtain ⟨T,D⟩:∃ T:Sm,T=if how=2 then { s with regs:=C,pgs:=s.pgs.filter λg=>!inZ a b g.num } else { s with regs:=C }:=⟨_,rfl⟩
 have d:vE M id a b how pw pu px=if E≠0 then (M,E) else if how≠1/\gW s a b=true then (M,11) else (payM M s T,0):=by
  unfold vE;rcases W with rfl | rfl | rfl
  .rw [if_pos rfl];unfold mapM;rw [X];simp only;rw [wA u,O,D,N,hx,if_neg (by decide:¬ (1:Int)=2),if_pos rfl];simp
  .rw [if_neg (by decide),if_pos rfl];unfold fA;rw [X];simp only;rw [aIC u,O,D,N,if_pos rfl,if_neg (by decide:¬ (2:Int)=1),if_pos rfl];simp
  .rw [if_neg (by decide),if_neg (by decide)];unfold iS;rw [X];simp only;rw [aCs u,O,D,N,if_neg (by decide:¬ (3:Int)=2),if_neg (by decide:¬ (3:Int)=1),if_neg (by decide:¬ (3:Int)=2)];simp
 have er:=j8 (A:=A) (L:=s.regs) (p:=a) (q:=b) (how:=how) (x:=x) (C:=C) (k:=0) h rfl K.rs.rd u W Z (Q:=λn7 h8=>n7=E/\Own (Fz B::R) h8) λf h'=>⟨O.symm,h'⟩
 have er2:∀ {Q:Int->AH->Prop},(∀ f,Own (Fz B::R) f->Q E f)->qde_A y.rs a b how a b pw pu px 0 Q A:=λhQ=>by
  have:=j8 (A:=A) (L:=s.regs) (p:=a) (q:=b) (how:=how) (x:=x) (C:=C) (k:=0) h rfl K.rs.rd u W Z λf h'=>by rw [<-O];exact hQ f h'
  rw [hx] at this;exact this
 clear er;refine er2 λA1 i=>?_;refine bsel_in (λc=>?_) λc=>?_
 .have c:E≠0:=by simpa using c
  exact same E (by rw [d,if_pos c]) A1 i
 have c:E=0:=by simpa using c
 rw [if_neg (by simpa using c)] at d
 have hr:rightB a b=true:=by
  rw [O] at c;unfold chE at c;cases g:rightB a b with
  | true=>rfl
  | false=>rw [if_pos g] at c;cases c
 have hcz:how=1->¬ cntZ s.regs a b > 0:=λi h2=>by
  rw [O] at c;unfold chE at c;rw [if_neg (by rw [hr];simp),if_pos ⟨i,h2⟩] at c;cases c
 have hCC:=Z hr hcz;have G:0<=a/\a<b/\b<=34359738368:=by have:=dC.1 hr;omega
 have chg:∀ {B1 A2:AH} {Q:Sl->AH->Prop},Own (Fz B1::R) A2->qJ B1 y s->(∀ j B' f,eU B1 B'->qJ B' { y with rs:=j } { s with regs:=C }->Own (Fz B'::R) f->Q j f)->qdd_A y.rs a b how a b pw pu px 0 Q A2:=λh2 hy2 hQ=>by
  have:=aBx (x:=x) h2 hy2 u G W hCC hQ;rw [hx] at this;exact this
 refine ⟨λ_ _ _ f=>¬ (how≠1/\gW s a b=true)/\Own (Fz B::R) f,λ_ _ _ A2 ⟨nb,h2⟩=>?_,?_⟩
 .rw [if_neg nb] at d;refine bsel_in (λg=>?_) λg=>?_
  .have g:how=2:=by simpa using g
   rw [if_pos g] at D;refine mF (p:=a) (q:=b) h2 K (by omega) λps' B1 A3 u1 hy3 h3=>?_;refine chg h3 (K.mono u1) λj B2 A4 U H h4=>?_
   have hyT:qJ B2 ⟨y.id,y.box,j,ps'⟩ T:=by
    rw [D];exact ⟨H.id,H.box,H.rs,hy3.ps.mono U⟩
   have I:T.id=id:=by rw [D];exact m.2
   have hTp:T.pgs.length<=n:=by rw [D];exact Nat.le_trans (List.length_filter_le _ _) Y
   have hTs:(nums T).Pairwise (· < ·):=by
    rw [D];have:=P.pgs s m.1;unfold nums at this ⊢;exact this.sublist (List.filter_sublist.map _)
   have hTl:T.regs.length<=1000:=by
    rw [D];show C.length<=1000;rw [O,chE,if_neg (by rw [hr];simp),if_neg (λz=>by rw [g] at z;exact absurd z.1 (by decide)),if_neg (λz=>by rw [g] at z;exact absurd z.1 (by decide))] at c;split at c
    .cases c
    .omega
   have k1:=iT (s:=s);have k2:=iT (s:=T);have k3:=cE (s:=s);have k4:=cE (s:=T);unfold qdh_A qdh_G;refine gP (x:=⟨y.id,y.box,j,ps'⟩) (s:=T) h4 ((V.sps.mono u1).mono U) hyT (by have:=hF.sps;omega) λr B3 A5 u3 J h5=>?_;refine cU (x:=⟨y.id,y.box,j,ps'⟩) h5 (hyT.mono u3) (by omega) hTl hTs λA6 h6=>?_;refine cU h6 (((K.mono u1).mono U).mono u3) (by omega) (by omega) (P.pgs s m.1) λA7 h7=>?_;rw [w64 (n:=costS T-costS s) (by omega) (by omega),K.box];refine lY h7 (((V.bxs.mono u1).mono U).mono u3) (sQ P.tree) (by omega) λS B4 A8 u4 hbx h8=>?_;rw [wJ] at hbx;have:=hk r S keys B4 A8 (((u1.trans U).trans u3).trans u4);rw [d] at this;refine this ⟨?_,hbx,V.keys⟩ h8;rw [fH (t:=T) P.srt X I] at J;exact J.mono u4
  .have g:how≠2:=by simpa using g
   rw [if_neg g] at D;refine chg h2 K λj B2 A4 U H h4=>?_;refine gP (x:={ y with rs:=j }) (s:=T) h4 (V.sps.mono U) (by rw [D];exact H) (by have:=hF.sps;omega) λr B3 A5 u3 J h5=>?_
   have hcost:costS T=costS s:=by
    rw [D];rcases W with i | i | i
    .have he:cG s.regs x=0:=by
      rw [wA u,<- c,O,N,if_pos i,i,hx]
     rw [N,if_pos i]
     exact cost_regs λq hq=>by
      obtain ⟨z,hz,rfl⟩:=List.mem_map.1 hq;exact wK u he (P.reg s m.1 z hz)
    .exact absurd i g
    .have he:eC s.regs a b pw pu px=0:=by
      rw [aCs u,<- c,O,N,if_neg (by rw [i];decide),if_neg g,i]
     rw [N,if_neg (by rw [i];decide),if_neg g];exact oJ u he
   have I:T.id=id:=by rw [D];exact m.2
   have:=hk r bx keys B3 A5 (U.trans u3);rw [d] at this;refine this ⟨?_,?_,V.keys⟩ h5
   .rw [fH P.srt X I] at J;exact J
   .show RdF B3 bx 4 (bxC (bxs (addU M.ns s.box (costS T-costS s))));rw [hcost,Int.sub_self,addU_zero];exact (V.bxs.mono U).mono u3
 .refine bsel_in (λg=>?_) λg=>⟨λz=>z.1 (by simpa using g),i⟩;have g:how≠1:=by simpa using g
  refine sH i K (by omega) (by omega) ?_;rw [<-aFc P m.1 G.2.1];refine bsel_in (λw=>?_) λw=>⟨λz=>by (rw [z.2] at w;cases w),i⟩;exact same 11 (by rw [d,if_pos ⟨g,w⟩]) A1 i
theorem zA {Q:Sl->Sl->Int->Int->AH->Prop} (h:Own (Fz B::R) A) (D:mI B sp bx keys M) (P:bA M) (hF:Few n M) (hn:n<=1000)
  (hk:∀ E r i B' j,eU B B'->mI B' E r i (eD M id).1->Own (Fz B'::R) j->Q E r i (eD M id).2 j):qfr_A sp bx keys id Q A:=by
 have same:∀ e,eD M id=(M,e)->∀ j,Own (Fz B::R) j->Q sp bx keys e j:=λe he j h'=>by
  have:=hk sp bx keys B j (eU.refl B);rw [he] at this;exact this D h'
 unfold qfr_A qfr_G;refine nM h D P hF hn λo y ho F G H=>?_
 have d:eD M id=match (generalizing:=false) o with
  | none=>(M,5)
  | some s=>if gW s 0 34359738368=true then (M,11) else ({ M with sps:=delS M.sps id,ns:=addU M.ns s.box (-costS s) },0):=by subst ho;rfl
 cases o with
 | none=>exact aG rfl (same 5 d A h)
 | some s=>
 have d:eD M id=if gW s 0 34359738368=true then (M,11) else ({ M with sps:=delS M.sps id,ns:=addU M.ns s.box (-costS s) },0):=d
 have I:=aU ho;have F:qJ B y s:=F;have G:s.regs.length<=64:=G;have H:s.pgs.length<=n:=H;refine bsel_f rfl (sH h F (by omega) (by omega) ?_);rw [<-aFc P I.1 (by decide)];refine bsel_in (λw=>same 11 (by rw [d,if_pos w]) A h) λw=>?_;rw [if_neg (by rw [w];simp)] at d;obtain ⟨X,J,hr,hX⟩:=D.sps;have hl:=cZ (f:=λx:Sx × Sm=>x.1.cells) sY (by decide) (k:=0) h rfl hr.rd
 have hXl:X.length<=n:=by
  have:=congrArg List.length J;rw [List.length_map] at this;have:=hF.sps;omega
 refine aT (cs:=[]) h λb9 A1 h1=>?_;obtain ⟨f,T⟩:∃ f:Sx × Sm->Bool,f=λz=>z.2.id != id:=⟨_,rfl⟩;refine ⟨λz o m j=>∃ v:Nat,z=v/\m+v=X.length/\o.a≠none/\Own (SlO o 4 (sxC ((X.take v).filter f))::Fz B::R) j,⟨X.length,0,rfl,rfl,(λg=>nomatch g),h1.slo0⟩,?_⟩;intro z o m A2 ⟨v,e1,e2,u,K⟩;subst e1;refine bsel_in (λc=>?_) λc=>?_
 .have c:(v:Int)<sp.len:=of_decide_eq_true c;obtain ⟨U,C⟩:∃ y,X[v]? = some y:=⟨X[v]'(by omega),by simp⟩;obtain ⟨a,q1,q2⟩:=aE1 (k:=1) K rfl hr.rd C;have N:=hX U (List.mem_of_getElem? C);have hfl:((X.take v).filter f).length<=v:=Nat.le_trans (List.length_filter_le _ _) (by simp;omega);refine ⟨λV j=>V.a≠none/\Own (SlO V 4 (sxC ((X.take (v+1)).filter f))::Fz B::R) j,λV A3 ⟨f1,f2⟩=>⟨m-1,by omega,v+1,by rw [w64]<;>omega,by omega,f1,f2⟩,?_⟩;rw [q1];refine inB_in (by omega) c (q2 _ ?_);rw [dX C,List.filter_append];refine bsel_in (λg=>?_) λg=>?_
  .refine vY (y:=U.1) (s:=U.2) K (λw=>absurd w u) (by omega) λs' A3 W Y=>⟨W,?_⟩;rw [List.filter_cons_of_pos (by rw [T];simp only;rw [<-N.id];exact g)];exact Y
  .rw [List.filter_cons_of_neg (by rw [T];simp only;rw [<-N.id];simpa using g)];exact ⟨u,by simpa using K⟩
 .have c:¬(v:Int)<sp.len:=of_decide_eq_false c;rw [List.take_of_length_le (by omega)] at K;obtain ⟨B1,S,u2,Y⟩:=K.frzS λg=>absurd g u;have k1:=iT (s:=s);have k3:=cE (s:=s);refine cU Y (F.mono S) (by omega) (by omega) (P.pgs s I.1) λA3 h4=>?_;rw [w64 (n:=0-costS s) (by omega) (by omega),F.box,show 0-costS s = -costS s by omega];refine lY h4 (D.bxs.mono S) (sQ P.tree) (by omega) λr B2 A4 Z O h5=>?_;rw [wJ] at O;have:=hk o r keys B2 A4 (S.trans Z);rw [d] at this;refine this ⟨⟨X.filter f,?_,u2.mono Z,λz hz=>((hX z (List.mem_filter.1 hz).1).mono S).mono Z⟩,O,D.keys⟩ h5;show (X.filter f).map (·.2)=delS M.sps id;unfold delS;rw [<-J,List.filter_map,T];rfl
theorem aGP (d:Few n M):(borK M.sps).length<=n*M.sps.length:=by
 have:∀ l:List Sm,(∀ s ∈ l,s.pgs.length<=n)->(borK l).length<=n*l.length:=λl c=>by
  induction l with
  | nil=>simp [borK]
  | cons s r ih=>
   rw [cT,List.length_append,List.length_map,List.length_cons,Nat.mul_succ];have h:=ih λx f=>c x (by simp [f]);have i:(borP s).length<=s.pgs.length:=List.length_filter_le _ _;have j:=c s (by simp);omega
 exact this _ d.pgs
theorem aB0 (d:bA M) (j:Few n M) (k:n<=1000) (hs:s ∈ M.sps) (f:g ∈ s.pgs):0<=g.lent/\g.lent<=1000000:=by
 by_cases e:kdR s.regs g.num=0
 .have m:=d.lent s hs g (cJ.2 ⟨f,e⟩);have h:=List.count_le_length (a:=g.key) (l:=borK M.sps);have w:=aGP j;have C:n*M.sps.length<=1000*1000:=Nat.mul_le_mul k (Nat.le_trans j.sps k);omega
 .obtain ⟨y,i⟩:∃ y,lookR s.regs g.num=some y:=Option.ne_none_iff_exists'.1 (d.reg s hs g f)
  have o:y.2.2.2=1:=by
   rcases d.kind s hs g.num y i with c | c
   .exact absurd (by unfold kdR;rw [i];exact c) e
   .exact c
  obtain ⟨z,r,u,D⟩:=d.bor s hs g.num y i o;have m:=bR (d.pgs s hs) f;have h:=bR (d.pgs s hs) r;rw [u,m] at h;cases h;omega
theorem aEw {M2:Mm} {z:Pg} {k:Int} {Q:Sl->Sl->Int->AH->Prop} (h:Own (Fz B::R) A) (r:mI B sp bx keys M2) (V:M2.sps.length<=1000) (i:(M2.sps.map (·.id)).Pairwise (· < ·)) (j:findS M2 id=some s) (W:s.pgs.length<=1001) (u:(nums s).Pairwise (· < ·)) (X:pgAt s p=some z)
  (Y:∀ d B' P,eU B B'->mI B' d bx keys (bumpM M2 id p k)->Own (Fz B'::R) P->Q d bx keys P) :
  qca_A sp bx keys id (λC D E F _ G=>qfd_A C D E F z.num z.key (z.lent+k) (λH I J K N=>qci_A sp bx keys H I J K Q N) G) A:=by
 refine fP h r.sps (by omega) (λw=>?_) λy s' w Z=>?_
 .have w:findS M2 id=none:=w;rw [j] at w;cases w
 have w:findS M2 id=some s':=w;rw [j] at w;cases w;have m:=aU j;refine l9 h Z (by omega) λo B1 A1 O f h1=>?_;rw [aBw u X] at f;have f:qJ B1 { y with ps:=o } (bumpS p k s):=f;refine gP (x:={ y with ps:=o }) h1 (r.sps.mono O) f (by omega) λd B2 A2 S c h2=>?_;refine Y d B2 A2 (O.trans S) ⟨?_,(r.bxs.mono O).mono S,r.keys⟩ h2;rw [fH (t:=bumpS p k s) i j m.2] at c
 have:putS M2.sps (bumpS p k s)=(bumpM M2 id p k).sps:=by
  unfold putS bumpM;refine List.map_congr_left λx hx=>?_;have e1:(bumpS p k s).id=id:=m.2;rw [e1];by_cases g:x.id=id
  .rw [if_pos (by simpa using g),if_pos (by simpa using g)]
   have:x=s:=by
    have T:findS M2 x.id=some x:=by
     obtain ⟨pre,post,e⟩:=List.append_of_mem hx;unfold findS;rw [e,List.find?_append]
     have:pre.find? (λs=>s.id==x.id)=none:=by
      rw [List.find?_eq_none];intro w hw U;rw [e,List.map_append,List.map_cons,List.pairwise_append] at i;have:=i.2.2 w.id (List.mem_map_of_mem hw) x.id (by simp);have U:w.id=x.id:=by simpa using U
      omega
     rw [this];simp
    rw [g,j] at T;exact (Option.some.inj T).symm
   rw [this]
  .rw [if_neg (by simpa using g),if_neg (by simpa using g)]
 rw [this] at c;exact c
end Go.Dn
namespace Go.Dn
variable {A B B':AH} {R:List SP} {sp bx:Sl} {s t t':Sm} {g z:Pg} {keys id to_ at_ p:Int} {n:Nat} {M:Mm} {pw pu px:Bool}
theorem aA0 {M:Mm} (a:Few n M):(putS M.sps t').length<=n:=by unfold putS;rw [List.length_map];exact a.sps
theorem aAV {Q:Sl->Sl->Int->Int->AH->Prop} (h:Own (Fz B::R) A) (hm:mI B sp bx keys M) (H:bA M) (hF:Few n M) (hn:n<=1000) (hat : -9223372036854775808<=at_/\at_<9223372036854775808)
  (hk:∀ D i I B' b,eU B B'->mI B' D i I (eJ M id p to_ at_ pw pu px).1->Own (Fz B'::R) b->Q D i I (eJ M id p to_ at_ pw pu px).2 b):qfi_A sp bx keys id p to_ at_ pw pu px Q A:=by
 have same:∀ e,eJ M id p to_ at_ pw pu px=(M,e)->∀ b,Own (Fz B::R) b->Q sp bx keys e b:=λe he b h'=>by
  have:=hk sp bx keys B b (eU.refl B);rw [he] at this;exact this hm h'
 unfold qfi_A qfi_G;refine nM h hm H hF hn λo1 y1 E hy1 hb1 hb2=>nM h hm H hF hn λo2 W j J hb3 hb4=>aDv h hy1 (by omega) λra rb w u xx kk ok O=>qS h hy1 (by omega) λog d=>?_
 have f:eJ M id p to_ at_ pw pu px=match (generalizing:=false) o1,o2 with
   | some s,some t=>match (generalizing:=false) lookR s.regs p,pgAt s p with
    | some r,some x=>if r.2.2.2≠0 then (M,5) else if ((pw&&!r.1) || (px&&!r.2.2.1))=true then (M,10)
     else if cG t.regs ⟨at_,at_+1,pw,pu,px,1⟩≠0 then (M,cG t.regs ⟨at_,at_+1,pw,pu,px,1⟩)
     else if roomN M.ns t.box<costS (borS t ⟨at_,at_+1,pw,pu,px,1⟩ x.key)-costS t then (M,8)
     else (bumpM (payM M t (borS t ⟨at_,at_+1,pw,pu,px,1⟩ x.key)) id p 1,0)
    | _,_=>(M,5)
   | _,_=>(M,5):=by subst E j;rfl
 obtain ⟨y,l⟩:∃ y:Reg,y=⟨at_,at_+1,pw,pu,px,1⟩:=⟨_,rfl⟩;rw [<-l] at f;refine ⟨λ_ _ _ b=>b=A/\∃ s t z,o1=some s/\o2=some t/\og=some z/\eJ M id p to_ at_ pw pu px=if ((pw&&!w) || (px&&!xx))=true then (M,10) else if cG t.regs y≠0 then (M,cG t.regs y) else if roomN M.ns t.box<costS (borS t y z.key)-costS t then (M,8) else (bumpM (payM M t (borS t y z.key)) id p 1,0),λ_ _ _ A1 ⟨eA,s,t,z,e1,e2,e3,N⟩=>?_,?_⟩
 .subst eA e1 e2 e3;have hsm:=aU E;have F:=aU j;have J:qJ B W t:=J;have hb3:t.regs.length<=64:=hb3;have hb4:t.pgs.length<=n:=hb4;have d:pgAt s p=some z:=d;have hg:=H.good t F.1;refine ⟨λ_ _ _ b=>b=A1/\((pw&&!w) || (px&&!xx))=false,λ_ _ _ A2 ⟨eA,hp⟩=>?_,?_⟩
  .subst eA;rw [if_neg (by simp_all)] at N;refine ⟨λ_ _ _ b=>b=A2/\0<=at_/\at_<34359738368,λ_ _ _ A3 ⟨eA,hr⟩=>?_,?_⟩
   .subst eA;have ew:IntKind.wrap .i64 (at_+1)=at_+1:=w64 (by omega) (by omega);rw [ew];have a:rightB y.a y.b=true:=dC.2 (by grind)
    have er:∀ {Q:Int->AH->Prop},(∀ b,Own (Fz B::R) b->Q (cG t.regs y) b)->qde_A W.rs at_ (at_+1) 1 at_ (at_+1) pw pu px 1 Q A3:=λhQ=>by
     have:=j8 (A:=A3) (L:=t.regs) (p:=y.a) (q:=y.b) (how:=1) (x:=y) (C:=addL t.regs y) (k:=0) h rfl J.rs.rd hg (.inl rfl) (λ_ hc=>aD5 hg a (hc rfl)) λb h'=>by rw [<-wA hg];exact hQ b h'
     rw [l] at this;exact this
    refine er λA4 h4=>?_;refine bsel_in (λc=>?_) λc=>?_
    .have c:cG t.regs y≠0:=by simpa using c
     exact same _ (by rw [N,if_pos c]) A4 h4
    have c:cG t.regs y=0:=by simpa using c
    rw [if_neg (by rw [c];simp)] at N
    have hcz:¬ cntZ t.regs y.a y.b > 0:=λhh=>by
     rw [wA hg,chE,if_neg (by rw [a];simp),if_pos ⟨rfl,hh⟩] at c;cases c
    have ch:∀ {Q:Sl->AH->Prop},(∀ P B' b,eU B B'->qJ B' { W with rs:=P } { t with regs:=addL t.regs y }->Own (Fz B'::R) b->Q P b)->qdd_A W.rs at_ (at_+1) 1 at_ (at_+1) pw pu px 1 Q A4:=λhQ=>by
     have:=aBx (p:=y.a) (q:=y.b) (x:=y) (how:=1) h4 J hg (by have:=dC.1 a;omega) (.inl rfl) (aD5 hg a hcz) hQ;rw [l] at this;exact this
    refine ch λP B1 A5 u1 hy3 h5=>?_;obtain ⟨b1,b2,b3,b4,b5,b6,b7⟩:=kF H.toInvL F.1 (y:=y) (by rw [l]) (by rw [l]) c;have S:y.a=at_:=by rw [l]
    rw [S] at b1 b5;have X:=H.pgs t F.1;have wth:=λ{Q:Int->Int->Sl->Sl->AH->Prop}=>l9 (n:=at_) (kk:=z.key) (ln:=0) (Q:=Q) h5 hy3 (by show t.pgs.length<=100000;omega);refine wth λps' B2 A6 u2 U h6=>?_;have epg:wthL (·.num) ⟨at_,z.key,0⟩ false t.pgs=insG t.pgs ⟨at_,z.key,0⟩:=uL X b1
    have hT:({ ({ t with regs:=addL t.regs y }:Sm) with pgs:=wthL (·.num) ⟨at_,z.key,0⟩ false ({ t with regs:=addL t.regs y }:Sm).pgs }:Sm)=borS t y z.key:=by
     unfold borS addP;rw [S];show ({ t with regs:=addL t.regs y,pgs:=wthL (·.num) ⟨at_,z.key,0⟩ false t.pgs }:Sm)=_;rw [epg]
    rw [hT] at U;obtain ⟨T,G⟩:∃ T,T=borS t y z.key:=⟨_,rfl⟩;rw [<-G] at U N;have o:T.id=to_:=by rw [G];exact F.2
    have m:T.box=t.box:=by rw [G];rfl
    have Y:T.pgs=insG t.pgs ⟨at_,z.key,0⟩:=by rw [G];unfold borS addP;rw [S]
    have hTl:T.pgs.length=t.pgs.length+1:=by rw [Y];exact (insG_perm t.pgs).length_eq
    have hTs:(nums T).Pairwise (· < ·):=by rw [G];exact mW (s:={ t with regs:=addL t.regs y }) (k:=z.key) X (by rw [S];exact b5)
    have hTr:T.regs.length<=1000:=by rw [G];have:=lB b3;show (addL t.regs y).length<=1000;omega
    have K:kE M T.id=costS t:=by unfold kE;rw [o,j]
    have hlv:=H.live t F.1;refine mC (x:=⟨W.id,W.box,P,ps'⟩) (s:=T) (box:=W.box) h6 ((hm.mono u1).mono u2) H hF hn U (by omega) hTr hTs (λ_=>U.box) (λA7 zz _=>?_) (λA7 z1 z2 z3 h7=>?_) λD i B3 A7 z1 z2 z3 u3 Z hbx' h7=>?_
    .exfalso;apply zz;have e:W.box=(t.box:Int):=J.box;rw [e];exact ⟨by omega,by rw [Int.toNat_natCast];exact hlv⟩
    .rw [K,m] at z3;rw [if_pos z3] at N;refine aG rfl ?_;have:=hk sp bx keys B2 A7 (u1.trans u2);rw [N] at this;exact this ((hm.mono u1).mono u2) h7
    .rw [K,m] at z3;rw [if_neg z3] at N;refine bsel_f rfl ?_;rw [K,m] at hbx';rw [fH (t:=T) H.srt j o] at Z;have hm2:mI B3 D i keys (payM M t T):=⟨Z,hbx',hm.keys⟩
     obtain ⟨s2,hs2,hs2l,hs2s,hs2p⟩:∃ s2,findS (payM M t T) id=some s2/\s2.pgs.length<=1001/\(nums s2).Pairwise (· < ·)/\pgAt s2 p=some z:=by
      have V:findS (payM M t T) id=if id=to_ then some T else findS M id:=yK j o
      by_cases e:id=to_
      .rw [if_pos e] at V;refine ⟨T,V,by omega,hTs,?_⟩;have est:s=t:=by rw [e,j] at E;exact (Option.some.inj E).symm
       subst est;have hz:=aL d;rw [<-hz.2];refine bR hTs ?_;rw [Y,(insG_perm s.pgs).mem_iff];exact List.mem_cons_of_mem _ hz.1
      .rw [if_neg e,E] at V;exact ⟨s,V,by have:=hF.pgs s hsm.1;omega,H.pgs s hsm.1,d⟩
     have hl:=aB0 H hF hn hsm.1 (aL d).1;show qca_A D i keys id (λn55 n56 s57 s58 _ h60=>qfd_A n55 n56 s57 s58 z.num z.key (IntKind.wrap .i64 (z.lent+1)) (λn61 n62 s63 s64 h65=>qci_A D i keys n61 n62 s63 s64 (λs66 s67 n68 h69=>Q s66 s67 n68 (0:Int) h69) h65) h60) A7;rw [w64 (n:=z.lent+1) (by omega) (by omega)];refine aEw (M2:=payM M t T) h7 hm2 (by have:=aA0 (t':=T) hF;show (putS M.sps T).length<=1000;omega) (by show ((putS M.sps T).map (·.id)).Pairwise (· < ·);rw [aDb (o.trans F.2.symm) j];exact H.srt) hs2 hs2l hs2s hs2p λsp'' B4 A8 u4 hm4 h8=>?_;have:=hk sp'' i keys B4 A8 (((u1.trans u2).trans u3).trans u4);rw [N] at this;exact this hm4 h8
   .have bad:(at_<0\/at_>=34359738368)->eJ M id p to_ at_ pw pu px=(M,1):=λhh=>by
     have hrb:rightB y.a y.b=false:=by
      cases e:rightB y.a y.b with
      | false=>rfl
      | true=>
       have:=dC.1 e;rw [l] at this;simp only at this;omega
     have hae:cG t.regs y=1:=by unfold cG;rw [if_pos hrb]
     rw [N,hae];rfl
    refine bsel_in (λc=>same 1 (bad (.inl (of_decide_eq_true c))) A2 h) λc=>bsel_in (λc2=>same 1 (bad (.inr (of_decide_eq_true c2))) A2 h) λc2=>⟨rfl,?_⟩;have c:=of_decide_eq_false c;have c2:=of_decide_eq_false c2;omega
  .have ten:((pw&&!w) || (px&&!xx))=true->Q sp bx keys 10 A1:=λhh=>same 10 (by rw [N,if_pos hh]) A1 h
   cases pw<;>cases px<;>cases w<;>cases xx<;>first | exact ten rfl | exact ⟨rfl,rfl⟩
 .have v:eJ M id p to_ at_ pw pu px=(M,5)->Q sp bx keys 5 A:=λhh=>same 5 hh A h;cases o1 with
  | none=>exact aG rfl (v f)
  | some s=>
   refine bsel_f rfl ?_;cases o2 with
   | none=>exact aG rfl (v f)
   | some t=>
    refine bsel_f rfl ?_;have d:pgAt s p=og:=d;have O:lookR s.regs p=_:=O;simp only at f;rw [d,O] at f;cases og with
    | none=>exact aG rfl (v (by rw [f];cases ok<;>rfl))
    | some z=>
     refine bsel_f rfl ?_;cases ok with
     | false=>exact absurd O (by have:=H.reg s (aU E).1 z (aL d).1;rw [(aL d).2] at this;exact this)
     | true=>
      have f:eJ M id p to_ at_ pw pu px=if kk≠0 then (M,5) else if ((pw&&!w) || (px&&!xx))=true then (M,10) else if cG t.regs y≠0 then (M,cG t.regs y) else if roomN M.ns t.box<costS (borS t y z.key)-costS t then (M,8) else (bumpM (payM M t (borS t y z.key)) id p 1,0):=f
      refine bsel_in (λc=>v (by rw [f,if_pos (by simpa using c)])) λc=>⟨rfl,s,t,z,rfl,rfl,rfl,?_⟩;rw [f,if_neg (by simpa using c)]
theorem aBh {Q:Sl->Sl->Int->Int->AH->Prop} (h:Own (Fz B::R) A) (W:mI B sp bx keys M) (v:bA M) (X:Few n M) (hn:n<=1000)
  (hk:∀ C l D B' I,eU B B'->mI B' C l D (fF M id p to_ at_).1->Own (Fz B'::R) I->Q C l D (fF M id p to_ at_).2 I):qfk_A sp bx keys id p to_ at_ Q A:=by
 have same:∀ e,fF M id p to_ at_=(M,e)->∀ I,Own (Fz B::R) I->Q sp bx keys e I:=λe he I h'=>by
  have:=hk sp bx keys B I (eU.refl B);rw [he] at this;exact this W h'
 unfold qfk_A qfk_G;refine nM h W v X hn λo1 y1 E hy1 hb1 hb2=>nM h W v X hn λo2 K m i Y O=>qS h hy1 (by omega) λZ b=>qS h i (by omega) λoq f=>aDv h i (by omega) λra rb w u xx kk ok j=>?_
 have a:fF M id p to_ at_=match (generalizing:=false) o1,o2 with
   | some s,some t=>match (generalizing:=false) pgAt s p,pgAt t at_,lookR t.regs at_ with
    | some x,some y,some r=>if x.lent=0\/r.2.2.2≠1\/x.key≠y.key then (M,5) else (bumpM (payM M t (retS t at_)) id p (-1),0)
    | _,_,_=>(M,5)
   | _,_=>(M,5):=by subst E m;rfl
 refine ⟨λ_ _ _ I=>I=A/\∃ s t z N,o1=some s/\o2=some t/\Z=some z/\oq=some N/\z.lent≠0/\ok=true/\kk=1/\fF M id p to_ at_=(bumpM (payM M t (retS t at_)) id p (-1),0),λ_ _ _ A1 ⟨eA,s,t,z,N,e1,e2,e3,e4,hzl,eok,ek,hE⟩=>?_,?_⟩
 .subst eA e1 e2 e3 e4 eok ek;have F:=aU E;have G:=aU m;have i:qJ B K t:=i;have Y:t.regs.length<=64:=Y;have O:t.pgs.length<=n:=O;have b:pgAt s p=some z:=b;have f:pgAt t at_=some N:=f;have j:lookR t.regs at_=some (w,u,xx,1):=j;have hg:=v.good t G.1
  have hrg:0<=at_/\at_<34359738368:=by
   obtain ⟨r,hr,r1,r2⟩:=pO.2 (show lookR t.regs at_≠none by rw [j];simp);have:=srt_mem (bJ.1 hg).2.1 r hr;omega
  have ew:IntKind.wrap .i64 (at_+1)=at_+1:=w64 (by omega) (by omega);rw [ew];refine mF (p:=at_) (q:=at_+1) h i (by omega) λP B1 A2 u1 hy3 h2=>?_;have hch:=aIk (L:=t.regs) (p:=at_) (q:=at_+1) (x:=⟨0,0,false,false,false,0⟩) hg (by omega);refine aBx (p:=at_) (q:=at_+1) (x:=⟨0,0,false,false,false,0⟩) (how:=2) h2 (i.mono u1) hg (by omega) (.inr (.inl rfl)) hch λS B2 A3 u2 U h3=>?_;obtain ⟨T,k⟩:∃ T,T=retS t at_:=⟨_,rfl⟩
  have o:T.pgs=t.pgs.filter λg=>!inZ at_ (at_+1) g.num:=by
   rw [k];unfold retS remP;refine List.filter_congr λg _=>?_;unfold inZ;by_cases e:g.num=at_
   .grind
   .grind
  have hyT:qJ B2 ⟨K.id,K.box,S,P⟩ T:=by
   refine ⟨by rw [k];exact U.id,by rw [k];exact U.box,by rw [k];exact U.rs,?_⟩;rw [o];exact hy3.ps.mono u2
  rw [<-k] at hE;have H:T.id=to_:=by rw [k];exact G.2
  have hTbox:T.box=t.box:=by rw [k];rfl
  have hTl:T.pgs.length<=n:=by rw [o];exact Nat.le_trans (List.length_filter_le _ _) O
  have V:(nums T).Pairwise (· < ·):=by
   have:=v.pgs t G.1;unfold nums at this ⊢;rw [o];exact this.sublist (List.filter_sublist.map _)
  have hTr:T.regs.length<=1000:=by
   rw [k];show (cutR t.regs at_ (at_+1)).length<=1000;have h1:=oF (t.regs.flatMap (cut1 at_ (at_+1)));have h2:=qK (p:=at_) (q:=at_+1) t.regs;unfold cutR;omega
  have k1:=iT (s:=t);have k2:=iT (s:=T);have k3:=cE (s:=t);have k4:=cE (s:=T);unfold qdh_A qdh_G;refine gP (x:=⟨K.id,K.box,S,P⟩) (s:=T) h3 ((W.sps.mono u1).mono u2) hyT (by have:=X.sps;omega) λC B3 A4 u3 hsp h4=>?_;refine cU (x:=⟨K.id,K.box,S,P⟩) h4 (hyT.mono u3) (by omega) hTr V λA5 h5=>?_;refine cU h5 (((i.mono u1).mono u2).mono u3) (by omega) (by omega) (v.pgs t G.1) λA6 h6=>?_;rw [w64 (n:=costS T-costS t) (by omega) (by omega)];have hbxe:K.box=(t.box:Int):=i.box;rw [hbxe];refine lY h6 (((W.bxs.mono u1).mono u2).mono u3) (sQ v.tree) (by omega) λl B4 A7 u4 hbx h7=>?_;rw [wJ] at hbx;rw [fH (t:=T) v.srt m H] at hsp;have hm2:mI B4 C l keys (payM M t T):=⟨hsp.mono u4,hbx,W.keys⟩
  obtain ⟨s2,hs2,hs2l,hs2s,hs2p⟩:∃ s2,findS (payM M t T) id=some s2/\s2.pgs.length<=1001/\(nums s2).Pairwise (· < ·)/\pgAt s2 p=some z:=by
   have J:findS (payM M t T) id=if id=to_ then some T else findS M id:=yK m H
   by_cases e:id=to_
   .rw [if_pos e] at J;refine ⟨T,J,by omega,V,?_⟩;have est:s=t:=by rw [e,m] at E;exact (Option.some.inj E).symm
    subst est;have hz:=aL b
    have hne:p≠at_:=λe2=>by
     rw [e2,f] at b;cases b;obtain ⟨w1,w2,w3,w4⟩:=v.bor s F.1 at_ _ j rfl;have h1:=bR (v.pgs s F.1) w2;rw [w3,f] at h1;cases h1;exact hzl w4
    rw [<-hz.2];refine bR V ?_;rw [o,List.mem_filter];refine ⟨hz.1,?_⟩;unfold inZ;rw [hz.2];simp;omega
   .rw [if_neg e,E] at J;exact ⟨s,J,by have:=X.pgs s F.1;omega,v.pgs s F.1,b⟩
  have hl:=aB0 v X hn F.1 (aL b).1;show qca_A C l keys id (λn55 n56 s57 s58 _ h60=>qfd_A n55 n56 s57 s58 z.num z.key (IntKind.wrap .i64 (z.lent-1)) (λn61 n62 s63 s64 h65=>qci_A C l keys n61 n62 s63 s64 (λs66 s67 n68 h69=>Q s66 s67 n68 (0:Int) h69) h65) h60) A7;rw [w64 (n:=z.lent-1) (by omega) (by omega),show z.lent-1=z.lent + -1 by omega];refine aEw (M2:=payM M t T) h7 hm2 (by have:=aA0 (t':=T) X;show (putS M.sps T).length<=1000;omega) (by show ((putS M.sps T).map (·.id)).Pairwise (· < ·);rw [aDb (H.trans G.2.symm) m];exact v.srt) hs2 hs2l hs2s hs2p λsp'' B5 A8 u5 hm5 h8=>?_;have:=hk sp'' l keys B5 A8 ((((u1.trans u2).trans u3).trans u4).trans u5);rw [hE] at this;exact this hm5 h8
 .have d:fF M id p to_ at_=(M,5)->Q sp bx keys 5 A:=λhh=>same 5 hh A h;cases o1 with
  | none=>
   have:Z=none:=by rw [<-b];rfl
   subst this;exact aG rfl (d a)
  | some s=>
   have b:pgAt s p=Z:=b;cases o2 with
   | none=>
    have:oq=none:=by rw [<-f];rfl
    subst this;have h5:=d (by rw [a]);cases Z with
    | none=>exact aG rfl h5
    | some z=>exact bsel_f rfl (aG rfl h5)
   | some t=>
    have f:pgAt t at_=oq:=f;have j:lookR t.regs at_=_:=j;simp only at a;rw [b,j,f] at a;cases Z with
    | none=>exact aG rfl (d (by rw [a]))
    | some z=>
     refine bsel_f rfl ?_;cases oq with
     | none=>exact aG rfl (d (by rw [a]))
     | some N=>
      refine bsel_f rfl ?_;cases ok with
      | false=>exact absurd j (by have:=v.reg t (aU m).1 N (aL f).1;rw [(aL f).2] at this;exact this)
      | true=>
       have a:fF M id p to_ at_=if z.lent=0\/kk≠1\/z.key≠N.key then (M,5) else (bumpM (payM M t (retS t at_)) id p (-1),0):=a
       refine bsel_in (λc=>d (by rw [a,if_pos (.inl (by simpa using c))])) λc=>bsel_in (λc2=>d (by rw [a,if_pos (.inr (.inl (by simpa using c2)))])) λc2=>bsel_in (λc3=>d (by rw [a,if_pos (.inr (.inr (by simpa using c3)))])) λc3=>?_;have c:z.lent≠0:=by simpa using c
       have c2:kk=1:=by simpa using c2
       have c3:z.key=N.key:=by simpa using c3
       exact ⟨rfl,s,t,z,N,rfl,rfl,rfl,rfl,c,rfl,c2,by rw [a,if_neg (by rintro (w | w | w);exact c w;exact w c2;exact w c3)]⟩
end Go.Dn
