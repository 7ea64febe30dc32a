/- What the proof stands on. -/
import Derived.Test.YtfnkdpmbpgffbaaGreatG
import Derived.Test.YtfnkdpmbpgffbaaGreatDnN
import Derived.Test.YtfnkdpmbpgffbaaGreatBits
import Derived.Test.YtfnkdpmbpgffbaaGreatPurse
import Derived.Test.YtfnkdpmbpgffbaaGreatCut
import Derived.Test.YtfnkdpmbpgffbaaGreatStart
namespace Go.Dn
variable {A:AH} {l R:List SP} {r b t i:Nat} {fr n u:Int} {hs:List (Int × Int)} {W W':Int->Int->Int} {F G:Int->Prop} {ns:List Nd} {nd:Nd} {root:Int} {tab:Tab} {lf:Int->Option Lf} {tl:List Int}
theorem iF (h:Own (Bud b F G n::R) A):(∀ x,F x->¬G x)/\0<=n:=by
 obtain ⟨f,g,st,gl,a,c,_,_⟩:=Bud.openH h;exact ⟨λx d e=>(c.apart x e).1 d,a.nonneg⟩
theorem qB {α:Type} (p:α->Bool):∀ l:List α,(l.filter p).length+(l.filter λy=>!p y).length=l.length
 | []=>rfl
 | x::r=>by
  have:=qB p r;cases h:p x<;>simp [h]<;>omega
theorem aAn {p m:Int} {pw pu px:Bool} {Q:Int->AH->Prop} (h:Own (RamW r fr hs W::Bud b F G n::TreeS t ns::R) A) (hi:ns[i]? = some nd) (J:nd.live=true) (S:∀ x,F x->hasF fr hs x=true) (T:∀ x,G x->hasF fr hs x=true)
  (c:Rest G W root tab lf tl)
  (U:p<0\/p>=34359738368\/m<0\/m>=1048576->Q 1 A)
  (V:0<=p->p<34359738368->0<=m->m<1048576->lf p≠none->∀ a,Own (RamW r fr hs W::Bud b F G n::TreeS t ns::R) a->Q 6 a)
  (w:0<=p->p<34359738368->0<=m->m<1048576->lf p=none->∀ e W' a,(e=8/\nd.quo-nd.use-nd.lent<iR tab p/\nd.quo-nd.use-nd.lent<=n\/e=7/\n<iR tab p/\n<nd.quo-nd.use-nd.lent)->
   (∀ f,¬F f->W' f=W f)->Rest G W' root tab lf tl->(∀ j,256<=j->W' root j=W root j)->Own (RamW r fr hs W'::Bud b F G n::TreeS t ns::R) a->Q e a)
  (X:0<=p->p<34359738368->0<=m->m<1048576->lf p=none->∀ tk W' d a,tk.length=iR tab p->(tk.length:Int)<=nd.quo-nd.use-nd.lent->(tk.length:Int)<=n->(∀ x ∈ tk,F x)->
   Rest (λx=>G x\/x ∈ tk) W' root d (setL lf p (some ⟨m,pw,pu,px⟩)) (tl++tk)->(∀ f,f ∉ tk->f ∉ tl->W' f=W f)->(∀ j,256<=j->W' root j=W root j)->
   Own (RamW r fr hs W'::Bud b (λx=>F x/\x ∉ tk) (λx=>G x\/x ∈ tk) (n-tk.length)::TreeS t (useN ns i nd (nd.use+tk.length))::R) a->Q 0 a) :
  qey_A (some ⟨r,0,none⟩) (some ⟨b,0,none⟩) (some ⟨t,0,none⟩) i root p m pw pu px Q A:=by
 have o:=(iF h.swap).1;refine aHq h hi J S T c.T (λk q f e=>c.tg e) U V (λs v K L H M e W' a I Y z N=>?_) λs v K L H M tk W' d a I B Z q2 O C hT D E z P N=>?_
 .have hn:=I.need c.T ⟨s,v⟩;refine w s v K L H e W' a ?_ z (c.keep (λf hf=>z f λg=>o f g (c.inG f hf)) c.inG) (λj _=>by rw [z root λg=>o root g (c.tg ((c.T.root 0 root).2 ⟨rfl,rfl⟩))]) N;rcases Y with ⟨e1,e2,e3⟩ | ⟨e1,e2,e3⟩
  .omega
  .omega
 .have hn:=I.need c.T ⟨s,v⟩;exact X s v K L H tk W' d a (by omega) Z q2 C (c.map s v H I B O (λy hy=>o y (C y hy)) hT D E) (λf g1 g2=>z f g1 λk q e=>g2 ((c.mem f).2 ⟨k,q,e⟩)) P N
theorem Rest.gone_len (h:Rest G W root tab lf tl) {p:Int} {x:Lf} {a:List Int} {v:Nat} (E:lf p=some x) (H:DownOK tab p a) (f:a.length=4) (C:v<=3):(tl.filter λy=>decide (y ∉ gone a v)).length+(gone a v).length=tl.length:=by
 have I:=h.pr p x E
 have j:∀ c,c<4->∃ g,a[c]? = some g/\tab c (preP p c)=some g:=λc o=>by
  refine ⟨a[c],by simp [f,o],?_⟩;rw [H.is c (by omega)];simp [f,o]
 have q:a.Nodup:=by
  unfold List.Nodup;rw [List.pairwise_iff_getElem];intro u v s C J e;obtain ⟨g,k,w⟩:=j u (by omega);obtain ⟨g',d,z⟩:=j v (by omega);rw [List.getElem?_eq_getElem s] at k;rw [List.getElem?_eq_getElem C] at d;have k:=Option.some.inj k;have d:=Option.some.inj d;have e:g=g':=by rw [<-k,<- d,e]
  subst e;have:=(h.T.apart _ _ _ _ _ w z).1;omega
 have D:∀ y ∈ gone a v,y ∈ tl:=λy m=>by
  have m:y ∈ a:=List.mem_of_mem_drop m;obtain ⟨c,o⟩:=List.mem_iff_getElem?.1 m;obtain ⟨g,k,w⟩:=j c (by grind);rw [o] at k;cases k;exact (h.mem y).2 ⟨_,_,w⟩
 have B:(gone a v).Nodup:=q.sublist (List.drop_sublist _ _)
 have e1:(tl.filter λy=>decide (y ∈ gone a v)).length=(gone a v).length:=by
  refine Nat.le_antisymm (gO (h.nd.filter _) λy m=>?_) (gO B λy m=>?_)
  .simp_all
  .simp_all
 have K:=qB (λy=>decide (y ∈ gone a v)) tl;have L:(tl.filter λy=>!decide (y ∈ gone a v))=tl.filter λy=>decide (y ∉ gone a v):=List.filter_congr λy _=>by simp
 rw [L] at K;omega
theorem aC1 {p:Int} {Q:Int->Int->AH->Prop} (h:Own (RamW r fr hs W::Bud b F G n::TreeS t ns::R) A) (hi:ns[i]? = some nd) (I:nd.live=true) (hu:tl.length<=nd.use) (hG:∀ x,G x->hasF fr hs x=true)
  (a:Rest G W root tab lf tl)
  (hn:lf p=none->∀ o,Own (RamW r fr hs W::Bud b F G n::TreeS t ns::R) o->Q 0 5 o)
  (D:∀ (x:Lf) (gl:List Int) W' tab' (tl':List Int) o,lf p=some x->(∀ y ∈ gl,G y)->(∀ y ∈ gl,y ∈ tl)->tl'.length+gl.length=tl.length->gl.length=iR tab' p->(∀ y,y ∈ tl'↔y ∈ tl/\y ∉ gl)->Rest (λy=>G y/\y ∉ gl) W' root tab' (setL lf p none) tl'->(∀ f,f ∉ tl->W' f=W f)->(∀ j,256<=j->W' root j=W root j)->
   Own (RamW r fr hs W'::Bud b (λx=>F x\/x ∈ gl) (λx=>G x/\x ∉ gl) (n+gl.length)::TreeS t (useN ns i nd (nd.use-gl.length))::R) o->Q x.frame 0 o) :
  qeh_A (some ⟨r,0,none⟩) (some ⟨b,0,none⟩) (some ⟨t,0,none⟩) i root p Q A:=by
 refine aDp h hi I ?_ hG a.T (λk q f e=>a.tg e) (λc o J=>hn ?_ o J) λx s v W' o p0 p1 w K d X hT hz hW L J=>?_
 .by_cases e:∀ p,lf p=none
  .exact .inr e
  .left;obtain ⟨z,M⟩:=Classical.not_forall.1 e
   obtain ⟨x,w⟩:∃ x,lf z=some x:=by
    cases e2:lf z with
    | none=>exact absurd e2 M
    | some x=>exact ⟨x,rfl⟩
   have N:=a.pr z x w;have H:=a.T.chain N w
   have ex:∀ k,k<4->∃ g,tab k (preP z k)=some g:=λk D=>by
    cases e:tab k (preP z k) with
    | none=>exact absurd e (H k D)
    | some g=>exact ⟨g,rfl⟩
   obtain ⟨O,Y⟩:=ex 1 (by omega);obtain ⟨P,Z⟩:=ex 2 (by omega);obtain ⟨S,a3⟩:=ex 3 (by omega);have m:∀ j k g,tab j (preP z j)=some g->tab k (preP z k)=some g->j=k:=λj k g h1 h2=>(a.T.apart _ _ _ _ _ h1 h2).1;have n12:O≠P:=λe=>by subst e;have:=m _ _ _ Y Z;omega
   have n13:O≠S:=λe=>by subst e;have:=m _ _ _ Y a3;omega
   have n23:P≠S:=λe=>by subst e;have:=m _ _ _ Z a3;omega
   have hm:∀ {k q g},tab k q=some g->g ∈ tl:=λe=>(a.mem _).2 ⟨_,_,e⟩;have:[O,P,S].length<=tl.length:=gO (by simp_all) λy E=>by grind
   simp only [List.length_cons,List.length_nil] at this;omega
 .rcases c with c | c | c
  .cases e:lf p with
   | none=>rfl
   | some x=>have:=a.pr p x e;omega
  .cases e:lf p with
   | none=>rfl
   | some x=>have:=a.pr p x e;omega
  .exact c
 .have T:=a.unmap w K d X hT hz;have U:=a.gone_len w K d X
  have B:∀ y ∈ s,y ∈ tl:=λy E=>by
   obtain ⟨c,H⟩:=List.mem_iff_getElem?.1 E;have V:=(List.getElem?_eq_some_iff.1 H).1;exact (a.mem y).2 ⟨c,_,by rw [K.is c V];exact H⟩
  have C:(gone s v).length=iR (cutT tab p v) p:=by
   have hch:=λk D=>a.T.chain ⟨p0,p1⟩ w k D
   have e:∀ k,k<4->(cutT tab p v k (preP p k)=none↔v<k):=λk D=>by
    unfold cutT;by_cases g:v<k
    .simp_all
    .simp_all
   unfold iR gone;simp only [e 1 (by omega),e 2 (by omega),e 3 (by omega),List.length_drop,d];split<;>split<;>split<;>omega
  refine D x (gone s v) W' _ _ o w (λy E=>a.inG y (B y (List.mem_of_mem_drop E))) (λy E=>B y (List.mem_of_mem_drop E)) U C (λy=>by rw [List.mem_filter,decide_eq_true_eq]) T (λf hf=>hW f λg=>hf (B f g)) L J
theorem fE {p bx:Int} {j m:Option Addr} {Q:Int->Bool->Bool->Bool->Bool->AH->Prop} (h:Own (RamW r fr hs W::R) A) (o:∀ x,G x->hasF fr hs x=true) (d:Rest G W root tab lf tl)
  (s:lf p=none->∀ a,Own (RamW r fr hs W::R) a->Q 0 false false false false a)
  (v:∀ x,lf p=some x->∀ a,Own (RamW r fr hs W::R) a->Q x.frame x.w x.u x.x true a):qef_A (some ⟨r,0,none⟩) j m bx root p Q A:=by
 refine pT h d.T (λk q f e=>o f (d.tg e)) (λc a g=>s ?_ a g) λx _ _ w a g=>v x w a g;rcases c with c | c | c
 .cases e:lf p with
  | none=>rfl
  | some x=>have:=d.pr p x e;omega
 .cases e:lf p with
  | none=>rfl
  | some x=>have:=d.pr p x e;omega
 .exact c
theorem zD {p bx:Int} {w y:Option Addr} {pw pu px:Bool} {Q:Int->AH->Prop} (h:Own (RamW r fr hs W::R) A) (z:∀ x,G x->hasF fr hs x=true) (d:Rest G W root tab lf tl)
  (B:lf p=none->∀ a,Own (RamW r fr hs W::R) a->Q 5 a)
  (C:∀ x,lf p=some x->∀ W' a,Rest G W' root tab (setL lf p (some ⟨x.frame,pw,pu,px⟩)) tl->(∀ f,f ∉ tl->W' f=W f)->(∀ j,256<=j->W' root j=W root j)->Own (RamW r fr hs W'::R) a->Q 0 a) :
  qev_A (some ⟨r,0,none⟩) w y bx root p pw pu px Q A:=by
 refine aAX h d.T (λk q f e=>z f (d.tg e)) (λc a m=>B ?_ a m) λx f H I v o a m=>?_
 .rcases c with c | c | c
  .cases e:lf p with
   | none=>rfl
   | some x=>have:=d.pr p x e;omega
  .cases e:lf p with
   | none=>rfl
   | some x=>have:=d.pr p x e;omega
  .exact c
 .have s:root≠f:=λe=>by
   have D:tab 0 0=some f:=(d.T.root 0 f).2 ⟨rfl,e.symm⟩;have:=(d.T.apart _ _ _ _ _ o D).1;omega
  refine C x v _ a (d.prot v o rfl) (λg E=>bX λe=>E (by rw [e];exact (d.mem f).2 ⟨_,_,o⟩)) (λj _=>by rw [bX s]) m
theorem jP {bx:Int} {d g:Option Addr} {Q:Sl->AH->Prop} (h:Own (RamW r fr hs W::R) A) (j:∀ x,G x->hasF fr hs x=true) (c:Rest G W root tab lf tl)
  (m:∀ s ps a,s.len=ps.length->(s.a=none->ps=[])->ps.Pairwise (· < ·)->(∀ p,p ∈ ps↔lf p≠none)->Own (RamW r fr hs W::SlO s 1 (intsV ps)::R) a->Q s a):qdw_A (some ⟨r,0,none⟩) d g bx root Q A:=by
 refine aDt h c.T (λk q f e=>j f (c.tg e)) λs ps a o v w y B=>m s ps a o v w (λp=>?_) B;rw [y];constructor
 .simp_all
 .intro z
  obtain ⟨x,C⟩:∃ x,lf p=some x:=by
   cases D:lf p with
   | none=>exact absurd D z
   | some x=>exact ⟨x,rfl⟩
  exact ⟨z,c.pr p x C⟩
theorem aD8 {Q:Int->AH->Prop} (h:Own (RamW r fr hs W::Bud b F G n::TreeS t ns::R) A) (hi:ns[i]? = some nd) (g:nd.live=true) (o:1<=nd.use) (q:∀ x,G x->hasF fr hs x=true) (j:Rest G W root tab lf tl)
  (v:(∃ p,lf p≠none)->∀ d,Own (RamW r fr hs W::Bud b F G n::TreeS t ns::R) d->Q 11 d)
  (w:(∀ p,lf p=none)->∀ d,Own (RamW r fr hs W::Bud b (λx=>F x\/x=root) (λx=>G x/\x≠root) (n+1)::TreeS t (useN ns i nd (nd.use-1))::R) d->Q 0 d) :
  qfp_A (some ⟨r,0,none⟩) (some ⟨b,0,none⟩) (some ⟨t,0,none⟩) i root Q A:=by
 have a:G root:=j.tg ((j.T.root 0 root).2 ⟨rfl,rfl⟩);unfold qfp_A qfp_G;refine jP h q j λs ps k y _ _ m f=>?_;have f:Own (RamW r fr hs W::Bud b F G n::TreeS t ns::R) k:=f.sub (List.Sublist.cons_cons _ (List.sublist_cons_self _ _));refine bsel_in (λc=>v ?_ k f) λc=>?_
 .have c:0<ps.length:=by simp [y] at c;omega
  obtain ⟨p,z⟩:=List.exists_mem_of_length_pos c;exact ⟨p,(m p).1 z⟩
 .have c:ps=[]:=by simp_all
  refine jH f hi g a o λB C=>w (λp=>?_) B C;cases e:lf p with
  | none=>rfl
  | some x=>have:=(m p).2 (by simp_all);rw [c] at this;simp at this
end Go.Dn
namespace Go.Dn
structure Tr where
 ns:Int->List Nd
 bx:Nat
 q:Int
 fr:Int
 at_:∀ u,∃ par quo len,(ns u)[bx]? = some ⟨par,quo,u,len,true⟩/\quo-len=q
 set:∀ u u' nd,(ns u)[bx]? = some nd->useN (ns u) bx nd u'=ns u'
 le:q<=fr
variable {A:AH} {R:List SP} {r b t:Nat} {T:Tr} {N u:Int} {W W':Int->Int->Int} {F G:Int->Prop}
structure aLt (N:Int) (F G:Int->Prop):Prop where
 inF:∀ x,F x->hasF N [] x=true
 inG:∀ x,G x->hasF N [] x=true
def aIJ (N:Int) (r b t:Nat) (T:Tr) (F G:Int->Prop) (W:Int->Int->Int) (u:Int) (R:List SP):List SP:=RamW r N [] W::Bud b F G (T.fr-u)::TreeS t (T.ns u)::R
theorem vJ {N x:Int}:hasF N [] x=true↔0<=x/\x<N:=by simp [hasF]
def tr0 (n:Int):Tr:=⟨λu=>[⟨-1,n,u,0,true⟩],0,n,n,λu=>⟨-1,n,0,rfl,by omega⟩,λu u' nd h=>by cases h;rfl,Int.le_refl _⟩
theorem aJj {Q:Int->Int->AH->Prop} {n:Int} (h:Own (aIJ N r b t (tr0 n) F G W 0 R) A) (g:aLt N F G) (q:4<=N/\N<=262144) (l:2<=n)
  (m:∀ top mid f W',F top->F mid->KOK N W top [mid] W'->aLt N (λx=>F x/\x ∉ [top,mid]) (λx=>G x\/x ∈ [top,mid])->Own (aIJ N r b t (tr0 n) (λx=>F x/\x ∉ [top,mid]) (λx=>G x\/x ∈ [top,mid]) W' 2 R) f->Q top 0 f) :
  qbq_A (some ⟨r,0,none⟩) (some ⟨b,0,none⟩) (some ⟨t,0,none⟩) 0 Q A:=by
 have k:needK N=1:=by unfold needK;omega
 have h:Own (RamW r N [] W::Bud b F G (n-0)::TreeS t [⟨-1,n,0,0,true⟩]::R) A:=h
 refine aB1 (i:=0) h rfl rfl g.inF (by omega) (λe W' f o _ _=>by
  simp only [k] at o;omega) λ_ _ top s W' f a c p j=>?_
 rw [k] at a;obtain ⟨mid,rfl⟩:=List.length_eq_one_iff.1 a;refine m top mid f W' (c _ (by simp)) (c _ (by simp)) p ⟨λx d=>g.inF x d.1,λx d=>?_⟩ ?_
 .rcases d with d | d
  .exact g.inG x d
  .exact g.inF x (c x d)
 .have j:Own (RamW r N [] W'::Bud b (λx=>F x/\x ∉ [top,mid]) (λx=>G x\/x ∈ [top,mid]) (n-0-2)::TreeS t [⟨-1,n,0+2,0,true⟩]::R) f:=j;rw [show n-0-2=n-2 by omega,show (0:Int)+2=2 by omega] at j;exact j
end Go.Dn
namespace Go.Dn
abbrev Rg:=Int × Int
variable {l:List Rg} {e:Int}
structure InsI (n:Int) (pre next:List Int) (done:Bool):Prop where
 srt:next.Pairwise (· < ·)
 mem:∀ z,z ∈ next↔z ∈ pre\/(done=true/\z=n)
 no:done=false->∀ x ∈ pre,x<n
 top:∀ z ∈ next,∃ x ∈ pre,z<=x
theorem InsI.nil {n:Int}:InsI n [] [] false:=⟨List.Pairwise.nil,by simp,λ_ _ h=>(nomatch h),λ_ h=>nomatch h⟩
theorem mL {l:List Int} {x:Int} (h:l.Pairwise (· < ·)) (c:∀ z ∈ l,z<x):(l++[x]).Pairwise (· < ·):=
 List.pairwise_append.2 ⟨h,List.pairwise_singleton _ _,λa d b f=>by rw [List.mem_singleton.1 f];exact c a d⟩
variable {n x:Int} {pre next:List Int} {done:Bool}
theorem InsI.same (h:InsI n pre next done) (d:∀ y ∈ pre,y<x) (e:x=n):InsI n (pre++[x]) (next++[x]) true:=by
 refine ⟨mL h.srt λz a=>?_,λz=>?_,λq=>(nomatch q),λz a=>?_⟩
 .obtain ⟨y,b,c⟩:=h.top z a;have:=d y b;omega
 .rw [List.mem_append,List.mem_append,h.mem z];simp only [List.mem_singleton];subst e;constructor
  .grind
  .grind
 .rcases List.mem_append.1 a with g | g
  .obtain ⟨y,b,c⟩:=h.top z g;exact ⟨y,by simp [b],c⟩
  .simp_all
theorem InsI.before (h:InsI n pre next false) (b:∀ y ∈ pre,y<x) (e:n<x):InsI n (pre++[x]) (next++[n]++[x]) true:=by
 have c:∀ z ∈ next,z ∈ pre:=λz a=>by
  rcases (h.mem z).1 a with g | ⟨g,_⟩
  .exact g
  .cases g
 refine ⟨mL (mL h.srt λz a=>h.no rfl z (c z a)) λz a=>?_,λz=>?_,λq=>(nomatch q),λz a=>?_⟩
 .grind
 .simp only [List.mem_append,List.mem_singleton,h.mem z];constructor
  .grind
  .grind
 .refine ⟨x,by simp,?_⟩;rcases List.mem_append.1 a with g | g
  .grind
  .simp_all
theorem InsI.pass (h:InsI n pre next done) (d:∀ y ∈ pre,y<x) (e:x≠n) (f:done=true\/¬ x > n):InsI n (pre++[x]) (next++[x]) done:=by
 refine ⟨mL h.srt λz b=>?_,λz=>?_,λq y a=>?_,λz b=>?_⟩
 .obtain ⟨y,a,c⟩:=h.top z b;have:=d y a;omega
 .simp only [List.mem_append,List.mem_singleton,h.mem z];constructor
  .grind
  .grind
 .grind
 .rcases List.mem_append.1 b with g | g
  .obtain ⟨y,a,c⟩:=h.top z g;exact ⟨y,by simp [a],c⟩
  .simp_all
def EndsOf (S:Int->Prop) (es:List Int):Prop:=es.Pairwise (· < ·)/\∀ z,z ∈ es↔S z
theorem InsI.end1 (h:InsI n pre next true):EndsOf (λz=>z ∈ pre\/z=n) next:=⟨h.srt,λz=>by rw [h.mem z];simp⟩
theorem InsI.end0 (h:InsI n pre next false):EndsOf (λz=>z ∈ pre\/z=n) (next++[n]):=by
 refine ⟨mL h.srt λz a=>?_,λz=>?_⟩
 .rcases (h.mem z).1 a with g | ⟨g,_⟩
  .exact h.no rfl z g
  .cases g
 .simp [h.mem z]
end Go.Dn
namespace Go.Dn
variable {A:AH} {l R:List SP} {P:SP} {k:Nat} {s:Sl} {L:List Rg}
def iN (L:List Rg):List Value:=L.flatMap rgE
theorem gY:∀ L:List Rg,(iN L).length=L.length*2
 | []=>rfl
 | y::L=>by
  have:=gY L;unfold iN at this ⊢;rw [List.flatMap_cons,List.length_append,this];simp [rgE];omega
theorem aI0 (a c:List Rg):iN (a++c)=iN a++iN c:=List.flatMap_append
theorem aDU:∀ {L:List Rg} {v:Nat} {y:Rg} {c:Nat} {x:Value},L[v]? = some y->(rgE y)[c]? = some x->(iN L)[v*2+c]? = some x
 | [],v,a,c,x,h,_=>by simp at h
 | b::r,0,a,c,x,h,hc=>by
  simp at h;subst h;have d:c<2:=(List.getElem?_eq_some_iff.1 hc).1;unfold iN;rw [List.flatMap_cons,List.getElem?_append_left (by simp [rgE];omega),Nat.zero_mul,Nat.zero_add];exact hc
 | b::r,v+1,a,c,x,h,hc=>by
  have h:r[v]? = some a:=by simpa using h
  unfold iN;rw [List.flatMap_cons,List.getElem?_append_right (by simp [rgE];omega)];have:(v+1)*2+c-(rgE b).length=v*2+c:=by simp [rgE];omega
  rw [this];exact aDU h hc
theorem rgs_one:∀ {L:List Rg} {v:Value},v ∈ iN L->v.oneCell'=true:=λ{L v} h=>by
 obtain ⟨d,_,a⟩:=List.mem_flatMap.1 h;simp [rgE] at a;rcases a with rfl | rfl<;>rfl
theorem aEP {L:List Rg} (h:iN L=[]):L=[]:=by
 have:=gY L;rw [h] at this;exact List.length_eq_zero_iff.1 (by simp at this;omega)
theorem sS (h:Own l A) (e:l[k]? = some P) (a:Reads P s 2 (iN L)):s.len=L.length:=by
 have:=dV h e a;rw [gY] at this;omega
theorem aEp {v:Nat} {y:Rg} (h:Own l A) (e:l[k]? = some P) (d:Reads P s 2 (iN L)) (f:L[v]? = some y) :
  ∃ a,s.a=some a/\(∀ K:Int->Prop,K y.1->aI .i64 (Addr.add a (Int.toNat (v:Int)*2)) A K)/\∀ K:Int->Prop,K y.2->aI .i64 (Addr.add (Addr.add a (Int.toNat (v:Int)*2)) 1) A K:=by
 obtain ⟨n,o,g,m⟩:=bK h e d (j:=v*2+0) (aDU f (c:=0) rfl);obtain ⟨p,q,i,c1⟩:=bK h e d (j:=v*2+1) (aDU f (c:=1) rfl);rw [g] at i;cases i;refine ⟨_,g,λK b=>⟨_,?_,b⟩,λK b=>⟨_,?_,b⟩⟩
 .rw [add_at,Int.toNat_natCast];exact m
 .rw [add_at,add_at,Int.toNat_natCast,Nat.add_assoc];exact c1
theorem aBs {t:TypeId} {x y:Int} {K:Sl->AP} (h:Own (SlO s 2 (iN L)::R) A) (hs:s.a=none->L=[]) (r:L.length<=1000000)
  (j:∀ s' d,(s'.a=none->L++[(x,y)]=[])->Own (SlO s' 2 (iN (L++[(x,y)]))::R) d->K s' d) :
  aN A (.cells #[.int .i64 x,.int .i64 y] t) λb a=>dM 2 16 #[.int .i64 0,.int .i64 0] t s (Sl.mk (some (Addr.mk b 0 none)) 1 1) a K:=by
 have e:s.len=L.length:=by
  obtain ⟨B,_,m⟩:=h.sat;have:=m.1.1;rw [gY] at this;omega
 refine aT (cs:=[.int .i64 x,.int .i64 y]) h λb u c=>?_;have c:=c.swap;refine dJ (i:=0) c rfl (eI (n:=1) (sz:=2) (cs:=[.int .i64 x,.int .i64 y]) (rest:=[]) rfl) (λg=>nomatch g) (λg=>by rw [hs g];rfl) rfl (λv f=>?_) ⟨by simp only [e];omega,by simp only [e];omega⟩ λs' o w p a=>?_
 .simp at f;rcases f with rfl | rfl<;>rfl
 .refine j s' o (λg=>?_) ?_
  .have:=p g;simp at this
  .rw [aI0];exact Own.cons (λC q=>q.tail) a
theorem aY {sz:Nat} {cs:List Value}:Reads (SlO s sz cs) s sz cs:=λ_ _ h u=>⟨h.look.1,λ_ _ a=>h.look.cell u a⟩
theorem Own.rgs_len (h:Own (SlO s 2 (iN L)::R) A):s.len=L.length:=sS (k:=0) h rfl aY
theorem aLm {sz j:Nat} {cs:List Value} {v:Value} {a:Addr} {K:AP} (h:Own (SlO s sz cs::R) A) (n:s.a=some a) (o:j<cs.length) (p:v.oneCell'=true) (q:∀ g,Own (SlO s sz (cs.set j v)::R) g->K g):aC (Addr.add a j) v A K:=by
 obtain ⟨⟨m,r⟩,t⟩:=h.pure
 have c:Own ((λB=>∃ b rest,s.a=some ⟨b,0,none⟩/\(cs++rest).length=s.cap*sz/\At b (cs++rest) B)::R) A:=t.imp λB d=>by
  rcases d with d | d
  .exfalso;have u:s.len=0:=by omega
   rw [u] at m;simp at m;omega
  .exact d
 obtain ⟨b,c⟩:=c.ex;obtain ⟨rest,c⟩:=c.ex;obtain ⟨f,c⟩:=c.pure;obtain ⟨w,c⟩:=c.pure;rw [n] at f;cases f;rw [add_at,Nat.zero_add];refine bU (i:=0) c rfl (by simp;omega) p λg h'=>q g ?_;have e:(cs++rest).set j v=cs.set j v++rest:=List.set_append_left _ _ o;refine Own.imp (P:=At b (cs.set j v++rest)) (λB d=>⟨⟨by simpa using m,r⟩,.inr ⟨b,rest,n,by simpa using w,d⟩⟩) ?_;rw [<-e];exact h'
theorem Own.nilS {sz:Nat} (h:Own l A):Own (SlO Sl.nil sz []::l) A:=⟨λ_=>none,A,λ_=>.inl rfl,(λ_ _ e=>nomatch e),eU.refl A,SlO.nil,h⟩
theorem Own.openS {sz:Nat} {cs:List Value} (h:Own (SlO s sz cs::R) A) (e:cs≠[]):∃ b rest,s.a=some ⟨b,0,none⟩/\(cs++rest).length=s.cap*sz/\s.len*sz=cs.length/\s.len<=s.cap/\Own (At b (cs++rest)::R) A:=by
 obtain ⟨⟨c,g⟩,i⟩:=h.pure
 have a:Own ((λB=>∃ b rest,s.a=some ⟨b,0,none⟩/\(cs++rest).length=s.cap*sz/\At b (cs++rest) B)::R) A:=i.imp λB d=>by
  rcases d with d | d
  .exfalso;have j:s.len=0:=by omega
   rw [j] at c;simp at c;exact e (List.length_eq_zero_iff.1 c.symm)
  .exact d
 obtain ⟨b,a⟩:=a.ex;obtain ⟨rest,a⟩:=a.ex;obtain ⟨f,a⟩:=a.pure;obtain ⟨m,a⟩:=a.pure;exact ⟨b,rest,f,m,c,g,a⟩
theorem Own.shutS {sz b:Nat} {cs rest:List Value} (h:Own (At b (cs++rest)::R) A) (a:s.a=some ⟨b,0,none⟩) (c:(cs++rest).length=s.cap*sz) (d:s.len*sz=cs.length) (e:s.len<=s.cap):Own (SlO s sz cs::R) A:=
 h.imp λ_ f=>⟨⟨d,e⟩,.inr ⟨b,rest,a,c,f⟩⟩
end Go.Dn
namespace Go.Dn
open Go.Proofs
variable {A:AH} {l R:List SP} {P:SP} {k:Nat} {s:Sl} {L:List Rg}
theorem aCm {Q:Sl->AH->Prop} (h:Own l A) (e:l[k]? = some P) (b:Reads P s 2 (iN L)) (t:L.length<=1000000) (d:s.a=none->L=[])
  (f:∀ s' j,(s'.a=none->L=[])->Own (SlO s' 2 (iN L)::l) j->Q s' j):qae_A s Q A:=by
 have m:=sS h e b;unfold qae_A;refine bsel_in (λc=>?_) λc=>?_
 .have n:=d (by simp_all);subst n;exact f _ A (λ_=>rfl) h.nilS
 .refine aT (cs:=[]) h λo p a=>?_;have a:Own (SlO ⟨some ⟨o,0,none⟩,0,0⟩ 2 []::l) p:=a.imp λB _=>⟨⟨by simp,Nat.le_refl _⟩,.inl rfl⟩;refine dJ (i:=k) a e b (λg=>by rw [d g];rfl) (λg=>by cases g) rfl (λv q=>rgs_one q) ⟨by simp only [m];omega,by simp only [m];omega⟩ λs' r u w x=>?_;exact f s' r (λg=>aEP (by simp_all)) (by simp_all)
def bad (r:Rg):Bool:=decide (r.2<=r.1)
theorem jR {α:Type} {L:List α} {v:Nat} {y:α} (h:L[v]? = some y):L.drop v=y::L.drop (v+1):=by
 obtain ⟨a,e⟩:=List.getElem?_eq_some_iff.1 h;rw [List.drop_eq_getElem_cons a,e]
theorem dX {α:Type} {L:List α} {v:Nat} {y:α} (h:L[v]? = some y):L.take (v+1)=L.take v++[y]:=by
 obtain ⟨a,e⟩:=List.getElem?_eq_some_iff.1 h;rw [List.take_add_one,h];rfl
theorem zH {z:Array Value} {n:Nat} (hz:∀ v ∈ z.toList,v.oneCell'=true):∀ v ∈ (Builtin.zeroCells z n).toList,v.oneCell'=true:=λv hv=>by
 have hv:=Array.mem_toList_iff.1 hv;unfold Builtin.zeroCells at hv;obtain ⟨i,hi,rfl⟩:=Array.mem_map.1 hv;have hi:=Array.mem_range.1 hi;have h0:0<z.size:=by grind
 have hlt:i % z.size<z.size:=Nat.mod_lt _ h0;rw [getElem!_pos z _ hlt];exact hz _ (by simp)
def good (r:Rg):Bool:=!bad r
theorem aFu {K:AP} (h:Own (SlO s 2 (iN L)::R) A) (hs:s.a=none->L=[]) (J:L.length<=1000000)
  (z:∀ d':List Rg,d'.Perm L->d'.Pairwise (λx y=>x.1<=y.1)->∀ m,Own (SlO s 2 (iN d')::R) m->K m):qai_A s K A:=by
 have C:=h.rgs_len;unfold qai_A;have e:∀ d':List Rg,d'.Pairwise (λx y=>ltOf aCS y x=false)->d'.Pairwise (λx y=>x.1<=y.1):=λd' n=>n.imp λ{x y} g=>by rw [aKe] at g;simp at g;exact g
 by_cases f:L=[]
 .subst f;have o:s.len=0:=by simpa using C
  refine ⟨[],by simp [o],by omega,?_,λa d i hi=>by rw [o] at hi;omega,λd' p n=>?_⟩
  .cases d:s.a with
   | none=>rfl
   | some a=>exact ⟨by simp [o],λi hi=>by rw [o] at hi;omega⟩
  .have:=p.eq_nil;subst this;have q:zB s.a 0 [] A K↔K A:=by cases s.a<;>exact Iff.rfl
   show zB s.a 0 [] A K;rw [q];exact z [] (List.Perm.refl _) List.Pairwise.nil A h
 .have E:iN L≠[]:=λg=>f (aEP g);obtain ⟨b,rest,d,F,r,w,D⟩:=h.openS E;obtain ⟨B,u,G⟩:=h.sat;obtain ⟨t,H⟩:=D.at (i:=0) rfl;refine ⟨L,C.symm,by omega,?_,λa j i hi=>?_,λd' p n=>?_⟩
  .exact aA1 G.look u (λg=>by rw [d] at g;cases g)
  .rw [d] at j;cases j;rw [add_at];simp [uX,H]
  .rw [d];have c:d'.length=L.length:=p.length_eq;show vB (iN d') (Addr.add ⟨b,0,none⟩ 0) 0 A K;rw [add_at];refine iW (iN d') 0 A [] (iN L) rest K D (by rw [gY,gY,c]) rfl (λv I=>rgs_one I) λm h'=>?_;refine z d' p (e d' n) m (Own.shutS h' d ?_ ?_ w)
   .rw [<-F];simp [gY,c]
   .rw [r,gY,gY,c]
end Go.Dn
namespace Go.Dn
abbrev Ar:=Int × Int × Int
variable {A:AH} {l:List SP} {P:SP} {k:Nat} {s:Sl} {bs:List Int}
def tO (L:List Ar):List Value:=L.flatMap fJ
def zJ (x:Ar):Bool:=!decide (IntKind.u64.wrap (x.1+x.2.1)<x.1)
theorem zT {x:Ar}:zJ x=true↔areaOK x:=by simp [zJ,areaOK]
def gG (bs:List Int):Int × List Ar:=
 if 1280<bs.length then (4,[]) else if bs.length % 20≠0 then (14,[]) else
 if (lA (bs.length / 20)).all (λi=>zJ (areaZ bs i)) then (0,(lA (bs.length / 20)).map (areaZ bs)) else (3,[])
theorem aCG:∀ L:List Ar,(tO L).length=L.length*3
 | []=>rfl
 | y::L=>by
  have:=aCG L;unfold tO at this ⊢;rw [List.flatMap_cons,List.length_append,this];simp [fJ];omega
theorem wC:∀ {L:List Ar} {v:Nat} {y:Ar} {c:Nat} {x:Value},L[v]? = some y->(fJ y)[c]? = some x->(tO L)[v*3+c]? = some x
 | [],v,a,c,x,h,_=>by simp at h
 | b::r,0,a,c,x,h,hc=>by
  simp at h;subst h;have d:c<3:=(List.getElem?_eq_some_iff.1 hc).1;unfold tO;rw [List.flatMap_cons,List.getElem?_append_left (by simp [fJ];omega),Nat.zero_mul,Nat.zero_add];exact hc
 | b::r,v+1,a,c,x,h,hc=>by
  have h:r[v]? = some a:=by simpa using h
  unfold tO;rw [List.flatMap_cons,List.getElem?_append_right (by simp [fJ];omega)];have:(v+1)*3+c-(fJ b).length=v*3+c:=by simp [fJ];omega
  rw [this];exact wC h hc
theorem aM5 {L:List Ar} {v:Nat} {y:Ar} (h:Own l A) (e:l[k]? = some P) (d:Reads P s 3 (tO L)) (f:L[v]? = some y) :
  ∃ a,s.a=some a/\(∀ K:Int->Prop,K y.1->aI .u64 (Addr.add a (Int.toNat (v:Int)*3)) A K)/\(∀ K:Int->Prop,K y.2.1->aI .u64 (Addr.add (Addr.add a (Int.toNat (v:Int)*3)) 1) A K)/\
   ∀ K:Int->Prop,K y.2.2->aI .u32 (Addr.add (Addr.add a (Int.toNat (v:Int)*3)) 2) A K:=by
 obtain ⟨p,o,g,n⟩:=bK h e d (j:=v*3+0) (wC f (c:=0) rfl);obtain ⟨q,r,i,c1⟩:=bK h e d (j:=v*3+1) (wC f (c:=1) rfl);obtain ⟨t,u,m,c2⟩:=bK h e d (j:=v*3+2) (wC f (c:=2) rfl);rw [g] at i m;cases i;cases m;refine ⟨_,g,λK b=>⟨_,?_,b⟩,λK b=>⟨_,?_,b⟩,λK b=>⟨_,?_,b⟩⟩
 .rw [add_at,Int.toNat_natCast];exact n
 .rw [add_at,add_at,Int.toNat_natCast,Nat.add_assoc];exact c1
 .rw [add_at,add_at,Int.toNat_natCast,Nat.add_assoc];exact c2
theorem aGi {L:List Ar} (h:Own l A) (e:l[k]? = some P) (a:Reads P s 3 (tO L)):s.len=L.length:=by
 have:=dV h e a;rw [aCG] at this;omega
def byV (x:Int):Value:=.int .u8 x
theorem aDE {K:Sl->Int->AP} (h:Own l A) (e:l[k]? = some P) (v:Reads P s 1 (bs.map byV)) (d:s.len<=s.cap) (z:s.a=none->bs=[]) (C:∀ x ∈ bs,0<=x/\x<256)
  (b:∀ s' w,(s'.a=none->(gG bs).2=[])->Own (SlO s' 3 (tO (gG bs).2)::l) w->K s' (gG bs).1 w):qac_A s K A:=by
 have D:s.len=bs.length:=by have:=dV h e v;simp at this;omega
 obtain ⟨B,u,p⟩:=h.get e
 have f:oU A s.a s.len (bs.map (.int .u8)):=by
  have E:=v B A p u;have n:=aEr E (λg=>by rw [z g];rfl);rw [Nat.mul_one] at n;exact n
 unfold qac_A;refine ⟨bs,D.symm,d,C,f,λg=>?_,λy r=>?_,λy r t=>?_,λy r t=>⟨λo=>?_,λcap a o F G H=>?_⟩⟩
 .have c:gG bs=(4,[]):=by unfold gG;rw [if_pos g]
  rw [c] at b;exact b Sl.nil A (λ_=>rfl) h.nilS
 .have c:gG bs=(14,[]):=by unfold gG;rw [if_neg (by omega),if_pos r]
  rw [c] at b;exact b Sl.nil A (λ_=>rfl) h.nilS
 .have c:gG bs=(3,[]):=by
   unfold gG;rw [if_neg (by omega),if_neg (by omega),if_neg];intro o;obtain ⟨i,hi,j⟩:=t;exact j (zT.1 (List.all_eq_true.1 o i (by simpa [lA] using hi)))
  rw [c] at b;exact b Sl.nil A (λ_=>rfl) h.nilS
 all_goals
  have c:gG bs=(0,(lA (bs.length / 20)).map (areaZ bs)):=by
   unfold gG;rw [if_neg (by omega),if_neg (by omega),if_pos];exact List.all_eq_true.2 λi hi=>zT.2 (t i (by simpa [lA] using hi))
  rw [c] at b
 .rw [o] at b;exact b Sl.nil A (λ_=>rfl) h.nilS
 .intro g I;have J:tO ((lA (bs.length / 20)).map (areaZ bs))=(lA (bs.length / 20)).flatMap λi=>fJ (areaZ bs i):=by unfold tO;rw [List.flatMap_map]
  refine b _ _ (λq=>nomatch q) ?_
  dsimp only
  rw [J,<- H];have m:(a.toList.take (bs.length / 20*3)).length=bs.length / 20*3:=by grind
  have n:(a.toList.take (bs.length / 20*3)++a.toList.drop (bs.length / 20*3)).toArray=a:=by rw [List.take_append_drop]
  have L:(a.toList.take (bs.length / 20*3)++a.toList.drop (bs.length / 20*3)).length=cap*3:=by rw [List.take_append_drop];exact G
  exact h.new I λB p=>⟨⟨m.symm,F⟩,.inr ⟨g,a.toList.drop (bs.length / 20*3),rfl,L,⟨_,by rw [n];exact p⟩⟩⟩
def frP (a:Ar) (most:Int):Rg:=
 let f:=if a.2.2=1 then (a.1+4095) / 4096 else a.1 / 4096
 let t:=if a.2.1=0 then f else if a.2.2=1 then (a.1+a.2.1) / 4096 else (a.1+a.2.1+4095) / 4096
 (if most<f then most else f,if most<t then most else t)
def ArB (a:Ar):Prop:=0<=a.1/\0<=a.2.1/\a.1+a.2.1<18446744073709551616/\0<=a.2.2/\a.2.2<4294967296
theorem aCj {a:Ar} {most:Int} {Q:Int->Int->AH->Prop} (i:ArB a) (K:1<=most) (L:most<=2097152) (h:Q (frP a most).1 (frP a most).2 A):qad_A a.1 a.2.1 a.2.2 most Q A:=by
 obtain ⟨x,n,c⟩:=a;obtain ⟨d,j,m,o,p⟩:=i;simp only at d j m o p h ⊢;unfold qad_A;have q:IntKind.wrap .u64 (x+n)=x+n:=dO (by omega) (by omega);have r:IntKind.wrap .u64 most=most:=dO (by omega) (by omega);have u:Int.tdiv x 4096=x / 4096:=kM d;have t2:Int.tdiv (x+n) 4096=(x+n) / 4096:=kM (by omega);have v:Int.tmod x 4096=x % 4096:=rL d;have w:Int.tmod (x+n) 4096=(x+n) % 4096:=rL (by omega);have z:IntKind.wrap .u64 (x / 4096)=x / 4096:=dO (by omega) (by omega);have B:IntKind.wrap .u64 ((x+n) / 4096)=(x+n) / 4096:=dO (by omega) (by omega);have C:IntKind.wrap .u64 (x / 4096+1)=x / 4096+1:=dO (by omega) (by omega);have D:IntKind.wrap .u64 ((x+n) / 4096+1)=(x+n) / 4096+1:=dO (by omega) (by omega);rw [q,r,u,t2,v,w,z,B,C,D];have b:∀ y:Int,0<=y->IntKind.wrap .i64 (if most<y then most else y)=if most<y then most else y:=λy M=>by rw [w64]<;>split<;>omega
 refine ⟨λf t h'=>h'=A/\0<=f/\0<=t/\f=(if c=1 then (x+4095) / 4096 else x / 4096)/\(n≠0->t=if c=1 then (x+n) / 4096 else (x+n+4095) / 4096),?_,?_⟩
 .intro f t E ⟨e1,F,N,G,O⟩;subst e1;refine ⟨λt' h'=>h'=E/\0<=t'/\t'=if n=0 then f else if c=1 then (x+n) / 4096 else (x+n+4095) / 4096,?_,?_⟩
  .intro t' R ⟨H,I,J⟩;subst H;rw [b f F,b t' I,J,G];exact h
  .refine bsel_in (λg=>?_) λg=>?_
   .simp_all
   .simp_all
 .refine bsel_in (λg=>bsel_in (λe=>?_) λe=>?_) λg=>bsel_in (λe=>?_) λe=>?_
  .grind
  .grind
  .grind
  .grind
end Go.Dn
namespace Go.Dn
variable {A:AH} {l:List SP} {k:Nat}
def leB:Nat->Int->List Int
 | 0,_=>[]
 | k+1,n=>n % 256::leB k (n / 256)
theorem cY:∀ (k:Nat) (n:Int),(leB k n).length=k
 | 0,_=>rfl
 | k+1,n=>by simp [leB,cY k]
theorem wE:∀ (k:Nat) (n:Int) (i:Nat),i<k->(leB k n)[i]? = some (n / 2 ^ (8*i) % 256)
 | 0,_,_,h=>by omega
 | k+1,n,0,_=>by simp [leB]
 | k+1,n,i+1,h=>by
  have a:=wE k (n / 256) i (by omega)
  have b:n / 256 / 2 ^ (8*i)=n / 2 ^ (8*(i+1)):=by
   rw [Int.ediv_ediv_of_nonneg (by omega)];congr 1;rw [Nat.mul_add,Int.pow_add,Int.mul_comm];rfl
  rw [b] at a;simpa [leB] using a
theorem qR:∀ (k:Nat) (n:Int),0<=n->n<256 ^ k->mG (leB k n)=n
 | 0,n,h0,h1=>by simp at h1;simp [leB,mG];omega
 | k+1,n,h0,h1=>by
  rw [Int.pow_succ] at h1;have:=qR k (n / 256) (by omega) (by omega);simp only [leB,mG,this];omega
theorem vP:∀ (k:Nat) (n:Int),∀ x ∈ leB k n,0<=x/\x<256
 | 0,_,_,h=>nomatch h
 | k+1,n,x,h=>by
  rcases List.mem_cons.1 h with rfl | h
  .omega
  .exact vP k _ x h
def entB (a:Ar):List Int:=leB 8 a.1++leB 8 a.2.1++leB 4 a.2.2
theorem sG (a:Ar):(entB a).length=20:=by simp [entB,cY]
theorem aGT (a:Ar):∀ x ∈ entB a,0<=x/\x<256:=λx h=>by
 rcases List.mem_append.1 h with h | h
 .rcases List.mem_append.1 h with h | h
  .exact vP _ _ x h
  .exact vP _ _ x h
 .exact vP _ _ x h
theorem aLC {n:Int} {i c:Nat} (h:8*i<=c) (hi:i<8):IntKind.wrap .u8 (Int.fdiv n (2 ^ (min (Int.toNat (IntKind.wrap .i64 ((8:Int)*(i:Int)))) c)))=n / 2 ^ (8*i) % 256:=by
 have a:IntKind.wrap .i64 ((8:Int)*(i:Int))=((8*i:Nat):Int):=by rw [w64]<;>omega
 rw [a,Int.toNat_natCast,Nat.min_eq_left h,qC,wu8]
theorem aDk {a:Ar} {Q:Sl->AH->Prop} (h:Own l A) (H:∀ s' z,s'.a≠none->Own (SlO s' 1 ((entB a).map byV)::l) z->Q s' z):qaa_A a.1 a.2.1 a.2.2 Q A:=by
 unfold qaa_A
 have d:(madeCells #[Value.int .u8 0] (20*1))=((List.replicate 20 (byV 0)).toArray):=by
  have I:(λx:Nat=>(#[Value.int .u8 0]:Array Value)[x % (#[Value.int .u8 0]:Array Value).size]!)=λ_=>byV 0:=by
   funext x;simp [Nat.mod_one,byV]
  show Array.map (λx:Nat=>(#[Value.int .u8 0]:Array Value)[x % (#[Value.int .u8 0]:Array Value).size]!) (Array.range (20*1))=_;rw [I];apply Array.ext';simp only [Array.toList_map,Array.toList_range];rfl
 rw [d];refine aT (cs:=List.replicate 20 (byV 0)) h λb O J=>?_
 refine ⟨λx m h'=>∃ (v:Nat) (cs:List Int),x=v/\m+v=8/\cs.length=20/\(∀ i,i<v->cs[i]? = some (a.1 / 2 ^ (8*i) % 256)/\cs[8+i]? = some (a.2.1 / 2 ^ (8*i) % 256))/\Own (At b (cs.map byV)::l) h',
  ⟨8,0,List.replicate 20 0,rfl,rfl,rfl,λi hi=>by omega,by simpa using J⟩,?_⟩
 intro x m P ⟨v,cs,e1,R,o,C,D⟩;subst e1;refine bsel_in (λc=>?_) λc=>?_
 .have c:(v:Int)<8:=of_decide_eq_true c;have p:¬ IntKind.wrap .i64 ((8:Int)*(v:Int))<0:=by rw [w64]<;>omega
  refine bsel_f (by simpa using p) (inB_in (by omega) (by omega) ?_);rw [add_at,Int.toNat_natCast,aLC (by omega) (by omega)];refine bU (i:=0) D rfl (by simp [o];omega) rfl λE f=>?_;refine bsel_f (by simpa using p) ?_;have e:IntKind.wrap .i64 ((8:Int)+(v:Int))=((8+v:Nat):Int):=by rw [w64]<;>omega
  rw [e,aLC (by omega) (by omega)];refine inB_in (by omega) (by omega) ?_;rw [add_at,Int.toNat_natCast];refine bU (i:=0) f rfl (by simp [o];omega) rfl λK n=>?_;refine ⟨m-1,by omega,v+1,(cs.set v (a.1 / 2 ^ (8*v) % 256)).set (8+v) (a.2.1 / 2 ^ (8*v) % 256),by rw [w64]<;>omega,by omega,by simp [o],λi hi=>?_,?_⟩
  .rcases Nat.lt_or_eq_of_le (Nat.le_of_lt_succ hi) with g | g
   .obtain ⟨r,s⟩:=C i g;refine ⟨?_,?_⟩
    .rw [List.getElem?_set_ne (by omega),List.getElem?_set_ne (by omega)];exact r
    .rw [List.getElem?_set_ne (by omega),List.getElem?_set_ne (by omega)];exact s
   .subst g;refine ⟨?_,?_⟩
    .rw [List.getElem?_set_ne (by omega),List.getElem?_set_self (by omega)]
    .rw [List.getElem?_set_self (by simp;omega)]
  .rw [List.map_set,List.map_set];simp only [Nat.zero_add,Nat.mul_one,List.set_cons_zero] at n;exact n
 .have c:¬ (v:Int)<8:=of_decide_eq_false c;have t:v=8:=by omega
  subst t
  refine ⟨λx m h'=>∃ (v:Nat) (cs:List Int),x=v/\m+v=4/\cs.length=20/\(∀ i,i<8->cs[i]? = some (a.1 / 2 ^ (8*i) % 256)/\cs[8+i]? = some (a.2.1 / 2 ^ (8*i) % 256))/\(∀ i,i<v->cs[16+i]? = some (a.2.2 / 2 ^ (8*i) % 256))/\Own (At b (cs.map byV)::l) h',
   ⟨4,0,cs,rfl,rfl,o,C,λi hi=>by omega,D⟩,?_⟩
  intro x L E ⟨v,cs,M,S,F,u,G,f⟩;subst M;refine bsel_in (λc=>?_) λc=>?_
  .have c:(v:Int)<4:=of_decide_eq_true c;have p:¬ IntKind.wrap .i64 ((8:Int)*(v:Int))<0:=by rw [w64]<;>omega
   refine bsel_f (by simpa using p) ?_;have e:IntKind.wrap .i64 ((16:Int)+(v:Int))=((16+v:Nat):Int):=by rw [w64]<;>omega
   rw [e,aLC (by omega) (by omega)];refine inB_in (by omega) (by omega) ?_;rw [add_at,Int.toNat_natCast];refine bU (i:=0) f rfl (by simp [F];omega) rfl λK n=>?_;refine ⟨L-1,by omega,v+1,cs.set (16+v) (a.2.2 / 2 ^ (8*v) % 256),by rw [w64]<;>omega,by omega,by simp [F],λi hi=>?_,λi hi=>?_,?_⟩
   .obtain ⟨r,s⟩:=u i hi;rw [List.getElem?_set_ne (by omega),List.getElem?_set_ne (by omega)];exact ⟨r,s⟩
   .rcases Nat.lt_or_eq_of_le (Nat.le_of_lt_succ hi) with g | g
    .rw [List.getElem?_set_ne (by omega)];exact G i g
    .subst g;rw [List.getElem?_set_self (by omega)]
   .rw [List.map_set];simp only [Nat.zero_add,Nat.mul_one,List.set_cons_zero] at n;exact n
  .have c:¬ (v:Int)<4:=of_decide_eq_false c;have t:v=4:=by omega
   subst t
   have w:cs=entB a:=by
    apply List.ext_getElem?;intro j;by_cases y:j<8
    .rw [(u j y).1];unfold entB;rw [List.append_assoc,List.getElem?_append_left (by rw [cY];exact y),wE 8 _ j y]
    .by_cases T:j<16
     .have:=(u (j-8) (by omega)).2;rw [show 8+(j-8)=j by omega] at this;rw [this];unfold entB;rw [List.getElem?_append_left (by simp [cY];omega),List.getElem?_append_right (by rw [cY];omega),cY,wE 8 _ (j-8) (by omega)]
     .by_cases U:j<20
      .have:=G (j-16) (by omega);rw [show 16+(j-16)=j by omega] at this;rw [this];unfold entB;rw [List.getElem?_append_right (by simp [cY];omega),List.length_append,cY,cY,wE 4 _ (j-16) (by omega)]
      .rw [List.getElem?_eq_none (by omega),List.getElem?_eq_none (by rw [sG];omega)]
   rw [w] at f;refine H _ E (λq=>nomatch q) (Own.imp (λB N=>⟨⟨by simp [sG],Nat.le_refl _⟩,.inr ⟨b,[],rfl,by simp [sG],by simpa using N⟩⟩) f)
end Go.Dn
namespace Go.Dn
def ArW (a:Ar):Prop:=(0<=a.1/\a.1<18446744073709551616)/\(0<=a.2.1/\a.2.1<18446744073709551616)/\0<=a.2.2/\a.2.2<4294967296
theorem aFK {a:Ar} (e:ArW a):areaZ (entB a) 0=a:=by
 obtain ⟨⟨f,g⟩,⟨h,i⟩,j,l⟩:=e
 have tk:∀ (k:Nat) (n:Int) (r:List Int),(leB k n++r).take k=leB k n:=λk n r=>by
  rw [List.take_append_of_le_length (by rw [cY];omega),List.take_of_length_le (by rw [cY];omega)]
 have c:entB a=leB 8 a.1++(leB 8 a.2.1++leB 4 a.2.2):=by unfold entB;simp
 have d:(entB a).drop 8=leB 8 a.2.1++leB 4 a.2.2:=by
  rw [c,List.drop_append_of_le_length (by simp [cY]),List.drop_of_length_le (by simp [cY])];rfl
 have b:(entB a).drop 16=leB 4 a.2.2:=by
  rw [show 16=8+8 from rfl,<- List.drop_drop,d,List.drop_append_of_le_length (by simp [cY]),List.drop_of_length_le (by simp [cY])];rfl
 have e1:((entB a).drop (20*0)).take 8=leB 8 a.1:=by rw [Nat.mul_zero,List.drop_zero,c,tk]
 have m:((entB a).drop (20*0+8)).take 8=leB 8 a.2.1:=by rw [Nat.mul_zero,Nat.zero_add,d,tk]
 have o:((entB a).drop (20*0+16)).take 4=leB 4 a.2.2:=by rw [Nat.mul_zero,Nat.zero_add,b,List.take_of_length_le (by simp [cY])]
 unfold areaZ;rw [e1,m,o,qR _ _ f (by simpa using g),qR _ _ h (by simpa using i),qR _ _ j (by simpa using l)]
theorem aFX {a:Ar} (b:ArW a) (c:zJ a=true):gG (entB a)=(0,[a]):=by
 unfold gG;rw [sG,if_neg (by omega),if_neg (by omega)];have:lA (20 / 20)=[0]:=rfl;rw [this];simp [aFK b,c]
end Go.Dn
namespace Go.Dn
structure Mb where
 N:Int
 r:Nat
 b:Nat
 t:Nat
 m:Nat
 tl:Nat
 tg:Nat
 sp:Nat
 kern:Int
 T:Tr
variable {A:AH} {R:List SP} {tl:List Int}
theorem Own.capS6 {s:Sl} {sz:Nat} {cs:List Value} (h:Own (SlO s sz cs::R) A):s.len<=s.cap:=by
 obtain ⟨B,_,a⟩:=h.sat;exact a.1.2
end Go.Dn
namespace Go.Dn
variable {A:AH} {R:List SP} {root box:Int} {p:Nat} {s:Sl} {regs:List Reg} {lent:List (Int × Int)}
def mY (p lm:Nat) (box root:Int) (s:Sl) (regs:List Reg) (lent:List (Int × Int)):List SP:=[At p [.int .i64 box,.int .i64 root,.slice s.a s.len s.cap,.map (some lm)],SlO s 6 (regC regs),MapI lm .i64 (ivs lent)]
def OneS (p:Nat) (box root:Int) (s:Sl) (regs:List Reg) (lent:List (Int × Int)):SP:=λB=>∃ lm,Own (mY p lm box root s regs lent) B
theorem OneS.openH (h:Own (OneS p box root s regs lent::R) A):∃ lm,Own (mY p lm box root s regs lent++R) A:=by
 obtain ⟨lm,h⟩:=Own.ex h;exact ⟨lm,Own.flat h⟩
theorem OneS.closeH {lm:Nat} (h:Own (mY p lm box root s regs lent++R) A):Own (OneS p box root s regs lent::R) A:=h.app.imp λ_ a=>⟨lm,a⟩
def ptrV (p:Nat):Value:=.pointer (some ⟨p,0,none⟩)
theorem aIH {aw au:Bool}:bits .or .i64 ((if aw then 2 else 0)+(if au then 4 else 0)) 16=(if aw then 2 else 0)+(if au then 4 else 0)+16:=by
 cases aw<;>cases au<;>decide
theorem aHX {aw au af:Bool}:bits .or .i64 (gX aw au af) 1=gX aw au af+1:=by
 cases aw<;>cases au<;>cases af<;>decide
end Go.Dn
namespace Go.Dn
structure PcOK (z:PcZ):Prop where
 ok:z.OK
 to:∀ id t,z.tag.lookup id=some t->z.own.lookup t=some id/\1<=t/\t<z.next
 back:∀ t id,z.own.lookup t=some id->z.tag.lookup id=some t
 ndo:(z.own.map (·.1)).Nodup
 ndt:(z.tag.map (·.1)).Nodup
theorem tM {k v:Int}:∀ {m:List (Int × Int)},(m.map (·.1)).Nodup->((putZ m k v).map (·.1)).Nodup/\∀ x ∈ (putZ m k v).map (·.1),x=k\/x ∈ m.map (·.1)
 | [],_=>by simp [putZ]
 | q::m,h=>by
  rw [List.map_cons,List.nodup_cons] at h;obtain ⟨c,b⟩:=tM (k:=k) (v:=v) (m:=m) h.2;unfold putZ;by_cases g:q.1=k
  .rw [if_pos g];refine ⟨?_,λx a=>?_⟩
   .rw [List.map_cons,List.nodup_cons];exact ⟨by rw [<-g];exact h.1,h.2⟩
   .rw [List.map_cons] at a;rcases List.mem_cons.1 a with e | e
    .exact .inl e
    .exact .inr (List.mem_cons_of_mem _ e)
  .rw [if_neg g];refine ⟨?_,λx a=>?_⟩
   .rw [List.map_cons,List.nodup_cons];refine ⟨λd=>?_,c⟩;rcases b _ d with e | e
    .exact g e
    .exact h.1 e
   .rw [List.map_cons] at a;rcases List.mem_cons.1 a with e | e
    .exact .inr (by rw [e];simp)
    .rcases b x e with e | e
     .exact .inl e
     .exact .inr (List.mem_cons_of_mem _ e)
abbrev Vw:=Int->Int->Option Lf
def vw (z:PcZ) (LF:Vw):Vw:=λt p=>match z.own.lookup t with | some id=>LF id p | none=>none
def LnOK (V:Vw) (ls:List Ln):Prop:=∀ y ∈ ls,y.v=true->y.g=false/\∃ x,V y.tag y.page=some x/\y.frame=x.frame/\y.w=x.w/\y.u=x.u/\y.x=x.x
variable {z:PcZ} {LF LF' V:Vw} {ls:List Ln} {id page:Int}
theorem pcNew_ok {n:Int} (h:1<=n/\n<=4095):PcOK (kH n):=⟨⟨h.1,h.2,by simp [kH],by simp [kH];omega⟩,λid t e=>by simp [kH] at e,(λt id e=>by simp [kH] at e),by simp [kH],by simp [kH]⟩
theorem LnOK.mono (b:LnOK (vw z LF) ls) (h:∀ id p x,LF id p=some x->LF' id p=some x):LnOK (vw z LF') ls:=λy c d=>by
 obtain ⟨f,x,a,g⟩:=b y c d;refine ⟨f,x,?_,g⟩;unfold vw at a ⊢;cases e:z.own.lookup y.tag with
 | none=>rw [e] at a;cases a
 | some id=>rw [e] at a;exact h _ _ _ a
theorem LnOK.new {n:Nat}:LnOK V (List.replicate n ln0):=λy b a=>by
 rw [(List.mem_replicate.1 b).2] at a;cases a
end Go.Dn
namespace Go.Dn
variable {A:AH} {R:List SP} {p:Nat} {ls:List Ln}
def o8 (tag page:Int) (y:Ln):Ln:=if fitsB tag page y=true then ln0 else y
def yS (tag:Int) (y:Ln):Ln:=if (y.tag==tag&&!y.g)=true then ln0 else y
theorem aDj {tag page:Int} {Q:AH->Prop} (h:Own (TlbS p ls::R) A) (E:∀ a,Own (TlbS p (ls.map (o8 tag page))::R) a->Q a):qem_A (some ⟨p,0,none⟩) tag page Q A:=by
 obtain ⟨N,h⟩:=TlbS.openH h;unfold qem_A qem_G qel_A qel_G;refine aT (cs:=[.int .i64 tag]) h λl O F=>?_;refine aT (cs:=[.int .i64 page]) F λb P t=>?_;have t:=Own.rot3 t;refine ⟨λx u a=>∃ i:Nat,x=i/\u+i=8/\Own (At p (lnC (eG (o8 tag page) (i*2) ls))::At b [.int .i64 page]::At l [.int .i64 tag]::R) a,⟨8,0,rfl,rfl,by simpa [wQ] using t⟩,?_⟩;intro x u G ⟨i,e1,S,v⟩;subst e1;refine bsel_in (λc=>?_) λc=>?_
 .have c:(i:Int)<8:=of_decide_eq_true c;refine ⟨λx w a=>∃ j:Nat,x=j/\w+j=2/\Own (At p (lnC (eG (o8 tag page) (i*2+j) ls))::At b [.int .i64 page]::At l [.int .i64 tag]::R) a,⟨2,0,rfl,rfl,v⟩,?_⟩;intro x w H ⟨j,I,T,d⟩;subst I;refine bsel_in (λc2=>?_) λc2=>?_
  .have c2:(j:Int)<2:=of_decide_eq_true c2;obtain ⟨y,q⟩:∃ y,ls[i*2+j]? = some y:=⟨ls[i*2+j]'(by omega),by simp⟩;refine ⟨λa=>Own (At p (lnC (eG (o8 tag page) (i*2+(j+1)) ls))::At b [.int .i64 page]::At l [.int .i64 tag]::R) a,λJ r=>⟨w-1,by omega,j+1,by rw [w64]<;>omega,by omega,r⟩,?_⟩;simp only [aJ,add_at,Nat.zero_add,Int.toNat_natCast];refine inB_in (by omega) c (inB_in (by omega) c2 ?_);refine aKM (i:=0) (k:=i*2+j) d rfl (mJ q) (by omega) ?_;unfold qek_A qek_G qej_A;simp only [aJ];refine bQ (i:=2) d rfl rfl (bQ (i:=1) d rfl rfl ?_)
   have keep:fitsB tag page y=false->Own (At p (lnC (eG (o8 tag page) (i*2+(j+1)) ls))::At b [.int .i64 page]::At l [.int .i64 tag]::R) H:=λg=>by
    rw [<-Nat.add_assoc,xH q (by unfold o8;rw [g];rfl)];exact d
   have D:fitsB tag page y=true->_:=λg=>inB_in (by omega) c (inB_in (by omega) c2 (aKL (m:=ln0) (K:=λa=>Own (At p (lnC (eG (o8 tag page) (i*2+(j+1)) ls))::At b [.int .i64 page]::At l [.int .i64 tag]::R) a) d (mJ q) (o:=i*18+j*9) (by omega) λJ r=>by
    have e:o8 tag page y=ln0:=by unfold o8;rw [if_pos g]
    rw [<-e,qA q,Nat.add_assoc] at r;exact r))
   refine bsel_in (λf=>bsel_in (λn=>bsel_in (λs=>aG rfl (D (by unfold fitsB;rw [f,n,s];rfl))) λs=>?_) λn=>bsel_f rfl (keep (by unfold fitsB;rw [f,n];rfl))) λf=>bsel_f rfl (keep (by unfold fitsB;rw [f];rfl));exact bsel_in (λB=>D (by unfold fitsB;rw [f,n,s,B];rfl)) λB=>keep (by unfold fitsB;rw [f,n,s,B];rfl)
  .have c2:¬(j:Int)<2:=of_decide_eq_false c2;have L:j=2:=by omega
   subst L;exact ⟨u-1,by omega,i+1,by rw [w64]<;>omega,by omega,by rw [show (i+1)*2=i*2+2 by omega];exact d⟩
 .have c:¬(i:Int)<8:=of_decide_eq_false c;have hi:i=8:=by omega
  subst hi;rw [zQ _ (by omega)] at v;exact E G (TlbS.closeH (by simp_all) (v.cons λC M=>M.tail.tail))
theorem aFR {tag:Int} {Q:AH->Prop} (h:Own (TlbS p ls::R) A) (t:∀ a,Own (TlbS p (ls.map (yS tag))::R) a->Q a):qfn_A (some ⟨p,0,none⟩) tag Q A:=by
 obtain ⟨H,h⟩:=TlbS.openH h;unfold qfn_A qfn_G qfm_A qfm_G;refine aT (cs:=[.int .i64 tag]) h λb I n=>?_;have n:=n.swap;refine ⟨λx q a=>∃ i:Nat,x=i/\q+i=8/\Own (At p (lnC (eG (yS tag) (i*2) ls))::At b [.int .i64 tag]::R) a,⟨8,0,rfl,rfl,by simpa [wQ] using n⟩,?_⟩;intro x q u ⟨i,e1,J,r⟩;subst e1;refine bsel_in (λc=>?_) λc=>?_
 .have c:(i:Int)<8:=of_decide_eq_true c;refine ⟨λx s a=>∃ j:Nat,x=j/\s+j=2/\Own (At p (lnC (eG (yS tag) (i*2+j) ls))::At b [.int .i64 tag]::R) a,⟨2,0,rfl,rfl,r⟩,?_⟩;intro x s v ⟨j,w,L,d⟩;subst w;refine bsel_in (λc2=>?_) λc2=>?_
  .have c2:(j:Int)<2:=of_decide_eq_true c2;obtain ⟨y,f⟩:∃ y,ls[i*2+j]? = some y:=⟨ls[i*2+j]'(by omega),by simp⟩;refine ⟨λa=>Own (At p (lnC (eG (yS tag) (i*2+(j+1)) ls))::At b [.int .i64 tag]::R) a,λB l=>⟨s-1,by omega,j+1,by rw [w64]<;>omega,by omega,l⟩,?_⟩;simp only [aJ,add_at,Nat.zero_add,Int.toNat_natCast];refine inB_in (by omega) c (inB_in (by omega) c2 ?_);refine aKM (i:=0) (k:=i*2+j) d rfl (mJ f) (by omega) ?_;unfold qfl_A;simp only [aJ];refine bQ (i:=1) d rfl rfl ?_
   have keep:(y.tag==tag&&!y.g)=false->Own (At p (lnC (eG (yS tag) (i*2+(j+1)) ls))::At b [.int .i64 tag]::R) v:=λg=>by
    rw [<-Nat.add_assoc,xH f (by unfold yS;rw [g];rfl)];exact d
   have D:(y.tag==tag&&!y.g)=true->_:=λg=>inB_in (by omega) c (inB_in (by omega) c2 (aKL (m:=ln0) (K:=λa=>Own (At p (lnC (eG (yS tag) (i*2+(j+1)) ls))::At b [.int .i64 tag]::R) a) d (mJ f) (o:=i*18+j*9) (by omega) λB l=>by
    have e:yS tag y=ln0:=by unfold yS;rw [if_pos g]
    rw [<-e,qA f,Nat.add_assoc] at l;exact l))
   refine bsel_in (λE=>?_) λE=>bsel_f rfl (keep (by simp_all));cases M:y.g with
   | false=>exact aG rfl (D (by simp_all))
   | true=>exact bsel_f rfl (keep (by simp_all))
  .have c2:¬(j:Int)<2:=of_decide_eq_false c2;have F:j=2:=by omega
   subst F;exact ⟨q-1,by omega,i+1,by rw [w64]<;>omega,by omega,by rw [show (i+1)*2=i*2+2 by omega];exact d⟩
 .have c:¬(i:Int)<8:=of_decide_eq_false c;have hi:i=8:=by omega
  subst hi;rw [zQ _ (by omega)] at r;exact t u (TlbS.closeH (by simp_all) (r.cons λC G=>G.tail))
variable {z:PcZ} {LF LF':Vw}
def aMx (z:PcZ) (id page:Int) (ls ls':List Ln):Prop:=∀ y ∈ ls',y.v=true->y ∈ ls/\¬(z.tag.lookup id=some y.tag/\y.page=page)
theorem LnOK.forget {id page:Int} {a:List Ln} (f:PcOK z) (j:LnOK (vw z LF) ls) (h:aMx z id page ls a) (c:∀ i q,(i≠id\/q≠page)->LF' i q=LF i q):LnOK (vw z LF') a:=λy k d=>by
 obtain ⟨k1,k2⟩:=h y k d;obtain ⟨l,x,b,m⟩:=j y k1 d;refine ⟨l,x,?_,m⟩;unfold vw at b ⊢;cases e:z.own.lookup y.tag with
 | none=>rw [e] at b;cases b
 | some id'=>
  rw [e] at b;show LF' id' y.page=some x;rw [c id' y.page]
  .exact b
  .by_cases g:id'=id
   .subst g;exact .inr λq=>k2 ⟨f.back _ _ e,q⟩
   .exact .inl g
def delZ (m:List (Int × Int)) (k:Int):List (Int × Int):=match m with
 | []=>[]
 | q::m=>if q.1=k then m else q::delZ m k
theorem rG (k:Int):∀ m:List (Int × Int),delM (ivs m) k=ivs (delZ m k)
 | []=>rfl
 | (a,v)::m=>by
  unfold ivs delZ delM;simp only [List.map_cons];by_cases g:a=k
  .simp_all
  .rw [if_neg g,if_neg g];have:=rG k m;unfold ivs at this;rw [List.map_cons,this]
theorem sL {k:Int}:∀ {m:List (Int × Int)},(m.map (·.1)).Nodup->((delZ m k).map (·.1)).Nodup/\∀ x ∈ (delZ m k).map (·.1),x ∈ m.map (·.1)
 | [],_=>by simp [delZ]
 | (a,v)::m,h=>by
  rw [List.map_cons,List.nodup_cons] at h;obtain ⟨b,c⟩:=sL (k:=k) (m:=m) h.2;unfold delZ;by_cases g:a=k
  .simp_all
  .grind
def kT (z:PcZ) (id:Int):PcZ:=match z.tag.lookup id with
 | some t=>{ z with own:=delZ z.own t,tag:=delZ z.tag id }
 | none=>z
theorem dS (k k':Int):∀ {m:List (Int × Int)},(m.map (·.1)).Nodup->(delZ m k).lookup k'=if k'=k then none else m.lookup k'
 | [],_=>by simp [delZ]
 | (a,v)::m,h=>by
  rw [List.map_cons,List.nodup_cons] at h;have b:=dS k k' (m:=m) h.2;unfold delZ;by_cases g:a=k
  .grind
  .grind
theorem PcOK.drop (h:PcOK z) (id:Int):PcOK (kT z id):=by
 unfold kT;cases e:z.tag.lookup id with
 | none=>exact h
 | some t=>
  refine ⟨h.ok,λa t' b=>?_,λt' a b=>?_,(sL h.ndo).1,(sL h.ndt).1⟩
  .simp only [dS _ _ h.ndt,dS _ _ h.ndo] at b ⊢;by_cases g:a=id
   .simp_all
   .rw [if_neg g] at b;obtain ⟨k1,k2⟩:=h.to a t' b;rw [if_neg (λq=>g ?_)]
    .simp_all
    .have:=(h.to id t e).1;rw [q,this] at k1;exact (Option.some.inj k1).symm
  .simp only [dS _ _ h.ndt,dS _ _ h.ndo] at b ⊢;by_cases g:t'=t
   .simp_all
   .rw [if_neg g] at b;have k1:=h.back t' a b;rw [if_neg (λq=>g ?_)]
    .exact k1
    .simp_all
def aJ2 (z:PcZ) (id:Int) (ls ls':List Ln):Prop:=∀ y ∈ ls',y.v=true->y ∈ ls/\(z.tag.lookup id=some y.tag->y.g=true)
theorem LnOK.gone {id:Int} {a:List Ln} (f:PcOK z) (k:LnOK (vw z LF) ls) (h:aJ2 z id ls a) (d:∀ i,i≠id->LF' i=LF i):LnOK (vw (kT z id) LF') a:=λy l g=>by
 obtain ⟨k1,k2⟩:=h y l g;obtain ⟨j,x,b,m⟩:=k y k1 g;refine ⟨j,x,?_,m⟩;unfold vw at b ⊢;cases e:z.own.lookup y.tag with
 | none=>rw [e] at b;cases b
 | some id'=>
  rw [e] at b
  have c:id'≠id:=λq=>by
   subst q;have:=k2 (f.back _ _ e);rw [j] at this;cases this
  have n:(kT z id).own.lookup y.tag=some id':=by
   unfold kT;cases o:z.tag.lookup id with
   | none=>exact e
   | some t=>
    simp only [dS _ _ f.ndo];rw [if_neg (λq=>c ?_)]
    .exact e
    .simp_all
  rw [n];show LF' id' y.page=some x;rw [d id' c];exact b
theorem aBK {id:Int} {tg:Nat} {R:List SP} {Q:AH->Prop} (h:Own (PcS tg z::R) A) (c:∀ d,Own (PcS tg (kT z id)::R) d->Q d):qfo_A (some ⟨tg,0,none⟩) id Q A:=by
 obtain ⟨bo,bt,a⟩:=PcS.openH h;unfold qfo_A;simp only [aJ,add_at,Nat.zero_add];refine fC (i:=0) a rfl rfl (iD (i:=2) a rfl ?_);rw [dR];cases e:z.tag.lookup id with
 | none=>
  have:kT z id=z:=by unfold kT;rw [e]
  rw [this] at c;exact ⟨0,rfl,bsel_f rfl (c A h)⟩
 | some t=>
  refine ⟨t,rfl,aG rfl (fC (i:=0) a rfl rfl (aDw (i:=1) a rfl λj f=>fC (i:=0) f rfl rfl (aDw (i:=2) f rfl λg b=>c g (PcS.closeH (bo:=bo) (bt:=bt) ?_))))⟩;have b:Own (At tg [.int .i64 z.most,.int .i64 z.next,.int .i64 z.gen,.map (some bo),.map (some bt)]::MapI bo .i64 (delM (ivs z.own) t)::MapI bt .i64 (delM (ivs z.tag) id)::R) g:=b
  rw [rG,rG] at b;unfold kT;rw [e];exact b
theorem aCJ {t:Int} {tg:Nat} {R:List SP} {Q:Int->Bool->AH->Prop} (h:Own (PcS tg z::R) A) (a:Q ((z.own.lookup t).getD 0) (z.own.lookup t).isSome A):qgf_A (some ⟨tg,0,none⟩) t Q A:=by
 obtain ⟨bo,bt,b⟩:=PcS.openH h;unfold qgf_A;simp only [aJ,add_at,Nat.zero_add];refine fC (i:=0) b rfl rfl (iD (i:=1) b rfl ?_);rw [dR];cases c:z.own.lookup t with
 | none=>rw [c] at a;exact ⟨0,rfl,a⟩
 | some n=>rw [c] at a;exact ⟨n,rfl,a⟩
theorem aAc {id:Int} {tg:Nat} {Q:Int->Bool->AH->Prop} (h:Own (PcS tg z::R) A) (a:Q ((z.tag.lookup id).getD 0) (z.tag.lookup id).isSome A):qei_A (some ⟨tg,0,none⟩) id Q A:=by
 obtain ⟨bo,bt,b⟩:=PcS.openH h;unfold qei_A;refine fC (i:=0) b rfl rfl (iD (i:=2) b rfl ?_);rw [dR];cases c:z.tag.lookup id with
 | none=>rw [c] at a;exact ⟨0,rfl,a⟩
 | some n=>rw [c] at a;exact ⟨n,rfl,a⟩
end Go.Dn
