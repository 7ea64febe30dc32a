/- What the proof stands on. -/
import Derived.Test.YtfnkdpmbpgffbaaGreatG
import Derived.Test.YtfnkdpmbpgffbaaGreatBits
import Derived.Test.YtfnkdpmbpgffbaaGreatPurse
import Derived.Test.YtfnkdpmbpgffbaaGreatPages
import Derived.Test.YtfnkdpmbpgffbaaGreatChild
namespace Go.Dn
variable {ns:List Nd} {d e:Nd} {i j:Nat} {q k:Int}
def sumZ {α:Type} (f:α->Int):List α->Int
 | []=>0
 | x::r=>f x+sumZ f r
theorem jD {α:Type} (f:α->Int):∀ a b:List α,sumZ f (a++b)=sumZ f a+sumZ f b
 | [],b=>by simp [sumZ]
 | x::a,b=>by simp only [List.cons_append,sumZ,jD f a b];omega
theorem iO {α:Type} (f:α->Int) {d d':α}:∀ {l:List α} {i:Nat},l[i]? = some d->sumZ f (l.set i d')=sumZ f l-f d+f d'
 | [],_,h=>by simp at h
 | x::r,0,h=>by simp at h;subst h;simp only [List.set_cons_zero,sumZ];omega
 | x::r,i+1,h=>by
  have:=iO f (d':=d') (l:=r) (i:=i) (by simpa using h);simp only [List.set_cons_succ,sumZ,this];omega
theorem uS {α:Type} {f:α->Int}:∀ {l:List α},(∀ x ∈ l,0<=f x)->0<=sumZ f l
 | [],_=>Int.le_refl _
 | x::r,h=>by
  have:=uS (l:=r) λy a=>h y (List.mem_cons_of_mem _ a);have:=h x List.mem_cons_self;simp only [sumZ];omega
theorem nY {α:Type} {f:α->Int}:∀ {l:List α},(∀ x ∈ l,0<=f x)->∀ x ∈ l,f x<=sumZ f l
 | [],_,_,h=>by simp at h
 | y::r,h,x,a=>by
  have c:=uS (l:=r) λz b=>h z (List.mem_cons_of_mem _ b);have g:=h y List.mem_cons_self;rcases List.mem_cons.1 a with rfl | a
  .simp only [sumZ];omega
  .have:=nY (l:=r) (λz b=>h z (List.mem_cons_of_mem _ b)) x a;simp only [sumZ];omega
theorem dP {α:Type} {f g:α->Int}:∀ {l:List α},(∀ x ∈ l,f x=g x)->sumZ f l=sumZ g l
 | [],_=>rfl
 | x::r,h=>by simp only [sumZ];rw [h x List.mem_cons_self,dP λy a=>h y (List.mem_cons_of_mem _ a)]
theorem tA {α:Type} {f:α->Int} {l:List α} (h:∀ x ∈ l,f x=0):sumZ f l=0:=by
 rw [dP (g:=λ_=>0) h]
 induction l with
 | nil=>rfl
 | cons x r ih=>simp only [sumZ];rw [ih λy a=>h y (List.mem_cons_of_mem _ a)];rfl
def Nd.room (d:Nd):Int:=d.quo-d.use-d.lent
def rmN (d:Nd):Int:=if d.live then d.room else 0
def kdN (i:Nat) (d:Nd):Int:=if d.live&&d.par==(i:Int) then d.quo else 0
def liveN (ns:List Nd) (i:Nat):Bool:=match ns[i]? with | some d=>d.live | none=>false
structure TreeOK (ns:List Nd):Prop where
 ok:∀ d ∈ ns,d.OK
 len:ns.length<=64
 root:∃ d,ns[0]? = some d/\d.live=true/\d.par = -1
 lent:∀ i d,ns[i]? = some d->d.live=true->d.lent=sumZ (kdN i) ns
 par:∀ i d,ns[i]? = some d->d.live=true->i≠0->∃ j:Nat,d.par=(j:Int)/\liveN ns j=true
theorem TreeOK.rm (h:TreeOK ns):∀ x ∈ ns,0<=rmN x:=λx a=>by
 unfold rmN Nd.room;have:=(h.ok x a).room;split<;>omega
theorem TreeOK.room (h:TreeOK ns) (hi:ns[i]? = some d) (c:d.live=true):0<=d.room/\d.room<=sumZ rmN ns:=by
 have a:=nY h.rm d (List.mem_of_getElem? hi);have b:=h.rm d (List.mem_of_getElem? hi);unfold rmN at a b;rw [if_pos c] at b;rw [if_pos c] at a;exact ⟨b,a⟩
def addU (ns:List Nd) (i:Nat) (k:Int):List Nd:=match ns[i]? with
 | some d=>useN ns i d (d.use+k)
 | none=>ns
theorem jU (hi:ns[i]? = some d):addU ns i k=useN ns i d (d.use+k):=by unfold addU;rw [hi]
theorem dL:(addU ns i k)[j]? = (ns[j]?).map λd=>if i=j then { d with use:=d.use+k } else d:=by
 unfold addU;cases e:ns[i]? with
 | none=>
  simp only;by_cases g:i=j
  .simp_all
  .simp_all
 | some d=>
  simp only [useN];rw [List.getElem?_set];by_cases g:i=j
  .grind
  .simp_all
theorem addU_zero:addU ns i 0=ns:=by
 apply List.ext_getElem?;intro j;rw [dL];cases ns[j]? with
 | none=>rfl
 | some d=>simp only [Option.map_some,Option.some.injEq];split<;>simp
theorem aCZ {a b:Int}:addU (addU ns i a) i b=addU ns i (a+b):=by
 apply List.ext_getElem?;intro j;rw [dL,dL,dL];cases ns[j]? with
 | none=>rfl
 | some d=>
  simp only [Option.map_some,Option.some.injEq];split
  .grind
  .rfl
theorem aHT:(addU ns i k).length=ns.length:=by unfold addU useN;split<;>simp
theorem oS:liveN (addU ns i k) j=liveN ns j:=by
 unfold liveN;rw [dL];cases ns[j]? with
 | none=>rfl
 | some d=>simp only [Option.map_some];split<;>rfl
theorem jB (hi:ns[i]? = some d) (a:d.live=true):sumZ rmN (addU ns i k)=sumZ rmN ns-k:=by
 rw [jU hi];unfold useN;rw [iO rmN hi];unfold rmN Nd.room;simp only [a,if_true];omega
theorem mem_addU {x:Nd} (h:x ∈ addU ns i k):x ∈ ns\/∃ d,ns[i]? = some d/\x = { d with use:=d.use+k }:=by
 obtain ⟨j,a⟩:=List.mem_iff_getElem?.1 h;rw [dL] at a;cases e:ns[j]? with
 | none=>rw [e] at a;cases a
 | some d=>
  rw [e] at a;simp only [Option.map_some,Option.some.injEq] at a;by_cases g:i=j
  .simp_all
  .grind
theorem aIF (hi:ns[i]? = some d) {d':Nd} (h:∀ m,kdN m d'=kdN m d) (m:Nat):sumZ (kdN m) (ns.set i d')=sumZ (kdN m) ns:=by rw [iO _ hi,h];omega
theorem TreeOK.addU (h:TreeOK ns) (hi:ns[i]? = some d) (h0:0<=d.use+k) (h1:k<=d.room):TreeOK (addU ns i k):=by
 obtain ⟨r,hr,hr2,hr3⟩:=h.root
 have hk:∀ m,sumZ (kdN m) (Go.Dn.addU ns i k)=sumZ (kdN m) ns:=λm=>by
  rw [jU hi];exact aIF (d':={ d with use:=d.use+k }) hi (λ_=>rfl) m
 refine ⟨λx hx=>?_,by rw [aHT];exact h.len,?_,λj e hj hl=>?_,λj e hj hl hn=>?_⟩
 ·rcases mem_addU hx with hx | ⟨d',e,rfl⟩
  ·exact h.ok x hx
  ·rw [hi] at e;cases e;obtain ⟨o1,o2,o3,o4⟩:=h.ok d (List.mem_of_getElem? hi);unfold Nd.room at h1;exact ⟨h0,o2,by simp only;omega,o4⟩
 ·rw [dL,hr];refine ⟨_,rfl,?_⟩;split<;>exact ⟨hr2,hr3⟩
 ·rw [hk];rw [dL] at hj;cases e2:ns[j]? with
  | none=>rw [e2] at hj;cases hj
  | some x=>
   rw [e2] at hj;simp only [Option.map_some,Option.some.injEq] at hj;subst hj;rw [<-h.lent j x e2 (by grind)];split<;>rfl
 ·rw [dL] at hj;cases e2:ns[j]? with
  | none=>rw [e2] at hj;cases hj
  | some x=>
   rw [e2] at hj;simp only [Option.map_some,Option.some.injEq] at hj;subst hj;obtain ⟨m,m1,m2⟩:=h.par j x e2 (by grind) hn;exact ⟨m,by split<;>exact m1,by rw [oS];exact m2⟩
def kidN (ns:List Nd) (i:Nat) (d:Nd) (q:Int):List Nd × Nat:=match firstDead ns with
 | none=>(ns.set i { d with lent:=d.lent+q }++[⟨i,q,0,0,true⟩],ns.length)
 | some j=>((ns.set i { d with lent:=d.lent+q }).set j ⟨i,q,0,0,true⟩,j)
theorem aAz {x:Nd} (h:x.live=false) (m:Nat):rmN x=0/\kdN m x=0:=by
 unfold rmN kdN;rw [h];simp
theorem aEC (hi:ns[i]? = some d) (g:d.live=true):∃ j,(kidN ns i d q).2=j/\j≠i/\liveN ns j=false/\(kidN ns i d q).1[j]? = some ⟨i,q,0,0,true⟩/\(kidN ns i d q).1[i]? = some { d with lent:=d.lent+q }/\∀ m,m≠i->m≠j->(kidN ns i d q).1[m]? = ns[m]?:=by
 have h:=(List.getElem?_eq_some_iff.1 hi).1;unfold kidN;cases e:firstDead ns with
 | none=>
  refine ⟨ns.length,rfl,by omega,?_,?_,?_,λm l n=>?_⟩
  .unfold liveN;simp
  .simp
  .grind
  .grind
 | some j=>
  obtain ⟨x,a,b⟩:=iC e;have c:=(List.getElem?_eq_some_iff.1 a).1;have f:j≠i:=λz=>by subst z;rw [hi] at a;cases a;rw [g] at b;cases b
  refine ⟨j,rfl,f,?_,?_,?_,λm l n=>?_⟩
  .unfold liveN;rw [a];exact b
  .simp [c]
  .simp_all
  .grind
theorem aC9 (f:Nd->Int) (hi:ns[i]? = some d) (h:∀ x ∈ ns,x.live=false->f x=0) (l:d.live=true):sumZ f (kidN ns i d q).1=sumZ f ns-f d+f { d with lent:=d.lent+q } + f ⟨i,q,0,0,true⟩:=by
 unfold kidN;cases e:firstDead ns with
 | none=>simp only [jD,iO f hi,sumZ];omega
 | some j=>
  obtain ⟨x,a,b⟩:=iC e;have c:j≠i:=λz=>by subst z;rw [hi] at a;cases a;rw [l] at b;cases b
  have g:(ns.set i { d with lent:=d.lent+q })[j]? = some x:=by rw [List.getElem?_set,if_neg c.symm];exact a
  have:=h x (List.mem_of_getElem? a) b;simp only [iO f g,iO f hi];omega
theorem aEc (hi:ns[i]? = some d) (a:d.live=true):sumZ rmN (kidN ns i d q).1=sumZ rmN ns:=by
 rw [aC9 rmN hi (λx _ b=>(aAz b 0).1) a];unfold rmN Nd.room;simp only [a,if_true];omega
theorem aJm (hi:ns[i]? = some d) (a:d.live=true) (m:Nat):sumZ (kdN m) (kidN ns i d q).1=sumZ (kdN m) ns+if m=i then q else 0:=by
 rw [aC9 (kdN m) hi (λx _ b=>(aAz b m).2) a];have e1:kdN m { d with lent:=d.lent+q } = kdN m d:=rfl
 have c:kdN m ⟨(i:Int),q,0,0,true⟩=if m=i then q else 0:=by
  unfold kdN;simp only [Bool.true_and,beq_iff_eq];by_cases g:m=i
  .subst g;simp
  .omega
 rw [e1,c];omega
theorem TreeOK.kid (h:TreeOK ns) (hi:ns[i]? = some d) (l:d.live=true) (L:0<=q) (A:q<=d.room) (C:firstDead ns=none->ns.length<64):TreeOK (kidN ns i d q).1:=by
 obtain ⟨j,_,k2,n,v,o,s⟩:=aEC (q:=q) hi l;obtain ⟨r,D,w,E⟩:=h.root;obtain ⟨F,M,N,G⟩:=h.ok d (List.mem_of_getElem? hi);have H:q<=1048576:=by unfold Nd.room at A;omega
 have c:∀ m,liveN ns m=true->liveN (kidN ns i d q).1 m=true:=λm a=>by
  by_cases e1:m=i
  .subst e1;unfold liveN;rw [o];exact l
  .by_cases b:m=j
   .simp_all
   .unfold liveN at a ⊢;rw [s m e1 b];exact a
 have I:j≠0:=λz=>by subst z;unfold liveN at n;rw [D] at n;simp only at n;rw [w] at n;cases n
 refine ⟨λx y=>?_,?_,?_,λm e a f=>?_,λm e a f B=>?_⟩
 .obtain ⟨m,a⟩:=List.mem_iff_getElem?.1 y;by_cases e1:m=i
  .subst e1;rw [o] at a;cases a;unfold Nd.room at A;exact ⟨F,by simp only;omega,by simp only;omega,G⟩
  .by_cases b:m=j
   .subst b;rw [v] at a;cases a;exact ⟨Int.le_refl _,Int.le_refl _,by simp only;omega,H⟩
   .rw [s m e1 b] at a;exact h.ok x (List.mem_of_getElem? a)
 .unfold kidN;cases e:firstDead ns with
  | none=>have:=C e;simp;omega
  | some j=>simp;exact h.len
 .grind
 .rw [aJm hi l];by_cases e1:m=i
  .subst e1;rw [o] at a;cases a;rw [if_pos rfl,<- h.lent m d hi l]
  .rw [if_neg e1];by_cases b:m=j
   .subst b;rw [v] at a;cases a;refine (Int.add_zero _).symm ▸ (tA λx y=>?_).symm;unfold kdN;split
    .rename_i g;rw [Bool.and_eq_true,beq_iff_eq] at g;obtain ⟨p,J⟩:=List.mem_iff_getElem?.1 y;by_cases K:p=0
     .simp_all
     .obtain ⟨t,u,t2⟩:=h.par p x J g.1 K;have:t=m:=by omega
      rw [this,n] at t2;cases t2
    .rfl
   .rw [s m e1 b] at a;rw [Int.add_zero];exact h.lent m e a f
 .by_cases e1:m=i
  .subst e1;rw [o] at a;cases a;obtain ⟨t,u,t2⟩:=h.par m d hi l B;exact ⟨t,u,c t t2⟩
  .by_cases b:m=j
   .subst b;rw [v] at a;cases a;exact ⟨i,rfl,c i (by unfold liveN;rw [hi];exact l)⟩
   .rw [s m e1 b] at a;obtain ⟨t,u,t2⟩:=h.par m e a f B;exact ⟨t,u,c t t2⟩
end Go.Dn
namespace Go.Dn
def ivs (m:List (Int × Int)):List (Int × Value):=m.map λp=>(p.1,.int .i64 p.2)
def putZ (m:List (Int × Int)) (key v:Int):List (Int × Int):=match m with
 | []=>[(key,v)]
 | p::m=>if p.1=key then (key,v)::m else p::putZ m key v
theorem dR (k:Int):∀ m:List (Int × Int),(ivs m).lookup k=(m.lookup k).map λv=>(.int .i64 v:Value)
 | []=>rfl
 | p::m=>by
  have:=dR k m;unfold ivs at this ⊢;simp only [List.map_cons,List.lookup];cases h:k==p.1 with
  | true=>rfl
  | false=>exact this
theorem xT (k v:Int):∀ m:List (Int × Int),putM (ivs m) k (.int .i64 v)=ivs (putZ m k v)
 | []=>rfl
 | p::m=>by
  have:=xT k v m;unfold ivs at this ⊢;simp only [List.map_cons,putM,putZ];by_cases h:p.1=k
  .simp_all
  .simp_all
theorem gQ (key a v:Int):∀ m:List (Int × Int),(putZ m key v).lookup a=if a=key then some v else m.lookup a
 | []=>by
  by_cases e:a=key
  .subst e;simp [putZ,List.lookup]
  .have:(a==key)=false:=by simpa using e
   simp [putZ,List.lookup,this,e]
 | p::m=>by
  have d:=gQ key a v m;by_cases e:p.1=key
  .by_cases b:a=key
   .subst b;simp [putZ,List.lookup,e]
   .have c:(a==key)=false:=by simpa using b
    have f:(a==p.1)=false:=by simpa using λg=>b (by rw [g,e])
    simp [putZ,List.lookup,e,b,c,f]
  .by_cases b:a=p.1
   .have c:(a==p.1)=true:=by simpa using b
    have h:a≠key:=λg=>e (by omega);simp [putZ,List.lookup,e,c,h]
   .have c:(a==p.1)=false:=by simpa using b
    simp [putZ,List.lookup,e,c,d]
theorem aJ {a:Addr} {K:Addr->Prop}:aF (some a) K=K a:=rfl
structure PcZ where
 most:Int
 next:Int
 gen:Int
 own:List (Int × Int)
 tag:List (Int × Int)
def PcZ.OK (z:PcZ):Prop:=1<=z.most/\z.most<=4095/\1<=z.next/\z.next<=z.most+1
def kH (most:Int):PcZ:=⟨most,1,0,[],[]⟩
def pcL (p bo bt:Nat) (z:PcZ):List SP:=[At p [.int .i64 z.most,.int .i64 z.next,.int .i64 z.gen,.map (some bo),.map (some bt)],MapI bo .i64 (ivs z.own),MapI bt .i64 (ivs z.tag)]
def PcS (p:Nat) (z:PcZ):SP:=λB=>∃ bo bt,Own (pcL p bo bt z) B
variable {A:AH} {l R:List SP} {p bo bt:Nat} {z:PcZ}
theorem PcS.openH (h:Own (PcS p z::R) A):∃ bo bt,Own (pcL p bo bt z++R) A:=by
 obtain ⟨bo,h⟩:=Own.ex h;obtain ⟨bt,h⟩:=Own.ex h;exact ⟨bo,bt,Own.flat h⟩
theorem PcS.closeH (h:Own (pcL p bo bt z++R) A):Own (PcS p z::R) A:=h.app.imp λ_ a=>⟨bo,bt,a⟩
theorem aDX {most x y:Int} {u v:Value} {Q:AH->Prop} (h:Own (At p [.int .i64 most,.int .i64 x,.int .i64 y,u,v]::R) A)
  (f:∀ bo bt d,Own (pcL p bo bt ⟨most,1,y,[],[]⟩++R) d->Q d):qam_A (some ⟨p,0,none⟩) Q A:=by
 unfold qam_A;simp only [aJ,add_at,Nat.zero_add];refine uT (k:=.i64) h λa o g=>uT (k:=.i64) g λb q j=>?_;refine bU (i:=2) j rfl rfl rfl λr m=>?_;refine bU (i:=2) m rfl rfl rfl λs n=>?_;refine bU (i:=2) n rfl rfl rfl λe c=>f a b e ?_;have c:Own (MapI b .i64 []::MapI a .i64 []::At p [.int .i64 most,.int .i64 1,.int .i64 y,.map (some a),.map (some b)]::R) e:=c;exact c.perm (List.Perm.trans (List.Perm.cons _ (List.Perm.swap _ _ _)) (List.Perm.trans (List.Perm.swap _ _ _) (List.Perm.cons _ (List.Perm.swap _ _ _))))
theorem aF8 {most:Int} {Q:Option Addr->Int->AH->Prop} (h:Own l A) (f:1<=most) (g:most<=4095) (b:∀ p a,Own (PcS p (kH most)::l) a->Q (some ⟨p,0,none⟩) 0 a):qan_A most Q A:=by
 unfold qan_A qan_G;refine bsel_f (by simp;omega) (bsel_f (by simp;omega) ?_);refine aT (cs:=[.int .i64 most,.int .i64 0,.int .i64 0,.map none,.map none]) h λp i c=>?_;exact aDX c λbo bt d e=>b p d (PcS.closeH (z:=kH most) e)
end Go.Dn
namespace Go.Dn
structure Ln where
 v:Bool
 tag:Int
 page:Int
 frame:Int
 w:Bool
 u:Bool
 x:Bool
 g:Bool
 d:Bool
def Ln.cells (l:Ln):List Value:=[.bool l.v,.int .i64 l.tag,.int .i64 l.page,.int .i64 l.frame,.bool l.w,.bool l.u,.bool l.x,.bool l.g,.bool l.d]
def ln0:Ln:=⟨false,0,0,0,false,false,false,false,false⟩
def lnC (ls:List Ln):List Value:=ls.flatMap Ln.cells
variable {A:AH} {l R:List SP} {p i k o:Nat} {ls:List Ln} {y m:Ln}
theorem rT:∀ ls:List Ln,(lnC ls).length=ls.length*9
 | []=>rfl
 | y::ls=>by
  have:=rT ls;unfold lnC at this ⊢;rw [List.flatMap_cons,List.length_append,this,List.length_cons];simp [Ln.cells];omega
theorem aJz (a b:List Ln):lnC (a++b)=lnC a++lnC b:=List.flatMap_append
theorem sR:∀ {ls:List Ln} {k:Nat} {y:Ln},ls[k]? = some y->∃ pre post,lnC ls=pre++y.cells++post/\pre.length=k*9/\∀ m,lnC (ls.set k m)=pre++m.cells++post
 | [],k,y,h=>by simp at h
 | z::ls,0,y,h=>by
  simp at h;subst h;exact ⟨[],lnC ls,rfl,rfl,λm=>rfl⟩
 | z::ls,k+1,y,h=>by
  obtain ⟨pre,post,a,b,c⟩:=sR (ls:=ls) (k:=k) (y:=y) (by simpa using h);refine ⟨z.cells++pre,post,?_,by simp [Ln.cells,b];omega,λm=>?_⟩
  .show z.cells++lnC ls=_;rw [a];simp
  .show z.cells++lnC (ls.set k m)=_;rw [c];simp
theorem gT (a:ls[k]? = some y) {c:Nat} (e:c<9):(lnC ls)[k*9+c]? = y.cells[c]?:=by
 obtain ⟨pre,post,b,d,_⟩:=sR a;rw [b,<- d,List.append_assoc,List.getElem?_append_right (by omega),List.getElem?_append_left (by simp [Ln.cells];omega)];congr 1;omega
theorem aKM {K:Bool->Int->Int->Int->Bool->Bool->Bool->Bool->Bool->Prop} (h:Own l A) (e:l[i]? = some (At p (lnC ls))) (a:ls[k]? = some y) (b:o=k*9) (d:K y.v y.tag y.page y.frame y.w y.u y.x y.g y.d) :
  aB ⟨p,o,none⟩ A λf=>aI .i64 ⟨p,o+1,none⟩ A λg=>aI .i64 ⟨p,o+2,none⟩ A λj=>aI .i64 ⟨p,o+3,none⟩ A λn=>aB ⟨p,o+4,none⟩ A λq=>aB ⟨p,o+5,none⟩ A λr=>aB ⟨p,o+6,none⟩ A λs=>aB ⟨p,o+7,none⟩ A λt=>aB ⟨p,o+8,none⟩ A λu=>K f g j n q r s t u:=by
 subst b;refine nL h e (by rw [<-Nat.add_zero (k*9)];exact gT a (c:=0) (by omega)) ?_;refine bQ h e (gT a (c:=1) (by omega)) (bQ h e (gT a (c:=2) (by omega)) (bQ h e (gT a (c:=3) (by omega)) ?_));exact nL h e (gT a (c:=4) (by omega)) (nL h e (gT a (c:=5) (by omega)) (nL h e (gT a (c:=6) (by omega)) (nL h e (gT a (c:=7) (by omega)) (nL h e (gT a (c:=8) (by omega)) d))))
theorem aKn {pre mid post:List Value} {c n:Nat} {v:Value} (a:pre.length=n) (b:c<mid.length):(pre++mid++post).set (n+c) v=pre++mid.set c v++post:=by
 subst a;rw [List.append_assoc,List.set_append_right _ _ (by omega),show pre.length+c-pre.length=c by omega,List.set_append_left _ _ b,List.append_assoc]
theorem aKx {pre mid post:List Value} {c n:Nat} (a:pre.length=n) (b:c<mid.length):((pre++mid++post)[n+c]?).isSome=true:=by
 subst a;rw [List.append_assoc,List.getElem?_append_right (by omega),List.getElem?_append_left (by omega)];simp;omega
theorem aKL {K:AP} (h:Own (At p (lnC ls)::R) A) (g:ls[k]? = some y) (j:o=k*9) (b:∀ a,Own (At p (lnC (ls.set k m))::R) a->K a) :
  aC ⟨p,o,none⟩ (.bool m.v) A λn=>aC ⟨p,o+1,none⟩ (.int .i64 m.tag) n λe=>aC ⟨p,o+2,none⟩ (.int .i64 m.page) e λd=>aC ⟨p,o+3,none⟩ (.int .i64 m.frame) d λf=>aC ⟨p,o+4,none⟩ (.bool m.w) f λq=>aC ⟨p,o+5,none⟩ (.bool m.u) q λr=>aC ⟨p,o+6,none⟩ (.bool m.x) r λs=>aC ⟨p,o+7,none⟩ (.bool m.g) s λt=>aC ⟨p,o+8,none⟩ (.bool m.d) t K:=by
 subst j;obtain ⟨pre,post,e,d,f⟩:=sR g;rw [e] at h;have b:=λa=>b a;simp only [f m] at b
 have step:∀ {mid:List Value} {c:Nat} {v:Value} {A:AH} {K:AP},mid.length=9->c<9->v.oneCell'=true->Own (At p (pre++mid++post)::R) A->(∀ a,Own (At p (pre++mid.set c v++post)::R) a->K a)->aC ⟨p,k*9+c,none⟩ v A K:=λ{mid c v A K} B C u w x=>
  bU (i:=0) w rfl (aKx d (by omega)) u λa h'=>x a (by
   have h':Own (At p ((pre++mid++post).set (k*9+c) v)::R) a:=h';rwa [aKn d (by omega)] at h')
 refine step (c:=0) rfl (by omega) rfl h λD h=>?_;refine step (c:=1) rfl (by omega) rfl h λE h=>?_;refine step (c:=2) rfl (by omega) rfl h λF h=>?_;refine step (c:=3) rfl (by omega) rfl h λG h=>?_;refine step (c:=4) rfl (by omega) rfl h λH h=>?_;refine step (c:=5) rfl (by omega) rfl h λI h=>?_;refine step (c:=6) rfl (by omega) rfl h λJ h=>?_;refine step (c:=7) rfl (by omega) rfl h λL h=>?_;exact step (c:=8) rfl (by omega) rfl h λz h=>b z h
def eG (f:Ln->Ln) (k:Nat) (ls:List Ln):List Ln:=(ls.take k).map f++ls.drop k
theorem wQ (f:Ln->Ln):eG f 0 ls=ls:=by simp [eG]
theorem zQ (f:Ln->Ln) (h:ls.length<=k):eG f k ls=ls.map f:=by simp [eG,List.take_of_length_le h,List.drop_eq_nil_of_le h]
theorem mJ {f:Ln->Ln} (b:ls[k]? = some y):(eG f k ls)[k]? = some y:=by
 have a:=(List.getElem?_eq_some_iff.1 b).1;unfold eG;rw [List.getElem?_append_right (by simp;omega)];simp only [List.length_map,List.length_take,Nat.min_eq_left (Nat.le_of_lt a),Nat.sub_self,List.getElem?_drop,Nat.add_zero];exact b
theorem qA {f:Ln->Ln} (b:ls[k]? = some y):(eG f k ls).set k (f y)=eG f (k+1) ls:=by
 have a:=(List.getElem?_eq_some_iff.1 b).1;unfold eG;rw [List.set_append_right _ _ (by simp;omega)]
 have e1:ls.drop k=y::ls.drop (k+1):=by
  rw [List.drop_eq_getElem_cons a];rw [List.getElem?_eq_getElem a] at b;rw [Option.some.inj b]
 have c:ls.take (k+1)=ls.take k++[y]:=by
  rw [List.take_add_one,b];rfl
 rw [e1,c];simp [Nat.min_eq_left (Nat.le_of_lt a)]
theorem xH {f:Ln->Ln} (a:ls[k]? = some y) (b:f y=y):eG f (k+1) ls=eG f k ls:=by
 rw [<-qA a,b];have:=mJ (f:=f) a;apply List.ext_getElem?;intro j;rw [List.getElem?_set];split
 .rename_i e;subst e;rw [if_pos (List.getElem?_eq_some_iff.1 this).1,this]
 .rfl
def TlbS (p:Nat) (ls:List Ln):SP:=λB=>ls.length=16/\At p (lnC ls) B
theorem TlbS.openH (h:Own (TlbS p ls::R) A):ls.length=16/\Own (At p (lnC ls)::R) A:=Own.pure h
theorem TlbS.closeH (a:ls.length=16) (h:Own (At p (lnC ls)::R) A):Own (TlbS p ls::R) A:=h.imp λ_ b=>⟨a,b⟩
end Go.Dn
namespace Go.Dn
variable {A:AH} {R:List SP} {p i o:Nat} {ls:List Ln} {y:Ln} {s:Sl}
theorem aG4 {K:Bool->Int->Int->Int->Bool->Bool->Bool->Bool->Bool->Prop} {cs:List Value} (h:∀ c,c<9->cs[o+c]? = y.cells[c]?) (a:K y.v y.tag y.page y.frame y.w y.u y.x y.g y.d) :
  tN cs (o+0) λb=>geI .i64 cs (o+1) λd=>geI .i64 cs (o+2) λe=>geI .i64 cs (o+3) λf=>tN cs (o+4) λg=>tN cs (o+5) λj=>tN cs (o+6) λk=>tN cs (o+7) λl=>tN cs (o+8) λm=>K b d e f g j k l m:=
 ⟨_,h 0 (by omega),_,h 1 (by omega),_,h 2 (by omega),_,h 3 (by omega),_,h 4 (by omega),_,h 5 (by omega),_,h 6 (by omega),_,h 7 (by omega),_,h 8 (by omega),a⟩
theorem aJN {v:Value} (h:v ∈ lnC ls):v.oneCell'=true:=by
 obtain ⟨d,_,a⟩:=List.mem_flatMap.1 h;simp [Ln.cells] at a;rcases a with rfl | rfl | rfl | rfl | rfl | rfl | rfl | rfl | rfl<;>rfl
theorem aIU {t:TypeId} {K:Sl->AP} (h:Own (SlO s 9 (lnC ls)::R) A) (hs:s.a=none->ls=[]) (r:ls.length<=1000000)
  (f:∀ s' d,(s'.a=none->ls++[y]=[])->Own (SlO s' 9 (lnC (ls++[y]))::R) d->K s' d) :
  aN A (.cells #[.bool y.v,.int .i64 y.tag,.int .i64 y.page,.int .i64 y.frame,.bool y.w,.bool y.u,.bool y.x,.bool y.g,.bool y.d] t) λb a=>
   dM 9 40 #[(.bool false),(.int .i64 (0:Int)),(.int .i64 (0:Int)),(.int .i64 (0:Int)),(.bool false),(.bool false),(.bool false),(.bool false),(.bool false)] t s (Sl.mk (some (Addr.mk b 0 none)) 1 1) a K:=by
 have e:s.len=ls.length:=by
  obtain ⟨B,_,j⟩:=h.sat;have:=j.1.1;rw [rT] at this;omega
 refine aT (cs:=y.cells) h λb u c=>?_;have c:=c.swap;refine dJ (i:=0) c rfl (eI (n:=1) (sz:=9) (cs:=y.cells) (rest:=[]) rfl) (λg=>nomatch g) (λg=>by rw [hs g];rfl) rfl (λv k=>?_) ⟨by simp only [e];omega,by simp only [e];omega⟩ λs' l w m a=>?_
 .exact aJN (ls:=[y]) (by simpa [lnC] using k)
 .refine f s' l (λg=>?_) ?_
  .have:=m g;simp [Ln.cells] at this
  .rw [aJz];have:lnC [y]=y.cells:=by simp [lnC]
   rw [this];exact Own.cons (λC q=>q.tail) a
theorem cN {α:Type} {L:List α} {v:Nat} {z:α} (h:L[v]? = some z):L.take (v+1)=L.take v++[z]:=by rw [List.take_add_one,h];rfl
theorem aDn {Q:Sl->AH->Prop} (h:Own (TlbS p ls::R) A) (F:∀ s a,s.len=(ls.filter (·.v)).length->Own (SlO s 9 (lnC (ls.filter (·.v)))::TlbS p ls::R) a->Q s a):qge_A (some ⟨p,0,none⟩) Q A:=by
 obtain ⟨G,h⟩:=TlbS.openH h;have D:=rT ls;unfold qge_A;refine ⟨(lnC ls).toArray,by simp;omega,λc d=>?_,?_⟩
 .refine ⟨(lnC ls)[c]'(by omega),by simp,?_⟩;rw [add_at];exact dW (i:=0) rfl h (by simp)
 have m:∀ n,((ls.take n).filter (·.v)).length<=16:=λn=>Nat.le_trans (List.length_filter_le _ _) (by simp;omega)
 refine ⟨λs x q a=>∃ i:Nat,x=i/\q+i=8/\(s.a=none->(ls.take (i*2)).filter (·.v)=[])/\Own (SlO s 9 (lnC ((ls.take (i*2)).filter (·.v)))::At p (lnC ls)::R) a,
  ⟨8,0,rfl,rfl,λ_=>by simp,by simp only [Nat.zero_mul,List.take_zero,List.filter_nil];exact ⟨λ_=>none,A,λ_=>.inl rfl,(λ_ _ e=>nomatch e),eU.refl A,SlO.nil,h⟩⟩,?_⟩
 intro s x q H ⟨i,e1,U,hs,l⟩;subst e1;refine bsel_in (λc=>?_) λc=>?_
 .have c:(i:Int)<8:=of_decide_eq_true c;simp only [Int.toNat_natCast];obtain ⟨r,f⟩:∃ y,ls[i*2]? = some y:=⟨ls[i*2]'(by omega),by simp⟩;obtain ⟨t,k⟩:∃ y,ls[i*2+1]? = some y:=⟨ls[i*2+1]'(by omega),by simp⟩;refine inB_in (by omega) c ?_;refine aG4 (y:=r) (o:=i*18) (λc d=>?_) ?_
  .have:=gT f d;rw [show i*2*9+c=i*18+c by omega] at this;exact this
  refine aG4 (y:=t) (o:=i*18+9) (λc d=>?_) ?_
  .have:=gT k d;rw [show (i*2+1)*9+c=i*18+9+c by omega] at this;exact this
  refine ⟨λs x u a=>∃ j:Nat,x=j/\u+j=2/\(s.a=none->(ls.take (i*2+j)).filter (·.v)=[])/\Own (SlO s 9 (lnC ((ls.take (i*2+j)).filter (·.v)))::At p (lnC ls)::R) a,⟨2,0,rfl,rfl,hs,l⟩,?_⟩;intro V x u W ⟨j,I,X,b,v⟩;subst I;refine bsel_in (λc2=>?_) λc2=>?_
  .have c2:(j:Int)<2:=of_decide_eq_true c2
   obtain ⟨y,J,w⟩:∃ y,ls[i*2+j]? = some y/\∀ c,c<9->(r.cells++t.cells)[j*9+c]? = y.cells[c]?:=by
    obtain rfl | rfl:j=0\/j=1:=by omega
    .exact ⟨r,f,λc d=>by rw [Nat.zero_mul,Nat.zero_add,List.getElem?_append_left (by simp [Ln.cells];omega)]⟩
    .refine ⟨t,k,λc d=>?_⟩;rw [List.getElem?_append_right (by simp [Ln.cells])];congr 1;simp [Ln.cells]
   refine ⟨λs a=>(s.a=none->(ls.take (i*2+(j+1))).filter (·.v)=[])/\Own (SlO s 9 (lnC ((ls.take (i*2+(j+1))).filter (·.v)))::At p (lnC ls)::R) a,λY K ⟨L,M⟩=>⟨u-1,by omega,j+1,by rw [w64]<;>omega,by omega,L,M⟩,?_⟩;refine inB_in (by omega) c2 ?_;simp only [Int.toNat_natCast];refine aG4 (y:=y) (o:=j*9) w ?_;have E:ls.take (i*2+(j+1))=ls.take (i*2+j)++[y]:=cN J;refine bsel_in (λg=>?_) λg=>?_
   .have z:(ls.take (i*2+(j+1))).filter (·.v)=(ls.take (i*2+j)).filter (·.v)++[y]:=by rw [E,List.filter_append];simp [g]
    rw [z];exact aIU v b (by have:=m (i*2+j);omega) λs' K N O=>⟨N,O⟩
   .have z:(ls.take (i*2+(j+1))).filter (·.v)=(ls.take (i*2+j)).filter (·.v):=by rw [E,List.filter_append];simp [g]
    rw [z];exact ⟨b,v⟩
  .have c2:¬(j:Int)<2:=of_decide_eq_false c2;have P:j=2:=by omega
   subst P;exact ⟨q-1,by omega,i+1,by rw [w64]<;>omega,by omega,by rw [show (i+1)*2=i*2+2 by omega];exact b,by rw [show (i+1)*2=i*2+2 by omega];exact v⟩
 .have c:¬(i:Int)<8:=of_decide_eq_false c;have hi:i=8:=by omega
  subst hi;rw [List.take_of_length_le (by omega)] at l;refine F s H ?_ (l.cons λC S=>TlbS.closeH G S);obtain ⟨B,_,T⟩:=l.sat;have:=T.1.1;rw [rT] at this;omega
def fitsB (tag page:Int) (y:Ln):Bool:=y.v&&(y.page==page&&(y.tag==tag || y.g))
end Go.Dn
namespace Go.Dn
structure Reg where
 a:Int
 b:Int
 w:Bool
 u:Bool
 x:Bool
 k:Int
def Reg.cells (r:Reg):List Value:=[.int .i64 r.a,.int .i64 r.b,.bool r.w,.bool r.u,.bool r.x,.int .i64 r.k]
def regC (L:List Reg):List Value:=L.flatMap Reg.cells
variable {A:AH} {l R:List SP} {P:SP} {i k v:Nat} {s:Sl} {L:List Reg} {y:Reg}
theorem cD:∀ L:List Reg,(regC L).length=L.length*6
 | []=>rfl
 | y::L=>by
  have:=cD L;unfold regC at this ⊢;rw [List.flatMap_cons,List.length_append,this,List.length_cons];simp [Reg.cells];omega
theorem iV (a b:List Reg):regC (a++b)=regC a++regC b:=List.flatMap_append
theorem aBm:∀ {L:List Reg} {v:Nat} {y:Reg} {c:Nat} {z:Value},L[v]? = some y->y.cells[c]? = some z->(regC L)[v*6+c]? = some z
 | [],v,a,c,x,h,_=>by simp at h
 | b::r,0,a,c,x,h,hc=>by
  simp at h;subst h;have d:c<6:=(List.getElem?_eq_some_iff.1 hc).1;unfold regC;rw [List.flatMap_cons,List.getElem?_append_left (by grind),Nat.zero_mul,Nat.zero_add];exact hc
 | b::r,v+1,a,c,x,h,hc=>by
  have h:r[v]? = some a:=by simpa using h
  unfold regC;rw [List.flatMap_cons,List.getElem?_append_right (by simp [Reg.cells];omega)];have:(v+1)*6+c-b.cells.length=v*6+c:=by simp [Reg.cells];omega
  rw [this];exact aBm h hc
theorem regC_one {v:Value} (h:v ∈ regC L):v.oneCell'=true:=by
 obtain ⟨d,_,a⟩:=List.mem_flatMap.1 h;simp [Reg.cells] at a;rcases a with rfl | rfl | rfl | rfl | rfl | rfl<;>rfl
theorem aBN {L:List Reg} (h:regC L=[]):L=[]:=by
 have:=cD L;rw [h] at this;exact List.length_eq_zero_iff.1 (by simp at this;omega)
theorem bF (h:Own l A) (e:l[k]? = some P) (a:Reads P s 6 (regC L)):s.len=L.length:=by
 have:=dV h e a;rw [cD] at this;omega
theorem dT (h:Own l A) (e:l[k]? = some P) (d:Reads P s 6 (regC L)) (f:L[v]? = some y) :
  ∃ a,s.a=some a/\∀ K:Int->Int->Bool->Bool->Bool->Int->Prop,K y.a y.b y.w y.u y.x y.k->
   aI .i64 (Addr.add a (Int.toNat (v:Int)*6)) A λp=>aI .i64 (Addr.add (Addr.add a (Int.toNat (v:Int)*6)) 1) A λq=>aB (Addr.add (Addr.add a (Int.toNat (v:Int)*6)) 2) A λg=>
    aB (Addr.add (Addr.add a (Int.toNat (v:Int)*6)) 3) A λr=>aB (Addr.add (Addr.add a (Int.toNat (v:Int)*6)) 4) A λt=>aI .i64 (Addr.add (Addr.add a (Int.toNat (v:Int)*6)) 5) A λu=>K p q g r t u:=by
 obtain ⟨w,o,m,C⟩:=bK h e d (j:=v*6+0) (aBm f (c:=0) rfl);refine ⟨_,m,λK x=>?_⟩
 have b:∀ c z,y.cells[c]? = some z->bM A ⟨w,o+v*6+c,none⟩=some z:=λc z B=>by
  obtain ⟨g,D,n,c1⟩:=bK h e d (j:=v*6+c) (aBm f B);rw [m] at n;cases n;rw [Nat.add_assoc];exact c1
 simp only [add_at,Int.toNat_natCast];exact ⟨_,by simpa using b 0 _ rfl,_,b 1 _ rfl,_,b 2 _ rfl,_,b 3 _ rfl,_,b 4 _ rfl,_,b 5 _ rfl,x⟩
theorem fM {t:TypeId} {K:Sl->AP} (h:Own (SlO s 6 (regC L)::R) A) (hs:s.a=none->L=[]) (r:L.length<=1000000)
  (f:∀ s' d,s'.a≠none->Own (SlO s' 6 (regC (L++[y]))::R) d->K s' d) :
  aN A (.cells #[.int .i64 y.a,.int .i64 y.b,.bool y.w,.bool y.u,.bool y.x,.int .i64 y.k] t) λb a=>
   dM 6 32 #[(.int .i64 (0:Int)),(.int .i64 (0:Int)),(.bool false),(.bool false),(.bool false),(.int .i64 (0:Int))] t s (Sl.mk (some (Addr.mk b 0 none)) 1 1) a K:=by
 have e:s.len=L.length:=by
  obtain ⟨B,_,j⟩:=h.sat;have:=j.1.1;rw [cD] at this;omega
 refine aT (cs:=y.cells) h λb u c=>?_;have c:=c.swap;refine dJ (i:=0) c rfl (eI (n:=1) (sz:=6) (cs:=y.cells) (rest:=[]) rfl) (λg=>nomatch g) (λg=>by rw [hs g];rfl) rfl (λv m=>?_) ⟨by simp only [e];omega,by simp only [e];omega⟩ λs' o w p a=>?_
 .exact regC_one (L:=[y]) (by simpa [regC] using m)
 .refine f s' o (λg=>?_) ?_
  .have:=p g;simp [Reg.cells] at this
  .rw [iV];have:regC [y]=y.cells:=by simp [regC]
   rw [this];exact Own.cons (λC q=>q.tail) a
def cQ (p q:Reg):Bool:=p.b==q.a&&((p.w==q.w&&(p.u==q.u&&(p.x==q.x&&true)))&&p.k==q.k)
theorem yG {p q:Reg} {Q:Bool->AH->Prop} (a:Q (cQ p q) A):qcn_A p.a p.b p.w p.u p.x p.k q.a q.b q.w q.u q.x q.k Q A:=by
 unfold qcn_A;unfold cQ at a;refine bsel_in (λg=>bsel_in (λb=>?_) λb=>?_) λg=>?_
 .simp_all
 .grind
 .simp_all
def rightB (a b:Int):Bool:=decide (a>=0)&&(decide (b > a)&&(decide (b<=34359738368)&&decide (b-a<=65536)))
theorem pQ {a b:Int} {Q:Bool->AH->Prop} (c:Q (rightB a b) A):qcm_A a b Q A:=by
 unfold qcm_A;unfold rightB at c;refine bsel_in (λg=>bsel_in (λd=>bsel_in (λe=>?_) λe=>?_) λd=>?_) λg=>?_
 .have g':=of_decide_eq_true g;have f:=of_decide_eq_true d;have h:=of_decide_eq_true e;rw [w64 (by omega) (by omega)];rw [g,d,e] at c;exact c
 .simp_all
 .simp_all
 .simp_all
def l6 (out:List Reg) (r:Reg):List Reg:=match out.getLast? with
 | some q=>if cQ q r=true then out.dropLast++[{ q with b:=r.b }] else out++[r]
 | none=>[r]
def mergedR (L:List Reg):List Reg:=L.foldl l6 []
theorem aIv (out:List Reg) (r:Reg):(l6 out r).length<=out.length+1:=by
 unfold l6;split
 .grind
 .simp
theorem aDh {α β:Type} (f:β->α->β) (z:β) (L:List α) {v:Nat} {y:α} (h:L[v]? = some y):(L.take (v+1)).foldl f z=f ((L.take v).foldl f z) y:=by
 rw [cN h,List.foldl_append];rfl
theorem oF:∀ (L:List Reg),(mergedR L).length<=L.length:=by
 intro L;unfold mergedR
 have:∀ (L:List Reg) (o:List Reg),(L.foldl l6 o).length<=o.length+L.length:=by
  intro L
  induction L with
  | nil=>intro o;simp
  | cons y L ih=>
   intro o;have a:=ih (l6 o y);have b:=aIv o y;simp only [List.foldl_cons,List.length_cons];omega
 simpa using this L []
theorem aAD {o:List Reg} {q r:Reg} (n:Int):(regC (o++[q])).set (o.length*6+1) (.int .i64 n)=regC (o++[{ q with b:=n }]):=by
 rw [iV,iV,List.set_append_right _ _ (by rw [cD];omega),cD,show o.length*6+1-o.length*6=1 by omega];rfl
theorem mR {Q:Sl->AH->Prop} (h:Own l A) (e:l[k]? = some P) (U:Reads P s 6 (regC L)) (hb:L.length<=100000)
  (Z:∀ s' D,(s'.a=none->mergedR L=[])->Own (SlO s' 6 (regC (mergedR L))::l) D->Q s' D):qcv_A s Q A:=by
 have hl:=bF h e U;unfold qcv_A qcv_G
 refine ⟨λo x m D=>∃ v:Nat,x=v/\m+v=L.length/\(o.a=none->mergedR (L.take v)=[])/\Own (SlO o 6 (regC (mergedR (L.take v)))::l) D,⟨L.length,0,rfl,rfl,λ_=>rfl,
  ⟨λ_=>none,A,λ_=>.inl rfl,(λ_ _ e=>nomatch e),eU.refl A,SlO.nil,h⟩⟩,?_⟩
 intro o x m V ⟨v,e1,e2,G,t⟩;subst e1;refine bsel_in (λc=>?_) λc=>?_
 .have c:(v:Int)<s.len:=of_decide_eq_true c;obtain ⟨y,W⟩:∃ y,L[v]? = some y:=⟨L[v]'(by omega),by simp⟩;have I:mergedR (L.take (v+1))=l6 (mergedR (L.take v)) y:=aDh _ _ _ W;have hml:(mergedR (L.take v)).length<=v:=Nat.le_trans (oF _) (by simp;omega);refine ⟨λJ D=>(J.a=none->mergedR (L.take (v+1))=[])/\Own (SlO J 6 (regC (mergedR (L.take (v+1))))::l) D,λJ H ⟨f1,f2⟩=>⟨m-1,by omega,v+1,by rw [w64]<;>omega,by omega,f1,f2⟩,?_⟩;obtain ⟨a,q1,q2⟩:=dT (k:=k+1) t (by simp_all) U W;rw [q1];refine inB_in (by omega) c (q2 _ ?_)
  have hol:o.len=(mergedR (L.take v)).length:=by
   obtain ⟨B,_,K⟩:=t.sat;have:=K.1.1;rw [cD] at this;omega
  rw [I];generalize mergedR (L.take v)=out at *;refine bsel_in (λg=>?_) λg=>?_
  .have g:(o.len:Int) > 0:=of_decide_eq_true g
   have e1:IntKind.wrap .i64 ((Int.ofNat o.len)-(1:Int))=((out.length-1:Nat):Int):=by
    show IntKind.wrap .i64 ((o.len:Int)-1)=_;rw [w64]<;>omega
   rw [e1];obtain ⟨q,X⟩:∃ q,out[out.length-1]? = some q:=⟨out[out.length-1]'(by omega),by simp⟩;have d:out.getLast? = some q:=by rw [List.getLast?_eq_getElem?];exact X
   have E:out=out.dropLast++[q]:=by
    have n:out≠[]:=λz=>by rw [z] at d;simp at d
    have:=List.dropLast_concat_getLast n;rw [List.getLast?_eq_some_getLast n] at d;rw [<-Option.some.inj d];exact this.symm
   obtain ⟨a2,M,p2⟩:=dT (k:=0) t rfl aR X;rw [M];refine inB_in (by omega) (by omega) (p2 _ (yG ?_));have Y:l6 out y=if cQ q y=true then out.dropLast++[{ q with b:=y.b }] else out++[y]:=by unfold l6;rw [d]
   refine bsel_in (λj=>?_) λj=>?_
   .rw [Y,if_pos j];refine inB_in (by omega) (by omega) ?_
    -- the last one's end is moved
    obtain ⟨B,C,d1,d2,d3,N,d5⟩:=t;have n:¬ o.cap=0:=by have:=N.1.2;omega
    have f:Own ((λB=>∃ b rest,o.a=some ⟨b,0,none⟩/\((o.len*6=(regC out).length/\o.len<=o.cap)/\(regC out++rest).length=o.cap*6)/\At b (regC out++rest) B)::l) V:=by
     rcases N.2 with g0 | ⟨b,rest,g1,g2,g3⟩
     .exact absurd g0 n
     .exact ⟨B,C,d1,d2,d3,⟨b,rest,g1,⟨N.1,g2⟩,g3⟩,d5⟩
    obtain ⟨b,f⟩:=Own.ex f;obtain ⟨rest,f⟩:=Own.ex f;obtain ⟨O,f⟩:=Own.pure f;obtain ⟨⟨u,w⟩,f⟩:=Own.pure f;rw [O] at M;cases M;simp only [add_at,Nat.zero_add,Int.toNat_natCast];have hrl:=cD out;refine bU (i:=0) f rfl (by rw [List.getElem?_append_left (by omega)];simp;omega) rfl λH p=>?_;have p:Own (At b ((regC out++rest).set ((out.length-1)*6+1) (.int .i64 y.b))::l) H:=p;rw [List.set_append_left _ _ (by omega)] at p
    have S:(regC out).set ((out.length-1)*6+1) (.int .i64 y.b)=regC (out.dropLast++[{ q with b:=y.b }]):=by
     have hd:out.length-1=out.dropLast.length:=by simp
     conv=>lhs;rw [E]
     rw [show (out.dropLast++[q]).length-1=out.dropLast.length by simp];exact aAD (r:=y) y.b
    rw [S] at p
    have F:(regC (out.dropLast++[{ q with b:=y.b }])).length=(regC out).length:=by
     rw [cD,cD];have:=congrArg List.length E;simp at this ⊢;omega
    refine ⟨λz=>(by rw [O] at z;cases z),Own.imp (λB K=>⟨⟨by rw [F];exact u.1,u.2⟩,.inr ⟨b,rest,O,by rw [List.length_append,F,<- List.length_append];exact w,K⟩⟩) p⟩
   .have j:¬ cQ q y=true:=by rw [j];simp
    rw [Y,if_neg j];exact fM t G (by omega) λs' H T p=>⟨λz=>absurd z T,p⟩
  .have g:¬ (o.len:Int) > 0:=of_decide_eq_false g;have h0:out=[]:=List.length_eq_zero_iff.1 (by omega);subst h0;exact fM t G (by simp) λs' H T p=>⟨λz=>absurd z T,p⟩
 .have c:¬(v:Int)<s.len:=of_decide_eq_false c;have hv:v=L.length:=by omega
  subst hv;rw [List.take_length] at G t;exact Z o V G t
end Go.Dn
namespace Go.Dn
variable {A:AH} {l:List SP} {P:SP} {k v:Nat} {s:Sl} {L:List Reg} {y:Reg}
def okP (o:Option Reg) (y:Reg):Bool:=!decide (y.a<0)&&(!decide (y.b<=y.a)&&(!decide (y.b > 34359738368)&&match o with
 | none=>true
 | some q=>!decide (q.b > y.a)&&!cQ q y))
def okR6 (L:List Reg) (v:Nat):Bool:=match L[v]? with
 | none=>true
 | some y=>okP (if v=0 then none else L[v-1]?) y
theorem Own.nil6 {sz:Nat} (h:Own l A):Own (SlO Sl.nil sz []::l) A:=⟨λ_=>none,A,λ_=>.inl rfl,(λ_ _ e=>nomatch e),eU.refl A,SlO.nil,h⟩
def goodB (L:List Reg):Bool:=decide (L.length<=64)&&(List.range L.length).all (okR6 L)
theorem aJg {v:Nat} (a:v<L.length) (h:okR6 L v=false):goodB L=false:=by
 unfold goodB;rw [Bool.and_eq_false_iff];right;rw [List.all_eq_false];exact ⟨v,by simpa using a,by rw [h];simp⟩
theorem uH {Q:Bool->AH->Prop} (h:Own l A) (e:l[k]? = some P) (hr:Reads P s 6 (regC L)) (hk:Q (goodB L) A):qco_A s Q A:=by
 have hl:=bF h e hr;unfold qco_A qco_G;refine bsel_in (λg=>?_) λg=>?_
 ·have g:(s.len:Int) > 64:=of_decide_eq_true g;have:goodB L=false:=by unfold goodB;rw [decide_eq_false (by omega)];rfl
  rwa [this] at hk
 have g:¬ (s.len:Int) > 64:=of_decide_eq_false g;refine ⟨λx m A'=>∃ v:Nat,x=v/\m+v=L.length/\A'=A/\∀ t,t<v->okR6 L t=true,⟨L.length,0,rfl,rfl,rfl,λt ht=>by omega⟩,?_⟩;intro x m A1 ⟨v,e1,e2,e3,e4⟩;subst e1 e3;refine bsel_in (λc=>?_) λc=>?_
 ·have c:(v:Int)<s.len:=of_decide_eq_true c;obtain ⟨y,hy⟩:∃ y,L[v]? = some y:=⟨L[v]'(by omega),by simp⟩;obtain ⟨a,q1,q2⟩:=dT h e hr hy;rw [q1];refine inB_in (by omega) c (q2 _ ?_);have no:okR6 L v=false->Q false A1:=λz=>by rw [aJg (by omega) z] at hk;exact hk
  have next:okR6 L v=true->∃ m3,m3<m/\∃ v':Nat,IntKind.wrap .i64 ((v:Int)+1)=v'/\m3+v'=L.length/\A1=A1/\∀ t,t<v'->okR6 L t=true:=λz=>
   ⟨m-1,by omega,v+1,by rw [w64]<;>omega,by omega,rfl,λt ht=>by
    rcases Nat.lt_or_eq_of_le (Nat.le_of_lt_succ ht) with q | q
    ·exact e4 t q
    ·subst q;exact z⟩
  have hdef:okR6 L v=okP (if v=0 then none else L[v-1]?) y:=by unfold okR6;rw [hy]
  unfold okP at hdef;refine bsel_in (λg1=>no (by rw [hdef,g1];rfl)) λg1=>bsel_in (λg2=>no (by rw [hdef,g1,g2];rfl)) λg2=>bsel_in (λg3=>no (by rw [hdef,g1,g2,g3];rfl)) λg3=>?_;refine bsel_in (λg4=>?_) λg4=>?_
  ·have g4:(v:Int) > 0:=of_decide_eq_true g4;obtain ⟨u,rfl⟩:∃ u,v=u+1:=⟨v-1,by omega⟩;have ew:IntKind.wrap .i64 (((u+1:Nat):Int)-1)=(u:Int):=by rw [w64]<;>omega
   rw [ew];obtain ⟨q,hq⟩:∃ q,L[u]? = some q:=⟨L[u]'(by omega),by simp⟩;obtain ⟨a2,p1,p2⟩:=dT h e hr hq;have ea:a2=a:=by rw [p1] at q1;exact Option.some.inj q1
   subst ea;rw [if_neg (by omega),Nat.add_sub_cancel,hq] at hdef;simp only at hdef;refine inB_in (by omega) (by omega) ?_
   have hb1:aI .i64 (Addr.add (Addr.add a2 (Int.toNat (u:Int)*6)) 1) A1 λn=>n=q.b:=by
    have:=p2 (λ_ n _ _ _ _=>n=q.b) rfl;obtain ⟨_,_,n,h1,_,_,_,_,_,_,_,_,h2⟩:=this;exact ⟨n,h1,h2⟩
   obtain ⟨n,hb1,hb2⟩:=hb1;refine ⟨n,hb1,?_⟩;rw [hb2];refine bsel_in (λg5=>no (by rw [hdef,g1,g2,g3,g5];rfl)) λg5=>?_;refine inB_in (by omega) (by omega) (p2 _ (yG ?_));refine bsel_in (λg6=>no (by rw [hdef,g1,g2,g3,g5,g6];rfl)) λg6=>next (by rw [hdef,g1,g2,g3,g5,g6];rfl)
  ·have g4:¬ (v:Int) > 0:=of_decide_eq_false g4;have hv:v=0:=by omega
   subst hv;exact next (by rw [hdef,if_pos rfl,g1,g2,g3];rfl)
 ·have c:¬(v:Int)<s.len:=of_decide_eq_false c
  have:goodB L=true:=by
   unfold goodB;rw [decide_eq_true (by omega),Bool.true_and,List.all_eq_true];intro t ht
   exact e4 t (by have:t<L.length:=by simpa using ht
                  omega)
  rwa [this] at hk
def findR (L:List Reg) (p:Int):Option Reg:=L.find? λr=>decide (r.a<=p)&&decide (p<r.b)
theorem gH {p:Int} {Q:Int->Int->Bool->Bool->Bool->Int->Bool->AH->Prop} (h:Own l A) (e:l[k]? = some P) (q:Reads P s 6 (regC L)) (T:L.length<=100000)
  (E:findR L p=none->Q 0 0 false false false 0 false A) (F:∀ y,findR L p=some y->y ∈ L->y.a<=p->p<y.b->Q y.a y.b y.w y.u y.x y.k true A):qeb_A s p Q A:=by
 have U:=bF h e q;unfold qeb_A;refine ⟨λx r t u w b d m G=>∃ v:Nat,x=v/\m+v=L.length/\G=A/\findR L p=findR (L.drop v) p/\r=0/\t=0/\u=false/\w=false/\b=false/\d=0,⟨L.length,0,rfl,rfl,rfl,by simp,rfl,rfl,rfl,rfl,rfl,rfl⟩,?_⟩;intro x r t u w b d m B ⟨v,e1,V,H,n,I,J,K,M,N,O⟩;subst e1 H I J K M N O;refine bsel_in (λc=>?_) λc=>?_
 .have c:(v:Int)<s.len:=of_decide_eq_true c;obtain ⟨y,f⟩:∃ y,L[v]? = some y:=⟨L[v]'(by omega),by simp⟩;obtain ⟨a,R,S⟩:=dT h e q f;rw [R];refine inB_in (by omega) c (S _ ?_)
  have C:L.drop v=y::L.drop (v+1):=by
   have i:=(List.getElem?_eq_some_iff.1 f).1;rw [List.drop_eq_getElem_cons i];rw [List.getElem?_eq_getElem i] at f;rw [Option.some.inj f]
  have next:(decide (y.a<=p)&&decide (p<y.b))=false->∃ D,D<m/\∃ o:Nat,IntKind.wrap .i64 ((v:Int)+1)=o/\D+o=L.length/\B=B/\findR L p=findR (L.drop o) p/\(0:Int)=0/\(0:Int)=0/\false=false/\false=false/\false=false/\(0:Int)=0:=λz=>
   ⟨m-1,by omega,v+1,by rw [w64]<;>omega,by omega,rfl,by rw [n,C];unfold findR;rw [List.find?_cons,z],rfl,rfl,rfl,rfl,rfl,rfl⟩
  refine bsel_in (λg=>bsel_in (λj=>?_) λj=>next (by rw [g,j];rfl)) λg=>next (by rw [g];rfl)
  refine F y ?_ (List.mem_of_getElem? f) (of_decide_eq_true g) (of_decide_eq_true j);rw [n,C];unfold findR;rw [List.find?_cons,g,j];rfl
 .have c:¬(v:Int)<s.len:=of_decide_eq_false c;refine E ?_;rw [n,List.drop_eq_nil_of_le (by omega)];rfl
end Go.Dn
namespace Go.Dn
variable {A:AH} {l R:List SP} {P:SP} {i k v b:Nat} {s:Sl} {L:List Reg} {y y':Reg} {p q:Int}
theorem rd6 {K:Int->Int->Bool->Bool->Bool->Int->Prop} (h:Own l A) (e:l[i]? = some (At b y.cells)) (a:K y.a y.b y.w y.u y.x y.k) :
  aI .i64 ⟨b,0,none⟩ A λc=>aI .i64 ⟨b,1,none⟩ A λd=>aB ⟨b,2,none⟩ A λf=>aB ⟨b,3,none⟩ A λg=>aB ⟨b,4,none⟩ A λj=>aI .i64 ⟨b,5,none⟩ A λm=>K c d f g j m:=
 bQ h e rfl (bQ h e rfl (nL h e rfl (nL h e rfl (nL h e rfl (bQ h e rfl a)))))
theorem wr6 {K:AP} (h:Own (At b y.cells::R) A) (c:∀ a,Own (At b y'.cells::R) a->K a) :
  aC ⟨b,0,none⟩ (.int .i64 y'.a) A λd=>aC ⟨b,1,none⟩ (.int .i64 y'.b) d λe=>aC ⟨b,2,none⟩ (.bool y'.w) e λf=>aC ⟨b,3,none⟩ (.bool y'.u) f λg=>aC ⟨b,4,none⟩ (.bool y'.x) g λj=>aC ⟨b,5,none⟩ (.int .i64 y'.k) j K:=
 bU (i:=0) h rfl rfl rfl λ_ h=>bU (i:=0) h rfl rfl rfl λ_ h=>bU (i:=0) h rfl rfl rfl λ_ h=>bU (i:=0) h rfl rfl rfl λ_ h=>bU (i:=0) h rfl rfl rfl λ_ h=>bU (i:=0) h rfl rfl rfl λa h=>c a h
def aLO:Reg:=⟨0,0,false,false,false,0⟩
def aheadR (y:Reg) (p:Int):Reg:={ y with b:=if p<y.b then p else y.b }
def inR6 (y:Reg) (p q:Int):Reg:={ y with a:=if p > y.a then p else y.a,b:=if q<y.b then q else y.b }
def behR (y:Reg) (q:Int):Reg:={ y with a:=if q > y.a then q else y.a }
theorem xN {Q:Int->Int->Bool->Bool->Bool->Int->Int->Int->Bool->Bool->Bool->Int->Int->Int->Bool->Bool->Bool->Int->AH->Prop} (h:Own l A)
  (o:∀ g,Own l g->Q (aheadR y p).a (aheadR y p).b y.w y.u y.x y.k (inR6 y p q).a (inR6 y p q).b y.w y.u y.x y.k (behR y q).a (behR y q).b y.w y.u y.x y.k g):qdj_A y.a y.b y.w y.u y.x y.k p q Q A:=by
 unfold qdj_A;refine aT (cs:=y.cells) h λr C t=>aT (cs:=aLO.cells) t λu D w=>aT (cs:=aLO.cells) w λx E d=>?_;simp only [add_at,Nat.zero_add];refine rd6 (i:=2) d rfl (rd6 (i:=2) d rfl (rd6 (i:=2) d rfl ⟨rd6 (i:=2) d rfl rfl,rd6 (i:=2) d rfl rfl,?_⟩));refine wr6 (y':=y) d.swap λF j=>⟨rd6 (i:=2) j rfl rfl,?_⟩;refine wr6 (y':=y) j.swap λG e=>?_;refine bQ (i:=2) e rfl rfl (bQ (i:=2) e rfl rfl (bQ (i:=2) e rfl rfl ?_));refine bU (i:=1) e rfl rfl rfl λH z=>bU (i:=1) z rfl rfl rfl λI m=>?_;refine bQ (i:=2) m rfl rfl (bU (i:=0) m rfl rfl rfl λB a=>?_);have a:Own (At x (behR y q).cells::At u (inR6 y p q).cells::At r y.cells::l) B:=a;refine rd6 (i:=1) a rfl (rd6 (i:=0) a rfl ⟨rd6 (i:=0) a rfl rfl,rd6 (i:=1) a rfl rfl,?_⟩);refine wr6 (y':=inR6 y p q) a.swap λJ n=>⟨rd6 (i:=1) n rfl rfl,?_⟩;refine wr6 (y':=behR y q) n.swap λf c=>?_;exact rd6 (i:=1) c rfl (rd6 (i:=0) c rfl (o f c.tail.tail.tail))
def cut1 (p q:Int) (y:Reg):List Reg:=if (inR6 y p q).b<=(inR6 y p q).a then [y] else
 (if (aheadR y p).b > y.a then [aheadR y p] else [])++(if y.b > (behR y q).a then [behR y q] else [])
theorem aIf (y:Reg):(cut1 p q y).length<=2:=by
 unfold cut1;split
 .simp
 .split<;>split<;>simp
def cutR (L:List Reg) (p q:Int):List Reg:=mergedR (L.flatMap (cut1 p q))
theorem qK:∀ L:List Reg,(L.flatMap (cut1 p q)).length<=2*L.length
 | []=>by simp
 | y::L=>by
  have a:=qK L;have c:=aIf (p:=p) (q:=q) y;rw [List.flatMap_cons,List.length_append,List.length_cons];omega
theorem aD1 {Q:Sl->AH->Prop} (h:Own l A) (e:l[k]? = some P) (H:Reads P s 6 (regC L)) (hb:L.length<=1000)
  (O:∀ s' f,(s'.a=none->cutR L p q=[])->Own (SlO s' 6 (regC (cutR L p q))::l) f->Q s' f):qdl_A s p q Q A:=by
 have hl:=bF h e H;unfold qdl_A qdl_G;refine ⟨λo x m f=>∃ v:Nat,x=v/\m+v=L.length/\(o.a=none->(L.take v).flatMap (cut1 p q)=[])/\Own (SlO o 6 (regC ((L.take v).flatMap (cut1 p q)))::l) f,⟨L.length,0,rfl,rfl,λ_=>rfl,h.nil6⟩,?_⟩;intro o x m A1 ⟨v,e1,e2,t,u⟩;subst e1;refine bsel_in (λc=>?_) λc=>?_
 .have c:(v:Int)<s.len:=of_decide_eq_true c;obtain ⟨y,I⟩:∃ y,L[v]? = some y:=⟨L[v]'(by omega),by simp⟩;have J:(L.take (v+1)).flatMap (cut1 p q)=(L.take v).flatMap (cut1 p q)++cut1 p q y:=by rw [cN I,List.flatMap_append];simp
  have S:((L.take v).flatMap (cut1 p q)).length<=2000:=Nat.le_trans (qK _) (by simp;omega);refine ⟨λj f=>(j.a=none->(L.take v).flatMap (cut1 p q)++cut1 p q y=[])/\Own (SlO j 6 (regC ((L.take v).flatMap (cut1 p q)++cut1 p q y))::l) f,λj D ⟨w,B⟩=>⟨m-1,by omega,v+1,by rw [w64]<;>omega,by omega,by rw [J];exact w,by rw [J];exact B⟩,?_⟩;generalize (L.take v).flatMap (cut1 p q)=out at *;obtain ⟨a,T,U⟩:=dT (k:=k+1) u (by simpa using e) H I;rw [T];refine inB_in (by omega) c (U _ (xN (p:=p) (q:=q) u λD n=>?_));refine bsel_in (λg=>?_) λg=>?_
  .have g:(inR6 y p q).b<=(inR6 y p q).a:=of_decide_eq_true g;have E:cut1 p q y=[y]:=by unfold cut1;rw [if_pos g]
   rw [E];exact fM n t (by omega) λs' K r V=>⟨λz=>absurd z r,V⟩
  .have g:¬ (inR6 y p q).b<=(inR6 y p q).a:=of_decide_eq_false g;have E:cut1 p q y=(if (aheadR y p).b > y.a then [aheadR y p] else [])++(if y.b > (behR y q).a then [behR y q] else []):=by unfold cut1;rw [if_neg g]
   rw [E];refine ⟨λj f=>(j.a=none->out++(if (aheadR y p).b > y.a then [aheadR y p] else [])=[])/\Own (SlO j 6 (regC (out++(if (aheadR y p).b > y.a then [aheadR y p] else [])))::l) f,λj K ⟨w,B⟩=>?_,?_⟩
   .refine ⟨λM f=>M=j/\f=K,λM A4 ⟨k1,k2⟩=>?_,?_⟩
    .subst k1 k2
     have N:(out++(if (aheadR y p).b > y.a then [aheadR y p] else [])).length<=3000:=by
      rw [List.length_append];split<;>simp<;>omega
     rw [<-List.append_assoc];generalize out++(if (aheadR y p).b > y.a then [aheadR y p] else [])=out2 at *;refine bsel_in (λd=>?_) λd=>?_
     .have d:y.b > (behR y q).a:=of_decide_eq_true d;rw [if_pos d];exact fM (y:=behR y q) B w (by omega) λs' W r F=>⟨λz=>absurd z r,F⟩
     .have d:¬ y.b > (behR y q).a:=of_decide_eq_false d;rw [if_neg d,List.append_nil];exact ⟨w,B⟩
    .unfold qdk_A;exact bsel_f rfl ⟨rfl,rfl⟩
   .refine bsel_in (λd=>?_) λd=>?_
    .have d:(aheadR y p).b > y.a:=of_decide_eq_true d;rw [if_pos d];exact fM (y:=aheadR y p) n t (by omega) λs' W r F=>⟨λz=>absurd z r,F⟩
    .have d:¬ (aheadR y p).b > y.a:=of_decide_eq_false d;rw [if_neg d,List.append_nil];exact ⟨t,n⟩
 .have c:¬(v:Int)<s.len:=of_decide_eq_false c;have X:v=L.length:=by omega
  subst X;rw [List.take_length] at t u;refine mR (k:=0) u rfl aR (by have:=qK (p:=p) (q:=q) L;omega) λY D G n=>O Y D G (n.cons λC Z=>Z.tail)
theorem mV {Q:Sl->AH->Prop} (h:Own l A) (e:l[k]? = some P) (c:Reads P s 6 (regC L)) (E:L.length<=1000) (j:s.a=none->L=[])
  (d:∀ s' f,s'.len=L.length->(s'.a=none->L=[])->Own (SlO s' 6 (regC L)::l) f->Q s' f):qcp_A s Q A:=by
 have a:=bF h e c;unfold qcp_A;refine bsel_in (λg=>?_) λg=>?_
 .have g:s.a=none:=by simpa using g
  have m:=j g;subst m;exact d Sl.nil A rfl (λ_=>rfl) h.nil6
 .have g:s.a≠none:=λz=>by rw [z] at g;cases g
  refine aT (cs:=[]) h λn o r=>?_;have t:Own (SlO ⟨some ⟨n,0,none⟩,0,0⟩ 6 []::l) o:=r.imp λB _=>⟨⟨by simp,Nat.le_refl _⟩,.inl rfl⟩;refine dJ (i:=k) t e c (λz=>absurd z g) (λz=>by cases z) rfl (λv u=>regC_one u) ⟨by simp only [a];omega,by simp only [a];omega⟩ λs' w x C D=>?_;exact d s' w (by simp [x,a]) (λz=>aBN (by simpa using C z)) (by simpa using D)
end Go.Dn
