/- What the proof stands on. -/
import Derived.Test.YtfnkdpmbpgffbaaGreatG
import Derived.Test.YtfnkdpmbpgffbaaGreatDnN
import Derived.Test.YtfnkdpmbpgffbaaGreatBits
namespace Go.Dn
def total (st:Nat->List Int):Nat->Int
 | 0=>0
 | k+1=>total st k+(st k).length*2 ^ k
def qU {α:Type} (st:Nat->α) (o:Nat) (l:α):Nat->α:=λk=>if k=o then l else st k
structure tY (st:Nat->List Int) (F:Int->Prop) (n:Int):Prop where
 rng:∀ o a,o<=10->a ∈ st o->0<=a/\a+2 ^ o<=1048576/\∃ q,a=2 ^ o*q
 nd:∀ o,o<=10->(st o).Nodup
 apart:∀ o a o' a' x,o<=10->o'<=10->a ∈ st o->a' ∈ st o'->a<=x->x<a+2 ^ o->a'<=x->x<a'+2 ^ o'->o=o'/\a=a'
 cov:∀ x,F x↔∃ o a,o<=10/\a ∈ st o/\a<=x/\x<a+2 ^ o
 sum:n=total st 11
theorem vS (o:Nat):(0:Int)<2 ^ o:=Int.pow_pos (by omega)
theorem dK {α:Type} {st:Nat->α} {o:Nat} {l:α}:qU st o l o=l:=if_pos rfl
theorem fL {α:Type} {st:Nat->α} {o k:Nat} {l:α} (h:k≠o):qU st o l k=st k:=if_neg h
theorem sV (st:Nat->List Int) (o:Nat) (l:List Int):∀ k,total (qU st o l) k=total st k+if o<k then ((l.length:Int)-(st o).length)*2 ^ o else 0
 | 0=>by simp [total]
 | k+1=>by
  simp only [total,sV st o l k];by_cases e:k=o
  .subst e;rw [dK,if_neg (by omega),if_pos (by omega),Int.sub_mul];omega
  .rw [fL e];by_cases g:o<k
   .rw [if_pos g,if_pos (by omega)];omega
   .rw [if_neg g,if_neg (by omega)];omega
theorem l8 (st:Nat->List Int):∀ k,0<=total st k
 | 0=>Int.le_refl _
 | k+1=>by
  have:=l8 st k;have b:(0:Int)<=(st k).length*2 ^ k:=Int.mul_nonneg (by omega) (by have:=vS k;omega);simp only [total];omega
theorem pU {st:Nat->List Int}:∀ k,(∀ o,o<k->st o=[])->total st k=0
 | 0,_=>rfl
 | k+1,h=>by simp [total,pU k (λo b=>h o (by omega)),h k (by omega)]
theorem aCD {st:Nat->List Int} {o:Nat}:∀ k,o<k->((st o).length:Int)*2 ^ o<=total st k
 | 0,h=>by omega
 | k+1,h=>by
  simp only [total];have b:(0:Int)<=(st k).length*2 ^ k:=Int.mul_nonneg (by omega) (by have:=vS k;omega);by_cases e:o=k
  .subst e;have:=l8 st o;omega
  .have:=aCD (st:=st) (o:=o) k (by omega);omega
variable {st:Nat->List Int} {F F':Int->Prop} {n:Int} {o:Nat} {a:Int}
theorem tY.congr (h:tY st F n) (b:∀ x,F x↔F' x):tY st F' n:=⟨h.rng,h.nd,h.apart,λx=>(b x).symm.trans (h.cov x),h.sum⟩
theorem tY.nonneg (h:tY st F n):0<=n:=by rw [h.sum];exact l8 _ _
theorem tY.free (h:tY st F n) {x:Int} (b:F x):0<=x/\x<1048576:=by
 obtain ⟨o,a,c,d,e,f⟩:=(h.cov x).1 b;have:=h.rng o a c d;omega
theorem tY.del (h:tY st F n) (m:o<=10) (j:a ∈ st o):tY (qU st o ((st o).erase a)) (λx=>F x/\¬(a<=x/\x<a+2 ^ o)) (n-2 ^ o):=by
 have c:∀ b a',a' ∈ qU st o ((st o).erase a) b->a' ∈ st b:=by
  intro b a' d;by_cases e:b=o
  .subst e;rw [dK] at d;exact List.mem_of_mem_erase d
  .rw [fL e] at d;exact d
 refine ⟨λb a' d f=>h.rng b a' d (c b a' f),λb d=>?_,λp q r s x d f g i=>h.apart p q r s x d f (c _ _ g) (c _ _ i),λx=>?_,?_⟩
 .by_cases e:b=o
  .subst e;rw [dK];exact (h.nd b d).erase a
  .rw [fL e];exact h.nd b d
 .rw [h.cov x];constructor
  .rintro ⟨⟨b,a',d,f,g,i⟩,k⟩;refine ⟨b,a',d,?_,g,i⟩;by_cases e:b=o
   .subst e;rw [dK];refine (List.mem_erase_of_ne λl=>?_).2 f;subst l;exact k ⟨g,i⟩
   .rw [fL e];exact f
  .rintro ⟨b,a',d,f,g,i⟩;refine ⟨⟨b,a',d,c _ _ f,g,i⟩,λ⟨k,t⟩=>?_⟩;obtain ⟨e1,l⟩:=h.apart b a' o a x d m (c _ _ f) j g i k t;subst e1 l;rw [dK] at f;exact (h.nd b d).not_mem_erase f
 .rw [sV,if_pos (by omega),h.sum,List.length_erase_of_mem j];have:0<(st o).length:=List.length_pos_of_mem j;have e:(((st o).length-1:Nat):Int)-(st o).length = -1:=by omega
  rw [e];omega
theorem tY.add (h:tY st F n) (z:o<=10) (A:0<=a/\a+2 ^ o<=1048576) (D:∃ q,a=2 ^ o*q) (t:∀ x,a<=x->x<a+2 ^ o->¬F x) :
  a ∉ st o/\tY (qU st o (st o++[a])) (λx=>F x\/(a<=x/\x<a+2 ^ o)) (n+2 ^ o):=by
 have J:=vS o;have hno:a ∉ st o:=λE=>t a (Int.le_refl _) (by omega) ((h.cov a).2 ⟨o,a,z,E,Int.le_refl _,by omega⟩)
 have b:∀ c a',a' ∈ qU st o (st o++[a]) c↔a' ∈ st c\/(c=o/\a'=a):=by
  intro c a';by_cases e:c=o
  .subst e;rw [dK];simp
  .rw [fL e];simp [e]
 refine ⟨hno,λc a' f d=>?_,λc f=>?_,λu v k l x f d i g m p r s=>?_,λx=>?_,?_⟩
 .rcases (b c a').1 d with d | ⟨rfl,rfl⟩
  .exact h.rng c a' f d
  .exact ⟨A.1,A.2,D⟩
 .by_cases e:c=o
  .subst e;rw [dK];exact List.nodup_append.2 ⟨h.nd c f,by simp,λx G y B=>by simp at B;subst B;exact λe=>hno (e ▸ G)⟩
  .rw [fL e];exact h.nd c f
 .rcases (b u v).1 i with C | ⟨e1,j⟩
  .rcases (b k l).1 g with w | ⟨e1,j⟩
   .exact h.apart u v k l x f d C w m p r s
   .rw [e1,j] at s;rw [j] at r;exact absurd ((h.cov x).2 ⟨u,v,f,C,m,p⟩) (t x r s)
  .rw [e1,j] at p;rw [j] at m;rcases (b k l).1 g with w | ⟨H,I⟩
   .exact absurd ((h.cov x).2 ⟨k,l,d,w,r,s⟩) (t x m p)
   .exact ⟨e1.trans H.symm,j.trans I.symm⟩
 .rw [h.cov x];constructor
  .rintro (⟨c,a',f,d,i,g⟩ | ⟨i,g⟩)
   .exact ⟨c,a',f,(b c a').2 (.inl d),i,g⟩
   .exact ⟨o,a,z,(b o a).2 (.inr ⟨rfl,rfl⟩),i,g⟩
  .rintro ⟨c,a',f,d,i,g⟩;rcases (b c a').1 d with d | ⟨rfl,rfl⟩
   .exact .inl ⟨c,a',f,d,i,g⟩
   .exact .inr ⟨i,g⟩
 .rw [sV,if_pos (by omega),h.sum];have e:(((st o++[a]).length:Nat):Int)-(st o).length=1:=by simp;omega
  rw [e];omega
theorem tY.empty:tY (λ_=>[]) (λ_=>False) 0:=⟨λ_ _ _ h=>by simp at h,λ_ _=>List.nodup_nil,λ_ _ _ _ _ _ _ h=>by simp at h,λx=>⟨λh=>h.elim,λ⟨_,_,_,h,_⟩=>by simp at h⟩,by rw [pU 11 λ_ _=>rfl]⟩
def jX (l:List Int):List (Int × Value):=l.map λa=>(a,.bool true)
def aFs (l:List Int):List (Int × Value):=l.map λa=>(a,.int .i64 0)
theorem rY (c:Value) (l:List Int) (x:Int):(l.map λa=>(a,c)).lookup x=if x ∈ l then some c else none:=by
 induction l with
 | nil=>rfl
 | cons y l ih=>
  simp only [List.map_cons,List.lookup];by_cases e:x=y
  .subst e;simp
  .have:(x==y)=false:=by simpa using e
   rw [this,ih];simp [e]
end Go.Dn
namespace Go.Dn
variable {A:AH} {l R:List SP} {b g:Nat} {mb:Nat->Nat} {st:Nat->List Int} {gl:List Int} {n:Int} {F G:Int->Prop}
def tD (mb:Nat->Nat) (g:Nat) (n:Int):List Value:=(List.range 11).map (λi=>.map (some (mb i)))++[.map (some g),.int .i64 n]
def qQ (mb:Nat->Nat) (st:Nat->List Int):List SP:=(List.range 11).map λi=>MapI (mb i) .i64 (jX (st i))
def dN (b:Nat) (mb:Nat->Nat) (g:Nat) (st:Nat->List Int) (gl:List Int) (n:Int):List SP:=At b (tD mb g n)::MapI g .i64 (aFs gl)::qQ mb st
structure GOK (gl:List Int) (F G:Int->Prop):Prop where
 nodup:gl.Nodup
 mem:∀ x,G x↔x ∈ gl
 apart:∀ x,G x->¬F x/\0<=x/\x<1048576
def Bud (b:Nat) (F G:Int->Prop) (n:Int):SP:=λB=>∃ mb g st gl,tY st F n/\GOK gl F G/\n+gl.length<=1048576/\Own (dN b mb g st gl n) B
theorem aD2 {k:Nat} (a:k<=10):(tD mb g n)[k]? = some (.map (some (mb k))):=by
 unfold tD;rw [List.getElem?_append_left (by simp;omega),List.getElem?_map,List.getElem?_range (by omega)];rfl
theorem nR {k:Nat} (a:k<=10):(dN b mb g st gl n++R)[2+k]? = some (MapI (mb k) .i64 (jX (st k))):=by
 rw [List.getElem?_append_left (by simp [dN,qQ];omega)];rw [Nat.add_comm];simp only [dN,qQ,List.getElem?_cons_succ,List.getElem?_map];rw [List.getElem?_range (by omega)];rfl
theorem zS {k:Nat} (a:k<=10) (x:List Int):(dN b mb g st gl n++R).set (2+k) (MapI (mb k) .i64 (jX x))=dN b mb g (qU st k x) gl n++R:=by
 rw [List.set_append_left _ _ (by simp [dN,qQ];omega)];congr 1;rw [Nat.add_comm];simp only [dN,List.set_cons_succ];congr 2;apply List.ext_getElem?;intro i;rw [List.getElem?_set];by_cases e:k=i
 .subst e;rw [if_pos rfl,if_pos (by simp [qQ];omega)];simp only [qQ,List.getElem?_map];rw [List.getElem?_range (by omega)];simp [dK]
 .rw [if_neg e];simp only [qQ,List.getElem?_map];cases hi:(List.range 11)[i]? with
  | none=>rfl
  | some j=>
   have:j=i:=by grind
   subst this;simp [fL (Ne.symm e)]
theorem lT {k:Nat} {K:Option Nat->Prop} (a:k<=10) (h:Own (dN b mb g st gl n++R) A) (c:K (some (mb k))):aM (Addr.add ⟨b,0,none⟩ (Int.toNat (k:Int)*1)) A K:=by
 rw [add_at];refine fC (i:=0) h rfl ?_ c;rw [show 0+Int.toNat (k:Int)*1=k by omega];exact aD2 a
theorem aAb (c:Value) (l:List Int) (x:Int):delM (l.map λa=>(a,c)) x=(l.erase x).map λa=>(a,c):=by
 induction l with
 | nil=>rfl
 | cons y l ih=>
  simp only [List.map_cons,delM];by_cases e:y=x
  .subst e;simp
  .simp_all
theorem aAd (c:Value) (l:List Int) (x:Int) (d:x ∉ l):putM (l.map λa=>(a,c)) x c=(l++[x]).map λa=>(a,c):=by
 induction l with
 | nil=>rfl
 | cons y l ih=>
  simp only [List.mem_cons,not_or] at d;simp only [List.map_cons,putM];rw [if_neg (Ne.symm d.1),ih d.2];rfl
theorem aI9 {k:Nat} {x:Int} {K:Option Value->Prop} (a:k<=10) (h:Own (dN b mb g st gl n++R) A) (c:K (if x ∈ st k then some (.bool true) else none)):lG A (some (mb k)) .i64 x K:=by
 refine iD (i:=2+k) h (nR a) ?_;unfold jX;rw [rY];exact c
theorem aFp {k:Nat} {x:Int} {K:AP} (c:k<=10) (h:Own (dN b mb g st gl n++R) A) (d:∀ a,Own (dN b mb g (qU st k ((st k).erase x)) gl n++R) a->K a):qW A (some (mb k)) .i64 x K:=by
 refine aDw (i:=2+k) h (nR c) λa h'=>d a ?_;have:delM (jX (st k)) x=jX ((st k).erase x):=aAb _ _ _;rw [this,zS c] at h';exact h'
theorem aEA {k:Nat} {x:Int} {K:AP} (c:k<=10) (d:x ∉ st k) (h:Own (dN b mb g st gl n++R) A) (e:∀ a,Own (dN b mb g (qU st k (st k++[x])) gl n++R) a->K a):mK A (some (mb k)) .i64 x (.bool true) K:=by
 refine aDs (i:=2+k) h (nR c) λa h'=>e a ?_;have:putM (jX (st k)) x (.bool true)=jX (st k++[x]):=aAd _ _ _ d;rw [this,zS c] at h';exact h'
theorem aFg {k:Nat} {a c:Int} {F':Int->Prop} {Q:AH->Prop} (h:Own (dN b mb g st gl n++R) A) (hk:k<=10) (hb:tY st F' c) (h0:0<=a/\a+2 ^ k<=1048576) (hq:∃ q,a=2 ^ k*q)
  (hF:∀ x,a<=x->x<a+2 ^ k->¬F' x)
  (hQ:∀ st' A',tY st' (λx=>F' x\/(a<=x/\x<a+2 ^ k)) (c+2 ^ k)->Own (dN b mb g st' gl n++R) A'->Q A'):qap_A (some ⟨b,0,none⟩) a k Q A:=by
 unfold qap_A
 refine ⟨λx y m h'=>∃ (k':Nat) (st':Nat->List Int) (F2:Int->Prop) (c':Int),y=k'/\k'<=10/\m=10-k'/\tY st' F2 c'/\0<=x/\x+2 ^ k'<=1048576/\(∃ q,x=2 ^ k'*q)/\
  (∀ z,x<=z->z<x+2 ^ k'->¬F2 z)/\(∀ z,(F2 z\/(x<=z/\z<x+2 ^ k'))↔(F' z\/(a<=z/\z<a+2 ^ k)))/\c'+2 ^ k'=c+2 ^ k/\Own (dN b mb g st' gl n++R) h',
  ⟨_,k,st,F',c,rfl,hk,rfl,hb,h0.1,h0.2,hq,hF,λ_=>Iff.rfl,rfl,h⟩,?_⟩
 intro x y m h' ⟨k',st',F2,c',e1,e2,e3,e4,e5,e6,⟨q,e7⟩,e8,e9,e10,e11⟩;subst e1 e3;have hp:=gI (k:=k') (by omega)
 have fin:∀ A',(x ∉ st' k'->Own (dN b mb g (qU st' k' (st' k'++[x])) gl n++R) A')->Q A':=by
  intro A' hA;obtain ⟨g1,g2⟩:=e4.add e2 ⟨e5,e6⟩ ⟨q,e7⟩ e8;refine hQ _ A' ?_ (hA g1);rw [<-e10];exact g2.congr e9
 have hno:x ∉ st' k':=(e4.add e2 ⟨e5,e6⟩ ⟨q,e7⟩ e8).1
 have last:aF (some (⟨b,0,none⟩:Addr)) λa14=>bB (k':Int) 11 (aM (Addr.add a14 (Int.toNat (k':Int)*1)) h' λmp15=>mK h' mp15 .i64 x (.bool true) λh16=>Q h16):=
  inB_in (by omega) (by omega) (lT e2 e11 (aEA e2 hno e11 λA' hA=>fin A' λ_=>hA))
 refine bsel_in (λhc=>?_) λ_=>last;have hc:k'<10:=by simp at hc;omega
 refine inB_in (by omega) (by omega) (lT e2 e11 ?_);refine bsel_f (by simp) ?_;rw [aHz (by omega) 1 (by omega) (by omega),Int.one_mul]
 have q0:0<=q:=by
  rcases Int.lt_or_le q 0 with g | g
  ·have:=Int.mul_neg_of_pos_of_neg hp.2 g;omega
  ·exact g
 have hx:bits .xor .i64 x (2 ^ k')=if q % 2=0 then x+2 ^ k' else x-2 ^ k':=by
  rw [e7,aMi (by omega) q0 (by omega)]
 have hn:bits .andNot .i64 x (2 ^ k')=if q % 2=0 then x else x-2 ^ k':=by
  rw [e7,aGq (by omega) q0 (by omega)]
 refine aI9 e2 e11 ?_;by_cases hm:bits .xor .i64 x (2 ^ k') ∈ st' k'
 ·rw [if_pos hm];refine ⟨true,rfl,aG rfl (inB_in (by omega) (by omega) (lT e2 e11 (bsel_f (by simp) (aFp e2 e11 λA' hA=>bsel_f (by simp) ?_))))⟩;have hd:=e4.del e2 hm;obtain ⟨r1,r2,_⟩:=e4.rng k' _ e2 hm;rw [w64 (by omega) (by omega)];have hs:(2:Int) ^ (k'+1)=2 ^ k'*2:=Int.pow_succ _ _;have hsub:∀ z,bits .xor .i64 x (2 ^ k')<=z->z<bits .xor .i64 x (2 ^ k')+2 ^ k'->F2 z:=λz z1 z2=>(e4.cov z).2 ⟨k',_,e2,hm,z1,z2⟩;refine ⟨10-(k'+1),by omega,k'+1,_,_,_,by omega,by omega,rfl,hd,?_,?_,⟨q / 2,?_⟩,?_,?_,?_,hA⟩
  ·omega
  ·omega
  ·rw [hn,hs,Int.mul_assoc];split
   ·grind
   ·rename_i g;rw [show 2*(q / 2)=q-1 by omega,Int.mul_sub,Int.mul_one,e7]
  ·grind
  ·grind
  ·omega
 ·rw [if_neg hm];exact ⟨false,rfl,bsel_f rfl last⟩
theorem Bud.openH (h:Own (Bud b F G n::R) A):∃ mb g st gl,tY st F n/\GOK gl F G/\n+gl.length<=1048576/\Own (dN b mb g st gl n++R) A:=by
 obtain ⟨mb,h⟩:=Own.ex h;obtain ⟨g,h⟩:=Own.ex h;obtain ⟨st,h⟩:=Own.ex h;obtain ⟨gl,h⟩:=Own.ex h;obtain ⟨a,h⟩:=Own.pure h;obtain ⟨c,h⟩:=Own.pure h;obtain ⟨d,h⟩:=Own.pure h;exact ⟨mb,g,st,gl,a,c,d,Own.flat h⟩
theorem Bud.closeH (a:tY st F n) (c:GOK gl F G) (d:n+gl.length<=1048576) (h:Own (dN b mb g st gl n++R) A):Own (Bud b F G n::R) A:=
 h.app.imp λ_ e=>⟨mb,g,st,gl,a,c,d,e⟩
theorem aGE:(tD mb g n)[11]? = some (.map (some g)):=rfl
theorem aGH:(tD mb g n)[12]? = some (.int .i64 n):=rfl
theorem aDZ {K:Option Nat->Prop} (h:Own (dN b mb g st gl n++R) A) (a:K (some g)):aM (Addr.add ⟨b,0,none⟩ 11) A K:=by
 rw [add_at];exact fC (i:=0) h rfl aGE a
theorem aBF {K:Int->Prop} (h:Own (dN b mb g st gl n++R) A) (a:K n):aI .i64 (Addr.add ⟨b,0,none⟩ 12) A K:=by
 rw [add_at];exact bQ (i:=0) h rfl aGH a
theorem aDP {x:Int} {K:AP} (h:Own (dN b mb g st gl n++R) A) (c:∀ a,Own (dN b mb g st gl x++R) a->K a):aC (Addr.add ⟨b,0,none⟩ 12) (.int .i64 x) A K:=by
 rw [add_at];exact bU (i:=0) h rfl rfl rfl λa h'=>c a h'
theorem aF6 {f:Int} {Q:Int->AH->Prop} (h:Own (Bud b F G n::R) A) (k:G f) (q:∀ m,Own (Bud b (λx=>F x\/x=f) (λx=>G x/\x≠f) (n+1)::R) m->Q 0 m):qbd_A (some ⟨b,0,none⟩) f Q A:=by
 obtain ⟨mb,g,st,gl,o,c,C,h⟩:=Bud.openH h;have e:=(c.mem f).1 k;obtain ⟨D,r,E⟩:=c.apart f k;have H:=o.nonneg;have I:0<gl.length:=List.length_pos_of_mem e;unfold qbd_A qbd_G;refine aDZ h ?_;refine iD (i:=1) h rfl ?_;unfold aFs;rw [rY,if_pos e];refine ⟨0,rfl,bsel_f rfl ?_⟩;refine aDZ h (aDw (i:=1) h rfl λs a=>?_);have e1:delM (aFs gl) f=aFs (gl.erase f):=aAb _ _ _;rw [e1] at a;have a:Own (dN b mb g st (gl.erase f) n++R) s:=a;refine aBF a (bsel_f rfl (aDP a λt d=>?_))
 have u:IntKind.wrap .i64 (n+IntKind.wrap .i64 ((1:Int)*2 ^ (min (Int.toNat 0) 64)))=n+1:=by
  rw [show IntKind.wrap .i64 ((1:Int)*2 ^ (min (Int.toNat 0) 64))=1 from rfl,w64]<;>omega
 rw [u] at d;show qap_A _ f ((0:Nat):Int) _ t;refine aFg d (by omega) o ⟨r,by simp;omega⟩ ⟨f,by simp⟩ (λx J K=>?_) λv w y j=>?_
 .grind
 .have L:(gl.erase f).length=gl.length-1:=List.length_erase_of_mem e;refine q w (Bud.closeH (gl:=gl.erase f) (n:=n+1) (y.congr λx=>?_) ⟨c.nodup.erase f,λx=>?_,λx p=>?_⟩ (by omega) j)
  .grind
  .rw [c.nodup.mem_erase_iff,c.mem x];exact ⟨λh=>⟨h.2,h.1⟩,λh=>⟨h.2,h.1⟩⟩
  .obtain ⟨z,B⟩:=c.apart x p.1;exact ⟨λh=>h.elim z p.2,B⟩
theorem zW {Q:Int->AH->Prop} (h:Own (Bud b F G n::R) A) (a:Q n A):qar_A (some ⟨b,0,none⟩) Q A:=by
 obtain ⟨mb,g,st,gl,c,d,e,h⟩:=Bud.openH h;exact aBF h a
theorem aHA {k:Nat} {s:Sl} {a:List Int} {Q:Int->AH->Prop} (h:Own l A) (e:l[k]? = some (SlAt s 1 (a.map (.int .i64)))) (f:a≠[]) (i:a.length<9223372036854775807) (w:∀ x ∈ a,Q x A):qaz_A s Q A:=by
 have p:s.len=a.length:=by have:=aDL h e;simpa using this
 have I:0<a.length:=List.length_pos_iff.2 f;have cell:∀ j x,a[j]? = some x->∃ b o,s.a=some ⟨b,o,none⟩/\bM A ⟨b,o+j,none⟩=some (.int .i64 x):=λj x z=>rZ h e (j:=j) (v:=.int .i64 x) (by simp [z]);unfold qaz_A;refine ⟨λh'=>h'=A,?_,bsel_f (by simp [p];omega) rfl⟩;intro h' e1;subst e1;obtain ⟨q,d⟩:∃ x,a[0]? = some x:=⟨a[0],by simp⟩;obtain ⟨J,o0,c1,c2⟩:=cell 0 q d;rw [c1];refine inB_in (by omega) (by omega) ⟨q,by simpa using c2,?_⟩;refine ⟨λx y m r=>∃ j:Nat,y=j/\j<=a.length/\m=a.length-j/\x ∈ a/\r=h',⟨_,1,rfl,by omega,rfl,List.mem_of_getElem? d,rfl⟩,?_⟩;intro x y m r ⟨j,B,K,C,t,D⟩;subst B C D;refine bsel_in (λc=>?_) λc=>w x t;have c:j<a.length:=by simp [p] at c;omega
 obtain ⟨y,E⟩:∃ y,a[j]? = some y:=⟨a[j],by simp [c]⟩;obtain ⟨L,M,u,H⟩:=cell j y E;rw [c1] at u;cases u;refine inB_in (by omega) (by omega) ⟨y,by rw [add_at];simpa using H,a.length-(j+1),by omega,j+1,by rw [w64]<;>omega,by omega,rfl,?_,rfl⟩;split
 .grind
 .exact t
theorem aMD {x:Int} (c : -9223372036854775808<=x) (d:x<9223372036854775808):(Lit.int .i64 x).wf=true:=by
 have e1:IntKind.min .i64 = -9223372036854775808:=rfl;have a:IntKind.max .i64=9223372036854775807:=rfl;simp [Lit.wf,e1,a];omega
theorem aIs {j k:Nat} (h:k<=j):(2:Int) ^ k<=2 ^ j:=by
 have:(2:Nat) ^ k<=2 ^ j:=Nat.pow_le_pow_right (by omega) h;have a:((2 ^ k:Nat):Int)<=((2 ^ j:Nat):Int):=Int.ofNat_le.2 this;simpa using a
set_option maxHeartbeats 1000000 in
theorem aFU {Q:Int->Int->AH->Prop} (h:Own (Bud b F G n::R) A) (h0:n=0->Q 0 7 A)
  (hk:n≠0->∀ f Z,F f->Own (Bud b (λx=>F x/\x≠f) (λx=>G x\/x=f) (n-1)::R) Z->Q f 0 Z):qba_A (some ⟨b,0,none⟩) 0 Q A:=by
 obtain ⟨mb,g,st,gl,v,B,h3,h⟩:=Bud.openH h;have hn:=v.nonneg;unfold qba_A qba_G;refine ⟨λh'=>h'=A,?_,bsel_f rfl (bsel_f rfl rfl)⟩;intro A0 e0;subst e0;refine ⟨λx h'=>h'=A0/\∃ j:Nat,x=j/\j<=11/\(∀ o,o<j->st o=[])/\(j<=10->st j≠[]),?_,λx m h'=>h'=A0/\∃ j:Nat,x=j/\j<=11/\m=11-j/\(∀ o,o<j->st o=[]),⟨_,rfl,0,rfl,by omega,rfl,λo N=>by omega⟩,?_⟩
 rotate_left
 .intro x m h' ⟨e1,j,C,P,e4,D⟩;subst e1 C e4;refine bsel_in (λc=>?_) λc=>⟨rfl,j,rfl,P,D,λg=>absurd c (by simp;omega)⟩;have c:j<=10:=by simp at c;omega
  refine inB_in (by omega) (by omega) (lT c h (aNQ (i:=2+j) h (nR c) ?_));refine bsel_in (λd=>?_) λd=>⟨rfl,j,rfl,P,D,λ_ e=>by simp [jX,e] at d⟩
  have d:st j=[]:=by
   apply List.length_eq_zero_iff.1;simp [jX] at d;simp [d]
  refine ⟨11-(j+1),by omega,rfl,j+1,by rw [w64]<;>omega,by omega,rfl,λo N=>?_⟩;by_cases q:o=j
  .simp_all
  .grind
 intro x h' ⟨e1,j,C,P,D,e6⟩;subst e1 C;refine bsel_in (λc=>?_) λc=>?_
 .have c:j=11:=by simp at c;omega
  subst c;exact h0 (by rw [v.sum];exact pU 11 D)
 have c:j<=10:=by simp at c;omega
 have E:=e6 c;have S:=gI (k:=j) (by omega);have H:=aCD (st:=st) (o:=j) 11 (by omega);rw [<-v.sum] at H;have hlp:0<(st j).length:=List.length_pos_iff.2 E
 have T:n≠0:=by
  have:(0:Int)<(st j).length*2 ^ j:=Int.mul_pos (by omega) S.2;omega
 have hl20:((st j).length:Int)<=1048576:=by
  have:((st j).length:Int)*1<=(st j).length*2 ^ j:=Int.mul_le_mul_of_nonneg_left (by omega) (by omega);omega
 refine inB_in (by omega) (by omega) (lT c h ?_);unfold qax_A;show aN h' (.cells [Value.map (some (mb j))].toArray _) _;refine aT h λkb A1 U=>?_;show clA 3 (some ⟨kb,0,none⟩) _ A1;refine aMZ (j:=0) (i:=2+j+1) U rfl (nR c) (by simp [jX];omega) (λp hp=>?_) (λe=>?_) λss s A2 hs V hsl I=>?_
 .obtain ⟨a,w,rfl⟩:=List.mem_map.1 hp;have:=v.rng j a c w;exact aMD (by omega) (by omega)
 .exact absurd (by simpa [jX] using e) E
 have J:ss.Perm (st j):=by
  have:(jX (st j)).map (·.1)=st j:=by unfold jX;rw [List.map_map];exact List.map_id' _
  rw [this] at hs;exact hs
 have hssl:ss.length=(st j).length:=J.length_eq;refine aHA (k:=0) I rfl V (by omega) λa w=>?_;have w:=J.mem_iff.1 w;have K:Own (dN b mb g st gl n++R) A2:=I.tail.tail;refine inB_in (by omega) (by omega) (lT c K (aFp c K λA4 W=>?_));obtain ⟨r1,r2,q,r3⟩:=v.rng j a c w;have X:∀ x,a<=x->x<a+2 ^ j->F x:=λx z1 z2=>(v.cov x).2 ⟨j,a,c,w,z1,z2⟩
 refine ⟨λy m h'=>∃ (k:Nat) (r:Nat->List Int),y=k/\k<=j/\k=m/\(∀ o,o<k->r o=[])/\tY r (λx=>F x/\¬(a<=x/\x<a+2 ^ k)) (n-2 ^ k)/\Own (dN b mb g r gl n++R) h',
  ⟨_,j,_,rfl,Nat.le_refl _,rfl,λo N=>by rw [fL (by omega)];exact D o N,v.del c w,W⟩,?_⟩
 intro y m A5 ⟨k,r,i1,i2,i3,i4,i5,O⟩;subst i1 i3;refine bsel_in (λd=>?_) λd=>?_
 .have d:0<k:=by simp at d;omega
  obtain ⟨k,rfl⟩:∃ k',k=k'+1:=⟨k-1,by omega⟩;have ek:IntKind.wrap .i64 (((k+1:Nat):Int)-1)=(k:Int):=by rw [w64]<;>omega
  rw [ek];have hk2:=aIs (j:=j) (k:=k+1) i2;have hs:(2:Int) ^ (k+1)=2 ^ k*2:=Int.pow_succ _ _;have hpk:=vS k;refine inB_in (by omega) (by omega) (lT (by omega) O (bsel_f (by simp) ?_));rw [aHz (by omega) 1 (by omega) (by omega),Int.one_mul,w64 (by omega) (by omega)];have hnil:r k=[]:=i4 k (by omega);refine aEA (by omega) (by simp_all) O λA6 t=>?_
  obtain ⟨_,Y⟩:=i5.add (o:=k) (a:=a+2 ^ k) (by omega) ⟨by omega,by omega⟩ ⟨2 ^ (j-k)*q+1,by
   rw [Int.mul_add,Int.mul_one,<- Int.mul_assoc,<- Int.pow_add,show k+(j-k)=j by omega,r3]⟩ (λx z1 z2 ⟨_,z3⟩=>z3 ⟨by omega,by omega⟩)
  refine ⟨k,by omega,k,_,rfl,by omega,rfl,λo N=>by rw [fL (by omega)];exact i4 o (by omega),?_,t⟩;rw [show n-2 ^ k=n-2 ^ (k+1)+2 ^ k by omega];refine Y.congr λx=>?_;rw [hs];constructor
  .grind
  .grind
 .have d:k=0:=by simp at d;omega
  subst d;have u:F a:=X a (Int.le_refl _) (by omega);have L:a ∉ gl:=λhm=>(B.apart a ((B.mem a).2 hm)).1 u;have hr:=v.free u;refine aDZ O (aDs (i:=1) O rfl λA6 t=>?_);have e1:putM (aFs gl) a (.int .i64 0)=aFs (gl++[a]):=aAd _ _ _ L;rw [e1] at t;have t:Own (dN b mb g r (gl++[a]) n++R) A6:=t;refine aBF t (bsel_f rfl (aDP t λA7 M=>?_))
  have C:IntKind.wrap .i64 (n-IntKind.wrap .i64 ((1:Int)*2 ^ (min (Int.toNat 0) 64)))=n-1:=by
   rw [show IntKind.wrap .i64 ((1:Int)*2 ^ (min (Int.toNat 0) 64))=1 from rfl,w64]<;>omega
  rw [C] at M;have Y:tY r (λx=>F x/\x≠a) (n-1):=by grind
  refine hk T a A7 u (Bud.closeH Y ⟨?_,λx=>?_,λx z=>?_⟩ (by simp;omega) M)
  .exact List.nodup_append.2 ⟨B.nodup,by simp,λx z y hy=>by simp at hy;subst hy;exact λe=>L (e ▸ z)⟩
  .rw [List.mem_append,B.mem x];simp
  .rcases z with z | z
   .obtain ⟨g1,g2⟩:=B.apart x z;exact ⟨λh=>g1 h.1,g2⟩
   .omega
end Go.Dn
namespace Go.Dn
variable {A:AH} {l:List SP} {b g:Nat} {mb:Nat->Nat} {st:Nat->List Int} {n:Int}
theorem aLX {k:Nat} {q:Int} (c:k<=20) (d:0<=q) (e:2 ^ k*q<=2097152):(bits .and .i64 (2 ^ k*q) (2 ^ k)==(0:Int))=decide (q % 2=0):=by
 obtain ⟨q,rfl⟩:=Int.eq_ofNat_of_zero_le d;have j:=gI c;have e1:((2:Int) ^ k*(q:Int))=((2 ^ k*q:Nat):Int):=by simp
 have f:((2:Int) ^ k)=((2 ^ k:Nat):Int):=by simp
 rw [e1] at e;rw [e1,f];have i:bits .and .i64 ((2 ^ k*q:Nat):Int) ((2 ^ k:Nat):Int)=IntKind.wrap .i64 ((BitVec.ofInt 64 ((2 ^ k*q:Nat):Int)&&& BitVec.ofInt 64 ((2 ^ k:Nat):Int)).toNat:Int):=rfl;rw [i,BitVec.toNat_and,BitVec.ofInt_natCast,BitVec.ofInt_natCast,BitVec.toNat_ofNat,BitVec.toNat_ofNat,Nat.mod_eq_of_lt (by omega),Nat.mod_eq_of_lt (by omega),aMM];have a:((q:Int) % 2=0)↔(q % 2=0):=by omega
 by_cases g:q % 2=0
 .rw [if_pos g,decide_eq_true (a.2 g)];rfl
 .rw [if_neg g,decide_eq_false (λh=>g (a.1 h)),w64 (by omega) (by omega)];have:0<2 ^ k:=Nat.two_pow_pos k;simp;omega
def fW (rs:List (Int × Int)):List Value:=rs.flatMap λp=>[.int .i64 p.1,.int .i64 p.2]
theorem pA:∀ {hs:List (Int × Int)} {j:Nat} {p:Int × Int},hs[j]? = some p->(fW hs)[j*2]? = some (.int .i64 p.1)/\(fW hs)[j*2+1]? = some (.int .i64 p.2)
 | [],_,_,e=>by simp at e
 | q::hs,0,p,e=>by simp at e;subst e;exact ⟨rfl,rfl⟩
 | q::hs,j+1,p,e=>by
  have:=pA (hs:=hs) (j:=j) (p:=p) (by simp_all);rw [show (j+1)*2=j*2+1+1 by omega];exact this
theorem nS (hs:List (Int × Int)):(fW hs).length=hs.length*2:=by
 induction hs with
 | nil=>rfl
 | cons p hs ih=>simp only [fW,List.flatMap_cons,List.length_append] at ih ⊢;rw [ih];simp;omega
def okR:Int->List (Int × Int)->Bool
 | _,[]=>true
 | last,r::rs=>!(decide (r.1<last))&&!(decide (r.2<=r.1))&&!(decide (r.2 > 1048576))&&okR r.2 rs
def inR (rs:List (Int × Int)) (x:Int):Prop:=∃ r ∈ rs,r.1<=x/\x<r.2
def cP:List (Int × Int)->Int
 | []=>0
 | r::rs=>r.2-r.1+cP rs
theorem aCf:∀ (rs:List (Int × Int)) (last:Int),last<=1048576->okR last rs=true->0<=cP rs/\last+cP rs<=1048576
 | [],last,h,_=>⟨Int.le_refl _,by simp [cP];omega⟩
 | r::rs,last,h,hk=>by
  simp only [okR,Bool.and_eq_true,Bool.not_eq_true',decide_eq_false_iff_not] at hk;obtain ⟨⟨⟨c,d⟩,e⟩,a⟩:=hk;have:=aCf rs r.2 (by omega) a;simp only [cP];omega
theorem aEj:∀ (rs:List (Int × Int)) (last:Int),okR last rs=true->∀ r ∈ rs,last<=r.1/\r.1<r.2/\r.2<=1048576
 | [],_,_,r,h=>by simp at h
 | p::rs,last,hk,r,a=>by
  simp only [okR,Bool.and_eq_true,Bool.not_eq_true',decide_eq_false_iff_not] at hk;obtain ⟨⟨⟨d,e⟩,f⟩,c⟩:=hk;rcases List.mem_cons.1 a with rfl | a
  .omega
  .have:=aEj rs p.2 c r a;omega
theorem aEJ:∀ (rs:List (Int × Int)) (last:Int) (j:Nat) (r:Int × Int),okR last rs=true->rs[j]? = some r->∀ p ∈ rs.take j,p.2<=r.1
 | [],_,_,_,_,h=>by simp at h
 | p::rs,last,0,r,_,_=>by simp
 | p::rs,last,j+1,r,hk,c=>by
  simp only [okR,Bool.and_eq_true] at hk;intro d a;simp only [List.take_succ_cons,List.mem_cons] at a;have c:rs[j]? = some r:=by simpa using c
  rcases a with rfl | a
  .exact (aEj rs _ hk.2 r (List.mem_of_getElem? c)).1
  .exact aEJ rs p.2 j r hk.2 c d a
theorem xS:∀ (rs:List (Int × Int)) (j:Nat) (r:Int × Int),rs[j]? = some r->cP (rs.take (j+1))=cP (rs.take j)+(r.2-r.1)
 | [],_,_,h=>by simp at h
 | p::rs,0,r,h=>by simp at h;subst h;simp [cP]
 | p::rs,j+1,r,h=>by
  have:=xS rs j r (by simp_all);simp only [List.take_succ_cons,cP,this];omega
theorem l7:∀ (rs:List (Int × Int)) (j:Nat),(∀ r ∈ rs,r.1<r.2)->0<=cP (rs.take j)/\cP (rs.take j)<=cP rs
 | [],_,_=>by simp [cP]
 | p::rs,0,h=>by
  have c:=l7 rs rs.length (λr a=>h r (List.mem_cons_of_mem _ a));have d:=h p List.mem_cons_self;rw [List.take_length] at c;simp only [List.take_zero,cP];omega
 | p::rs,j+1,h=>by
  have c:=l7 rs j (λr a=>h r (List.mem_cons_of_mem _ a));have d:=h p List.mem_cons_self;simp only [List.take_succ_cons,cP];omega
def pR (mb:Nat->Nat) (j g:Nat):List Value:=(List.range 11).map (λi=>.map (if i<j then some (mb i) else none))++[.map (some g),.int .i64 0]
theorem aGe:pR mb 11 g=tD mb g 0:=by
 rfl
theorem aDM {j v:Nat} (a:j<11):(pR mb j g).set j (.map (some v))=pR (qU mb j v) (j+1) g:=by
 unfold pR;rw [List.set_append_left _ _ (by simp;omega)];congr 1;apply List.ext_getElem?;intro i;rw [List.getElem?_set];by_cases e:j=i
 .subst e;rw [if_pos rfl,if_pos (by simp;omega),List.getElem?_map,List.getElem?_range a];simp [dK]
 .rw [if_neg e,List.getElem?_map,List.getElem?_map];cases hi:(List.range 11)[i]? with
  | none=>rfl
  | some q=>
   obtain ⟨d,c⟩:=List.getElem?_eq_some_iff.1 hi;have:q=i:=by simpa using c.symm
   subst this;simp only [Option.map_some];rw [fL (Ne.symm e)];by_cases g:q<j
   .grind
   .grind
def aDY (mb:Nat->Nat) (j:Nat):List SP:=(List.range j).map λi=>MapI (mb i) .i64 []
theorem aFO {j v:Nat}:aDY (qU mb j v) (j+1)=aDY mb j++[MapI v .i64 []]:=by
 unfold aDY;rw [List.range_succ,List.map_append];congr 1
 .apply List.map_congr_left;intro i hi;have:i<j:=by simpa using hi
  rw [fL (by omega)]
 .simp [dK]
theorem aB4 {P:SP} {k j:Nat} {s:Sl} {rs:List (Int × Int)} {r:Int × Int} {K:Int->Int->Prop} (h:Own l A) (e:l[k]? = some P) (c:Reads P s 2 (fW rs)) (d:rs[j]? = some r) (i:K r.1 r.2) :
  aF s.a λa=>bB (j:Int) s.len (aI .i64 (Addr.add a (Int.toNat (j:Int)*2)) A λm=>aI .i64 (Addr.add (Addr.add a (Int.toNat (j:Int)*2)) 1) A λp=>K m p):=by
 have w:s.len=rs.length:=by have:=dV h e c;rw [nS] at this;omega
 have q:=(List.getElem?_eq_some_iff.1 d).1;obtain ⟨t,u⟩:=pA d;obtain ⟨b,o,c1,c2⟩:=bK h e c t;obtain ⟨x,y,f,v⟩:=bK h e c u;rw [c1] at f;cases f;rw [c1];refine inB_in (by omega) (by omega) ⟨r.1,?_,r.2,?_,i⟩
 .rw [add_at];simpa using c2
 .rw [add_at,add_at];simpa [Nat.add_assoc] using v
theorem aHh {rs:List (Int × Int)} {j:Nat} {r:Int × Int} (a:rs[j]? = some r) (x:Int):inR (rs.take (j+1)) x↔inR (rs.take j) x\/(r.1<=x/\x<r.2):=by
 have:rs.take (j+1)=rs.take j++[r]:=by
  rw [List.take_add_one,a];rfl
 unfold inR;rw [this];constructor
 .simp_all
 .simp_all
set_option maxHeartbeats 1000000 in
theorem aGw {P:SP} {k:Nat} {s:Sl} {rs:List (Int × Int)} {Q:Option Addr->Int->AH->Prop} (h:Own l A) (e:l[k]? = some P) (B:Reads P s 2 (fW rs))
  (h4:rs.length > 64->Q none 4 A) (R:rs.length<=64->okR 0 rs=false->Q none 3 A)
  (hk:rs.length<=64->okR 0 rs=true->∀ b A',Own (Bud b (inR rs) (λ_=>False) (cP rs)::l) A'->Q (some ⟨b,0,none⟩) 0 A'):qaq_A s Q A:=by
 have H:s.len=rs.length:=by have:=dV h e B;rw [nS] at this;omega
 unfold qaq_A qaq_G;refine bsel_in (λc=>h4 (by grind)) λc=>?_;have c:rs.length<=64:=by simp [H] at c;omega
 refine ⟨λx y m h'=>h'=A/\∃ j:Nat,y=j/\j<=rs.length/\rs.length-j=m/\okR 0 rs=okR x (rs.drop j),⟨_,rfl,0,rfl,by omega,rfl,by simp⟩,?_⟩;intro x y m h' ⟨e0,j,e1,e2,e3,I⟩;subst e0 e1 e3;refine bsel_in (λd=>?_) λd=>?_
 .have d:j<rs.length:=by simp [H] at d;omega
  obtain ⟨r,w⟩:∃ r,rs[j]? = some r:=⟨rs[j],by simp [d]⟩
  have hd:rs.drop j=r::rs.drop (j+1):=by
   rw [List.drop_eq_getElem_cons d];have:=(List.getElem?_eq_some_iff.1 w).2;rw [this]
  rw [hd] at I;simp only [okR] at I;refine aB4 h e B w ?_;refine bsel_in (λg1=>R c (by simp_all)) λg1=>?_;refine bsel_in (λg2=>R c (by simp_all)) λg2=>?_;refine bsel_in (λg3=>R c (by simp_all)) λg3=>?_;exact ⟨rs.length-(j+1),by omega,rfl,j+1,by rw [w64]<;>omega,by omega,rfl,by rw [I,g1,g2,g3];rfl⟩
 have d:j=rs.length:=by simp [H] at d;omega
 have u:okR 0 rs=true:=by rw [I,d,List.drop_length];rfl
 clear I;refine uT (k:=.i64) h λg A1 S=>?_;show aN A1 (.cells (pR (λ_=>0) 0 g).toArray _) _;refine aT S λb A2 T=>?_;refine ⟨λx m C=>∃ (j:Nat) (mb:Nat->Nat),x=j/\j<=11/\11-j=m/\Own (At b (pR mb j g)::MapI g .i64 []::(aDY mb j++l)) C,⟨_,0,_,rfl,by omega,rfl,T⟩,?_⟩;intro x m A3 ⟨j,mb,U,i2,V,t⟩;subst U V;refine bsel_in (λd=>?_) λd=>?_
 .have d:j<11:=by simp at d;omega
  refine uT (k:=.i64) t λv A4 a=>?_;refine inB_in (by omega) (by omega) ?_;rw [add_at];refine bU (i:=1) a rfl ?_ rfl λA5 f=>?_
  .rw [show 0+Int.toNat (j:Int)*1=j by omega];unfold pR;rw [List.getElem?_append_left (by simp;omega),List.getElem?_map,List.getElem?_range d];rfl
  .rw [show 0+Int.toNat (j:Int)*1=j by omega,aDM d] at f;refine ⟨11-(j+1),by omega,j+1,qU mb j v,by rw [w64]<;>omega,by omega,rfl,f.perm ?_⟩;rw [aFO];show List.Perm (MapI v .i64 []::At b _::MapI g .i64 []::(aDY mb j++l)) (At b _::MapI g .i64 []::(aDY mb j++[MapI v .i64 []]++l));rw [List.append_assoc];exact (List.perm_middle (l₁:=At b _::MapI g .i64 []::aDY mb j) (l₂:=l)).symm
 have d:j=11:=by simp at d;omega
 subst d;rw [aGe] at t;have t:Own (dN b mb g (λ_=>[]) [] 0++l) A3:=t;have D:=aEj rs 0 u;have hsz:=aCf rs 0 (by omega) u
 refine ⟨λx m C=>∃ (i:Nat) (st:Nat->List Int),x=i/\i<=rs.length/\rs.length-i=m/\tY st (inR (rs.take i)) (cP (rs.take i))/\Own (dN b mb g st [] (cP (rs.take i))++l) C,
  ⟨_,0,_,rfl,by omega,rfl,tY.empty.congr (λx=>by simp [inR]),t⟩,?_⟩
 intro x m A4 ⟨i,st,U,i2,V,W,a⟩;subst U V
 have ek:(dN b mb g st [] (cP (rs.take i))++l)[13+k]? = some P:=by
  rw [List.getElem?_append_right (by simp [dN,qQ])];rw [show 13+k-(dN b mb g st [] (cP (rs.take i))).length=k by simp [dN,qQ]];exact e
 refine bsel_in (λd=>?_) λd=>?_
 rotate_left
 .have d:i=rs.length:=by simp [H] at d;omega
  subst d;rw [List.take_length] at W a;exact hk c u b A4 (Bud.closeH W ⟨List.nodup_nil,λx=>by simp,λx hx=>hx.elim⟩ (by simp;omega) a)
 have d:i<rs.length:=by simp [H] at d;omega
 obtain ⟨r,w⟩:∃ r,rs[i]? = some r:=⟨rs[i],by simp [d]⟩;obtain ⟨r1,r2,r3⟩:=D r (List.mem_of_getElem? w);have hbef:=aEJ rs 0 i r u w;have X:=l7 rs i (λr B=>(D r B).2.1);have N:=l7 rs (i+1) (λr B=>(D r B).2.1);have J:=xS rs i r w;refine aB4 a ek B w ?_
 refine ⟨λx m C=>∃ st,r.1<=x/\x<=r.2/\(r.2-x).toNat=m/\tY st (λz=>inR (rs.take i) z\/(r.1<=z/\z<x)) (cP (rs.take i)+(x-r.1))/\Own (dN b mb g st [] (cP (rs.take i))++l) C,
  ⟨_,st,Int.le_refl _,by omega,rfl,by rw [Int.sub_self,Int.add_zero];exact W.congr λz=>⟨.inl,λh=>h.elim id λh=>by omega⟩,a⟩,?_⟩
 intro x m A5 ⟨Y,j1,j2,j3,E,f⟩;subst j3;refine bsel_in (λG=>?_) λG=>?_
 rotate_left
 .have G:x=r.2:=by simp at G;omega
  subst G;refine aBF f (aDP f λA6 K=>?_)
  have e6:IntKind.wrap .i64 (cP (rs.take i)+IntKind.wrap .i64 (r.2-r.1))=cP (rs.take (i+1)):=by
   rw [J,w64 (n:=r.2-r.1) (by omega) (by omega),w64 (by omega) (by omega)]
  rw [e6] at K;rw [<-J] at E;exact ⟨rs.length-(i+1),by omega,i+1,Y,by rw [w64]<;>omega,by omega,rfl,E.congr λz=>(aHh w z).symm,K⟩
 have G:x<r.2:=by simpa using G
 refine ⟨λy m C=>C=A5/\∃ o:Nat,y=o/\o<=10/\10-o=m/\(∃ q,x=2 ^ o*q)/\x+2 ^ o<=r.2,⟨_,rfl,0,rfl,by omega,rfl,⟨x,by simp⟩,by simp;omega⟩,?_⟩;intro y m A6 ⟨k0,o,k1,k2,k3,⟨q,Z⟩,k5⟩;subst k0 k1 k3;have hp:=gI (k:=o) (by omega)
 have q0:0<=q:=by
  rcases Int.lt_or_le q 0 with g | g
  .have:=Int.mul_neg_of_pos_of_neg hp.2 g;omega
  .exact g
 have F:qap_A (some ⟨b,0,none⟩) x (o:Int) (λh40=>bsel (decide ((o:Int)<0)) False (∃ L,L<(r.2-x).toNat/\∃ st,r.1<=IntKind.wrap .i64 (x+IntKind.wrap .i64 ((1:Int)*2 ^ (min (Int.toNat (o:Int)) 64)))/\IntKind.wrap .i64 (x+IntKind.wrap .i64 ((1:Int)*2 ^ (min (Int.toNat (o:Int)) 64)))<=r.2/\(r.2-IntKind.wrap .i64 (x+IntKind.wrap .i64 ((1:Int)*2 ^ (min (Int.toNat (o:Int)) 64)))).toNat=L/\tY st (λz=>inR (rs.take i) z\/(r.1<=z/\z<IntKind.wrap .i64 (x+IntKind.wrap .i64 ((1:Int)*2 ^ (min (Int.toNat (o:Int)) 64))))) (cP (rs.take i)+(IntKind.wrap .i64 (x+IntKind.wrap .i64 ((1:Int)*2 ^ (min (Int.toNat (o:Int)) 64)))-r.1))/\Own (dN b mb g st [] (cP (rs.take i))++l) h40)) A6:=by
  rw [aHz (by omega) 1 (by omega) (by omega),Int.one_mul,w64 (n:=x+2 ^ o) (by omega) (by omega)];refine aFg f k2 E ⟨by omega,by omega⟩ ⟨q,Z⟩ (λz z1 z2=>?_) λst' A7 hB7 hA7=>bsel_f (by simp) ⟨_,?_,st',by omega,by omega,rfl,?_,hA7⟩
  .rintro (⟨p,hp1,hp2⟩ | hz)
   .grind
   .omega
  .omega
  .grind
 refine bsel_in (λd6=>?_) λd6=>F;have d6:o<10:=by simp at d6;omega
 refine bsel_f (by simp) ?_;refine bsel_in (λM=>?_) λM=>F;rw [aHz (by omega) 1 (by omega) (by omega),Int.one_mul] at M
 have M:q % 2=0:=by
  rw [Z,aLX (by omega) q0 (by omega)] at M;simpa using M
 refine bsel_f (by simp) ?_;have hs:(2:Int) ^ (o+1)=2 ^ o*2:=Int.pow_succ _ _;refine bsel_in (λO=>?_) λO=>F;rw [aHz (by omega) 2 (by omega) (by omega),w64 (by omega) (by omega)] at O;have O:x+2*2 ^ o<=r.2:=by simpa using O
 exact ⟨10-(o+1),by omega,rfl,o+1,by rw [w64]<;>omega,by omega,rfl,⟨q / 2,by rw [hs,Int.mul_assoc,show 2*(q / 2)=q by omega,Z]⟩,by rw [hs];omega⟩
end Go.Dn
namespace Go.Dn
structure Nd where
 par:Int
 quo:Int
 use:Int
 lent:Int
 live:Bool
def Nd.cells (d:Nd):List Value:=[.int .i64 d.par,.int .i64 d.quo,.int .i64 d.use,.int .i64 d.lent,.bool d.live]
def ndCells (ns:List Nd):List Value:=ns.flatMap Nd.cells
structure Nd.OK (d:Nd):Prop where
 use:0<=d.use
 lent:0<=d.lent
 room:d.use+d.lent<=d.quo
 quo:d.quo<=1048576
def kZ (t blk cap:Nat) (ns:List Nd) (rest:List Value):List SP:=[At t [.slice (some ⟨blk,0,none⟩) ns.length cap],At blk (ndCells ns++rest)]
def TreeS (t:Nat) (ns:List Nd):SP:=λB=>∃ blk cap rest,(ns.length<=64/\∀ d ∈ ns,d.OK)/\Own (kZ t blk cap ns rest) B
variable {A:AH} {l R:List SP} {t blk cap i:Nat} {ns:List Nd} {rest:List Value} {nd:Nd}
theorem fK (ns:List Nd):(ndCells ns).length=ns.length*5:=by
 induction ns with
 | nil=>rfl
 | cons d ns ih=>simp only [ndCells,List.flatMap_cons,List.length_append] at ih ⊢;rw [ih];simp [Nd.cells];omega
theorem qG:∀ {ns:List Nd} {i:Nat} {nd:Nd} (f:Nat),ns[i]? = some nd->f<5->(ndCells ns)[i*5+f]? = nd.cells[f]?
 | [],_,_,_,e,_=>by simp at e
 | d::ns,0,nd,f,e,hf=>by
  simp at e;subst e;show (d.cells++ndCells ns)[0*5+f]? = _;rw [List.getElem?_append_left (by simp [Nd.cells];omega)];simp
 | d::ns,i+1,nd,f,e,hf=>by
  have:=qG (ns:=ns) (i:=i) (nd:=nd) f (by simpa using e) hf;show (d.cells++ndCells ns)[(i+1)*5+f]? = _;rw [List.getElem?_append_right (by simp [Nd.cells];omega)];rw [show (i+1)*5+f-d.cells.length=i*5+f by simp [Nd.cells];omega];exact this
theorem uU:∀ {ns:List Nd} {i:Nat} {nd:Nd} (x:Int),ns[i]? = some nd->(ndCells ns).set (i*5+2) (.int .i64 x)=ndCells (ns.set i { nd with use:=x })
 | [],_,_,_,e=>by simp at e
 | d::ns,0,nd,x,e=>by simp at e;subst e;rfl
 | d::ns,i+1,nd,x,e=>by
  have:=uU (ns:=ns) (i:=i) (nd:=nd) x (by simpa using e);show (d.cells++ndCells ns).set ((i+1)*5+2) _=d.cells++ndCells (ns.set i _);rw [List.set_append_right _ _ (by simp [Nd.cells];omega)];rw [show (i+1)*5+2-d.cells.length=i*5+2 by simp [Nd.cells];omega,this]
theorem TreeS.openH (h:Own (TreeS t ns::R) A):∃ blk cap rest,(ns.length<=64/\∀ d ∈ ns,d.OK)/\Own (kZ t blk cap ns rest++R) A:=by
 obtain ⟨blk,h⟩:=Own.ex h;obtain ⟨cap,h⟩:=Own.ex h;obtain ⟨rest,h⟩:=Own.ex h;obtain ⟨a,h⟩:=Own.pure h;exact ⟨blk,cap,rest,a,Own.flat h⟩
theorem TreeS.closeH (a:ns.length<=64) (b:∀ d ∈ ns,d.OK) (h:Own (kZ t blk cap ns rest++R) A):Own (TreeS t ns::R) A:=h.app.imp λ_ c=>⟨blk,cap,rest,⟨a,b⟩,c⟩
theorem lQ {f:Nat} {v:Value} (hi:ns[i]? = some nd) (a:f<5) (b:nd.cells[f]? = some v):(ndCells ns++rest)[i*5+f]? = some v:=by
 have c:=(List.getElem?_eq_some_iff.1 hi).1;rw [List.getElem?_append_left (by rw [fK];omega),qG f hi a];exact b
theorem xZ {Q:Option Addr->Bool->AH->Prop} (h:Own (kZ t blk cap ns rest++R) A) (hi:ns[i]? = some nd) (a:nd.live=true) (b:Q (some ⟨blk,i*5,none⟩) true A):qau_A (some ⟨t,0,none⟩) i Q A:=by
 have c:=(List.getElem?_eq_some_iff.1 hi).1;unfold qau_A;refine bsel_f (by simp) (ld_S (i:=0) h rfl rfl (bsel_f (by simp;omega) (ld_S (i:=0) h rfl rfl (inB_in (by omega) (by simp;omega) ?_))));rw [add_at,add_at];refine nL (i:=1) (n:=nd.live) h rfl ?_ ?_
 .rw [show 0+Int.toNat (i:Int)*5+4=i*5+4 by omega];exact lQ hi (by omega) rfl
 refine bsel_f (by simp [a]) (ld_S (i:=0) h rfl rfl (inB_in (by omega) (by simp;omega) ?_));rw [add_at,show 0+Int.toNat (i:Int)*5=i*5 by omega];exact b
theorem oW {f:Nat} {x:Int} {K:Int->Prop} (h:Own (kZ t blk cap ns rest++R) A) (hi:ns[i]? = some nd) (a:f<5) (b:nd.cells[f]? = some (.int .i64 x)) (c:K x):aI .i64 (Addr.add ⟨blk,i*5,none⟩ f) A K:=by
 rw [add_at];exact bQ (i:=1) h rfl (lQ hi a b) c
theorem aH7 {x:Int} {K:AP} (h:Own (kZ t blk cap ns rest++R) A) (hi:ns[i]? = some nd) (b:∀ a,Own (kZ t blk cap (ns.set i { nd with use:=x }) rest++R) a->K a):aC (Addr.add ⟨blk,i*5,none⟩ 2) (.int .i64 x) A K:=by
 rw [add_at];have c:=(List.getElem?_eq_some_iff.1 hi).1;refine bU (i:=1) h rfl ?_ rfl λa h'=>b a ?_
 .rw [lQ hi (by omega) (f:=2) (v:=.int .i64 nd.use) rfl];rfl
 .have h':Own (At t [.slice (some ⟨blk,0,none⟩) ns.length cap]::At blk ((ndCells ns++rest).set (i*5+2) (.int .i64 x))::R) a:=h';rw [List.set_append_left _ _ (by rw [fK];omega),uU x hi] at h';show Own (At t [.slice (some ⟨blk,0,none⟩) (ns.set i { nd with use:=x }).length cap]::At blk (ndCells (ns.set i { nd with use:=x })++rest)::R) a;rw [List.length_set];exact h'
theorem xE {Q:Int->AH->Prop} (h:Own (kZ t blk cap ns rest++R) A) (hi:ns[i]? = some nd) (a:nd.live=true) (b:nd.OK) (c:Q (nd.quo-nd.use-nd.lent) A):qav_A (some ⟨t,0,none⟩) i Q A:=by
 obtain ⟨d,e,f,g⟩:=b;unfold qav_A qav_G;refine xZ h hi a (bsel_f rfl (oW h hi (by omega) rfl (oW h hi (by omega) rfl (oW h hi (by omega) rfl ?_))));rw [w64 (n:=nd.quo-nd.use) (by omega) (by omega),w64 (by omega) (by omega)];exact c
theorem aAT (a:∀ d ∈ ns,d.OK) {x:Nd} (b:x.OK):∀ d ∈ ns.set i x,d.OK:=λd c=>by
 rcases List.mem_or_eq_of_mem_set c with h | h
 .exact a d h
 .rw [h];exact b
theorem aCa {k:Int} {Q:Int->AH->Prop} (h:Own (TreeS t ns::R) A) (hi:ns[i]? = some nd) (a:nd.live=true) (n:0<=k) (o:k > nd.quo-nd.use-nd.lent->Q 8 A)
  (p:k<=nd.quo-nd.use-nd.lent->∀ b,Own (TreeS t (ns.set i { nd with use:=nd.use+k })::R) b->Q 0 b):qaw_A (some ⟨t,0,none⟩) i k Q A:=by
 obtain ⟨blk,cap,rest,⟨q,f⟩,d⟩:=TreeS.openH h;have e:=f nd (List.mem_of_getElem? hi);obtain ⟨r,g,s,j⟩:=e;unfold qaw_A qaw_G;refine xZ d hi a (bsel_f rfl (bsel_f (by simp;omega) (xE d hi a ⟨r,g,s,j⟩ ?_)));refine bsel_in (λc=>o (by simpa using c)) λc=>?_;have c:k<=nd.quo-nd.use-nd.lent:=by simpa using c
 refine oW d hi (by omega) rfl (aH7 d hi λb m=>p c b ?_);rw [w64 (by omega) (by omega)] at m;exact TreeS.closeH (by simpa using q) (aAT f ⟨by simp;omega,g,by simp;omega,j⟩) m
theorem uR {k:Int} {Q:Int->AH->Prop} (h:Own (TreeS t ns::R) A) (hi:ns[i]? = some nd) (c:nd.live=true) (g:0<=k) (j:k<=nd.use)
  (m:∀ a,Own (TreeS t (ns.set i { nd with use:=nd.use-k })::R) a->Q 0 a):qbe_A (some ⟨t,0,none⟩) i k Q A:=by
 obtain ⟨blk,cap,rest,⟨n,e⟩,b⟩:=TreeS.openH h;have d:=e nd (List.mem_of_getElem? hi);obtain ⟨q,o,r,p⟩:=d;unfold qbe_A qbe_G;refine xZ b hi c (bsel_f rfl (bsel_f (by simp;omega) (oW b hi (by omega) rfl (bsel_f (by simp;omega) (oW b hi (by omega) rfl (aH7 b hi λa f=>m a ?_))))));rw [w64 (by omega) (by omega)] at f;exact TreeS.closeH (by simpa using n) (aAT e ⟨by simp;omega,o,by simp;omega,p⟩) f
theorem aGY {Q:Int->Int->Int->Int->Bool->Bool->AH->Prop} (h:Own (TreeS t ns::R) A) (hi:ns[i]? = some nd) (b:nd.live=true) (c:Q nd.par nd.quo nd.use nd.lent nd.live true A):qgd_A (some ⟨t,0,none⟩) i Q A:=by
 obtain ⟨blk,cap,rest,⟨d,e⟩,a⟩:=TreeS.openH h;unfold qgd_A qgd_G;refine xZ a hi b (aG rfl ?_);refine bQ (i:=1) a rfl (lQ (f:=0) hi (by omega) rfl) (oW a hi (by omega) rfl (oW a hi (by omega) rfl (oW a hi (by omega) rfl ?_)));rw [add_at];exact nL (i:=1) a rfl (lQ (f:=4) hi (by omega) rfl) c
theorem aGb {q:Int} {Q:Option Addr->Int->AH->Prop} (h:Own l A) (a:q<0\/q > 1048576->Q none 1 A) (f:0<=q/\q<=1048576->∀ t b,Own (TreeS t [⟨-1,q,0,0,true⟩]::l) b->Q (some ⟨t,0,none⟩) 0 b):qas_A q Q A:=by
 unfold qas_A;refine bsel_in (λc=>a (.inl (by simpa using c))) λc=>bsel_in (λd=>a (.inr (by simpa using d))) λd=>?_;have c:0<=q:=by simpa using c
 have d:q<=1048576:=by simpa using d
 show aN A (.cells (ndCells [⟨-1,q,0,0,true⟩]).toArray _) _;refine aT h λg j k=>?_;show aN j (.cells [Value.slice (some ⟨g,0,none⟩) 1 1].toArray _) _;refine aT k λm n o=>f ⟨c,d⟩ m n (TreeS.closeH (rest:=[]) (by simp) (λx e=>?_) o);simp at e;subst e;exact ⟨Int.le_refl _,Int.le_refl _,by simp;omega,d⟩
end Go.Dn
namespace Go.Dn
variable {A:AH} {R:List SP} {r b t i:Nat} {fr n:Int} {hs:List (Int × Int)} {W:Int->Int->Int} {F G:Int->Prop} {ns:List Nd} {nd:Nd}
theorem Own.rot3 {a c d:SP} (h:Own (a::c::d::R) A):Own (d::a::c::R) A:=
 h.perm ((List.Perm.cons _ (List.Perm.swap _ _ _)).trans (List.Perm.swap _ _ _))
theorem Own.unrot3 {a c d:SP} (h:Own (d::a::c::R) A):Own (a::c::d::R) A:=
 h.perm ((List.Perm.swap _ _ _).trans (List.Perm.cons _ (List.Perm.swap _ _ _)))
def useN (ns:List Nd) (i:Nat) (nd:Nd) (x:Int):List Nd:=ns.set i { nd with use:=x }
theorem aAH (hi:ns[i]? = some nd) (x:Int):useN (useN ns i nd x) i { nd with use:=x } nd.use=ns:=by
 unfold useN;rw [List.set_set];apply List.ext_getElem?;intro j;rw [List.getElem?_set];split
 .rename_i g;subst g;rw [if_pos (List.getElem?_eq_some_iff.1 hi).1,hi]
 .rfl
theorem useN_at (hi:ns[i]? = some nd) (x:Int):(useN ns i nd x)[i]? = some { nd with use:=x }:=by
 unfold useN;rw [List.getElem?_set,if_pos rfl,if_pos (List.getElem?_eq_some_iff.1 hi).1]
theorem yW {Q:Int->Int->AH->Prop} (h:Own (RamW r fr hs W::Bud b F G n::TreeS t ns::R) A) (hi:ns[i]? = some nd) (d:nd.live=true) (s:∀ x,F x->hasF fr hs x=true)
  (u:nd.quo-nd.use-nd.lent<1->Q 0 8 A) (v:1<=nd.quo-nd.use-nd.lent->n=0->∀ g,Own (RamW r fr hs W::Bud b F G n::TreeS t ns::R) g->Q 0 7 g)
  (w:1<=nd.quo-nd.use-nd.lent->n≠0->∀ f g,F f->Own (RamW r fr hs (zeroW W f)::Bud b (λx=>F x/\x≠f) (λx=>G x\/x=f) (n-1)::TreeS t (useN ns i nd (nd.use+1))::R) g->Q f 0 g) :
  qbf_A (some ⟨r,0,none⟩) (some ⟨b,0,none⟩) (some ⟨t,0,none⟩) i Q A:=by
 unfold qbf_A qbf_G;refine aCa h.rot3 hi d (by omega) (λc=>aG rfl (u (by omega))) λc y j=>bsel_f rfl ?_;refine aFU j.unrot3.swap (λm=>?_) λm f C p o=>?_
 .refine ⟨λx k=>k=y/\x=7,λx k ⟨e1,z⟩=>?_,bsel_f rfl ⟨rfl,rfl⟩⟩;subst e1 z
  refine uR (nd:={ nd with use:=nd.use+1 }) j (useN_at hi _) d (by omega) (by
   obtain ⟨_,_,_,⟨_,B⟩,_⟩:=TreeS.openH h.rot3;have:=(B nd (List.mem_of_getElem? hi)).use;simp;omega) λl a=>v (by omega) m l ?_
  have e:(useN ns i nd (nd.use+1)).set i { par:=nd.par,quo:=nd.quo,use:=nd.use+1-1,lent:=nd.lent,live:=nd.live } = ns:=by
   have:=aAH hi (nd.use+1);unfold useN at this ⊢;rw [show nd.use+1-1=nd.use by omega];exact this
  have a:Own (TreeS t ((useN ns i nd (nd.use+1)).set i { par:=nd.par,quo:=nd.quo,use:=nd.use+1-1,lent:=nd.lent,live:=nd.live })::RamW r fr hs W::Bud b F G n::R) l:=a;rw [e] at a;exact a.unrot3
 .refine ⟨λ_ _=>False,λ_ _ q=>q.elim,aG rfl ?_⟩;exact aFD o.swap (s f p) λl a=>aG rfl (w (by omega) m f l p a)
theorem jH {f:Int} {Q:AH->Prop} (h:Own (RamW r fr hs W::Bud b F G n::TreeS t ns::R) A) (hi:ns[i]? = some nd) (a:nd.live=true) (g:G f) (j:1<=nd.use)
  (k:∀ e,Own (RamW r fr hs W::Bud b (λx=>F x\/x=f) (λx=>G x/\x≠f) (n+1)::TreeS t (useN ns i nd (nd.use-1))::R) e->Q e) :
  qbh_A (some ⟨r,0,none⟩) (some ⟨b,0,none⟩) (some ⟨t,0,none⟩) i f Q A:=by
 unfold qbh_A qbh_G;refine aF6 h.swap g λm c=>?_;exact uR c.swap.rot3 hi a (by omega) j λl d=>k l d.unrot3
end Go.Dn
