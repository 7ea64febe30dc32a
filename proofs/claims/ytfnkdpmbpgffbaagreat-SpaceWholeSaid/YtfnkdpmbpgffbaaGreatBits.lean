/- What the proof stands on. -/
import Derived.Test.YtfnkdpmbpgffbaaGreatDnY
import Derived.Test.YtfnkdpmbpgffbaaGreatG
import Derived.Test.YtfnkdpmbpgffbaaGreatDnN
namespace Go.Dn
def hasF (fr:Int) (hs:List (Int × Int)) (f:Int):Bool:=decide (0<=f)&&decide (f<fr)&&hs.all λp=>!(decide (p.1<=f)&&decide (f<p.2))
def holeCells (hs:List (Int × Int)):List Value:=hs.flatMap λp=>[.int .i64 p.1,.int .i64 p.2]
theorem lS:∀ {hs:List (Int × Int)} {j:Nat} {p:Int × Int},hs[j]? = some p->(holeCells hs)[j*2]? = some (.int .i64 p.1)/\(holeCells hs)[j*2+1]? = some (.int .i64 p.2)
 | [],_,_,h=>by simp at h
 | q::hs,0,p,h=>by simp at h;subst h;exact ⟨rfl,rfl⟩
 | q::hs,j+1,p,h=>by
  have:=lS (hs:=hs) (j:=j) (p:=p) (by simp_all);rw [show (j+1)*2=j*2+2 by omega,show j*2+2+1=j*2+1+2 by omega];exact this
theorem pB (hs:List (Int × Int)):(holeCells hs).length=hs.length*2:=by
 induction hs with
 | nil=>rfl
 | cons p hs ih=>show (holeCells hs).length+2=_;rw [ih];simp;omega
def aW (M:Int->Int) (f:Int):List Value:=(List.range 4096).map λ(i:Nat)=>.int .u8 (M (f*4096+i))
abbrev Pm:=List (Int × Nat)
def oX (pm:Pm):List (Int × Value):=pm.map λp=>(p.1,.pointer (some ⟨p.2,0,none⟩))
def bW (M:Int->Int) (pm:Pm):List SP:=pm.map λp=>At p.2 (aW M p.1)
structure aBb (M:Int->Int) (pm:Pm):Prop where
 nodup:(pm.map (·.1)).Nodup
 byte:∀ a,0<=M a/\M a<256
 zero:∀ a,0<=a->a / 4096 ∉ pm.map (·.1)->M a=0
def vD (r:Nat) (fr:Int) (hs:List (Int × Int)) (s:Sl) (mb:Nat) (M:Int->Int) (pm:Pm):List SP:=
 At r [.int .i64 fr,.slice s.a s.len s.cap,.map (some mb)]::SlAt s 2 (holeCells hs)::MapI mb .i64 (oX pm)::bW M pm
def RamS (r:Nat) (fr:Int) (hs:List (Int × Int)) (M:Int->Int):SP:=λB=>∃ s mb pm,aBb M pm/\Own (vD r fr hs s mb M pm) B
variable {A:AH} {l:List SP} {r:Nat} {fr:Int} {hs:List (Int × Int)} {M:Int->Int}
theorem RamS.open {i:Nat} (h:Own l A) (e:l[i]? = some (RamS r fr hs M)):∃ s b a,aBb M a/\Own (vD r fr hs s b M a) A:=by
 obtain ⟨B,u,s,b,a,c,d⟩:=h.get e;exact ⟨s,b,a,c,d.mono u⟩
theorem sA {i:Nat} {f:Int} {Q:Bool->AH->Prop} (h:Own l A) (e:l[i]? = some (RamS r fr hs M)) (N:hs.length<=64) (g:Q (hasF fr hs f) A):qbb_A (some ⟨r,0,none⟩) f Q A:=by
 obtain ⟨s,O,P,ok,k⟩:=RamS.open h e;have a:s.len*2=hs.length*2:=by rw [<-pB];exact aDL (i:=1) k rfl
 have a:s.len=hs.length:=by omega
 unfold qbb_A;refine bsel_in (λc=>?_) λc=>?_
 .have:hasF fr hs f=false:=by simp at c;simp [hasF];intros;omega
  rw [this] at g;exact g
 refine bQ (i:=0) k rfl rfl ?_;refine bsel_in (λc2=>?_) λc2=>?_
 .have:hasF fr hs f=false:=by simp at c2;simp [hasF];intros;omega
  rw [this] at g;exact g
 simp at c c2;show aS (Addr.add ⟨r,0,none⟩ 1) A _;rw [add_at];refine ld_S (i:=0) k rfl rfl ?_;refine ⟨λx m h'=>h'=A/\∃ j:Nat,x=j/\j<=hs.length/\m=hs.length-j/\∀ q:Nat,q<j->∀ p,hs[q]? = some p->¬(p.1<=f/\f<p.2),⟨_,rfl,0,rfl,by omega,rfl,λq n=>absurd n (by omega)⟩,?_⟩;intro x m h' ⟨e1,j,D,R,S,E⟩;subst e1 D;refine bsel_in (λt=>?_) λt=>?_
 .simp [a] at t;obtain ⟨p,u⟩:∃ p,hs[j]? = some p:=⟨hs[j],by simp [t]⟩;obtain ⟨F,G⟩:=lS u;obtain ⟨b,o,z,H⟩:=rZ (i:=1) k rfl F;obtain ⟨T,U,B,I⟩:=rZ (i:=1) k rfl G;rw [z] at B;cases B;show aF s.a _;rw [z];refine inB_in (by omega) (by simp_all) ⟨p.1,?_,p.2,?_,?_⟩
  .rw [add_at];simpa using H
  .rw [add_at,add_at];simpa [Nat.add_assoc] using I
  have d:¬(p.1<=f/\f<p.2)->∃ C,C<m/\h'=h'/\∃ v:Nat,IntKind.wrap .i64 ((j:Int)+1)=v/\v<=hs.length/\C=hs.length-v/\∀ q:Nat,q<v->∀ p,hs[q]? = some p->¬(p.1<=f/\f<p.2):=by
   intro V;refine ⟨hs.length-(j+1),by omega,rfl,j+1,by rw [w64]<;>omega,by omega,rfl,?_⟩;intro q n W J;by_cases K:q=j
   .simp_all
   .grind
  refine bsel_in (λw=>?_) λw=>d (by simp at w;omega);refine bsel_in (λy=>?_) λy=>d (by simp_all)
  have:hasF fr hs f=false:=by
   simp at w y;simp only [hasF,Bool.and_eq_false_iff,List.all_eq_false];refine .inr ⟨p,List.mem_of_getElem? u,?_⟩;simp [w,y]
  rw [this] at g;exact g
 .simp [a] at t
  have:hasF fr hs f=true:=by
   simp only [hasF,Bool.and_eq_true,List.all_eq_true];refine ⟨⟨by simpa using c,by simpa using c2⟩,λp u=>?_⟩;obtain ⟨q,n⟩:=List.mem_iff_getElem?.1 u;have L:=(List.getElem?_eq_some_iff.1 n).1;have:=E q (by omega) p n;simp;omega
  rw [this] at g;exact g
def okA (fr:Int) (hs:List (Int × Int)) (a z:Int):Bool:=decide (a+z<=fr*4096)&&hasF fr hs (a / 4096)&&hasF fr hs ((a+z-1) / 4096)
theorem xC {i:Nat} {a z:Int} {Q:Int->AH->Prop} (h:Own l A) (e:l[i]? = some (RamS r fr hs M)) (p:hs.length<=64) (x:0<=fr/\fr<=1048576) (q:z=1\/z=2\/z=4\/z=8)
  (y:0<=a/\a<18446744073709551616) (d:Q (if okA fr hs a z then 0 else 2) A):qbm_A (some ⟨r,0,none⟩) a z Q A:=by
 obtain ⟨s,B,C,ok,t⟩:=RamS.open h e;unfold qbm_A qbm_G;refine ⟨λb h'=>b=true/\h'=A,?_,?_⟩
 .intro b h' ⟨e1,u⟩;subst e1 u;refine aG rfl ?_;have m:IntKind.wrap .u64 z=z:=dO (by omega) (by omega);have f:IntKind.wrap .u64 (IntKind.wrap .u64 (a+IntKind.wrap .u64 z)-1)=(a+z-1) % 18446744073709551616:=by rw [m,aHy,aHy];omega
  rw [f]
  have hno:¬ (a+z<=fr*4096)->Q 2 h':=λg=>by
   have:okA fr hs a z=false:=by simp [okA,g]
   rw [this] at d;exact d
  refine bsel_in (λc=>hno ?_) λc=>?_
  .grind
  simp at c;have v:a+z-1<18446744073709551616:=by omega
  have w:(a+z-1) % 18446744073709551616=a+z-1:=by omega
  rw [w];refine bQ (i:=0) t rfl rfl ?_
  rw [kM (by omega),kM (by omega),dO (n:=(a+z-1) / 4096) (by omega) (by omega),dO (n:=a / 4096) (by omega) (by omega),dO (n:=fr) (by omega) (by omega),
   w64 (n:=(a+z-1) / 4096) (by omega) (by omega),w64 (n:=a / 4096) (by omega) (by omega)]
  refine bsel_in (λc2=>hno ?_) λc2=>?_
  .grind
  simp at c2;have o:a+z<=fr*4096:=by omega
  refine sA h e p ?_;refine bsel_in (λj=>?_) λj=>?_
  .simp at j;have:okA fr hs a z=false:=by simp [okA,j]
   rw [this] at d;exact d
  refine sA h e p ?_;refine bsel_in (λk=>?_) λk=>?_
  .simp at k;have:okA fr hs a z=false:=by simp [okA,k]
   rw [this] at d;exact d
  .simp at j k;have:okA fr hs a z=true:=by simp [okA,j,k,o]
   rw [this] at d;exact d
 .rcases q with rfl | rfl | rfl | rfl<;>simp [bsel]
theorem tT (a:Pm) (f:Int):(oX a).lookup f=(a.lookup f).map λb=>.pointer (some ⟨b,0,none⟩):=by
 induction a with
 | nil=>rfl
 | cons p a ih=>
  show ((p.1,_)::oX a).lookup f=_;simp only [List.lookup];cases h:f==p.1
  .simp [ih]
  .simp
theorem qI {a:Pm} {f:Int} {b:Nat} (h:a.lookup f=some b):(f,b) ∈ a:=by
 induction a with
 | nil=>simp at h
 | cons p a ih=>
  simp only [List.lookup] at h;split at h
  .grind
  .simp_all
theorem nG {a:Pm} {f:Int} (h:a.lookup f=none):f ∉ a.map (·.1):=by grind
theorem qO {M:Int->Int} {f:Int} {j:Nat} (a:j<4096):(aW M f)[j]? = some (.int .u8 (M (f*4096+j))):=by
 simp [aW,a]
theorem sE {M:Int->Int} {f:Int} {j:Nat}:(aW M f)[j]? = if j<4096 then some (.int .u8 (M (f*4096+j))) else none:=by
 by_cases h:j<4096
 .rw [if_pos h,qO h]
 .rw [if_neg h];simp [aW];omega
theorem aGL {M:Int->Int} {f v:Int} {j:Nat} (b:j<4096):(aW M f).set j (.int .u8 v)=aW (λc=>if c=f*4096+j then v else M c) f:=by
 apply List.ext_getElem?;intro c;rw [List.getElem?_set,sE,sE];have a:(aW M f).length=4096:=by simp [aW]
 rw [a];by_cases g:j=c
 .simp_all
 .grind
theorem aDQ {M:Int->Int} {f g v:Int} {j:Nat} (b:j<4096) (a:g≠f):aW (λc=>if c=f*4096+j then v else M c) g=aW M g:=by
 apply List.ext_getElem?;intro c;rw [sE,sE];by_cases q:c<4096
 .grind
 .grind
theorem wM {a:Pm} {f:Int} {b:Nat} (h:(f,b) ∈ a):∃ i:Nat,a[i]? = some (f,b)/\(bW M a)[i]? = some (At b (aW M f)):=by
 obtain ⟨i,hi⟩:=List.mem_iff_getElem?.1 h;exact ⟨i,hi,by simp [bW,hi]⟩
theorem aFT {i:Nat} {a:Int} {n:Nat} {Q:Int->Int->AH->Prop} (h:Own l A) (e:l[i]? = some (RamS r fr hs M)) (z:hs.length<=64) (B:0<=fr/\fr<=1048576) (U:n=1\/n=2\/n=4\/n=8)
  (C:0<=a/\a<18446744073709551616) (p:Q (if okA fr hs a n then le M a n else 0) (if okA fr hs a n then 0 else 2) A):qdr_A (some ⟨r,0,none⟩) a n Q A:=by
 unfold qdr_A qdr_G;refine xC h e z B (by omega) C ?_;cases f:okA fr hs a n with
 | false=>rw [f] at p;exact aG rfl p
 | true=>
  rw [f] at p;refine bsel_f rfl ?_;obtain ⟨s,V,D,ok,t⟩:=RamS.open h e;have E:a+n<=fr*4096:=by simp [okA] at f;omega
  refine ⟨λx i m h'=>h'=A/\∃ j:Nat,j<=n/\i=(j:Int)-1/\m=j/\x=le M (a+j) (n-j),⟨n,rfl,n,Nat.le_refl _,by rw [w64]<;>omega,rfl,by simp [le]⟩,?_⟩;intro x i m h' ⟨e1,j,W,F,G,H⟩;subst e1 F G H;refine bsel_in (λc=>?_) λc=>?_
  .have c:0<=(m:Int)-1:=by simpa using c
   obtain ⟨j,rfl⟩:∃ j,m=j+1:=⟨m-1,by omega⟩;have I:((j+1:Nat):Int)-1=j:=by omega
   rw [I];have J:=rC ok.byte (n-(j+1)) (a+((j+1:Nat):Int))
   have K:(256:Int) ^ (n-(j+1))<=72057594037927936:=by
    have L:n-(j+1)<=7:=by omega
    have N:(256:Nat) ^ (n-(j+1))<=256 ^ 7:=Nat.pow_le_pow_right (by omega) L;have X:((256:Nat) ^ (n-(j+1)):Nat)<=(72057594037927936:Nat):=N;have O:(((256:Nat) ^ (n-(j+1)):Nat):Int)<=72057594037927936:=by omega
    simpa using O
   refine ⟨λy h''=>h''=h'/\y=le M (a+(j:Int)) (n-j),?_,?_⟩
   .intro y h'' ⟨P,R⟩;subst P R;exact ⟨j,by omega,rfl,j,by omega,by rw [w64]<;>omega,rfl,rfl⟩
   have u:IntKind.wrap .u64 (a+IntKind.wrap .u64 (j:Int))=a+j:=by rw [dO (n:=(j:Int)) (by omega) (by omega),dO]<;>omega
   have g:IntKind.wrap .i64 (IntKind.wrap .u64 (Int.tdiv (a+j) 4096))=(a+j) / 4096:=by
    rw [kM (by omega),dO (by omega) (by omega),w64 (by omega) (by omega)]
   have d:le M (a+j) (n-j)=M (a+j)+256*le M (a+((j+1:Nat):Int)) (n-(j+1)):=by
    rw [show n-j=(n-(j+1))+1 by omega];simp only [le];rw [show a+(j:Int)+1=a+((j+1:Nat):Int) by omega]
   rw [u,g,rL (by omega)];show aM (Addr.add ⟨r,0,none⟩ 2) h' _;rw [add_at];refine fC (i:=0) t rfl rfl ?_;refine iD (i:=2) t rfl ?_;rw [tT];have k:0<=(a+(j:Int)) % 4096/\(a+(j:Int)) % 4096<4096:=by omega
   cases w:D.lookup ((a+j) / 4096) with
   | none=>
    refine ⟨none,rfl,bsel_f rfl ⟨rfl,?_⟩⟩;have S:=ok.zero (a+j) (by omega) (nG w);rw [d,S,dO (by omega) (by omega)];omega
   | some b=>
    refine ⟨some ⟨b,0,none⟩,rfl,aG rfl ?_⟩;refine inB_in k.1 (by omega) ?_;obtain ⟨q,T,v⟩:=wM (M:=M) (qI w);rw [add_at];refine bQ (i:=q+3) (o:=0+((a+(j:Int)) % 4096).toNat*1) t v (n:=M (a+j)) ?_ ⟨rfl,?_⟩
    .rw [Nat.zero_add,Nat.mul_one,qO (by omega)];rw [show (a+(j:Int)) / 4096*4096+(((a+(j:Int)) % 4096).toNat:Nat)=a+j by omega]
    .rw [d,sD J.1 (by omega) (ok.byte _).1 (ok.byte _).2]
  .grind
theorem aLl {a:Pm} {f:Int} {b:Nat} (h:a.lookup f=none):putM (oX a) f (.pointer (some ⟨b,0,none⟩))=oX (a++[(f,b)]):=by
 induction a with
 | nil=>rfl
 | cons p a ih=>
  simp only [List.lookup] at h;split at h
  .cases h
  .rename_i g;have c:¬ p.1=f:=λq=>by simp [q] at g
   show putM ((p.1,_)::oX a) f _=_;simp only [putM,if_neg c,ih h];rfl
theorem aGx {f:Int} {a:Pm} (ok:aBb M a) (c:0<=f) (h:f ∉ a.map (·.1)):aW M f=List.replicate 4096 (.int .u8 0):=by
 refine List.eq_replicate_iff.2 ⟨by simp [aW],λv b=>?_⟩;simp only [aW,List.mem_map,List.mem_range] at b;obtain ⟨j,d,rfl⟩:=b;rw [ok.zero (f*4096+j) (by omega) (by rw [show (f*4096+(j:Int)) / 4096=f by omega];exact h)]
theorem aHF {R:List SP} {s:Sl} {k:Nat} {c:Pm} {f:Int} {Q:Option Addr->AH->Prop} (h:Own (vD r fr hs s k M c++R) A) (ok:aBb M c) (t:0<=f)
  (m:∀ d b e,aBb M d->(f,b) ∈ d->Own (vD r fr hs s k M d++R) e->Q (some ⟨b,0,none⟩) e):qbn_A (some ⟨r,0,none⟩) f Q A:=by
 unfold qbn_A;show aM (Addr.add ⟨r,0,none⟩ 2) A _;rw [add_at];refine fC (i:=0) h rfl rfl ?_;refine iD (i:=2) h rfl ?_;rw [tT];cases g:c.lookup f with
 | some b=>exact ⟨some ⟨b,0,none⟩,rfl,λp h'=>p=some ⟨b,0,none⟩/\h'=A,λp h' ⟨e1,u⟩=>by subst e1 u;exact m c b _ ok (qI g) h,⟨rfl,rfl⟩⟩
 | none=>
  refine ⟨none,rfl,Q,λ_ _ q=>q,?_⟩;refine aG rfl ?_;rw [<-List.toArray_replicate];refine aT h λb e h'=>?_;show aM (Addr.add ⟨r,0,none⟩ 2) e _;rw [add_at];refine fC (i:=1) h' rfl rfl ?_;refine aDs (i:=3) h' rfl λv j=>?_;have n:=nG g;refine m (c++[(f,b)]) b v ⟨?_,ok.byte,?_⟩ (by simp) ?_
  .rw [List.map_append,List.nodup_append];refine ⟨ok.nodup,by simp,?_⟩;intro x w y o;simp at o;subst o;exact λq=>n (q ▸ w)
  .intro a z B;exact ok.zero a z λq=>B (by simp at q ⊢;exact .inl q)
  .rw [aLl g] at j;rw [<-aGx ok t n] at j;refine j.perm ?_;show List.Perm (At b (aW M f)::(_::_::_::(bW M c++R))) (_::_::_::(bW M (c++[(f,b)])++R));have:bW M (c++[(f,b)])++R=bW M c++At b (aW M f)::R:=by simp [bW]
   rw [this];exact (List.perm_middle (l₁:=_::_::_::bW M c) (l₂:=R)).symm
def vC (M:Int->Int) (a:Int) (n:Nat) (x:Int):Int->Int:=λc=>if a<=c/\c<a+n then x / 2 ^ (8*(c-a).toNat) % 256 else M c
def upM (M:Int->Int) (a v:Int):Int->Int:=λc=>if c=a then v else M c
theorem aC4 {a x:Int} {j:Nat}:upM (vC M a j x) (a+j) (x / 2 ^ (8*j) % 256)=vC M a (j+1) x:=by
 funext c;unfold upM vC;by_cases e:c=a+j
 .grind
 .omega
theorem aFr {a:Pm} {q:Nat} {f:Int} {b:Nat} {j:Nat} {v:Int} (nd:(a.map (·.1)).Nodup) (c:a[q]? = some (f,b)) (k:j<4096) :
  (bW M a).set q (At b ((aW M f).set j (.int .u8 v)))=bW (upM M (f*4096+j) v) a:=by
 apply List.ext_getElem?;intro i;have d:=(List.getElem?_eq_some_iff.1 c).1;rw [List.getElem?_set];by_cases e:q=i
 .subst e;rw [aGL k];simp only [if_true,bW,List.length_map,d,List.getElem?_map,c,Option.map_some];rfl
 .rw [if_neg e];simp only [bW,List.getElem?_map];cases m:a[i]? with
  | none=>simp only [Option.map_none]
  | some p=>
   simp only [Option.map_some]
   have h:p.1≠f:=by
    intro g;have n:(a.map (·.1))[i]? = some f:=by simp [m,g]
    have o:(a.map (·.1))[q]? = some f:=by simp [c]
    obtain ⟨s,e1⟩:=List.getElem?_eq_some_iff.1 n;obtain ⟨t,u⟩:=List.getElem?_eq_some_iff.1 o;have w:=List.pairwise_iff_getElem.1 nd;rcases Nat.lt_trichotomy i q with g | g | g
    .grind
    .omega
    .grind
   rw [show aW (upM M (f*4096+j) v) p.1=aW M p.1 from aDQ k h]
theorem aBb.up {b:Pm} (ok:aBb M b) {a v:Int} (d:0<=v/\v<256) (e:a / 4096 ∈ b.map (·.1)):aBb (upM M a v) b where
 nodup:=ok.nodup
 byte c:=by
  unfold upM;split
  .exact d
  .exact ok.byte c
 zero c h0 h1:=by
  unfold upM;rw [if_neg (λ(q:c=a)=>h1 (by simp_all))];exact ok.zero c h0 h1
theorem xK {R:List SP} {a x:Int} {n:Nat} {Q:Int->AH->Prop} (h:Own (RamS r fr hs M::R) A) (E:hs.length<=64) (F:0<=fr/\fr<=1048576) (S:n=1\/n=2\/n=4\/n=8)
  (G:0<=a/\a<18446744073709551616) (H:okA fr hs a n=false->Q 2 A) (T:okA fr hs a n=true->∀ u,Own (RamS r fr hs (vC M a n x)::R) u->Q 0 u):qbo_A (some ⟨r,0,none⟩) a n x Q A:=by
 unfold qbo_A qbo_G;refine xC (i:=0) h rfl E F (by omega) G ?_;cases g:okA fr hs a n with
 | false=>exact aG rfl (H g)
 | true=>
  refine bsel_f rfl ?_;have I:a+n<=fr*4096:=by simp [okA] at g;omega
  refine ⟨λi m h'=>∃ j:Nat,i=j/\j<=n/\m=n-j/\Own (RamS r fr hs (vC M a j x)::R) h',⟨n,0,rfl,by omega,by omega,?_⟩,?_⟩
  .have:vC M a 0 x=M:=by funext c;unfold vC;rw [if_neg (by omega)]
   rw [this];exact h
  intro i m h' ⟨j,e1,U,J,e⟩;subst e1 J;refine bsel_in (λc=>?_) λc=>?_
  .have c:j<n:=by simpa using c
   have K:IntKind.wrap .i64 (8*(j:Int))=8*j:=w64 (by omega) (by omega);rw [K];refine bsel_f (by simp;omega) ?_;have v:IntKind.wrap .u64 (a+IntKind.wrap .u64 (j:Int))=a+j:=by rw [dO (n:=(j:Int)) (by omega) (by omega),dO]<;>omega
   have f:IntKind.wrap .i64 (IntKind.wrap .u64 (Int.tdiv (a+j) 4096))=(a+j) / 4096:=by
    rw [kM (by omega),dO (by omega) (by omega),w64 (by omega) (by omega)]
   rw [v,f,rL (by omega)];obtain ⟨s,e⟩:=e.ex;obtain ⟨k,e⟩:=e.ex;obtain ⟨V,e⟩:=e.ex;obtain ⟨ok,e⟩:=e.pure;refine aHF e.flat ok (by omega) λd b u o D w=>?_;obtain ⟨q,p,y⟩:=wM (M:=vC M a j x) D;have L:=(List.getElem?_eq_some_iff.1 p).1;refine inB_in (by omega) (by omega) ?_;rw [add_at]
   have N:IntKind.wrap .u8 (Int.fdiv x (2 ^ (min (Int.toNat (8*(j:Int))) 64)))=x / 2 ^ (8*j) % 256:=by
    rw [wu8,show min (Int.toNat (8*(j:Int))) 64=8*j by omega,Int.fdiv_eq_ediv_of_nonneg _ (Int.pow_nonneg (by omega))]
   rw [N]
   have hi:(vD r fr hs s k (vC M a j x) d++R)[q+3]? = some (At b (aW (vC M a j x) ((a+j) / 4096))):=by
    show (bW (vC M a j x) d++R)[q]? = _;rw [List.getElem?_append_left (by grind)];exact y
   refine bU (i:=q+3) w hi ?_ rfl λW z=>?_
   .rw [Nat.zero_add,Nat.mul_one,qO (by omega)];rfl
   refine ⟨n-(j+1),by omega,j+1,by rw [w64]<;>omega,by omega,rfl,?_⟩;rw [Nat.zero_add,Nat.mul_one] at z
   have t:(vD r fr hs s k (vC M a j x) d++R).set (q+3) (At b ((aW (vC M a j x) ((a+j) / 4096)).set ((a+(j:Int)) % 4096).toNat (.int .u8 (x / 2 ^ (8*j) % 256))))=vD r fr hs s k (vC M a (j+1) x) d++R:=by
    show _::_::_::(bW (vC M a j x) d++R).set q _=_::_::_::(bW (vC M a (j+1) x) d++R);rw [List.set_append_left _ _ (by grind),aFr o.nodup p (by omega)];rw [show (a+(j:Int)) / 4096*4096+(((a+(j:Int)) % 4096).toNat:Nat)=a+j by omega,aC4]
   rw [t] at z
   have C:aBb (vC M a (j+1) x) d:=by
    rw [<-aC4];exact o.up (by omega) (List.mem_map.2 ⟨_,D,rfl⟩)
   refine Own.imp (P:=Own (vD r fr hs s k (vC M a (j+1) x) d)) (λB O=>⟨s,k,d,C,O⟩) ?_;exact Own.app z
  .grind
end Go.Dn
namespace Go.Dn
def U64 (x:Int):Prop:=0<=x/\x<18446744073709551616
def iP (x:Int) (k:Nat):Int:=x / 2 ^ k % 512
def qD (x:Int):Int:=x / 4096 % 1048576
variable {A:AH} {l:List SP}
theorem aNI {x:Int} (k:Nat) (a:U64 x):(bits .and .u64 (x / 2 ^ k) 1==(1:Int))=dD x k:=by
 have:=tF k a.1 a.2;rw [aNC this.1 this.2];rfl
def iM (x:Int) (j:Nat):List Value:=(List.range 4).map λi=>.int .i64 (if i<j then iP x (39-9*i) else 0)
theorem aEa {x:Int} {Q:Int->Int->Int->Int->Int->AH->Prop} (d:U64 x) (h:Own l A) (k:∀ e,Own l e->Q (iP x 39) (iP x 30) (iP x 21) (iP x 12) (x % 4096) e):qec_A x Q A:=by
 unfold qec_A;refine aT (cs:=iM x 0) h λb s o=>?_;refine ⟨λi m h'=>∃ j:Nat,i=j/\j<=4/\m=4-j/\Own (At b (iM x j)::l) h',⟨4,0,rfl,by omega,rfl,o⟩,?_⟩;intro i m h' ⟨j,e1,t,p,a⟩;subst e1 p;refine bsel_in (λc=>?_) λc=>?_
 .have c:j<4:=by simp at c;omega
  have q:IntKind.wrap .i64 (39-IntKind.wrap .i64 (9*(j:Int)))=((39-9*j:Nat):Int):=by
   rw [w64 (n:=9*(j:Int)) (by omega) (by omega),w64 (by omega) (by omega)];omega
  rw [q];refine bsel_f (by simp) ?_;refine inB_in (by omega) (by omega) ?_;rw [add_at];have f:=tF (39-9*j) d.1 d.2
  have r:IntKind.wrap .i64 (bits .and .u64 (Int.fdiv x (2 ^ (min (Int.toNat ((39-9*j:Nat):Int)) 64))) 511)=iP x (39-9*j):=by
   rw [qC,show min (Int.toNat ((39-9*j:Nat):Int)) 64=39-9*j by omega,aL0 f.1 f.2];exact w64 (by omega) (by omega)
  rw [r];refine bU (i:=0) a rfl ?_ rfl λu g=>?_
  .simp [iM];omega
  refine ⟨4-(j+1),by omega,j+1,by rw [w64]<;>omega,by omega,rfl,?_⟩
  have hs:(iM x j).set (0+Int.toNat (j:Int)*1) (.int .i64 (iP x (39-9*j)))=iM x (j+1):=by
   obtain rfl | rfl | rfl | rfl:j=0\/j=1\/j=2\/j=3:=by omega
   all_goals rfl
  rw [hs] at g;exact g
 .have:j=4:=by simp at c;omega
  subst this;rw [aJ6 d.1 d.2,w64 (n:=x % 4096) (by omega) (by omega)];simp only [add_at];refine bQ (i:=0) a rfl rfl ?_;refine bQ (i:=0) a rfl rfl ?_;refine bQ (i:=0) a rfl rfl ?_;refine bQ (i:=0) a rfl rfl ?_;exact k _ a.tail
def placeN:Nat->Nat | 0=>0 | 1=>1 | 2=>2 | 3=>5 | 4=>6 | 5=>7 | 6=>8 | _=>63
def lH (x:Int) (j:Nat):List Value:=((List.range 8).map λi=>.bool (decide (i<j)&&dD x (placeN i)))++[.int .i64 (qD x)]
theorem aB6 {x:Int} {Q:Bool->Bool->Bool->Bool->Bool->Bool->Bool->Bool->Int->AH->Prop} (d:U64 x) (h:Own l A)
  (o:∀ f,Own l f->Q (dD x 0) (dD x 1) (dD x 2) (dD x 5) (dD x 6) (dD x 7) (dD x 8) (dD x 63) (qD x) f):qds_A x Q A:=by
 unfold qds_A qds_G;refine aT (cs:=[.bool false,.bool false,.bool false,.bool false,.bool false,.bool false,.bool false,.bool false,.int .i64 0]) h λb p e=>?_;have g:=tF 12 d.1 d.2;rw [qC,aMV g.1 g.2,w64 (n:=x / 2 ^ 12 % 1048576) (by omega) (by omega)];simp only [add_at]
 iterate 9 refine bU (i:=0) e rfl rfl rfl λp e=>?_
 unfold qbi_A;simp only [aF,add_at];refine ⟨λi m h'=>∃ j:Nat,i=j/\j<=8/\m=8-j/\Own (At b (lH x j)::l) h',⟨8,0,rfl,by omega,rfl,e⟩,?_⟩;intro i m h' ⟨j,e1,u,q,a⟩;subst e1 q;refine bsel_in (λc=>?_) λc=>?_
 .have c:j<8:=by simp at c;omega
  refine inB_in (by omega) (by omega) ?_
  have r:([.pointer (some ⟨b,0,none⟩),.pointer (some ⟨b,0+1,none⟩),.pointer (some ⟨b,0+2,none⟩),.pointer (some ⟨b,0+3,none⟩),.pointer (some ⟨b,0+4,none⟩),.pointer (some ⟨b,0+5,none⟩),.pointer (some ⟨b,0+6,none⟩),.pointer (some ⟨b,0+7,none⟩)]:List Value)[Int.toNat (j:Int)]? = some (.pointer (some ⟨b,j,none⟩)):=by
   obtain rfl | rfl | rfl | rfl | rfl | rfl | rfl | rfl:j=0\/j=1\/j=2\/j=3\/j=4\/j=5\/j=6\/j=7:=by omega
   all_goals rfl
  refine ⟨_,r,?_⟩;unfold qbj_A;refine inB_in (by omega) (by omega) ?_
  have s:([.int .i64 0,.int .i64 1,.int .i64 2,.int .i64 5,.int .i64 6,.int .i64 7,.int .i64 8,.int .i64 63]:List Value)[Int.toNat (j:Int)]? = some (.int .i64 (placeN j)):=by
   obtain rfl | rfl | rfl | rfl | rfl | rfl | rfl | rfl:j=0\/j=1\/j=2\/j=3\/j=4\/j=5\/j=6\/j=7:=by omega
   all_goals rfl
  refine ⟨_,s,bsel_f (by simp) ?_⟩
  have t:placeN j<=63:=by
   obtain rfl | rfl | rfl | rfl | rfl | rfl | rfl | rfl:j=0\/j=1\/j=2\/j=3\/j=4\/j=5\/j=6\/j=7:=by omega
   all_goals decide
  rw [qC,show min (Int.toNat (placeN j:Int)) 64=placeN j by omega,aNI _ d];refine bU (i:=0) a rfl ?_ rfl λv k=>?_
  .simp [lH];omega
  refine ⟨8-(j+1),by omega,j+1,by rw [w64]<;>omega,by omega,rfl,?_⟩
  have hs:(lH x j).set j (.bool (dD x (placeN j)))=lH x (j+1):=by
   obtain rfl | rfl | rfl | rfl | rfl | rfl | rfl | rfl:j=0\/j=1\/j=2\/j=3\/j=4\/j=5\/j=6\/j=7:=by omega
   all_goals rfl
  rw [hs] at k;exact k
 .have:j=8:=by simp at c;omega
  subst this
  iterate 8 refine nL (i:=0) a rfl rfl ?_
  refine bQ (i:=0) a rfl rfl ?_;exact o _ a.tail
end Go.Dn
namespace Go.Dn
variable {A:AH} {l:List SP} {r:Nat} {fr:Int} {hs:List (Int × Int)} {M:Int->Int}
theorem RamS.byte {i:Nat} (h:Own l A) (e:l[i]? = some (RamS r fr hs M)):∀ a,0<=M a/\M a<256:=by
 obtain ⟨s,b,c,ok,_⟩:=RamS.open h e;exact ok.byte
theorem aIa {i:Nat} (h:Own l A) (e:l[i]? = some (RamS r fr hs M)) (a:Int):U64 (le M a 8):=by
 have:=rC (RamS.byte h e) 8 a;exact ⟨this.1,this.2⟩
theorem q8 {M N:Int->Int}:∀ (n:Nat) (a:Int),(∀ c,a<=c->c<a+n->M c=N c)->le M a n=le N a n
 | 0,_,_=>rfl
 | n+1,a,h=>by
  simp only [le];rw [h a (by omega) (by omega),q8 n (a+1) λc b d=>h c (by omega) (by omega)]
theorem aCX (x:Int):∀ (n k:Nat) (N:Int->Int) (a:Int),(∀ j:Nat,j<n->N (a+j)=x / 2 ^ (8*(k+j)) % 256)->le N a n=x / 2 ^ (8*k) % 256 ^ n
 | 0,k,N,a,h=>by simp [le,Int.emod_one]
 | n+1,k,N,a,h=>by
  simp only [le];have b:=h 0 (by omega);rw [Int.natCast_zero,Int.add_zero,Nat.add_zero] at b;rw [b,aCX x n (k+1) N (a+1) λj e=>by rw [<-show a+((j+1:Nat):Int)=a+1+j by omega,h (j+1) (by omega),show k+(j+1)=k+1+j by omega]];rw [show 8*(k+1)=8*k+8 by omega,Int.pow_add,<- Int.ediv_ediv_of_nonneg (Int.pow_nonneg (by omega))];generalize x / 2 ^ (8*k)=z;rw [Int.pow_succ];show z % 256+256*(z / 256 % 256 ^ n)=z % (256 ^ n*256)
  have c:z / 256 % 256 ^ n=z / 256-256 ^ n*(z / 256 / 256 ^ n):=by
   have:=Int.mul_ediv_add_emod (z / 256) (256 ^ n);omega
  have d:z % (256 ^ n*256)=z-256 ^ n*256*(z / (256 ^ n*256)):=by
   have:=Int.mul_ediv_add_emod z (256 ^ n*256);omega
  rw [c,d,Int.ediv_ediv_of_nonneg (by omega),Int.mul_comm 256 (256 ^ n:Int)];generalize z / (256 ^ n*256)=w;have:256 ^ n*256*w=256*(256 ^ n*w):=by rw [Int.mul_comm (256 ^ n:Int) 256,Int.mul_assoc]
  omega
theorem aKo (M:Int->Int) (a x:Int) (n:Nat) (c:0<=x) (b:x<256 ^ n):le (vC M a n x) a n=x:=by
 have:=aCX x n 0 (vC M a n x) a λj d=>by
  unfold vC;rw [if_pos ⟨by omega,by omega⟩,show (a+(j:Int)-a).toNat=0+j by omega]
 rw [this];simp;exact Int.emod_eq_of_lt c b
theorem aCk (M:Int->Int) (a b x:Int) (n m:Nat) (h:b+m<=a\/a+n<=b):le (vC M a n x) b m=le M b m:=
 q8 m b λc d e=>by
  unfold vC;rw [if_neg (by omega)]
end Go.Dn
namespace Go.Dn
def SlO (s:Sl) (sz:Nat) (cs:List Value):SP:=λB=>(s.len*sz=cs.length/\s.len<=s.cap)/\
 (s.cap=0\/∃ b rest,s.a=some ⟨b,0,none⟩/\(cs++rest).length=s.cap*sz/\At b (cs++rest) B)
theorem SlO.nil {sz:Nat} {B:AH}:SlO Sl.nil sz [] B:=⟨⟨by simp [Sl.nil],Nat.le_refl _⟩,.inl rfl⟩
theorem SlO.look {s:Sl} {sz:Nat} {cs:List Value} {B:AH} (h:SlO s sz cs B):SlAt s sz cs B:=by
 obtain ⟨⟨d,e⟩,a⟩:=h;refine ⟨d,e,λc=>?_⟩;rcases a with a | ⟨b,rest,a,g,f⟩
 .have:s.len=0:=by omega
  rw [this] at d;exact absurd (List.length_eq_zero_iff.1 (by omega)) c
 .exact ⟨b,[],rest,a,by simpa using f⟩
variable {A:AH} {l R:List SP}
theorem iW {b o:Nat}:∀ (vs:List Value) (n:Nat) (A:AH) (pre mid post:List Value) (K:AP),Own (At b (pre++mid++post)::R) A->mid.length=vs.length->o+n=pre.length->(∀ v ∈ vs,v.oneCell'=true)->
  (∀ a,Own (At b (pre++vs++post)::R) a->K a)->vB vs ⟨b,o,none⟩ n A K
 | [],n,A,pre,mid,post,K,h,hm,ho,hv,hk=>by
  have:mid=[]:=List.length_eq_zero_iff.1 hm;subst this;exact hk A h
 | v::vs,n,A,pre,mid,post,K,h,hm,ho,hv,hk=>by
  cases mid with
  | nil=>simp at hm
  | cons m mid=>
   simp at hm;show aC (Addr.add ⟨b,o,none⟩ n) v A _;rw [add_at];refine bU (i:=0) h rfl ?_ (hv v (by simp)) λa h'=>?_
   .rw [ho];simp
   have e:(pre++m::mid++post).set (o+n) v=(pre++[v])++mid++post:=by
    rw [ho,List.append_assoc,List.set_append_right _ _ (Nat.le_refl _)];simp
   rw [e] at h';refine iW vs (n+1) a (pre++[v]) mid post K h' hm (by simp;omega) (λw c=>hv w (by simp [c])) λd f=>hk d ?_;simpa using f
theorem aA1 {s:Sl} {sz:Nat} {cs:List Value} {B:AH} (h:SlAt s sz cs B) (u:eU B A) (d:s.a=none->cs=[]):oU A s.a (s.len*sz) cs:=by
 cases hs:s.a with
 | none=>exact d hs
 | some a=>
  refine ⟨h.1.symm,λi hi=>?_⟩;rw [h.1] at hi;obtain ⟨b,o,c,e⟩:=h.cell u (j:=i) (v:=cs[i]) (by simp [hi]);rw [hs] at c;cases c;exact ⟨cs[i],by simp [hi],by rw [add_at];exact e⟩
theorem eL {z:Array Value} {n:Nat}:(Builtin.zeroCells z n).size=n*z.size:=by simp [Builtin.zeroCells]
theorem aEr {s:Sl} {sz:Nat} {cs:List Value} (h:s.len*sz=cs.length/\∀ j v,cs[j]? = some v->∃ b o,s.a=some ⟨b,o,none⟩/\bM A ⟨b,o+j,none⟩=some v) (d:s.a=none->cs=[]):oU A s.a (s.len*sz) cs:=by
 cases hs:s.a with
 | none=>exact d hs
 | some a=>
  refine ⟨h.1.symm,λi hi=>?_⟩;rw [h.1] at hi;obtain ⟨b,o,c,e⟩:=h.2 i cs[i] (by simp [hi]);rw [hs] at c;cases c;exact ⟨cs[i],by simp [hi],by rw [add_at];exact e⟩
theorem eI {b n cap sz:Nat} {cs rest:List Value} (c:n*sz=cs.length):Reads (At b (cs++rest)) ⟨some ⟨b,0,none⟩,n,cap⟩ sz cs:=λB A ⟨t,d⟩ u=>⟨c,λj v a=>⟨b,0,rfl,by
 have:=u _ _ d;have e:=(List.getElem?_eq_some_iff.1 a).1;simp only [bM,this,Nat.zero_add];simp only [Option.isSome_none,Bool.false_eq_true,if_false,List.getElem?_toArray];rw [List.getElem?_append_left e];exact a⟩⟩
theorem dJ {P:SP} {s x:Sl} {sz bytes t i:Nat} {zc:Array Value} {c1 c2:List Value} {K:Sl->AP} (h:Own (SlO s sz c1::R) A) (e:R[i]? = some P) (J:Reads P x sz c2) (L:x.a=none->c2=[]) (hs:s.a=none->c1=[])
  (M:zc.size=sz) (N:∀ v ∈ c2,v.oneCell'=true) (j:(s.len+x.len)*bytes<=140737488355328/\s.len+x.len<=9223372036854775807)
  (w:∀ s' y,s'.len=s.len+x.len->(s'.a=none->c1++c2=[])->Own (SlO s' sz (c1++c2)::R) y->K s' y):dM sz bytes zc t s x A K:=by
 obtain ⟨Bx,O,a⟩:=Own.get (l:=SlO s sz c1::R) (i:=i+1) (by simpa using e) h;obtain ⟨W,Q,k⟩:=h.sat;have a:=J Bx A a O;refine ⟨c2,aEr a L,λr=>?_,λC=>?_⟩
 .have m:=k.1.1;have p:=a.1;obtain ⟨X,S⟩:=h.pure;rcases Nat.eq_zero_or_pos s.cap with g | g
  .-- nothing there and nothing to append
   have G:s.len=0:=by omega
   have H:x.len=0:=by omega
   rw [G] at m;rw [H] at p;have e1:c1=[]:=List.length_eq_zero_iff.1 (by omega);have T:c2=[]:=List.length_eq_zero_iff.1 (by omega);subst e1 T
   have D:zB s.a (s.len*sz) [] A (K ⟨s.a,s.len+x.len,s.cap⟩)↔K ⟨s.a,s.len+x.len,s.cap⟩ A:=by
    cases s.a<;>exact Iff.rfl
   rw [D];refine w _ _ rfl (λ_=>rfl) ?_;exact Own.imp (P:=SlO s sz []) (λB d=>⟨⟨by simp [G,H],by omega⟩,.inl g⟩) h
  .have c:Own ((λB=>∃ b rest,s.a=some ⟨b,0,none⟩/\(c1++rest).length=s.cap*sz/\At b (c1++rest) B)::R) A:=S.imp λB d=>by
    rcases d with d | d
    .omega
    .exact d
   obtain ⟨b,c⟩:=c.ex;obtain ⟨rest,c⟩:=c.ex;obtain ⟨U,c⟩:=c.pure;obtain ⟨I,c⟩:=c.pure;rw [U];show vB c2 (Addr.add ⟨b,0,none⟩ (s.len*sz)) 0 A _;rw [add_at]
   have E:c2.length<=rest.length:=by
    rw [List.length_append] at I;have:(s.len+x.len)*sz<=s.cap*sz:=Nat.mul_le_mul_right _ r;rw [Nat.add_mul] at this;omega
   have f:c1++rest=c1++rest.take c2.length++rest.drop c2.length:=by rw [List.append_assoc,List.take_append_drop]
   rw [f] at c;refine iW c2 0 A c1 (rest.take c2.length) (rest.drop c2.length) _ c (by simp;omega) (by simp;omega) N λy h'=>?_;refine w _ _ rfl (λq=>by cases q) ?_;refine Own.imp (λB d=>⟨⟨?_,r⟩,.inr ⟨b,rest.drop c2.length,rfl,?_,d⟩⟩) h'
   .rw [Nat.add_mul,List.length_append];omega
   .rw [<-I];simp;omega
 .have m:=k.1.1;have p:=a.1;refine ⟨c1,aA1 k.look Q hs,j.2,growslice_fits C j.1,λcap u=>?_⟩;intro b V;have F:=eL (z:=zc) (n:=cap-(s.len+x.len));refine w _ _ rfl (λq=>by cases q) ?_;refine Own.new (o:=_) (h.tail) V λB d=>⟨⟨?_,u⟩,.inr ⟨b,(Builtin.zeroCells zc (cap-(s.len+x.len))).toList,rfl,?_,t,?_⟩⟩
  .rw [Nat.add_mul,List.length_append];omega
  .simp only [List.length_append,Array.length_toList];rw [F,M,<- m,<- p,<- Nat.add_mul,<- Nat.add_mul];congr 1;omega
  .rw [d];congr 2;apply Array.ext';simp
theorem nX {s x:Sl} {sz bytes t i:Nat} {zc:Array Value} {c1 c2:List Value} {K:Sl->AP} (h:Own (SlO s sz c1::R) A) (e:R[i]? = some (SlAt x sz c2)) (c:x.a=none->c2=[]) (hs:s.a=none->c1=[])
  (d:zc.size=sz) (f:∀ v ∈ c2,v.oneCell'=true) (a:(s.len+x.len)*bytes<=140737488355328/\s.len+x.len<=9223372036854775807)
  (g:∀ s' b,s'.len=s.len+x.len->(s'.a=none->c1++c2=[])->Own (SlO s' sz (c1++c2)::R) b->K s' b):dM sz bytes zc t s x A K:=
 dJ h e pP c hs d f a g
end Go.Dn
namespace Go.Dn
def gX (aw au af:Bool):Int:=(if aw then 2 else 0)+(if au then 4 else 0)+(if af then 16 else 0)
def mayZ (w u x aw au af:Bool):Bool:=!(aw&&!w)&&!(au&&!u)&&!(af&&!x)
variable {A:AH} {fr:Int} {hs:List (Int × Int)}
theorem aC3 {w u x aw au af:Bool} {Q:Bool->AH->Prop} (a:Q (mayZ w u x aw au af) A):qex_A w u x aw au af Q A:=by
 unfold qex_A;cases w<;>cases u<;>cases x<;>cases aw<;>cases au<;>cases af<;>exact a
theorem aBT {t:Int} {at_:Int} (c:0<=at_/\at_<512):okA fr hs (t*4096+8*at_) 8=hasF fr hs t:=by
 have a:(t*4096+8*at_) / 4096=t:=by omega
 have b:(t*4096+8*at_+8-1) / 4096=t:=by omega
 unfold okA;rw [a,b];cases h:hasF fr hs t with
 | false=>simp
 | true=>
  have:t<fr:=by
   unfold hasF at h;simp at h;omega
  simp;omega
theorem yE {t p:Int} (a:0<=t/\t<1048576) (b:0<=p/\p<512) :
  IntKind.wrap .u64 (IntKind.wrap .u64 (IntKind.wrap .u64 t*4096)+IntKind.wrap .u64 (IntKind.wrap .i64 (8*p)))=t*4096+8*p:=by
 rw [dO (n:=t) (by omega) (by omega),dO (n:=t*4096) (by omega) (by omega),w64 (n:=8*p) (by omega) (by omega),dO (n:=8*p) (by omega) (by omega),dO (by omega) (by omega)]
end Go.Dn
namespace Go.Dn
variable {A:AH} {l:List SP}
def eZ (b:Bool):Int:=if b then 1 else 0
theorem pJ (b:Bool):0<=eZ b/\eZ b<=1:=by cases b<;>decide
def packZ (b0 b1 b2 b3 b4 b5 b6 b7:Bool) (f:Int):Int:=f*4096+eZ b0+2*eZ b1+4*eZ b2+32*eZ b3+64*eZ b4+128*eZ b5+256*eZ b6+9223372036854775808*eZ b7
def pkZ (p:Nat->Bool) (f:Int):Nat->Int
 | 0=>f*4096
 | j+1=>pkZ p f j+2 ^ placeN j*eZ (p j)
theorem tJ (a c d e g i j m:Bool) {f:Int} (n:0<=f/\f<1048576):dD (packZ a c d e g i j m f) 0=a/\dD (packZ a c d e g i j m f) 1=c/\dD (packZ a c d e g i j m f) 2=d/\
  dD (packZ a c d e g i j m f) 5=e/\dD (packZ a c d e g i j m f) 6=g/\dD (packZ a c d e g i j m f) 7=i/\dD (packZ a c d e g i j m f) 8=j/\dD (packZ a c d e g i j m f) 63=m/\
  qD (packZ a c d e g i j m f)=f/\U64 (packZ a c d e g i j m f):=by
 have o:=pJ a;have p:=pJ c;have q:=pJ d;have r:=pJ e;have s:=pJ g;have t:=pJ i;have u:=pJ j;have v:=pJ m
 have key:∀ (x:Int) (k:Nat) (b:Bool),x / 2 ^ k % 2=eZ b->dD x k=b:=by
  intro x k b h;unfold dD;rw [h];cases b<;>rfl
 refine ⟨key _ _ _ ?_,key _ _ _ ?_,key _ _ _ ?_,key _ _ _ ?_,key _ _ _ ?_,key _ _ _ ?_,key _ _ _ ?_,key _ _ _ ?_,?_,?_⟩
 all_goals unfold packZ
 .omega
 .omega
 .omega
 .omega
 .omega
 .omega
 .omega
 .omega
 .unfold qD;omega
 .unfold U64;omega
theorem aJQ (p:Nat->Bool) {f:Int} (a:0<=f/\f<1048576) {j:Nat} (b:j<8):dD (pkZ p f j) (placeN j)=false/\U64 (pkZ p f j):=by
 have c:=pJ (p 0);have d:=pJ (p 1);have e:=pJ (p 2);have g:=pJ (p 3);have i:=pJ (p 4);have m:=pJ (p 5);have n:=pJ (p 6)
 have key:∀ (x:Int) (k:Nat),x / 2 ^ k % 2=0->dD x k=false:=by
  intro x k h;unfold dD;rw [h];rfl
 obtain rfl | rfl | rfl | rfl | rfl | rfl | rfl | rfl:j=0\/j=1\/j=2\/j=3\/j=4\/j=5\/j=6\/j=7:=by omega
 all_goals (refine ⟨key _ _ ?_,?_⟩<;>simp only [pkZ,placeN,U64]<;>omega)
theorem aNS (a b c d e g h j:Bool) (f:Int):pkZ (λi=>[a,b,c,d,e,g,h,j].getD i false) f 8=packZ a b c d e g h j f:=by
 simp only [pkZ,placeN,packZ,List.getD_cons_zero,List.getD_cons_succ];omega
set_option maxHeartbeats 1000000 in
theorem aF9 {a d e g k o p q:Bool} {f:Int} {Q:Int->Int->AH->Prop} (h:Own l A) (D:0<=f/\f<1048576) (E:∀ u,Own l u->Q (packZ a d e g k o p q f) 0 u):qbk_A a d e g k o p q f Q A:=by
 unfold qbk_A qbk_G;show aN A (.cells [.bool a,.bool d,.bool e,.bool g,.bool k,.bool o,.bool p,.bool q,.int .i64 f].toArray _) _;refine aT h λb F r=>?_;simp only [add_at];refine ⟨λG=>G=F,?_,bQ (i:=0) r rfl rfl (bsel_f (by simp;omega) (bQ (i:=0) r rfl rfl (bsel_f (by simp;omega) rfl)))⟩;intro H v;subst v;refine bQ (i:=0) r rfl rfl ?_;unfold qbi_A;simp only [aF,add_at];refine ⟨λx y m h'=>h'=H/\∃ j:Nat,y=j/\j<=8/\8-j=m/\x=pkZ (λi=>[a,d,e,g,k,o,p,q].getD i false) f j,⟨_,rfl,0,rfl,by omega,rfl,?_⟩,?_⟩
 .rw [dO (n:=f) (by omega) (by omega)];show IntKind.wrap .u64 (f*4096)=f*4096;rw [dO]<;>omega
 intro x y m h' ⟨I,j,e1,v,J,K⟩;subst I e1 J K;refine bsel_in (λc=>?_) λc=>?_
 rotate_left
 .have:j=8:=by simp at c;omega
  subst this;rw [aNS];exact E _ r.tail
 have c:j<8:=by simp at c;omega
 obtain ⟨L,w⟩:=aJQ (λi=>[a,d,e,g,k,o,p,q].getD i false) D c
 have s:placeN j<=63:=by
  obtain rfl | rfl | rfl | rfl | rfl | rfl | rfl | rfl:j=0\/j=1\/j=2\/j=3\/j=4\/j=5\/j=6\/j=7:=by omega
  all_goals decide
 have M:([.pointer (some ⟨b,0,none⟩),.pointer (some ⟨b,0+1,none⟩),.pointer (some ⟨b,0+2,none⟩),.pointer (some ⟨b,0+3,none⟩),.pointer (some ⟨b,0+4,none⟩),.pointer (some ⟨b,0+5,none⟩),.pointer (some ⟨b,0+6,none⟩),.pointer (some ⟨b,0+7,none⟩)]:List Value)[Int.toNat (j:Int)]? = some (.pointer (some ⟨b,j,none⟩)):=by
  obtain rfl | rfl | rfl | rfl | rfl | rfl | rfl | rfl:j=0\/j=1\/j=2\/j=3\/j=4\/j=5\/j=6\/j=7:=by omega
  all_goals rfl
 have N:([.int .i64 0,.int .i64 1,.int .i64 2,.int .i64 5,.int .i64 6,.int .i64 7,.int .i64 8,.int .i64 63]:List Value)[Int.toNat (j:Int)]? = some (.int .i64 (placeN j)):=by
  obtain rfl | rfl | rfl | rfl | rfl | rfl | rfl | rfl:j=0\/j=1\/j=2\/j=3\/j=4\/j=5\/j=6\/j=7:=by omega
  all_goals rfl
 have O:([.bool a,.bool d,.bool e,.bool g,.bool k,.bool o,.bool p,.bool q,.int .i64 f]:List Value)[j]? = some (.bool ([a,d,e,g,k,o,p,q].getD j false)):=by
  obtain rfl | rfl | rfl | rfl | rfl | rfl | rfl | rfl:j=0\/j=1\/j=2\/j=3\/j=4\/j=5\/j=6\/j=7:=by omega
  all_goals rfl
 refine ⟨λx z=>z=h'/\x=pkZ (λi=>[a,d,e,g,k,o,p,q].getD i false) f (j+1),λx z ⟨P,R⟩=>⟨8-(j+1),by omega,P,j+1,by rw [w64]<;>omega,by omega,rfl,R⟩,?_⟩;refine inB_in (by omega) (by omega) ⟨_,M,?_⟩;refine nL (i:=0) r rfl O ?_;unfold qbj_A;cases B:[a,d,e,g,k,o,p,q].getD j false with
 | false=>exact ⟨rfl,by simp only [pkZ,B,eZ];simp⟩
 | true=>
  refine inB_in (by omega) (by omega) ⟨_,N,bsel_f (by simp) ⟨rfl,?_⟩⟩;rw [show min (Int.toNat (placeN j:Int)) 64=placeN j by omega,Int.one_mul];have t:(2:Int) ^ placeN j=((2 ^ placeN j:Nat):Int):=by simp
  have S:(2:Int) ^ placeN j<=2 ^ 63:=by
   have:(2:Nat) ^ placeN j<=2 ^ 63:=Nat.pow_le_pow_right (by omega) s;have T:((2 ^ placeN j:Nat):Int)<=((2 ^ 63:Nat):Int):=Int.ofNat_le.2 this;simpa using T
  have C:(0:Int)<2 ^ placeN j:=Int.pow_pos (by omega);rw [dO (n:=(2:Int) ^ placeN j) (by omega) (by omega),aI6 (placeN j) (2 ^ placeN j) t s w.1 w.2,L];simp only [pkZ,B,eZ];simp
end Go.Dn
namespace Go.Dn
open Go.MapKept
variable {A:AH} {l:List SP}
def delM (m:List (Int × Value)) (key:Int):List (Int × Value):=match m with
 | []=>[]
 | p::m=>if p.1=key then m else p::delM m key
theorem aCr {k:IntKind} {key:Int}:∀ (es:List MapEntry) (m:List (Int × Value)) (j:Nat),es.map (λe=>(e.key,e.val))=m.map (λp=>(.int k p.1,p.2))->
  ∃ r,Instr.findNow (.int k) (.int k key) es j=some r/\
   (∀ i v,r=some (i,v)->j<=i/\i-j<es.length/\(es.eraseIdx (i-j)).map (λe=>(e.key,e.val))=(delM m key).map (λp=>(.int k p.1,p.2)))/\(r=none->delM m key=m)
 | [],[],j,_=>⟨none,rfl,(λ_ _ e=>nomatch e),λ_=>rfl⟩
 | [],_::_,_,e=>by simp at e
 | _::_,[],_,e=>by simp at e
 | e::es,p::m,j,h=>by
  simp only [List.map_cons,List.cons.injEq,Prod.mk.injEq] at h;obtain ⟨⟨h1,h2⟩,h3⟩:=h;simp only [Instr.findNow,h1,Instr.sameNow];by_cases q:p.1=key
  ·refine ⟨some (j,e.val),by simp [q],?_,λhn=>by cases hn⟩;intro i v hv;simp only [Option.some.injEq,Prod.mk.injEq] at hv;obtain ⟨rfl,rfl⟩:=hv;exact ⟨Nat.le_refl _,by simp,by simp [delM,q,h3]⟩
  ·obtain ⟨r,k1,k3,k4⟩:=aCr (k:=k) (key:=key) es m (j+1) h3;refine ⟨r,?_,?_,?_⟩
   ·grind
   ·intro i v hv;obtain ⟨k5,k6,k7⟩:=k3 i v hv;refine ⟨by omega,by simp;omega,?_⟩;rw [show i-j=(i-(j+1))+1 by omega];simp only [List.eraseIdx_cons_succ,List.map_cons,k7];simp [delM,q,h1,h2]
   ·intro hn;simp [delM,q,k4 hn]
theorem aDw {i b:Nat} {k:IntKind} {key:Int} {m:List (Int × Value)} {K:AP} (h:Own l A) (e:l[i]? = some (MapI b k m)) (j:∀ f,Own (l.set i (MapI b k (delM m key))) f->K f):qW A (some b) k key K:=by
 obtain ⟨a,c,n,g,d⟩:=h.map e;obtain ⟨r,k1,o,q⟩:=aCr (k:=k) (key:=key) a.toList m 0 g;refine ⟨a,c,n,r,k1,j _ ?_⟩;refine h.upd e (λB ⟨_,_,s,_⟩=>⟨_,s⟩) λB _=>?_;cases r with
 | none=>
  refine ⟨_,_,fG,?_,d⟩;rw [q rfl];exact g
 | some p=>
  obtain ⟨i,t⟩:=p;obtain ⟨v,w,u⟩:=o i t rfl;refine ⟨_,_,fG,?_,stamped_erase d i⟩;show (a.eraseIdxIfInBounds i).toList.map _=_;have:(a.eraseIdxIfInBounds i).toList=a.toList.eraseIdx i:=by simp_all
  rw [this];exact u
theorem aNQ {i b:Nat} {k:IntKind} {m:List (Int × Value)} {K:Int->Prop} (h:Own l A) (e:l[i]? = some (MapI b k m)) (d:K m.length):aIz A (some b) K:=by
 obtain ⟨a,c,f,g,_⟩:=h.map e;refine ⟨a.toList,by simp [wR,f],?_⟩
 have:a.toList.length=m.length:=by
  have:=congrArg List.length (show a.toList.map (λe=>(e.key,e.val))=_ from g);simpa using this
 rw [this];exact d
theorem aMZ {i b r t:Nat} {m:List (Int × Value)} {Q:Sl->AP} {j:Nat} (h:Own l A) (ep:l[j]? = some (At b [.map (some r)])) (e:l[i]? = some (MapI r .i64 m)) (hn:m.length<=17592186044416) (hr:∀ p ∈ m,(Lit.int .i64 p.1).wf=true)
  (h0:m=[]->Q Sl.nil A)
  (hk:∀ (ss:List Int) s A',ss.Perm (m.map (·.1))->ss≠[]->s.len=ss.length->Own (SlAt s 1 (ss.map (.int .i64))::l) A'->Q s A'):clA t (some ⟨b,0,none⟩) Q A:=by
 obtain ⟨es,c,h1,h2,hst⟩:=h.map e;refine ⟨b,some r,rfl,dW ep h rfl,es,c,h1,⟨hst,?_,?_⟩,λss hs=>⟨λhe=>?_,λcap cur hne hle hsz hcur=>?_⟩⟩
 ·have:es.toList.length=m.length:=by
   have:=congrArg List.length (show es.toList.map (λe=>(e.key,e.val))=_ from h2);simpa using this
  have:es.size=m.length:=by simpa using this
  omega
 ·intro x hx;have:(x.key,x.val) ∈ m.map λp=>((.int .i64 p.1:Value),p.2):=by rw [<-show es.toList.map (λe=>(e.key,e.val))=_ from h2];exact List.mem_map.2 ⟨x,hx,rfl⟩
  obtain ⟨p,hp,hpe⟩:=List.mem_map.1 this;simp only [Prod.mk.injEq] at hpe;exact ⟨p.1,hpe.1.symm,hr p hp⟩
 ·apply h0;subst he;have:=hs.length_eq
  have h3:es.toList.length=m.length:=by
   have:=congrArg List.length (show es.toList.map (λe=>(e.key,e.val))=_ from h2);simpa using this
  apply List.length_eq_zero_iff.1;simp at this h3;rw [<-h3,<- this]
 ·intro g hg
  have hm:es.toList.map aIp=m.map (·.1):=by
   have h3:(es.toList.map λe=>(e.key,e.val)).map (λp=>match p.1 with | .int _ n=>n | _=>0)=(m.map λp=>((.int .i64 p.1:Value),p.2)).map (λp=>match p.1 with | .int _ n=>n | _=>0):=congrArg _ h2
   rw [List.map_map,List.map_map] at h3;exact h3
  rw [hm] at hs;refine hk ss _ _ hs hne rfl (h.new hg λB hB=>⟨by simp,hle,λ_=>⟨g,[],cur.toList.drop ss.length,rfl,t,?_⟩⟩)
  have:[]++ss.map (Value.int .i64)++cur.toList.drop ss.length=cur.toList:=by
   rw [List.nil_append,<- hcur,List.take_append_drop]
  rw [this,hB,Array.toArray_toList]
end Go.Dn
namespace Go.Dn
variable {A:AH} {l:List SP} {r:Nat} {fr:Int} {hs:List (Int × Int)}
theorem Own.nilO {sz:Nat} (h:Own l A):Own (SlO Sl.nil sz []::l) A:=⟨λ_=>none,_,λ_=>.inl rfl,(λb o e=>nomatch e),eU.refl _,SlO.nil,h⟩
def pI (fr:Int) (p:Int × Int):Bool:=!(decide (p.1<0))&&!(decide (p.2<p.1))&&!(decide (p.2 > fr))
def nZ (fr:Int) (hs:List (Int × Int)):Int:=if fr<1 then 1 else if fr > 1048576 then 4 else if hs.length > 64 then 4 else if hs.all (pI fr) then 0 else 3
theorem aIe {k:Nat} {s:Sl} {Q:Option Addr->Int->AH->Prop} (h:Own l A) (e:l[k]? = some (SlAt s 2 (holeCells hs))) (D:nZ fr hs≠0->Q none (nZ fr hs) A)
  (n:nZ fr hs=0->∀ r G,Own (RamS r fr hs (λ_=>0)::l) G->Q (some ⟨r,0,none⟩) 0 G):qao_A fr s Q A:=by
 have a:s.len*2=hs.length*2:=by rw [<-pB];exact aDL h e
 have a:s.len=hs.length:=by omega
 unfold qao_A;unfold nZ at D n;refine bsel_in (λc=>?_) λc=>?_
 .simp_all
 have c:¬ fr<1:=by simpa using c
 rw [if_neg c] at D n;refine ⟨λt=>t=A/\¬ fr > 1048576/\¬ hs.length > 64,?_,bsel_in (λc2=>?_) λc2=>bsel_in (λE=>?_) λE=>⟨rfl,by simpa using c2,by simp [a] at E;omega⟩⟩
 rotate_left
 .simp_all
 .grind
 intro S ⟨T,c2,E⟩;subst T;rw [if_neg c2] at D n;rw [if_neg E] at D n;refine ⟨λx m h'=>h'=S/\∃ j:Nat,x=j/\j<=hs.length/\m=hs.length-j/\(hs.take j).all (pI fr)=true,⟨_,rfl,0,rfl,by omega,rfl,by simp⟩,?_⟩;intro x m h' ⟨e1,j,U,e3,V,H⟩;subst e1 U V;refine bsel_in (λu=>?_) λu=>?_
 .have u:j<hs.length:=by simp [a] at u;omega
  obtain ⟨p,L⟩:∃ p,hs[j]? = some p:=⟨hs[j],by simp [u]⟩;obtain ⟨I,t⟩:=lS L;obtain ⟨b,o,M,W⟩:=rZ h e I;obtain ⟨b',o',N,X⟩:=rZ h e t;rw [M] at N;cases N;rw [M];refine inB_in (by omega) (by omega) ⟨p.1,?_,p.2,?_,?_⟩
  .rw [add_at];simpa using W
  .rw [add_at,add_at];simpa [Nat.add_assoc] using X
  have d:pI fr p=false->Q none 3 h':=λq=>by grind
  refine bsel_in (λw=>d (by unfold pI;rw [w];rfl)) λw=>?_;refine bsel_in (λF=>d (by unfold pI;rw [w,F];rfl)) λF=>?_;refine bsel_in (λJ=>d (by unfold pI;rw [w,F,J];rfl)) λJ=>?_;refine ⟨hs.length-(j+1),by omega,rfl,j+1,by rw [w64]<;>omega,by omega,rfl,?_⟩;rw [List.take_add_one,L];simp only [List.all_append,H,Option.toList_some,List.all_cons,List.all_nil,Bool.and_true,Bool.true_and];unfold pI;rw [w,F,J];rfl
 .have:j=hs.length:=by simp [a] at u;omega
  subst this;rw [List.take_length] at H;rw [H] at n
  have f:s.a=none->holeCells hs=[]:=by
   intro q;obtain ⟨B,_,y⟩:=Own.get e h;by_cases g:holeCells hs=[]
   .exact g
   .obtain ⟨b,pre,rest,O,_⟩:=y.2.2 g;rw [q] at O;cases O
  refine nX (i:=k) h.nilO e f (λ_=>rfl) rfl ?_ ⟨by simp [Sl.nil,a];omega,by simp [Sl.nil,a];omega⟩ λs' G Y Z I=>?_
  .intro v z;simp only [holeCells,List.mem_flatMap] at z;obtain ⟨p,_,z⟩:=z;simp at z;rcases z with rfl | rfl<;>rfl
  refine uT (k:=.i64) I λK A2 t=>?_;refine aT t λr R h3=>?_;refine n rfl r R ?_;refine Own.imp (P:=Own (vD r fr hs s' K (λ_=>0) [])) (λB y=>⟨s',K,[],⟨by simp,λ_=>by omega,λ_ _ _=>rfl⟩,y⟩) ?_;refine Own.app ?_;show Own (_::SlAt s' 2 (holeCells hs)::MapI K .i64 []::l) R;refine h3.cons λC hC=>?_;exact Own.imp (λB y=>y.look) hC.swap
end Go.Dn
namespace Go.Dn
variable {A:AH} {R:List SP} {r:Nat} {fr:Int} {hs:List (Int × Int)} {M:Int->Int} {W:Int->Int->Int}
def fO (M:Int->Int) (t i:Int):Int:=le M (t*4096+8*i) 8
structure aE6 (fr:Int) (hs:List (Int × Int)):Prop where
 holes:hs.length<=64
 lo:0<=fr
 hi:fr<=1048576
def RamW (r:Nat) (fr:Int) (hs:List (Int × Int)) (W:Int->Int->Int):SP:=λB=>∃ M,(aE6 fr hs/\∀ t i,0<=t->0<=i->i<512->W t i=fO M t i)/\RamS r fr hs M B
theorem RamW.openH (h:Own (RamW r fr hs W::R) A):∃ M,(aE6 fr hs/\∀ t i,0<=t->0<=i->i<512->W t i=fO M t i)/\Own (RamS r fr hs M::R) A:=by
 obtain ⟨M,h⟩:=Own.ex h;obtain ⟨a,h⟩:=Own.pure h;exact ⟨M,a,h⟩
theorem RamW.closeH (a:aE6 fr hs) (b:∀ t i,0<=t->0<=i->i<512->W t i=fO M t i) (h:Own (RamS r fr hs M::R) A):Own (RamW r fr hs W::R) A:=h.imp λ_ c=>⟨M,⟨a,b⟩,c⟩
theorem gF {t:Int} (h:hasF fr hs t=true) (a:fr<=1048576):0<=t/\t<fr:=by
 unfold hasF at h;simp at h;omega
def setW (W:Int->Int->Int) (t i x:Int):Int->Int->Int:=λt' i'=>if t'=t/\i'=i then x else W t' i'
def zeroW (W:Int->Int->Int) (t:Int):Int->Int->Int:=λt' i'=>if t'=t then 0 else W t' i'
theorem aJT {t i x t' a:Int} (hi:0<=i/\i<512) (c:0<=a/\a<512) (b:U64 x):fO (vC M (t*4096+8*i) 8 x) t' a=if t'=t/\a=i then x else fO M t' a:=by
 unfold fO;split
 .rename_i g;rw [g.1,g.2];exact aKo M _ x 8 b.1 b.2
 .rename_i g;refine aCk M _ _ x 8 8 ?_;by_cases e:t'=t
  .have:a≠i:=λq=>g ⟨e,q⟩;subst e;omega
  .omega
theorem aLL (h:Own (RamW r fr hs W::R) A) {t i:Int} (a:0<=t) (hi:0<=i/\i<512):U64 (W t i):=by
 obtain ⟨M,⟨d,b⟩,c⟩:=RamW.openH h;rw [b t i a hi.1 hi.2];exact aIa (i:=0) c rfl _
theorem aHZ {f:Int} {Q:Bool->AH->Prop} (h:Own (RamW r fr hs W::R) A) (a:Q (hasF fr hs f) A):qbb_A (some ⟨r,0,none⟩) f Q A:=by
 obtain ⟨M,⟨b,d⟩,c⟩:=RamW.openH h;exact sA (i:=0) c rfl b.holes a
theorem u9 {Q:Int->AH->Prop} (h:Own (RamW r fr hs W::R) A) (a:Q fr A):qbg_A (some ⟨r,0,none⟩) Q A:=by
 obtain ⟨M,⟨d,e⟩,b⟩:=RamW.openH h;obtain ⟨s,f,g,ok,c⟩:=RamS.open (i:=0) b rfl;exact bQ (i:=0) c rfl rfl a
theorem rD {t i bx:Int} {j k:Option Addr} {Q:Bool->Bool->Bool->Bool->Bool->Bool->Bool->Bool->Int->AH->Prop} (h:Own (RamW r fr hs W::R) A) (c:hasF fr hs t=true) (hi:0<=i/\i<512)
  (l:∀ b,Own (RamW r fr hs W::R) b->Q (dD (W t i) 0) (dD (W t i) 1) (dD (W t i) 2) (dD (W t i) 5) (dD (W t i) 6) (dD (W t i) 7) (dD (W t i) 8) (dD (W t i) 63) (qD (W t i)) b) :
  qdt_A (some ⟨r,0,none⟩) j k bx t i Q A:=by
 have m:=aLL h (t:=t) (i:=i) (gF c (RamW.openH h).choose_spec.1.1.hi).1 hi;obtain ⟨M,⟨a,e⟩,f⟩:=RamW.openH h;have g:=gF c a.hi;have o:=a.hi;unfold qdt_A qdt_G qbl_A;rw [yE ⟨g.1,by omega⟩ hi];refine aFT (n:=8) (i:=0) f rfl a.holes ⟨a.lo,a.hi⟩ (by omega) ⟨by omega,by omega⟩ ?_;have d:okA fr hs (t*4096+8*i) ((8:Nat):Int)=true:=(aBT hi).trans c;rw [d];simp only [↓reduceIte];have p:le M (t*4096+8*i) 8=W t i:=(e t i g.1 hi.1 hi.2).symm;rw [p];exact aB6 m f λb q=>l b (RamW.closeH a e q)
theorem qE {t i x:Int} {Q:Int->AH->Prop} (h:Own (RamW r fr hs W::R) A) (d:hasF fr hs t=true) (hi:0<=i/\i<512) (g:U64 x) (j:∀ b,Own (RamW r fr hs (setW W t i x)::R) b->Q 0 b) :
  qbo_A (some ⟨r,0,none⟩) (t*4096+8*i) 8 x Q A:=by
 obtain ⟨M,⟨a,k⟩,l⟩:=RamW.openH h;have u:=gF d a.hi;have m:=a.hi;have c:okA fr hs (t*4096+8*i) ((8:Nat):Int)=true:=(aBT hi).trans d;refine xK (n:=8) l a.holes ⟨a.lo,a.hi⟩ (by omega) ⟨by omega,by omega⟩ (λq=>by rw [c] at q;cases q) λ_ b o=>j b (RamW.closeH a (λt' p s e f=>?_) o);rw [aJT hi ⟨e,f⟩ g];unfold setW;rw [k t' p s e f]
theorem yY {t i:Int} (a:0<=t/\t<1048576) (hi:0<=i/\i<512) {Q:Int->AH->Prop} (b:Q (t*4096+8*i) A):qbl_A t i Q A:=by
 unfold qbl_A;rw [yE a hi];exact b
theorem kW {t i f bx:Int} {o p:Option Addr} {a b c d e g j k:Bool} {Q:AH->Prop} (h:Own (RamW r fr hs W::R) A) (l:hasF fr hs t=true) (hi:0<=i/\i<512) (m:0<=f/\f<1048576)
  (q:∀ n,Own (RamW r fr hs (setW W t i (packZ a b c d e g j k f))::R) n->Q n):qbp_A (some ⟨r,0,none⟩) o p bx t i a b c d e g j k f Q A:=by
 have s:=gF l (RamW.openH h).choose_spec.1.1.hi;have u:=(RamW.openH h).choose_spec.1.1.hi;unfold qbp_A qbp_G;refine aF9 h m λy v=>yY ⟨s.1,by omega⟩ hi ?_;exact qE v l hi (tJ a b c d e g j k m).2.2.2.2.2.2.2.2.2 λw x=>q w x
def oZ (M:Int->Int) (f:Int):Int->Int:=λc=>if f*4096<=c/\c<f*4096+4096 then 0 else M c
theorem aLa (a:Pm) (f:Int) (nd:(a.map (·.1)).Nodup):delM (oX a) f=oX (a.filter λp=>p.1 != f):=by
 induction a with
 | nil=>rfl
 | cons p a ih=>
  simp only [List.map_cons,List.nodup_cons] at nd;simp only [oX,List.map_cons,delM] at ih ⊢;by_cases e:p.1=f
  .rw [if_pos e]
   have:(p::a).filter (λp=>p.1 != f)=a:=by
    rw [List.filter_cons,if_neg (by simp [e])];rw [List.filter_eq_self];intro q b;simp;intro g;exact nd.1 (List.mem_map.2 ⟨q,b,by rw [g,e]⟩)
   rw [this]
  .rw [if_neg e,ih nd.2,List.filter_cons,if_pos (by simpa using e)];rfl
theorem aDJ {a:Pm} {f:Int} (b:∀ p ∈ a,p.1≠f):bW (oZ M f) a=bW M a:=by
 unfold bW;apply List.map_congr_left;intro p c
 have:aW (oZ M f) p.1=aW M p.1:=by
  unfold aW;apply List.map_congr_left;intro i hi;have hi:i<4096:=by simpa using hi
  unfold oZ;rw [if_neg (by have:=b p c;omega)]
 rw [this]
theorem aFD {t:Int} {Q:Int->AH->Prop} (h:Own (RamW r fr hs W::R) A) (o:hasF fr hs t=true) (w:∀ d,Own (RamW r fr hs (zeroW W t)::R) d->Q 0 d):qbc_A (some ⟨r,0,none⟩) t Q A:=by
 obtain ⟨M,⟨k,x⟩,u⟩:=RamW.openH h;unfold qbc_A qbc_G;refine sA (i:=0) u rfl k.holes (bsel_f (by rw [o];rfl) ?_);obtain ⟨s,h⟩:=Own.ex u;obtain ⟨e,h⟩:=Own.ex h;obtain ⟨b,h⟩:=Own.ex h;obtain ⟨ok,h⟩:=Own.pure h;have v:Own (vD r fr hs s e M b++R) A:=Own.flat h;rw [show aF (some (⟨r,0,none⟩:Addr))=λf=>f ⟨r,0,none⟩ from rfl];simp only [add_at];refine fC (i:=0) v rfl rfl (aDw (i:=2) v rfl λd j=>w d ?_);rw [aLa b t ok.nodup] at j;have j:Own (At r [.int .i64 fr,.slice s.a s.len s.cap,.map (some e)]::SlAt s 2 (holeCells hs)::MapI e .i64 (oX (b.filter λp=>p.1 != t))::(bW M b++R)) d:=j;have F:=gF o k.hi;refine RamW.closeH (M:=oZ M t) k (λt' l y z C=>?_) ?_
 .unfold zeroW;split
  .rename_i g;subst g;unfold fO
   have:le (oZ M t') (t'*4096+8*l) 8=le (λ_=>0) (t'*4096+8*l) 8:=q8 8 _ λc c1 c2=>by
    unfold oZ;rw [if_pos (by omega)]
   rw [this];rfl
  .rename_i g;rw [x t' l y z C];unfold fO;refine q8 8 _ λc c1 c2=>?_;unfold oZ;rw [if_neg (by omega)]
 .refine Own.imp (P:=Own (vD r fr hs s e (oZ M t) (b.filter λp=>p.1 != t))) (λB D=>⟨s,e,_,⟨?_,λa=>?_,λa a0 E=>?_⟩,D⟩) ?_
  .exact ok.nodup.sublist (List.filter_sublist.map _)
  .unfold oZ;split
   .omega
   .exact ok.byte a
  .unfold oZ;split
   .rfl
   .rename_i g;refine ok.zero a a0 λq=>E ?_;obtain ⟨p,m,n⟩:=List.mem_map.1 q;refine List.mem_map.2 ⟨p,List.mem_filter.2 ⟨m,?_⟩,n⟩;simp;omega
  .refine Own.app ?_;unfold vD;rw [aDJ (λp m=>by simpa using (List.mem_filter.1 m).2)];refine Own.sub ?_ j;show List.Sublist (_::_::_::(bW M (b.filter λp=>p.1 != t)++R)) _;refine List.Sublist.cons_cons _ (List.Sublist.cons_cons _ (List.Sublist.cons_cons _ ?_));exact (List.filter_sublist.map _).append (List.Sublist.refl _)
end Go.Dn
namespace Go.Dn
theorem gI {k:Nat} (a:k<=20):(2:Int) ^ k<=1048576/\(0:Int)<2 ^ k:=by
 refine ⟨?_,Int.pow_pos (by omega)⟩;have:(2:Nat) ^ k<=2 ^ 20:=Nat.pow_le_pow_right (by omega) a;have b:((2 ^ k:Nat):Int)<=((2 ^ 20:Nat):Int):=Int.ofNat_le.2 this;simpa using b
theorem aHz {k:Nat} (a:k<=20) (c:Int) (b:0<=c) (d:c<=4):IntKind.wrap .i64 (c*2 ^ (min (Int.toNat (k:Int)) 64))=c*2 ^ k:=by
 have:=gI a;rw [show min (Int.toNat (k:Int)) 64=k by omega];have e:c*2 ^ k<=4*1048576:=Int.mul_le_mul d this.1 (by omega) (by omega);have f:0<=c*2 ^ k:=Int.mul_nonneg b (by omega);rw [w64]<;>omega
theorem aMN (q:Nat):q ^^^ 1=if q % 2=0 then q+1 else q-1:=by
 have c:(q ^^^ 1) / 2=q / 2:=by simpa using Nat.xor_div_two (a:=q) (b:=1)
 have d:(q ^^^ 1) % 2=(q+1) % 2:=by
  have e:(q ^^^ 1) % 2 ^ 1=(q % 2 ^ 1) ^^^ (1 % 2 ^ 1):=Nat.xor_mod_two_pow;rcases Nat.mod_two_eq_zero_or_one q with h | h
  .grind
  .grind
 split<;>omega
theorem aMG (q k:Nat):(2 ^ k*q) ^^^ 2 ^ k=if q % 2=0 then 2 ^ k*q+2 ^ k else 2 ^ k*q-2 ^ k:=by
 have h:(2 ^ k*q) ^^^ 2 ^ k=2 ^ k*(q ^^^ 1):=by
  have:=Nat.shiftLeft_xor_distrib (a:=q) (b:=1) (i:=k);simp only [Nat.shiftLeft_eq,Nat.one_mul] at this;rw [Nat.mul_comm,<- this,Nat.mul_comm]
 rw [h,aMN];split
 .grind
 .rw [Nat.mul_sub,Nat.mul_one]
theorem aIt {x y:Nat} (a:x<2 ^ 62) (b:y<2 ^ 62):bits .xor .i64 x y=((x ^^^ y:Nat):Int):=by
 have d:x ^^^ y<2 ^ 62:=Nat.xor_lt_two_pow a b;have c:bits .xor .i64 x y=IntKind.wrap .i64 ((BitVec.ofInt 64 x ^^^ BitVec.ofInt 64 y).toNat:Int):=rfl;rw [c,BitVec.toNat_xor,BitVec.ofInt_natCast,BitVec.ofInt_natCast,BitVec.toNat_ofNat,BitVec.toNat_ofNat,Nat.mod_eq_of_lt (by omega),Nat.mod_eq_of_lt (by omega)];exact w64 (by omega) (by omega)
theorem aMi {k:Nat} {q:Int} (b:k<=20) (c:0<=q) (d:2 ^ k*q<=2097152):bits .xor .i64 (2 ^ k*q) (2 ^ k)=if q % 2=0 then 2 ^ k*q+2 ^ k else 2 ^ k*q-2 ^ k:=by
 obtain ⟨q,rfl⟩:=Int.eq_ofNat_of_zero_le c;have f:=gI b;have e1:((2:Int) ^ k*(q:Int))=((2 ^ k*q:Nat):Int):=by simp
 have e:((2:Int) ^ k)=((2 ^ k:Nat):Int):=by simp
 rw [e1,e,aIt (by omega) (by omega),aMG];rw [e1] at d;have a:((q:Int) % 2=0)↔(q % 2=0):=by omega
 by_cases g:q % 2=0
 .rw [if_pos g,if_pos (a.2 g)];omega
 .rw [if_neg g,if_neg (λh=>g (a.1 h))];have:2 ^ k<=2 ^ k*q:=Nat.le_mul_of_pos_right _ (by omega);omega
theorem aMM (q k:Nat):(2 ^ k*q)&&& 2 ^ k=if q % 2=0 then 0 else 2 ^ k:=by
 have h:(2 ^ k*q)&&& 2 ^ k=2 ^ k*(q&&& 1):=by
  have:=Nat.shiftLeft_and_distrib (a:=q) (b:=1) (i:=k);simp only [Nat.shiftLeft_eq,Nat.one_mul] at this;rw [Nat.mul_comm,<- this,Nat.mul_comm]
 rw [h,Nat.and_one_is_mod];split
 .simp_all
 .simp_all
theorem aGq {k:Nat} {q:Int} (hk:k<=20) (h0:0<=q) (h1:2 ^ k*q<=2097152):bits .andNot .i64 (2 ^ k*q) (2 ^ k)=if q % 2=0 then 2 ^ k*q else 2 ^ k*q-2 ^ k:=by
 obtain ⟨q,rfl⟩:=Int.eq_ofNat_of_zero_le h0;have hp:=gI hk;have e1:((2:Int) ^ k*(q:Int))=((2 ^ k*q:Nat):Int):=by simp
 have e2:((2:Int) ^ k)=((2 ^ k:Nat):Int):=by simp
 rw [e1] at h1;rw [e1,e2];have h2:bits .andNot .i64 ((2 ^ k*q:Nat):Int) ((2 ^ k:Nat):Int)=IntKind.wrap .i64 ((BitVec.ofInt 64 ((2 ^ k*q:Nat):Int)&&& ~~~ BitVec.ofInt 64 ((2 ^ k:Nat):Int)).toNat:Int):=rfl
 have hb:BitVec.ofInt 64 ((2 ^ k*q:Nat):Int)&&& ~~~ BitVec.ofInt 64 ((2 ^ k:Nat):Int)=BitVec.ofInt 64 ((2 ^ k*q:Nat):Int) ^^^ (BitVec.ofInt 64 ((2 ^ k*q:Nat):Int)&&& BitVec.ofInt 64 ((2 ^ k:Nat):Int)):=by
  ext i hi
  simp;cases (BitVec.ofInt 64 ((2:Int) ^ k*(q:Int)))[i]<;>simp
 rw [h2,hb,BitVec.toNat_xor,BitVec.toNat_and,BitVec.ofInt_natCast,BitVec.ofInt_natCast,BitVec.toNat_ofNat,BitVec.toNat_ofNat,Nat.mod_eq_of_lt (by omega),Nat.mod_eq_of_lt (by omega),aMM];have e3:((q:Int) % 2=0)↔(q % 2=0):=by omega
 by_cases g:q % 2=0
 ·rw [if_pos g,if_pos (e3.2 g),Nat.xor_zero,w64]<;>omega
 ·rw [if_neg g,if_neg (λh=>g (e3.1 h)),aMG,if_neg g];have:2 ^ k<=2 ^ k*q:=Nat.le_mul_of_pos_right _ (by omega);rw [w64]<;>omega
end Go.Dn
