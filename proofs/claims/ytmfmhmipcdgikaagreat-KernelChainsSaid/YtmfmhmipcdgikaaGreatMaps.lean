/- What the proof stands on. -/
import Derived.Test.YtmfmhmipcdgikaaGreatDnY
import Derived.Test.YtmfmhmipcdgikaaGreatG
import Derived.Test.YtmfmhmipcdgikaaGreatDnN
namespace Go.Dn
def hasF (fr:Int) (hs:List (Int × Int)) (f:Int):Bool:=decide (0<=f)&&decide (f<fr)&&hs.all λp=>!(decide (p.1<=f)&&decide (f<p.2))
def holeCells (hs:List (Int × Int)):List Value:=hs.flatMap λp=>[.int .i64 p.1,.int .i64 p.2]
theorem jX:∀ {hs:List (Int × Int)} {j:Nat} {p:Int × Int},hs[j]? = some p->(holeCells hs)[j*2]? = some (.int .i64 p.1)/\(holeCells hs)[j*2+1]? = some (.int .i64 p.2)
 | [],_,_,h=>by simp at h
 | q::hs,0,p,h=>by simp at h;subst h;exact ⟨rfl,rfl⟩
 | q::hs,j+1,p,h=>by
  have:=jX (hs:=hs) (j:=j) (p:=p) (by simpa using h);rw [show (j+1)*2=j*2+2 by omega,show j*2+2+1=j*2+1+2 by omega];exact this
theorem nL (hs:List (Int × Int)):(holeCells hs).length=hs.length*2:=by
 induction hs with
 | nil=>rfl
 | cons p hs ih=>show (holeCells hs).length+2=_;rw [ih];simp;omega
def aZ (M:Int->Int) (f:Int):List Value:=(List.range 4096).map λ(i:Nat)=>.int .u8 (M (f*4096+i))
abbrev Pm:=List (Int × Nat)
def nN (pm:Pm):List (Int × Value):=pm.map λp=>(p.1,.pointer (some ⟨p.2,0,none⟩))
def bP (M:Int->Int) (pm:Pm):List SP:=pm.map λp=>At p.2 (aZ M p.1)
structure aAn (M:Int->Int) (pm:Pm):Prop where
 nodup:(pm.map (·.1)).Nodup
 byte:∀ a,0<=M a/\M a<256
 zero:∀ a,0<=a->a / 4096 ∉ pm.map (·.1)->M a=0
def tK (r:Nat) (fr:Int) (hs:List (Int × Int)) (s:Sl) (mb:Nat) (M:Int->Int) (pm:Pm):List SP:=
 At r [.int .i64 fr,.slice s.a s.len s.cap,.map (some mb)]::dK s 2 (holeCells hs)::MapI mb .i64 (nN pm)::bP M pm
def RamS (r:Nat) (fr:Int) (hs:List (Int × Int)) (M:Int->Int):SP:=λB=>∃ s mb pm,aAn M pm/\Own (tK r fr hs s mb M pm) B
variable {A:AH} {l:List SP} {r:Nat} {fr:Int} {hs:List (Int × Int)} {M:Int->Int}
theorem RamS.open {i:Nat} (h:Own l A) (e:l[i]? = some (RamS r fr hs M)):∃ s mb pm,aAn M pm/\Own (tK r fr hs s mb M pm) A:=by
 obtain ⟨B,u,s,mb,pm,h1,h2⟩:=h.get e;exact ⟨s,mb,pm,h1,h2.mono u⟩
theorem pE {i:Nat} {f:Int} {Q:Bool->AH->Prop} (h:Own l A) (e:l[i]? = some (RamS r fr hs M)) (hl:hs.length<=64) (hk:Q (hasF fr hs f) A):qbc_A (some ⟨r,0,none⟩) f Q A:=by
 obtain ⟨s,mb,pm,ok,ho⟩:=RamS.open h e;have hlen:s.len*2=hs.length*2:=by rw [<-nL];exact zT (i:=1) ho rfl
 have hlen:s.len=hs.length:=by omega
 unfold qbc_A;refine aG (λc=>?_) λc=>?_
 ·have:hasF fr hs f=false:=by simp at c;simp [hasF];intros;omega
  rw [this] at hk;exact hk
 refine ld_I (i:=0) ho rfl rfl ?_;refine aG (λc2=>?_) λc2=>?_
 ·have:hasF fr hs f=false:=by simp at c2;simp [hasF];intros;omega
  rw [this] at hk;exact hk
 simp at c c2;show aS (Addr.add ⟨r,0,none⟩ 1) A _;rw [add_at];refine ld_S (i:=0) ho rfl rfl ?_;refine ⟨λx m h'=>h'=A/\∃ j:Nat,x=j/\j<=hs.length/\m=hs.length-j/\∀ q:Nat,q<j->∀ p,hs[q]? = some p->¬(p.1<=f/\f<p.2),⟨_,rfl,0,rfl,by omega,rfl,λq hq=>absurd hq (by omega)⟩,?_⟩;intro x m h' ⟨e1,j,e2,e3,e4,e5⟩;subst e1 e2;refine aG (λc3=>?_) λc3=>?_
 ·simp [hlen] at c3;obtain ⟨p,hp⟩:∃ p,hs[j]? = some p:=⟨hs[j],by simp [c3]⟩;obtain ⟨h1,h2⟩:=jX hp;obtain ⟨b,o,g1,g2⟩:=mG (i:=1) ho rfl h1;obtain ⟨b',o',g3,g4⟩:=mG (i:=1) ho rfl h2;rw [g1] at g3;cases g3;show aF s.a _;rw [g1];refine inB_in (by omega) (by simp [hlen];omega) ⟨p.1,?_,p.2,?_,?_⟩
  ·rw [add_at];simpa using g2
  ·rw [add_at,add_at];simpa [Nat.add_assoc] using g4
  have hnext:¬(p.1<=f/\f<p.2)->∃ m7,m7<m/\h'=h'/\∃ j':Nat,IntKind.wrap .i64 ((j:Int)+1)=j'/\j'<=hs.length/\m7=hs.length-j'/\∀ q:Nat,q<j'->∀ p,hs[q]? = some p->¬(p.1<=f/\f<p.2):=by
   intro hn;refine ⟨hs.length-(j+1),by omega,rfl,j+1,by rw [bG]<;>omega,by omega,rfl,?_⟩;intro q hq p' hp';by_cases hqj:q=j
   ·subst hqj;rw [hp] at hp';cases hp';exact hn
   ·exact e5 q (by omega) p' hp'
  refine aG (λc4=>?_) λc4=>hnext (by simp at c4;omega);refine aG (λc5=>?_) λc5=>hnext (by simp at c5;omega)
  have:hasF fr hs f=false:=by
   simp at c4 c5;simp only [hasF,Bool.and_eq_false_iff,List.all_eq_false];refine .inr ⟨p,List.mem_of_getElem? hp,?_⟩;simp [c4,c5]
  rw [this] at hk;exact hk
 ·simp [hlen] at c3
  have:hasF fr hs f=true:=by
   simp only [hasF,Bool.and_eq_true,List.all_eq_true];refine ⟨⟨by simpa using c,by simpa using c2⟩,λp hp=>?_⟩;obtain ⟨q,hq⟩:=List.mem_iff_getElem?.1 hp;have hlt:=(List.getElem?_eq_some_iff.1 hq).1;have:=e5 q (by omega) p hq;simp;omega
  rw [this] at hk;exact hk
def okA (fr:Int) (hs:List (Int × Int)) (a z:Int):Bool:=decide (a+z<=fr*4096)&&hasF fr hs (a / 4096)&&hasF fr hs ((a+z-1) / 4096)
theorem wB {i:Nat} {a z:Int} {Q:Int->AH->Prop} (h:Own l A) (e:l[i]? = some (RamS r fr hs M)) (hl:hs.length<=64) (hf:0<=fr/\fr<=1048576) (hz:z=1\/z=2\/z=4\/z=8)
  (ha:0<=a/\a<18446744073709551616) (hk:Q (if okA fr hs a z then 0 else 2) A):qbn_A (some ⟨r,0,none⟩) a z Q A:=by
 obtain ⟨s,mb,pm,ok,ho⟩:=RamS.open h e;unfold qbn_A qbn_G;refine ⟨λb h'=>b=true/\h'=A,?_,?_⟩
 ·intro b h' ⟨e1,e2⟩;subst e1 e2;refine aN rfl ?_;have hz2:IntKind.wrap .u64 z=z:=cQ (by omega) (by omega);have hlast:IntKind.wrap .u64 (IntKind.wrap .u64 (a+IntKind.wrap .u64 z)-1)=(a+z-1) % 18446744073709551616:=by rw [hz2,aDs,aDs];omega
  rw [hlast]
  have hno:¬ (a+z<=fr*4096)->Q 2 h':=λg=>by
   have:okA fr hs a z=false:=by simp [okA,g]
   rw [this] at hk;exact hk
  refine aG (λc=>hno ?_) λc=>?_
  ·simp at c;omega
  simp at c;have hlt:a+z-1<18446744073709551616:=by omega
  have hm:(a+z-1) % 18446744073709551616=a+z-1:=by omega
  rw [hm];refine ld_I (i:=0) ho rfl rfl ?_
  rw [jE (by omega),jE (by omega),cQ (n:=(a+z-1) / 4096) (by omega) (by omega),cQ (n:=a / 4096) (by omega) (by omega),cQ (n:=fr) (by omega) (by omega),
   bG (n:=(a+z-1) / 4096) (by omega) (by omega),bG (n:=a / 4096) (by omega) (by omega)]
  refine aG (λc2=>hno ?_) λc2=>?_
  ·simp at c2;omega
  simp at c2;have hle:a+z<=fr*4096:=by omega
  refine pE h e hl ?_;refine aG (λc3=>?_) λc3=>?_
  ·simp at c3;have:okA fr hs a z=false:=by simp [okA,c3]
   rw [this] at hk;exact hk
  refine pE h e hl ?_;refine aG (λc4=>?_) λc4=>?_
  ·simp at c4;have:okA fr hs a z=false:=by simp [okA,c4]
   rw [this] at hk;exact hk
  ·simp at c3 c4;have:okA fr hs a z=true:=by simp [okA,c3,c4,hle]
   rw [this] at hk;exact hk
 ·rcases hz with rfl | rfl | rfl | rfl<;>simp [bsel]
theorem zG (pm:Pm) (f:Int):(nN pm).lookup f=(pm.lookup f).map λb=>.pointer (some ⟨b,0,none⟩):=by
 induction pm with
 | nil=>rfl
 | cons p pm ih=>
  show ((p.1,_)::nN pm).lookup f=_;simp only [List.lookup];cases h:f==p.1
  ·simp [ih]
  ·simp
theorem uO {pm:Pm} {f:Int} {b:Nat} (h:pm.lookup f=some b):(f,b) ∈ pm:=by
 induction pm with
 | nil=>simp at h
 | cons p pm ih=>
  simp only [List.lookup] at h;split at h
  ·rename_i g;have:=by simpa using g
   subst this;cases h;exact List.mem_cons_self
  ·exact List.mem_cons_of_mem _ (ih h)
theorem sU {pm:Pm} {f:Int} (h:pm.lookup f=none):f ∉ pm.map (·.1):=by
 induction pm with
 | nil=>simp
 | cons p pm ih=>
  simp only [List.lookup] at h;split at h
  ·cases h
  ·rename_i g;have g2:f≠p.1:=by simpa using g
   simp only [List.map_cons,List.mem_cons,not_or];exact ⟨g2,ih h⟩
theorem zJ {M:Int->Int} {f:Int} {j:Nat} (hj:j<4096):(aZ M f)[j]? = some (.int .u8 (M (f*4096+j))):=by
 simp [aZ,hj]
theorem qI {M:Int->Int} {f:Int} {j:Nat}:(aZ M f)[j]? = if j<4096 then some (.int .u8 (M (f*4096+j))) else none:=by
 by_cases h:j<4096
 ·rw [if_pos h,zJ h]
 ·rw [if_neg h];simp [aZ];omega
theorem aF9 {M:Int->Int} {f v:Int} {j:Nat} (hj:j<4096):(aZ M f).set j (.int .u8 v)=aZ (λc=>if c=f*4096+j then v else M c) f:=by
 apply List.ext_getElem?;intro c;rw [List.getElem?_set,qI,qI];have hlen:(aZ M f).length=4096:=by simp [aZ]
 rw [hlen];by_cases g:j=c
 ·subst g;rw [if_pos rfl,if_pos hj,if_pos hj];simp
 ·rw [if_neg g];by_cases q:c<4096
  ·rw [if_pos q,if_pos q,if_neg (by omega)]
  ·rw [if_neg q,if_neg q]
theorem aCi {M:Int->Int} {f g v:Int} {j:Nat} (hj:j<4096) (hne:g≠f):aZ (λc=>if c=f*4096+j then v else M c) g=aZ M g:=by
 apply List.ext_getElem?;intro c;rw [qI,qI];by_cases q:c<4096
 ·rw [if_pos q,if_pos q,if_neg (by omega)]
 ·rw [if_neg q,if_neg q]
theorem aBg {pm:Pm} {f:Int} {b:Nat} (h:(f,b) ∈ pm):∃ i:Nat,pm[i]? = some (f,b)/\(bP M pm)[i]? = some (At b (aZ M f)):=by
 obtain ⟨i,hi⟩:=List.mem_iff_getElem?.1 h;exact ⟨i,hi,by simp [bP,hi]⟩
theorem mL {i:Nat} {a:Int} {n:Nat} {Q:Int->Int->AH->Prop} (h:Own l A) (e:l[i]? = some (RamS r fr hs M)) (hl:hs.length<=64) (hf:0<=fr/\fr<=1048576) (hz:n=1\/n=2\/n=4\/n=8)
  (ha:0<=a/\a<18446744073709551616) (hk:Q (if okA fr hs a n then le M a n else 0) (if okA fr hs a n then 0 else 2) A):qdn_A (some ⟨r,0,none⟩) a n Q A:=by
 unfold qdn_A qdn_G;refine wB h e hl hf (by omega) ha ?_;cases hok:okA fr hs a n with
 | false=>rw [hok] at hk;exact aN rfl hk
 | true=>
  rw [hok] at hk;refine bsel_f rfl ?_;obtain ⟨s,mb,pm,ok,ho⟩:=RamS.open h e;have hle:a+n<=fr*4096:=by simp [okA] at hok;omega
  refine ⟨λx i m h'=>h'=A/\∃ j:Nat,j<=n/\i=(j:Int)-1/\m=j/\x=le M (a+j) (n-j),⟨n,rfl,n,Nat.le_refl _,by rw [bG]<;>omega,rfl,by simp [le]⟩,?_⟩;intro x i m h' ⟨e1,j,e2,e3,e4,e5⟩;subst e1 e3 e4 e5;refine aG (λc=>?_) λc=>?_
  ·have c:0<=(m:Int)-1:=by simpa using c
   obtain ⟨j,rfl⟩:∃ j,m=j+1:=⟨m-1,by omega⟩;have hj:((j+1:Nat):Int)-1=j:=by omega
   rw [hj];have hb:=lG ok.byte (n-(j+1)) (a+((j+1:Nat):Int))
   have hb2:(256:Int) ^ (n-(j+1))<=72057594037927936:=by
    have h1:n-(j+1)<=7:=by omega
    have h2:(256:Nat) ^ (n-(j+1))<=256 ^ 7:=Nat.pow_le_pow_right (by omega) h1;have h3:((256:Nat) ^ (n-(j+1)):Nat)<=(72057594037927936:Nat):=h2;have h4:(((256:Nat) ^ (n-(j+1)):Nat):Int)<=72057594037927936:=by omega
    simpa using h4
   refine ⟨λy h''=>h''=h'/\y=le M (a+(j:Int)) (n-j),?_,?_⟩
   ·intro y h'' ⟨g1,g2⟩;subst g1 g2;exact ⟨j,by omega,rfl,j,by omega,by rw [bG]<;>omega,rfl,rfl⟩
   have hat:IntKind.wrap .u64 (a+IntKind.wrap .u64 (j:Int))=a+j:=by rw [cQ (n:=(j:Int)) (by omega) (by omega),cQ]<;>omega
   have hpage:IntKind.wrap .i64 (IntKind.wrap .u64 (Int.tdiv (a+j) 4096))=(a+j) / 4096:=by
    rw [jE (by omega),cQ (by omega) (by omega),bG (by omega) (by omega)]
   have hstep:le M (a+j) (n-j)=M (a+j)+256*le M (a+((j+1:Nat):Int)) (n-(j+1)):=by
    rw [show n-j=(n-(j+1))+1 by omega];simp only [le];rw [show a+(j:Int)+1=a+((j+1:Nat):Int) by omega]
   rw [hat,hpage,oU (by omega)];show aM (Addr.add ⟨r,0,none⟩ 2) h' _;rw [add_at];refine dY (i:=0) ho rfl rfl ?_;refine kD (i:=2) ho rfl ?_;rw [zG];have hmod:0<=(a+(j:Int)) % 4096/\(a+(j:Int)) % 4096<4096:=by omega
   cases hp:pm.lookup ((a+j) / 4096) with
   | none=>
    refine ⟨none,rfl,bsel_f rfl ⟨rfl,?_⟩⟩;have h0:=ok.zero (a+j) (by omega) (sU hp);rw [hstep,h0,cQ (by omega) (by omega)];omega
   | some b=>
    refine ⟨some ⟨b,0,none⟩,rfl,aN rfl ?_⟩;refine inB_in hmod.1 (by omega) ?_;obtain ⟨q,hq1,hq2⟩:=aBg (M:=M) (uO hp);rw [add_at];refine ld_I (i:=q+3) (o:=0+((a+(j:Int)) % 4096).toNat*1) ho hq2 (n:=M (a+j)) ?_ ⟨rfl,?_⟩
    ·rw [Nat.zero_add,Nat.mul_one,zJ (by omega)];rw [show (a+(j:Int)) / 4096*4096+(((a+(j:Int)) % 4096).toNat:Nat)=a+j by omega]
    ·rw [hstep,pK hb.1 (by omega) (ok.byte _).1 (ok.byte _).2]
  ·have:m=0:=by simp at c;omega
   subst this;simpa using hk
theorem aKb {pm:Pm} {f:Int} {b:Nat} (h:pm.lookup f=none):putM (nN pm) f (.pointer (some ⟨b,0,none⟩))=nN (pm++[(f,b)]):=by
 induction pm with
 | nil=>rfl
 | cons p pm ih=>
  simp only [List.lookup] at h;split at h
  ·cases h
  ·rename_i g;have g2:¬ p.1=f:=λq=>by simp [q] at g
   show putM ((p.1,_)::nN pm) f _=_;simp only [putM,if_neg g2,ih h];rfl
theorem aED {f:Int} {pm:Pm} (ok:aAn M pm) (hf:0<=f) (h:f ∉ pm.map (·.1)):aZ M f=List.replicate 4096 (.int .u8 0):=by
 refine List.eq_replicate_iff.2 ⟨by simp [aZ],λv hv=>?_⟩;simp only [aZ,List.mem_map,List.mem_range] at hv;obtain ⟨j,hj,rfl⟩:=hv;rw [ok.zero (f*4096+j) (by omega) (by rw [show (f*4096+(j:Int)) / 4096=f by omega];exact h)]
theorem aHn {R:List SP} {s:Sl} {mb:Nat} {pm:Pm} {f:Int} {Q:Option Addr->AH->Prop} (h:Own (tK r fr hs s mb M pm++R) A) (ok:aAn M pm) (hf:0<=f)
  (hk:∀ pm' b A',aAn M pm'->(f,b) ∈ pm'->Own (tK r fr hs s mb M pm'++R) A'->Q (some ⟨b,0,none⟩) A'):qbo_A (some ⟨r,0,none⟩) f Q A:=by
 unfold qbo_A;show aM (Addr.add ⟨r,0,none⟩ 2) A _;rw [add_at];refine dY (i:=0) h rfl rfl ?_;refine kD (i:=2) h rfl ?_;rw [zG];cases hp:pm.lookup f with
 | some b=>exact ⟨some ⟨b,0,none⟩,rfl,λp h'=>p=some ⟨b,0,none⟩/\h'=A,λp h' ⟨e1,e2⟩=>by subst e1 e2;exact hk pm b _ ok (uO hp) h,⟨rfl,rfl⟩⟩
 | none=>
  refine ⟨none,rfl,Q,λ_ _ q=>q,?_⟩;refine aN rfl ?_;rw [<-List.toArray_replicate];refine aX h λb A' h'=>?_;show aM (Addr.add ⟨r,0,none⟩ 2) A' _;rw [add_at];refine dY (i:=1) h' rfl rfl ?_;refine aGQ (i:=3) h' rfl λA2 h2=>?_;have hn:=sU hp;refine hk (pm++[(f,b)]) b A2 ⟨?_,ok.byte,?_⟩ (by simp) ?_
  ·rw [List.map_append,List.nodup_append];refine ⟨ok.nodup,by simp,?_⟩;intro x hx y hy;simp at hy;subst hy;exact λq=>hn (q ▸ hx)
  ·intro a h0 h1;exact ok.zero a h0 λq=>h1 (by simp at q ⊢;exact .inl q)
  ·rw [aKb hp] at h2;rw [<-aED ok hf hn] at h2;refine h2.perm ?_;show List.Perm (At b (aZ M f)::(_::_::_::(bP M pm++R))) (_::_::_::(bP M (pm++[(f,b)])++R));have:bP M (pm++[(f,b)])++R=bP M pm++At b (aZ M f)::R:=by simp [bP]
   rw [this];exact (List.perm_middle (l₁:=_::_::_::bP M pm) (l₂:=R)).symm
def jK (M:Int->Int) (a:Int) (n:Nat) (x:Int):Int->Int:=λc=>if a<=c/\c<a+n then x / 2 ^ (8*(c-a).toNat) % 256 else M c
def upM (M:Int->Int) (a v:Int):Int->Int:=λc=>if c=a then v else M c
theorem aBG {a x:Int} {j:Nat}:upM (jK M a j x) (a+j) (x / 2 ^ (8*j) % 256)=jK M a (j+1) x:=by
 funext c;unfold upM jK;by_cases e:c=a+j
 ·subst e;rw [if_pos rfl,if_pos ⟨by omega,by omega⟩,show (a+(j:Int)-a).toNat=j by omega]
 ·rw [if_neg e];by_cases g:a<=c/\c<a+j
  ·rw [if_pos g,if_pos ⟨g.1,by omega⟩]
  ·rw [if_neg g,if_neg (by omega)]
theorem aEj {pm:Pm} {q:Nat} {f:Int} {b:Nat} {j:Nat} {v:Int} (nd:(pm.map (·.1)).Nodup) (hq:pm[q]? = some (f,b)) (hj:j<4096) :
  (bP M pm).set q (At b ((aZ M f).set j (.int .u8 v)))=bP (upM M (f*4096+j) v) pm:=by
 apply List.ext_getElem?;intro i;have hql:=(List.getElem?_eq_some_iff.1 hq).1;rw [List.getElem?_set];by_cases e:q=i
 ·subst e;rw [aF9 hj];simp only [if_true,bP,List.length_map,hql,List.getElem?_map,hq,Option.map_some];rfl
 ·rw [if_neg e];simp only [bP,List.getElem?_map];cases hc:pm[i]? with
  | none=>simp only [Option.map_none]
  | some p=>
   simp only [Option.map_some]
   have hne:p.1≠f:=by
    intro g;have h1:(pm.map (·.1))[i]? = some f:=by simp [hc,g]
    have h2:(pm.map (·.1))[q]? = some f:=by simp [hq]
    obtain ⟨i1,e1⟩:=List.getElem?_eq_some_iff.1 h1;obtain ⟨q1,e2⟩:=List.getElem?_eq_some_iff.1 h2;have hp:=List.pairwise_iff_getElem.1 nd;rcases Nat.lt_trichotomy i q with g | g | g
    ·exact hp i q i1 q1 g (by rw [e1,e2])
    ·exact e g.symm
    ·exact hp q i q1 i1 g (by rw [e1,e2])
   rw [show aZ (upM M (f*4096+j) v) p.1=aZ M p.1 from aCi hj hne]
theorem aAn.up {pm:Pm} (ok:aAn M pm) {a v:Int} (hv:0<=v/\v<256) (ha:a / 4096 ∈ pm.map (·.1)):aAn (upM M a v) pm where
 nodup:=ok.nodup
 byte c:=by
  unfold upM;split
  ·exact hv
  ·exact ok.byte c
 zero c h0 h1:=by
  unfold upM;rw [if_neg (λ(q:c=a)=>h1 (by rw [q];exact ha))];exact ok.zero c h0 h1
theorem oC {R:List SP} {a x:Int} {n:Nat} {Q:Int->AH->Prop} (h:Own (RamS r fr hs M::R) A) (hl:hs.length<=64) (hf:0<=fr/\fr<=1048576) (hz:n=1\/n=2\/n=4\/n=8)
  (ha:0<=a/\a<18446744073709551616) (hn:okA fr hs a n=false->Q 2 A) (hk:okA fr hs a n=true->∀ A',Own (RamS r fr hs (jK M a n x)::R) A'->Q 0 A'):qbp_A (some ⟨r,0,none⟩) a n x Q A:=by
 unfold qbp_A qbp_G;refine wB (i:=0) h rfl hl hf (by omega) ha ?_;cases hok:okA fr hs a n with
 | false=>exact aN rfl (hn hok)
 | true=>
  refine bsel_f rfl ?_;have hle:a+n<=fr*4096:=by simp [okA] at hok;omega
  refine ⟨λi m h'=>∃ j:Nat,i=j/\j<=n/\m=n-j/\Own (RamS r fr hs (jK M a j x)::R) h',⟨n,0,rfl,by omega,by omega,?_⟩,?_⟩
  ·have:jK M a 0 x=M:=by funext c;unfold jK;rw [if_neg (by omega)]
   rw [this];exact h
  intro i m h' ⟨j,e1,e2,e3,ho⟩;subst e1 e3;refine aG (λc=>?_) λc=>?_
  ·have c:j<n:=by simpa using c
   have h8:IntKind.wrap .i64 (8*(j:Int))=8*j:=bG (by omega) (by omega);rw [h8];refine bsel_f (by simp;omega) ?_;have hat:IntKind.wrap .u64 (a+IntKind.wrap .u64 (j:Int))=a+j:=by rw [cQ (n:=(j:Int)) (by omega) (by omega),cQ]<;>omega
   have hpage:IntKind.wrap .i64 (IntKind.wrap .u64 (Int.tdiv (a+j) 4096))=(a+j) / 4096:=by
    rw [jE (by omega),cQ (by omega) (by omega),bG (by omega) (by omega)]
   rw [hat,hpage,oU (by omega)];obtain ⟨s,ho⟩:=ho.ex;obtain ⟨mb,ho⟩:=ho.ex;obtain ⟨pm,ho⟩:=ho.ex;obtain ⟨ok,ho⟩:=ho.pure;refine aHn ho.flat ok (by omega) λpm' b A' ok' hb ho'=>?_;obtain ⟨q,hq1,hq2⟩:=aBg (M:=jK M a j x) hb;have hql:=(List.getElem?_eq_some_iff.1 hq1).1;refine inB_in (by omega) (by omega) ?_;rw [add_at]
   have hv:IntKind.wrap .u8 (Int.fdiv x (2 ^ (min (Int.toNat (8*(j:Int))) 64)))=x / 2 ^ (8*j) % 256:=by
    rw [wu8,show min (Int.toNat (8*(j:Int))) 64=8*j by omega,Int.fdiv_eq_ediv_of_nonneg _ (Int.pow_nonneg (by omega))]
   rw [hv]
   have hi:(tK r fr hs s mb (jK M a j x) pm'++R)[q+3]? = some (At b (aZ (jK M a j x) ((a+j) / 4096))):=by
    show (bP (jK M a j x) pm'++R)[q]? = _;rw [List.getElem?_append_left (by simp [bP];exact hql)];exact hq2
   refine aJ (i:=q+3) ho' hi ?_ rfl λA2 h2=>?_
   ·rw [Nat.zero_add,Nat.mul_one,zJ (by omega)];rfl
   refine ⟨n-(j+1),by omega,j+1,by rw [bG]<;>omega,by omega,rfl,?_⟩;rw [Nat.zero_add,Nat.mul_one] at h2
   have hset:(tK r fr hs s mb (jK M a j x) pm'++R).set (q+3) (At b ((aZ (jK M a j x) ((a+j) / 4096)).set ((a+(j:Int)) % 4096).toNat (.int .u8 (x / 2 ^ (8*j) % 256))))=tK r fr hs s mb (jK M a (j+1) x) pm'++R:=by
    show _::_::_::(bP (jK M a j x) pm'++R).set q _=_::_::_::(bP (jK M a (j+1) x) pm'++R);rw [List.set_append_left _ _ (by simp [bP];exact hql),aEj ok'.nodup hq1 (by omega)];rw [show (a+(j:Int)) / 4096*4096+(((a+(j:Int)) % 4096).toNat:Nat)=a+j by omega,aBG]
   rw [hset] at h2
   have ok2:aAn (jK M a (j+1) x) pm':=by
    rw [<-aBG];exact ok'.up (by omega) (List.mem_map.2 ⟨_,hb,rfl⟩)
   refine Own.imp (P:=Own (tK r fr hs s mb (jK M a (j+1) x) pm')) (λB hB=>⟨s,mb,pm',ok2,hB⟩) ?_;exact Own.app h2
  ·have:j=n:=by simp at c;omega
   subst this;exact hk hok _ ho
end Go.Dn
namespace Go.Dn
def qZ (x:Int):Prop:=0<=x/\x<18446744073709551616
def aO (x:Int) (k:Nat):Int:=x / 2 ^ k % 512
def cF (x:Int):Int:=x / 4096 % 1048576
def wT (x:Int):Bool:=(x / 2 ^ 47==0) || (x / 2 ^ 47==131071)
def lD (x:Int) (level:Int):Bool:=bitZ x 0&&((x / 2 ^ 32 % 1048576 != 0) || if level>=3 then bitZ x 7 else (level==2&&bitZ x 7&&(x / 2 ^ 12 % 512 != 0)))
variable {A:AH} {l:List SP}
theorem vF {x:Int} {Q:Bool->AH->Prop} (hk:Q (wT x) A):qdv_A x Q A:=by
 unfold qdv_A;rw [lE];unfold wT at hk;refine aG (λc=>?_) λc=>?_
 ·rw [c] at hk;exact hk
 ·rw [c] at hk;exact hk
theorem aL7 {x:Int} (k:Nat) (hx:qZ x):(bits .and .u64 (x / 2 ^ k) 1==(1:Int))=bitZ x k:=by
 have:=jH k hx.1 hx.2;rw [aLW this.1 this.2];rfl
theorem aLt {x:Int} (hx:qZ x):(bits .and .u64 x 1==(0:Int)) = !bitZ x 0:=by
 rw [aLW hx.1 hx.2];unfold bitZ;rcases Int.emod_two_eq x with h | h<;>simp [h]
theorem xA {x lv:Int} {Q:Bool->AH->Prop} (hx:qZ x) (hk:Q (lD x lv) A):qdx_A x lv Q A:=by
 unfold qdx_A;simp only [lE];rw [aLt hx,aL7 7 hx];have h32:=jH 32 hx.1 hx.2;have h12:=jH 12 hx.1 hx.2;rw [aJo h32.1 h32.2,aFU h12.1 h12.2];unfold lD at hk;generalize (x / 2 ^ 32 % 1048576 != 0)=u at *;generalize (x / 2 ^ 12 % 512 != 0)=v at *;refine aG (λc=>?_) λc=>?_
 ·simp at c;simpa [c] using hk
 simp at c;refine aG (λc2=>?_) λc2=>?_
 ·simpa [c,c2] using hk
 refine aG (λc3=>?_) λc3=>?_
 ·simp at c3;simpa [c,c2,c3] using hk
 simp at c3;have c3':¬ (3<=lv):=by omega
 refine aG (λc4=>?_) λc4=>?_
 ·refine aG (λc5=>?_) λc5=>?_
  ·simpa [c,c2,c3',c4,c5] using hk
  ·simpa [c,c2,c3',c4,c5] using hk
 ·simpa [c,c2,c3',c4] using hk
def iA (x:Int) (j:Nat):List Value:=(List.range 4).map λi=>.int .i64 (if i<j then aO x (39-9*i) else 0)
theorem uG {x:Int} {Q:Int->Int->Int->Int->Int->AH->Prop} (hx:qZ x) (h:Own l A) (hk:∀ A',Own l A'->Q (aO x 39) (aO x 30) (aO x 21) (aO x 12) (x % 4096) A'):qdl_A x Q A:=by
 unfold qdl_A;refine aX (cs:=iA x 0) h λb A1 h1=>?_;refine ⟨λi m h'=>∃ j:Nat,i=j/\j<=4/\m=4-j/\Own (At b (iA x j)::l) h',⟨4,0,rfl,by omega,rfl,h1⟩,?_⟩;intro i m h' ⟨j,e1,e2,e3,ho⟩;subst e1 e3;refine aG (λc=>?_) λc=>?_
 ·have c:j<4:=by simp at c;omega
  have h9:IntKind.wrap .i64 (39-IntKind.wrap .i64 (9*(j:Int)))=((39-9*j:Nat):Int):=by
   rw [bG (n:=9*(j:Int)) (by omega) (by omega),bG (by omega) (by omega)];omega
  rw [h9];refine bsel_f (by simp) ?_;refine inB_in (by omega) (by omega) ?_;rw [add_at];have hb:=jH (39-9*j) hx.1 hx.2
  have hv:IntKind.wrap .i64 (bits .and .u64 (Int.fdiv x (2 ^ (min (Int.toNat ((39-9*j:Nat):Int)) 64))) 511)=aO x (39-9*j):=by
   rw [lE,show min (Int.toNat ((39-9*j:Nat):Int)) 64=39-9*j by omega,aFU hb.1 hb.2];exact bG (by omega) (by omega)
  rw [hv];refine aJ (i:=0) ho rfl ?_ rfl λA2 h2=>?_
  ·simp [iA];omega
  refine ⟨4-(j+1),by omega,j+1,by rw [bG]<;>omega,by omega,rfl,?_⟩
  have hs:(iA x j).set (0+Int.toNat (j:Int)*1) (.int .i64 (aO x (39-9*j)))=iA x (j+1):=by
   obtain rfl | rfl | rfl | rfl:j=0\/j=1\/j=2\/j=3:=by omega
   all_goals rfl
  rw [hs] at h2;exact h2
 ·have:j=4:=by simp at c;omega
  subst this;rw [aIw hx.1 hx.2,bG (n:=x % 4096) (by omega) (by omega)];simp only [add_at];refine ld_I (i:=0) ho rfl rfl ?_;refine ld_I (i:=0) ho rfl rfl ?_;refine ld_I (i:=0) ho rfl rfl ?_;refine ld_I (i:=0) ho rfl rfl ?_;exact hk _ ho.tail
def placeN:Nat->Nat | 0=>0 | 1=>1 | 2=>2 | 3=>5 | 4=>6 | 5=>7 | 6=>8 | _=>63
def kM (x:Int) (j:Nat):List Value:=((List.range 8).map λi=>.bool (decide (i<j)&&bitZ x (placeN i)))++[.int .i64 (cF x)]
theorem mB {x:Int} {Q:Bool->Bool->Bool->Bool->Bool->Bool->Bool->Bool->Int->AH->Prop} (hx:qZ x) (h:Own l A)
  (hk:∀ A',Own l A'->Q (bitZ x 0) (bitZ x 1) (bitZ x 2) (bitZ x 5) (bitZ x 6) (bitZ x 7) (bitZ x 8) (bitZ x 63) (cF x) A'):qdo_A x Q A:=by
 unfold qdo_A qdo_G;refine aX (cs:=[.bool false,.bool false,.bool false,.bool false,.bool false,.bool false,.bool false,.bool false,.int .i64 0]) h λb A1 h1=>?_;have hb:=jH 12 hx.1 hx.2;rw [lE,aJo hb.1 hb.2,bG (n:=x / 2 ^ 12 % 1048576) (by omega) (by omega)];simp only [add_at]
 iterate 9 refine aJ (i:=0) h1 rfl rfl rfl λA1 h1=>?_
 unfold qbj_A;simp only [aF,add_at];refine ⟨λi m h'=>∃ j:Nat,i=j/\j<=8/\m=8-j/\Own (At b (kM x j)::l) h',⟨8,0,rfl,by omega,rfl,h1⟩,?_⟩;intro i m h' ⟨j,e1,e2,e3,ho⟩;subst e1 e3;refine aG (λc=>?_) λc=>?_
 ·have c:j<8:=by simp at c;omega
  refine inB_in (by omega) (by omega) ?_
  have hp:([.pointer (some ⟨b,0,none⟩),.pointer (some ⟨b,0+1,none⟩),.pointer (some ⟨b,0+2,none⟩),.pointer (some ⟨b,0+3,none⟩),.pointer (some ⟨b,0+4,none⟩),.pointer (some ⟨b,0+5,none⟩),.pointer (some ⟨b,0+6,none⟩),.pointer (some ⟨b,0+7,none⟩)]:List Value)[Int.toNat (j:Int)]? = some (.pointer (some ⟨b,j,none⟩)):=by
   obtain rfl | rfl | rfl | rfl | rfl | rfl | rfl | rfl:j=0\/j=1\/j=2\/j=3\/j=4\/j=5\/j=6\/j=7:=by omega
   all_goals rfl
  refine ⟨_,hp,?_⟩;unfold qbk_A;refine inB_in (by omega) (by omega) ?_
  have hq:([.int .i64 0,.int .i64 1,.int .i64 2,.int .i64 5,.int .i64 6,.int .i64 7,.int .i64 8,.int .i64 63]:List Value)[Int.toNat (j:Int)]? = some (.int .i64 (placeN j)):=by
   obtain rfl | rfl | rfl | rfl | rfl | rfl | rfl | rfl:j=0\/j=1\/j=2\/j=3\/j=4\/j=5\/j=6\/j=7:=by omega
   all_goals rfl
  refine ⟨_,hq,bsel_f (by simp) ?_⟩
  have hpl:placeN j<=63:=by
   obtain rfl | rfl | rfl | rfl | rfl | rfl | rfl | rfl:j=0\/j=1\/j=2\/j=3\/j=4\/j=5\/j=6\/j=7:=by omega
   all_goals decide
  rw [lE,show min (Int.toNat (placeN j:Int)) 64=placeN j by omega,aL7 _ hx];refine aJ (i:=0) ho rfl ?_ rfl λA2 h2=>?_
  ·simp [kM];omega
  refine ⟨8-(j+1),by omega,j+1,by rw [bG]<;>omega,by omega,rfl,?_⟩
  have hs:(kM x j).set j (.bool (bitZ x (placeN j)))=kM x (j+1):=by
   obtain rfl | rfl | rfl | rfl | rfl | rfl | rfl | rfl:j=0\/j=1\/j=2\/j=3\/j=4\/j=5\/j=6\/j=7:=by omega
   all_goals rfl
  rw [hs] at h2;exact h2
 ·have:j=8:=by simp at c;omega
  subst this
  iterate 8 refine aY (i:=0) ho rfl rfl ?_
  refine ld_I (i:=0) ho rfl rfl ?_;exact hk _ ho.tail
theorem aAf {x:Int} (n:Nat):x % 2 ^ (n+1)=x % 2 ^ n+2 ^ n*(x / 2 ^ n % 2):=by
 have hp:(0:Int)<2 ^ n:=Int.pow_pos (by omega);rw [Int.pow_succ];have h1:=Int.mul_ediv_add_emod x (2 ^ n);have h2:=Int.mul_ediv_add_emod (x / 2 ^ n) 2;have h3:=Int.emod_nonneg x (show (2:Int) ^ n≠0 by omega);have h4:=Int.emod_lt_of_pos x hp;have h5:=Int.emod_two_eq (x / 2 ^ n)
 have hx:x=(2 ^ n*2)*(x / 2 ^ n / 2)+(x % 2 ^ n+2 ^ n*(x / 2 ^ n % 2)):=by
  rw [Int.mul_assoc,<- Int.add_assoc,Int.add_right_comm,<- Int.mul_add,h2,h1]
 have hb:0<=x % 2 ^ n+2 ^ n*(x / 2 ^ n % 2)/\x % 2 ^ n+2 ^ n*(x / 2 ^ n % 2)<2 ^ n*2:=by
  rcases h5 with h5 | h5<;>rw [h5]<;>omega
 conv=>lhs;rw [hx]
 rw [Int.add_comm,Int.add_mul_emod_self_left];exact Int.emod_eq_of_lt hb.1 hb.2
theorem aHs (x:Int) (k:Nat):(if bitZ x k then 1 else 0:Int)=x / 2 ^ k % 2:=by
 unfold bitZ;rcases Int.emod_two_eq (x / 2 ^ k) with h | h<;>simp [h]
end Go.Dn
namespace Go.Dn
variable {A:AH} {l:List SP} {r:Nat} {fr:Int} {hs:List (Int × Int)} {M:Int->Int}
theorem RamS.byte {i:Nat} (h:Own l A) (e:l[i]? = some (RamS r fr hs M)):∀ a,0<=M a/\M a<256:=by
 obtain ⟨s,mb,pm,ok,_⟩:=RamS.open h e;exact ok.byte
theorem aGJ {i:Nat} {a x:Int} {n:Nat} {Q:Int->AH->Prop} (h:Own l A) (e:l[i]? = some (RamS r fr hs M)) (hl:hs.length<=64) (hf:0<=fr/\fr<=1048576) (hz:n=1\/n=2\/n=4\/n=8)
  (ha:0<=a/\a<18446744073709551616) (hn:okA fr hs a n=false->Q 2 A) (hk:okA fr hs a n=true->∀ A',Own (l.set i (RamS r fr hs (jK M a n x))) A'->Q 0 A'):qbp_A (some ⟨r,0,none⟩) a n x Q A:=
 oC (h.pick i e) hl hf hz ha hn λok A' h'=>hk ok A' (Own.back i e h')
theorem qM {i:Nat} (h:Own l A) (e:l[i]? = some (RamS r fr hs M)) (a:Int):qZ (le M a 8):=by
 have:=lG (RamS.byte h e) 8 a;exact ⟨this.1,this.2⟩
theorem o6 {M N:Int->Int}:∀ (n:Nat) (a:Int),(∀ c,a<=c->c<a+n->M c=N c)->le M a n=le N a n
 | 0,_,_=>rfl
 | n+1,a,h=>by
  simp only [le];rw [h a (by omega) (by omega),o6 n (a+1) λc h1 h2=>h c (by omega) (by omega)]
theorem wQ (x:Int):∀ (n k:Nat) (N:Int->Int) (a:Int),(∀ j:Nat,j<n->N (a+j)=x / 2 ^ (8*(k+j)) % 256)->le N a n=x / 2 ^ (8*k) % 256 ^ n
 | 0,k,N,a,h=>by simp [le,Int.emod_one]
 | n+1,k,N,a,h=>by
  simp only [le];have h0:=h 0 (by omega);rw [Int.natCast_zero,Int.add_zero,Nat.add_zero] at h0;rw [h0,wQ x n (k+1) N (a+1) λj hj=>by rw [<-show a+((j+1:Nat):Int)=a+1+j by omega,h (j+1) (by omega),show k+(j+1)=k+1+j by omega]];rw [show 8*(k+1)=8*k+8 by omega,Int.pow_add,<- Int.ediv_ediv_of_nonneg (Int.pow_nonneg (by omega))];generalize x / 2 ^ (8*k)=z;rw [Int.pow_succ];show z % 256+256*(z / 256 % 256 ^ n)=z % (256 ^ n*256)
  have h3:z / 256 % 256 ^ n=z / 256-256 ^ n*(z / 256 / 256 ^ n):=by
   have:=Int.mul_ediv_add_emod (z / 256) (256 ^ n);omega
  have h4:z % (256 ^ n*256)=z-256 ^ n*256*(z / (256 ^ n*256)):=by
   have:=Int.mul_ediv_add_emod z (256 ^ n*256);omega
  rw [h3,h4,Int.ediv_ediv_of_nonneg (by omega),Int.mul_comm 256 (256 ^ n:Int)];generalize z / (256 ^ n*256)=w;have:256 ^ n*256*w=256*(256 ^ n*w):=by rw [Int.mul_comm (256 ^ n:Int) 256,Int.mul_assoc]
  omega
theorem aIE (M:Int->Int) (a x:Int) (n:Nat) (hx:0<=x) (hx2:x<256 ^ n):le (jK M a n x) a n=x:=by
 have:=wQ x n 0 (jK M a n x) a λj hj=>by
  unfold jK;rw [if_pos ⟨by omega,by omega⟩,show (a+(j:Int)-a).toNat=0+j by omega]
 rw [this];simp;exact Int.emod_eq_of_lt hx hx2
theorem qG (M:Int->Int) (a b x:Int) (n m:Nat) (h:b+m<=a\/a+n<=b):le (jK M a n x) b m=le M b m:=
 o6 m b λc h1 h2=>by
  unfold jK;rw [if_neg (by omega)]
theorem aI7 {M:Int->Int} (hb:∀ a,0<=M a/\M a<256):∀ (n:Nat) (a:Int),jK M a n (le M a n)=M:=by
 intro n a;funext c;unfold jK;by_cases g:a<=c/\c<a+n
 ·rw [if_pos g];obtain ⟨j,rfl⟩:∃ j:Nat,c=a+j:=⟨(c-a).toNat,by omega⟩;rw [show (a+(j:Int)-a).toNat=j by omega]
  have key:∀ (j n:Nat) (a:Int),j<n->le M a n / 2 ^ (8*j) % 256=M (a+j):=by
   intro j
   induction j with
   | zero=>
    intro n a hn;obtain ⟨n,rfl⟩:∃ k,n=k+1:=⟨n-1,by omega⟩;have:=hb a;simp only [le];simp;omega
   | succ j ih=>
    intro n a hn;obtain ⟨n,rfl⟩:∃ k,n=k+1:=⟨n-1,by omega⟩;have h1:=hb a;rw [show 8*(j+1)=8+8*j by omega,Int.pow_add,<- Int.ediv_ediv_of_nonneg (by simp)]
    have:le M a (n+1) / 2 ^ 8=le M (a+1) n:=by
     simp only [le];show (M a+256*le M (a+1) n) / 256=_;omega
    rw [this,ih n (a+1) (by omega),show a+1+(j:Int)=a+((j+1:Nat):Int) by omega]
  exact key j n a (by omega)
 ·rw [if_neg g]
theorem aHl {a x:Int} {n:Nat} (hb:∀ a,0<=M a/\M a<256):∀ c,0<=jK M a n x c/\jK M a n x c<256:=by
 intro c;unfold jK;split
 ·omega
 ·exact hb c
end Go.Dn
namespace Go.Dn
def SlO (s:Sl) (sz:Nat) (cs:List Value):SP:=λB=>(s.len*sz=cs.length/\s.len<=s.cap)/\
 (s.cap=0\/∃ b rest,s.a=some ⟨b,0,none⟩/\(cs++rest).length=s.cap*sz/\At b (cs++rest) B)
theorem SlO.nil {sz:Nat} {B:AH}:SlO Sl.nil sz [] B:=⟨⟨by simp [Sl.nil],Nat.le_refl _⟩,.inl rfl⟩
theorem SlO.look {s:Sl} {sz:Nat} {cs:List Value} {B:AH} (h:SlO s sz cs B):dK s sz cs B:=by
 obtain ⟨⟨h1,h2⟩,h3⟩:=h;refine ⟨h1,h2,λhne=>?_⟩;rcases h3 with h3 | ⟨b,rest,h3,h4,h5⟩
 ·have:s.len=0:=by omega
  rw [this] at h1;exact absurd (List.length_eq_zero_iff.1 (by omega)) hne
 ·exact ⟨b,[],rest,h3,by simpa using h5⟩
variable {A:AH} {l R:List SP}
theorem iC {b o:Nat}:∀ (vs:List Value) (n:Nat) (A:AH) (pre mid post:List Value) (K:AP),Own (At b (pre++mid++post)::R) A->mid.length=vs.length->o+n=pre.length->(∀ v ∈ vs,v.oneCell'=true)->
  (∀ A',Own (At b (pre++vs++post)::R) A'->K A')->qU vs ⟨b,o,none⟩ n A K
 | [],n,A,pre,mid,post,K,h,hm,ho,hv,hk=>by
  have:mid=[]:=List.length_eq_zero_iff.1 hm;subst this;exact hk A h
 | v::vs,n,A,pre,mid,post,K,h,hm,ho,hv,hk=>by
  cases mid with
  | nil=>simp at hm
  | cons m mid=>
   simp at hm;show aC (Addr.add ⟨b,o,none⟩ n) v A _;rw [add_at];refine aJ (i:=0) h rfl ?_ (hv v (by simp)) λA' h'=>?_
   ·rw [ho];simp
   have e:(pre++m::mid++post).set (o+n) v=(pre++[v])++mid++post:=by
    rw [ho,List.append_assoc,List.set_append_right _ _ (Nat.le_refl _)];simp
   rw [e] at h';refine iC vs (n+1) A' (pre++[v]) mid post K h' hm (by simp;omega) (λw hw=>hv w (by simp [hw])) λA2 h2=>hk A2 ?_;simpa using h2
theorem aDS {s:Sl} {sz:Nat} {cs:List Value} {B:AH} (h:dK s sz cs B) (u:lA B A) (hn:s.a=none->cs=[]):lC A s.a (s.len*sz) cs:=by
 cases hs:s.a with
 | none=>exact hn hs
 | some a=>
  refine ⟨h.1.symm,λi hi=>?_⟩;rw [h.1] at hi;obtain ⟨b,o,h1,h2⟩:=h.cell u (j:=i) (v:=cs[i]) (by simp [hi]);rw [hs] at h1;cases h1;exact ⟨cs[i],by simp [hi],by rw [add_at];exact h2⟩
theorem dF {z:Array Value} {n:Nat}:(Builtin.zeroCells z n).size=n*z.size:=by simp [Builtin.zeroCells]
theorem zR {s:Sl} {sz:Nat} {cs:List Value} (h:s.len*sz=cs.length/\∀ j v,cs[j]? = some v->∃ b o,s.a=some ⟨b,o,none⟩/\bM A ⟨b,o+j,none⟩=some v) (hn:s.a=none->cs=[]):lC A s.a (s.len*sz) cs:=by
 cases hs:s.a with
 | none=>exact hn hs
 | some a=>
  refine ⟨h.1.symm,λi hi=>?_⟩;rw [h.1] at hi;obtain ⟨b,o,h1,h2⟩:=h.2 i cs[i] (by simp [hi]);rw [hs] at h1;cases h1;exact ⟨cs[i],by simp [hi],by rw [add_at];exact h2⟩
theorem fD {b n cap sz:Nat} {cs rest:List Value} (hl:n*sz=cs.length):bI (At b (cs++rest)) ⟨some ⟨b,0,none⟩,n,cap⟩ sz cs:=λB A ⟨t,hB⟩ u=>⟨hl,λj v hv=>⟨b,0,rfl,by
 have:=u _ _ hB;have hj:=(List.getElem?_eq_some_iff.1 hv).1;simp only [bM,this,Nat.zero_add];simp only [Option.isSome_none,Bool.false_eq_true,if_false,List.getElem?_toArray];rw [List.getElem?_append_left hj];exact hv⟩⟩
theorem cN {P:SP} {s x:Sl} {sz bytes t i:Nat} {zc:Array Value} {c1 c2:List Value} {K:Sl->AP} (h:Own (SlO s sz c1::R) A) (e:R[i]? = some P) (hr:bI P x sz c2) (hx:x.a=none->c2=[]) (hs:s.a=none->c1=[])
  (hz:zc.size=sz) (hv:∀ v ∈ c2,v.oneCell'=true) (hlim:(s.len+x.len)*bytes<=140737488355328/\s.len+x.len<=9223372036854775807)
  (hk:∀ s' A',s'.len=s.len+x.len->(s'.a=none->c1++c2=[])->Own (SlO s' sz (c1++c2)::R) A'->K s' A'):jZ sz bytes zc t s x A K:=by
 obtain ⟨Bx,ux,hbx⟩:=Own.get (l:=SlO s sz c1::R) (i:=i+1) (by simpa using e) h;obtain ⟨Bs,us,hbs⟩:=h.sat;have hbx:=hr Bx A hbx ux;refine ⟨c2,zR hbx hx,λhle=>?_,λhlt=>?_⟩
 ·have hl1:=hbs.1.1;have hl2:=hbx.1;obtain ⟨hp,h2⟩:=h.pure;rcases Nat.eq_zero_or_pos s.cap with g | g
  ·-- nothing there and nothing to append
   have h0:s.len=0:=by omega
   have h1:x.len=0:=by omega
   rw [h0] at hl1;rw [h1] at hl2;have e1:c1=[]:=List.length_eq_zero_iff.1 (by omega);have e2:c2=[]:=List.length_eq_zero_iff.1 (by omega);subst e1 e2
   have hst:wX s.a (s.len*sz) [] A (K ⟨s.a,s.len+x.len,s.cap⟩)↔K ⟨s.a,s.len+x.len,s.cap⟩ A:=by
    cases s.a<;>exact Iff.rfl
   rw [hst];refine hk _ _ rfl (λ_=>rfl) ?_;exact Own.imp (P:=SlO s sz []) (λB hB=>⟨⟨by simp [h0,h1],by omega⟩,.inl g⟩) h
  ·have h3:Own ((λB=>∃ b rest,s.a=some ⟨b,0,none⟩/\(c1++rest).length=s.cap*sz/\At b (c1++rest) B)::R) A:=h2.imp λB hB=>by
    rcases hB with hB | hB
    ·omega
    ·exact hB
   obtain ⟨b,h3⟩:=h3.ex;obtain ⟨rest,h3⟩:=h3.ex;obtain ⟨ha,h3⟩:=h3.pure;obtain ⟨hc,h3⟩:=h3.pure;rw [ha];show qU c2 (Addr.add ⟨b,0,none⟩ (s.len*sz)) 0 A _;rw [add_at]
   have hroom:c2.length<=rest.length:=by
    rw [List.length_append] at hc;have:(s.len+x.len)*sz<=s.cap*sz:=Nat.mul_le_mul_right _ hle;rw [Nat.add_mul] at this;omega
   have hsplit:c1++rest=c1++rest.take c2.length++rest.drop c2.length:=by rw [List.append_assoc,List.take_append_drop]
   rw [hsplit] at h3;refine iC c2 0 A c1 (rest.take c2.length) (rest.drop c2.length) _ h3 (by simp;omega) (by simp;omega) hv λA' h'=>?_;refine hk _ _ rfl (λq=>by cases q) ?_;refine Own.imp (λB hB=>⟨⟨?_,hle⟩,.inr ⟨b,rest.drop c2.length,rfl,?_,hB⟩⟩) h'
   ·rw [Nat.add_mul,List.length_append];omega
   ·rw [<-hc];simp;omega
 ·have hl1:=hbs.1.1;have hl2:=hbx.1;refine ⟨c1,aDS hbs.look us hs,hlim.2,growslice_fits hlt hlim.1,λcap hcap=>?_⟩;intro b hb;have hsz:=dF (z:=zc) (n:=cap-(s.len+x.len));refine hk _ _ rfl (λq=>by cases q) ?_;refine Own.new (o:=_) (h.tail) hb λB hB=>⟨⟨?_,hcap⟩,.inr ⟨b,(Builtin.zeroCells zc (cap-(s.len+x.len))).toList,rfl,?_,t,?_⟩⟩
  ·rw [Nat.add_mul,List.length_append];omega
  ·simp only [List.length_append,Array.length_toList];rw [hsz,hz,<- hl1,<- hl2,<- Nat.add_mul,<- Nat.add_mul];congr 1;omega
  ·rw [hB];congr 2;apply Array.ext';simp
theorem kF {s x:Sl} {sz bytes t i:Nat} {zc:Array Value} {c1 c2:List Value} {K:Sl->AP} (h:Own (SlO s sz c1::R) A) (e:R[i]? = some (dK x sz c2)) (hx:x.a=none->c2=[]) (hs:s.a=none->c1=[])
  (hz:zc.size=sz) (hv:∀ v ∈ c2,v.oneCell'=true) (hlim:(s.len+x.len)*bytes<=140737488355328/\s.len+x.len<=9223372036854775807)
  (hk:∀ s' A',s'.len=s.len+x.len->(s'.a=none->c1++c2=[])->Own (SlO s' sz (c1++c2)::R) A'->K s' A'):jZ sz bytes zc t s x A K:=
 cN h e nT hx hs hz hv hlim hk
end Go.Dn
namespace Go.Dn
def cZ (aw au af:Bool):Int:=(if aw then 2 else 0)+(if au then 4 else 0)+(if af then 16 else 0)
def iJ (w u x aw au af:Bool):Bool:=!(aw&&!w)&&!(au&&!u)&&!(af&&!x)
inductive WOut where
 | err (e:Int)
 | fault (code:Int)
 | ok (frame:Int) (w u x g lg d:Bool) (places:List Int)
def placeZ (t a:Int) (lv:Nat):Int:=t*4096+8*aO a (12+9*lv)
def walkL (fr:Int) (hs:List (Int × Int)) (M:Int->Int) (a:Int) (aw au af:Bool):Nat->Int->Bool->Bool->Bool->List Int->WOut
 | 0,_,_,_,_,_=>.err 0
 | lv+1,t,w,u,x,ps=>
  if hasF fr hs t=false then .err 2
  else if bitZ (le M (placeZ t a lv) 8) 0=false then .fault (cZ aw au af)
  else if lD (le M (placeZ t a lv) 8) ((lv:Int)+1)=true then .fault (9+cZ aw au af)
  else if lv=0\/(lv=1/\bitZ (le M (placeZ t a lv) 8) 7=true) then
   if iJ (w&&bitZ (le M (placeZ t a lv) 8) 1) (u&&bitZ (le M (placeZ t a lv) 8) 2) (x&&!bitZ (le M (placeZ t a lv) 8) 63) aw au af=true then
    .ok (if lv=1 then cF (le M (placeZ t a lv) 8)+aO a 12 else cF (le M (placeZ t a lv) 8)) (w&&bitZ (le M (placeZ t a lv) 8) 1) (u&&bitZ (le M (placeZ t a lv) 8) 2) (x&&!bitZ (le M (placeZ t a lv) 8) 63)
     (bitZ (le M (placeZ t a lv) 8) 8) (lv==1) (bitZ (le M (placeZ t a lv) 8) 6 || aw) (ps++[placeZ t a lv])
   else .fault (1+cZ aw au af)
  else walkL fr hs M a aw au af lv (cF (le M (placeZ t a lv) 8)) (w&&bitZ (le M (placeZ t a lv) 8) 1) (u&&bitZ (le M (placeZ t a lv) 8) 2) (x&&!bitZ (le M (placeZ t a lv) 8) 63) (ps++[placeZ t a lv])
def or5 (x:Int):Int:=if bitZ x 5 then x else x+32
def or6 (x:Int):Int:=if bitZ x 6 then x else x+64
def eD (M:Int->Int) (wr:Bool):List Int->(Int->Int)
 | []=>M
 | p::ps=>eD (jK M p 8 (if wr&&ps.isEmpty then or6 (or5 (le M p 8)) else or5 (le M p 8))) wr ps
def aD8 (fr:Int) (hs:List (Int × Int)) (M:Int->Int) (root a:Int) (aw au af:Bool):WOut:=
 if wT a=false then .err 1 else if hasF fr hs root=false then .err 2 else walkL fr hs M a aw au af 4 root true true true []
variable {A:AH} {l:List SP} {r:Nat} {fr:Int} {hs:List (Int × Int)} {M:Int->Int}
theorem May_spec {w u x aw au af:Bool} {Q:Bool->AH->Prop} (hk:Q (iJ w u x aw au af) A):qdj_A w u x aw au af Q A:=by
 unfold qdj_A;cases w<;>cases u<;>cases x<;>cases aw<;>cases au<;>cases af<;>exact hk
def iE (r:Nat) (a:Int) (aw au af w u x:Bool):List Value:=[.pointer (some ⟨r,0,none⟩),.int .u64 a,.bool aw,.bool au,.bool af,.bool w,.bool u,.bool x]
theorem kH {b j:Nat} {a c:Int} {aw au af w u x:Bool} {Q:AH->Prop} {Kp:Value->AH->Prop} (hc:c=0\/c=1\/c=9) (h:Own l A) (e:l[j]? = some (At b (iE r a aw au af w u x)))
  (hk:Kp (.iface gI (.agg #[.int .u64 a,.int .i64 (c+cZ aw au af),.int .i64 9])) A):qdw_A (some ⟨b,0,none⟩) c Q Kp A:=by
 unfold qdw_A;refine ⟨λc1 h1=>h1=A/\c1=c+(if aw then 2 else 0),?_,?_⟩
 ·intro c1 h1 ⟨e1,e2⟩;subst e1;refine ⟨λc2 h2=>h2=h1/\c2=c1+(if au then 4 else 0),?_,?_⟩
  ·intro c2 h2 ⟨e3,e4⟩;subst e3;refine ⟨λc3 h3=>h3=h2/\c3=c2+(if af then 16 else 0),?_,?_⟩
   ·intro c3 h3 ⟨e5,e6⟩;subst e5 e6 e4 e2;refine ld_I (i:=j) h e rfl ?_;have:c+cZ aw au af=c+(if aw then 2 else 0)+(if au then 4 else 0)+(if af then 16 else 0):=by unfold cZ;omega
    rw [this] at hk;exact hk
   ·refine aY (i:=j) h e rfl ?_;cases af
    ·exact ⟨rfl,by simp⟩
    ·refine ⟨rfl,?_⟩;subst e4 e2;rcases hc with rfl | rfl | rfl<;>cases aw<;>cases au<;>decide
  ·refine aY (i:=j) h e rfl ?_;cases au
   ·exact ⟨rfl,by simp⟩
   ·refine ⟨rfl,?_⟩;subst e2;rcases hc with rfl | rfl | rfl<;>cases aw<;>decide
 ·refine aY (i:=j) h e rfl ?_;cases aw
  ·exact ⟨rfl,by simp⟩
  ·refine ⟨rfl,?_⟩;rcases hc with rfl | rfl | rfl<;>decide
theorem qN {t:Int} {at_:Int} (h0:0<=at_/\at_<512):okA fr hs (t*4096+8*at_) 8=hasF fr hs t:=by
 have h1:(t*4096+8*at_) / 4096=t:=by omega
 have h2:(t*4096+8*at_+8-1) / 4096=t:=by omega
 unfold okA;rw [h1,h2];cases h:hasF fr hs t with
 | false=>simp
 | true=>
  have:t<fr:=by
   unfold hasF at h;simp at h;omega
  simp;omega
theorem sJ {t a:Int} {lv:Nat} (ht:0<=t/\t<1048576):0<=aO a (12+9*lv)/\aO a (12+9*lv)<512/\0<=placeZ t a lv/\placeZ t a lv<4294967296:=by
 unfold placeZ aO;omega
theorem oM {t p:Int} (ht:0<=t/\t<1048576) (hp:0<=p/\p<512) :
  IntKind.wrap .u64 (IntKind.wrap .u64 (IntKind.wrap .u64 t*4096)+IntKind.wrap .u64 (IntKind.wrap .i64 (8*p)))=t*4096+8*p:=by
 rw [cQ (n:=t) (by omega) (by omega),cQ (n:=t*4096) (by omega) (by omega),bG (n:=8*p) (by omega) (by omega),cQ (n:=8*p) (by omega) (by omega),cQ (by omega) (by omega)]
theorem aCm {b i j lv:Nat} {t a at_ lev:Int} {aw au af w u x:Bool} {Q:Int->Int->AH->Prop} {Kp:Value->AH->Prop} (h:Own l A) (e1:l[i]? = some (RamS r fr hs M)) (e2:l[j]? = some (At b (iE r a aw au af w u x)))
  (hl:hs.length<=64) (hf:0<=fr/\fr<=1048576) (ht:0<=t/\t<1048576) (hat:at_=aO a (12+9*lv)) (hlev:lev=(lv:Int)+1)
  (h2:hasF fr hs t=false->Kp (.iface gI (.agg #[.int .u64 0,.int .i64 0,.int .i64 2])) A)
  (h0:hasF fr hs t=true->bitZ (le M (placeZ t a lv) 8) 0=false->Kp (.iface gI (.agg #[.int .u64 a,.int .i64 (cZ aw au af),.int .i64 9])) A)
  (h9:hasF fr hs t=true->bitZ (le M (placeZ t a lv) 8) 0=true->lD (le M (placeZ t a lv) 8) ((lv:Int)+1)=true->Kp (.iface gI (.agg #[.int .u64 a,.int .i64 (9+cZ aw au af),.int .i64 9])) A)
  (hk:hasF fr hs t=true->bitZ (le M (placeZ t a lv) 8) 0=true->lD (le M (placeZ t a lv) 8) ((lv:Int)+1)=false->∀ A',
   Own (l.set j (At b (iE r a aw au af (w&&bitZ (le M (placeZ t a lv) 8) 1) (u&&bitZ (le M (placeZ t a lv) 8) 2) (x&&!bitZ (le M (placeZ t a lv) 8) 63)))) A'->Q (le M (placeZ t a lv) 8) (placeZ t a lv) A') :
  qdy_A (some ⟨b,0,none⟩) t at_ lev Q Kp A:=by
 subst hat hlev;have hb:=sJ (a:=a) (lv:=lv) ht;have hjl:=(List.getElem?_eq_some_iff.1 e2).1;have hU:=qM h e1 (placeZ t a lv);unfold qdy_A qdy_G;refine cO (i:=j) h e2 rfl ?_;rw [oM ht ⟨hb.1,hb.2.1⟩];have hok:=qN (fr:=fr) (hs:=hs) (t:=t) (at_:=aO a (12+9*lv)) ⟨hb.1,hb.2.1⟩;refine mL (n:=8) h e1 hl hf (by omega) ⟨hb.2.2.1,Int.lt_trans hb.2.2.2 (by omega)⟩ ?_;have hok2:okA fr hs (t*4096+8*aO a (12+9*lv)) ((8:Nat):Int)=hasF fr hs t:=hok;rw [hok2];have hp:t*4096+8*aO a (12+9*lv)=placeZ t a lv:=rfl;rw [hp];generalize hx:le M (placeZ t a lv) 8=e at *;cases hh:hasF fr hs t with
 | false=>exact ⟨λ_=>False,λ_ q=>q.elim,aN rfl (h2 hh)⟩
 | true=>
  simp only [↓reduceIte];refine ⟨λh7=>h7=A,?_,bsel_f rfl rfl⟩;intro h7 q;subst q;refine ⟨λh12=>h12=h7/\bitZ e 0=true,?_,?_⟩
  ·intro h12 ⟨q1,q2⟩;subst q1;refine ⟨λh19=>h19=h12/\lD e ((lv:Int)+1)=false,?_,?_⟩
   ·intro h19 ⟨q3,q4⟩;subst q3;refine mB hU h λA3 h3=>?_;refine ⟨λh38=>Own (l.set j (At b (iE r a aw au af (w&&bitZ e 1) u x))) h38,?_,?_⟩
    ·intro h38 g38;refine ⟨λh46=>Own (l.set j (At b (iE r a aw au af (w&&bitZ e 1) (u&&bitZ e 2) x))) h46,?_,?_⟩
     ·intro h46 g46;have e3:(l.set j (At b (iE r a aw au af (w&&bitZ e 1) (u&&bitZ e 2) x)))[j]? = some (At b (iE r a aw au af (w&&bitZ e 1) (u&&bitZ e 2) x)):=by simp [hjl]
      refine aY (i:=j) g46 e3 rfl ?_;refine aG (λc=>?_) λc=>?_
      ·refine aJ (i:=j) g46 e3 rfl rfl λA4 h4=>?_;rw [List.set_set] at h4;exact hk hh q2 q4 _ (by rw [c];exact h4)
      ·refine aJ (i:=j) g46 e3 rfl rfl λA4 h4=>?_;rw [List.set_set] at h4;exact hk hh q2 q4 _ (by rw [c];exact h4)
     ·have e3:(l.set j (At b (iE r a aw au af (w&&bitZ e 1) u x)))[j]? = some (At b (iE r a aw au af (w&&bitZ e 1) u x)):=by simp [hjl]
      refine aY (i:=j) g38 e3 rfl ?_;refine aG (λc=>?_) λc=>?_
      ·refine aJ (i:=j) g38 e3 rfl rfl λA4 h4=>?_;rw [List.set_set] at h4;rw [c];exact h4
      ·refine aJ (i:=j) g38 e3 rfl rfl λA4 h4=>?_;rw [List.set_set] at h4;rw [c];exact h4
    ·refine aY (i:=j) h3 e2 rfl ?_;refine aG (λc=>?_) λc=>?_
     ·refine aJ (i:=j) h3 e2 rfl rfl λA4 h4=>?_;rw [c];exact h4
     ·refine aJ (i:=j) h3 e2 rfl rfl λA4 h4=>?_;rw [c];exact h4
   ·refine xA hU ?_;refine aG (λc=>?_) λc=>⟨rfl,c⟩;exact kH (.inr (.inr rfl)) h e2 (h9 hh q2 c)
  ·rw [aLt hU];refine aG (λc=>?_) λc=>⟨rfl,by simpa using c⟩;refine kH (.inl rfl) h e2 ?_;rw [Int.zero_add];exact h0 hh (by simpa using c)
theorem aKo {x:Int} (hx:qZ x):bits .or .u64 x 32=or5 x:=aAg 5 32 rfl (by omega) hx.1 hx.2
theorem aK2 {x:Int} (hx:qZ x):bits .or .u64 x 64=or6 x:=aAg 6 64 rfl (by omega) hx.1 hx.2
theorem aAA {x:Int} (k:Nat) (m:Int) (hm:m=2 ^ k) (hk:k<=62) (hx:qZ x) (hb:bitZ x k=false):qZ (x+m):=by
 subst hm;have hv:=aHs x k;rw [hb] at hv;have hp:(0:Int)<2 ^ k:=Int.pow_pos (by omega);have h1:=hx.1;have h2:=hx.2;refine ⟨by omega,?_⟩
 -- the part above the bit is even, so there is room
 have h3:=aAf (x:=x) k;rw [<-hv] at h3;simp at h3;have h4:=Int.mul_ediv_add_emod x (2 ^ (k+1));have h5:=Int.emod_lt_of_pos x hp;rw [h3] at h4;have h6:(2:Int) ^ (k+1)*(2 ^ (63-k))=18446744073709551616:=by rw [<-Int.pow_add,show k+1+(63-k)=64 by omega];rfl
 have h7:x / 2 ^ (k+1)<2 ^ (63-k):=Int.ediv_lt_of_lt_mul (Int.pow_pos (by omega)) (by rw [Int.mul_comm,h6];exact h2);have h8:(2:Int) ^ (k+1)*(x / 2 ^ (k+1))<=2 ^ (k+1)*(2 ^ (63-k)-1):=Int.mul_le_mul_of_nonneg_left (by omega) (Int.pow_nonneg (by omega));rw [Int.mul_sub,h6,Int.mul_one] at h8;have h9:(2:Int) ^ (k+1)=2 ^ k*2:=Int.pow_succ _ _;omega
theorem zK {x:Int} (hx:qZ x):qZ (or5 x):=by
 unfold or5;cases h:bitZ x 5
 ·simpa using aAA 5 32 rfl (by omega) hx h
 ·simpa using hx
theorem aHI {x:Int} (hx:qZ x):qZ (or6 x):=by
 unfold or6;cases h:bitZ x 6
 ·simpa using aAA 6 64 rfl (by omega) hx h
 ·simpa using hx
def k9 (ps:List Int):List Value:=ps.map λp=>.int .u64 p
def yP (wr last:Bool) (x:Int):Int:=if wr&&last then or6 (or5 x) else or5 x
def jR (fr:Int) (hs:List (Int × Int)) (ps:List Int):Prop:=∀ p ∈ ps,okA fr hs p 8=true/\0<=p/\p+8<=18446744073709551616
theorem aFh {i k:Nat} {s:Sl} {ps:List Int} {wr:Bool} {Q:AH->Prop} (h:Own l A) (e1:l[i]? = some (RamS r fr hs M)) (e2:l[k]? = some (dK s 1 (k9 ps))) (hik:i≠k)
  (hl:hs.length<=64) (hf:0<=fr/\fr<=1048576) (hps:jR fr hs ps) (hn:ps.length<=4) (hk:∀ A',Own (l.set i (RamS r fr hs (eD M wr ps))) A'->Q A'):qdz_A (some ⟨r,0,none⟩) s wr Q A:=by
 have hil:=(List.getElem?_eq_some_iff.1 e1).1;have hlen:s.len=ps.length:=by have:=zT h e2;simp [k9] at this;omega
 unfold qdz_A qdz_G;refine ⟨λq m h'=>∃ (j:Nat) (N:Int->Int),q=j/\j<=ps.length/\m=ps.length-j/\eD N wr (ps.drop j)=eD M wr ps/\Own (l.set i (RamS r fr hs N)) h',⟨_,0,M,rfl,by omega,rfl,by simp,?_⟩,?_⟩
 ·rw [show l.set i (RamS r fr hs M)=l from ?_]
  ·exact h
  ·apply List.ext_getElem?;intro c;rw [List.getElem?_set];split
   ·rename_i g;subst g;exact e1.symm
   ·rfl
 intro q m h' ⟨j,N,g1,g2,g3,g4,g5⟩;subst g1 g3;have ei:(l.set i (RamS r fr hs N))[i]? = some (RamS r fr hs N):=by simp [hil]
 have ek:(l.set i (RamS r fr hs N))[k]? = some (dK s 1 (k9 ps)):=by rw [List.getElem?_set_ne hik];exact e2
 refine aG (λc=>?_) λc=>?_
 ·have c:j<ps.length:=by simp [hlen] at c;omega
  obtain ⟨p,hp⟩:∃ p,ps[j]? = some p:=⟨ps[j],by simp [c]⟩
  have hd:ps.drop j=p::ps.drop (j+1):=by
   rw [List.drop_eq_getElem_cons c];have:=(List.getElem?_eq_some_iff.1 hp).2;rw [this]
  have hok:=hps p (List.mem_of_getElem? hp);have hU:=qM g5 ei p;rw [hd] at g4;have hstep:eD (jK N p 8 (yP wr (ps.drop (j+1)).isEmpty (le N p 8))) wr (ps.drop (j+1))=eD M wr ps:=g4
  have hnext:∀ A',Own (l.set i (RamS r fr hs (jK N p 8 (yP wr (ps.drop (j+1)).isEmpty (le N p 8))))) A'->∃ m3,m3<ps.length-j/\∃ (j':Nat) (N:Int->Int),IntKind.wrap .i64 ((j:Int)+1)=j'/\j'<=ps.length/\m3=ps.length-j'/\eD N wr (ps.drop j')=eD M wr ps/\Own (l.set i (RamS r fr hs N)) A':=
   λA' hA=>⟨ps.length-(j+1),by omega,j+1,_,by rw [bG]<;>omega,by omega,rfl,hstep,hA⟩
  refine ⟨λh''=>Own (l.set i (RamS r fr hs (jK N p 8 (yP wr (ps.drop (j+1)).isEmpty (le N p 8))))) h'',λh'' q=>hnext h'' q,?_⟩;obtain ⟨b,o,q1,q2⟩:=mG g5 ek (j:=j) (v:=.int .u64 p) (by simp [k9,hp]);rw [q1];refine inB_in (by omega) (by rw [hlen];omega) ⟨p,?_,?_⟩
  ·rw [add_at];simpa using q2
  refine mL (n:=8) g5 ei hl hf (by omega) ⟨hok.2.1,by omega⟩ ?_;have hok2:okA fr hs p ((8:Nat):Int)=true:=hok.1;rw [hok2];simp only [↓reduceIte];refine ⟨λy h''=>h''=h'/\y=yP wr (ps.drop (j+1)).isEmpty (le N p 8),?_,?_⟩
  ·intro y h'' ⟨q3,q4⟩;subst q3 q4;refine aG (λc2=>?_) λc2=>?_
   ·refine aGJ (n:=8) g5 ei hl hf (by omega) ⟨hok.2.1,by omega⟩ (λq=>by rw [hok2] at q;cases q) λ_ A' hA=>?_;rw [List.set_set] at hA;exact hA
   ·have c2:yP wr (ps.drop (j+1)).isEmpty (le N p 8)=le N p 8:=by simpa using c2
    rw [c2,aI7 (RamS.byte g5 ei)];exact g5
  ·have hlast:((j:Int)==IntKind.wrap .i64 (Int.ofNat s.len-1))=(ps.drop (j+1)).isEmpty:=by
    rw [bG (by simp [hlen];omega) (by simp [hlen];omega),hlen];by_cases g:j+1=ps.length
    ·have:(ps.drop (j+1)).isEmpty=true:=by simp;omega
     rw [this];simp;omega
    ·have:(ps.drop (j+1)).isEmpty=false:=by simp;omega
     rw [this];simp;omega
   rw [hlast,aKo hU,aK2 (zK hU)];unfold yP;refine aG (λc3=>?_) λc3=>?_
   ·refine aG (λc4=>⟨rfl,?_⟩) λc4=>⟨rfl,?_⟩
    ·rw [c3,c4];rfl
    ·rw [c3,c4];rfl
   ·exact ⟨rfl,by rw [c3];rfl⟩
 ·have:j=ps.length:=by simp [hlen] at c;omega
  subst this;rw [List.drop_length] at g4;have g4:N=eD M wr ps:=g4;rw [g4] at g5;exact hk _ g5
end Go.Dn
namespace Go.Dn
variable {A:AH} {l:List SP}
def eZ (b:Bool):Int:=if b then 1 else 0
theorem eI (b:Bool):0<=eZ b/\eZ b<=1:=by cases b<;>decide
def packZ (b0 b1 b2 b3 b4 b5 b6 b7:Bool) (f:Int):Int:=f*4096+eZ b0+2*eZ b1+4*eZ b2+32*eZ b3+64*eZ b4+128*eZ b5+256*eZ b6+9223372036854775808*eZ b7
def pkZ (p:Nat->Bool) (f:Int):Nat->Int
 | 0=>f*4096
 | j+1=>pkZ p f j+2 ^ placeN j*eZ (p j)
theorem eN (b0 b1 b2 b3 b4 b5 b6 b7:Bool) {f:Int} (hf:0<=f/\f<1048576):bitZ (packZ b0 b1 b2 b3 b4 b5 b6 b7 f) 0=b0/\bitZ (packZ b0 b1 b2 b3 b4 b5 b6 b7 f) 1=b1/\bitZ (packZ b0 b1 b2 b3 b4 b5 b6 b7 f) 2=b2/\
  bitZ (packZ b0 b1 b2 b3 b4 b5 b6 b7 f) 5=b3/\bitZ (packZ b0 b1 b2 b3 b4 b5 b6 b7 f) 6=b4/\bitZ (packZ b0 b1 b2 b3 b4 b5 b6 b7 f) 7=b5/\bitZ (packZ b0 b1 b2 b3 b4 b5 b6 b7 f) 8=b6/\bitZ (packZ b0 b1 b2 b3 b4 b5 b6 b7 f) 63=b7/\
  cF (packZ b0 b1 b2 b3 b4 b5 b6 b7 f)=f/\qZ (packZ b0 b1 b2 b3 b4 b5 b6 b7 f):=by
 have h0:=eI b0;have h1:=eI b1;have h2:=eI b2;have h3:=eI b3;have h4:=eI b4;have h5:=eI b5;have h6:=eI b6;have h7:=eI b7
 have key:∀ (x:Int) (k:Nat) (b:Bool),x / 2 ^ k % 2=eZ b->bitZ x k=b:=by
  intro x k b h;unfold bitZ;rw [h];cases b<;>rfl
 refine ⟨key _ _ _ ?_,key _ _ _ ?_,key _ _ _ ?_,key _ _ _ ?_,key _ _ _ ?_,key _ _ _ ?_,key _ _ _ ?_,key _ _ _ ?_,?_,?_⟩
 all_goals unfold packZ
 ·omega
 ·omega
 ·omega
 ·omega
 ·omega
 ·omega
 ·omega
 ·omega
 ·unfold cF;omega
 ·unfold qZ;omega
theorem aIZ (p:Nat->Bool) {f:Int} (hf:0<=f/\f<1048576) {j:Nat} (hj:j<8):bitZ (pkZ p f j) (placeN j)=false/\qZ (pkZ p f j):=by
 have h0:=eI (p 0);have h1:=eI (p 1);have h2:=eI (p 2);have h3:=eI (p 3);have h4:=eI (p 4);have h5:=eI (p 5);have h6:=eI (p 6)
 have key:∀ (x:Int) (k:Nat),x / 2 ^ k % 2=0->bitZ x k=false:=by
  intro x k h;unfold bitZ;rw [h];rfl
 obtain rfl | rfl | rfl | rfl | rfl | rfl | rfl | rfl:j=0\/j=1\/j=2\/j=3\/j=4\/j=5\/j=6\/j=7:=by omega
 all_goals (refine ⟨key _ _ ?_,?_⟩<;>simp only [pkZ,placeN,qZ]<;>omega)
theorem aMX (b0 b1 b2 b3 b4 b5 b6 b7:Bool) (f:Int):pkZ (λi=>[b0,b1,b2,b3,b4,b5,b6,b7].getD i false) f 8=packZ b0 b1 b2 b3 b4 b5 b6 b7 f:=by
 simp only [pkZ,placeN,packZ,List.getD_cons_zero,List.getD_cons_succ];omega
set_option maxHeartbeats 1000000 in
theorem aEc {b0 b1 b2 b3 b4 b5 b6 b7:Bool} {f:Int} {Q:Int->Int->AH->Prop} (h:Own l A) (hf:0<=f/\f<1048576) (hk:∀ A',Own l A'->Q (packZ b0 b1 b2 b3 b4 b5 b6 b7 f) 0 A'):qbl_A b0 b1 b2 b3 b4 b5 b6 b7 f Q A:=by
 unfold qbl_A qbl_G;show aT A (.cells [.bool b0,.bool b1,.bool b2,.bool b3,.bool b4,.bool b5,.bool b6,.bool b7,.int .i64 f].toArray _) _;refine aX h λb A1 h1=>?_;simp only [add_at];refine ⟨λh6=>h6=A1,?_,ld_I (i:=0) h1 rfl rfl (bsel_f (by simp;omega) (ld_I (i:=0) h1 rfl rfl (bsel_f (by simp;omega) rfl)))⟩;intro A2 e2;subst e2;refine ld_I (i:=0) h1 rfl rfl ?_;unfold qbj_A;simp only [aF,add_at];refine ⟨λx y m h'=>h'=A2/\∃ j:Nat,y=j/\j<=8/\8-j=m/\x=pkZ (λi=>[b0,b1,b2,b3,b4,b5,b6,b7].getD i false) f j,⟨_,rfl,0,rfl,by omega,rfl,?_⟩,?_⟩
 ·rw [cQ (n:=f) (by omega) (by omega)];show IntKind.wrap .u64 (f*4096)=f*4096;rw [cQ]<;>omega
 intro x y m h' ⟨e0,j,e1,e2,e3,e4⟩;subst e0 e1 e3 e4;refine aG (λc=>?_) λc=>?_
 rotate_left
 ·have:j=8:=by simp at c;omega
  subst this;rw [aMX];exact hk _ h1.tail
 have c:j<8:=by simp at c;omega
 obtain ⟨hb,hU⟩:=aIZ (λi=>[b0,b1,b2,b3,b4,b5,b6,b7].getD i false) hf c
 have hpl:placeN j<=63:=by
  obtain rfl | rfl | rfl | rfl | rfl | rfl | rfl | rfl:j=0\/j=1\/j=2\/j=3\/j=4\/j=5\/j=6\/j=7:=by omega
  all_goals decide
 have hp:([.pointer (some ⟨b,0,none⟩),.pointer (some ⟨b,0+1,none⟩),.pointer (some ⟨b,0+2,none⟩),.pointer (some ⟨b,0+3,none⟩),.pointer (some ⟨b,0+4,none⟩),.pointer (some ⟨b,0+5,none⟩),.pointer (some ⟨b,0+6,none⟩),.pointer (some ⟨b,0+7,none⟩)]:List Value)[Int.toNat (j:Int)]? = some (.pointer (some ⟨b,j,none⟩)):=by
  obtain rfl | rfl | rfl | rfl | rfl | rfl | rfl | rfl:j=0\/j=1\/j=2\/j=3\/j=4\/j=5\/j=6\/j=7:=by omega
  all_goals rfl
 have hq:([.int .i64 0,.int .i64 1,.int .i64 2,.int .i64 5,.int .i64 6,.int .i64 7,.int .i64 8,.int .i64 63]:List Value)[Int.toNat (j:Int)]? = some (.int .i64 (placeN j)):=by
  obtain rfl | rfl | rfl | rfl | rfl | rfl | rfl | rfl:j=0\/j=1\/j=2\/j=3\/j=4\/j=5\/j=6\/j=7:=by omega
  all_goals rfl
 have hc:([.bool b0,.bool b1,.bool b2,.bool b3,.bool b4,.bool b5,.bool b6,.bool b7,.int .i64 f]:List Value)[j]? = some (.bool ([b0,b1,b2,b3,b4,b5,b6,b7].getD j false)):=by
  obtain rfl | rfl | rfl | rfl | rfl | rfl | rfl | rfl:j=0\/j=1\/j=2\/j=3\/j=4\/j=5\/j=6\/j=7:=by omega
  all_goals rfl
 refine ⟨λx h9=>h9=h'/\x=pkZ (λi=>[b0,b1,b2,b3,b4,b5,b6,b7].getD i false) f (j+1),λx h9 ⟨q1,q2⟩=>⟨8-(j+1),by omega,q1,j+1,by rw [bG]<;>omega,by omega,rfl,q2⟩,?_⟩;refine inB_in (by omega) (by omega) ⟨_,hp,?_⟩;refine aY (i:=0) h1 rfl hc ?_;unfold qbk_A;cases hv:[b0,b1,b2,b3,b4,b5,b6,b7].getD j false with
 | false=>exact ⟨rfl,by simp only [pkZ,hv,eZ];simp⟩
 | true=>
  refine inB_in (by omega) (by omega) ⟨_,hq,bsel_f (by simp) ⟨rfl,?_⟩⟩;rw [show min (Int.toNat (placeN j:Int)) 64=placeN j by omega,Int.one_mul];have h2p:(2:Int) ^ placeN j=((2 ^ placeN j:Nat):Int):=by simp
  have hle:(2:Int) ^ placeN j<=2 ^ 63:=by
   have:(2:Nat) ^ placeN j<=2 ^ 63:=Nat.pow_le_pow_right (by omega) hpl;have h3:((2 ^ placeN j:Nat):Int)<=((2 ^ 63:Nat):Int):=Int.ofNat_le.2 this;simpa using h3
  have hpos:(0:Int)<2 ^ placeN j:=Int.pow_pos (by omega);rw [cQ (n:=(2:Int) ^ placeN j) (by omega) (by omega),aAg (placeN j) (2 ^ placeN j) h2p hpl hU.1 hU.2,hb];simp only [pkZ,hv,eZ];simp
end Go.Dn
namespace Go.Dn
open Go.MapKept
variable {A:AH} {l:List SP}
def delM (m:List (Int × Value)) (key:Int):List (Int × Value):=match m with
 | []=>[]
 | p::m=>if p.1=key then m else p::delM m key
theorem aBM {k:IntKind} {key:Int}:∀ (es:List MapEntry) (m:List (Int × Value)) (j:Nat),es.map (λe=>(e.key,e.val))=m.map (λp=>(.int k p.1,p.2))->
  ∃ r,Instr.findNow (.int k) (.int k key) es j=some r/\
   (∀ i v,r=some (i,v)->j<=i/\i-j<es.length/\(es.eraseIdx (i-j)).map (λe=>(e.key,e.val))=(delM m key).map (λp=>(.int k p.1,p.2)))/\(r=none->delM m key=m)
 | [],[],j,_=>⟨none,rfl,(λ_ _ e=>nomatch e),λ_=>rfl⟩
 | [],_::_,_,e=>by simp at e
 | _::_,[],_,e=>by simp at e
 | e::es,p::m,j,h=>by
  simp only [List.map_cons,List.cons.injEq,Prod.mk.injEq] at h;obtain ⟨⟨h1,h2⟩,h3⟩:=h;simp only [Instr.findNow,h1,Instr.sameNow];by_cases q:p.1=key
  ·refine ⟨some (j,e.val),by simp [q],?_,λhn=>by cases hn⟩;intro i v hv;simp only [Option.some.injEq,Prod.mk.injEq] at hv;obtain ⟨rfl,rfl⟩:=hv;exact ⟨Nat.le_refl _,by simp,by simp [delM,q,h3]⟩
  ·obtain ⟨r,k1,k3,k4⟩:=aBM (k:=k) (key:=key) es m (j+1) h3;refine ⟨r,?_,?_,?_⟩
   ·have g:(key==p.1)=false:=by simpa using λg=>q g.symm
    rw [g];exact k1
   ·intro i v hv;obtain ⟨k5,k6,k7⟩:=k3 i v hv;refine ⟨by omega,by simp;omega,?_⟩;rw [show i-j=(i-(j+1))+1 by omega];simp only [List.eraseIdx_cons_succ,List.map_cons,k7];simp [delM,q,h1,h2]
   ·intro hn;simp [delM,q,k4 hn]
theorem aCI {i b:Nat} {k:IntKind} {key:Int} {m:List (Int × Value)} {K:AP} (h:Own l A) (e:l[i]? = some (MapI b k m)) (hk:∀ A',Own (l.set i (MapI b k (delM m key))) A'->K A'):o5 A (some b) k key K:=by
 obtain ⟨es,c,h1,h2,hst⟩:=h.map e;obtain ⟨r,k1,k3,k4⟩:=aBM (k:=k) (key:=key) es.toList m 0 h2;refine ⟨es,c,h1,r,k1,hk _ ?_⟩;refine h.upd e (λB ⟨_,_,hb,_⟩=>⟨_,hb⟩) λB _=>?_;cases r with
 | none=>
  refine ⟨_,_,cW,?_,hst⟩;rw [k4 rfl];exact h2
 | some p=>
  obtain ⟨i,v0⟩:=p;obtain ⟨k5,k6,k7⟩:=k3 i v0 rfl;refine ⟨_,_,cW,?_,stamped_erase hst i⟩;show (es.eraseIdxIfInBounds i).toList.map _=_
  have:(es.eraseIdxIfInBounds i).toList=es.toList.eraseIdx i:=by
   rw [Array.eraseIdxIfInBounds_eq];split
   ·simp
   ·rename_i g;rw [List.eraseIdx_of_length_le (by simpa using Nat.le_of_not_lt g)]
  rw [this];exact k7
theorem aMK {i b:Nat} {k:IntKind} {m:List (Int × Value)} {K:Int->Prop} (h:Own l A) (e:l[i]? = some (MapI b k m)) (hk:K m.length):aHR A (some b) K:=by
 obtain ⟨es,c,h1,h2,_⟩:=h.map e;refine ⟨es.toList,by simp [xN,h1],?_⟩
 have:es.toList.length=m.length:=by
  have:=congrArg List.length (show es.toList.map (λe=>(e.key,e.val))=_ from h2);simpa using this
 rw [this];exact hk
theorem aL3 {i b r t:Nat} {m:List (Int × Value)} {Q:Sl->AP} {j:Nat} (h:Own l A) (ep:l[j]? = some (At b [.map (some r)])) (e:l[i]? = some (MapI r .i64 m)) (hn:m.length<=17592186044416) (hr:∀ p ∈ m,(Lit.int .i64 p.1).wf=true)
  (h0:m=[]->Q Sl.nil A)
  (hk:∀ (ss:List Int) s A',ss.Perm (m.map (·.1))->ss≠[]->s.len=ss.length->Own (dK s 1 (ss.map (.int .i64))::l) A'->Q s A'):clA t (some ⟨b,0,none⟩) Q A:=by
 obtain ⟨es,c,h1,h2,hst⟩:=h.map e;refine ⟨b,some r,rfl,dH ep h rfl,es,c,h1,⟨hst,?_,?_⟩,λss hs=>⟨λhe=>?_,λcap cur hne hle hsz hcur=>?_⟩⟩
 ·have:es.toList.length=m.length:=by
   have:=congrArg List.length (show es.toList.map (λe=>(e.key,e.val))=_ from h2);simpa using this
  have:es.size=m.length:=by simpa using this
  omega
 ·intro x hx;have:(x.key,x.val) ∈ m.map λp=>((.int .i64 p.1:Value),p.2):=by rw [<-show es.toList.map (λe=>(e.key,e.val))=_ from h2];exact List.mem_map.2 ⟨x,hx,rfl⟩
  obtain ⟨p,hp,hpe⟩:=List.mem_map.1 this;simp only [Prod.mk.injEq] at hpe;exact ⟨p.1,hpe.1.symm,hr p hp⟩
 ·apply h0;subst he;have:=hs.length_eq
  have h3:es.toList.length=m.length:=by
   have:=congrArg List.length (show es.toList.map (λe=>(e.key,e.val))=_ from h2);simpa using this
  apply List.length_eq_zero_iff.1;simp at this h3;rw [<-h3,<- this]
 ·intro g hg
  have hm:es.toList.map aF3=m.map (·.1):=by
   have h3:(es.toList.map λe=>(e.key,e.val)).map (λp=>match p.1 with | .int _ n=>n | _=>0)=(m.map λp=>((.int .i64 p.1:Value),p.2)).map (λp=>match p.1 with | .int _ n=>n | _=>0):=congrArg _ h2
   rw [List.map_map,List.map_map] at h3;exact h3
  rw [hm] at hs;refine hk ss _ _ hs hne rfl (h.new hg λB hB=>⟨by simp,hle,λ_=>⟨g,[],cur.toList.drop ss.length,rfl,t,?_⟩⟩)
  have:[]++ss.map (Value.int .i64)++cur.toList.drop ss.length=cur.toList:=by
   rw [List.nil_append,<- hcur,List.take_append_drop]
  rw [this,hB,Array.toArray_toList]
end Go.Dn
