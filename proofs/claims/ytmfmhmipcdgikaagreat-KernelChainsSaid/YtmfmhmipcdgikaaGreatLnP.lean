/- What the proof stands on. -/
import Derived.Test.YtmfmhmipcdgikaaGreatBudNew
import Derived.Test.YtmfmhmipcdgikaaGreatCut
import Derived.Test.YtmfmhmipcdgikaaGreatRgs
namespace Go.Dn
open Go.Proofs
variable {A:AH} {l R:List SP} {P:SP} {k:Nat} {s:Sl} {L:List Rg}
theorem aBN {Q:Sl->AH->Prop} (h:Own l A) (e:l[k]? = some P) (hr:bI P s 2 (dB L)) (hb:L.length<=1000000) (hn:s.a=none->L=[])
  (hk:∀ s' A',(s'.a=none->L=[])->Own (SlO s' 2 (dB L)::l) A'->Q s' A'):qaf_A s Q A:=by
 have hl:=mQ h e hr;unfold qaf_A;refine aG (λc=>?_) λc=>?_
 ·have h0:=hn (by simpa using c);subst h0;exact hk _ A (λ_=>rfl) h.nilS
 ·refine aX (cs:=[]) h λb1 A1 h1=>?_;have h1:Own (SlO ⟨some ⟨b1,0,none⟩,0,0⟩ 2 []::l) A1:=h1.imp λB _=>⟨⟨by simp,Nat.le_refl _⟩,.inl rfl⟩;refine cN (i:=k) h1 e hr (λg=>by rw [hn g];rfl) (λg=>by cases g) rfl (λv hv=>rgs_one hv) ⟨by simp only [hl];omega,by simp only [hl];omega⟩ λs' A2 j1 j2 h2=>?_;exact hk s' A2 (λg=>tZ (by simpa using j2 g)) (by simpa using h2)
def bad (r:Rg):Bool:=decide (r.2<=r.1)
def firstBad:List Rg->Option Nat
 | []=>none
 | d::r=>if bad d then some 0 else (firstBad r).map (·+1)
theorem nC:∀ {L:List Rg},firstBad L=none->∀ r ∈ L,bad r=false
 | [],_,_,h=>nomatch h
 | d::L,h,r,hr=>by
  unfold firstBad at h;split at h
  ·cases h
  ·rename_i g;rcases List.mem_cons.1 hr with rfl | hr
   ·simpa using g
   ·exact nC (by cases e:firstBad L with | none=>rfl | some j=>rw [e] at h;cases h) r hr
theorem nE:∀ {L:List Rg} {j:Nat},firstBad L=some j->∃ r,L[j]? = some r/\bad r=true/\∀ r ∈ L.take j,bad r=false
 | [],_,h=>by simp [firstBad] at h
 | d::L,j,h=>by
  unfold firstBad at h;split at h
  ·rename_i g;cases h;exact ⟨d,rfl,g,λ_ h=>by simp at h⟩
  ·rename_i g;cases e:firstBad L with
   | none=>rw [e] at h;cases h
   | some i=>
    rw [e] at h;cases h;obtain ⟨r,h1,h2,h3⟩:=nE e;refine ⟨r,by simpa using h1,h2,λq hq=>?_⟩;simp at hq;rcases hq with rfl | hq
    ·simpa using g
    ·exact h3 q hq
theorem aDW {α:Type} {L:List α} {v:Nat} {y:α} (h:L[v]? = some y):L.drop v=y::L.drop (v+1):=by
 obtain ⟨hv,e⟩:=List.getElem?_eq_some_iff.1 h;rw [List.drop_eq_getElem_cons hv,e]
theorem xB {v:Nat} {d:Rg} (hd:L[v]? = some d):firstBad (L.drop v)=if bad d then some 0 else (firstBad (L.drop (v+1))).map (·+1):=by
 rw [aDW hd];rfl
theorem dC {α:Type} {L:List α} {v:Nat} {y:α} (h:L[v]? = some y):L.take (v+1)=L.take v++[y]:=by
 obtain ⟨hv,e⟩:=List.getElem?_eq_some_iff.1 h;rw [List.take_add_one,h];rfl
theorem w9 {Q:Int->AH->Prop} (h:Own l A) (e:l[k]? = some P) (hr:bI P s 2 (dB L)) (hb:L.length<=1000000) (h0:firstBad L=none->Q (-1) A) (h1:∀ j:Nat,firstBad L=some j->Q j A) :
  qah_A s Q A:=by
 have hl:=mQ h e hr;unfold qah_A qah_G;refine ⟨λx m h'=>∃ v:Nat,x=v/\m+v=L.length/\h'=A/\firstBad L=(firstBad (L.drop v)).map (·+v),⟨L.length,0,rfl,rfl,rfl,by rw [List.drop_zero];cases firstBad L<;>rfl⟩,?_⟩;intro x m A1 ⟨v,e1,e2,e3,e4⟩;subst e1 e3;refine aG (λc=>?_) λc=>?_
 ·have c:(v:Int)<s.len:=of_decide_eq_true c;obtain ⟨d,hd⟩:∃ d,L[v]? = some d:=⟨L[v]'(by omega),by simp⟩;obtain ⟨a,q1,r1,r2⟩:=vG h e hr hd;rw [q1];refine inB_in (by omega) c (r1 _ (r2 _ ?_));unfold qag_A;rw [xB hd] at e4;refine aG (λg=>?_) λg=>?_
  ·rw [if_pos (show bad d=true from g)] at e4;exact h1 v (by rw [e4];simp)
  ·rw [if_neg (by rw [show bad d=false from g];simp)] at e4;refine ⟨m-1,by omega,v+1,by rw [bG]<;>omega,by omega,rfl,?_⟩;rw [e4];cases firstBad (L.drop (v+1)) with
   | none=>rfl
   | some j=>simp;omega
 ·have c:¬(v:Int)<s.len:=of_decide_eq_false c;refine h0 ?_;rw [e4,List.drop_eq_nil_of_le (by omega)];rfl
theorem nF {z:Array Value} {n:Nat} (hz:∀ v ∈ z.toList,v.oneCell'=true):∀ v ∈ (Builtin.zeroCells z n).toList,v.oneCell'=true:=λv hv=>by
 have hv:=Array.mem_toList_iff.1 hv;unfold Builtin.zeroCells at hv;obtain ⟨i,hi,rfl⟩:=Array.mem_map.1 hv;have hi:=Array.mem_range.1 hi
 have h0:0<z.size:=by
  rcases Nat.eq_zero_or_pos z.size with q | q
  ·rw [q] at hi;simp at hi
  ·exact q
 have hlt:i % z.size<z.size:=Nat.mod_lt _ h0;rw [getElem!_pos z _ hlt];exact hz _ (by simp)
def good (r:Rg):Bool:=!bad r
theorem aCu {C:List Rg} {i:Nat} {y:Rg} (hi:i<C.length):(C.set i y).take (i+1)=C.take i++[y]:=by
 rw [dC (v:=i) (y:=y) (by simp [hi]),List.take_set_of_le (Nat.le_refl _)]
theorem aAL {Q:Sl->AH->Prop} (h:Own (SlO s 2 (dB L)::R) A) (hs:s.a=none->L=[]) (hb:L.length<=1000000)
  (hk:∀ s' A',(s'.a=none->L.filter good=[])->Own (SlO s' 2 (dB (L.filter good))::R) A'->Q s' A'):qai_A s Q A:=by
 have hl:=h.rgs_len;unfold qai_A qai_G;refine w9 (k:=0) h rfl bS hb (λh0=>?_) λj hj=>?_
 ·refine aN (by simp) ?_;have:L.filter good=L:=List.filter_eq_self.2 λr hr=>by simp [good,nC h0 r hr]
  exact hk s A (λg=>by rw [this];exact hs g) (by rw [this];exact h)
 ·refine bsel_f (by simp) ?_;obtain ⟨r0,g1,g2,g3⟩:=nE hj;have hjl:=(List.getElem?_eq_some_iff.1 g1).1;have hf0:L.take j=(L.take j).filter good:=(List.filter_eq_self.2 λr hr=>by simp [good,g3 r hr]).symm
  refine ⟨λx y m h'=>∃ (i v:Nat) (C:List Rg),x=i/\y=v/\m+v=L.length/\C.length=L.length/\i<v/\v<=L.length/\C.take i=(L.take v).filter good/\C.drop v=L.drop v/\Own (SlO s 2 (dB C)::R) h',
   ⟨L.length-(j+1),j,j+1,L,rfl,by rw [bG]<;>omega,by omega,rfl,by omega,by omega,?_,rfl,h⟩,?_⟩
  ·rw [dC g1,List.filter_append,<- hf0];simp [good,g2]
  ·intro x y m A1 ⟨i,v,C,e1,e2,e3,e4,e5,e6,e7,e8,h1⟩;subst e1 e2;have hl1:=h1.rgs_len;refine aG (λc=>?_) λc=>?_
   ·have c:(v:Int)<s.len:=of_decide_eq_true c;refine ⟨λx h'=>∃ (i':Nat) (C':List Rg),x=i'/\C'.length=L.length/\i'<v+1/\C'.take i'=(L.take (v+1)).filter good/\C'.drop (v+1)=L.drop (v+1)/\Own (SlO s 2 (dB C')::R) h',?_,?_⟩
    ·intro x A2 ⟨i',C',f1,f2,f3,f4,f5,h2⟩;subst f1;exact ⟨m-1,by omega,i',v+1,C',rfl,by rw [bG]<;>omega,by omega,f2,f3,by omega,f4,f5,h2⟩
    ·obtain ⟨d,hd⟩:∃ d,L[v]? = some d:=⟨L[v]'(by omega),by simp⟩
     have hdC:C[v]? = some d:=by
      have:=congrArg (·[0]?) e8;simpa [hd] using this
     have hdrop:C.drop (v+1)=L.drop (v+1):=by
      have:=congrArg (List.drop 1) e8;simpa [Nat.add_comm] using this
     obtain ⟨a,q1,r1,r2⟩:=vG (k:=0) h1 rfl bS hdC;rw [q1];refine inB_in (by omega) c (r1 _ (r2 _ ?_));unfold qag_A;have hbd:bad d=decide (d.2<=d.1):=rfl;refine aG (λg=>?_) λg=>?_
     ·have g:bad d=false:=by rw [hbd];simpa using g
      have hi:i<C.length:=by omega
      refine inB_in (by omega) (by omega) ?_;obtain ⟨y0,hy0⟩:∃ y0,C[i]? = some y0:=⟨C[i],by simp⟩;rw [Int.toNat_natCast];refine aCf h1 q1 (by rw [cI];omega) rfl λA2 h2=>?_;rw [aBR d.1 hy0] at h2
      have had:Addr.add (Addr.add a (i*2)) 1=Addr.add a (i*2+1):=by
       obtain ⟨b,rest,ha,_⟩:=h2.openS (λg=>by have:=cI (C.set i (d.1,y0.2));rw [g] at this;simp at this;omega);rw [q1] at ha;cases ha;rw [add_at,add_at,add_at];congr 1
      rw [had];refine aCf h2 q1 (by rw [cI];simp;omega) rfl λA3 h3=>?_;rw [aAu (r:=(d.1,y0.2)) d.2 (by simp [hi]),List.set_set] at h3;refine ⟨i+1,C.set i d,by rw [bG]<;>omega,by simpa using e4,by omega,?_,?_,h3⟩
      ·rw [aCu hi,e7,dC hd,List.filter_append];simp [good,g]
      ·rw [List.drop_set_of_lt (by omega),hdrop]
     ·have g:bad d=true:=by rw [hbd];simpa using g
      refine ⟨i,C,rfl,e4,by omega,?_,hdrop,h1⟩;rw [e7,dC hd,List.filter_append];simp [good,g]
   ·have c:¬(v:Int)<s.len:=of_decide_eq_false c;have hv:v=L.length:=by omega
    subst hv;have hC:dB C≠[]:=λg=>by have:=tZ g;rw [this] at e4;simp at e4;omega
    obtain ⟨b,rest,ha,hc,hn1,hn2,h2⟩:=h1.openS hC;refine inB_in (by omega) (by omega) ?_
    have hsl:(if s.cap=Int.toNat (i:Int) then s.a else Option.map (λx=>Addr.add x (Int.toNat (i:Int)*2)) s.a)=some ⟨b,i*2,none⟩:=by
     rw [if_neg (by omega),ha];simp [add_at]
    rw [hsl,Int.toNat_natCast];show qU (Builtin.zeroCells _ _).toList (Addr.add ⟨b,i*2,none⟩ 0) 0 A1 _;rw [add_at,Nat.add_zero]
    have hsplit:dB C++rest=dB (C.take i)++dB (C.drop i)++rest:=by
     rw [<-aDo];rw [List.take_append_drop]
    rw [hsplit] at h2;refine iC _ 0 A1 (dB (C.take i)) (dB (C.drop i)) rest _ h2 ?_ ?_ (nF (λv hv=>by simp at hv;subst hv;rfl)) λA2 h3=>?_
    ·have hz:=dF (z:=#[Value.int IntKind.i64 0,Value.int IntKind.i64 0]) (n:=s.len-i);have hz2:(#[Value.int IntKind.i64 0,Value.int IntKind.i64 0]:Array Value).size=2:=rfl;rw [hz2] at hz;show (dB (C.drop i)).length=(Builtin.zeroCells #[Value.int IntKind.i64 0,Value.int IntKind.i64 0] (s.len-i)).size;rw [cI,hz,List.length_drop];omega
    ·rw [cI];simp;omega
    ·refine inB_in (by omega) (by omega) ?_
     have hsa:(if s.cap=0 then s.a else Option.map (λx=>Addr.add x (0*2)) s.a)=some ⟨b,0,none⟩:=by
      rw [if_neg (by omega),ha];simp [add_at]
     rw [hsa];refine hk _ A2 (λg=>nomatch g) ?_;rw [e7,List.take_length,List.append_assoc] at h3;refine Own.shutS h3 rfl ?_ ?_ ?_
     ·have hz:=dF (z:=#[Value.int IntKind.i64 0,Value.int IntKind.i64 0]) (n:=s.len-i);have hz2:(#[Value.int IntKind.i64 0,Value.int IntKind.i64 0]:Array Value).size=2:=rfl;rw [hz2] at hz;have h5:=congrArg List.length e7;rw [List.take_length,List.length_take] at h5;have h6:(dB C++rest).length=C.length*2+rest.length:=by rw [List.length_append,cI]
      rw [h6] at hc;show (dB (L.filter good)++((Builtin.zeroCells #[Value.int IntKind.i64 0,Value.int IntKind.i64 0] (s.len-i)).toList++rest)).length=s.cap*2;have hz':(Builtin.zeroCells #[Value.int IntKind.i64 0,Value.int IntKind.i64 0] (s.len-i)).toList.length=(s.len-i)*2:=hz;rw [List.length_append,List.length_append,hz',cI,<- h5];omega
     ·have h5:=congrArg List.length e7;rw [cI];simp only [List.length_take,Int.toNat_natCast] at h5 ⊢;rw [List.take_length] at h5;omega
     ·simp only [Int.toNat_natCast];omega
theorem aEm {K:AP} (h:Own (SlO s 2 (dB L)::R) A) (hs:s.a=none->L=[]) (hb:L.length<=1000000)
  (hk:∀ d':List Rg,d'.Perm L->d'.Pairwise (λx y=>x.1<=y.1)->∀ A',Own (SlO s 2 (dB d')::R) A'->K A'):qaj_A s K A:=by
 have hl:=h.rgs_len;unfold qaj_A;have hsrt:∀ d':List Rg,d'.Pairwise (λx y=>ltOf aBd y x=false)->d'.Pairwise (λx y=>x.1<=y.1):=λd' hd=>hd.imp λ{x y} g=>by rw [aH6] at g;simp at g;exact g
 by_cases hne:L=[]
 ·subst hne;have h0:s.len=0:=by simpa using hl
  refine ⟨[],by simp [h0],by omega,?_,λa ha i hi=>by rw [h0] at hi;omega,λd' hp hd=>?_⟩
  ·cases ha:s.a with
   | none=>rfl
   | some a=>exact ⟨by simp [h0],λi hi=>by rw [h0] at hi;omega⟩
  ·have:=hp.eq_nil;subst this;have hst:wX s.a 0 [] A K↔K A:=by cases s.a<;>exact Iff.rfl
   show wX s.a 0 [] A K;rw [hst];exact hk [] (List.Perm.refl _) List.Pairwise.nil A h
 ·have hr:dB L≠[]:=λg=>hne (tZ g);obtain ⟨b,rest,ha,hc,hn1,hn2,h2⟩:=h.openS hr;obtain ⟨B,u,hB⟩:=h.sat;obtain ⟨t,ht⟩:=h2.at (i:=0) rfl;refine ⟨L,hl.symm,by omega,?_,λa ha' i hi=>?_,λd' hp hd=>?_⟩
  ·exact aDS hB.look u (λg=>by rw [ha] at g;cases g)
  ·rw [ha] at ha';cases ha';rw [add_at];simp [vX,ht]
  ·rw [ha];have hlen:d'.length=L.length:=hp.length_eq;show qU (dB d') (Addr.add ⟨b,0,none⟩ 0) 0 A K;rw [add_at];refine iC (dB d') 0 A [] (dB L) rest K h2 (by rw [cI,cI,hlen]) rfl (λv hv=>rgs_one hv) λA' h'=>?_;refine hk d' hp (hsrt d' hd) A' (Own.shutS h' ha ?_ ?_ hn2)
   ·rw [<-hc];simp [cI,hlen]
   ·rw [hn1,cI,cI,hlen]
theorem aIo {out:List Rg} {r:Rg} (h:out.getLast? = none):oG out r=out++[r]:=by
 have h0:out=[]:=List.getLast?_eq_none_iff.1 h;subst h0;rfl
theorem tJ {L:List Rg} {n:Int}:memR (L.filter good) n↔memR L n:=by
 constructor
 ·rintro ⟨r,hr,h⟩;exact ⟨r,(List.mem_filter.1 hr).1,h⟩
 ·rintro ⟨r,hr,h1,h2⟩;refine ⟨r,List.mem_filter.2 ⟨hr,?_⟩,h1,h2⟩;have:bad r=false:=by unfold bad;simp;omega
  simp [good,this]
theorem vT {Q:Sl->AH->Prop} (h:Own l A) (e:l[k]? = some P) (hr:bI P s 2 (dB L)) (hb:L.length<=100000) (hn:s.a=none->L=[])
  (hk:∀ m:List Rg,NF m->(∀ n,memR m n↔memR L n)->m.length<=L.length->∀ s' A',(s'.a=none->m=[])->Own (SlO s' 2 (dB m)::l) A'->Q s' A'):qak_A s Q A:=by
 unfold qak_A qak_G;refine aBN h e hr (by omega) hn λs1 A1 hs1 h1=>?_;refine aAL h1 hs1 (by omega) λs3 A2 hs3 h2=>?_;have hfl:(L.filter good).length<=L.length:=List.length_filter_le _ _;refine aEm h2 hs3 (by omega) λd hp hd A3 h3=>?_;have hdl:d.length<=L.length:=by rw [hp.length_eq];exact hfl
 have hs3':s3.a=none->d=[]:=λg=>by
  have:=hs3 g;rw [this] at hp;exact hp.eq_nil
 have hdlt:∀ r ∈ d,r.1<r.2:=λr hr'=>by
  have:=(List.mem_filter.1 (hp.mem_iff.1 hr')).2;simp [good,bad] at this;exact this
 have hmem:∀ n,memR d n↔memR L n:=λn=>by
  rw [<-tJ (L:=L)];constructor
  ·rintro ⟨r,hr',g⟩;exact ⟨r,hp.mem_iff.1 hr',g⟩
  ·rintro ⟨r,hr',g⟩;exact ⟨r,hp.mem_iff.2 hr',g⟩
 have hl3:=h3.rgs_len
 refine ⟨λo x m h'=>∃ (v:Nat) (out:List Rg),x=v/\m+v=d.length/\MgI (d.take v) out/\out.length<=v/\(o.a=none->out=[])/\Own (SlO o 2 (dB out)::SlO s3 2 (dB d)::l) h',
  ⟨d.length,0,[],rfl,by omega,by simpa using MgI.nil,by simp,λ_=>rfl,h3.nilS⟩,?_⟩
 intro o x m A4 ⟨v,out,e1,e2,hI,hol,hon,h4⟩;subst e1;have hol4:=h4.rgs_len;refine aG (λc=>?_) λc=>?_
 ·have c:(v:Int)<s3.len:=of_decide_eq_true c;obtain ⟨r,hrv⟩:∃ r,d[v]? = some r:=⟨d[v]'(by omega),by simp⟩;have hrm:r ∈ d:=List.mem_of_getElem? hrv
  have hstep:MgI (d.take (v+1)) (oG out r):=by
   rw [dC hrv];refine aE4 hI (hdlt r hrm) λp hp'=>?_;obtain ⟨i,hi⟩:=List.mem_iff_getElem?.1 hp'
   have hlt:i<v:=by
    have:=(List.getElem?_eq_some_iff.1 hi).1;simp at this;omega
   rw [List.getElem?_take_of_lt hlt] at hi;obtain ⟨hi1,hi2⟩:=List.getElem?_eq_some_iff.1 hi;obtain ⟨hv1,hv2⟩:=List.getElem?_eq_some_iff.1 hrv;have:=List.pairwise_iff_getElem.1 hd i v hi1 hv1 hlt;rw [hi2,hv2] at this;exact this
  refine ⟨λo' h'=>∃ out',out'=oG out r/\out'.length<=v+1/\(o'.a=none->out'=[])/\Own (SlO o' 2 (dB out')::SlO s3 2 (dB d)::l) h',?_,?_⟩
  ·intro o' A5 ⟨out',f1,f2,f3,h5⟩;refine ⟨m-1,by omega,v+1,out',by rw [bG]<;>omega,by omega,?_,f2,f3,h5⟩;rw [f1];exact hstep
  ·obtain ⟨a,q1,r1,r2⟩:=vG (k:=1) h4 rfl bS hrv;rw [q1];refine inB_in (by omega) c (r1 _ (r2 _ ?_));refine ⟨λb h'=>h'=A4/\b=(match out.getLast? with | some q=>decide (r.1<=q.2) | none=>false),?_,?_⟩
   ·intro b A5 ⟨f1,f2⟩;subst f1;cases hlast:out.getLast? with
    | none=>
     rw [hlast] at f2;subst f2;refine bsel_f rfl ?_;refine mX h4 hon (by omega) λs' A6 g1 h6=>?_;exact ⟨out++[r],(aIo hlast).symm,by simp;omega,g1,h6⟩
    | some q=>
     rw [hlast] at f2;have hmg:oG out r=if r.1<=q.2 then out.dropLast++[(q.1,if r.2 > q.2 then r.2 else q.2)] else out++[r]:=by unfold oG;rw [hlast]
     obtain ⟨ol,hol'⟩:=List.getLast?_eq_some_iff.1 hlast;have hpos:0<out.length:=by rw [hol'];simp
     have hqi:out[out.length-1]? = some q:=by rw [hol'];simp
     by_cases hle:r.1<=q.2
     ·refine aN (by rw [f2];simpa using hle) ?_
      have hw:IntKind.wrap .i64 (Int.ofNat o.len-1)=((out.length-1:Nat):Int):=by
       rw [bG]<;>simp only [Int.ofNat_eq_natCast]<;>omega
      rw [hw];obtain ⟨a2,q2,t1,t2⟩:=vG (k:=0) h4 rfl bS hqi;rw [q2];refine inB_in (by omega) (by omega) (t2 _ ?_);refine inB_in (by omega) (by omega) ?_
      have had:Addr.add (Addr.add a2 (Int.toNat ((out.length-1:Nat):Int)*2)) 1=Addr.add a2 ((out.length-1)*2+1):=by
       obtain ⟨b,rest,ha,_⟩:=h4.openS (λg=>by have:=tZ g;rw [this] at hpos;simp at hpos);rw [q2] at ha;cases ha;rw [add_at,add_at,add_at,Int.toNat_natCast];congr 1
      rw [had];refine aCf h4 q2 (by rw [cI];omega) rfl λA6 h6=>?_;rw [aAu _ hqi] at h6;refine ⟨_,rfl,?_,λg=>?_,?_⟩
      ·rw [hmg,if_pos hle,hol'];simp;rw [hol'] at hol;simp at hol;omega
      ·rw [q2] at g;cases g
      ·rw [hmg,if_pos hle]
       have:out.set (out.length-1) (q.1,if r.2 > q.2 then r.2 else q.2)=out.dropLast++[(q.1,if r.2 > q.2 then r.2 else q.2)]:=by
        rw [hol'];simp [List.dropLast_concat,List.set_append_right]
       rw [<-this];exact h6
     ·refine bsel_f (by rw [f2];simpa using hle) ?_;refine mX h4 hon (by omega) λs' A6 g1 h6=>?_;exact ⟨out++[r],by rw [hmg,if_neg hle],by simp;omega,g1,h6⟩
   ·refine aG (λg=>?_) λg=>?_
    ·have g:(0:Int)<o.len:=by simpa using g
     have hpos:0<out.length:=by omega
     obtain ⟨q,hq⟩:∃ q,out.getLast? = some q:=by
      cases e':out.getLast? with
      | none=>rw [List.getLast?_eq_none_iff.1 e'] at hpos;simp at hpos
      | some q=>exact ⟨q,rfl⟩
     obtain ⟨ol,hol'⟩:=List.getLast?_eq_some_iff.1 hq;have hqi:out[out.length-1]? = some q:=by rw [hol'];simp
     have hw:IntKind.wrap .i64 (Int.ofNat o.len-1)=((out.length-1:Nat):Int):=by
      rw [bG]<;>simp only [Int.ofNat_eq_natCast]<;>omega
     rw [hw];obtain ⟨a2,q2,t1,t2⟩:=vG (k:=0) h4 rfl bS hqi;rw [q2];exact inB_in (by omega) (by omega) (t2 _ ⟨rfl,by rw [hq]⟩)
    ·have g:¬ (0:Int)<o.len:=by simpa using g
     have h0:out=[]:=List.length_eq_zero_iff.1 (by omega);exact ⟨rfl,by rw [h0];rfl⟩
 ·have c:¬(v:Int)<s3.len:=of_decide_eq_false c;have hv:v=d.length:=by omega
  subst hv;rw [List.take_length] at hI;exact hk out hI.nf (λn=>(hI.mem n).trans (hmem n)) (by omega) o A4 hon (h4.cons λC hC=>hC.tail)
end Go.Dn
namespace Go.Dn
variable {A:AH} {l:List SP} {P P2:SP} {k k2:Nat} {s s2:Sl} {L AW:List Rg}
theorem aEs {Q:Sl->AH->Prop} (h:Own l A) (e:l[k]? = some P) (hr:bI P s 2 (dB L)) (hb:L.length<=100000) (hn:s.a=none->L=[])
  (e2:l[k2]? = some P2) (hr2:bI P2 s2 2 (dB AW)) (hb2:AW.length<=100000) (hn2:s2.a=none->AW=[]) (hbb:L.length*(AW.length+1)<=900000)
  (hk:∀ m:List Rg,NF m->(∀ n,memR m n↔memR L n/\¬ memR AW n)->m.length<=L.length*(AW.length+1)->∀ s' A',(s'.a=none->m=[])->Own (SlO s' 2 (dB m)::l) A'->Q s' A'):qal_A s s2 Q A:=by
 unfold qal_A qal_G;refine vT h e2 hr2 (by omega) hn2 λcut hcut hcm hcl s1 A1 hs1 h1=>?_;refine vT (k:=k+1) h1 (by simpa using e) hr (by omega) hn λml hml hmm hmll s3 A2 hs3 h2=>?_;have hl3:=h2.rgs_len;have hN:∀ v:Nat,v<=ml.length->v*(cut.length+1)<=L.length*(AW.length+1):=λv hv=>Nat.mul_le_mul (Nat.le_trans hv hmll) (Nat.add_le_add_right hcl 1);generalize L.length*(AW.length+1)=BB at *;obtain ⟨N,hNe⟩:∃ N,N=cut.length+1:=⟨_,rfl⟩;rw [<-hNe] at hN
 refine ⟨λo x m h'=>∃ (v:Nat) (out:List Rg),x=v/\m+v=ml.length/\LsO cut (ml.take v) out/\out.length<=v*N/\(o.a=none->out=[])/\Own (SlO o 2 (dB out)::SlO s3 2 (dB ml)::SlO s1 2 (dB cut)::l) h',
  ⟨ml.length,0,[],rfl,by omega,by simpa using LsO.nil,by simp,λ_=>rfl,h2.nilS⟩,?_⟩
 intro o x m A3 ⟨v,out,e3,e4,hI,hol,hon,h3⟩;subst e3;refine aG (λc=>?_) λc=>?_
 ·have c:(v:Int)<s3.len:=of_decide_eq_true c;obtain ⟨r,hrv⟩:∃ r,ml[v]? = some r:=⟨ml[v]'(by omega),by simp⟩;have hrm:r ∈ ml:=List.mem_of_getElem? hrv;have hr12:=hml.1 r hrm;have hNv:=hN (v+1) (by omega);rw [Nat.add_mul,Nat.one_mul] at hNv
  have hpre:∀ p ∈ ml.take v,p.2<r.1:=λp hp=>by
   obtain ⟨i,hi⟩:=List.mem_iff_getElem?.1 hp
   have hlt:i<v:=by
    have:=(List.getElem?_eq_some_iff.1 hi).1;simp at this;omega
   rw [List.getElem?_take_of_lt hlt] at hi;obtain ⟨hi1,hi2⟩:=List.getElem?_eq_some_iff.1 hi;obtain ⟨hv1,hv2⟩:=List.getElem?_eq_some_iff.1 hrv;have:=List.pairwise_iff_getElem.1 hml.2 i v hi1 hv1 hlt;rw [hi2,hv2] at this;exact this
  refine ⟨λo' h'=>∃ out',LsO cut (ml.take (v+1)) out'/\out'.length<=v*N+N/\(o'.a=none->out'=[])/\Own (SlO o' 2 (dB out')::SlO s3 2 (dB ml)::SlO s1 2 (dB cut)::l) h',?_,?_⟩
  ·intro o' A4 ⟨out',f1,f2,f3,h4⟩;exact ⟨m-1,by omega,v+1,out',by rw [bG]<;>omega,by omega,f1,by rw [Nat.add_mul,Nat.one_mul];exact f2,f3,h4⟩
  ·obtain ⟨a,q1,r1,r2⟩:=vG (k:=1) h3 rfl bS hrv;rw [q1];refine inB_in (by omega) c (r1 _ (r2 _ ?_))
   refine ⟨λo' at_ y m' h'=>∃ (w:Nat) (out':List Rg),y=w/\m'+w=cut.length/\LsI (memR (ml.take v)) r cut (cut.take w) out' at_/\out'.length<=v*N+w/\(o'.a=none->out'=[])/\Own (SlO o' 2 (dB out')::SlO s3 2 (dB ml)::SlO s1 2 (dB cut)::l) h',
    ⟨cut.length,0,out,rfl,by omega,by simpa using hI.start hr12 hpre,by omega,hon,h3⟩,?_⟩
   intro o' at_ y m' A4 ⟨w,out',e5,e6,hI2,hol2,hon2,h4⟩;subst e5;have hlc:s1.len=cut.length:=mQ (k:=2) h4 rfl bS;refine aG (λd=>?_) λd=>?_
   ·have d:(w:Int)<s1.len:=of_decide_eq_true d;obtain ⟨cc,hcv⟩:∃ cc,cut[w]? = some cc:=⟨cut[w]'(by omega),by simp⟩;have hsplit:cut=cut.take w++cc::cut.drop (w+1):=by rw [<-aDW hcv,List.take_append_drop]
    refine ⟨λo2 at2 h'=>∃ out2,LsI (memR (ml.take v)) r cut (cut.take (w+1)) out2 at2/\out2.length<=v*N+(w+1)/\(o2.a=none->out2=[])/\Own (SlO o2 2 (dB out2)::SlO s3 2 (dB ml)::SlO s1 2 (dB cut)::l) h',?_,?_⟩
    ·intro o2 at2 A5 ⟨out2,f1,f2,f3,h5⟩;exact ⟨m'-1,by omega,w+1,out2,by rw [bG]<;>omega,by omega,f1,by omega,f3,h5⟩
    ·obtain ⟨a2,q2,t1,t2⟩:=vG (k:=2) h4 rfl bS hcv;rw [q2];refine inB_in (by omega) d (t1 _ (t2 _ ?_));refine aG (λg=>?_) λg=>?_
     ·have g:cc.2<=at_:=of_decide_eq_true g;exact ⟨out',by rw [dC hcv];exact hI2.skip (.inl g),by omega,hon2,h4⟩
     have g:¬ cc.2<=at_:=of_decide_eq_false g;refine aG (λg2=>?_) λg2=>?_
     ·have g2:cc.1>=r.2:=of_decide_eq_true g2;exact ⟨out',by rw [dC hcv];exact hI2.skip (.inr g2),by omega,hon2,h4⟩
     have g2:¬ cc.1>=r.2:=of_decide_eq_false g2;have hmax:(if cc.2 > at_ then cc.2 else at_)=cc.2:=if_pos (by omega);refine ⟨λo2 h'=>∃ out2,LsI (memR (ml.take v)) r cut (cut.take (w+1)) out2 cc.2/\out2.length<=v*N+(w+1)/\(o2.a=none->out2=[])/\Own (SlO o2 2 (dB out2)::SlO s3 2 (dB ml)::SlO s1 2 (dB cut)::l) h',?_,?_⟩
     ·intro o2 A5 ⟨out2,f1,f2,f3,h5⟩;rw [hmax];exact ⟨out2,f1,f2,f3,h5⟩
     ·refine aG (λg3=>?_) λg3=>?_
      ·have g3:cc.1 > at_:=of_decide_eq_true g3;refine mX h4 hon2 (by omega) λs' A6 j1 h6=>?_;exact ⟨_,by rw [dC hcv];exact hI2.far hsplit hcut g g2 g3,by simp;omega,j1,h6⟩
      ·have g3:¬ cc.1 > at_:=of_decide_eq_false g3;exact ⟨out',by rw [dC hcv];exact hI2.near hsplit g g3,by omega,hon2,h4⟩
   ·have d:¬ (w:Int)<s1.len:=of_decide_eq_false d;have hw:w=cut.length:=by omega
    subst hw;rw [List.take_length] at hI2;refine aG (λg=>?_) λg=>?_
    ·have g:at_<r.2:=of_decide_eq_true g;refine mX h4 hon2 (by omega) λs' A6 j1 h6=>?_;exact ⟨_,by rw [dC hrv];exact hI2.rest hI2.hi g,by simp;omega,j1,h6⟩
    ·have g:¬ at_<r.2:=of_decide_eq_false g;exact ⟨out',by rw [dC hrv];exact hI2.none g,by omega,hon2,h4⟩
 ·have c:¬(v:Int)<s3.len:=of_decide_eq_false c;have hv:v=ml.length:=by omega
  subst hv;rw [List.take_length] at hI;have:=hN ml.length (Nat.le_refl _);exact hk out hI.nf (λn=>by rw [hI.mem n,hmm n,hcm n]) (by omega) o A3 hon (h3.cons λC hC=>hC.tail.tail)
end Go.Dn
namespace Go.Dn
abbrev Ar:=Int × Int × Int
variable {A:AH} {l:List SP} {P:SP} {k k2:Nat} {s:Sl} {bs:List Int}
def rC (L:List Ar):List Value:=L.flatMap eL
def xF (x:Ar):Bool:=!decide (IntKind.u64.wrap (x.1+x.2.1)<x.1)
theorem qW {x:Ar}:xF x=true↔areaOK x:=by simp [xF,areaOK]
def parseP (bs:List Int):Int × List Ar:=
 if 1280<bs.length then (4,[]) else if bs.length % 20≠0 then (14,[]) else
 if (jA (bs.length / 20)).all (λi=>xF (areaZ bs i)) then (0,(jA (bs.length / 20)).map (areaZ bs)) else (3,[])
theorem aAH:∀ L:List Ar,(rC L).length=L.length*3
 | []=>rfl
 | y::L=>by
  have:=aAH L;unfold rC at this ⊢;rw [List.flatMap_cons,List.length_append,this];simp [eL];omega
theorem tN:∀ {L:List Ar} {v:Nat} {y:Ar} {c:Nat} {x:Value},L[v]? = some y->(eL y)[c]? = some x->(rC L)[v*3+c]? = some x
 | [],v,a,c,x,h,_=>by simp at h
 | b::r,0,a,c,x,h,hc=>by
  simp at h;subst h;have hlt:c<3:=(List.getElem?_eq_some_iff.1 hc).1;unfold rC;rw [List.flatMap_cons,List.getElem?_append_left (by simp [eL];omega),Nat.zero_mul,Nat.zero_add];exact hc
 | b::r,v+1,a,c,x,h,hc=>by
  have h:r[v]? = some a:=by simpa using h
  unfold rC;rw [List.flatMap_cons,List.getElem?_append_right (by simp [eL];omega)];have:(v+1)*3+c-(eL b).length=v*3+c:=by simp [eL];omega
  rw [this];exact tN h hc
theorem aLq {L:List Ar} {v:Nat} {y:Ar} (h:Own l A) (e:l[k]? = some P) (hr:bI P s 3 (rC L)) (hv:L[v]? = some y) :
  ∃ a,s.a=some a/\(∀ K:Int->Prop,K y.1->aI .u64 (Addr.add a (Int.toNat (v:Int)*3)) A K)/\(∀ K:Int->Prop,K y.2.1->aI .u64 (Addr.add (Addr.add a (Int.toNat (v:Int)*3)) 1) A K)/\
   ∀ K:Int->Prop,K y.2.2->aI .u32 (Addr.add (Addr.add a (Int.toNat (v:Int)*3)) 2) A K:=by
 obtain ⟨bb,o,q1,c0⟩:=bW h e hr (j:=v*3+0) (tN hv (c:=0) rfl);obtain ⟨b2,o2,q2,c1⟩:=bW h e hr (j:=v*3+1) (tN hv (c:=1) rfl);obtain ⟨b3,o3,q3,c2⟩:=bW h e hr (j:=v*3+2) (tN hv (c:=2) rfl);rw [q1] at q2 q3;cases q2;cases q3;refine ⟨_,q1,λK hK=>⟨_,?_,hK⟩,λK hK=>⟨_,?_,hK⟩,λK hK=>⟨_,?_,hK⟩⟩
 ·rw [add_at,Int.toNat_natCast];exact c0
 ·rw [add_at,add_at,Int.toNat_natCast,Nat.add_assoc];exact c1
 ·rw [add_at,add_at,Int.toNat_natCast,Nat.add_assoc];exact c2
theorem aEF {L:List Ar} (h:Own l A) (e:l[k]? = some P) (hr:bI P s 3 (rC L)):s.len=L.length:=by
 have:=eV h e hr;rw [aAH] at this;omega
def byV (x:Int):Value:=.int .u8 x
theorem aCE {K:Sl->Int->AP} (h:Own l A) (e:l[k]? = some P) (hr:bI P s 1 (bs.map byV)) (hcap:s.len<=s.cap) (hn:s.a=none->bs=[]) (hb:∀ x ∈ bs,0<=x/\x<256)
  (hk:∀ s' A',(s'.a=none->(parseP bs).2=[])->Own (SlO s' 3 (rC (parseP bs).2)::l) A'->K s' (parseP bs).1 A'):qad_A s K A:=by
 have hl:s.len=bs.length:=by have:=eV h e hr;simp at this;omega
 obtain ⟨B,u,hB⟩:=h.get e
 have hrow:lC A s.a s.len (bs.map (.int .u8)):=by
  have h1:=hr B A hB u;have h2:=zR h1 (λg=>by rw [hn g];rfl);rw [Nat.mul_one] at h2;exact h2
 unfold qad_A;refine ⟨bs,hl.symm,hcap,hb,hrow,λg=>?_,λg1 g2=>?_,λg1 g2 g3=>?_,λg1 g2 g3=>⟨λg4=>?_,λcap cur g4 g5 g6 g7=>?_⟩⟩
 ·have hp:parseP bs=(4,[]):=by unfold parseP;rw [if_pos g]
  rw [hp] at hk;exact hk Sl.nil A (λ_=>rfl) h.nilS
 ·have hp:parseP bs=(14,[]):=by unfold parseP;rw [if_neg (by omega),if_pos g2]
  rw [hp] at hk;exact hk Sl.nil A (λ_=>rfl) h.nilS
 ·have hp:parseP bs=(3,[]):=by
   unfold parseP;rw [if_neg (by omega),if_neg (by omega),if_neg];intro g4;obtain ⟨i,hi,hbad⟩:=g3;exact hbad (qW.1 (List.all_eq_true.1 g4 i (by simpa [jA] using hi)))
  rw [hp] at hk;exact hk Sl.nil A (λ_=>rfl) h.nilS
 all_goals
  have hp:parseP bs=(0,(jA (bs.length / 20)).map (areaZ bs)):=by
   unfold parseP;rw [if_neg (by omega),if_neg (by omega),if_pos];exact List.all_eq_true.2 λi hi=>qW.2 (g3 i (by simpa [jA] using hi))
  rw [hp] at hk
 ·rw [g4] at hk;exact hk Sl.nil A (λ_=>rfl) h.nilS
 ·intro g hg;have hC:rC ((jA (bs.length / 20)).map (areaZ bs))=(jA (bs.length / 20)).flatMap λi=>eL (areaZ bs i):=by unfold rC;rw [List.flatMap_map]
  refine hk _ _ (λq=>nomatch q) ?_
  dsimp only
  rw [hC,<- g7]
  have hlen:(cur.toList.take (bs.length / 20*3)).length=bs.length / 20*3:=by
   have hc:cur.toList.length=cap*3:=g6;rw [List.length_take,hc];have:=Nat.mul_le_mul_right 3 g5;omega
  have h2:(cur.toList.take (bs.length / 20*3)++cur.toList.drop (bs.length / 20*3)).toArray=cur:=by rw [List.take_append_drop]
  have h3:(cur.toList.take (bs.length / 20*3)++cur.toList.drop (bs.length / 20*3)).length=cap*3:=by rw [List.take_append_drop];exact g6
  exact h.new hg λB hB=>⟨⟨hlen.symm,g5⟩,.inr ⟨g,cur.toList.drop (bs.length / 20*3),rfl,h3,⟨_,by rw [h2];exact hB⟩⟩⟩
theorem aLK {n m:Nat} (h:n<=m):(256:Int) ^ n<=256 ^ m:=by
 have h1:(256:Nat) ^ n<=256 ^ m:=Nat.pow_le_pow_right (by omega) h;have h2:∀ k:Nat,((256 ^ k:Nat):Int)=(256:Int) ^ k:=λk=>by simp
 rw [<-h2,<- h2];omega
theorem aDR:∀ (l:List Int),(∀ x ∈ l,0<=x/\x<256)->0<=fV l/\fV l<256 ^ l.length
 | [],_=>by simp [fV]
 | b::r,h=>by
  obtain ⟨h1,h2⟩:=h b (by simp);obtain ⟨h3,h4⟩:=aDR r (λx hx=>h x (by simp [hx]));simp only [fV,List.length_cons];rw [Int.pow_succ];omega
def frP (a:Ar) (most:Int):Rg:=
 let f:=if a.2.2=1 then (a.1+4095) / 4096 else a.1 / 4096
 let t:=if a.2.1=0 then f else if a.2.2=1 then (a.1+a.2.1) / 4096 else (a.1+a.2.1+4095) / 4096
 (if most<f then most else f,if most<t then most else t)
def ArB (a:Ar):Prop:=0<=a.1/\0<=a.2.1/\a.1+a.2.1<18446744073709551616/\0<=a.2.2/\a.2.2<4294967296
theorem aBC {a:Ar} {most:Int} {Q:Int->Int->AH->Prop} (ha:ArB a) (h1:1<=most) (h2:most<=2097152) (hk:Q (frP a most).1 (frP a most).2 A):qae_A a.1 a.2.1 a.2.2 most Q A:=by
 obtain ⟨x,n,kd⟩:=a;obtain ⟨a1,a2,a3,a4,a5⟩:=ha;simp only at a1 a2 a3 a4 a5 hk ⊢;unfold qae_A;have w1:IntKind.wrap .u64 (x+n)=x+n:=cQ (by omega) (by omega);have w2:IntKind.wrap .u64 most=most:=cQ (by omega) (by omega);have t1:Int.tdiv x 4096=x / 4096:=jE a1;have t2:Int.tdiv (x+n) 4096=(x+n) / 4096:=jE (by omega);have m1:Int.tmod x 4096=x % 4096:=oU a1;have m2:Int.tmod (x+n) 4096=(x+n) % 4096:=oU (by omega);have w3:IntKind.wrap .u64 (x / 4096)=x / 4096:=cQ (by omega) (by omega);have w4:IntKind.wrap .u64 ((x+n) / 4096)=(x+n) / 4096:=cQ (by omega) (by omega);have w5:IntKind.wrap .u64 (x / 4096+1)=x / 4096+1:=cQ (by omega) (by omega);have w6:IntKind.wrap .u64 ((x+n) / 4096+1)=(x+n) / 4096+1:=cQ (by omega) (by omega);rw [w1,w2,t1,t2,m1,m2,w3,w4,w5,w6];have hmin:∀ y:Int,0<=y->IntKind.wrap .i64 (if most<y then most else y)=if most<y then most else y:=λy hy=>by rw [bG]<;>split<;>omega
 refine ⟨λf t h'=>h'=A/\0<=f/\0<=t/\f=(if kd=1 then (x+4095) / 4096 else x / 4096)/\(n≠0->t=if kd=1 then (x+n) / 4096 else (x+n+4095) / 4096),?_,?_⟩
 ·intro f t A1 ⟨e1,e2,e3,e4,e5⟩;subst e1;refine ⟨λt' h'=>h'=A1/\0<=t'/\t'=if n=0 then f else if kd=1 then (x+n) / 4096 else (x+n+4095) / 4096,?_,?_⟩
  ·intro t' A2 ⟨f1,f2,f3⟩;subst f1;rw [hmin f e2,hmin t' f2,f3,e4];exact hk
  ·refine aG (λg=>?_) λg=>?_
   ·have g:n=0:=by simpa using g
    exact ⟨rfl,e2,by rw [if_pos g]⟩
   ·have g:n≠0:=by simpa using g
    exact ⟨rfl,e3,by rw [if_neg g];exact e5 g⟩
 ·refine aG (λg=>aG (λg2=>?_) λg2=>?_) λg=>aG (λg2=>?_) λg2=>?_
  ·have g:kd=1:=by simpa using g
   have g2:x % 4096≠0:=by simpa using g2
   exact ⟨rfl,by omega,by omega,by rw [if_pos g];omega,λ_=>by rw [if_pos g]⟩
  ·have g:kd=1:=by simpa using g
   have g2:x % 4096=0:=by simpa using g2
   exact ⟨rfl,by omega,by omega,by rw [if_pos g];omega,λ_=>by rw [if_pos g]⟩
  ·have g:kd≠1:=by simpa using g
   have g2:(x+n) % 4096≠0:=by simpa using g2
   exact ⟨rfl,by omega,by omega,by rw [if_neg g],λ_=>by rw [if_neg g];omega⟩
  ·have g:kd≠1:=by simpa using g
   have g2:(x+n) % 4096=0:=by simpa using g2
   exact ⟨rfl,by omega,by omega,by rw [if_neg g],λ_=>by rw [if_neg g];omega⟩
theorem aFN (hb:∀ x ∈ bs,0<=x/\x<256) {a:Ar} (ha:a ∈ (parseP bs).2):ArB a:=by
 unfold parseP at ha;split at ha
 ·cases ha
 split at ha
 ·cases ha
 split at ha
 ·rename_i h1 h2 h3;obtain ⟨i,hi,rfl⟩:=List.mem_map.1 ha;have h4:=qW.1 (List.all_eq_true.1 h3 i hi)
  have bd:∀ o r:Nat,r<=8->0<=fV ((bs.drop o).take r)/\fV ((bs.drop o).take r)<256 ^ r:=λo r hr=>by
   obtain ⟨g1,g2⟩:=aDR ((bs.drop o).take r) (λy hy=>hb y (List.mem_of_mem_drop (List.mem_of_mem_take hy)));exact ⟨g1,Int.lt_of_lt_of_le g2 (aLK (by simp;omega))⟩
  have b1:=bd (20*i) 8 (by omega);have b2:=bd (20*i+8) 8 (by omega);have b3:=bd (20*i+16) 4 (by omega);rw [show (256:Int) ^ 8=18446744073709551616 from rfl] at b1 b2;rw [show (256:Int) ^ 4=4294967296 from rfl] at b3;have h5:¬ IntKind.u64.wrap ((areaZ bs i).1+(areaZ bs i).2.1)<(areaZ bs i).1:=h4;refine ⟨b1.1,b2.1,?_,b3.1,b3.2⟩;have c1:(areaZ bs i).1=fV ((bs.drop (20*i)).take 8):=rfl;have c2:(areaZ bs i).2.1=fV ((bs.drop (20*i+8)).take 8):=rfl;rw [<-c1] at b1;rw [<-c2] at b2;rcases Int.lt_or_le ((areaZ bs i).1+(areaZ bs i).2.1) 18446744073709551616 with g | g
  ·exact g
  ·exfalso;refine h5 ?_;rw [aDs];omega
 ·cases ha
theorem aCp:(parseP bs).2.length<=64:=by
 unfold parseP;split
 ·simp
 split
 ·simp
 split
 ·simp [jA];omega
 ·simp
def nA (ars:List Ar) (f:Int):List Rg:=(ars.filter λa=>a.2.2==1).map λa=>frP a f
def gE (ars:List Ar) (f:Int) (kn:Rg):List Rg:=kn::(ars.filter λa=>!(a.2.2==1)).map λa=>frP a f
def kP (f:Int) (kn:Rg):Prop:=f<1\/f > 1048576\/kn.1<0\/kn.2<kn.1\/kn.2 > f
def aDn (bs:List Int) (f:Int) (kn:Rg) (e:Int) (m:List Rg):Prop:=
 (kP f kn/\e=1/\m=[])\/(¬ kP f kn/\(parseP bs).1≠0/\e=(parseP bs).1/\m=[])\/
 (¬ kP f kn/\(parseP bs).1=0/\NF m/\(∀ n,memR m n↔memR (nA (parseP bs).2 f) n/\¬ memR (gE (parseP bs).2 f kn) n)/\e=if m=[] then 7 else 0)
theorem aBE {f:Int} {kn:Rg} {Q:Sl->Int->AH->Prop} (h:Own l A) (e:l[k]? = some P) (hr:bI P s 1 (bs.map byV)) (hcap:s.len<=s.cap) (hn:s.a=none->bs=[]) (hb:∀ x ∈ bs,0<=x/\x<256)
  (hk:∀ er m s' A',aDn bs f kn er m->m.length<=4224->(s'.a=none->m=[])->Own (SlO s' 2 (dB m)::l) A'->Q s' er A'):qam_A s f kn.1 kn.2 Q A:=by
 unfold qam_A qam_G;have nil:∀ er (A':AH),Own l A'->aDn bs f kn er []->Q Sl.nil er A':=λer A' h' ho=>hk er [] Sl.nil A' ho (by simp) (λ_=>rfl) h'.nilS;refine ⟨λh'=>Own l h'/\¬ kP f kn,?_,?_⟩
 ·intro A1 ⟨h1,hbad⟩;have hf:1<=f/\f<=1048576:=by unfold kP at hbad;omega
  refine aCE h1 e hr hcap hn hb λs3 A2 hs3 h2=>?_;refine aG (λg=>?_) λg=>?_
  ·have g:(parseP bs).1≠0:=by simpa using g
   exact nil _ A2 h2.tail (.inr (.inl ⟨hbad,g,rfl,rfl⟩))
  ·have g:(parseP bs).1=0:=by simpa using g
   have hl3:=aEF (k:=0) h2 rfl bS;have h64:=aCp (bs:=bs);refine aX (cs:=[.int .i64 kn.1,.int .i64 kn.2]) h2 λb A3 h3=>?_;have h3':Own (SlO ⟨some ⟨b,0,none⟩,1,1⟩ 2 (dB [kn])::SlO s3 3 (rC (parseP bs).2)::l) A3:=h3.imp λB hB=>⟨⟨rfl,Nat.le_refl _⟩,.inr ⟨b,[],rfl,rfl,hB⟩⟩
   refine ⟨λu w x m h'=>∃ v:Nat,x=v/\m+v=(parseP bs).2.length/\(u.a=none->nA ((parseP bs).2.take v) f=[])/\(w.a=none->gE ((parseP bs).2.take v) f kn=[])/\
     Own (SlO u 2 (dB (nA ((parseP bs).2.take v) f))::SlO w 2 (dB (gE ((parseP bs).2.take v) f kn))::SlO s3 3 (rC (parseP bs).2)::l) h',
    ⟨(parseP bs).2.length,0,rfl,by omega,λ_=>rfl,λg=>(nomatch g),by have h9:=h3'.nilS (sz:=2);simp only [nA,gE,List.take_zero,List.filter_nil,List.map_nil];exact h9⟩,?_⟩
   intro u w x m A4 ⟨v,e1,e2,hu,hw,h4⟩;subst e1
   have hul:∀ v,(nA ((parseP bs).2.take v) f).length<=64:=λv=>by
    unfold nA;rw [List.length_map];have:=List.length_filter_le (λa:Ar=>a.2.2==1) ((parseP bs).2.take v);have:=(List.take_sublist v (parseP bs).2).length_le;omega
   have hwl:∀ v,(gE ((parseP bs).2.take v) f kn).length<=65:=λv=>by
    unfold gE;rw [List.length_cons,List.length_map];have:=List.length_filter_le (λa:Ar=>!(a.2.2==1)) ((parseP bs).2.take v);have:=(List.take_sublist v (parseP bs).2).length_le;omega
   refine aG (λc=>?_) λc=>?_
   ·have c:(v:Int)<s3.len:=of_decide_eq_true c;obtain ⟨a,hav⟩:∃ a,(parseP bs).2[v]? = some a:=⟨(parseP bs).2[v]'(by omega),by simp⟩;have haB:ArB a:=aFN hb (List.mem_of_getElem? hav)
    refine ⟨λu' w' h'=>(u'.a=none->nA ((parseP bs).2.take (v+1)) f=[])/\(w'.a=none->gE ((parseP bs).2.take (v+1)) f kn=[])/\
     Own (SlO u' 2 (dB (nA ((parseP bs).2.take (v+1)) f))::SlO w' 2 (dB (gE ((parseP bs).2.take (v+1)) f kn))::SlO s3 3 (rC (parseP bs).2)::l) h',?_,?_⟩
    ·intro u' w' A5 ⟨f1,f2,h5⟩;exact ⟨m-1,by omega,v+1,by rw [bG]<;>omega,by omega,f1,f2,h5⟩
    ·obtain ⟨ad,q1,r1,r2,r3⟩:=aLq (k:=2) h4 rfl bS hav;rw [q1];refine inB_in (by omega) c (r1 _ (r2 _ (r3 _ ?_)));refine aBC haB hf.1 (by omega) ?_;refine aG (λg2=>?_) λg2=>?_
     ·have hU:nA ((parseP bs).2.take (v+1)) f=nA ((parseP bs).2.take v) f++[((frP a f).1,(frP a f).2)]:=by
       rw [dC hav];unfold nA;rw [List.filter_append,List.map_append];simp [List.filter_cons,g2]
      have hW:gE ((parseP bs).2.take (v+1)) f kn=gE ((parseP bs).2.take v) f kn:=by
       rw [dC hav];unfold gE;rw [List.filter_append];simp [List.filter_cons,g2]
      refine mX h4 hu (by have:=hul v;omega) λs' A6 j1 h6=>?_;rw [hU,hW];exact ⟨j1,hw,h6⟩
     ·have hU:nA ((parseP bs).2.take (v+1)) f=nA ((parseP bs).2.take v) f:=by
       rw [dC hav];unfold nA;rw [List.filter_append];simp [List.filter_cons,g2]
      have hW:gE ((parseP bs).2.take (v+1)) f kn=gE ((parseP bs).2.take v) f kn++[((frP a f).1,(frP a f).2)]:=by
       rw [dC hav];unfold gE;rw [List.filter_append,List.map_append];simp [List.filter_cons,g2]
      refine mX h4.swap hw (by have:=hwl v;omega) λs' A6 j1 h6=>?_;rw [hU,hW];exact ⟨hu,j1,h6.swap⟩
   ·have c:¬(v:Int)<s3.len:=of_decide_eq_false c;have hv:v=(parseP bs).2.length:=by omega
    subst hv;rw [List.take_length] at hu hw h4;have hul:=hul (parseP bs).2.length;have hwl:=hwl (parseP bs).2.length;rw [List.take_length] at hul hwl;refine aEs (k:=0) (k2:=1) h4 rfl bS (by omega) hu rfl bS (by omega) hw (Nat.le_trans (Nat.mul_le_mul hul (Nat.add_le_add_right hwl 1)) (by omega)) λm' hm hmm hml s' A5 hs' h5=>?_;have hml:m'.length<=64*66:=Nat.le_trans hml (Nat.mul_le_mul hul (Nat.add_le_add_right hwl 1));have hl5:=h5.rgs_len;have h6:Own (SlO s' 2 (dB m')::l) A5:=h5.cons λC hC=>hC.tail.tail.tail;refine aG (λg2=>?_) λg2=>?_
    ·have g2:(s'.len:Int)=0:=by simpa using g2
     have h0:m'=[]:=List.length_eq_zero_iff.1 (by omega);subst h0;exact nil _ A5 h6.tail (.inr (.inr ⟨hbad,g,hm,hmm,by simp⟩))
    ·have g2:(s'.len:Int)≠0:=by simpa using g2
     have h0:m'≠[]:=λq=>by subst q;simp at hl5;omega
     exact hk _ m' s' A5 (.inr (.inr ⟨hbad,g,hm,hmm,by rw [if_neg h0]⟩)) (by omega) hs' h6
 ·have bad1:kP f kn->Q Sl.nil 1 A:=λg=>nil _ A h (.inl ⟨g,rfl,rfl⟩);refine aG (λg=>bad1 (.inl (of_decide_eq_true g))) λg1=>aG (λg=>bad1 (.inr (.inl (of_decide_eq_true g)))) λg2=>aG (λg=>bad1 (.inr (.inr (.inl (of_decide_eq_true g))))) λg3=>aG (λg=>bad1 (.inr (.inr (.inr (.inl (of_decide_eq_true g)))))) λg4=>aG (λg=>bad1 (.inr (.inr (.inr (.inr (of_decide_eq_true g)))))) λg5=>⟨h,?_⟩;have g1:=of_decide_eq_false g1;have g2:=of_decide_eq_false g2;have g3:=of_decide_eq_false g3;have g4:=of_decide_eq_false g4;have g5:=of_decide_eq_false g5;unfold kP;omega
end Go.Dn
namespace Go.Dn
variable {A:AH} {l:List SP} {k:Nat}
def leB:Nat->Int->List Int
 | 0,_=>[]
 | k+1,n=>n % 256::leB k (n / 256)
theorem cR:∀ (k:Nat) (n:Int),(leB k n).length=k
 | 0,_=>rfl
 | k+1,n=>by simp [leB,cR k]
theorem tO:∀ (k:Nat) (n:Int) (i:Nat),i<k->(leB k n)[i]? = some (n / 2 ^ (8*i) % 256)
 | 0,_,_,h=>by omega
 | k+1,n,0,_=>by simp [leB]
 | k+1,n,i+1,h=>by
  have h1:=tO k (n / 256) i (by omega)
  have h2:n / 256 / 2 ^ (8*i)=n / 2 ^ (8*(i+1)):=by
   rw [Int.ediv_ediv_of_nonneg (by omega)];congr 1;rw [Nat.mul_add,Int.pow_add,Int.mul_comm];rfl
  rw [h2] at h1;simpa [leB] using h1
theorem pY:∀ (k:Nat) (n:Int),0<=n->n<256 ^ k->fV (leB k n)=n
 | 0,n,h0,h1=>by simp at h1;simp [leB,fV];omega
 | k+1,n,h0,h1=>by
  rw [Int.pow_succ] at h1;have:=pY k (n / 256) (by omega) (by omega);simp only [leB,fV,this];omega
theorem tQ:∀ (k:Nat) (n:Int),∀ x ∈ leB k n,0<=x/\x<256
 | 0,_,_,h=>nomatch h
 | k+1,n,x,h=>by
  rcases List.mem_cons.1 h with rfl | h
  ·omega
  ·exact tQ k _ x h
def entB (a:Ar):List Int:=leB 8 a.1++leB 8 a.2.1++leB 4 a.2.2
theorem oY (a:Ar):(entB a).length=20:=by simp [entB,cR]
theorem aFw (a:Ar):∀ x ∈ entB a,0<=x/\x<256:=λx h=>by
 rcases List.mem_append.1 h with h | h
 ·rcases List.mem_append.1 h with h | h
  ·exact tQ _ _ x h
  ·exact tQ _ _ x h
 ·exact tQ _ _ x h
theorem aKK {n:Int} {i c:Nat} (h:8*i<=c) (hi:i<8):IntKind.wrap .u8 (Int.fdiv n (2 ^ (min (Int.toNat (IntKind.wrap .i64 ((8:Int)*(i:Int)))) c)))=n / 2 ^ (8*i) % 256:=by
 have h1:IntKind.wrap .i64 ((8:Int)*(i:Int))=((8*i:Nat):Int):=by rw [bG]<;>omega
 rw [h1,Int.toNat_natCast,Nat.min_eq_left h,lE,wu8]
theorem aCk {a:Ar} {Q:Sl->AH->Prop} (h:Own l A) (hk:∀ s' A',s'.a≠none->Own (SlO s' 1 ((entB a).map byV)::l) A'->Q s' A'):qaa_A a.1 a.2.1 a.2.2 Q A:=by
 unfold qaa_A
 have hmade:(madeCells #[Value.int .u8 0] (20*1))=((List.replicate 20 (byV 0)).toArray):=by
  have hf:(λx:Nat=>(#[Value.int .u8 0]:Array Value)[x % (#[Value.int .u8 0]:Array Value).size]!)=λ_=>byV 0:=by
   funext x;simp [Nat.mod_one,byV]
  show Array.map (λx:Nat=>(#[Value.int .u8 0]:Array Value)[x % (#[Value.int .u8 0]:Array Value).size]!) (Array.range (20*1))=_;rw [hf];apply Array.ext';simp only [Array.toList_map,Array.toList_range];rfl
 rw [hmade];refine aX (cs:=List.replicate 20 (byV 0)) h λb A1 h1=>?_
 refine ⟨λx m h'=>∃ (v:Nat) (cs:List Int),x=v/\m+v=8/\cs.length=20/\(∀ i,i<v->cs[i]? = some (a.1 / 2 ^ (8*i) % 256)/\cs[8+i]? = some (a.2.1 / 2 ^ (8*i) % 256))/\Own (At b (cs.map byV)::l) h',
  ⟨8,0,List.replicate 20 0,rfl,rfl,rfl,λi hi=>by omega,by simpa using h1⟩,?_⟩
 intro x m A2 ⟨v,cs,e1,e2,e3,e4,h2⟩;subst e1;refine aG (λc=>?_) λc=>?_
 ·have c:(v:Int)<8:=of_decide_eq_true c;have hw:¬ IntKind.wrap .i64 ((8:Int)*(v:Int))<0:=by rw [bG]<;>omega
  refine bsel_f (by simpa using hw) (inB_in (by omega) (by omega) ?_);rw [add_at,Int.toNat_natCast,aKK (by omega) (by omega)];refine aJ (i:=0) h2 rfl (by simp [e3];omega) rfl λA3 h3=>?_;refine bsel_f (by simpa using hw) ?_;have hw2:IntKind.wrap .i64 ((8:Int)+(v:Int))=((8+v:Nat):Int):=by rw [bG]<;>omega
  rw [hw2,aKK (by omega) (by omega)];refine inB_in (by omega) (by omega) ?_;rw [add_at,Int.toNat_natCast];refine aJ (i:=0) h3 rfl (by simp [e3];omega) rfl λA4 h4=>?_;refine ⟨m-1,by omega,v+1,(cs.set v (a.1 / 2 ^ (8*v) % 256)).set (8+v) (a.2.1 / 2 ^ (8*v) % 256),by rw [bG]<;>omega,by omega,by simp [e3],λi hi=>?_,?_⟩
  ·rcases Nat.lt_or_eq_of_le (Nat.le_of_lt_succ hi) with g | g
   ·obtain ⟨f1,f2⟩:=e4 i g;refine ⟨?_,?_⟩
    ·rw [List.getElem?_set_ne (by omega),List.getElem?_set_ne (by omega)];exact f1
    ·rw [List.getElem?_set_ne (by omega),List.getElem?_set_ne (by omega)];exact f2
   ·subst g;refine ⟨?_,?_⟩
    ·rw [List.getElem?_set_ne (by omega),List.getElem?_set_self (by omega)]
    ·rw [List.getElem?_set_self (by simp;omega)]
  ·rw [List.map_set,List.map_set];simp only [Nat.zero_add,Nat.mul_one,List.set_cons_zero] at h4;exact h4
 ·have c:¬ (v:Int)<8:=of_decide_eq_false c;have hv:v=8:=by omega
  subst hv
  refine ⟨λx m h'=>∃ (v:Nat) (cs:List Int),x=v/\m+v=4/\cs.length=20/\(∀ i,i<8->cs[i]? = some (a.1 / 2 ^ (8*i) % 256)/\cs[8+i]? = some (a.2.1 / 2 ^ (8*i) % 256))/\(∀ i,i<v->cs[16+i]? = some (a.2.2 / 2 ^ (8*i) % 256))/\Own (At b (cs.map byV)::l) h',
   ⟨4,0,cs,rfl,rfl,e3,e4,λi hi=>by omega,h2⟩,?_⟩
  intro x m2 A3 ⟨v,cs,e5,e6,e7,e8,e9,h3⟩;subst e5;refine aG (λc=>?_) λc=>?_
  ·have c:(v:Int)<4:=of_decide_eq_true c;have hw:¬ IntKind.wrap .i64 ((8:Int)*(v:Int))<0:=by rw [bG]<;>omega
   refine bsel_f (by simpa using hw) ?_;have hw2:IntKind.wrap .i64 ((16:Int)+(v:Int))=((16+v:Nat):Int):=by rw [bG]<;>omega
   rw [hw2,aKK (by omega) (by omega)];refine inB_in (by omega) (by omega) ?_;rw [add_at,Int.toNat_natCast];refine aJ (i:=0) h3 rfl (by simp [e7];omega) rfl λA4 h4=>?_;refine ⟨m2-1,by omega,v+1,cs.set (16+v) (a.2.2 / 2 ^ (8*v) % 256),by rw [bG]<;>omega,by omega,by simp [e7],λi hi=>?_,λi hi=>?_,?_⟩
   ·obtain ⟨f1,f2⟩:=e8 i hi;rw [List.getElem?_set_ne (by omega),List.getElem?_set_ne (by omega)];exact ⟨f1,f2⟩
   ·rcases Nat.lt_or_eq_of_le (Nat.le_of_lt_succ hi) with g | g
    ·rw [List.getElem?_set_ne (by omega)];exact e9 i g
    ·subst g;rw [List.getElem?_set_self (by omega)]
   ·rw [List.map_set];simp only [Nat.zero_add,Nat.mul_one,List.set_cons_zero] at h4;exact h4
  ·have c:¬ (v:Int)<4:=of_decide_eq_false c;have hv:v=4:=by omega
   subst hv
   have hcs:cs=entB a:=by
    apply List.ext_getElem?;intro j;by_cases j1:j<8
    ·rw [(e8 j j1).1];unfold entB;rw [List.append_assoc,List.getElem?_append_left (by rw [cR];exact j1),tO 8 _ j j1]
    ·by_cases j2:j<16
     ·have:=(e8 (j-8) (by omega)).2;rw [show 8+(j-8)=j by omega] at this;rw [this];unfold entB;rw [List.getElem?_append_left (by simp [cR];omega),List.getElem?_append_right (by rw [cR];omega),cR,tO 8 _ (j-8) (by omega)]
     ·by_cases j3:j<20
      ·have:=e9 (j-16) (by omega);rw [show 16+(j-16)=j by omega] at this;rw [this];unfold entB;rw [List.getElem?_append_right (by simp [cR];omega),List.length_append,cR,cR,tO 4 _ (j-16) (by omega)]
      ·rw [List.getElem?_eq_none (by omega),List.getElem?_eq_none (by rw [oY];omega)]
   rw [hcs] at h3;refine hk _ A3 (λq=>nomatch q) (Own.imp (λB hB=>⟨⟨by simp [oY],Nat.le_refl _⟩,.inr ⟨b,[],rfl,by simp [oY],by simpa using hB⟩⟩) h3)
end Go.Dn
namespace Go.Dn
def ArW (a:Ar):Prop:=(0<=a.1/\a.1<18446744073709551616)/\(0<=a.2.1/\a.2.1<18446744073709551616)/\0<=a.2.2/\a.2.2<4294967296
theorem aEV {a:Ar} (hw:ArW a):areaZ (entB a) 0=a:=by
 obtain ⟨⟨w1,w2⟩,⟨w3,w4⟩,w5,w6⟩:=hw
 have tk:∀ (k:Nat) (n:Int) (r:List Int),(leB k n++r).take k=leB k n:=λk n r=>by
  rw [List.take_append_of_le_length (by rw [cR];omega),List.take_of_length_le (by rw [cR];omega)]
 have h0:entB a=leB 8 a.1++(leB 8 a.2.1++leB 4 a.2.2):=by unfold entB;simp
 have h8:(entB a).drop 8=leB 8 a.2.1++leB 4 a.2.2:=by
  rw [h0,List.drop_append_of_le_length (by simp [cR]),List.drop_of_length_le (by simp [cR])];rfl
 have h16:(entB a).drop 16=leB 4 a.2.2:=by
  rw [show 16=8+8 from rfl,<- List.drop_drop,h8,List.drop_append_of_le_length (by simp [cR]),List.drop_of_length_le (by simp [cR])];rfl
 have e1:((entB a).drop (20*0)).take 8=leB 8 a.1:=by rw [Nat.mul_zero,List.drop_zero,h0,tk]
 have e2:((entB a).drop (20*0+8)).take 8=leB 8 a.2.1:=by rw [Nat.mul_zero,Nat.zero_add,h8,tk]
 have e3:((entB a).drop (20*0+16)).take 4=leB 4 a.2.2:=by rw [Nat.mul_zero,Nat.zero_add,h16,List.take_of_length_le (by simp [cR])]
 unfold areaZ;rw [e1,e2,e3,pY _ _ w1 (by simpa using w2),pY _ _ w3 (by simpa using w4),pY _ _ w5 (by simpa using w6)]
theorem aEv {a:Ar} (hw:ArW a) (hb:xF a=true):parseP (entB a)=(0,[a]):=by
 unfold parseP;rw [oY,if_neg (by omega),if_neg (by omega)];have:jA (20 / 20)=[0]:=rfl;rw [this];simp [aEV hw,hb]
theorem aEn {N er:Int} {m:List Rg} (hN:2<=N/\N<=1048576) (h:aDn (entB (0,N*4096,1)) N (0,1) er m):er=0/\m=[(1,N)]:=by
 have hw:ArW (0,N*4096,1):=⟨⟨by simp,by simp⟩,⟨by simp only;omega,by simp only;omega⟩,by simp,by simp⟩
 have hok:xF (0,N*4096,1)=true:=by
  unfold xF;simp only;rw [cQ (by omega) (by omega)];simp;omega
 unfold aDn at h;rw [aEv hw hok] at h;have hbad:¬ kP N (0,1):=by unfold kP;simp only;omega
 rcases h with ⟨q,_⟩ | ⟨_,q,_⟩ | ⟨_,_,h1,h2,h3⟩
 ·exact absurd q hbad
 ·exact absurd rfl q
 ·have hu:nA [((0,N*4096,1):Ar)] N=[(0,N)]:=by
   have hf:frP (0,N*4096,1) N=(0,N):=by
    unfold frP;simp only [if_true];rw [if_neg (by omega:¬ N*4096=0)];refine Prod.ext ?_ ?_
    ·simp only;split<;>omega
    ·simp only;split<;>omega
   simp [nA,hf]
  have hwl:gE [((0,N*4096,1):Ar)] N (0,1)=[(0,1)]:=by simp [gE]
  simp only [hu,hwl,eC] at h2
  have hm:m=[(1,N)]:=by
   refine NF.eq h1 ⟨λr hr=>?_,by simp⟩ λn=>?_
   ·simp at hr;subst hr;simp only;omega
   ·rw [h2 n,eC];unfold aFq;simp only;omega
  subst hm;exact ⟨by simpa using h3,rfl⟩
end Go.Dn
namespace Go.Dn
structure Mb where
 N:Int
 r:Nat
 b:Nat
 t:Nat
 m:Nat
 tl:Nat
 tg:Nat
 sp:Nat
 kern:Int
 T:Tr
def aJ9 (c:Mb):List Value:=[.pointer (some ⟨c.r,0,none⟩),.pointer (some ⟨c.b,0,none⟩),.pointer (some ⟨c.t,0,none⟩),.pointer (some ⟨c.tl,0,none⟩),.pointer (some ⟨c.tg,0,none⟩),.int .i64 c.kern,.map (some c.sp)]
def gA (c:Mb) (F G:Int->Prop) (W:Int->Int->Int) (u:Int) (ls:List Ln) (z:PcZ) (sps:List (Int × Value)) (R:List SP):List SP:=
 zW c.N c.r c.b c.t c.T F G W u (At c.m (aJ9 c)::MapI c.sp .i64 sps::TlbS c.tl ls::PcS c.tg z::R)
variable {A:AH} {l R:List SP} {c:Mb} {u:Int} {F G:Int->Prop} {W:Int->Int->Int} {ls:List Ln} {z:PcZ} {sps:List (Int × Value)} {tl:List Int}
theorem gA.tlb (h:Own (gA c F G W u ls z sps R) A):Own (TlbS c.tl ls::zW c.N c.r c.b c.t c.T F G W u (At c.m (aJ9 c)::MapI c.sp .i64 sps::PcS c.tg z::R)) A:=by
 unfold gA zW at h;exact h.pick 5 rfl
theorem gA.tlbB {ls':List Ln} (h:Own (TlbS c.tl ls'::zW c.N c.r c.b c.t c.T F G W u (At c.m (aJ9 c)::MapI c.sp .i64 sps::PcS c.tg z::R)) A):Own (gA c F G W u ls' z sps R) A:=by
 have:=Own.back (l:=gA c F G W u ls' z sps R) (P:=TlbS c.tl ls') (P':=TlbS c.tl ls') 5 rfl h;exact this
theorem Own.capS6 {s:Sl} {sz:Nat} {cs:List Value} (h:Own (SlO s sz cs::R) A):s.len<=s.cap:=by
 obtain ⟨B,_,hB⟩:=h.sat;exact hB.1.2
end Go.Dn
namespace Go.Dn
variable {A:AH} {R:List SP} {root box:Int} {p:Nat} {s:Sl} {regs:List Reg} {lent:List (Int × Int)}
def pO (p lm:Nat) (box root:Int) (s:Sl) (regs:List Reg) (lent:List (Int × Int)):List SP:=[At p [.int .i64 box,.int .i64 root,.slice s.a s.len s.cap,.map (some lm)],SlO s 6 (regC regs),MapI lm .i64 (ivs lent)]
def OneS (p:Nat) (box root:Int) (s:Sl) (regs:List Reg) (lent:List (Int × Int)):SP:=λB=>∃ lm,Own (pO p lm box root s regs lent) B
theorem OneS.openH (h:Own (OneS p box root s regs lent::R) A):∃ lm,Own (pO p lm box root s regs lent++R) A:=by
 obtain ⟨lm,h⟩:=Own.ex h;exact ⟨lm,Own.flat h⟩
theorem OneS.closeH {lm:Nat} (h:Own (pO p lm box root s regs lent++R) A):Own (OneS p box root s regs lent::R) A:=h.app.imp λ_ hB=>⟨lm,hB⟩
def ptrV (p:Nat):Value:=.pointer (some ⟨p,0,none⟩)
theorem aIV {aw au:Bool}:bits .or .i64 ((if aw then 2 else 0)+(if au then 4 else 0)) 16=(if aw then 2 else 0)+(if au then 4 else 0)+16:=by
 cases aw<;>cases au<;>decide
theorem aHj {aw au af:Bool}:bits .or .i64 (cZ aw au af) 1=cZ aw au af+1:=by
 cases aw<;>cases au<;>cases af<;>decide
end Go.Dn
namespace Go.Dn
structure PcOK (z:PcZ):Prop where
 ok:z.OK
 to:∀ id t,z.tag.lookup id=some t->z.own.lookup t=some id/\1<=t/\t<z.next
 back:∀ t id,z.own.lookup t=some id->z.tag.lookup id=some t
 ndo:(z.own.map (·.1)).Nodup
 ndt:(z.tag.map (·.1)).Nodup
theorem rN {k v:Int}:∀ {m:List (Int × Int)},(m.map (·.1)).Nodup->((putZ m k v).map (·.1)).Nodup/\∀ x ∈ (putZ m k v).map (·.1),x=k\/x ∈ m.map (·.1)
 | [],_=>by simp [putZ]
 | q::m,h=>by
  rw [List.map_cons,List.nodup_cons] at h;obtain ⟨i1,i2⟩:=rN (k:=k) (v:=v) (m:=m) h.2;unfold putZ;by_cases g:q.1=k
  ·rw [if_pos g];refine ⟨?_,λx hx=>?_⟩
   ·rw [List.map_cons,List.nodup_cons];exact ⟨by rw [<-g];exact h.1,h.2⟩
   ·rw [List.map_cons] at hx;rcases List.mem_cons.1 hx with e | e
    ·exact .inl e
    ·exact .inr (List.mem_cons_of_mem _ e)
  ·rw [if_neg g];refine ⟨?_,λx hx=>?_⟩
   ·rw [List.map_cons,List.nodup_cons];refine ⟨λq2=>?_,i1⟩;rcases i2 _ q2 with e | e
    ·exact g e
    ·exact h.1 e
   ·rw [List.map_cons] at hx;rcases List.mem_cons.1 hx with e | e
    ·exact .inr (by rw [e];simp)
    ·rcases i2 x e with e | e
     ·exact .inl e
     ·exact .inr (List.mem_cons_of_mem _ e)
abbrev Vw:=Int->Int->Option Lf
def vw (z:PcZ) (LF:Vw):Vw:=λt p=>match z.own.lookup t with | some id=>LF id p | none=>none
def LnOK (V:Vw) (ls:List Ln):Prop:=∀ y ∈ ls,y.v=true->y.g=false/\∃ x,V y.tag y.page=some x/\y.frame=x.frame/\y.w=x.w/\y.u=x.u/\y.x=x.x
variable {z:PcZ} {LF LF' V:Vw} {ls:List Ln} {id page:Int}
theorem pcNew_ok {n:Int} (h:1<=n/\n<=4095):PcOK (jS n):=⟨⟨h.1,h.2,by simp [jS],by simp [jS];omega⟩,λid t e=>by simp [jS] at e,(λt id e=>by simp [jS] at e),by simp [jS],by simp [jS]⟩
theorem aBx (h:PcOK z) (id:Int):(getZ z id).1.tag.lookup id=some (getZ z id).2.1:=by
 unfold getZ;cases e:z.tag.lookup id with
 | some n=>simpa using e
 | none=>
  simp only;split
  ·simp
  ·simp [fT]
theorem PcOK.get (h:PcOK z) (id:Int):PcOK (getZ z id).1:=by
 refine ⟨aHC h.ok id,?_,?_,?_,?_⟩
 ·intro id' t e;unfold getZ at e ⊢;cases e1:z.tag.lookup id with
  | some n=>rw [e1] at e;exact h.to id' t e
  | none=>
   rw [e1] at e;simp only at e ⊢;split
   ·rename_i g;rw [if_pos g] at e;simp only [List.lookup_cons,List.lookup_nil] at e ⊢;by_cases q:id'=id
    ·subst q;simp at e;subst e;simp
    ·have:(id'==id)=false:=by simpa using q
     rw [this] at e;cases e
   ·rename_i g;rw [if_neg g] at e;simp only [fT] at e ⊢;by_cases q:id'=id
    ·rw [if_pos q] at e;cases e;rw [if_pos rfl,q];exact ⟨rfl,by have:=h.ok.2.2.1;omega,by omega⟩
    ·rw [if_neg q] at e;obtain ⟨k1,k2,k3⟩:=h.to id' t e;rw [if_neg (by omega)];exact ⟨k1,k2,by omega⟩
 ·intro t id' e;unfold getZ at e ⊢;cases e1:z.tag.lookup id with
  | some n=>rw [e1] at e;exact h.back t id' e
  | none=>
   rw [e1] at e;simp only at e ⊢;split
   ·rename_i g;rw [if_pos g] at e;simp only [List.lookup_cons,List.lookup_nil] at e ⊢;by_cases q:t=1
    ·subst q;simp at e;subst e;simp
    ·have:(t==1)=false:=by simpa using q
     rw [this] at e;cases e
   ·rename_i g;rw [if_neg g] at e;simp only [fT] at e ⊢;by_cases q:t=z.next
    ·rw [if_pos q] at e;cases e;rw [if_pos rfl,q]
    ·rw [if_neg q] at e;have k1:=h.back t id' e;rw [if_neg (λw=>by subst w;rw [e1] at k1;cases k1)];exact k1
 ·unfold getZ;cases e1:z.tag.lookup id with
  | some n=>exact h.ndo
  | none=>
   simp only;split
   ·simp
   ·exact (rN h.ndo).1
 ·unfold getZ;cases e1:z.tag.lookup id with
  | some n=>exact h.ndt
  | none=>
   simp only;split
   ·simp
   ·exact (rN h.ndt).1
theorem aJ3 (h:PcOK z) (id page:Int):vw (getZ z id).1 LF (getZ z id).2.1 page=LF id page:=by
 unfold vw;rw [((h.get id).to id _ (aBx h id)).1]
theorem LnOK.tag (h:PcOK z) (hl:LnOK (vw z LF) ls) (id:Int):LnOK (vw (getZ z id).1 LF) (if (getZ z id).2.2=true then ls.map (allF true) else ls):=by
 have hov:(getZ z id).2.2=true->LnOK (vw (getZ z id).1 LF) (ls.map (allF true)):=λ_ y hy hv=>by
  obtain ⟨y0,h0,rfl⟩:=List.mem_map.1 hy;unfold allF at hv;split at hv
  ·exact absurd hv (by simp [ln0])
  ·rename_i g;have:=(hl y0 h0 hv).1;rw [this] at g;simp at g
 split
 ·rename_i g;exact hov g
 ·rename_i g;intro y hy hv;obtain ⟨h1,x,h2,h3⟩:=hl y hy hv;refine ⟨h1,x,?_,h3⟩;unfold getZ at g ⊢;cases e1:z.tag.lookup id with
  | some n=>exact h2
  | none=>
   rw [e1] at g;simp only at g ⊢;split
   ·rename_i c;rw [if_pos c] at g;simp at g
   ·unfold vw at h2 ⊢;simp only [fT];by_cases q:y.tag=z.next
    ·exfalso;cases e2:z.own.lookup y.tag with
     | none=>rw [e2] at h2;cases h2
     | some id'=>
      have:=(h.to id' _ (h.back _ _ e2)).2.2;omega
    ·rw [if_neg q];exact h2
theorem LnOK.mono (hl:LnOK (vw z LF) ls) (h:∀ id p x,LF id p=some x->LF' id p=some x):LnOK (vw z LF') ls:=λy hy hv=>by
 obtain ⟨h1,x,h2,h3⟩:=hl y hy hv;refine ⟨h1,x,?_,h3⟩;unfold vw at h2 ⊢;cases e:z.own.lookup y.tag with
 | none=>rw [e] at h2;cases h2
 | some id=>rw [e] at h2;exact h _ _ _ h2
theorem LnOK.evict (hl:LnOK V ls) {k:Nat}:LnOK V (ls.set k ln0):=λy hy hv=>by
 rcases List.mem_or_eq_of_mem_set hy with h | h
 ·exact hl y h hv
 ·subst h;cases hv
theorem LnOK.fill (hl:LnOK V ls) {way:Nat} {m:Ln} (hm:m.v=true->m.g=false/\∃ x,V m.tag m.page=some x/\m.frame=x.frame/\m.w=x.w/\m.u=x.u/\m.x=x.x):LnOK V (aA2 ls way m):=λy hy hv=>by
 unfold aA2 at hy;rcases List.mem_or_eq_of_mem_set hy with h | h
 ·unfold fillJ at h;obtain ⟨i,hi,e⟩:=List.mem_iff_getElem.1 h;simp only [List.getElem_mapIdx] at e;subst e;have hmem:ls[i]'(by simpa using hi) ∈ ls:=List.getElem_mem _;by_cases g1:(m.page % 8).toNat*2<=i/\i<(m.page % 8).toNat*2+2
  ·rw [if_pos g1] at hv ⊢;unfold clrF at hv ⊢;by_cases g2:(fitsB m.tag m.page (ls[i]'(by simpa using hi)) || (m.g&&((ls[i]'(by simpa using hi)).v&&(ls[i]'(by simpa using hi)).page==m.page)))=true
   ·rw [if_pos g2] at hv;cases hv
   ·rw [if_neg g2] at hv ⊢;exact hl _ hmem hv
  ·rw [if_neg g1] at hv ⊢;exact hl _ hmem hv
 ·subst h;exact hm hv
theorem LnOK.new {n:Nat}:LnOK V (List.replicate n ln0):=λy hy hv=>by
 rw [(List.mem_replicate.1 hy).2] at hv;cases hv
end Go.Dn
