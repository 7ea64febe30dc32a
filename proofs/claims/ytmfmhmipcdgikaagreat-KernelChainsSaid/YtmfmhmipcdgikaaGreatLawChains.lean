/- What the proof stands on. -/
import Derived.Test.YtmfmhmipcdgikaaGreatDnY
import Derived.Test.YtmfmhmipcdgikaaGreatDnSI
import Derived.Test.YtmfmhmipcdgikaaGreatRgs
import Derived.Test.YtmfmhmipcdgikaaGreatLnP
import Derived.Test.YtmfmhmipcdgikaaGreatKBt2
namespace Go.Dn
variable {A:AH} {R:List SP} {x:Kx} {K:Ke} {L:List (KP × Nat)} {gm:Option Nat} {p:KP} {y:KP × Nat} {pid:Int} {k:Int} {i j:Nat} {M M':Mm} {id:Int} {r:List Int} {w0 w1 w2 w3 w4 w5:Int} {cl:CallR} {s t:Sm}
def iO (M M':Mm):Prop:=M'.sps.map (·.id)=M.sps.map (·.id)/\∀ m,liveN M'.ns m=liveN M.ns m
theorem iO.refl:iO M M:=⟨rfl,λ_=>rfl⟩
theorem aA3:iO M (payM M s t):=by
 refine ⟨?_,λm=>fH⟩;show (putS M.sps t).map (·.id)=_;unfold putS;rw [List.map_map];apply List.map_congr_left;intro x _;simp only [Function.comp];split
 ·rename_i c;exact (by simpa using c:x.id=t.id).symm
 ·rfl
theorem aG1 {y:Reg}:iO M (mapM M id y).1:=by
 unfold mapM;split
 ·exact iO.refl
 ·split
  ·exact iO.refl
  ·exact aA3
theorem aCt {page:Int} {aw au af:Bool}:iO M (touchM M id page aw au af).1:=by
 unfold touchM;split
 ·exact iO.refl
 ·split
  ·exact iO.refl
  ·split
   ·exact iO.refl
   ·split
    ·exact iO.refl
    ·split
     ·exact iO.refl
     ·exact aA3
theorem same_do {addr x0:Int} {size:Nat} {aw:Bool}:iO M (doM M id addr size aw x0).1:=by
 unfold doM;have h:=aCt (M:=M) (id:=id) (page:=addr / 4096) (aw:=aw) (au:=true) (af:=false);generalize touchM M id (addr / 4096) aw true false=z at h;obtain ⟨M',k,code,e⟩:=z;simp only;split
 ·exact h
 ·split
  ·exact h
  ·exact h
theorem bV.mach (hK:bV K) (hI:InvM M') (hs:iO K.M M'):bV { K with M:=M' }:=by
 have hid:∀ id,(findS M' id).isSome=(findS K.M id).isSome:=λid=>by
  have:∀ N:Mm,(findS N id).isSome=(N.sps.map (·.id)).contains id:=λN=>by
   rw [Bool.eq_iff_iff,cT,List.contains_iff_mem,List.mem_map]
  rw [this,this,hs.1]
 refine ⟨hI,hK.nd,hK.rng,hK.line,λp hp=>?_,λp hp=>?_,λs hs2=>?_,hK.nsp⟩
 ·show (findS M' p.sp).isSome=true;rw [hid];exact hK.sp p hp
 ·show liveN M'.ns p.box=true;rw [hs.2];exact hK.box p hp
 ·have:s.id ∈ K.M.sps.map (·.id):=by rw [<-hs.1];exact List.mem_map_of_mem hs2
  obtain ⟨z,z1,z2⟩:=List.mem_map.1 this;have:=hK.old z z1;show s.id<K.nsp;omega
def setP (ps:List KP) (pid:Int) (t:TS):List KP:=ps.map λp=>if p.pid==pid then { p with t:=t } else p
theorem bV.regs {t:TS} (hK:bV K):bV { K with ps:=setP K.ps pid t }:=by
 have h1:(setP K.ps pid t).map (·.pid)=K.ps.map (·.pid):=by
  unfold setP;rw [List.map_map];apply List.map_congr_left;intro p _;simp only [Function.comp];split<;>rfl
 have h2:∀ p ∈ setP K.ps pid t,∃ p0 ∈ K.ps,p.pid=p0.pid/\p.sp=p0.sp/\p.box=p0.box:=λp hp=>by
  obtain ⟨p0,a,rfl⟩:=List.mem_map.1 hp;refine ⟨p0,a,?_⟩;split<;>exact ⟨rfl,rfl,rfl⟩
 refine ⟨hK.inv,by show ((setP K.ps pid t).map (·.pid)).Nodup;rw [h1];exact hK.nd,λp hp=>?_,by show K.line.Perm ((setP K.ps pid t).map (·.pid));rw [h1];exact hK.line,λp hp=>?_,λp hp=>?_,hK.old,hK.nsp⟩
 ·obtain ⟨p0,a,b,c,d⟩:=h2 p hp;rw [b];exact hK.rng p0 a
 ·obtain ⟨p0,a,b,c,d⟩:=h2 p hp;rw [c];exact hK.sp p0 a
 ·obtain ⟨p0,a,b,c,d⟩:=h2 p hp;rw [d];exact hK.box p0 a
theorem aLU {t:TS} (hL:L.map (·.1)=K.ps) (hn:(K.ps.map (·.pid)).Nodup) (hj:L[j]? = some y) (hp:y.1.pid=pid):(L.set j ({ y.1 with t:=t },y.2)).map (·.1)=setP K.ps pid t/\pmE (L.set j ({ y.1 with t:=t },y.2))=pmE L:=by
 have hjl:=(List.getElem?_eq_some_iff.1 hj).1;constructor
 ·apply List.ext_getElem?;intro m;unfold setP;rw [List.getElem?_map,List.getElem?_map,<- hL,List.getElem?_map,List.getElem?_set];by_cases e:j=m
  ·subst e;rw [if_pos rfl,if_pos hjl,hj];simp [hp]
  ·rw [if_neg e];cases e2:L[m]? with
   | none=>rfl
   | some z=>
    have:¬ z.1.pid=pid:=λw=>by
     have n1:(K.ps.map (·.pid))[j]? = some pid:=by rw [<-hL,List.getElem?_map,List.getElem?_map,hj];simp [hp]
     have n2:(K.ps.map (·.pid))[m]? = some pid:=by rw [<-hL,List.getElem?_map,List.getElem?_map,e2];simp [w]
     obtain ⟨a1,a2⟩:=List.getElem?_eq_some_iff.1 n1;obtain ⟨b1,b2⟩:=List.getElem?_eq_some_iff.1 n2;exact e ((List.getElem?_inj a1 hn).1 (n1.trans n2.symm))
    simp [this]
 ·apply List.ext_getElem?;intro m;unfold pmE;rw [List.getElem?_map,List.getElem?_map,List.getElem?_set];by_cases e:j=m
  ·subst e;rw [if_pos rfl,if_pos hjl,hj];rfl
  ·rw [if_neg e]
theorem cV.setR {t:TS} (hL:L.map (·.1)=K.ps) (hn:(K.ps.map (·.pid)).Nodup) (hj:L[j]? = some y) (hp:y.1.pid=pid) (h:Own ((cV x K L gm R).set (6+j) (At y.2 (iQ y.1.box y.1.sp y.1.par t))) A):Own (KerS x { K with ps:=setP K.ps pid t }::R) A:=by
 obtain ⟨s1,s2⟩:=aLU (t:=t) hL hn hj hp;refine KerS.closeH (L:=L.set j ({ y.1 with t:=t },y.2)) (gm:=gm) s1 ?_
 have e:(cV x K L gm R).set (6+j) (At y.2 (iQ y.1.box y.1.sp y.1.par t))=cV x { K with ps:=setP K.ps pid t } (L.set j ({ y.1 with t:=t },y.2)) gm R:=by
  have hjl:=(List.getElem?_eq_some_iff.1 hj).1;unfold cV;rw [s2];show ((([MacE x.c K.M,CpuS x.cp x.c.m x.n,At x.kb (kbC x gm K.nsp),QueS x.qb x.qn K.tk K.line,MapI x.pm .i64 (pmE L),GrS gm K.gr]:List SP)++(L.map jQ++R))).set (6+j) _=_;rw [List.set_append,if_neg (by simp),List.set_append,if_pos (by simp;omega),List.map_set];simp only [List.length_cons,List.length_nil,Nat.zero_add];rw [show 6+j-(1+1+1+1+1+1)=j by omega];rfl
 rw [<-e];exact h
def uY (K:Ke) (p:KP) (cl:CallR):Ke × Int × Int × Int × Int × Bool:=
 if (doM K.M p.sp cl.addr cl.size.toNat (cl.op==5) cl.x).2.2.2.2=9 then
  ({ K with M:=(doM K.M p.sp cl.addr cl.size.toNat (cl.op==5) cl.x).1,ps:=setP K.ps p.pid (raiseZ p.t (doM K.M p.sp cl.addr cl.size.toNat (cl.op==5) cl.x).2.2.1 (doM K.M p.sp cl.addr cl.size.toNat (cl.op==5) cl.x).2.2.2.1) },
   (doM K.M p.sp cl.addr cl.size.toNat (cl.op==5) cl.x).2.1,9,(doM K.M p.sp cl.addr cl.size.toNat (cl.op==5) cl.x).2.2.1,(doM K.M p.sp cl.addr cl.size.toNat (cl.op==5) cl.x).2.2.2.1,wI p.t==0)
 else ({ K with M:=(doM K.M p.sp cl.addr cl.size.toNat (cl.op==5) cl.x).1 },(doM K.M p.sp cl.addr cl.size.toNat (cl.op==5) cl.x).2.1,(doM K.M p.sp cl.addr cl.size.toNat (cl.op==5) cl.x).2.2.2.2,(doM K.M p.sp cl.addr cl.size.toNat (cl.op==5) cl.x).2.2.1,(doM K.M p.sp cl.addr cl.size.toNat (cl.op==5) cl.x).2.2.2.1,false)
theorem aIr {addr x0:Int} {size:Nat} {aw:Bool}:0<=(doM M id addr size aw x0).2.2.2.1/\(doM M id addr size aw x0).2.2.2.1<18446744073709551616:=by
 have ht:0<=(touchM M id (addr / 4096) aw true false).2.2.1/\(touchM M id (addr / 4096) aw true false).2.2.1<100:=by
  unfold touchM;have hc:0<=cZ aw true false/\cZ aw true false<50:=by cases aw<;>decide
  split
  ·simp
  ·split
   ·simp only;omega
   ·split
    ·simp only;split<;>omega
    ·split
     ·simp
     ·split<;>simp
 unfold doM;generalize touchM M id (addr / 4096) aw true false=z at ht ⊢;obtain ⟨M',k,code,e⟩:=z;simp only at ht ⊢;split
 ·simp only;split<;>omega
 ·split<;>simp
theorem aFQ {Q:Int->Int->Int->Int->Int->Bool->AH->Prop} (h:Own (KerS x K::R) A) (hK:bV K) (hb:∀ x ∈ [w0,w1,w2,w3,w4,w5],0<=x/\x<18446744073709551616) (hc:dU w0 w1 w2 w3 w4 w5=some cl) (hop:cl.op=4\/cl.op=5)
  (hl:K.line=pid::r) (hp:findP K pid=some p) (ha:0<=cl.addr/\cl.addr<140737488355328) (hsz:cl.size=1\/cl.size=2\/cl.size=4\/cl.size=8) (hd:cl.addr % cl.size=0)
  (hk:∀ A',bV (uY K p cl).1->Own (KerS x (uY K p cl).1::R) A'->Q pid (uY K p cl).2.1 (uY K p cl).2.2.1 (uY K p cl).2.2.2.1 (uY K p cl).2.2.2.2.1 (uY K p cl).2.2.2.2.2 A') :
  qgb_A (some ⟨x.kb,0,none⟩) w0 w1 w2 w3 w4 w5 Q A:=by
 obtain ⟨L,gm,hL,h⟩:=KerS.openH h;obtain ⟨y,j,rfl,hj,hlk,hpi⟩:=vZ hL hp;subst hpi;have hpm:y.1 ∈ K.ps:=by rw [<-hL];exact List.mem_map_of_mem (List.mem_of_getElem? hj)
 refine aIL (j:=2) (i:=3) h rfl (que_at hl) hb hc hop λA1 h1=>?_;refine aBo (j:=2) (m:=4) (i:=6+j) h1 rfl rfl hlk (iP hj) ?_;obtain ⟨s,hs⟩:=Option.isSome_iff_exists.1 (hK.sp y.1 hpm);obtain ⟨sz,hsz2⟩:∃ sz:Nat,cl.size=(sz:Int):=⟨cl.size.toNat,by omega⟩;unfold uY at hk;rw [hsz2] at hk hd hsz ⊢;simp only [Int.toNat_natCast] at hk;refine aMS (size:=sz) h1 hK.inv hs ha (by omega) hd λA2 hI h2=>?_;have h2:Own (cV x { K with M:=(doM K.M y.1.sp cl.addr sz (cl.op==5) cl.x).1 } L gm R) A2:=h2;have hK2:=hK.mach hI same_do;by_cases e:(doM K.M y.1.sp cl.addr sz (cl.op==5) cl.x).2.2.2.2=9
 ·rw [if_pos e] at hk;rw [e];refine aAy (i:=6+j) h2 (iP hj) aIr λA3 h3=>?_;refine hk A3 (hK2.regs) (cV.setR (K:={ K with M:=(doM K.M y.1.sp cl.addr sz (cl.op==5) cl.x).1 }) hL hK.nd hj rfl h3)
 ·rw [if_neg e] at hk;exact aHo e (hk A2 hK2 (KerS.closeH hL h2))
end Go.Dn
namespace Go.Dn
variable {A:AH} {R:List SP} {x:Kx} {K:Ke} {L:List (KP × Nat)} {gm:Option Nat} {p:KP} {y:KP × Nat} {pid:Int} {i j:Nat} {M:Mm} {r:List Int} {w0 w1 w2 w3 w4 w5:Int} {cl:CallR}
theorem aLo {Q:Int->Int->Int->Int->Int->Bool->AH->Prop} (h:Own (KerS x K::R) A) (hK:bV K) (hb:∀ x ∈ [w0,w1,w2,w3,w4,w5],0<=x/\x<18446744073709551616) (hc:dU w0 w1 w2 w3 w4 w5=some cl) (hop:cl.op=1)
  (hl:K.line=pid::r) (hp:findP K pid=some p)
  (hk:∀ A',bV { K with M:=(mapM K.M p.sp ⟨cl.a,cl.b,cl.pw,cl.pu,cl.px,0⟩).1 }->Own (KerS x { K with M:=(mapM K.M p.sp ⟨cl.a,cl.b,cl.pw,cl.pu,cl.px,0⟩).1 }::R) A'->Q pid 0 (mapM K.M p.sp ⟨cl.a,cl.b,cl.pw,cl.pu,cl.px,0⟩).2 0 0 false A') :
  qgb_A (some ⟨x.kb,0,none⟩) w0 w1 w2 w3 w4 w5 Q A:=by
 obtain ⟨L,gm,hL,h⟩:=KerS.openH h;obtain ⟨y,j,rfl,hj,hlk,hpi⟩:=vZ hL hp;refine uB (j:=2) (i:=3) h rfl (que_at hl) hb hc (by omega) λA1 h1=>aKr hop ?_;have hpj:=iP (x:=x) (K:=K) (gm:=gm) (R:=R) hj;unfold qev_A qev_G;simp only [aH,add_at,Nat.zero_add];refine cO (i:=2) h1 rfl rfl ?_;simp only [aH,add_at,Nat.zero_add];refine tC h1 (dY (i:=2) h1 rfl rfl (kD (i:=4) h1 rfl ?_));rw [hlk];refine ⟨some ⟨y.2,0,none⟩,rfl,?_⟩;simp only [aH,add_at,Nat.zero_add];refine ld_I h1 hpj rfl ?_;obtain ⟨φ,h2⟩:=MacE.openE h1;refine aN (by rw [hop];rfl) (aIW (y:=⟨cl.a,cl.b,cl.pw,cl.pu,cl.px,0⟩) h2 hK.inv rfl λA2 hI h3=>hk A2 (hK.mach hI aG1) (KerS.closeH hL (gm:=gm) (MacE.closeE h3)))
end Go.Dn
namespace Go.Dn
variable {A:AH} {R:List SP} {x:Kx} {K:Ke} {L:List (KP × Nat)} {gr:List (Int × GrZ)}
def grE (gr:List (Int × GrZ)):List (Int × Value):=gr.map λx=>(x.1,grV x.2)
theorem GrS.openM {b:Nat} (h:Own (cV x K L (some b) R) A):Own (MapI b .i64 (grE K.gr)::(cV x K L (some b) R).eraseIdx 5) A:=by
 refine (h.pick 5 rfl).imp λB hB=>?_;rcases hB with ⟨z,_⟩ | ⟨b',z,hB⟩
 ·cases z
 ·cases z;exact hB
end Go.Dn
namespace Go.Dn
variable {A:AH} {R:List SP} {k q:Nat} {s:Sl} {L pre post:List Int} {qn tk x:Int}
theorem aE1 {Q:Sl->AH->Prop} (h:Own (SlO s 1 (ivC (pre++x::post))::R) A) (hb:(pre++x::post).length<=100000)
  (hk:∀ s' A',s'.a≠none->Own (SlO s' 1 (ivC (pre++post))::R) A'->Q s' A'):qfw_A s (pre.length:Nat) ((pre.length+1:Nat):Int) Q A:=by
 have hl:s.len=pre.length+(post.length+1):=by
  have:=dP (k:=0) h rfl aU;simpa using this
 have hcp:=aLQ h;obtain ⟨bb,rest,f1,f2,f3,f4,h1⟩:=SlO.openS h (by omega);have hb2:pre.length+(post.length+1)<=100000:=by simpa using hb
 unfold qfw_A;have e1:Int.toNat (Int.ofNat s.len)=s.len:=rfl;have e2:Int.toNat (((pre.length+1:Nat):Int))=pre.length+1:=rfl;have e3:Int.toNat ((pre.length:Nat):Int)=pre.length:=rfl;rw [e1,e2,e3];refine inB_in (by simp) (by show (s.len:Int)<((s.cap+1:Nat):Int);omega) (inB_in (by omega) (by omega) (inB_in (by omega) (by omega) (bsel_f (by simp;omega) (inB_in (by omega) (by omega) (inB_in (by omega) (by omega) ?_)))))
 have ha0:(if s.cap=0 then s.a else Option.map (λx=>Addr.add x (0*1)) s.a)=some ⟨bb,0,none⟩:=by
  rw [if_neg (by omega),f1];simp [add_at]
 rw [ha0];have hsp:ivC (pre++x::post)++rest=ivC pre++(.int .i64 x::ivC post)++rest:=by simp [ivC]
 rw [hsp] at h1;have hpl:(ivC pre).length=pre.length:=uC pre;have hql:(ivC post).length=post.length:=uC post
 have fin:∀ (A3:AH) (y:Value),y.oneCell'=true->Own (At bb (ivC pre++(ivC post++[y])++rest)::R) A3->Own (SlO ⟨some ⟨bb,0,none⟩,pre.length+post.length,s.cap⟩ 1 (ivC (pre++post))::R) A3:=λA3 y _ h3=>by
  refine h3.imp λB hB=>⟨⟨by simp [ivC],by show pre.length+post.length<=s.cap;omega⟩,.inr ⟨bb,y::rest,rfl,?_,?_⟩⟩
  ·have:(ivC (pre++x::post)++rest).length=s.cap*1:=f4;simp [ivC] at this ⊢;omega
  ·have:ivC (pre++post)++y::rest=ivC pre++(ivC post++[y])++rest:=by simp [ivC]
   rw [this];exact hB
 -- what is behind it moves down
 have row:∀ A2,Own (At bb (ivC pre++(.int .i64 x::ivC post)++rest)::R) A2->lC A2 (if s.cap=pre.length+1 then s.a else Option.map (λx=>Addr.add x ((pre.length+1)*1)) s.a) ((s.len-(pre.length+1))*1) (ivC post):=λA2 h2=>by
  refine zR (s:=⟨if s.cap=pre.length+1 then s.a else Option.map (λx=>Addr.add x ((pre.length+1)*1)) s.a,s.len-(pre.length+1),0⟩) (sz:=1) ⟨by simp only [hql];omega,λj v hv=>?_⟩ λz=>?_
  ·have hj:=(List.getElem?_eq_some_iff.1 hv).1;rw [hql] at hj;refine ⟨bb,pre.length+1,?_,?_⟩
   ·show (if s.cap=pre.length+1 then s.a else Option.map (λx=>Addr.add x ((pre.length+1)*1)) s.a)=_;rw [if_neg (by omega),f1];simp [add_at]
   ·refine dH (i:=0) rfl h2 ?_;rw [List.append_assoc,List.getElem?_append_right (by omega),hpl,show pre.length+1+j-pre.length=j+1 by omega,List.cons_append,List.getElem?_cons_succ,List.getElem?_append_left (by rw [hql];exact hj)];exact hv
  ·have z:(if s.cap=pre.length+1 then s.a else Option.map (λx=>Addr.add x ((pre.length+1)*1)) s.a)=none:=z;rw [f1] at z;split at z<;>cases z
 refine ⟨ivC post,row A h1,λhle=>?_,λhlt=>?_⟩
 rotate_left
 ·exfalso;simp only at hlt;omega
 have ea:Addr.add ⟨bb,0,none⟩ (pre.length*1)=⟨bb,pre.length,none⟩:=by simp [add_at]
 show qU (ivC post) (Addr.add ⟨bb,0,none⟩ (pre.length*1)) 0 A _;rw [ea]
 -- the last one is there twice
 obtain ⟨mid,y,hmy,hmid⟩:∃ (mid:List Value) (y:Value),Value.int .i64 x::ivC post=mid++[y]/\mid.length=post.length:=by
  refine ⟨(Value.int .i64 x::ivC post).dropLast,(Value.int .i64 x::ivC post).getLast (by simp),(List.dropLast_concat_getLast _).symm,?_⟩;rw [List.length_dropLast];simp [hql]
 have h2:Own (At bb (ivC pre++mid++(y::rest))::R) A:=by
  have e:ivC pre++mid++(y::rest)=ivC pre++(.int .i64 x::ivC post)++rest:=by rw [hmy];simp
  rw [e];exact h1
 refine iC (ivC post) 0 A (ivC pre) mid (y::rest) _ h2 (by rw [hmid,hql]) (by rw [hpl];omega) (λv hv=>ivC_one hv) λA3 h3=>?_;simp only;have es:pre.length+(s.len-(pre.length+1))=pre.length+post.length:=by omega
 rw [es];have e4:Int.toNat (Int.ofNat (pre.length+post.length))=pre.length+post.length:=rfl;rw [e4];refine inB_in (by simp) (by show (s.len:Int)<((s.cap+1:Nat):Int);omega) (inB_in (by simp;omega) (by show ((pre.length+post.length:Nat):Int)<((s.len+1:Nat):Int);omega) ?_);unfold aIe
 have ec:(if s.cap=pre.length+post.length then (some ⟨bb,0,none⟩:Option Addr) else Option.map (λx=>Addr.add x ((pre.length+post.length)*1)) (some ⟨bb,0,none⟩))=some ⟨bb,pre.length+post.length,none⟩:=by
  rw [if_neg (by omega)];simp [add_at]
 rw [ec]
 obtain ⟨v0,hzl⟩:∃ v0,(Builtin.zeroCells #[(.int .i64 (0:Int))] (s.len-(pre.length+post.length))).toList=[v0]:=by
  refine List.length_eq_one_iff.1 ?_;rw [Array.length_toList,dF];simp;omega
 have hv0:v0.oneCell'=true:=nF (z:=#[(.int .i64 (0:Int))]) (n:=s.len-(pre.length+post.length)) (λv hv=>by simp at hv;subst hv;rfl) v0 (by rw [hzl];simp);simp only [hzl]
 have h4:Own (At bb ((ivC pre++ivC post)++[y]++rest)::R) A3:=by
  have e:(ivC pre++ivC post)++[y]++rest=ivC pre++ivC post++(y::rest):=by simp
  rw [e];exact h3
 show qU [v0] (Addr.add ⟨bb,pre.length+post.length,none⟩ 0) 0 A3 _;rw [show Addr.add ⟨bb,pre.length+post.length,none⟩ 0=⟨bb,pre.length+post.length,none⟩ by simp [add_at]];refine iC [v0] 0 A3 (ivC pre++ivC post) [y] rest _ h4 rfl (by rw [List.length_append,hpl,hql];omega) (λv hv=>by simp at hv;subst hv;exact hv0) λA4 h5=>?_;exact hk _ A4 (by simp) (fin A4 v0 hv0 (by simpa [List.append_assoc] using h5))
def aCb (L:List Int) (x:Int):List Int:=L.filter λy=>y != x
theorem aIC (hn:(pre++x::post).Nodup):aCb (pre++x::post) x=pre++post:=by
 have hne:∀ y ∈ pre++post,y≠x:=λy hy e=>by
  have hp:(pre++x::post).Perm (x::(pre++post)):=List.perm_middle;have:=hp.nodup_iff.1 hn;rw [List.nodup_cons] at this;exact this.1 (by rw [<-e];exact hy)
 unfold aCb;rw [List.filter_append,List.filter_cons_of_neg (by simp),<- List.filter_append];exact List.filter_eq_self.2 λy hy=>by simpa using hne y hy
theorem aFg {Q:Int->AP} (h:Own (QueS q qn tk L::R) A) (hb:L.length<=10000) (hn:L.Nodup) (hx:x ∈ L) (hk:∀ A',Own (QueS q qn (if L.head? = some x then 0 else tk) (aCb L x)::R) A'->Q 0 A'):qfx_A (some ⟨q,0,none⟩) x Q A:=by
 obtain ⟨s,hs,h2⟩:=QueS.openH h;unfold qfx_A qfx_G;simp only [aH,add_at,Nat.zero_add];refine ld_S (i:=0) h2 rfl rfl (sF (k:=1) h2 rfl aU (by omega) (λz=>absurd hx z) λv hv hv2=>bsel_f (by simp) ?_);have hvl:=(List.getElem?_eq_some_iff.1 hv).1
 obtain ⟨pre,post,hL,hpl⟩:∃ pre post,L=pre++x::post/\pre.length=v:=by
  refine ⟨L.take v,L.drop (v+1),?_,by simp;omega⟩;rw [<-aJg hv,List.take_append_drop]
 subst hL;rw [aIC hn] at hk;have hw:IntKind.wrap .i64 ((v:Int)+1)=((v+1:Nat):Int):=by rw [bG (by omega) (by omega)];rfl
 rw [hw]
 have hd:(if (pre++x::post).head? = some x then (0:Int) else tk)=if v=0 then 0 else tk:=by
  cases pre with
  | nil=>simp at hpl;subst hpl;simp
  | cons y r=>
   have hne:y≠x:=λe=>by
    rw [e,List.cons_append,List.nodup_cons] at hn;exact hn.1 (by simp)
   simp at hpl;rw [if_neg (by simpa using hne),if_neg (by omega)]
 rw [hd] at hk;obtain ⟨tk',htk⟩:∃ tk',tk'=if v=0 then 0 else tk:=⟨_,rfl⟩
 rw [<-htk] at hk;refine ⟨λA'=>Own (At q [.int .i64 qn,.int .i64 tk',.slice s.a s.len s.cap]::SlO s 1 (ivC (pre++x::post))::R) A',λA1 h3=>?_,aG (λc=>?_) λc=>?_⟩
 ·refine ld_S (i:=0) h3 rfl rfl (fW (k:=1) h3 rfl aU (by omega) hs λs2 A2 hs2 h4=>?_);rw [<-hpl];refine aE1 h4 (by omega) λs3 A3 hs3 h5=>?_;refine aJ (i:=1) h5 rfl rfl rfl λA4 h6=>hk A4 ?_;have h6:Own (SlO s3 1 (ivC (pre++post))::At q [.int .i64 qn,.int .i64 tk',.slice s3.a s3.len s3.cap]::SlO s 1 (ivC (pre++x::post))::R) A4:=h6;exact QueS.closeH (λz=>absurd z hs3) ((h6.swap).cons λC hC=>hC.cons λD hD=>hD.tail)
 ·have c:v=0:=by have:=eq_of_beq c;omega
  rw [if_pos c] at htk;refine aJ (i:=0) h2 rfl rfl rfl λA1 h3=>?_;rw [htk];exact h3
 ·have c:¬ v=0:=λz=>by rw [z] at c;simp at c
  rw [if_neg c] at htk;rw [htk];exact h2
end Go.Dn
namespace Go.Dn
variable {A:AH} {R:List SP} {x:Kx} {K K':Ke} {L:List (KP × Nat)} {gm:Option Nat} {p:KP} {y:KP × Nat} {pid:Int} {q:Int} {i j:Nat} {M:Mm} {id:Int} {r:List Int} {w0 w1 w2 w3 w4 w5:Int} {cl:CallR}
theorem aCe {Q:Sl->AH->Prop} (h:Own (cV x K L gm R) A) (hg:K.gr=[]) (hk:∀ A',Own (cV x K L gm R) A'->Q Sl.nil A'):qff_A (some ⟨x.kb,2,none⟩) pid Q A:=by
 unfold qff_A qff_G qfe_A qfe_G qfa_A qfd_A qfd_G qfb_A;simp only [aH];refine dY (i:=2) h rfl rfl (aX (cs:=[.map gm]) h λb A1 h1=>?_);have h2:Own (cV x K L gm R) A1:=h1.tail;have sorted:∀ {K1:AP},K1 A1->soI Sl.nil K1 A1:=λ{K1} hK=>⟨[],rfl,by decide,rfl,λa z=>(by cases z),hK⟩
 have loop1:∀ {Y:Sl->Int->Nat->AH->(Sl->Int->Nat->AH->Prop)->Prop} {Z:Sl->AH->Prop},Z Sl.nil A1->∃ I:Sl->Int->Nat->AH->Prop,(∃ m,I Sl.nil (0:Int) m A1)/\∀ s:Sl,∀ x:Int,∀ m h',I s x m h'->bsel (decide (x<(Int.ofNat Sl.nil.len))) (Y s x m h' I) (Z s h'):=λ{Y Z} hZ=>
  ⟨λs x m A'=>s=Sl.nil/\x=0/\A'=A1,⟨0,rfl,rfl,rfl⟩,λs x m A' ⟨e1,e2,e3⟩=>by subst e1 e2 e3;exact bsel_f rfl hZ⟩
 cases gm with
 | none=>
  refine ⟨b,none,rfl,dH (i:=0) rfl h1 rfl,sorted ?_⟩;refine ⟨λs x m A'=>s=Sl.nil/\x=0/\A'=A1,⟨0,rfl,rfl,rfl⟩,λs x m A' ⟨e1,e2,e3⟩=>?_⟩;subst e1 e2 e3;refine bsel_f rfl ⟨λs x m A2=>s=Sl.nil/\x=0/\A2=A',⟨0,rfl,rfl,rfl⟩,λs x m A2 ⟨e1,e2,e3⟩=>?_⟩;subst e1 e2 e3;exact bsel_f rfl (hk A2 h2)
 | some c=>
  have h3:Own (At b [.map (some c)]::MapI c .i64 (grE K.gr)::(cV x K L (some c) R).eraseIdx 5) A1:=h1.cons λC hC=>GrS.openM hC;rw [hg] at h3;refine aL3 (i:=1) (j:=0) (m:=[]) h3 rfl rfl (by simp) (λp hp=>by cases hp) (λ_=>sorted ?_) λss s A' hp hne _ _=>?_
  ·refine ⟨λs x m A'=>s=Sl.nil/\x=0/\A'=A1,⟨0,rfl,rfl,rfl⟩,λs x m A' ⟨e1,e2,e3⟩=>?_⟩;subst e1 e2 e3;refine bsel_f rfl ⟨λs x m A2=>s=Sl.nil/\x=0/\A2=A',⟨0,rfl,rfl,rfl⟩,λs x m A2 ⟨e1,e2,e3⟩=>?_⟩;subst e1 e2 e3;exact bsel_f rfl (hk A2 h2)
  ·exact absurd (List.perm_nil.1 hp) hne
def aKd (K:Ke) (p:KP):Ke:={ K with M:=(finM (closeM K.M p.sp).1 p.box).1,ps:=K.ps.filter (λq=>q.pid != p.pid),line:=aCb K.line p.pid,tk:=if K.line.head? = some p.pid then 0 else K.tk }
def bareP (K:Ke) (p:KP):Bool:=match findS K.M p.sp with
 | some s=>s.pgs.isEmpty
 | none=>false
def onlyP (K:Ke) (p:KP):Bool:=K.ps.all λq=>q.pid==p.pid || (q.sp != p.sp&&q.box != p.box)
def kidsF (e:Ke->Int->Option Ke) (K:Ke) (pid:Int):Nat->Option Ke
 | 0=>some K
 | n+1=>match kidsF e K pid n with
  | none=>none
  | some K1=>match findP K1 n with
   | none=>some K1
   | some c=>if (n:Int) != 0&&c.par==pid then e K1 n else some K1
def endK:Nat->Ke->Int->Option Ke
 | 0,_,_=>none
 | f+1,K,pid=>match kidsF (endK f) K pid 16 with
  | none=>none
  | some K1=>match findP K1 pid with
   | none=>none
   | some p=>if bareP K1 p&&(K1.gr.isEmpty&&onlyP K1 p) then some (aKd K1 p) else none
theorem zI {e:Ke->Int->Option Ke}:∀ {n v:Nat},kidsF e K pid n≠none->v<=n->kidsF e K pid v≠none
 | 0,v,h,hv=>by
  have:v=0:=by omega
  rw [this];exact h
 | n+1,v,h,hv=>by
  rcases Nat.lt_or_ge v (n+1) with w | w
  ·refine zI (n:=n) (λz=>h ?_) (by omega);show (match kidsF e K pid n with | none=>none | some K1=>_:Option Ke)=none
   rw [z]
  ·have:v=n+1:=by omega
   rw [this];exact h
theorem sO {pid:Int}:∀ {L:List (KP × Nat)},((L.map (·.1)).map (·.pid)).Nodup->delM (pmE L) pid=pmE (L.filter λy=>y.1.pid != pid)
 | [],_=>rfl
 | y::r,h=>by
  rw [List.map_cons,List.map_cons,List.nodup_cons] at h;show (if y.1.pid=pid then pmE r else (y.1.pid,ptrV y.2)::delM (pmE r) pid)=_;by_cases e:y.1.pid=pid
  ·rw [if_pos e,List.filter_cons_of_neg (by simp [e])]
   have:r.filter (λy=>y.1.pid != pid)=r:=List.filter_eq_self.2 λz hz=>by
    have:z.1.pid≠pid:=λw=>h.1 (by rw [e,<- w];exact List.mem_map_of_mem (List.mem_map_of_mem hz));simpa using this
   rw [this]
  ·rw [if_neg e,List.filter_cons_of_pos (by simpa using e),sO h.2];rfl
theorem aCN {M:Mm} {id id':Int} (h:(findS M id').isSome=true) (hne:id'≠id):(findS (closeM M id).1 id').isSome=true:=by
 unfold closeM;split
 ·exact h
 ·split
  ·exact h
  ·obtain ⟨s,s1,s2⟩:=cT.1 h;refine cT.2 ⟨s,?_,s2⟩;show s ∈ delS M.sps id;unfold delS;exact List.mem_filter.2 ⟨s1,by simpa using λz=>hne (s2.symm.trans z)⟩
theorem wU {M:Mm} {id:Int} {m:Nat} (h:liveN M.ns m=true):liveN (closeM M id).1.ns m=true:=by
 unfold closeM;split
 ·exact h
 ·split
  ·exact h
  ·show liveN (addU M.ns _ _) m=true;rw [fH];exact h
theorem aFl {M:Mm} {id:Int} {s:Sm} (h:s ∈ (closeM M id).1.sps):s ∈ M.sps:=by
 unfold closeM at h;split at h
 ·exact h
 ·split at h
  ·exact h
  ·exact (List.mem_filter.1 h).1
theorem bV.fin (hK:bV K) (ho:onlyP K p=true) (hI1:InvM (closeM K.M p.sp).1) (hI:InvM (finM (closeM K.M p.sp).1 p.box).1):bV (aKd K p):=by
 have hoth:∀ q ∈ K.ps.filter (λq=>q.pid != p.pid),q ∈ K.ps/\q.pid≠p.pid/\q.sp≠p.sp/\q.box≠p.box:=λq hq=>by
  obtain ⟨h1,h2⟩:=List.mem_filter.1 hq;have h2:q.pid≠p.pid:=by simpa using h2
  have:=List.all_eq_true.1 ho q h1;simp only [Bool.or_eq_true,beq_iff_eq,Bool.and_eq_true,bne_iff_ne] at this;rcases this with z | z
  ·exact absurd z h2
  ·exact ⟨h1,h2,z.1,z.2⟩
 refine ⟨hI,?_,λq hq=>hK.rng q (hoth q hq).1,?_,λq hq=>?_,λq hq=>?_,λs hs=>?_,hK.nsp⟩
 ·exact hK.nd.sublist (List.filter_sublist.map _)
 ·show (aCb K.line p.pid).Perm ((K.ps.filter λq=>q.pid != p.pid).map (·.pid));unfold aCb;have h1:=hK.line.filter λy=>y != p.pid;rw [List.filter_map] at h1;exact h1
 ·obtain ⟨h1,_,h3,_⟩:=hoth q hq;show (findS (finM (closeM K.M p.sp).1 p.box).1 q.sp).isSome=true;rw [cT,aAd,<- cT];exact aCN (hK.sp q h1) h3
 ·obtain ⟨h1,_,_,h4⟩:=hoth q hq;exact yZ hI1 h4 (wU (hK.box q h1))
 ·have hs:s ∈ (finM (closeM K.M p.sp).1 p.box).1.sps:=hs;rw [aAd] at hs;exact hK.old s (aFl hs)
theorem aJm:∀ (f:Nat) {K K':Ke} {pid:Int} {A:AH} {Q:AH->Prop},Own (KerS x K::R) A->bV K->endK f K pid=some K'->(∀ A',bV K'->Own (KerS x K'::R) A'->Q A')->qfy_A f (some ⟨x.kb,0,none⟩) pid Q A
 | 0,K,K',pid,A,Q,_,_,he,_=>by cases he
 | f+1,K,K',pid,A,Q,h,hK,he,hk=>by
  have he:(match kidsF (endK f) K pid 16 with
   | none=>none
   | some K1=>match findP K1 pid with
    | none=>none
    | some p=>if bareP K1 p&&(K1.gr.isEmpty&&onlyP K1 p) then some (aKd K1 p) else none:Option Ke)=some K':=he
  cases e16:kidsF (endK f) K pid 16 with
  | none=>rw [e16] at he;cases he
  | some K16=>
   rw [e16] at he;simp only at he;show qfy_G (qfy_A f) qff_A qfg_A qfv_A qce_A qfx_A (some ⟨x.kb,0,none⟩) pid Q A;unfold qfy_G;simp only [aH,add_at,Nat.zero_add];refine ⟨λz m A'=>∃ (v:Nat) (K1:Ke),z=v/\v<=16/\m+v=16/\kidsF (endK f) K pid v=some K1/\bV K1/\Own (KerS x K1::R) A',⟨16,0,K,rfl,by omega,rfl,rfl,hK,h⟩,?_⟩;intro z m A1 ⟨v,K1,e1,e2,e3,e4,hK1,h1⟩;subst e1;refine aG (λc=>?_) λc=>?_
   ·have c:v<16:=by have:=of_decide_eq_true c;omega
    have hnx:kidsF (endK f) K pid (v+1)=match findP K1 v with
      | none=>some K1
      | some q=>if (v:Int) != 0&&q.par==pid then endK f K1 v else some K1:=by
     show (match kidsF (endK f) K pid v with | none=>none | some K1=>_:Option Ke)=_
     rw [e4]
    have hne:=zI (n:=16) (v:=v+1) (by rw [e16];simp) (by omega);have hw:IntKind.wrap .i64 ((v:Int)+1)=((v+1:Nat):Int):=by rw [bG (by omega) (by omega)];rfl
    rw [hw];refine ⟨λA'=>∃ K2,kidsF (endK f) K pid (v+1)=some K2/\bV K2/\Own (KerS x K2::R) A',λA2 ⟨K2,f1,f2,f3⟩=>⟨m-1,by omega,v+1,K2,rfl,by omega,by omega,f1,f2,f3⟩,?_⟩;obtain ⟨L,gm,hL,h2⟩:=KerS.openH h1;refine dY (i:=2) h2 rfl rfl (kD (i:=4) h2 rfl ?_);cases hf:findP K1 v with
    | none=>
     rw [hf] at hnx;rw [aJf hL hf];exact ⟨none,rfl,bsel_f rfl ⟨K1,hnx,hK1,h1⟩⟩
    | some q=>
     rw [hf] at hnx;simp only at hnx;obtain ⟨y,j,rfl,hj,hlk,hpi⟩:=vZ hL hf;rw [hlk];refine ⟨some ⟨y.2,0,none⟩,rfl,aN rfl (aG (λc0=>?_) λc0=>?_)⟩
     ·simp only [aH,add_at,Nat.zero_add];refine ld_I h2 (iP hj) rfl (aG (λcp=>?_) λcp=>?_)
      ·have:((v:Int) != 0&&y.1.par==pid)=true:=by rw [c0,cp];rfl
       rw [if_pos this] at hnx;cases e5:endK f K1 v with
       | none=>rw [hnx,e5] at hne;exact absurd rfl hne
       | some K2=>
        rw [e5] at hnx;exact aJm f h1 hK1 e5 λA2 hK2 h3=>⟨K2,hnx,hK2,h3⟩
      ·have:((v:Int) != 0&&y.1.par==pid)=false:=by rw [cp,Bool.and_false]
       rw [if_neg (by rw [this];simp)] at hnx;exact ⟨K1,hnx,hK1,h1⟩
     ·have:((v:Int) != 0&&y.1.par==pid)=false:=by rw [c0,Bool.false_and]
      rw [if_neg (by rw [this];simp)] at hnx;exact ⟨K1,hnx,hK1,h1⟩
   ·have c:v=16:=by have:=of_decide_eq_false c;omega
    subst c;rw [e16] at e4;cases e4;cases hf:findP K16 pid with
    | none=>rw [hf] at he;cases he
    | some p=>
     rw [hf] at he;simp only at he;by_cases hc:(bareP K16 p&&(K16.gr.isEmpty&&onlyP K16 p))=true
     rotate_left
     ·rw [if_neg hc] at he;cases he
     rw [if_pos hc] at he;cases he;obtain ⟨hbr,hc⟩:=Bool.and_eq_true_iff.1 hc;obtain ⟨hg,ho⟩:=Bool.and_eq_true_iff.1 hc
     obtain ⟨s0,hs0,hp0⟩:∃ s0,findS K16.M p.sp=some s0/\s0.pgs=[]:=by
      unfold bareP at hbr;cases e:findS K16.M p.sp with
      | none=>rw [e] at hbr;cases hbr
      | some s0=>rw [e] at hbr;exact ⟨s0,rfl,by simpa using hbr⟩
     have hg:K16.gr=[]:=by simpa using hg
     obtain ⟨L,gm,hL,h2⟩:=KerS.openH h1;refine aCe h2 hg λA2 h3=>?_;refine ⟨λz m A'=>z=0/\A'=A2,⟨0,rfl,rfl⟩,λz m A3 ⟨f1,f2⟩=>?_⟩;subst f1 f2;refine bsel_f rfl ?_;obtain ⟨y,j,rfl,hj,hlk,hpi⟩:=vZ hL hf;have hym:y.1 ∈ K16.ps:=by rw [<-hL];exact List.mem_map_of_mem (List.mem_of_getElem? hj)
     refine dY (i:=2) h3 rfl rfl (kD (i:=4) h3 rfl ?_);rw [hlk];refine ⟨some ⟨y.2,0,none⟩,rfl,cO (i:=2) h3 rfl rfl ?_⟩;simp only [aH,add_at,Nat.zero_add];refine tC h3 ?_;refine ld_I h3 (iP hj) rfl ?_;obtain ⟨φ,h4⟩:=MacE.openE h3;refine aFR h4 hK1.inv hs0 hp0 λA4 hI4 h5=>?_;have h5:Own (cV x { K16 with M:=(closeM K16.M y.1.sp).1 } L gm R) A4:=MacE.closeE h5;refine cO (i:=2) h5 rfl rfl ?_;simp only [aH,add_at,Nat.zero_add];refine tC h5 ?_;simp only [aH,add_at,Nat.zero_add];refine uK h5 (ld_I h5 (iP hj) rfl ?_);refine aJC h5 hI4 (wU (hK1.box y.1 hym)) λA5 hI5 h6=>?_;have h6:Own (cV x { K16 with M:=(finM (closeM K16.M y.1.sp).1 y.1.box).1 } L gm R) A5:=h6;refine cO (i:=2) h6 rfl rfl ?_;have hpl:y.1.pid ∈ K16.line:=hK1.line.mem_iff.2 (List.mem_map_of_mem hym);rw [<-hpi];refine aFg (h6.pick 3 rfl) hK1.line_len (hK1.line.nodup_iff.2 hK1.nd) hpl λA6 h7=>?_;have h7:=cV.que h7;refine dY (i:=2) h7 rfl rfl (aCI (i:=4) h7 rfl λA7 h8=>hk A7 (hK1.fin ho hI4 hI5) ?_);refine KerS.closeH (L:=L.filter λz=>z.1.pid != y.1.pid) (gm:=gm) ?_ ?_
     ·show (L.filter _).map (·.1)=K16.ps.filter λq=>q.pid != y.1.pid;rw [<-hL,List.filter_map];rfl
     ·have h8:Own (MacE x.c (finM (closeM K16.M y.1.sp).1 y.1.box).1::CpuS x.cp x.c.m x.n::At x.kb (kbC x gm K16.nsp)::QueS x.qb x.qn (if K16.line.head? = some y.1.pid then 0 else K16.tk) (aCb K16.line y.1.pid)::MapI x.pm .i64 (delM (pmE L) y.1.pid)::GrS gm K16.gr::(L.map jQ++R)) A7:=h8;rw [sO (by rw [hL];exact hK1.nd)] at h8;have hsub:((L.filter λz=>z.1.pid != y.1.pid).map jQ++R).Sublist (L.map jQ++R):=List.Sublist.append_right (List.filter_sublist.map _) R;exact h8.cons λ_ h=>h.cons λ_ h=>h.cons λ_ h=>h.cons λ_ h=>h.cons λ_ h=>h.cons λ_ h=>h.sub hsub
theorem aLn {Q:Int->Int->Int->Int->Int->Bool->AH->Prop} (f:Nat) (h:Own (KerS x K::R) A) (hK:bV K) (hb:∀ x ∈ [w0,w1,w2,w3,w4,w5],0<=x/\x<18446744073709551616) (hc:dU w0 w1 w2 w3 w4 w5=some cl) (hop:cl.op=13)
  (hl:K.line=pid::r) (hp0:pid≠0) (he:endK f K pid=some K') (hk:∀ A',bV K'->Own (KerS x K'::R) A'->Q pid 0 0 0 0 false A'):qgb_A (some ⟨x.kb,0,none⟩) w0 w1 w2 w3 w4 w5 Q A:=by
 obtain ⟨L,gm,hL,h⟩:=KerS.openH h;refine uB (j:=2) (i:=3) h rfl (que_at hl) hb hc (by omega) λA1 h1=>zX (by omega) λb hb=>?_;rw [hop] at hb;refine aN hb ?_;unfold qfz_A qfz_G;refine ⟨λA'=>bV K'/\Own (KerS x K'::R) A',λA2 ⟨hK2,h2⟩=>hk A2 hK2 h2,bsel_f (by rw [hop];rfl) (bsel_f (by rw [hop];rfl) (bsel_f (by simpa using hp0) ?_))⟩;exact ⟨f,aJm f (KerS.closeH hL h1) hK he λA2 hK2 h2=>⟨hK2,h2⟩⟩
end Go.Dn
namespace Go.Dn
variable {A:AH} {l:List SP}
theorem sS {w0 w1 w2 w3 w4 w5:Int} (h:(0<=w0/\0<=w1/\0<=w2/\0<=w3/\0<=w4/\0<=w5)/\w0<18446744073709551616/\w1<18446744073709551616/\w2<18446744073709551616/\w3<18446744073709551616/\w4<18446744073709551616/\w5<18446744073709551616):∀ x ∈ [w0,w1,w2,w3,w4,w5],0<=x/\x<18446744073709551616:=λx hx=>by
 simp at hx;rcases hx with rfl | rfl | rfl | rfl | rfl | rfl<;>omega
def aw0:KP:=⟨0,1,0,0,ts0⟩
def awA:Ke:=(uY (k1K 40) aw0 { op:=4,addr:=0,size:=8 }).1
def awB:Ke:={ awA with M:=(mapM awA.M 0 ⟨0,4,true,true,false,0⟩).1 }
def awC:Ke:=(uY awB aw0 { op:=5,addr:=8,size:=8,x:=5 }).1
def awD:Ke:=(uY awC aw0 { op:=4,addr:=8,size:=8 }).1
theorem vU (h:Own l A):Own (SlO Sl.nil 1 (ivC [])::l) A:=⟨λ_=>none,A,λ_=>.inl rfl,(λ_ _ e=>nomatch e),lA.refl A,SlO.nil,h⟩
set_option maxRecDepth 20000 in
theorem v6 {Q:Bool->AH->Prop} (h:Own l A) (hk:∀ A',Own l A'->Q true A'):qgd_A Q A:=by
 unfold qgd_A qgd_G;refine aGe (k:=0) (ch:=[]) (vU h) rfl dR (λ_=>rfl) (by omega) (Nat.le_refl _) λs5 s7 A1 hs5 hs7 h1=>?_;refine aHa h1 hs5 hs7 (by simp) (by omega) (by omega) (by omega) λx A2 hq hN hK h2=>?_;refine ⟨λA'=>Own (KerS x (k1K 40)::SlO Sl.nil 1 (ivC [])::l) A',λA3 h3=>?_,bsel_f rfl (bsel_f rfl h2)⟩;refine aFQ (cl:={ op:=4,addr:=0,size:=8 }) (p:=aw0) h3 hK (sS (by decide)) rfl (.inl rfl) rfl rfl (by decide) (by decide) (by decide) λA4 hK4 h4=>?_;have hK4:bV awA:=hK4;have h4:Own (KerS x awA::SlO Sl.nil 1 (ivC [])::l) A4:=h4;refine aLo (cl:={ op:=1,a:=0,b:=4,pw:=true,pu:=true }) (p:=aw0) h4 hK4 (sS (by decide)) rfl rfl rfl rfl λA5 hK5 h5=>?_;have hK5:bV awB:=hK5;have h5:Own (KerS x awB::SlO Sl.nil 1 (ivC [])::l) A5:=h5;refine aFQ (cl:={ op:=5,addr:=8,size:=8,x:=5 }) (p:=aw0) h5 hK5 (sS (by decide)) rfl (.inr rfl) rfl rfl (by decide) (by decide) (by decide) λA6 hK6 h6=>?_;have hK6:bV awC:=hK6;have h6:Own (KerS x awC::SlO Sl.nil 1 (ivC [])::l) A6:=h6;refine aFQ (cl:={ op:=4,addr:=8,size:=8 }) (p:=aw0) h6 hK6 (sS (by decide)) rfl (.inl rfl) rfl rfl (by decide) (by decide) (by decide) λA7 hK7 h7=>?_;have h7:Own (KerS x awD::SlO Sl.nil 1 (ivC [])::l) A7:=h7;refine aN rfl (aN rfl (aN rfl (aN rfl (aN rfl (aN rfl ?_)))));exact aKn h7 rfl (hk A7 h7.tail.tail)
end Go.Dn
namespace Go.Dn
def toF (t:Int):Nat->Ke->Ke
 | 0,K=>K
 | n+1,K=>if K.line.head? = some t then K else toF t n (l3 K)
def aGh (K:Ke) (i:Nat):Ke:=match findP (toF i 20 K) i with
 | some p=>(cP (toF i 20 K) i p.box (100-5*((i:Int)+1))).1
 | none=>K
def cRun:Nat->Ke
 | 0=>k1K 150
 | i+1=>aGh (cRun i) i
def aL5 (i:Nat):Bool:=match findP (toF i 20 (cRun i)) i with
 | some p=>decide ((toF i 20 (cRun i)).nsp<100)&&((toF i 20 (cRun i)).line.head?==some (i:Int)&&(cP (toF i 20 (cRun i)) i p.box (100-5*((i:Int)+1))).2==((i:Int)+1,0))
 | none=>false
theorem aFT:∀ i,i<12->aL5 i=true:=by decide +kernel
def aLS (n at_:Nat):Bool:=match endK 16 (toF at_ 20 (cRun n)) at_ with
 | some K'=>(toF at_ 20 (cRun n)).line.head?==some (at_:Int)&&(List.range (n+1)).all (λpid=>(findP K' pid).isSome==decide (pid<at_))&&K'.line.length==at_&&sumZ rmN K'.M.ns==sumZ rmN (k1K 150).M.ns-((at_:Int)-1)
 | none=>false
theorem aF4:∀ n,n<13->∀ a,a<n+1->1<=a->aLS n a=true:=by decide +kernel
end Go.Dn
namespace Go.Dn
variable {A:AH} {R:List SP}
theorem aBW {kx:Kx} {K:Ke} {Q:Option Addr->AH->Prop} (h:Own (KerS kx K::R) A) (hk:Q (some ⟨kx.c.m,0,none⟩) A):qge_A (some ⟨kx.kb,0,none⟩) Q A:=by
 obtain ⟨L,gm,hL,h⟩:=KerS.openH h;unfold qge_A;simp only [aH,add_at,Nat.zero_add];refine cO (i:=2) h rfl rfl (bsel_f rfl (cO (i:=2) h rfl rfl ?_));simp only [aH,add_at,Nat.zero_add];exact tC h hk
end Go.Dn
namespace Go.Dn
variable {A:AH} {l R:List SP} {kx:Kx} {K K':Ke}
theorem aJy {Q:Int->AH->Prop} (h:Own (KerS kx K::R) A) (hk:Q (sumZ rmN K.M.ns) A):aP ⟨kx.c.m,1,none⟩ A λpt=>qas_A pt (λn h'=>Q n h') A:=by
 obtain ⟨L,gm,hL,h⟩:=KerS.openH h;exact MacE.ptr (j:=1) h rfl (aK1 h hk)
theorem xL {L:List Int} {a:Int} (h:L.head? = some a):∃ r,L=a::r:=by
 cases L with
 | nil=>cases h
 | cons b r=>cases h;exact ⟨r,rfl⟩
theorem aDz (hK:bV K) (hp:∃ p,p ∈ K.ps):∃ pid r,K.line=pid::r:=by
 obtain ⟨p,hp⟩:=hp;cases e:K.line with
 | nil=>
  have:=hK.line.mem_iff.2 (List.mem_map_of_mem hp);rw [e] at this;cases this
 | cons a r=>exact ⟨a,r,rfl⟩
theorem aGi {par q:Int} {box:Nat} (hp:∃ p,p ∈ K.ps):∃ p,p ∈ (cP K par box q).1.ps:=by
 obtain ⟨p,hp⟩:=hp;unfold cP;split
 ·exact ⟨p,hp⟩
 ·split
  ·exact ⟨p,hp⟩
  ·split
   ·exact ⟨p,hp⟩
   ·exact ⟨p,List.mem_append_left _ hp⟩
theorem aFV:dU 14 0 0 0 0 0=some { op:=14 }:=rfl
theorem aKE:dU 13 0 0 0 0 0=some { op:=13 }:=rfl
theorem aJJ {q:Int} (h1:q<=1048576):dU 12 q 0 0 0 0=some { op:=12,id:=q }:=by
 show (if decide (q<=1048576) then kG { op:=12,id:=q } [0,0,0,0] else none)=_;rw [if_pos (by simpa using h1)];rfl
set_option maxRecDepth 20000 in
theorem qO {n a:Int} {Q:Bool->AH->Prop} (h:Own l A) (hk:∀ A',Own l A'->Q true A'):qgj_A n a Q A:=by
 unfold qgj_A qgj_G;refine ⟨λA'=>A'=A/\1<=n/\n<=12/\1<=a/\a<=n,λA0 ⟨e0,g1,g2,g3,g4⟩=>?_,aG (λ_=>v6 h hk) λc1=>aG (λ_=>v6 h hk) λc2=>aG (λ_=>v6 h hk) λc3=>aG (λ_=>v6 h hk) λc4=>⟨rfl,?_,?_,?_,?_⟩⟩
 rotate_left
 ·have:=of_decide_eq_false c1;omega
 ·have:=of_decide_eq_false c2;omega
 ·have:=of_decide_eq_false c3;omega
 ·have:=of_decide_eq_false c4;omega
 subst e0;obtain ⟨nn,rfl⟩:∃ nn:Nat,n=nn:=⟨n.toNat,by omega⟩;obtain ⟨aa,rfl⟩:∃ aa:Nat,a=aa:=⟨a.toNat,by omega⟩;refine aGe (k:=0) (ch:=[]) (vU h) rfl dR (λ_=>rfl) (by omega) (Nat.le_refl _) λs5 s7 A1 hs5 hs7 h1=>?_;refine aHa h1 hs5 hs7 (by simp) (by omega) (by omega) (by omega) λkx A2 hqn hN hK h2=>?_;obtain ⟨R1,hR1⟩:∃ R1,R1=SlO Sl.nil 1 (ivC []):=⟨_,rfl⟩;rw [<-hR1] at h2;refine ⟨λA'=>Own (KerS kx (k1K 150)::R1::l) A',λA3 h3=>?_,bsel_f rfl (bsel_f rfl h2)⟩;refine aBW h3 ?_;simp only [aH,add_at,Nat.zero_add];refine aJy h3 ?_;refine ⟨λz m A'=>∃ i:Nat,z=(i:Int)+1/\i<=nn/\m+i=nn/\bV (cRun i)/\(∃ p,p ∈ (cRun i).ps)/\Own (KerS kx (cRun i)::R1::l) A',⟨nn,0,rfl,by omega,rfl,hK,⟨_,List.mem_cons_self ..⟩,h3⟩,?_⟩;intro z m A4 ⟨i,e1,e2,e3,hKi,hpi,h4⟩;subst e1
 -- turns go on
 refine aG (λc=>?_) λc=>?_
 ·have c:i<nn:=by have:=of_decide_eq_true c;omega
  have hw1:IntKind.wrap .i64 ((i:Int)+1-1)=i:=by rw [bG]<;>omega
  have hw5:IntKind.wrap .i64 (5*((i:Int)+1))=5*((i:Int)+1):=bG (by omega) (by omega);have hw6:IntKind.wrap .i64 (100-5*((i:Int)+1))=100-5*((i:Int)+1):=bG (by omega) (by omega);have hw7:IntKind.wrap .u64 (100-5*((i:Int)+1))=100-5*((i:Int)+1):=cQ (by omega) (by omega);have hw8:IntKind.wrap .i64 ((i:Int)+1+1)=((i+1:Nat):Int)+1:=by rw [bG]<;>omega
  have hw9:IntKind.wrap .u64 ((i:Int)+1)=(i:Int)+1:=cQ (by omega) (by omega);rw [hw1,hw5,hw6,hw7,hw8,hw9];have hck:=aFT i (by omega)
  have sp:∀ {A5:AH},bV (toF i 20 (cRun i))->(∃ p,p ∈ (toF i 20 (cRun i)).ps)->Own (KerS kx (toF i 20 (cRun i))::R1::l) A5->qgb_A (some ⟨kx.kb,0,none⟩) 12 (100-5*((i:Int)+1)) 0 0 0 0 (λn49 n50 n51 n52 n53 b54 h55=>bsel (n51 != (0:Int)) (Q false h55) (bsel (n50 != ((i:Int)+1)) (Q false h55) (∃ m32,m32<m/\∃ i2:Nat,((i+1:Nat):Int)+1=(i2:Int)+1/\i2<=nn/\m32+i2=nn/\bV (cRun i2)/\(∃ p,p ∈ (cRun i2).ps)/\Own (KerS kx (cRun i2)::R1::l) h55))) A5:=λ{A5} hKT hpT h5=>by
   unfold aL5 at hck;cases hf:findP (toF i 20 (cRun i)) i with
   | none=>rw [hf] at hck;cases hck
   | some p=>
    rw [hf] at hck;simp only [Bool.and_eq_true,decide_eq_true_eq,beq_iff_eq] at hck;obtain ⟨k1,k2,k3⟩:=hck;obtain ⟨r,hr⟩:=xL k2;refine aJV (cl:={ op:=12,id:=100-5*((i:Int)+1) }) (p:=p) h5 hKT (by omega) (sS (by omega)) (aJJ (by omega)) rfl hr hf λA6 hK6 h6=>?_
    have hs:cRun (i+1)=(cP (toF i 20 (cRun i)) i p.box (100-5*((i:Int)+1))).1:=by
     show aGh (cRun i) i=_;unfold aGh;rw [hf]
    simp only at hK6 h6 ⊢;have hp6:=aGi (par:=i) (q:=100-5*((i:Int)+1)) (box:=p.box) hpT;rw [<-hs] at hK6 h6 hp6;rw [show (cP (toF i 20 (cRun i)) i p.box (100-5*((i:Int)+1))).2.1=(i:Int)+1 by rw [k3],show (cP (toF i 20 (cRun i)) i p.box (100-5*((i:Int)+1))).2.2=0 by rw [k3]];exact bsel_f rfl (bsel_f (by simp) ⟨m-1,by omega,i+1,rfl,by omega,by omega,hK6,hp6,h6⟩)
  refine ⟨λz m' A'=>∃ (j:Nat) (Kj:Ke),z=j/\j<=20/\m'+j=20/\toF i (20-j) Kj=toF i 20 (cRun i)/\bV Kj/\(∃ p,p ∈ Kj.ps)/\Own (KerS kx Kj::R1::l) A',⟨20,0,cRun i,rfl,by omega,rfl,rfl,hKi,hpi,h4⟩,?_⟩;intro z m' A5 ⟨j,Kj,f1,f2,f3,f4,hKj,hpj,h5⟩;subst f1;refine aG (λcj=>?_) λcj=>?_
  ·have cj:j<20:=by have:=of_decide_eq_true cj;omega
   obtain ⟨pid,r,hr⟩:=aDz hKj hpj;obtain ⟨q,hq⟩:∃ q,20-j=q+1:=⟨20-j-1,by omega⟩;rw [hq] at f4;have f4:(if Kj.line.head? = some (i:Int) then Kj else toF i q (l3 Kj))=toF i 20 (cRun i):=f4;refine aKn h5 hr (aG (λcn=>?_) λcn=>?_)
   ·have cn:pid≠i:=by simpa using cn
    rw [if_neg (by rw [hr];simpa using cn)] at f4;refine aGj (cl:={ op:=14 }) h5 hKj (sS (by decide)) aFV rfl hr λA6 hK6 h6=>⟨m'-1,by omega,j+1,l3 Kj,by rw [bG]<;>omega,by omega,by omega,?_,hK6,hpj,h6⟩;rw [show 20-(j+1)=q by omega];exact f4
   ·have cn:pid=i:=by simpa using cn
    rw [if_pos (by rw [hr,cn];rfl)] at f4;subst f4;exact sp hKj hpj h5
  ·have cj:j=20:=by have:=of_decide_eq_false cj;omega
   subst cj;have f4:Kj=toF i 20 (cRun i):=f4;subst f4;exact sp hKj hpj h5
 ·have c:i=nn:=by have:=of_decide_eq_false c;omega
  subst c;have hce:=aF4 i (by omega) aa (by omega) (by omega);refine ⟨λA'=>bV (toF aa 20 (cRun i))/\Own (KerS kx (toF aa 20 (cRun i))::R1::l) A',λA5 ⟨hKT,h5⟩=>?_,?_⟩
  ·unfold aLS at hce;cases he:endK 16 (toF aa 20 (cRun i)) aa with
   | none=>rw [he] at hce;cases hce
   | some K'=>
    rw [he] at hce;simp only [Bool.and_eq_true,beq_iff_eq] at hce;obtain ⟨⟨⟨k1,k2⟩,k3⟩,k4⟩:=hce;obtain ⟨r,hr⟩:=xL k1;refine aLn (cl:={ op:=13 }) 16 h5 hKT (sS (by decide)) aKE rfl hr (by omega) he λA6 hK6 h6=>?_;refine ⟨λz m' A'=>∃ v:Nat,z=v/\v<=i+1/\m'+v=i+1/\A'=A6,⟨i+1,0,rfl,by omega,rfl,rfl⟩,?_⟩;intro z m' A7 ⟨v,f1,f2,f3,f4⟩;subst f1 f4;have hw:IntKind.wrap .i64 ((v:Int)+1)=((v+1:Nat):Int):=by rw [bG (by omega) (by omega)];rfl
    refine aG (λcv=>?_) λcv=>?_
    ·have cv:v<i+1:=by have:=of_decide_eq_true cv;omega
     have hv:=List.all_eq_true.1 k2 v (List.mem_range.2 cv);have hv:(findP K' v).isSome=decide (v<aa):=by simpa using hv
     have hd:decide ((v:Int)<(aa:Int))=decide (v<aa):=by
      rw [Bool.eq_iff_iff,decide_eq_true_eq,decide_eq_true_eq];omega
     cases hf:findP K' v with
     | none=>
      rw [hf] at hv;refine aHW h6 hf (bsel_f (by rw [hd,<- hv];rfl) ⟨m'-1,by omega,v+1,hw,by omega,by omega,rfl⟩)
     | some p=>
      rw [hf] at hv;have hpm:p ∈ K'.ps:=List.mem_of_find?_eq_some hf;obtain ⟨d,hdd,_⟩:=mY (hK6.box p hpm);refine aMA h6 hK6 hf hdd (bsel_f (by rw [hd,<- hv];rfl) ⟨m'-1,by omega,v+1,hw,by omega,by omega,rfl⟩)
    ·refine v6 h6 λA8 h8=>aN rfl (aN rfl ?_);refine aLE h8 hK6 λs' A9 _ h9=>?_;have hl9:s'.len=K'.line.length:=dP (k:=0) h9 rfl dR;refine aN (by rw [hl9,k3];simp) ?_;refine aBW h9.tail ?_;simp only [aH,add_at,Nat.zero_add];refine aJy h9.tail ?_;have hw1:IntKind.wrap .i64 ((aa:Int)-1)=aa-1:=bG (by omega) (by omega);have hs0:sumZ rmN (k1K 150).M.ns=146:=rfl;rw [k4,hw1,hs0,bG (by omega) (by omega)];have:((146:Int)-((aa:Int)-1)==146-((aa:Int)-1))=true:=by simp
     rw [this];exact hk A9 h9.tail.tail.tail
  ·refine ⟨λz m' A'=>∃ (j:Nat) (Kj:Ke),z=j/\j<=20/\m'+j=20/\toF aa (20-j) Kj=toF aa 20 (cRun i)/\bV Kj/\(∃ p,p ∈ Kj.ps)/\Own (KerS kx Kj::R1::l) A',⟨20,0,cRun i,rfl,by omega,rfl,rfl,hKi,hpi,h4⟩,?_⟩;intro z m' A5 ⟨j,Kj,f1,f2,f3,f4,hKj,hpj,h5⟩;subst f1;refine aG (λcj=>?_) λcj=>?_
   ·have cj:j<20:=by have:=of_decide_eq_true cj;omega
    obtain ⟨pid,r,hr⟩:=aDz hKj hpj;obtain ⟨q,hq⟩:∃ q,20-j=q+1:=⟨20-j-1,by omega⟩;rw [hq] at f4;have f4:(if Kj.line.head? = some (aa:Int) then Kj else toF aa q (l3 Kj))=toF aa 20 (cRun i):=f4;refine aKn h5 hr (aG (λcn=>?_) λcn=>?_)
    ·have cn:pid≠aa:=by simpa using cn
     rw [if_neg (by rw [hr];simpa using cn)] at f4;refine aGj (cl:={ op:=14 }) h5 hKj (sS (by decide)) aFV rfl hr λA6 hK6 h6=>⟨m'-1,by omega,j+1,l3 Kj,by rw [bG]<;>omega,by omega,by omega,?_,hK6,hpj,h6⟩;rw [show 20-(j+1)=q by omega];exact f4
    ·have cn:pid=aa:=by simpa using cn
     rw [if_pos (by rw [hr,cn];rfl)] at f4;subst f4;exact ⟨hKj,h5⟩
   ·have cj:j=20:=by have:=of_decide_eq_false cj;omega
    subst cj;have f4:Kj=toF aa 20 (cRun i):=f4;subst f4;exact ⟨hKj,h5⟩
end Go.Dn
