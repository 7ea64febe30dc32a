/- What the proof stands on. -/
import Derived.Test.YtmfmhmipcdgikaaGreatMacR
import Derived.Test.YtmfmhmipcdgikaaGreatKRegs
namespace Go.Dn
structure KP where
 pid:Int
 box:Nat
 sp:Int
 par:Int
 t:TS
structure GrZ where
 from_:Int
 page:Int
 to:Int
 w:Bool
 taken:Bool
 at_:Int
structure Ke where
 M:Mm
 ps:List KP
 line:List Int
 tk:Int
 gr:List (Int × GrZ)
 nsp:Int
structure Kx where
 kb:Nat
 cp:Nat
 qb:Nat
 pm:Nat
 n:Nat
 c:Mc
 qn:Int
def grV (g:GrZ):Value:=.agg #[.int .i64 g.from_,.int .i64 g.page,.int .i64 g.to,.bool g.w,.bool g.taken,.int .i64 g.at_]
def GrS (gm:Option Nat) (gr:List (Int × GrZ)):SP:=λB=>(gm=none/\gr=[])\/∃ b,gm=some b/\MapI b .i64 (gr.map λx=>(x.1,grV x.2)) B
def mL (y:KP × Nat):SP:=At y.2 (iA y.1.box y.1.sp y.1.par y.1.t)
def kbC (x:Kx) (gm:Option Nat) (nsp:Int):List Value:=[.pointer (some ⟨x.cp,0,none⟩),.pointer (some ⟨x.qb,0,none⟩),.map gm,.map (some x.pm),.int .i64 nsp]
def pmE (L:List (KP × Nat)):List (Int × Value):=L.map λy=>(y.1.pid,ptrV y.2)
def dZ (x:Kx) (K:Ke) (L:List (KP × Nat)) (gm:Option Nat) (R:List SP):List SP:=
 MacE x.c K.M::CpuS x.cp x.c.m x.n::At x.kb (kbC x gm K.nsp)::QueS x.qb x.qn K.tk K.line::MapI x.pm .i64 (pmE L)::GrS gm K.gr::(L.map mL++R)
def KerS (x:Kx) (K:Ke):SP:=λB=>∃ L gm,L.map (·.1)=K.ps/\Own (dZ x K L gm []) B
variable {A:AH} {R:List SP} {x:Kx} {K:Ke} {L:List (KP × Nat)} {gm:Option Nat} {p:KP} {y:KP × Nat} {pid:Int} {j:Nat} {M:Mm} {id:Int}
theorem KerS.openH (h:Own (KerS x K::R) A):∃ L gm,L.map (·.1)=K.ps/\Own (dZ x K L gm R) A:=by
 obtain ⟨L,h⟩:=Own.ex h;obtain ⟨gm,h⟩:=Own.ex h;obtain ⟨h1,h⟩:=Own.pure h;refine ⟨L,gm,h1,?_⟩;have:=h.flat;simp only [dZ,List.append_nil,List.cons_append] at this ⊢;exact this
theorem KerS.closeH (h1:L.map (·.1)=K.ps) (h:Own (dZ x K L gm R) A):Own (KerS x K::R) A:=by
 have h:Own (dZ x K L gm []++R) A:=by
  simp only [dZ,List.append_nil,List.cons_append] at h ⊢;exact h
 exact h.app.imp λ_ hB=>⟨L,gm,h1,hB⟩
def findP (K:Ke) (pid:Int):Option KP:=K.ps.find? λp=>p.pid==pid
theorem yG:∀ (L:List (KP × Nat)) (pid:Int),(pmE L).lookup pid=(L.find? λy=>y.1.pid==pid).map λy=>ptrV y.2
 | [],_=>rfl
 | y::r,pid=>by
  unfold pmE;rw [List.map_cons,List.lookup_cons,List.find?_cons]
  have e:(pid==y.1.pid)=(y.1.pid==pid):=by
   rw [Bool.eq_iff_iff];simp only [beq_iff_eq];exact ⟨Eq.symm,Eq.symm⟩
  rw [e];cases (y.1.pid==pid) with
  | true=>rfl
  | false=>exact yG r pid
theorem aC8 (h1:L.map (·.1)=K.ps) (pid:Int):findP K pid=(L.find? λy=>y.1.pid==pid).map (·.1):=by
 unfold findP;rw [<-h1,List.find?_map];rfl
theorem zB (h1:L.map (·.1)=K.ps) (hf:findP K pid=some p):∃ (y:KP × Nat) (j:Nat),y.1=p/\L[j]? = some y/\(pmE L).lookup pid=some (ptrV y.2)/\p.pid=pid:=by
 rw [aC8 h1] at hf;obtain ⟨y,hy,rfl⟩:=Option.map_eq_some_iff.1 hf;obtain ⟨j,hj⟩:=List.mem_iff_getElem?.1 (List.mem_of_find?_eq_some hy);exact ⟨y,j,rfl,hj,by rw [yG,hy];rfl,by simpa using List.find?_some hy⟩
theorem aKU (h1:L.map (·.1)=K.ps) (hf:findP K pid=none):(pmE L).lookup pid=none:=by
 rw [aC8 h1] at hf;rw [yG,Option.map_eq_none_iff.1 hf];rfl
theorem pJ (hj:L[j]? = some y):(dZ x K L gm R)[6+j]? = some (mL y):=by
 have hl:=(List.getElem?_eq_some_iff.1 hj).1;show ((([MacE x.c K.M,CpuS x.cp x.c.m x.n,At x.kb (kbC x gm K.nsp),QueS x.qb x.qn K.tk K.line,MapI x.pm .i64 (pmE L),GrS gm K.gr]:List SP)++(L.map mL++R)))[6+j]? = _;rw [List.getElem?_append_right (by simp),List.getElem?_append_left (by simpa using hl),List.getElem?_map];simp only [List.length_cons,List.length_nil,Nat.zero_add];rw [show 6+j-(1+1+1+1+1+1)=j by omega,hj];rfl
structure KeOK (K:Ke):Prop where
 inv:InvM K.M
 nd:(K.ps.map (·.pid)).Nodup
 rng:∀ p ∈ K.ps,0<=p.pid/\p.pid<16
 line:K.line.Perm (K.ps.map (·.pid))
 sp:∀ p ∈ K.ps,(findS K.M p.sp).isSome=true
 box:∀ p ∈ K.ps,liveN K.M.ns p.box=true
 old:∀ s ∈ K.M.sps,s.id<K.nsp
 nsp:0<=K.nsp
def freeP (ps:List KP):Nat:=((List.range 16).find? λv:Nat=>!(ps.any λp=>p.pid==(v:Int))).getD 16
end Go.Dn
namespace Go.Dn
variable {A:AH} {R:List SP} {x:Kx} {K:Ke} {L:List (KP × Nat)} {gm:Option Nat} {p:KP} {y:KP × Nat} {pid:Int} {q:Int} {i j:Nat} {M:Mm} {id:Int}
theorem aAz {ps:List KP} {v:Nat} (hv:∀ u:Nat,u<v->ps.any (λp=>p.pid==(u:Int))=true) (hn:ps.any (λp=>p.pid==(v:Int))=false) (h16:v<=16):freeP ps=v:=by
 unfold freeP;rcases Nat.lt_or_ge v 16 with h | h
 ·have e:(List.range 16).find? (λv:Nat=>!(ps.any λp=>p.pid==(v:Int)))=some v:=by
   rw [List.find?_range_eq_some];exact ⟨by simpa using hn,List.mem_range.2 h,λu hu=>by simpa using hv u hu⟩
  rw [e];rfl
 ·have e:(List.range 16).find? (λv:Nat=>!(ps.any λp=>p.pid==(v:Int)))=none:=by
   rw [List.find?_eq_none];intro u hu;have:=List.mem_range.1 hu;rw [hv u (by omega)];simp
  rw [e];show 16=v;omega
theorem aAU {ps:List KP} {pid:Int}:(ps.find? λp=>p.pid==pid).isSome=ps.any λp=>p.pid==pid:=by
 rw [Bool.eq_iff_iff,List.find?_isSome,List.any_eq_true]
def cQ (K:Ke) (par:Int) (box:Nat) (q:Int):Ke × Int × Int:=
 if 16<=freeP K.ps then (K,0,4)
 else if (kidM K.M box q).2.2≠0 then ({ K with M:=(kidM K.M box q).1 },0,(kidM K.M box q).2.2)
 else if (openM (kidM K.M box q).1 K.nsp (kidM K.M box q).2.1).2≠0 then ({ K with M:=(finM (openM (kidM K.M box q).1 K.nsp (kidM K.M box q).2.1).1 (kidM K.M box q).2.1).1 },0,(openM (kidM K.M box q).1 K.nsp (kidM K.M box q).2.1).2)
 else ({ K with M:=(openM (kidM K.M box q).1 K.nsp (kidM K.M box q).2.1).1,ps:=K.ps++[⟨freeP K.ps,(kidM K.M box q).2.1,K.nsp,par,ts0⟩],line:=K.line++[(freeP K.ps:Int)],nsp:=K.nsp+1 },freeP K.ps,0)
theorem aAw (hl:liveN M.ns i=true) (he:(kidM M i q).2.2=0):liveN (kidM M i q).1.ns (kidM M i q).2.1=true:=by
 obtain ⟨d,hd,hdl⟩:=o5 hl;unfold kidM at he ⊢;rw [hd] at he ⊢;simp only at he ⊢;by_cases e:kidE M.ns d q=0
 ·rw [if_neg (by simp [e])];obtain ⟨j,j1,_,_,j4,_⟩:=jQ (q:=q) hd hdl;show liveN (kidN M.ns i d q).1 (kidN M.ns i d q).2=true;unfold liveN;rw [j1,j4]
 ·rw [if_pos e] at he;exact absurd he e
theorem lM {q:Nat} (hl:liveN M.ns i=true):liveN (openM M id q).1.ns i=true:=by
 unfold openM;split
 ·exact hl
 ·split
  ·exact hl
  ·split
   ·exact hl
   ·show liveN (addU M.ns q 1) i=true;rw [iQ];exact hl
theorem dZ.back {X:SP} (h:Own (X::dZ x K L gm R) A):Own (dZ x K L gm (X::R)) A:=by
 refine h.perm ?_;unfold dZ;have:(X::(L.map mL++R)).Perm (L.map mL++X::R):=List.perm_middle.symm;exact (List.perm_middle (l₁:=[MacE x.c K.M,CpuS x.cp x.c.m x.n,At x.kb (kbC x gm K.nsp),QueS x.qb x.qn K.tk K.line,MapI x.pm .i64 (pmE L),GrS gm K.gr]) (l₂:=L.map mL++R) (a:=X)).symm.trans (List.Perm.append_left _ this)
theorem aAP {K0:Option Addr->Prop} (h:Own (dZ x K L gm R) A) (hk:K0 (some ⟨x.c.m,0,none⟩)):aP ⟨x.cp,0,none⟩ A K0:=by
 obtain ⟨s,ch,at_,_,h2⟩:=CpuS.openH (h.pick 1 rfl);exact dF (i:=0) h2 rfl rfl hk
theorem yW {K0:Option Addr->Prop} (h:Own (dZ x K L gm R) A) (hk:K0 (some ⟨x.c.t,0,none⟩)):aP ⟨x.c.m,2,none⟩ A K0:=MacE.ptr (j:=2) h rfl hk
theorem aIK {c:Mc} {M:Mm} {Q:Int->AH->Prop} (h:Own (MacE c M::R) A) (hM:InvM M) (hl:liveN M.ns i=true) (hk:∀ A',InvM (openM M id i).1->Own (MacE c (openM M id i).1::R) A'->Q (openM M id i).2 A'):qca_A (some ⟨c.m,0,none⟩) id i Q A:=by
 obtain ⟨φ,h⟩:=MacE.openE h;exact aJf h hM hl λA' hI h'=>hk A' hI (MacE.closeE h')
theorem fF {M:Mm}:(findS M id).isSome=true↔∃ s ∈ M.sps,s.id=id:=by
 unfold findS;rw [List.find?_isSome];simp
theorem sP:(kidM M i q).1.sps=M.sps:=by
 unfold kidM;split
 ·rfl
 ·split<;>rfl
theorem aGR:(finM M i).1.sps=M.sps:=by
 unfold finM;split
 ·rfl
 ·split<;>rfl
theorem aA5 {s:Sm}:s ∈ (openM M id i).1.sps↔((openM M id i).2=0/\s=newS id i)\/s ∈ M.sps:=by
 unfold openM;split
 ·simp
 ·split
  ·simp
  ·split
   ·simp
   ·obtain ⟨p,q,e1,e2⟩:=gP (newS id i) M.sps;show s ∈ insS M.sps (newS id i)↔_;rw [e2,mid_iff,<- e1];simp
theorem qY {m:Nat} (hl:liveN M.ns i=true) (h:liveN M.ns m=true):liveN (kidM M i q).1.ns m=true:=by
 obtain ⟨d,hd,hdl⟩:=o5 hl;unfold kidM;rw [hd];simp only;split
 ·exact h
 ·obtain ⟨j,j1,j2,j3,j4,j5,j6⟩:=jQ (q:=q) hd hdl;show liveN (kidN M.ns i d q).1 m=true;by_cases e:m=i
  ·unfold liveN;rw [e,j5];exact hdl
  ·by_cases e2:m=j
   ·unfold liveN;rw [e2,j4]
   ·unfold liveN;rw [j6 m e e2];exact h
theorem aGL (hl:liveN M.ns i=true) (he:(kidM M i q).2.2=0):liveN M.ns (kidM M i q).2.1=false:=by
 obtain ⟨d,hd,hdl⟩:=o5 hl;unfold kidM at he ⊢;rw [hd] at he ⊢;simp only at he ⊢;by_cases e:kidE M.ns d q=0
 ·rw [if_neg (by simp [e])];obtain ⟨j,j1,_,j3,_⟩:=jQ (q:=q) hd hdl;show liveN M.ns (kidN M.ns i d q).2=false;rw [j1];exact j3
 ·rw [if_pos e] at he;exact absurd he e
theorem aEs {m:Nat} (hM:InvM M) (hm:m≠i) (h:liveN M.ns m=true):liveN (finM M i).1.ns m=true:=by
 unfold finM;split
 ·exact h
 ·rename_i d hd;split
  ·rename_i he;show liveN (j8 M.ns i d) m=true;rw [(hM.tree.fin hd he).2.2 m hm];exact h
  ·exact h
theorem KeOK.kid {box:Nat} (hK:KeOK K) (hI:InvM (kidM K.M box q).1) (hb:liveN K.M.ns box=true):KeOK { K with M:=(kidM K.M box q).1 }:=
 ⟨hI,hK.nd,hK.rng,hK.line,λp hp=>by
  show (findS (kidM K.M box q).1 p.sp).isSome=true;rw [fF,sP,<- fF];exact hK.sp p hp,λp hp=>qY hb (hK.box p hp),λs hs=>hK.old s (by rw [<-sP];exact hs),hK.nsp⟩
theorem KeOK.kidBack {box:Nat} (hK:KeOK K) (hb:liveN K.M.ns box=true) (c2:(kidM K.M box q).2.2=0) (c3:¬ (openM (kidM K.M box q).1 K.nsp (kidM K.M box q).2.1).2=0) (hI3:InvM (openM (kidM K.M box q).1 K.nsp (kidM K.M box q).2.1).1)
  (hI:InvM (finM (openM (kidM K.M box q).1 K.nsp (kidM K.M box q).2.1).1 (kidM K.M box q).2.1).1):KeOK { K with M:=(finM (openM (kidM K.M box q).1 K.nsp (kidM K.M box q).2.1).1 (kidM K.M box q).2.1).1 }:=by
 have hmem:∀ s,s ∈ (finM (openM (kidM K.M box q).1 K.nsp (kidM K.M box q).2.1).1 (kidM K.M box q).2.1).1.sps↔s ∈ K.M.sps:=λs=>by
  rw [aGR,aA5,sP];exact ⟨λz=>z.resolve_left λw=>c3 w.1,.inr⟩
 refine ⟨hI,hK.nd,hK.rng,hK.line,λp hp=>?_,λp hp=>?_,λs hs=>hK.old s ((hmem s).1 hs),hK.nsp⟩
 ·obtain ⟨s,s1,s2⟩:=fF.1 (hK.sp p hp);exact fF.2 ⟨s,(hmem s).2 s1,s2⟩
 ·refine aEs hI3 (λz=>?_) (lM (qY hb (hK.box p hp)));have:=aGL hb c2;rw [<-z,hK.box p hp] at this;cases this
theorem KeOK.line_len (hK:KeOK K):K.line.length<=10000:=by
 have h1:=hK.line.length_eq;rw [List.length_map] at h1
 have h2:=u9 (l:=(List.range 16).map λv:Nat=>(v:Int)) hK.nd λz hz=>by
  obtain ⟨p,hp,rfl⟩:=List.mem_map.1 hz;have:=hK.rng p hp;exact List.mem_map.2 ⟨p.pid.toNat,List.mem_range.2 (by omega),by omega⟩
 simp at h2;omega
theorem KeOK.add {box:Nat} {par:Int} {v:Nat} (hK:KeOK K) (hb:liveN K.M.ns box=true) (c2:(kidM K.M box q).2.2=0) (c3:(openM (kidM K.M box q).1 K.nsp (kidM K.M box q).2.1).2=0) (hI:InvM (openM (kidM K.M box q).1 K.nsp (kidM K.M box q).2.1).1)
  (_hfp:freeP K.ps=v) (hany:K.ps.any (λp=>p.pid==(v:Int))=false) (hv:v<16):KeOK { K with M:=(openM (kidM K.M box q).1 K.nsp (kidM K.M box q).2.1).1,ps:=K.ps++[⟨v,(kidM K.M box q).2.1,K.nsp,par,ts0⟩],line:=K.line++[(v:Int)],nsp:=K.nsp+1 }:=by
 have hmem:∀ s,s ∈ (openM (kidM K.M box q).1 K.nsp (kidM K.M box q).2.1).1.sps↔s=newS K.nsp (kidM K.M box q).2.1\/s ∈ K.M.sps:=λs=>by
  rw [aA5,sP];simp [c3]
 refine ⟨hI,?_,λp hp=>?_,?_,λp hp=>?_,λp hp=>?_,λs hs=>?_,by have:=hK.nsp;show 0<=K.nsp+1;omega⟩
 ·show (List.map KP.pid (K.ps++[_])).Nodup;rw [List.map_append,List.nodup_append];refine ⟨hK.nd,by simp,λz hz w hw e=>?_⟩;obtain ⟨p,hp,rfl⟩:=List.mem_map.1 hz;simp at hw;exact List.any_eq_false.1 hany p hp (by simp [e,hw])
 ·rcases List.mem_append.1 hp with hp | hp
  ·exact hK.rng p hp
  ·simp at hp;subst hp;simp;omega
 ·show (K.line++[(v:Int)]).Perm (List.map KP.pid (K.ps++[_]));rw [List.map_append];exact hK.line.append_right _
 ·rw [fF];rcases List.mem_append.1 hp with hp | hp
  ·obtain ⟨s,s1,s2⟩:=fF.1 (hK.sp p hp);exact ⟨s,(hmem s).2 (.inr s1),s2⟩
  ·simp at hp;subst hp;exact ⟨_,(hmem _).2 (.inl rfl),rfl⟩
 ·rcases List.mem_append.1 hp with hp | hp
  ·exact lM (qY hb (hK.box p hp))
  ·simp at hp;subst hp;exact lM (aAw hb c2)
 ·show s.id<K.nsp+1;rcases (hmem s).1 hs with rfl | hs
  ·show K.nsp<K.nsp+1;omega
  ·have:=hK.old s hs;omega
theorem aFT {par:Int} {box:Nat} {Q:Int->Int->AH->Prop} (h:Own (KerS x K::R) A) (hK:KeOK K) (hb:liveN K.M.ns box=true) (hn:K.nsp<9007199254740992)
  (hk:∀ A',KeOK (cQ K par box q).1->Own (KerS x (cQ K par box q).1::R) A'->Q (cQ K par box q).2.1 (cQ K par box q).2.2 A'):qcj_A (some ⟨x.kb,0,none⟩) par box q Q A:=by
 obtain ⟨L,gm,hL,h⟩:=KerS.openH h;unfold qcj_A qcj_G;simp only [aG,add_at,Nat.zero_add]
 have h16:K.ps.any (λp=>p.pid==(16:Int))=false:=by
  rw [List.any_eq_false];intro p hp hq;have:=hK.rng p hp;have hq:p.pid=16:=by simpa using hq
  omega
 refine ⟨λz m A'=>∃ v:Nat,z=v/\v<=16/\m+v=16/\A'=A/\∀ u:Nat,u<v->K.ps.any (λp=>p.pid==(u:Int))=true,⟨16,0,rfl,by omega,rfl,rfl,λu hu=>by omega⟩,?_⟩;intro z m A1 ⟨v,e1,e2,e3,e4,e5⟩;subst e1 e4;refine iD (i:=2) h rfl rfl (pE (i:=4) h rfl ?_);cases hf:findP K v with
 | some p=>
  obtain ⟨y,_,_,_,hl,_⟩:=zB hL hf;rw [hl];have hany:K.ps.any (λp=>p.pid==(v:Int))=true:=by rw [<-aAU];unfold findP at hf;rw [hf];rfl
  have hv16:v<16:=by
   rcases Nat.lt_or_ge v 16 with w | w
   ·exact w
   ·have:v=16:=by omega
    subst this;rw [show ((16:Nat):Int)=16 from rfl,h16] at hany;cases hany
  refine ⟨some ⟨y.2,0,none⟩,rfl,aL rfl ⟨m-1,by omega,v+1,by rw [bK]<;>omega,by omega,by omega,rfl,λu hu=>?_⟩⟩;rcases Nat.lt_or_ge u v with w | w
  ·exact e5 u w
  ·have:u=v:=by omega
   subst this;exact hany
 | none=>
  rw [aKU hL hf];have hany:K.ps.any (λp=>p.pid==(v:Int))=false:=by rw [<-aAU];unfold findP at hf;rw [hf];rfl
  have hfp:=aAz e5 hany e2;refine ⟨none,rfl,bsel_f rfl ?_⟩;unfold cQ at hk;refine bsel_in (λc=>?_) λc=>?_
  ·have c:16<=v:=by have:=of_decide_eq_true c;omega
   rw [if_pos (show 16<=freeP K.ps by omega)] at hk;exact hk A1 hK (KerS.closeH hL h)
  have c:¬ 16<=v:=by have:=of_decide_eq_false c;omega
  rw [if_neg (show ¬ 16<=freeP K.ps by omega),hfp] at hk;refine dF (i:=2) h rfl rfl ?_;simp only [aG,add_at,Nat.zero_add];refine aAP h ?_;simp only [aG,add_at,Nat.zero_add];refine yW h ?_;refine aKi h hK.inv hb λA2 hI2 h2=>?_;have h2:Own (dZ x { K with M:=(kidM K.M box q).1 } L gm R) A2:=h2;by_cases c2:(kidM K.M box q).2.2=0
  rotate_left
  ·rw [if_pos (show (kidM K.M box q).2.2≠0 from c2)] at hk;refine aL (by simpa using c2) (hk A2 ?_ (KerS.closeH hL h2));exact hK.kid hI2 hb
  rw [if_neg (show ¬ (kidM K.M box q).2.2≠0 from λz=>z c2)] at hk;refine bsel_f (by simpa using c2) ?_;refine dF (i:=2) h2 rfl rfl ?_;simp only [aG,add_at,Nat.zero_add];refine aAP h2 (ld_I (i:=2) h2 rfl rfl ?_);have hl2:=aAw hb c2;refine aIK h2 hI2 hl2 λA3 hI3 h3=>?_;have h3:Own (dZ x { K with M:=(openM (kidM K.M box q).1 K.nsp (kidM K.M box q).2.1).1 } L gm R) A3:=h3;by_cases c3:(openM (kidM K.M box q).1 K.nsp (kidM K.M box q).2.1).2=0
  rotate_left
  ·rw [if_pos (show (openM (kidM K.M box q).1 K.nsp (kidM K.M box q).2.1).2≠0 from c3)] at hk;refine aL (by simpa using c3) ?_;refine aKQ h3 hI3 (lM hl2) λA4 hI4 h4=>hk A4 ?_ (KerS.closeH hL h4);exact hK.kidBack hb c2 c3 hI3 hI4
  rw [if_neg (show ¬ (openM (kidM K.M box q).1 K.nsp (kidM K.M box q).2.1).2≠0 from λz=>z c3)] at hk;refine bsel_f (by simpa using c3) ?_;refine iD (i:=2) h3 rfl rfl (ld_I (i:=2) h3 rfl rfl ?_);refine aW (cs:=iA ((kidM K.M box q).2.1:Nat) K.nsp par ts0) h3 λpb A4 h4=>?_;have h4:=dZ.back h4;refine ⟨iD (i:=2) h4 rfl rfl rfl,aEW (i:=4) h4 rfl λA5 h5=>?_⟩;have h5:Own (MacE x.c (openM (kidM K.M box q).1 K.nsp (kidM K.M box q).2.1).1::CpuS x.cp x.c.m x.n::At x.kb (kbC x gm K.nsp)::QueS x.qb x.qn K.tk K.line::MapI x.pm .i64 (putM (pmE L) v (ptrV pb))::GrS gm K.gr::(L.map mL++(At pb (iA ((kidM K.M box q).2.1:Nat) K.nsp par ts0)::R))) A5:=h5
  have hpm:putM (pmE L) v (ptrV pb)=pmE (L++[(⟨v,(kidM K.M box q).2.1,K.nsp,par,ts0⟩,pb)]):=by
   rw [yY (aKU hL hf)];unfold pmE;simp
  rw [hpm] at h5;have hw:IntKind.wrap .i64 (K.nsp+1)=K.nsp+1:=by have:=hK.nsp;exact bK (by omega) (by omega)
  refine ld_I (i:=2) h5 rfl rfl ?_;rw [hw];refine aJ (i:=2) h5 rfl rfl rfl λA6 h6=>?_;have h6:Own (MacE x.c (openM (kidM K.M box q).1 K.nsp (kidM K.M box q).2.1).1::CpuS x.cp x.c.m x.n::At x.kb (kbC x gm (K.nsp+1))::QueS x.qb x.qn K.tk K.line::MapI x.pm .i64 (pmE (L++[(⟨v,(kidM K.M box q).2.1,K.nsp,par,ts0⟩,pb)]))::GrS gm K.gr::(L.map mL++(At pb (iA ((kidM K.M box q).2.1:Nat) K.nsp par ts0)::R))) A6:=h6;refine dF (i:=2) h6 rfl rfl ?_;have hq6:Own (QueS x.qb x.qn K.tk K.line::[MacE x.c (openM (kidM K.M box q).1 K.nsp (kidM K.M box q).2.1).1,CpuS x.cp x.c.m x.n,At x.kb (kbC x gm (K.nsp+1))]++(MapI x.pm .i64 (pmE (L++[(⟨v,(kidM K.M box q).2.1,K.nsp,par,ts0⟩,pb)]))::GrS gm K.gr::(L.map mL++(At pb (iA ((kidM K.M box q).2.1:Nat) K.nsp par ts0)::R)))) A6:=h6.pick 3 rfl;have hll:K.line.length<=10000:=hK.line_len
  have hnc:K.line.contains (v:Int)=false:=by
   rw [Bool.eq_false_iff];intro hc;have:=hK.line.mem_iff.1 (List.contains_iff_mem.1 hc);obtain ⟨p,hp,e⟩:=List.mem_map.1 this;have h9:=List.any_eq_false.1 hany p hp;exact h9 (by simpa using e)
  refine aEv hq6 hll (λz=>by omega) (λ_ _ z=>by rw [hnc] at z;cases z) λ_ _ _ A7 h7=>?_;refine hk A7 (hK.add hb c2 c3 hI3 hfp hany (by omega)) (KerS.closeH (L:=L++[(⟨v,(kidM K.M box q).2.1,K.nsp,par,ts0⟩,pb)]) (by simp [hL]) (gm:=gm) ?_);have h8:=h7.perm (List.perm_middle (l₁:=[MacE x.c (openM (kidM K.M box q).1 K.nsp (kidM K.M box q).2.1).1,CpuS x.cp x.c.m x.n,At x.kb (kbC x gm (K.nsp+1))])).symm;unfold dZ;rw [List.map_append,List.append_assoc];exact h8
end Go.Dn
namespace Go.Dn
variable {A:AH} {R:List SP} {k q:Nat} {s:Sl} {L:List Int} {qn tk:Int}
theorem aBR {Q:Sl->AP} (h:Own (QueS q qn tk L::R) A) (hb:L.length<=10000) (hk:∀ s' A',(s'.a=none->L=[])->Own (SlO s' 1 (fX L)::QueS q qn tk L::R) A'->Q s' A'):qfi_A (some ⟨q,0,none⟩) Q A:=by
 obtain ⟨s,hs,h2⟩:=QueS.openH h;unfold qfi_A qfi_G;simp only [aG,add_at,Nat.zero_add];exact ld_S (i:=0) h2 rfl rfl (rJ (k:=1) h2 rfl bC (by omega) hs λs' A3 hs' h3=>hk s' A3 hs' (h3.cons λC hC=>QueS.closeH hs hC))
end Go.Dn
namespace Go.Dn
variable {A:AH} {L:List SP} {i j m pb pm kb cp:Nat} {box sp par pid:Int} {t t':TS} {ps:List (Int × Value)} {v1 v2 v4:Value} {cl:CallR}
def aAh (pb:Nat) (pid:Int) (Q:Int->Int->Int->Int->Int->Bool->AH->Prop):Int->Int->Int->Int->AH->Prop:=λn9 n10 n11 n12 h13=>
(∃ R14:Bool->AH->Prop,(∀ c58:Bool,∀ h59,R14 c58 h59->
(Q pid n9 n12 n10 n11 c58 h59))/\
(bsel (n12==(9:Int))
(aF (some ⟨pb,0,none⟩) λa15=>
(aI .u64 (Addr.add a15 3) h13 λn16=>
(aI .u64 (Addr.add (Addr.add a15 3) 1) h13 λn17=>
(aI .u64 (Addr.add (Addr.add a15 3) 2) h13 λn18=>
(aI .u64 (Addr.add (Addr.add a15 3) 3) h13 λn19=>
(aI .i64 (Addr.add (Addr.add a15 3) 4) h13 λn20=>
(aI .u64 (Addr.add (Addr.add a15 3) 5) h13 λn21=>
(aB (Addr.add (Addr.add a15 3) 6) h13 λb22=>
(aI .u64 (Addr.add (Addr.add a15 3) 7) h13 λn23=>
(aI .i64 (Addr.add (Addr.add a15 3) 8) h13 λn24=>
(aI .u64 (Addr.add (Addr.add a15 3) 9) h13 λn25=>
(aI .u64 (Addr.add (Addr.add a15 3) 10) h13 λn26=>
(aI .u64 (Addr.add (Addr.add a15 3) 11) h13 λn27=>
(aI .u64 (Addr.add (Addr.add a15 3) 12) h13 λn28=>
(qeg_A n16 n17 n18 n19 n20 n21 b22 n23 n24 n25 n26 n27 n28 n10 n11 (λn29 n30 n31 n32 n33 n34 b35 n36 n37 n38 n39 n40 n41 n42 h43=>
(aF (some ⟨pb,0,none⟩) λa44=>
(aC (Addr.add a44 3) (.int .u64 n29) h43 λh45=>
(aC (Addr.add (Addr.add a44 3) 1) (.int .u64 n30) h45 λh46=>
(aC (Addr.add (Addr.add a44 3) 2) (.int .u64 n31) h46 λh47=>
(aC (Addr.add (Addr.add a44 3) 3) (.int .u64 n32) h47 λh48=>
(aC (Addr.add (Addr.add a44 3) 4) (.int .i64 n33) h48 λh49=>
(aC (Addr.add (Addr.add a44 3) 5) (.int .u64 n34) h49 λh50=>
(aC (Addr.add (Addr.add a44 3) 6) (.bool b35) h50 λh51=>
(aC (Addr.add (Addr.add a44 3) 7) (.int .u64 n36) h51 λh52=>
(aC (Addr.add (Addr.add a44 3) 8) (.int .i64 n37) h52 λh53=>
(aC (Addr.add (Addr.add a44 3) 9) (.int .u64 n38) h53 λh54=>
(aC (Addr.add (Addr.add a44 3) 10) (.int .u64 n39) h54 λh55=>
(aC (Addr.add (Addr.add a44 3) 11) (.int .u64 n40) h55 λh56=>
(aC (Addr.add (Addr.add a44 3) 12) (.int .u64 n41) h56 λh57=>
(R14 (n42==(0:Int)) h57)))))))))))))))) h13)))))))))))))))
(R14 false h13)))
theorem aAY {Q:Int->Int->Int->Int->Int->Bool->AH->Prop} (h:Own L A) (ej:L[j]? = some (At kb [.pointer (some ⟨cp,0,none⟩),v1,v2,.map (some pm),v4])) (em:L[m]? = some (MapI pm .i64 ps)) (hps:ps.lookup pid=some (ptrV pb)) (ei:L[i]? = some (At pb (iA box sp par t)))
  (hdo:qef_A (some ⟨cp,0,none⟩) sp cl.addr cl.size (cl.op==(5:Int)) cl.x (aAh pb pid Q) A):qeh_A (some ⟨kb,0,none⟩) pid cl.op cl.a cl.b cl.pw cl.pu cl.px cl.addr cl.size cl.x cl.id cl.ra cl.rb cl.rd Q A:=by
 unfold qeh_A qeh_G;simp only [aG,add_at,Nat.zero_add];refine iD h ej rfl (pE h em ?_);rw [hps];refine ⟨some ⟨pb,0,none⟩,rfl,?_⟩;simp only [aG,add_at,Nat.zero_add];refine dF h ej rfl (ld_I h ei rfl ?_);unfold aAh at hdo;simp only [aG,add_at,Nat.zero_add] at hdo;exact hdo
theorem aFo {x a f e:Int} {Q:Int->Int->Int->Int->Int->Bool->AH->Prop} (he:e≠9) (hk:Q pid x e a f false A):aAh pb pid Q x a f e A:=
 ⟨λb A'=>b=false/\A'=A,λb A' ⟨e1,e2⟩=>by subst e1 e2;exact hk,bsel_f (by simp [he]) ⟨rfl,rfl⟩⟩
theorem aAd {x a f:Int} {Q:Int->Int->Int->Int->Int->Bool->AH->Prop} (h:Own L A) (ei:L[i]? = some (At pb (iA box sp par t))) (hf:0<=f/\f<18446744073709551616)
  (hk:∀ A',Own (L.set i (At pb (iA box sp par (raiseZ t a f)))) A'->Q pid x 9 a f (tC t==0) A'):aAh pb pid Q x a f 9 A:=by
 unfold aAh;simp only [aG,add_at,Nat.zero_add];refine ⟨λb A'=>Q pid x 9 a f b A',λ_ _ g=>g,aL rfl (aFc h ei (aBh h hf λA1 h1=>?_))⟩;exact aKT (t':=raiseZ t a f) (K:=λA'=>Q pid x 9 a f (tC t==0) A') h1 ei hk
end Go.Dn
namespace Go.Dn
variable {A:AH} {R:List SP} {x:Kx} {K:Ke} {L:List (KP × Nat)} {gm:Option Nat} {p:KP} {y:KP × Nat} {pid:Int} {q:Int} {i j:Nat} {M:Mm} {id:Int} {r:List Int} {w0 w1 w2 w3 w4 w5:Int} {cl:CallR}
theorem dZ.que {tk':Int} {line':List Int} (h:Own (QueS x.qb x.qn tk' line'::(dZ x K L gm R).eraseIdx 3) A):Own (dZ x { K with tk:=tk',line:=line' } L gm R) A:=by
 have:=Own.back (l:=dZ x K L gm R) (P:=QueS x.qb x.qn K.tk K.line) (P':=QueS x.qb x.qn tk' line') 3 rfl h;exact this
theorem que_at (hl:K.line=pid::r):(dZ x K L gm R)[3]? = some (QueS x.qb x.qn K.tk (pid::r)):=by
 show some (QueS x.qb x.qn K.tk K.line)=_;rw [hl]
theorem aLm {Q:Int->AH->Prop} (h:Own (KerS x K::R) A) (hl:K.line=pid::r) (hk:Q pid A):qfe_A (some ⟨x.kb,0,none⟩) Q A:=by
 obtain ⟨L,gm,hL,h⟩:=KerS.openH h;unfold qfe_A qfe_G;simp only [aG,add_at,Nat.zero_add];refine dF (i:=2) h rfl rfl (bsel_f rfl (dF (i:=2) h rfl rfl (wA (h.pick 3 (que_at hl)) (λe=>by cases e) λx r' e=>?_)));cases e;exact hk
theorem aKI {Q:Sl->AH->Prop} (h:Own (KerS x K::R) A) (hK:KeOK K) (hk:∀ s' A',(s'.a=none->K.line=[])->Own (SlO s' 1 (fX K.line)::KerS x K::R) A'->Q s' A'):qfj_A (some ⟨x.kb,0,none⟩) Q A:=by
 obtain ⟨L,gm,hL,h⟩:=KerS.openH h;unfold qfj_A qfj_G;simp only [aG,add_at,Nat.zero_add];refine dF (i:=2) h rfl rfl (bsel_f rfl (dF (i:=2) h rfl rfl (aBR (h.pick 3 rfl) hK.line_len λs' A1 hs' h1=>hk s' A1 hs' ?_)));exact h1.cons λC hC=>KerS.closeH hL (dZ.que (tk':=K.tk) (line':=K.line) hC)
theorem aLK {nd:Nd} {Q:Int->Int->Int->Int->Int->Int->Bool->Int->Int->Int->Int->Int->Int->Int->Int->Int->Int->Int->Bool->AH->Prop} (h:Own (KerS x K::R) A) (hK:KeOK K) (hp:findP K pid=some p) (hd:K.M.ns[p.box]? = some nd)
  (hk:Q p.t.r0 p.t.r1 p.t.r2 p.t.r3 p.t.told p.t.entry p.t.inn p.t.fa p.t.fc p.t.s0 p.t.s1 p.t.s2 p.t.s3 p.par nd.quo nd.use nd.room p.sp true A):qfh_A (some ⟨x.kb,0,none⟩) pid Q A:=by
 obtain ⟨L,gm,hL,h⟩:=KerS.openH h;obtain ⟨y,j,rfl,hj,hlk,hpi⟩:=zB hL hp;have hpj:=pJ (x:=x) (K:=K) (gm:=gm) (R:=R) hj
 have hlv:nd.live=true:=by
  have:=hK.box y.1 (by rw [<-hL];exact List.mem_map_of_mem (List.mem_of_getElem? hj));unfold liveN at this;rw [hd] at this;exact this
 unfold qfh_A qfh_G;simp only [aG,add_at,Nat.zero_add];refine iD (i:=2) h rfl rfl (pE (i:=4) h rfl ?_);rw [hlk];refine ⟨some ⟨y.2,0,none⟩,rfl,bsel_f rfl ?_⟩;simp only [aG,add_at,Nat.zero_add];refine dF (i:=2) h rfl rfl ?_;simp only [aG,add_at,Nat.zero_add];refine aAP h ?_;simp only [aG,add_at,Nat.zero_add];refine yW h (ld_I h hpj rfl (aI8 h hd hlv ?_));refine aFc h hpj (ld_I h hpj rfl (dF (i:=2) h rfl rfl ?_));simp only [aG,add_at,Nat.zero_add];refine aAP h ?_;simp only [aG,add_at,Nat.zero_add];refine yW h (ld_I h hpj rfl (ld_I h hpj rfl ?_));exact aFu h hK.inv hd hlv ⟨ld_I h hpj rfl rfl,ld_I h hpj rfl rfl,aFc h hpj rfl,hk⟩
theorem aFW {par:Int} {box:Nat}:0<=(cQ K par box q).2.1/\(cQ K par box q).2.1<=16:=by
 unfold cQ;split
 ·simp
 ·split
  ·simp
  ·split
   ·simp
   ·simp only;omega
theorem aJI {Q:Int->Int->Int->Int->Int->Bool->AH->Prop} (h:Own (KerS x K::R) A) (hK:KeOK K) (hn:K.nsp<9007199254740992) (hb:∀ x ∈ [w0,w1,w2,w3,w4,w5],0<=x/\x<18446744073709551616) (hc:fQ w0 w1 w2 w3 w4 w5=some cl) (hop:cl.op=12)
  (hl:K.line=pid::r) (hp:findP K pid=some p) (hk:∀ A',KeOK (cQ K pid p.box cl.id).1->Own (KerS x (cQ K pid p.box cl.id).1::R) A'->Q pid (cQ K pid p.box cl.id).2.1 (cQ K pid p.box cl.id).2.2 0 0 false A') :
  qfd_A (some ⟨x.kb,0,none⟩) w0 w1 w2 w3 w4 w5 Q A:=by
 obtain ⟨L,gm,hL,h⟩:=KerS.openH h;refine aCK (j:=2) (i:=3) h rfl (que_at hl) hb hc (by omega) λA1 h1=>aH4 (by omega) λb hb=>?_;rw [hop] at hb;refine aL hb ?_;obtain ⟨y,j,rfl,hj,hlk,hpi⟩:=zB hL hp;have hpj:=pJ (x:=x) (K:=K) (gm:=gm) (R:=R) hj;unfold qfb_A qfb_G;refine ⟨λ_=>False,λ_ z=>z.elim,aL (by rw [hop];rfl) ?_⟩;simp only [aG,add_at,Nat.zero_add];refine iD (i:=2) h1 rfl rfl (pE (i:=4) h1 rfl ?_);rw [hlk];refine ⟨some ⟨y.2,0,none⟩,rfl,?_⟩;simp only [aG,add_at,Nat.zero_add];refine ld_I h1 hpj rfl ?_;refine aFT (KerS.closeH hL h1) hK (hK.box y.1 (by rw [<-hL];exact List.mem_map_of_mem (List.mem_of_getElem? hj))) hn λA2 hK2 h2=>?_;have:=aFW (K:=K) (par:=pid) (box:=y.1.box) (q:=cl.id);rw [cL (by omega) (by omega)];exact hk A2 hK2 h2
end Go.Dn
namespace Go.Dn
variable {A:AH} {l:List SP} {P:SP} {N tags qn:Int} {s s5 s7:Sl} {ch:List Int} {k:Nat}
def m0 (N:Int):Mm:=⟨[],[⟨-1,N-1,2,0,true⟩],0,λ_ _=>0⟩
def k1M (N:Int):Mm:=⟨[⟨0,1,[],[]⟩],[⟨-1,N-1,2,N-3,true⟩,⟨0,N-3,1,0,true⟩],0,λ_ _=>0⟩
def k1K (N:Int):Ke:=⟨k1M N,[⟨0,1,0,0,ts0⟩],[0],0,[],1⟩
theorem aE4 (hN:4<=N/\N<=262144):InvM (m0 N):=by
 refine { srt:=List.Pairwise.nil,good:=λs hs=>(by cases hs),pgs:=λs hs=>(by cases hs),reg:=λs hs=>(by cases hs),own:=List.nodup_nil,src:=λs hs=>(by cases hs),key:=λk hk=>(by cases hk),zero:=λ_ _ _=>rfl,keys0:=Int.le_refl _,tree:=⟨λd hd=>?_,by simp [m0],⟨_,rfl,rfl,rfl⟩,λi d hd _=>?_,λi d hd _ hi=>?_⟩,live:=λs hs=>(by cases hs),use:=λi d hd _=>?_,kind:=λs hs=>(by cases hs),bor:=λs hs=>(by cases hs),lent:=λs hs=>(by cases hs) }
 ·simp [m0] at hd;subst hd;exact ⟨by simp,by simp,by simp;omega,by simp;omega⟩
 ·cases i with
  | zero=>simp [m0] at hd;subst hd;rfl
  | succ i=>simp [m0] at hd
 ·cases i with
  | zero=>exact absurd rfl hi
  | succ i=>simp [m0] at hd
 ·cases i with
  | zero=>simp [m0] at hd;subst hd;rfl
  | succ i=>simp [m0] at hd
theorem aHl {Q:Option Addr->Int->AH->Prop} (h1:Own (SlO s5 1 ((entB (0,N*4096,1)).map byV)::l) A) (hs5:s5.a≠none) (hN:4<=N/\N<=262144) (ht:1<=tags/\tags<=4095)
  (hk:∀ c A',c.N=N->Own (MacE c (m0 N)::l) A'->Q (some ⟨c.m,0,none⟩) 0 A'):qbs_A N 0 1 tags s5 Q A:=by
 unfold qbs_A qbs_G;refine zZ (k:=0) (kn:=(0,1)) h1 rfl bS h1.capS6 (λg=>absurd g hs5) (aFN _) λer m s1 A2 ho _ hs1 h2=>?_;obtain ⟨rfl,rfl⟩:=aEd ⟨by omega,by omega⟩ ho;refine bsel_f rfl ?_;refine aEw h2 ht.1 ht.2 λtg A3 h3=>bsel_f rfl ?_;refine aW (cs:=oY (List.replicate 16 ln0)) h3 λtl A4 h4=>?_;refine rM (k:=.i64) h4 λsp A5 h5=>?_;refine aW (cs:=[.pointer none,.pointer none,.pointer none,.pointer (some ⟨tl,0,none⟩),.pointer (some ⟨tg,0,none⟩),.int .i64 0,.map (some sp)]) h5 λmb A6 h6=>?_;refine aEN h6 ⟨by omega,by omega⟩ λr A7 h7=>?_;refine aJ (i:=1) h7 rfl rfl rfl λA8 h8=>?_;have hok:okR 0 [(1,N)]=true:=by simp [okR];omega
 refine aEn (k:=5) (rs:=[(1,N)]) h8 rfl bS (λg=>by simp at g) (λ_ g=>by rw [hok] at g;cases g) λ_ _ b A9 h9=>?_;simp only [aG,add_at,Nat.zero_add];refine aJ (i:=2) h9 rfl rfl rfl λA10 h10=>?_;refine bsel_f rfl (dF (i:=2) h10 rfl rfl ?_);refine aDU h10 ?_;refine aD8 h10 (λg=>by simp [bX] at g;omega) λ_ t A11 h11=>?_;refine aJ (i:=3) h11 rfl rfl rfl λA12 h12=>?_;unfold qau_A;simp only [aG,add_at,Nat.zero_add];refine dF (i:=3) h12 rfl rfl (dF (i:=3) h12 rfl rfl (dF (i:=3) h12 rfl rfl ?_));have hsz:bX [(1,N)]=N-1:=by simp [bX]
 have h13:Own (yC N r b t (tr0 (N-1)) (yE [(1,N)]) (λ_=>False) (λ_ _=>0) 0 (At mb [.pointer (some ⟨r,0,none⟩),.pointer (some ⟨b,0,none⟩),.pointer (some ⟨t,0,none⟩),.pointer (some ⟨tl,0,none⟩),.pointer (some ⟨tg,0,none⟩),.int .i64 0,.map (some sp)]::MapI sp .i64 []::At tl (oY (List.replicate 16 ln0))::PcS tg (iL tags)::SlO s1 2 (cW [(1,N)])::SlO s5 1 ((entB (0,N*4096,1)).map byV)::l)) A12:=by
  have h12:Own (TreeS t [⟨-1,bX [(1,N)],0,0,true⟩]::Bud b (yE [(1,N)]) (λ_=>False) (bX [(1,N)])::RamW r N [] (λ_ _=>0)::At mb [.pointer (some ⟨r,0,none⟩),.pointer (some ⟨b,0,none⟩),.pointer (some ⟨t,0,none⟩),.pointer (some ⟨tl,0,none⟩),.pointer (some ⟨tg,0,none⟩),.int .i64 0,.map (some sp)]::MapI sp .i64 []::At tl (oY (List.replicate 16 ln0))::PcS tg (iL tags)::SlO s1 2 (cW [(1,N)])::SlO s5 1 ((entB (0,N*4096,1)).map byV)::l) A12:=h12;rw [hsz] at h12;unfold yC;rw [show (tr0 (N-1)).fr-0=N-1 by show N-1-0=N-1;omega];exact (h12.pick 2 rfl).cons λC hC=>Own.swap hC
 have hp0:aJF N (yE [(1,N)]) (λ_=>False):=⟨λx hx=>aDB.2 (by simp [yE] at hx;omega),λx hx=>hx.elim⟩;refine aId h13 hp0 hN (by omega) λtop mid A13 W' hft hfm hK hp1 h14=>?_;refine aJ (i:=3) h14 rfl rfl rfl λA14 h15=>?_;obtain ⟨c,hc⟩:∃ c:Mc,c=⟨N,r,b,t,mb,tl,tg,sp,top,mid⟩:=⟨_,rfl⟩;refine bsel_f rfl ?_;have hm:c.m=mb:=by rw [hc]
 rw [<-hm];refine hk c A14 (by rw [hc]) (MacE.closeE (φ:=λ_=>0) (MacS.closeH (g:=⟨λx=>yE [(1,N)] x/\x ∉ [top,mid],λx=>False\/x ∈ [top,mid],W',N-1-2,[⟨-1,N-1,2,0,true⟩],List.replicate 16 ln0,iL tags,[]⟩) (L:=[]) ?_ ?_))
 ·have hi:=aE4 hN;have hin:∀ x,yE [(1,N)] x↔1<=x/\x<N:=λx=>by simp [yE]
  refine ⟨hi.toInvL,rfl,rfl,?_,List.Perm.nil,by rw [hc];exact hK.nodup,λf=>?_,λf=>?_,λa ha=>(by cases ha),λk hk=>(by cases hk),λq hq=>?_,pcNew_ok ht,LnOK.new,by rw [hc];exact hN⟩
  ·show N-1-2=sumZ rmN [⟨-1,N-1,2,0,true⟩];simp [sumZ,rmN,Nd.room]
  ·rw [hc];show (False\/f ∈ [top,mid])↔f ∈ top::mid::([]:List Sc).flatMap (frC λ_=>0);simp
  ·rw [hc];show (yE [(1,N)] f/\f ∉ [top,mid])\/(False\/f ∈ [top,mid])↔1<=f/\f<N;rw [<-hin];have h1:yE [(1,N)] top:=hft;have h2:yE [(1,N)] mid:=hfm;constructor
   ·rintro (z | z | z)
    ·exact z.1
    ·exact z.elim
    ·simp at z;rcases z with rfl | rfl
     ·exact h1
     ·exact h2
   ·intro z;by_cases e:f ∈ [top,mid]
    ·exact .inr (.inr e)
    ·exact .inl ⟨z,e⟩
  ·have:=hK.top q hq;rw [hc];show W' top q=_;rw [this];cases q with
   | zero=>rfl
   | succ q=>simp
 ·rw [hc];have h16:Own (RamW r N [] W'::Bud b (λx=>yE [(1,N)] x/\x ∉ [top,mid]) (λx=>False\/x ∈ [top,mid]) ((tr0 (N-1)).fr-2)::TreeS t ((tr0 (N-1)).ns 2)::At mb (mcC ⟨N,r,b,t,mb,tl,tg,sp,top,mid⟩)::MapI sp .i64 []::At tl (oY (List.replicate 16 ln0))::PcS tg (iL tags)::SlO s1 2 (cW [(1,N)])::SlO s5 1 ((entB (0,N*4096,1)).map byV)::l) A14:=h15;exact h16.cons λ_ h=>h.cons λ_ h=>h.cons λ_ h=>h.cons λ_ h=>h.cons λ_ h=>(Own.imp (P':=TlbS tl (List.replicate 16 ln0)) (λB hB=>⟨by simp,hB⟩) h).cons λ_ h=>h.cons λ_ h=>h.tail.tail
theorem aJH (hN:6<=N):cQ ⟨m0 N,[],[],0,[],0⟩ 0 0 (N-3)=(k1K N,0,0):=by
 have e1:kidM (m0 N) 0 (N-3)=(⟨[],[⟨-1,N-1,2,N-3,true⟩,⟨0,N-3,0,0,true⟩],0,λ_ _=>0⟩,1,0):=by
  have hE:kidE (m0 N).ns ⟨-1,N-1,2,0,true⟩ (N-3)=0:=by
   unfold kidE Nd.room;rw [if_neg (by omega),if_neg (by simp;omega),if_neg (by simp [m0])]
  show (if kidE (m0 N).ns ⟨-1,N-1,2,0,true⟩ (N-3)≠0 then _ else _)=_;rw [if_neg (by rw [hE];simp)];unfold nsM kidN;show _=_;simp [m0,firstDead]
 have e2:openM ⟨[],[⟨-1,N-1,2,N-3,true⟩,⟨0,N-3,0,0,true⟩],0,λ_ _=>0⟩ 0 1=(k1M N,0):=by
  unfold openM;have hr:eF [⟨-1,N-1,2,N-3,true⟩,⟨0,N-3,0,0,true⟩] 1=N-3:=by simp [eF,Nd.room]
  rw [if_neg (by decide),if_neg (by simp [findS]),if_neg (by simp only;rw [hr];omega)];simp [k1M,insS,newS,addU,useN]
 unfold cQ;have e0:freeP []=0:=rfl;simp only;rw [e0,e1];simp only;rw [e2];simp [k1K]
theorem aKN (hN:4<=N/\N<=262144):KeOK ⟨m0 N,[],[],0,[],0⟩:=
 ⟨aE4 hN,List.nodup_nil,λp hp=>(by cases hp),List.Perm.nil,λp hp=>(by cases hp),λp hp=>(by cases hp),λs hs=>(by cases hs),Int.le_refl _⟩
theorem aBp {sz m n:Nat} {cs:List Value} (hr:bF P s sz cs) (hm:m<=s.len) (a:Option Addr) (ha:a=s.a):bF P ⟨a,m,n⟩ sz (cs.take (m*sz)):=λB A hB u=>by
 obtain ⟨h1,h2⟩:=hr B A hB u;have hle:m*sz<=s.len*sz:=Nat.mul_le_mul_right _ hm;refine ⟨by simp only [List.length_take];omega,λj v hv=>?_⟩;rw [List.getElem?_take] at hv;split at hv
 ·subst ha;exact h2 j v hv
 ·cases hv
theorem aEU {Q:Int->Int->Int->Int->Sl->Int->Sl->AH->Prop} (h:Own l A) (e:l[k]? = some P) (hr:bF P s 1 (fX ch)) (hs0:s.a=none->ch=[]) (hN:4<=N/\N<=262144) (hcap:s.len<=s.cap)
  (hk:∀ s5 s7 A',s5.a≠none->(s7.a=none->ch.take 200=[])->Own (SlO s7 1 (fX (ch.take 200))::SlO s5 1 ((entB (0,N*4096,1)).map byV)::l) A'->Q N 0 1 tags s5 qn s7 A'):qac_A N tags qn s Q A:=by
 have hl:s.len=ch.length:=fA h e hr;unfold qac_A qac_G qab_A qab_G;refine ⟨λs2 A'=>A'=A/\s2.a=s.a/\s2.len=(ch.take 200).length/\bF P s2 1 (fX (ch.take 200)),λs2 A1 ⟨e1,ea,el,er⟩=>?_,bsel_in (λg=>?_) λg=>?_⟩
 ·subst e1;have w1:IntKind.wrap .u64 N=N:=cL (by omega) (by omega);have w2:IntKind.wrap .u64 (N*4096)=N*4096:=cL (by omega) (by omega);rw [w1,w2];refine aCi (a:=(0,N*4096,1)) h λs5 A2 hs5 h2=>?_;refine aW (cs:=[]) h2 λb A3 h3=>?_;have h4:Own (SlO ⟨some ⟨b,0,none⟩,0,0⟩ 1 []::SlO s5 1 ((entB (0,N*4096,1)).map byV)::l) A3:=h3.imp λB _=>(⟨⟨by simp,Nat.le_refl _⟩,.inl rfl⟩:SlO ⟨some ⟨b,0,none⟩,0,0⟩ 1 [] B);have h200:(ch.take 200).length<=200:=by simp;omega
  refine cP (i:=k+1) h4 (by simpa using e) er (λz=>?_) (λz=>by cases z) rfl (λv hv=>ivC_one hv) ⟨by simp only [el];omega,by simp only [el];omega⟩ λs7 A4 j1 j2 h5=>?_
  ·rw [ea] at z;rw [hs0 z];rfl
  ·exact hk s5 s7 A4 hs5 (λz=>by have:=j2 z;simpa [fX] using this) (by simpa using h5)
 ·have g:200<(s.len:Int):=of_decide_eq_true g;refine inB_in (by omega) (by omega) ⟨rfl,?_,?_,?_⟩
  ·show (if s.cap=0 then s.a else Option.map (λx=>Addr.add x (0*1)) s.a)=s.a;split
   ·rfl
   ·cases s.a with
    | none=>rfl
    | some a=>simp [Addr.add]
  ·show 200=_;simp;omega
  ·have hrd:=aBp (m:=200) (n:=s.cap) hr (by omega) (if s.cap=0 then s.a else Option.map (λx=>Addr.add x (0*1)) s.a) (by
    split
    ·rfl
    ·cases s.a with
     | none=>rfl
     | some a=>simp [Addr.add])
   have e3:fX (ch.take 200)=(fX ch).take (200*1):=by unfold fX;rw [List.map_take]
   rw [e3];exact hrd
 ·have g:¬ 200<(s.len:Int):=of_decide_eq_false g;have e3:ch.take 200=ch:=List.take_of_length_le (by omega);rw [e3];exact ⟨rfl,rfl,hl,hr⟩
end Go.Dn
namespace Go.Dn
variable {A:AH} {l:List SP} {N tags qn:Int} {s s5 s7:Sl} {ch:List Int} {k:Nat}
theorem aFq {Q:Option Addr->Int->AH->Prop} (h:Own (SlO s7 1 (fX ch)::SlO s5 1 ((entB (0,N*4096,1)).map byV)::l) A) (hs5:s5.a≠none) (hs7:s7.a=none->ch=[]) (hch:ch.length<=200) (hN:6<=N/\N<=262144) (ht:1<=tags/\tags<=4095) (hq:1<=qn/\qn<=1000)
  (hk:∀ x A',x.qn=qn->x.c.N=N->KeOK (k1K N)->Own (KerS x (k1K N)::l) A'->Q (some ⟨x.kb,0,none⟩) 0 A'):qck_A N 0 1 tags s5 qn s7 Q A:=by
 unfold qck_A qck_G;refine aHl h.swap hs5 ⟨by omega,hN.2⟩ ht λc A1 hc h1=>bsel_f rfl ?_;refine aDJ h1 (λg=>by omega) λ_ _ qb A2 h2=>bsel_f rfl ?_;unfold qbu_A
 have hl7:s7.len=ch.length:=by
  have:=eP (i:=2) h2 rfl (dI (s:=s7));rw [aDj] at this;omega
 refine cP (i:=2) (h2.nil6 (sz:=1)) rfl dI (λz=>by rw [hs7 z];rfl) (λ_=>rfl) rfl (λv hv=>ivC_one hv) ⟨by simp [Sl.nil,hl7];omega,by simp [Sl.nil,hl7];omega⟩ λs8 A3 _ _ h3=>?_;refine aW (cs:=[.pointer (some ⟨c.m,0,none⟩),.slice s8.a s8.len s8.cap,.int .i64 ((0:Nat):Int)]) h3 λcp A4 h4=>?_;have h5:=CpuS.closeH (m:=c.m) (n:=ch.length) (ch:=ch) ⟨Nat.zero_le _,rfl,by omega⟩ h4;refine rM (k:=.i64) h5 λpm A5 h6=>aW (cs:=[.pointer (some ⟨cp,0,none⟩),.pointer (some ⟨qb,0,none⟩),.map none,.map (some pm),.int .i64 0]) h6 λkb A6 h7=>?_;obtain ⟨x,hx⟩:∃ x:Kx,x=⟨kb,cp,qb,pm,ch.length,c,qn⟩:=⟨_,rfl⟩
 have h8:Own (dZ x ⟨m0 N,[],[],0,[],0⟩ [] none l) A6:=by
  rw [hx];have h7:Own (At kb [.pointer (some ⟨cp,0,none⟩),.pointer (some ⟨qb,0,none⟩),.map none,.map (some pm),.int .i64 0]::MapI pm .i64 []::CpuS cp c.m ch.length::QueS qb qn 0 []::MacE c (m0 N)::SlO s7 1 (fX ch)::l) A6:=h7;have h8:=(h7.pick 4 rfl).cons λC hC=>(Own.pick 2 rfl hC).cons λD hD=>hD.cons λE hE=>(Own.pick 1 rfl hE).cons λF hF=>hF.cons λG hG=>hG.tail;have h9:Own (MacE c (m0 N)::CpuS cp c.m ch.length::At kb [.pointer (some ⟨cp,0,none⟩),.pointer (some ⟨qb,0,none⟩),.map none,.map (some pm),.int .i64 0]::QueS qb qn 0 []::MapI pm .i64 []::l) A6:=h8;refine h9.cons λC hC=>hC.cons λD hD=>hD.cons λE hE=>hE.cons λF hF=>hF.cons λG hG=>?_;exact ⟨λ_=>none,G,λ_=>.inl rfl,(λ_ _ e=>nomatch e),mA.refl G,.inl ⟨rfl,rfl⟩,hG⟩
 have hm:(some (Addr.mk c.m 0 none):Option Addr)=some ⟨x.c.m,0,none⟩:=by rw [hx]
 have hkb:(some (Addr.mk kb 0 none):Option Addr)=some ⟨x.kb,0,none⟩:=by rw [hx]
 rw [hm];simp only [aG,add_at,Nat.zero_add];refine yW h8 ?_;refine aFu (i:=0) h8 (aE4 ⟨by omega,hN.2⟩) rfl rfl ?_;have er:(⟨-1,N-1,2,0,true⟩:Nd).room=N-3:=by unfold Nd.room;simp only;omega
 rw [er,hkb];refine aFT (par:=0) (box:=0) (KerS.closeH (K:=⟨m0 N,[],[],0,[],0⟩) rfl h8) (aKN ⟨by omega,hN.2⟩) rfl (by show (0:Int)<_;omega) λA7 hK h9=>?_;rw [aJH hN.1] at hK h9 ⊢;exact bsel_f rfl (hk x A7 (by rw [hx]) (by rw [hx];exact hc) hK h9)
end Go.Dn
namespace Go.Dn
variable {A:AH} {R:List SP} {x:Kx} {K:Ke} {L:List (KP × Nat)} {gm:Option Nat} {p:KP} {y:KP × Nat} {pid:Int} {k:Int} {i j:Nat} {M M':Mm} {id:Int} {r:List Int} {w0 w1 w2 w3 w4 w5:Int} {cl:CallR} {s t:Sm}
def hX (M M':Mm):Prop:=M'.sps.map (·.id)=M.sps.map (·.id)/\∀ m,liveN M'.ns m=liveN M.ns m
theorem hX.refl:hX M M:=⟨rfl,λ_=>rfl⟩
theorem aAa:hX M (payM M s t):=by
 refine ⟨?_,λm=>iQ⟩;show (putS M.sps t).map (·.id)=_;unfold putS;rw [List.map_map];apply List.map_congr_left;intro x _;simp only [Function.comp];split
 ·rename_i c;exact (by simpa using c:x.id=t.id).symm
 ·rfl
theorem aGc {y:Reg}:hX M (mapM M id y).1:=by
 unfold mapM;split
 ·exact hX.refl
 ·split
  ·exact hX.refl
  ·exact aAa
theorem aCj {page:Int} {aw au af:Bool}:hX M (touchM M id page aw au af).1:=by
 unfold touchM;split
 ·exact hX.refl
 ·split
  ·exact hX.refl
  ·split
   ·exact hX.refl
   ·split
    ·exact hX.refl
    ·split
     ·exact hX.refl
     ·exact aAa
theorem same_do {addr x0:Int} {size:Nat} {aw:Bool}:hX M (doM M id addr size aw x0).1:=by
 unfold doM;have h:=aCj (M:=M) (id:=id) (page:=addr / 4096) (aw:=aw) (au:=true) (af:=false);generalize touchM M id (addr / 4096) aw true false=z at h;obtain ⟨M',k,code,e⟩:=z;simp only;split
 ·exact h
 ·split
  ·exact h
  ·exact h
theorem KeOK.mach (hK:KeOK K) (hI:InvM M') (hs:hX K.M M'):KeOK { K with M:=M' }:=by
 have hid:∀ id,(findS M' id).isSome=(findS K.M id).isSome:=λid=>by
  have:∀ N:Mm,(findS N id).isSome=(N.sps.map (·.id)).contains id:=λN=>by
   rw [Bool.eq_iff_iff,fF,List.contains_iff_mem,List.mem_map]
  rw [this,this,hs.1]
 refine ⟨hI,hK.nd,hK.rng,hK.line,λp hp=>?_,λp hp=>?_,λs hs2=>?_,hK.nsp⟩
 ·show (findS M' p.sp).isSome=true;rw [hid];exact hK.sp p hp
 ·show liveN M'.ns p.box=true;rw [hs.2];exact hK.box p hp
 ·have:s.id ∈ K.M.sps.map (·.id):=by rw [<-hs.1];exact List.mem_map_of_mem hs2
  obtain ⟨z,z1,z2⟩:=List.mem_map.1 this;have:=hK.old z z1;show s.id<K.nsp;omega
def setP (ps:List KP) (pid:Int) (t:TS):List KP:=ps.map λp=>if p.pid==pid then { p with t:=t } else p
theorem KeOK.regs {t:TS} (hK:KeOK K):KeOK { K with ps:=setP K.ps pid t }:=by
 have h1:(setP K.ps pid t).map (·.pid)=K.ps.map (·.pid):=by
  unfold setP;rw [List.map_map];apply List.map_congr_left;intro p _;simp only [Function.comp];split<;>rfl
 have h2:∀ p ∈ setP K.ps pid t,∃ p0 ∈ K.ps,p.pid=p0.pid/\p.sp=p0.sp/\p.box=p0.box:=λp hp=>by
  obtain ⟨p0,a,rfl⟩:=List.mem_map.1 hp;refine ⟨p0,a,?_⟩;split<;>exact ⟨rfl,rfl,rfl⟩
 refine ⟨hK.inv,by show ((setP K.ps pid t).map (·.pid)).Nodup;rw [h1];exact hK.nd,λp hp=>?_,by show K.line.Perm ((setP K.ps pid t).map (·.pid));rw [h1];exact hK.line,λp hp=>?_,λp hp=>?_,hK.old,hK.nsp⟩
 ·obtain ⟨p0,a,b,c,d⟩:=h2 p hp;rw [b];exact hK.rng p0 a
 ·obtain ⟨p0,a,b,c,d⟩:=h2 p hp;rw [c];exact hK.sp p0 a
 ·obtain ⟨p0,a,b,c,d⟩:=h2 p hp;rw [d];exact hK.box p0 a
theorem aKM {t:TS} (hL:L.map (·.1)=K.ps) (hn:(K.ps.map (·.pid)).Nodup) (hj:L[j]? = some y) (hp:y.1.pid=pid):(L.set j ({ y.1 with t:=t },y.2)).map (·.1)=setP K.ps pid t/\pmE (L.set j ({ y.1 with t:=t },y.2))=pmE L:=by
 have hjl:=(List.getElem?_eq_some_iff.1 hj).1;constructor
 ·apply List.ext_getElem?;intro m;unfold setP;rw [List.getElem?_map,List.getElem?_map,<- hL,List.getElem?_map,List.getElem?_set];by_cases e:j=m
  ·subst e;rw [if_pos rfl,if_pos hjl,hj];simp [hp]
  ·rw [if_neg e];cases e2:L[m]? with
   | none=>rfl
   | some z=>
    have:¬ z.1.pid=pid:=λw=>by
     have n1:(K.ps.map (·.pid))[j]? = some pid:=by rw [<-hL,List.getElem?_map,List.getElem?_map,hj];simp [hp]
     have n2:(K.ps.map (·.pid))[m]? = some pid:=by rw [<-hL,List.getElem?_map,List.getElem?_map,e2];simp [w]
     obtain ⟨a1,a2⟩:=List.getElem?_eq_some_iff.1 n1;obtain ⟨b1,b2⟩:=List.getElem?_eq_some_iff.1 n2;exact e ((List.getElem?_inj a1 hn).1 (n1.trans n2.symm))
    simp [this]
 ·apply List.ext_getElem?;intro m;unfold pmE;rw [List.getElem?_map,List.getElem?_map,List.getElem?_set];by_cases e:j=m
  ·subst e;rw [if_pos rfl,if_pos hjl,hj];rfl
  ·rw [if_neg e]
theorem dZ.setR {t:TS} (hL:L.map (·.1)=K.ps) (hn:(K.ps.map (·.pid)).Nodup) (hj:L[j]? = some y) (hp:y.1.pid=pid) (h:Own ((dZ x K L gm R).set (6+j) (At y.2 (iA y.1.box y.1.sp y.1.par t))) A):Own (KerS x { K with ps:=setP K.ps pid t }::R) A:=by
 obtain ⟨s1,s2⟩:=aKM (t:=t) hL hn hj hp;refine KerS.closeH (L:=L.set j ({ y.1 with t:=t },y.2)) (gm:=gm) s1 ?_
 have e:(dZ x K L gm R).set (6+j) (At y.2 (iA y.1.box y.1.sp y.1.par t))=dZ x { K with ps:=setP K.ps pid t } (L.set j ({ y.1 with t:=t },y.2)) gm R:=by
  have hjl:=(List.getElem?_eq_some_iff.1 hj).1;unfold dZ;rw [s2];show ((([MacE x.c K.M,CpuS x.cp x.c.m x.n,At x.kb (kbC x gm K.nsp),QueS x.qb x.qn K.tk K.line,MapI x.pm .i64 (pmE L),GrS gm K.gr]:List SP)++(L.map mL++R))).set (6+j) _=_;rw [List.set_append,if_neg (by simp),List.set_append,if_pos (by simp;omega),List.map_set];simp only [List.length_cons,List.length_nil,Nat.zero_add];rw [show 6+j-(1+1+1+1+1+1)=j by omega];rfl
 rw [<-e];exact h
def tU (K:Ke) (p:KP) (cl:CallR):Ke × Int × Int × Int × Int × Bool:=
 if (doM K.M p.sp cl.addr cl.size.toNat (cl.op==5) cl.x).2.2.2.2=9 then
  ({ K with M:=(doM K.M p.sp cl.addr cl.size.toNat (cl.op==5) cl.x).1,ps:=setP K.ps p.pid (raiseZ p.t (doM K.M p.sp cl.addr cl.size.toNat (cl.op==5) cl.x).2.2.1 (doM K.M p.sp cl.addr cl.size.toNat (cl.op==5) cl.x).2.2.2.1) },
   (doM K.M p.sp cl.addr cl.size.toNat (cl.op==5) cl.x).2.1,9,(doM K.M p.sp cl.addr cl.size.toNat (cl.op==5) cl.x).2.2.1,(doM K.M p.sp cl.addr cl.size.toNat (cl.op==5) cl.x).2.2.2.1,tC p.t==0)
 else ({ K with M:=(doM K.M p.sp cl.addr cl.size.toNat (cl.op==5) cl.x).1 },(doM K.M p.sp cl.addr cl.size.toNat (cl.op==5) cl.x).2.1,(doM K.M p.sp cl.addr cl.size.toNat (cl.op==5) cl.x).2.2.2.2,(doM K.M p.sp cl.addr cl.size.toNat (cl.op==5) cl.x).2.2.1,(doM K.M p.sp cl.addr cl.size.toNat (cl.op==5) cl.x).2.2.2.1,false)
theorem aGO {addr x0:Int} {size:Nat} {aw:Bool}:0<=(doM M id addr size aw x0).2.2.2.1/\(doM M id addr size aw x0).2.2.2.1<18446744073709551616:=by
 have ht:0<=(touchM M id (addr / 4096) aw true false).2.2.1/\(touchM M id (addr / 4096) aw true false).2.2.1<100:=by
  unfold touchM;have hc:0<=cU aw true false/\cU aw true false<50:=by cases aw<;>decide
  split
  ·simp
  ·split
   ·simp only;omega
   ·split
    ·simp only;split<;>omega
    ·split
     ·simp
     ·split<;>simp
 unfold doM;generalize touchM M id (addr / 4096) aw true false=z at ht ⊢;obtain ⟨M',k,code,e⟩:=z;simp only at ht ⊢;split
 ·simp only;split<;>omega
 ·split<;>simp
theorem aGa {Q:Int->Int->Int->Int->Int->Bool->AH->Prop} (h:Own (KerS x K::R) A) (hK:KeOK K) (hb:∀ x ∈ [w0,w1,w2,w3,w4,w5],0<=x/\x<18446744073709551616) (hc:fQ w0 w1 w2 w3 w4 w5=some cl) (hop:cl.op=4\/cl.op=5)
  (hl:K.line=pid::r) (hp:findP K pid=some p) (ha:0<=cl.addr/\cl.addr<140737488355328) (hsz:cl.size=1\/cl.size=2\/cl.size=4\/cl.size=8) (hd:cl.addr % cl.size=0)
  (hk:∀ A',KeOK (tU K p cl).1->Own (KerS x (tU K p cl).1::R) A'->Q pid (tU K p cl).2.1 (tU K p cl).2.2.1 (tU K p cl).2.2.2.1 (tU K p cl).2.2.2.2.1 (tU K p cl).2.2.2.2.2 A') :
  qfd_A (some ⟨x.kb,0,none⟩) w0 w1 w2 w3 w4 w5 Q A:=by
 obtain ⟨L,gm,hL,h⟩:=KerS.openH h;obtain ⟨y,j,rfl,hj,hlk,hpi⟩:=zB hL hp;subst hpi;have hpm:y.1 ∈ K.ps:=by rw [<-hL];exact List.mem_map_of_mem (List.mem_of_getElem? hj)
 refine aGP (j:=2) (i:=3) h rfl (que_at hl) hb hc hop λA1 h1=>?_;refine aAY (j:=2) (m:=4) (i:=6+j) h1 rfl rfl hlk (pJ hj) ?_;obtain ⟨s,hs⟩:=Option.isSome_iff_exists.1 (hK.sp y.1 hpm);obtain ⟨sz,hsz2⟩:∃ sz:Nat,cl.size=(sz:Int):=⟨cl.size.toNat,by omega⟩;unfold tU at hk;rw [hsz2] at hk hd hsz ⊢;simp only [Int.toNat_natCast] at hk;refine aLd (size:=sz) h1 hK.inv hs ha (by omega) hd λA2 hI h2=>?_;have h2:Own (dZ x { K with M:=(doM K.M y.1.sp cl.addr sz (cl.op==5) cl.x).1 } L gm R) A2:=h2;have hK2:=hK.mach hI same_do;by_cases e:(doM K.M y.1.sp cl.addr sz (cl.op==5) cl.x).2.2.2.2=9
 ·rw [if_pos e] at hk;rw [e];refine aAd (i:=6+j) h2 (pJ hj) aGO λA3 h3=>?_;refine hk A3 (hK2.regs) (dZ.setR (K:={ K with M:=(doM K.M y.1.sp cl.addr sz (cl.op==5) cl.x).1 }) hL hK.nd hj rfl h3)
 ·rw [if_neg e] at hk;exact aFo e (hk A2 hK2 (KerS.closeH hL h2))
end Go.Dn
namespace Go.Dn
variable {A:AH} {R:List SP} {x:Kx} {K:Ke} {L:List (KP × Nat)} {gm:Option Nat} {p:KP} {y:KP × Nat} {pid:Int} {i j:Nat} {M:Mm} {r:List Int} {w0 w1 w2 w3 w4 w5:Int} {cl:CallR}
theorem aKY {Q:Int->Int->Int->Int->Int->Bool->AH->Prop} (h:Own (KerS x K::R) A) (hK:KeOK K) (hb:∀ x ∈ [w0,w1,w2,w3,w4,w5],0<=x/\x<18446744073709551616) (hc:fQ w0 w1 w2 w3 w4 w5=some cl) (hop:cl.op=1)
  (hl:K.line=pid::r) (hp:findP K pid=some p)
  (hk:∀ A',KeOK { K with M:=(mapM K.M p.sp ⟨cl.a,cl.b,cl.pw,cl.pu,cl.px,0⟩).1 }->Own (KerS x { K with M:=(mapM K.M p.sp ⟨cl.a,cl.b,cl.pw,cl.pu,cl.px,0⟩).1 }::R) A'->Q pid 0 (mapM K.M p.sp ⟨cl.a,cl.b,cl.pw,cl.pu,cl.px,0⟩).2 0 0 false A') :
  qfd_A (some ⟨x.kb,0,none⟩) w0 w1 w2 w3 w4 w5 Q A:=by
 obtain ⟨L,gm,hL,h⟩:=KerS.openH h;obtain ⟨y,j,rfl,hj,hlk,hpi⟩:=zB hL hp;refine aCK (j:=2) (i:=3) h rfl (que_at hl) hb hc (by omega) λA1 h1=>aJM hop ?_;have hpj:=pJ (x:=x) (K:=K) (gm:=gm) (R:=R) hj;unfold qev_A qev_G;simp only [aG,add_at,Nat.zero_add];refine dF (i:=2) h1 rfl rfl ?_;simp only [aG,add_at,Nat.zero_add];refine aAP h1 (iD (i:=2) h1 rfl rfl (pE (i:=4) h1 rfl ?_));rw [hlk];refine ⟨some ⟨y.2,0,none⟩,rfl,?_⟩;simp only [aG,add_at,Nat.zero_add];refine ld_I h1 hpj rfl ?_;obtain ⟨φ,h2⟩:=MacE.openE h1;refine aL (by rw [hop];rfl) (aHS (y:=⟨cl.a,cl.b,cl.pw,cl.pu,cl.px,0⟩) h2 hK.inv rfl λA2 hI h3=>hk A2 (hK.mach hI aGc) (KerS.closeH hL (gm:=gm) (MacE.closeE h3)))
end Go.Dn
namespace Go.Dn
variable {A:AH} {l:List SP}
theorem aA4 {w0 w1 w2 w3 w4 w5:Int} (h:(0<=w0/\0<=w1/\0<=w2/\0<=w3/\0<=w4/\0<=w5)/\w0<18446744073709551616/\w1<18446744073709551616/\w2<18446744073709551616/\w3<18446744073709551616/\w4<18446744073709551616/\w5<18446744073709551616):∀ x ∈ [w0,w1,w2,w3,w4,w5],0<=x/\x<18446744073709551616:=λx hx=>by
 simp at hx;rcases hx with rfl | rfl | rfl | rfl | rfl | rfl<;>omega
def aw0:KP:=⟨0,1,0,0,ts0⟩
def awA:Ke:=(tU (k1K 40) aw0 { op:=4,addr:=0,size:=8 }).1
def awB:Ke:={ awA with M:=(mapM awA.M 0 ⟨0,4,true,true,false,0⟩).1 }
def awC:Ke:=(tU awB aw0 { op:=5,addr:=8,size:=8,x:=5 }).1
def awD:Ke:=(tU awC aw0 { op:=4,addr:=8,size:=8 }).1
theorem uC (h:Own l A):Own (SlO Sl.nil 1 (fX [])::l) A:=⟨λ_=>none,A,λ_=>.inl rfl,(λ_ _ e=>nomatch e),mA.refl A,SlO.nil,h⟩
set_option maxRecDepth 20000 in
theorem aBZ {Q:Bool->AH->Prop} (h:Own l A) (hk:∀ A',Own l A'->Q true A'):qff_A Q A:=by
 unfold qff_A qff_G;refine aEU (k:=0) (ch:=[]) (uC h) rfl dI (λ_=>rfl) (by omega) (Nat.le_refl _) λs5 s7 A1 hs5 hs7 h1=>?_;refine aFq h1 hs5 hs7 (by simp) (by omega) (by omega) (by omega) λx A2 hq hN hK h2=>?_;refine ⟨λA'=>Own (KerS x (k1K 40)::SlO Sl.nil 1 (fX [])::l) A',λA3 h3=>?_,bsel_f rfl (bsel_f rfl h2)⟩;refine aGa (cl:={ op:=4,addr:=0,size:=8 }) (p:=aw0) h3 hK (aA4 (by decide)) rfl (.inl rfl) rfl rfl (by decide) (by decide) (by decide) λA4 hK4 h4=>?_;have hK4:KeOK awA:=hK4;have h4:Own (KerS x awA::SlO Sl.nil 1 (fX [])::l) A4:=h4;refine aKY (cl:={ op:=1,a:=0,b:=4,pw:=true,pu:=true }) (p:=aw0) h4 hK4 (aA4 (by decide)) rfl rfl rfl rfl λA5 hK5 h5=>?_;have hK5:KeOK awB:=hK5;have h5:Own (KerS x awB::SlO Sl.nil 1 (fX [])::l) A5:=h5;refine aGa (cl:={ op:=5,addr:=8,size:=8,x:=5 }) (p:=aw0) h5 hK5 (aA4 (by decide)) rfl (.inr rfl) rfl rfl (by decide) (by decide) (by decide) λA6 hK6 h6=>?_;have hK6:KeOK awC:=hK6;have h6:Own (KerS x awC::SlO Sl.nil 1 (fX [])::l) A6:=h6;refine aGa (cl:={ op:=4,addr:=8,size:=8 }) (p:=aw0) h6 hK6 (aA4 (by decide)) rfl (.inl rfl) rfl rfl (by decide) (by decide) (by decide) λA7 hK7 h7=>?_;have h7:Own (KerS x awD::SlO Sl.nil 1 (fX [])::l) A7:=h7;refine aL rfl (aL rfl (aL rfl (aL rfl (aL rfl (aL rfl ?_)))));exact aLm h7 rfl (hk A7 h7.tail.tail)
end Go.Dn
