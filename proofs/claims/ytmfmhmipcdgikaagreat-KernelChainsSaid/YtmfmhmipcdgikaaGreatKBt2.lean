/- What the proof stands on. -/
import Derived.Test.YtmfmhmipcdgikaaGreatChild
import Derived.Test.YtmfmhmipcdgikaaGreatMacR
import Derived.Test.YtmfmhmipcdgikaaGreatRead2
namespace Go.Dn
structure TS where
 r0:Int
 r1:Int
 r2:Int
 r3:Int
 told:Int
 entry:Int
 inn:Bool
 fa:Int
 fc:Int
 s0:Int
 s1:Int
 s2:Int
 s3:Int
def ts0:TS:=⟨0,0,0,0,0,0,false,0,0,0,0,0,0⟩
def iQ (box sp par:Int) (t:TS):List Value:=[.int .i64 box,.int .i64 sp,.int .i64 par,.int .u64 t.r0,.int .u64 t.r1,.int .u64 t.r2,.int .u64 t.r3,.int .i64 t.told,.int .u64 t.entry,.bool t.inn,.int .u64 t.fa,.int .i64 t.fc,.int .u64 t.s0,.int .u64 t.s1,.int .u64 t.s2,.int .u64 t.s3]
end Go.Dn
namespace Go.Dn
variable {A:AH} {L:List SP} {qn tk:Int} {kb qb i j:Nat} {w0 w1 w2 w3 w4 w5:Int} {cl:CallR} {rest:List Value} {v0:Value} {r:List Int} {pid:Int}
def aJc (kb:Nat) (pid:Int) (cl:CallR) (Q:Int->Int->Int->Int->Int->Bool->AH->Prop):AP:=λA=>
(∃ R45:Int->Int->AH->Prop,(∀ c73:Int,∀ c74:Int,∀ h75,R45 c73 c74 h75->
(Q pid c73 c74 (0:Int) (0:Int) (false:Bool) h75))/\
(∃ R46:Bool->AH->Prop,(∀ b47:Bool,∀ h48,R46 b47 h48->
(bsel b47
(qev_A (some ⟨kb,0,none⟩) pid cl.op cl.a cl.b cl.pw cl.pu cl.px cl.addr cl.size cl.x cl.id cl.ra cl.rb cl.rd (λn49 pid0 h51=>
(R45 n49 pid0 h51)) h48)
(bsel (cl.op==(6:Int))
(qew_A (some ⟨kb,0,none⟩) pid cl.op cl.a cl.b cl.pw cl.pu cl.px cl.addr cl.size cl.x cl.id cl.ra cl.rb cl.rd (λpid2 pid3 h54=>
(R45 pid2 pid3 h54)) h48)
(bsel (cl.op==(7:Int))
(qex_A (some ⟨kb,0,none⟩) pid cl.op cl.a cl.b cl.pw cl.pu cl.px cl.addr cl.size cl.x cl.id cl.ra cl.rb cl.rd (λpid5 pid6 h57=>
(R45 pid5 pid6 h57)) h48)
(∃ R58:Bool->AH->Prop,(∀ b59:Bool,∀ h60,R58 b59 h60->
(bsel b59
(qey_A (some ⟨kb,0,none⟩) pid cl.op cl.a cl.b cl.pw cl.pu cl.px cl.addr cl.size cl.x cl.id cl.ra cl.rb cl.rd (λn61 n62 h63=>
(R45 n61 n62 h63)) h60)
(∃ R64:Bool->AH->Prop,(∀ b65:Bool,∀ h66,R64 b65 h66->
(bsel b65
(qfz_A (some ⟨kb,0,none⟩) pid cl.op cl.a cl.b cl.pw cl.pu cl.px cl.addr cl.size cl.x cl.id cl.ra cl.rb cl.rd (λn67 n68 h69=>
(R45 n67 n68 h69)) h66)
(qga_A (some ⟨kb,0,none⟩) pid cl.op cl.a cl.b cl.pw cl.pu cl.px cl.addr cl.size cl.x cl.id cl.ra cl.rb cl.rd (λn70 n71 h72=>
(R45 n70 n71 h72)) h66)))/\
(bsel (cl.op==(12:Int))
(R64 (cl.op==(12:Int)) h60)
(bsel (cl.op==(13:Int))
(R64 (cl.op==(13:Int)) h60)
(R64 (cl.op==(14:Int)) h60))))))/\
(bsel (cl.op==(8:Int))
(R58 (cl.op==(8:Int)) h48)
(R58 (cl.op==(9:Int)) h48)))))))/\
(bsel (cl.op==(1:Int))
(R46 (cl.op==(1:Int)) A)
(bsel (cl.op==(2:Int))
(R46 (cl.op==(2:Int)) A)
(R46 (cl.op==(3:Int)) A)))))
theorem aBe {Q:Int->Int->Int->Int->Int->Bool->AH->Prop} (h:Own L A) (ej:L[j]? = some (At kb (v0::.pointer (some ⟨qb,0,none⟩)::rest))) (ei:L[i]? = some (QueS qb qn tk (pid::r))) (hb:∀ x ∈ [w0,w1,w2,w3,w4,w5],0<=x/\x<18446744073709551616) (hc:dU w0 w1 w2 w3 w4 w5=some cl)
  (hk:∀ A',Own L A'->∃ R23:Int->Int->Int->Int->Int->Bool->AH->Prop,(∀ c38:Int,∀ c39:Int,∀ c40:Int,∀ c41:Int,∀ c42:Int,∀ c43:Bool,∀ h44,R23 c38 c39 c40 c41 c42 c43 h44->aJc kb pid cl Q h44)/\
   bsel (cl.op==(4:Int)) (qeh_A (some ⟨kb,0,none⟩) pid cl.op cl.a cl.b cl.pw cl.pu cl.px cl.addr cl.size cl.x cl.id cl.ra cl.rb cl.rd (λn24 n25 n26 n27 n28 b29 h30=>Q n24 n25 n26 n27 n28 b29 h30) A')
    (bsel (cl.op==(5:Int)) (qeh_A (some ⟨kb,0,none⟩) pid cl.op cl.a cl.b cl.pw cl.pu cl.px cl.addr cl.size cl.x cl.id cl.ra cl.rb cl.rd (λn24 n25 n26 n27 n28 b29 h30=>Q n24 n25 n26 n27 n28 b29 h30) A') (R23 0 0 0 0 0 false A'))) :
  qgb_A (some ⟨kb,0,none⟩) w0 w1 w2 w3 w4 w5 Q A:=by
 unfold qgb_A qgb_G;simp only [aH,add_at,Nat.zero_add];refine cO h ej rfl (bsel_f rfl (cO h ej rfl (xK (h.pick i ei) (λe=>by cases e) λx r' e=>?_)));cases e;refine aEa hb h (λc2 hc2 A1 h1=>?_) λhn=>by rw [hc] at hn;cases hn
 rw [hc] at hc2;cases hc2;exact bsel_f rfl (hk A1 h1)
theorem aIL {Q:Int->Int->Int->Int->Int->Bool->AH->Prop} (h:Own L A) (ej:L[j]? = some (At kb (v0::.pointer (some ⟨qb,0,none⟩)::rest))) (ei:L[i]? = some (QueS qb qn tk (pid::r))) (hb:∀ x ∈ [w0,w1,w2,w3,w4,w5],0<=x/\x<18446744073709551616) (hc:dU w0 w1 w2 w3 w4 w5=some cl) (hop:cl.op=4\/cl.op=5)
  (hk:∀ A',Own L A'->qeh_A (some ⟨kb,0,none⟩) pid cl.op cl.a cl.b cl.pw cl.pu cl.px cl.addr cl.size cl.x cl.id cl.ra cl.rb cl.rd (λn24 n25 n26 n27 n28 b29 h30=>Q n24 n25 n26 n27 n28 b29 h30) A'):qgb_A (some ⟨kb,0,none⟩) w0 w1 w2 w3 w4 w5 Q A:=by
 refine aBe h ej ei hb hc λA1 h1=>⟨λ_ _ _ _ _ _ _=>False,λ_ _ _ _ _ _ _ g=>g.elim,?_⟩;rcases hop with e | e
 ·exact aN (by rw [e];rfl) (hk A1 h1)
 ·exact bsel_f (by rw [e];rfl) (aN (by rw [e];rfl) (hk A1 h1))
theorem uB {Q:Int->Int->Int->Int->Int->Bool->AH->Prop} (h:Own L A) (ej:L[j]? = some (At kb (v0::.pointer (some ⟨qb,0,none⟩)::rest))) (ei:L[i]? = some (QueS qb qn tk (pid::r))) (hb:∀ x ∈ [w0,w1,w2,w3,w4,w5],0<=x/\x<18446744073709551616) (hc:dU w0 w1 w2 w3 w4 w5=some cl) (hop:cl.op≠4/\cl.op≠5)
  (hk:∀ A',Own L A'->aJc kb pid cl Q A'):qgb_A (some ⟨kb,0,none⟩) w0 w1 w2 w3 w4 w5 Q A:=
 aBe h ej ei hb hc λA1 h1=>⟨λ_ _ _ _ _ _ A'=>A'=A1,λ_ _ _ _ _ _ A' e=>by rw [e];exact hk A1 h1,bsel_f (by simp [hop.1]) (bsel_f (by simp [hop.2]) rfl)⟩
theorem aKr {Q:Int->Int->Int->Int->Int->Bool->AH->Prop} (hop:cl.op=1) (hk:qev_A (some ⟨kb,0,none⟩) pid cl.op cl.a cl.b cl.pw cl.pu cl.px cl.addr cl.size cl.x cl.id cl.ra cl.rb cl.rd (λx e A'=>Q pid x e 0 0 false A') A):aJc kb pid cl Q A:=
 ⟨λx e A'=>Q pid x e 0 0 false A',λ_ _ _ g=>g,λb A'=>b=true/\A'=A,λb A' ⟨e1,e2⟩=>by subst e1 e2;exact aN rfl hk,aN (by rw [hop];rfl) ⟨by rw [hop];rfl,rfl⟩⟩
theorem zX {Q:Int->Int->Int->Int->Int->Bool->AH->Prop} (hop:9<cl.op) (hk:∀ b:Bool,b=(cl.op==12 || cl.op==13 || cl.op==14)->bsel b (qfz_A (some ⟨kb,0,none⟩) pid cl.op cl.a cl.b cl.pw cl.pu cl.px cl.addr cl.size cl.x cl.id cl.ra cl.rb cl.rd (λx e A'=>Q pid x e 0 0 false A') A)
  (qga_A (some ⟨kb,0,none⟩) pid cl.op cl.a cl.b cl.pw cl.pu cl.px cl.addr cl.size cl.x cl.id cl.ra cl.rb cl.rd (λx e A'=>Q pid x e 0 0 false A') A)):aJc kb pid cl Q A:=by
 have ne:∀ k:Int,k<=9->(cl.op==k)=false:=λk hk=>by simp;omega
 refine ⟨λx e A'=>Q pid x e 0 0 false A',λ_ _ _ g=>g,λb A'=>b=false/\A'=A,λb A' ⟨e1,e2⟩=>?_,bsel_f (ne 1 (by omega)) (bsel_f (ne 2 (by omega)) ⟨ne 3 (by omega),rfl⟩)⟩;subst e1 e2;refine bsel_f rfl (bsel_f (ne 6 (by omega)) (bsel_f (ne 7 (by omega)) ⟨λb A2=>b=false/\A2=A',λb A2 ⟨e1,e2⟩=>?_,bsel_f (ne 8 (by omega)) ⟨ne 9 (by omega),rfl⟩⟩));subst e1 e2;refine bsel_f rfl ⟨λb A3=>b=(cl.op==12 || cl.op==13 || cl.op==14)/\A3=A2,λb A3 ⟨e1,e2⟩=>?_,?_⟩
 ·subst e2;exact hk b e1
 ·refine aG (λg=>⟨by rw [g];rfl,rfl⟩) λg=>aG (λg2=>⟨by rw [g,g2];rfl,rfl⟩) λg2=>⟨by rw [g,g2];rfl,rfl⟩
end Go.Dn
namespace Go.Dn
variable {A:AH} {l:List SP} {i pb:Nat} {box sp par:Int} {t t':TS}
theorem aGH {K:Int->Int->Int->Int->Int->Int->Bool->Int->Int->Int->Int->Int->Int->Prop} (h:Own l A) (e:l[i]? = some (At pb (iQ box sp par t))) (hK:K t.r0 t.r1 t.r2 t.r3 t.told t.entry t.inn t.fa t.fc t.s0 t.s1 t.s2 t.s3) :
  aI .u64 ⟨pb,3,none⟩ A λn0=>aI .u64 ⟨pb,4,none⟩ A λn1=>aI .u64 ⟨pb,5,none⟩ A λn2=>aI .u64 ⟨pb,6,none⟩ A λn3=>aI .i64 ⟨pb,7,none⟩ A λn4=>aI .u64 ⟨pb,8,none⟩ A λn5=>aB ⟨pb,9,none⟩ A λn6=>aI .u64 ⟨pb,10,none⟩ A λn7=>aI .i64 ⟨pb,11,none⟩ A λn8=>
   aI .u64 ⟨pb,12,none⟩ A λn9=>aI .u64 ⟨pb,13,none⟩ A λn10=>aI .u64 ⟨pb,14,none⟩ A λn11=>aI .u64 ⟨pb,15,none⟩ A λn12=>K n0 n1 n2 n3 n4 n5 n6 n7 n8 n9 n10 n11 n12:=
 ld_I h e rfl (ld_I h e rfl (ld_I h e rfl (ld_I h e rfl (ld_I h e rfl (ld_I h e rfl (aY h e rfl (ld_I h e rfl (ld_I h e rfl (ld_I h e rfl (ld_I h e rfl (ld_I h e rfl (ld_I h e rfl hK))))))))))))
theorem aLM {K:AP} (h:Own l A) (e:l[i]? = some (At pb (iQ box sp par t))) (hK:∀ A',Own (l.set i (At pb (iQ box sp par t'))) A'->K A') :
  aC ⟨pb,3,none⟩ (.int .u64 t'.r0) A λh1=>aC ⟨pb,4,none⟩ (.int .u64 t'.r1) h1 λh1=>aC ⟨pb,5,none⟩ (.int .u64 t'.r2) h1 λh1=>aC ⟨pb,6,none⟩ (.int .u64 t'.r3) h1 λh1=>aC ⟨pb,7,none⟩ (.int .i64 t'.told) h1 λh1=>aC ⟨pb,8,none⟩ (.int .u64 t'.entry) h1 λh1=>aC ⟨pb,9,none⟩ (.bool t'.inn) h1 λh1=>
   aC ⟨pb,10,none⟩ (.int .u64 t'.fa) h1 λh1=>aC ⟨pb,11,none⟩ (.int .i64 t'.fc) h1 λh1=>aC ⟨pb,12,none⟩ (.int .u64 t'.s0) h1 λh1=>aC ⟨pb,13,none⟩ (.int .u64 t'.s1) h1 λh1=>aC ⟨pb,14,none⟩ (.int .u64 t'.s2) h1 λh1=>aC ⟨pb,15,none⟩ (.int .u64 t'.s3) h1 K:=by
 have h:=h.pick i e
 refine aJ (i:=0) h rfl rfl rfl λ_ h=>aJ (i:=0) h rfl rfl rfl λ_ h=>aJ (i:=0) h rfl rfl rfl λ_ h=>aJ (i:=0) h rfl rfl rfl λ_ h=>aJ (i:=0) h rfl rfl rfl λ_ h=>aJ (i:=0) h rfl rfl rfl λ_ h=>aJ (i:=0) h rfl rfl rfl λ_ h=>
  aJ (i:=0) h rfl rfl rfl λ_ h=>aJ (i:=0) h rfl rfl rfl λ_ h=>aJ (i:=0) h rfl rfl rfl λ_ h=>aJ (i:=0) h rfl rfl rfl λ_ h=>aJ (i:=0) h rfl rfl rfl λ_ h=>aJ (i:=0) h rfl rfl rfl λA' h=>hK A' ?_
 have h:Own (At pb (iQ box sp par t')::l.eraseIdx i) A':=h;exact Own.back i e h
def raiseZ (t:TS) (a c:Int):TS:=if t.entry=0 then t else if t.inn=true then t else { t with r0:=a,r1:=c,r2:=0,r3:=0,inn:=true,fa:=a,fc:=c,s0:=t.r0,s1:=t.r1,s2:=t.r2,s3:=t.r3 }
def wI (t:TS):Int:=if t.entry=0 then 5 else if t.inn=true then 11 else 0
theorem aCq {a c:Int} {Q:Int->Int->Int->Int->Int->Int->Bool->Int->Int->Int->Int->Int->Int->Int->AH->Prop} (h:Own l A) (hc:0<=c/\c<18446744073709551616)
  (hk:∀ A',Own l A'->Q (raiseZ t a c).r0 (raiseZ t a c).r1 (raiseZ t a c).r2 (raiseZ t a c).r3 (raiseZ t a c).told (raiseZ t a c).entry (raiseZ t a c).inn (raiseZ t a c).fa (raiseZ t a c).fc (raiseZ t a c).s0 (raiseZ t a c).s1 (raiseZ t a c).s2 (raiseZ t a c).s3 (wI t) A') :
  qeg_A t.r0 t.r1 t.r2 t.r3 t.told t.entry t.inn t.fa t.fc t.s0 t.s1 t.s2 t.s3 a c Q A:=by
 unfold qeg_A;refine aX (cs:=[.int .u64 a,.int .i64 c]) h λb A1 h1=>?_;have hk:=hk A1 h1.tail;unfold raiseZ wI at hk;refine aG (λg=>?_) λg=>aG (λg2=>?_) λg2=>?_
 ·have g:t.entry=0:=by simpa using g
  simp only [if_pos g] at hk;exact hk
 ·have g:¬ t.entry=0:=by simpa using g
  simp only [if_neg g,if_pos g2] at hk;exact hk
 ·have g:¬ t.entry=0:=by simpa using g
  have g2':¬ t.inn=true:=by rw [g2];simp
  simp only [if_neg g,if_neg g2'] at hk;simp only [add_at,Nat.zero_add];refine ld_I (i:=0) h1 rfl rfl (ld_I (i:=0) h1 rfl rfl ⟨ld_I (i:=0) h1 rfl rfl (ld_I (i:=0) h1 rfl rfl rfl),ld_I (i:=0) h1 rfl rfl (ld_I (i:=0) h1 rfl rfl ?_)⟩);rw [cQ hc.1 hc.2];exact hk
end Go.Dn
namespace Go.Dn
variable {t:TS}
def aNj (t:TS) (id x:Int):TS:=if id=0 then { t with r0:=x } else if id=1 then { t with r1:=x } else if id=2 then { t with r2:=x } else { t with r3:=x }
end Go.Dn
namespace Go.Dn
structure KP where
 pid:Int
 box:Nat
 sp:Int
 par:Int
 t:TS
structure GrZ where
 from_:Int
 page:Int
 to:Int
 w:Bool
 taken:Bool
 at_:Int
structure Ke where
 M:Mm
 ps:List KP
 line:List Int
 tk:Int
 gr:List (Int × GrZ)
 nsp:Int
structure Kx where
 kb:Nat
 cp:Nat
 qb:Nat
 pm:Nat
 n:Nat
 c:Mc
 qn:Int
def grV (g:GrZ):Value:=.agg #[.int .i64 g.from_,.int .i64 g.page,.int .i64 g.to,.bool g.w,.bool g.taken,.int .i64 g.at_]
def GrS (gm:Option Nat) (gr:List (Int × GrZ)):SP:=λB=>(gm=none/\gr=[])\/∃ b,gm=some b/\MapI b .i64 (gr.map λx=>(x.1,grV x.2)) B
def jQ (y:KP × Nat):SP:=At y.2 (iQ y.1.box y.1.sp y.1.par y.1.t)
def kbC (x:Kx) (gm:Option Nat) (nsp:Int):List Value:=[.pointer (some ⟨x.cp,0,none⟩),.pointer (some ⟨x.qb,0,none⟩),.map gm,.map (some x.pm),.int .i64 nsp]
def pmE (L:List (KP × Nat)):List (Int × Value):=L.map λy=>(y.1.pid,ptrV y.2)
def cV (x:Kx) (K:Ke) (L:List (KP × Nat)) (gm:Option Nat) (R:List SP):List SP:=
 MacE x.c K.M::CpuS x.cp x.c.m x.n::At x.kb (kbC x gm K.nsp)::QueS x.qb x.qn K.tk K.line::MapI x.pm .i64 (pmE L)::GrS gm K.gr::(L.map jQ++R)
def KerS (x:Kx) (K:Ke):SP:=λB=>∃ L gm,L.map (·.1)=K.ps/\Own (cV x K L gm []) B
variable {A:AH} {R:List SP} {x:Kx} {K:Ke} {L:List (KP × Nat)} {gm:Option Nat} {p:KP} {y:KP × Nat} {pid:Int} {j:Nat} {M:Mm} {id:Int}
theorem KerS.openH (h:Own (KerS x K::R) A):∃ L gm,L.map (·.1)=K.ps/\Own (cV x K L gm R) A:=by
 obtain ⟨L,h⟩:=Own.ex h;obtain ⟨gm,h⟩:=Own.ex h;obtain ⟨h1,h⟩:=Own.pure h;refine ⟨L,gm,h1,?_⟩;have:=h.flat;simp only [cV,List.append_nil,List.cons_append] at this ⊢;exact this
theorem KerS.closeH (h1:L.map (·.1)=K.ps) (h:Own (cV x K L gm R) A):Own (KerS x K::R) A:=by
 have h:Own (cV x K L gm []++R) A:=by
  simp only [cV,List.append_nil,List.cons_append] at h ⊢;exact h
 exact h.app.imp λ_ hB=>⟨L,gm,h1,hB⟩
def findP (K:Ke) (pid:Int):Option KP:=K.ps.find? λp=>p.pid==pid
theorem zV:∀ (L:List (KP × Nat)) (pid:Int),(pmE L).lookup pid=(L.find? λy=>y.1.pid==pid).map λy=>ptrV y.2
 | [],_=>rfl
 | y::r,pid=>by
  unfold pmE;rw [List.map_cons,List.lookup_cons,List.find?_cons]
  have e:(pid==y.1.pid)=(y.1.pid==pid):=by
   rw [Bool.eq_iff_iff];simp only [beq_iff_eq];exact ⟨Eq.symm,Eq.symm⟩
  rw [e];cases (y.1.pid==pid) with
  | true=>rfl
  | false=>exact zV r pid
theorem aDB (h1:L.map (·.1)=K.ps) (pid:Int):findP K pid=(L.find? λy=>y.1.pid==pid).map (·.1):=by
 unfold findP;rw [<-h1,List.find?_map];rfl
theorem vZ (h1:L.map (·.1)=K.ps) (hf:findP K pid=some p):∃ (y:KP × Nat) (j:Nat),y.1=p/\L[j]? = some y/\(pmE L).lookup pid=some (ptrV y.2)/\p.pid=pid:=by
 rw [aDB h1] at hf;obtain ⟨y,hy,rfl⟩:=Option.map_eq_some_iff.1 hf;obtain ⟨j,hj⟩:=List.mem_iff_getElem?.1 (List.mem_of_find?_eq_some hy);exact ⟨y,j,rfl,hj,by rw [zV,hy];rfl,by simpa using List.find?_some hy⟩
theorem aJf (h1:L.map (·.1)=K.ps) (hf:findP K pid=none):(pmE L).lookup pid=none:=by
 rw [aDB h1] at hf;rw [zV,Option.map_eq_none_iff.1 hf];rfl
theorem iP (hj:L[j]? = some y):(cV x K L gm R)[6+j]? = some (jQ y):=by
 have hl:=(List.getElem?_eq_some_iff.1 hj).1;show ((([MacE x.c K.M,CpuS x.cp x.c.m x.n,At x.kb (kbC x gm K.nsp),QueS x.qb x.qn K.tk K.line,MapI x.pm .i64 (pmE L),GrS gm K.gr]:List SP)++(L.map jQ++R)))[6+j]? = _;rw [List.getElem?_append_right (by simp),List.getElem?_append_left (by simpa using hl),List.getElem?_map];simp only [List.length_cons,List.length_nil,Nat.zero_add];rw [show 6+j-(1+1+1+1+1+1)=j by omega,hj];rfl
structure bV (K:Ke):Prop where
 inv:InvM K.M
 nd:(K.ps.map (·.pid)).Nodup
 rng:∀ p ∈ K.ps,0<=p.pid/\p.pid<16
 line:K.line.Perm (K.ps.map (·.pid))
 sp:∀ p ∈ K.ps,(findS K.M p.sp).isSome=true
 box:∀ p ∈ K.ps,liveN K.M.ns p.box=true
 old:∀ s ∈ K.M.sps,s.id<K.nsp
 nsp:0<=K.nsp
def freeP (ps:List KP):Nat:=((List.range 16).find? λv:Nat=>!(ps.any λp=>p.pid==(v:Int))).getD 16
end Go.Dn
namespace Go.Dn
variable {A:AH} {R:List SP} {x:Kx} {K:Ke} {L:List (KP × Nat)} {gm:Option Nat} {p:KP} {y:KP × Nat} {pid:Int} {q:Int} {i j:Nat} {M:Mm} {id:Int}
theorem aGy {ps:List KP} {v:Nat} (hv:∀ u:Nat,u<v->ps.any (λp=>p.pid==(u:Int))=true) (hn:ps.any (λp=>p.pid==(v:Int))=false) (h16:v<=16):freeP ps=v:=by
 unfold freeP;rcases Nat.lt_or_ge v 16 with h | h
 ·have e:(List.range 16).find? (λv:Nat=>!(ps.any λp=>p.pid==(v:Int)))=some v:=by
   rw [List.find?_range_eq_some];exact ⟨by simpa using hn,List.mem_range.2 h,λu hu=>by simpa using hv u hu⟩
  rw [e];rfl
 ·have e:(List.range 16).find? (λv:Nat=>!(ps.any λp=>p.pid==(v:Int)))=none:=by
   rw [List.find?_eq_none];intro u hu;have:=List.mem_range.1 hu;rw [hv u (by omega)];simp
  rw [e];show 16=v;omega
theorem aAC {ps:List KP} {pid:Int}:(ps.find? λp=>p.pid==pid).isSome=ps.any λp=>p.pid==pid:=by
 rw [Bool.eq_iff_iff,List.find?_isSome,List.any_eq_true]
def cP (K:Ke) (par:Int) (box:Nat) (q:Int):Ke × Int × Int:=
 if 16<=freeP K.ps then (K,0,4)
 else if (kidM K.M box q).2.2≠0 then ({ K with M:=(kidM K.M box q).1 },0,(kidM K.M box q).2.2)
 else if (openM (kidM K.M box q).1 K.nsp (kidM K.M box q).2.1).2≠0 then ({ K with M:=(finM (openM (kidM K.M box q).1 K.nsp (kidM K.M box q).2.1).1 (kidM K.M box q).2.1).1 },0,(openM (kidM K.M box q).1 K.nsp (kidM K.M box q).2.1).2)
 else ({ K with M:=(openM (kidM K.M box q).1 K.nsp (kidM K.M box q).2.1).1,ps:=K.ps++[⟨freeP K.ps,(kidM K.M box q).2.1,K.nsp,par,ts0⟩],line:=K.line++[(freeP K.ps:Int)],nsp:=K.nsp+1 },freeP K.ps,0)
theorem aBa (hl:liveN M.ns i=true) (he:(kidM M i q).2.2=0):liveN (kidM M i q).1.ns (kidM M i q).2.1=true:=by
 obtain ⟨d,hd,hdl⟩:=mY hl;unfold kidM at he ⊢;rw [hd] at he ⊢;simp only at he ⊢;by_cases e:kidE M.ns d q=0
 ·rw [if_neg (by simp [e])];obtain ⟨j,j1,_,_,j4,_⟩:=pB (q:=q) hd hdl;show liveN (kidN M.ns i d q).1 (kidN M.ns i d q).2=true;unfold liveN;rw [j1,j4]
 ·rw [if_pos e] at he;exact absurd he e
theorem mV {q:Nat} (hl:liveN M.ns i=true):liveN (openM M id q).1.ns i=true:=by
 unfold openM;split
 ·exact hl
 ·split
  ·exact hl
  ·split
   ·exact hl
   ·show liveN (addU M.ns q 1) i=true;rw [fH];exact hl
theorem cV.back {X:SP} (h:Own (X::cV x K L gm R) A):Own (cV x K L gm (X::R)) A:=by
 refine h.perm ?_;unfold cV;have:(X::(L.map jQ++R)).Perm (L.map jQ++X::R):=List.perm_middle.symm;exact (List.perm_middle (l₁:=[MacE x.c K.M,CpuS x.cp x.c.m x.n,At x.kb (kbC x gm K.nsp),QueS x.qb x.qn K.tk K.line,MapI x.pm .i64 (pmE L),GrS gm K.gr]) (l₂:=L.map jQ++R) (a:=X)).symm.trans (List.Perm.append_left _ this)
theorem tC {K0:Option Addr->Prop} (h:Own (cV x K L gm R) A) (hk:K0 (some ⟨x.c.m,0,none⟩)):aP ⟨x.cp,0,none⟩ A K0:=by
 obtain ⟨s,ch,at_,_,h2⟩:=CpuS.openH (h.pick 1 rfl);exact cO (i:=0) h2 rfl rfl hk
theorem uK {K0:Option Addr->Prop} (h:Own (cV x K L gm R) A) (hk:K0 (some ⟨x.c.t,0,none⟩)):aP ⟨x.c.m,2,none⟩ A K0:=MacE.ptr (j:=2) h rfl hk
theorem aKY {c:Mc} {M:Mm} {Q:Int->AH->Prop} (h:Own (MacE c M::R) A) (hM:InvM M) (hl:liveN M.ns i=true) (hk:∀ A',InvM (openM M id i).1->Own (MacE c (openM M id i).1::R) A'->Q (openM M id i).2 A'):qca_A (some ⟨c.m,0,none⟩) id i Q A:=by
 obtain ⟨φ,h⟩:=MacE.openE h;exact aKP h hM hl λA' hI h'=>hk A' hI (MacE.closeE h')
theorem cT {M:Mm}:(findS M id).isSome=true↔∃ s ∈ M.sps,s.id=id:=by
 unfold findS;rw [List.find?_isSome];simp
theorem tU:(kidM M i q).1.sps=M.sps:=by
 unfold kidM;split
 ·rfl
 ·split<;>rfl
theorem aAd:(finM M i).1.sps=M.sps:=by
 unfold finM;split
 ·rfl
 ·split<;>rfl
theorem aBQ {s:Sm}:s ∈ (openM M id i).1.sps↔((openM M id i).2=0/\s=newS id i)\/s ∈ M.sps:=by
 unfold openM;split
 ·simp
 ·split
  ·simp
  ·split
   ·simp
   ·obtain ⟨p,q,e1,e2⟩:=iD (newS id i) M.sps;show s ∈ insS M.sps (newS id i)↔_;rw [e2,mid_iff,<- e1];simp
theorem rI {m:Nat} (hl:liveN M.ns i=true) (h:liveN M.ns m=true):liveN (kidM M i q).1.ns m=true:=by
 obtain ⟨d,hd,hdl⟩:=mY hl;unfold kidM;rw [hd];simp only;split
 ·exact h
 ·obtain ⟨j,j1,j2,j3,j4,j5,j6⟩:=pB (q:=q) hd hdl;show liveN (kidN M.ns i d q).1 m=true;by_cases e:m=i
  ·unfold liveN;rw [e,j5];exact hdl
  ·by_cases e2:m=j
   ·unfold liveN;rw [e2,j4]
   ·unfold liveN;rw [j6 m e e2];exact h
theorem aI6 (hl:liveN M.ns i=true) (he:(kidM M i q).2.2=0):liveN M.ns (kidM M i q).2.1=false:=by
 obtain ⟨d,hd,hdl⟩:=mY hl;unfold kidM at he ⊢;rw [hd] at he ⊢;simp only at he ⊢;by_cases e:kidE M.ns d q=0
 ·rw [if_neg (by simp [e])];obtain ⟨j,j1,_,j3,_⟩:=pB (q:=q) hd hdl;show liveN M.ns (kidN M.ns i d q).2=false;rw [j1];exact j3
 ·rw [if_pos e] at he;exact absurd he e
theorem yZ {m:Nat} (hM:InvM M) (hm:m≠i) (h:liveN M.ns m=true):liveN (finM M i).1.ns m=true:=by
 unfold finM;split
 ·exact h
 ·rename_i d hd;split
  ·rename_i he;show liveN (pH M.ns i d) m=true;rw [(hM.tree.fin hd he).2.2 m hm];exact h
  ·exact h
theorem bV.kid {box:Nat} (hK:bV K) (hI:InvM (kidM K.M box q).1) (hb:liveN K.M.ns box=true):bV { K with M:=(kidM K.M box q).1 }:=
 ⟨hI,hK.nd,hK.rng,hK.line,λp hp=>by
  show (findS (kidM K.M box q).1 p.sp).isSome=true;rw [cT,tU,<- cT];exact hK.sp p hp,λp hp=>rI hb (hK.box p hp),λs hs=>hK.old s (by rw [<-tU];exact hs),hK.nsp⟩
theorem bV.kidBack {box:Nat} (hK:bV K) (hb:liveN K.M.ns box=true) (c2:(kidM K.M box q).2.2=0) (c3:¬ (openM (kidM K.M box q).1 K.nsp (kidM K.M box q).2.1).2=0) (hI3:InvM (openM (kidM K.M box q).1 K.nsp (kidM K.M box q).2.1).1)
  (hI:InvM (finM (openM (kidM K.M box q).1 K.nsp (kidM K.M box q).2.1).1 (kidM K.M box q).2.1).1):bV { K with M:=(finM (openM (kidM K.M box q).1 K.nsp (kidM K.M box q).2.1).1 (kidM K.M box q).2.1).1 }:=by
 have hmem:∀ s,s ∈ (finM (openM (kidM K.M box q).1 K.nsp (kidM K.M box q).2.1).1 (kidM K.M box q).2.1).1.sps↔s ∈ K.M.sps:=λs=>by
  rw [aAd,aBQ,tU];exact ⟨λz=>z.resolve_left λw=>c3 w.1,.inr⟩
 refine ⟨hI,hK.nd,hK.rng,hK.line,λp hp=>?_,λp hp=>?_,λs hs=>hK.old s ((hmem s).1 hs),hK.nsp⟩
 ·obtain ⟨s,s1,s2⟩:=cT.1 (hK.sp p hp);exact cT.2 ⟨s,(hmem s).2 s1,s2⟩
 ·refine yZ hI3 (λz=>?_) (mV (rI hb (hK.box p hp)));have:=aI6 hb c2;rw [<-z,hK.box p hp] at this;cases this
theorem bV.line_len (hK:bV K):K.line.length<=10000:=by
 have h1:=hK.line.length_eq;rw [List.length_map] at h1
 have h2:=lJ (l:=(List.range 16).map λv:Nat=>(v:Int)) hK.nd λz hz=>by
  obtain ⟨p,hp,rfl⟩:=List.mem_map.1 hz;have:=hK.rng p hp;exact List.mem_map.2 ⟨p.pid.toNat,List.mem_range.2 (by omega),by omega⟩
 simp at h2;omega
theorem bV.add {box:Nat} {par:Int} {v:Nat} (hK:bV K) (hb:liveN K.M.ns box=true) (c2:(kidM K.M box q).2.2=0) (c3:(openM (kidM K.M box q).1 K.nsp (kidM K.M box q).2.1).2=0) (hI:InvM (openM (kidM K.M box q).1 K.nsp (kidM K.M box q).2.1).1)
  (_hfp:freeP K.ps=v) (hany:K.ps.any (λp=>p.pid==(v:Int))=false) (hv:v<16):bV { K with M:=(openM (kidM K.M box q).1 K.nsp (kidM K.M box q).2.1).1,ps:=K.ps++[⟨v,(kidM K.M box q).2.1,K.nsp,par,ts0⟩],line:=K.line++[(v:Int)],nsp:=K.nsp+1 }:=by
 have hmem:∀ s,s ∈ (openM (kidM K.M box q).1 K.nsp (kidM K.M box q).2.1).1.sps↔s=newS K.nsp (kidM K.M box q).2.1\/s ∈ K.M.sps:=λs=>by
  rw [aBQ,tU];simp [c3]
 refine ⟨hI,?_,λp hp=>?_,?_,λp hp=>?_,λp hp=>?_,λs hs=>?_,by have:=hK.nsp;show 0<=K.nsp+1;omega⟩
 ·show (List.map KP.pid (K.ps++[_])).Nodup;rw [List.map_append,List.nodup_append];refine ⟨hK.nd,by simp,λz hz w hw e=>?_⟩;obtain ⟨p,hp,rfl⟩:=List.mem_map.1 hz;simp at hw;exact List.any_eq_false.1 hany p hp (by simp [e,hw])
 ·rcases List.mem_append.1 hp with hp | hp
  ·exact hK.rng p hp
  ·simp at hp;subst hp;simp;omega
 ·show (K.line++[(v:Int)]).Perm (List.map KP.pid (K.ps++[_]));rw [List.map_append];exact hK.line.append_right _
 ·rw [cT];rcases List.mem_append.1 hp with hp | hp
  ·obtain ⟨s,s1,s2⟩:=cT.1 (hK.sp p hp);exact ⟨s,(hmem s).2 (.inr s1),s2⟩
  ·simp at hp;subst hp;exact ⟨_,(hmem _).2 (.inl rfl),rfl⟩
 ·rcases List.mem_append.1 hp with hp | hp
  ·exact mV (rI hb (hK.box p hp))
  ·simp at hp;subst hp;exact mV (aBa hb c2)
 ·show s.id<K.nsp+1;rcases (hmem s).1 hs with rfl | hs
  ·show K.nsp<K.nsp+1;omega
  ·have:=hK.old s hs;omega
theorem aGP {par:Int} {box:Nat} {Q:Int->Int->AH->Prop} (h:Own (KerS x K::R) A) (hK:bV K) (hb:liveN K.M.ns box=true) (hn:K.nsp<9007199254740992)
  (hk:∀ A',bV (cP K par box q).1->Own (KerS x (cP K par box q).1::R) A'->Q (cP K par box q).2.1 (cP K par box q).2.2 A'):qcj_A (some ⟨x.kb,0,none⟩) par box q Q A:=by
 obtain ⟨L,gm,hL,h⟩:=KerS.openH h;unfold qcj_A qcj_G;simp only [aH,add_at,Nat.zero_add]
 have h16:K.ps.any (λp=>p.pid==(16:Int))=false:=by
  rw [List.any_eq_false];intro p hp hq;have:=hK.rng p hp;have hq:p.pid=16:=by simpa using hq
  omega
 refine ⟨λz m A'=>∃ v:Nat,z=v/\v<=16/\m+v=16/\A'=A/\∀ u:Nat,u<v->K.ps.any (λp=>p.pid==(u:Int))=true,⟨16,0,rfl,by omega,rfl,rfl,λu hu=>by omega⟩,?_⟩;intro z m A1 ⟨v,e1,e2,e3,e4,e5⟩;subst e1 e4;refine dY (i:=2) h rfl rfl (kD (i:=4) h rfl ?_);cases hf:findP K v with
 | some p=>
  obtain ⟨y,_,_,_,hl,_⟩:=vZ hL hf;rw [hl];have hany:K.ps.any (λp=>p.pid==(v:Int))=true:=by rw [<-aAC];unfold findP at hf;rw [hf];rfl
  have hv16:v<16:=by
   rcases Nat.lt_or_ge v 16 with w | w
   ·exact w
   ·have:v=16:=by omega
    subst this;rw [show ((16:Nat):Int)=16 from rfl,h16] at hany;cases hany
  refine ⟨some ⟨y.2,0,none⟩,rfl,aN rfl ⟨m-1,by omega,v+1,by rw [bG]<;>omega,by omega,by omega,rfl,λu hu=>?_⟩⟩;rcases Nat.lt_or_ge u v with w | w
  ·exact e5 u w
  ·have:u=v:=by omega
   subst this;exact hany
 | none=>
  rw [aJf hL hf];have hany:K.ps.any (λp=>p.pid==(v:Int))=false:=by rw [<-aAC];unfold findP at hf;rw [hf];rfl
  have hfp:=aGy e5 hany e2;refine ⟨none,rfl,bsel_f rfl ?_⟩;unfold cP at hk;refine aG (λc=>?_) λc=>?_
  ·have c:16<=v:=by have:=of_decide_eq_true c;omega
   rw [if_pos (show 16<=freeP K.ps by omega)] at hk;exact hk A1 hK (KerS.closeH hL h)
  have c:¬ 16<=v:=by have:=of_decide_eq_false c;omega
  rw [if_neg (show ¬ 16<=freeP K.ps by omega),hfp] at hk;refine cO (i:=2) h rfl rfl ?_;simp only [aH,add_at,Nat.zero_add];refine tC h ?_;simp only [aH,add_at,Nat.zero_add];refine uK h ?_;refine aMa h hK.inv hb λA2 hI2 h2=>?_;have h2:Own (cV x { K with M:=(kidM K.M box q).1 } L gm R) A2:=h2;by_cases c2:(kidM K.M box q).2.2=0
  rotate_left
  ·rw [if_pos (show (kidM K.M box q).2.2≠0 from c2)] at hk;refine aN (by simpa using c2) (hk A2 ?_ (KerS.closeH hL h2));exact hK.kid hI2 hb
  rw [if_neg (show ¬ (kidM K.M box q).2.2≠0 from λz=>z c2)] at hk;refine bsel_f (by simpa using c2) ?_;refine cO (i:=2) h2 rfl rfl ?_;simp only [aH,add_at,Nat.zero_add];refine tC h2 (ld_I (i:=2) h2 rfl rfl ?_);have hl2:=aBa hb c2;refine aKY h2 hI2 hl2 λA3 hI3 h3=>?_;have h3:Own (cV x { K with M:=(openM (kidM K.M box q).1 K.nsp (kidM K.M box q).2.1).1 } L gm R) A3:=h3;by_cases c3:(openM (kidM K.M box q).1 K.nsp (kidM K.M box q).2.1).2=0
  rotate_left
  ·rw [if_pos (show (openM (kidM K.M box q).1 K.nsp (kidM K.M box q).2.1).2≠0 from c3)] at hk;refine aN (by simpa using c3) ?_;refine aJC h3 hI3 (mV hl2) λA4 hI4 h4=>hk A4 ?_ (KerS.closeH hL h4);exact hK.kidBack hb c2 c3 hI3 hI4
  rw [if_neg (show ¬ (openM (kidM K.M box q).1 K.nsp (kidM K.M box q).2.1).2≠0 from λz=>z c3)] at hk;refine bsel_f (by simpa using c3) ?_;refine dY (i:=2) h3 rfl rfl (ld_I (i:=2) h3 rfl rfl ?_);refine aX (cs:=iQ ((kidM K.M box q).2.1:Nat) K.nsp par ts0) h3 λpb A4 h4=>?_;have h4:=cV.back h4;refine ⟨dY (i:=2) h4 rfl rfl rfl,aGQ (i:=4) h4 rfl λA5 h5=>?_⟩;have h5:Own (MacE x.c (openM (kidM K.M box q).1 K.nsp (kidM K.M box q).2.1).1::CpuS x.cp x.c.m x.n::At x.kb (kbC x gm K.nsp)::QueS x.qb x.qn K.tk K.line::MapI x.pm .i64 (putM (pmE L) v (ptrV pb))::GrS gm K.gr::(L.map jQ++(At pb (iQ ((kidM K.M box q).2.1:Nat) K.nsp par ts0)::R))) A5:=h5
  have hpm:putM (pmE L) v (ptrV pb)=pmE (L++[(⟨v,(kidM K.M box q).2.1,K.nsp,par,ts0⟩,pb)]):=by
   rw [aAj (aJf hL hf)];unfold pmE;simp
  rw [hpm] at h5;have hw:IntKind.wrap .i64 (K.nsp+1)=K.nsp+1:=by have:=hK.nsp;exact bG (by omega) (by omega)
  refine ld_I (i:=2) h5 rfl rfl ?_;rw [hw];refine aJ (i:=2) h5 rfl rfl rfl λA6 h6=>?_;have h6:Own (MacE x.c (openM (kidM K.M box q).1 K.nsp (kidM K.M box q).2.1).1::CpuS x.cp x.c.m x.n::At x.kb (kbC x gm (K.nsp+1))::QueS x.qb x.qn K.tk K.line::MapI x.pm .i64 (pmE (L++[(⟨v,(kidM K.M box q).2.1,K.nsp,par,ts0⟩,pb)]))::GrS gm K.gr::(L.map jQ++(At pb (iQ ((kidM K.M box q).2.1:Nat) K.nsp par ts0)::R))) A6:=h6;refine cO (i:=2) h6 rfl rfl ?_;have hq6:Own (QueS x.qb x.qn K.tk K.line::[MacE x.c (openM (kidM K.M box q).1 K.nsp (kidM K.M box q).2.1).1,CpuS x.cp x.c.m x.n,At x.kb (kbC x gm (K.nsp+1))]++(MapI x.pm .i64 (pmE (L++[(⟨v,(kidM K.M box q).2.1,K.nsp,par,ts0⟩,pb)]))::GrS gm K.gr::(L.map jQ++(At pb (iQ ((kidM K.M box q).2.1:Nat) K.nsp par ts0)::R)))) A6:=h6.pick 3 rfl;have hll:K.line.length<=10000:=hK.line_len
  have hnc:K.line.contains (v:Int)=false:=by
   rw [Bool.eq_false_iff];intro hc;have:=hK.line.mem_iff.1 (List.contains_iff_mem.1 hc);obtain ⟨p,hp,e⟩:=List.mem_map.1 this;have h9:=List.any_eq_false.1 hany p hp;exact h9 (by simpa using e)
  refine aEZ hq6 hll (λz=>by omega) (λ_ _ z=>by rw [hnc] at z;cases z) λ_ _ _ A7 h7=>?_;refine hk A7 (hK.add hb c2 c3 hI3 hfp hany (by omega)) (KerS.closeH (L:=L++[(⟨v,(kidM K.M box q).2.1,K.nsp,par,ts0⟩,pb)]) (by simp [hL]) (gm:=gm) ?_);have h8:=h7.perm (List.perm_middle (l₁:=[MacE x.c (openM (kidM K.M box q).1 K.nsp (kidM K.M box q).2.1).1,CpuS x.cp x.c.m x.n,At x.kb (kbC x gm (K.nsp+1))])).symm;unfold cV;rw [List.map_append,List.append_assoc];exact h8
end Go.Dn
namespace Go.Dn
variable {A:AH} {R:List SP} {P:SP} {k q:Nat} {s:Sl} {L:List Int} {qn tk:Int}
def yieldZ:List Int->List Int
 | x::y::r=>y::(r++[x])
 | L=>L
theorem aEf {x:Int} {r:List Int} (hr:bI P s 1 (ivC (x::r))) (hcap:s.len<=s.cap) (hn:0<r.length) :
  bI P (Sl.mk (if s.cap=1 then s.a else Option.map (λx=>Addr.add x (1*1)) s.a) (s.len-1) (s.cap-1)) 1 (ivC r):=λB A hB u=>by
 obtain ⟨h1,h2⟩:=hr B A hB u;have h1:s.len=r.length+1:=by simpa [ivC] using h1
 refine ⟨by simp [ivC];omega,λi v hv=>?_⟩;obtain ⟨b,o,q1,q2⟩:=h2 (i+1) v (by simpa [ivC] using hv);refine ⟨b,o+1,?_,by rw [Nat.add_assoc,Nat.add_comm 1 i];exact q2⟩;show (if s.cap=1 then s.a else Option.map (λx=>Addr.add x (1*1)) s.a)=_;rw [if_neg (by omega),q1];simp [Addr.add]
theorem aLQ {sz:Nat} {cs:List Value} (h:Own (SlO s sz cs::R) A):s.len<=s.cap:=by
 obtain ⟨B,_,hB⟩:=h.sat;exact hB.1.2
theorem aAS {Q:AH->Prop} (h:Own (QueS q qn tk L::R) A) (hb:L.length<=10000) (hk:∀ A',Own (QueS q qn 0 (yieldZ L)::R) A'->Q A'):qez_A (some ⟨q,0,none⟩) Q A:=by
 obtain ⟨s,hs,h2⟩:=QueS.openH h;have hl:s.len=L.length:=dP (k:=1) h2 rfl aU;unfold qez_A qez_G;simp only [aH,add_at,Nat.zero_add];refine aJ (i:=0) h2 rfl rfl rfl λA3 h3=>?_;have h3:Own (At q [.int .i64 qn,.int .i64 0,.slice s.a s.len s.cap]::SlO s 1 (ivC L)::R) A3:=h3;refine ld_S (i:=0) h3 rfl rfl (aG (λg=>?_) λg=>?_)
 ·have g:(1:Int)<s.len:=of_decide_eq_true g
  obtain ⟨x,r,hL,hr0⟩:∃ x r,L=x::r/\0<r.length:=by
   cases L with
   | nil=>simp at hl;omega
   | cons x r=>exact ⟨x,r,rfl,by simp at hl;omega⟩
  subst hL;have hcap:=aLQ h3.tail;refine ld_S (i:=0) h3 rfl rfl (inB_in (by omega) (by show (1:Int)<((s.len+1:Nat):Int);omega) ?_);refine ld_S (i:=0) h3 rfl rfl ?_;obtain ⟨a,q1,q2⟩:=aD1 (k:=1) (v:=0) (x:=x) h3 rfl aU rfl;rw [q1];refine inB_in (by omega) (by show (0:Int)<((s.len:Nat):Int);omega) ?_
  have q3:∀ (A':AH) (R':List SP) (L':List SP) (i:Nat),Own L' A'->L'[i]? = some (SlO s 1 (ivC (x::r)))->∀ K:Int->Prop,K x->aI .i64 a A' K:=λA' _ L' i h' e K hK=>by
   obtain ⟨a2,w1,w2⟩:=aD1 (k:=i) (v:=0) (x:=x) h' e aU rfl;rw [q1] at w1;cases w1;have:=w2 K hK;simpa [Addr.add] using this
  refine q3 A3 R _ 1 h3 rfl _ ?_;have hrd:bI (SlO s 1 (ivC (x::r))) (Sl.mk (if s.cap=1 then s.a else Option.map (λx=>Addr.add x (1*1)) s.a) (s.len-1) (s.cap-1)) 1 (ivC r):=aEf aU hcap hr0;rw [q1] at hrd
  have hfin:∀ (s3:Sl) A5,s3.a≠none->Own (SlO s3 1 (ivC (r++[x]))::At q [.int .i64 qn,.int .i64 0,.slice s.a s.len s.cap]::SlO s 1 (ivC (x::r))::R) A5->aC ⟨q,2,none⟩ (.slice s3.a s3.len s3.cap) A5 λh20=>Q h20:=λs3 A5 hs3 h5=>by
   refine aJ (i:=1) h5 rfl rfl rfl λA6 h6=>hk A6 ?_;have h6:Own (SlO s3 1 (ivC (r++[x]))::At q [.int .i64 qn,.int .i64 0,.slice s3.a s3.len s3.cap]::SlO s 1 (ivC (x::r))::R) A6:=h6
   have hy:yieldZ (x::r)=r++[x]:=by
    cases r with
    | nil=>simp at hr0
    | cons y t=>rfl
   rw [hy];exact QueS.closeH (λz=>absurd z hs3) ((h6.swap).cons λC hC=>hC.cons λD hD=>hD.tail)
  have hrb:r.length<=100000:=by simp at hb;omega
  refine ⟨?_,?_⟩
  ·refine fW (k:=1) h3 rfl hrd hrb (λz=>?_) λs2 A4 hs2 h4=>⟨q3 A4 R _ 2 h4 rfl _ rfl,ld_S (i:=1) h4 rfl rfl (by rw [q1]),aDy h4 hs2 hrb λs3 A5 hs3 h5=>hfin s3 A5 hs3 h5⟩;have z:(if s.cap=1 then some a else Option.map (λx=>Addr.add x (1*1)) (some a))=none:=z;split at z<;>cases z
  ·refine aX (cs:=[.int .i64 x]) h3 λb A4 h4=>⟨ld_S (i:=1) h4 rfl rfl (by rw [q1]),?_⟩;refine fW (k:=2) h4 rfl hrd hrb (λz=>?_) λs2 A5 hs2 h5=>?_
   ·have z:(if s.cap=1 then some a else Option.map (λx=>Addr.add x (1*1)) (some a))=none:=z;split at z<;>cases z
   ·have hl2:s2.len=r.length:=dP (k:=0) h5 rfl aU;refine cN (i:=0) (c1:=ivC r) h5 rfl (fD (n:=1) (sz:=1) (cs:=[.int .i64 x]) (rest:=[]) rfl) (λg=>nomatch g) (λg=>by rw [hs2 g];rfl) rfl (λv hv=>by simp at hv;subst hv;rfl) ⟨by simp only [hl2];omega,by simp only [hl2];omega⟩ λs' A6 j1 j2 h6=>?_;have e:ivC (r++[x])=ivC r++[.int .i64 x]:=by simp [ivC]
    refine hfin s' A6 (λg=>by have:=j2 g;simp at this) ?_;rw [e];exact h6.cons λC hC=>hC.tail
 ·have g:¬ (1:Int)<s.len:=of_decide_eq_false g
  have hy:yieldZ L=L:=by
   cases L with
   | nil=>rfl
   | cons x r=>cases r with
    | nil=>rfl
    | cons y t=>simp at hl;omega
  rw [hy] at hk;exact hk A3 (QueS.closeH hs h3)
theorem aCT {Q:Sl->AP} (h:Own (QueS q qn tk L::R) A) (hb:L.length<=10000) (hk:∀ s' A',(s'.a=none->L=[])->Own (SlO s' 1 (ivC L)::QueS q qn tk L::R) A'->Q s' A'):qgh_A (some ⟨q,0,none⟩) Q A:=by
 obtain ⟨s,hs,h2⟩:=QueS.openH h;unfold qgh_A qgh_G;simp only [aH,add_at,Nat.zero_add];exact ld_S (i:=0) h2 rfl rfl (fW (k:=1) h2 rfl aU (by omega) hs λs' A3 hs' h3=>hk s' A3 hs' (h3.cons λC hC=>QueS.closeH hs hC))
end Go.Dn
namespace Go.Dn
variable {A:AH} {L:List SP} {i j m pb pm kb cp:Nat} {box sp par pid:Int} {t t':TS} {ps:List (Int × Value)} {v1 v2 v4:Value} {cl:CallR}
def aA1 (pb:Nat) (pid:Int) (Q:Int->Int->Int->Int->Int->Bool->AH->Prop):Int->Int->Int->Int->AH->Prop:=λn9 n10 n11 n12 h13=>
(∃ R14:Bool->AH->Prop,(∀ c58:Bool,∀ h59,R14 c58 h59->
(Q pid n9 n12 n10 n11 c58 h59))/\
(bsel (n12==(9:Int))
(aF (some ⟨pb,0,none⟩) λa15=>
(aI .u64 (Addr.add a15 3) h13 λn16=>
(aI .u64 (Addr.add (Addr.add a15 3) 1) h13 λn17=>
(aI .u64 (Addr.add (Addr.add a15 3) 2) h13 λn18=>
(aI .u64 (Addr.add (Addr.add a15 3) 3) h13 λn19=>
(aI .i64 (Addr.add (Addr.add a15 3) 4) h13 λn20=>
(aI .u64 (Addr.add (Addr.add a15 3) 5) h13 λn21=>
(aB (Addr.add (Addr.add a15 3) 6) h13 λb22=>
(aI .u64 (Addr.add (Addr.add a15 3) 7) h13 λn23=>
(aI .i64 (Addr.add (Addr.add a15 3) 8) h13 λn24=>
(aI .u64 (Addr.add (Addr.add a15 3) 9) h13 λn25=>
(aI .u64 (Addr.add (Addr.add a15 3) 10) h13 λn26=>
(aI .u64 (Addr.add (Addr.add a15 3) 11) h13 λn27=>
(aI .u64 (Addr.add (Addr.add a15 3) 12) h13 λn28=>
(qeg_A n16 n17 n18 n19 n20 n21 b22 n23 n24 n25 n26 n27 n28 n10 n11 (λn29 n30 n31 n32 n33 n34 b35 n36 n37 n38 n39 n40 n41 n42 h43=>
(aF (some ⟨pb,0,none⟩) λa44=>
(aC (Addr.add a44 3) (.int .u64 n29) h43 λh45=>
(aC (Addr.add (Addr.add a44 3) 1) (.int .u64 n30) h45 λh46=>
(aC (Addr.add (Addr.add a44 3) 2) (.int .u64 n31) h46 λh47=>
(aC (Addr.add (Addr.add a44 3) 3) (.int .u64 n32) h47 λh48=>
(aC (Addr.add (Addr.add a44 3) 4) (.int .i64 n33) h48 λh49=>
(aC (Addr.add (Addr.add a44 3) 5) (.int .u64 n34) h49 λh50=>
(aC (Addr.add (Addr.add a44 3) 6) (.bool b35) h50 λh51=>
(aC (Addr.add (Addr.add a44 3) 7) (.int .u64 n36) h51 λh52=>
(aC (Addr.add (Addr.add a44 3) 8) (.int .i64 n37) h52 λh53=>
(aC (Addr.add (Addr.add a44 3) 9) (.int .u64 n38) h53 λh54=>
(aC (Addr.add (Addr.add a44 3) 10) (.int .u64 n39) h54 λh55=>
(aC (Addr.add (Addr.add a44 3) 11) (.int .u64 n40) h55 λh56=>
(aC (Addr.add (Addr.add a44 3) 12) (.int .u64 n41) h56 λh57=>
(R14 (n42==(0:Int)) h57)))))))))))))))) h13)))))))))))))))
(R14 false h13)))
theorem aBo {Q:Int->Int->Int->Int->Int->Bool->AH->Prop} (h:Own L A) (ej:L[j]? = some (At kb [.pointer (some ⟨cp,0,none⟩),v1,v2,.map (some pm),v4])) (em:L[m]? = some (MapI pm .i64 ps)) (hps:ps.lookup pid=some (ptrV pb)) (ei:L[i]? = some (At pb (iQ box sp par t)))
  (hdo:qef_A (some ⟨cp,0,none⟩) sp cl.addr cl.size (cl.op==(5:Int)) cl.x (aA1 pb pid Q) A):qeh_A (some ⟨kb,0,none⟩) pid cl.op cl.a cl.b cl.pw cl.pu cl.px cl.addr cl.size cl.x cl.id cl.ra cl.rb cl.rd Q A:=by
 unfold qeh_A qeh_G;simp only [aH,add_at,Nat.zero_add];refine dY h ej rfl (kD h em ?_);rw [hps];refine ⟨some ⟨pb,0,none⟩,rfl,?_⟩;simp only [aH,add_at,Nat.zero_add];refine cO h ej rfl (ld_I h ei rfl ?_);unfold aA1 at hdo;simp only [aH,add_at,Nat.zero_add] at hdo;exact hdo
theorem aHo {x a f e:Int} {Q:Int->Int->Int->Int->Int->Bool->AH->Prop} (he:e≠9) (hk:Q pid x e a f false A):aA1 pb pid Q x a f e A:=
 ⟨λb A'=>b=false/\A'=A,λb A' ⟨e1,e2⟩=>by subst e1 e2;exact hk,bsel_f (by simp [he]) ⟨rfl,rfl⟩⟩
theorem aAy {x a f:Int} {Q:Int->Int->Int->Int->Int->Bool->AH->Prop} (h:Own L A) (ei:L[i]? = some (At pb (iQ box sp par t))) (hf:0<=f/\f<18446744073709551616)
  (hk:∀ A',Own (L.set i (At pb (iQ box sp par (raiseZ t a f)))) A'->Q pid x 9 a f (wI t==0) A'):aA1 pb pid Q x a f 9 A:=by
 unfold aA1;simp only [aH,add_at,Nat.zero_add];refine ⟨λb A'=>Q pid x 9 a f b A',λ_ _ g=>g,aN rfl (aGH h ei (aCq h hf λA1 h1=>?_))⟩;exact aLM (t':=raiseZ t a f) (K:=λA'=>Q pid x 9 a f (wI t==0) A') h1 ei hk
end Go.Dn
namespace Go.Dn
variable {A:AH} {R:List SP} {x:Kx} {K:Ke} {L:List (KP × Nat)} {gm:Option Nat} {p:KP} {y:KP × Nat} {pid:Int} {q:Int} {i j:Nat} {M:Mm} {id:Int} {r:List Int} {w0 w1 w2 w3 w4 w5:Int} {cl:CallR}
theorem cV.que {tk':Int} {line':List Int} (h:Own (QueS x.qb x.qn tk' line'::(cV x K L gm R).eraseIdx 3) A):Own (cV x { K with tk:=tk',line:=line' } L gm R) A:=by
 have:=Own.back (l:=cV x K L gm R) (P:=QueS x.qb x.qn K.tk K.line) (P':=QueS x.qb x.qn tk' line') 3 rfl h;exact this
theorem que_at (hl:K.line=pid::r):(cV x K L gm R)[3]? = some (QueS x.qb x.qn K.tk (pid::r)):=by
 show some (QueS x.qb x.qn K.tk K.line)=_;rw [hl]
theorem bV.que {tk':Int} {line':List Int} (hK:bV K) (hl:line'.Perm K.line):bV { K with tk:=tk',line:=line' }:=
 ⟨hK.inv,hK.nd,hK.rng,hl.trans hK.line,hK.sp,hK.box,hK.old,hK.nsp⟩
theorem aCY:∀ L:List Int,(yieldZ L).Perm L
 | []=>List.Perm.refl _
 | [_]=>List.Perm.refl _
 | x::y::r=>by
  show (y::(r++[x])).Perm _;exact (List.perm_append_comm (l₁:=y::r) (l₂:=[x]))
theorem aKn {Q:Int->AH->Prop} (h:Own (KerS x K::R) A) (hl:K.line=pid::r) (hk:Q pid A):qgc_A (some ⟨x.kb,0,none⟩) Q A:=by
 obtain ⟨L,gm,hL,h⟩:=KerS.openH h;unfold qgc_A qgc_G;simp only [aH,add_at,Nat.zero_add];refine cO (i:=2) h rfl rfl (bsel_f rfl (cO (i:=2) h rfl rfl (xK (h.pick 3 (que_at hl)) (λe=>by cases e) λx r' e=>?_)));cases e;exact hk
theorem aLE {Q:Sl->AH->Prop} (h:Own (KerS x K::R) A) (hK:bV K) (hk:∀ s' A',(s'.a=none->K.line=[])->Own (SlO s' 1 (ivC K.line)::KerS x K::R) A'->Q s' A'):qgi_A (some ⟨x.kb,0,none⟩) Q A:=by
 obtain ⟨L,gm,hL,h⟩:=KerS.openH h;unfold qgi_A qgi_G;simp only [aH,add_at,Nat.zero_add];refine cO (i:=2) h rfl rfl (bsel_f rfl (cO (i:=2) h rfl rfl (aCT (h.pick 3 rfl) hK.line_len λs' A1 hs' h1=>hk s' A1 hs' ?_)));exact h1.cons λC hC=>KerS.closeH hL (cV.que (tk':=K.tk) (line':=K.line) hC)
theorem aMA {nd:Nd} {Q:Int->Int->Int->Int->Int->Int->Bool->Int->Int->Int->Int->Int->Int->Int->Int->Int->Int->Int->Bool->AH->Prop} (h:Own (KerS x K::R) A) (hK:bV K) (hp:findP K pid=some p) (hd:K.M.ns[p.box]? = some nd)
  (hk:Q p.t.r0 p.t.r1 p.t.r2 p.t.r3 p.t.told p.t.entry p.t.inn p.t.fa p.t.fc p.t.s0 p.t.s1 p.t.s2 p.t.s3 p.par nd.quo nd.use nd.room p.sp true A):qgg_A (some ⟨x.kb,0,none⟩) pid Q A:=by
 obtain ⟨L,gm,hL,h⟩:=KerS.openH h;obtain ⟨y,j,rfl,hj,hlk,hpi⟩:=vZ hL hp;have hpj:=iP (x:=x) (K:=K) (gm:=gm) (R:=R) hj
 have hlv:nd.live=true:=by
  have:=hK.box y.1 (by rw [<-hL];exact List.mem_map_of_mem (List.mem_of_getElem? hj));unfold liveN at this;rw [hd] at this;exact this
 unfold qgg_A qgg_G;simp only [aH,add_at,Nat.zero_add];refine dY (i:=2) h rfl rfl (kD (i:=4) h rfl ?_);rw [hlk];refine ⟨some ⟨y.2,0,none⟩,rfl,bsel_f rfl ?_⟩;simp only [aH,add_at,Nat.zero_add];refine cO (i:=2) h rfl rfl ?_;simp only [aH,add_at,Nat.zero_add];refine tC h ?_;simp only [aH,add_at,Nat.zero_add];refine uK h (ld_I h hpj rfl (aJO h hd hlv ?_));refine aGH h hpj (ld_I h hpj rfl (cO (i:=2) h rfl rfl ?_));simp only [aH,add_at,Nat.zero_add];refine tC h ?_;simp only [aH,add_at,Nat.zero_add];refine uK h (ld_I h hpj rfl (ld_I h hpj rfl ?_));exact aGd h hK.inv hd hlv ⟨ld_I h hpj rfl rfl,ld_I h hpj rfl rfl,aGH h hpj rfl,hk⟩
theorem aHW {Q:Int->Int->Int->Int->Int->Int->Bool->Int->Int->Int->Int->Int->Int->Int->Int->Int->Int->Int->Bool->AH->Prop} (h:Own (KerS x K::R) A) (hp:findP K pid=none) (hk:Q 0 0 0 0 0 0 false 0 0 0 0 0 0 0 0 0 0 0 false A):qgg_A (some ⟨x.kb,0,none⟩) pid Q A:=by
 obtain ⟨L,gm,hL,h⟩:=KerS.openH h;unfold qgg_A qgg_G;simp only [aH,add_at,Nat.zero_add];refine dY (i:=2) h rfl rfl (kD (i:=4) h rfl ?_);rw [aJf hL hp];exact ⟨none,rfl,aN rfl hk⟩
theorem aGp {par:Int} {box:Nat}:0<=(cP K par box q).2.1/\(cP K par box q).2.1<=16:=by
 unfold cP;split
 ·simp
 ·split
  ·simp
  ·split
   ·simp
   ·simp only;omega
theorem aJV {Q:Int->Int->Int->Int->Int->Bool->AH->Prop} (h:Own (KerS x K::R) A) (hK:bV K) (hn:K.nsp<9007199254740992) (hb:∀ x ∈ [w0,w1,w2,w3,w4,w5],0<=x/\x<18446744073709551616) (hc:dU w0 w1 w2 w3 w4 w5=some cl) (hop:cl.op=12)
  (hl:K.line=pid::r) (hp:findP K pid=some p) (hk:∀ A',bV (cP K pid p.box cl.id).1->Own (KerS x (cP K pid p.box cl.id).1::R) A'->Q pid (cP K pid p.box cl.id).2.1 (cP K pid p.box cl.id).2.2 0 0 false A') :
  qgb_A (some ⟨x.kb,0,none⟩) w0 w1 w2 w3 w4 w5 Q A:=by
 obtain ⟨L,gm,hL,h⟩:=KerS.openH h;refine uB (j:=2) (i:=3) h rfl (que_at hl) hb hc (by omega) λA1 h1=>zX (by omega) λb hb=>?_;rw [hop] at hb;refine aN hb ?_;obtain ⟨y,j,rfl,hj,hlk,hpi⟩:=vZ hL hp;have hpj:=iP (x:=x) (K:=K) (gm:=gm) (R:=R) hj;unfold qfz_A qfz_G;refine ⟨λ_=>False,λ_ z=>z.elim,aN (by rw [hop];rfl) ?_⟩;simp only [aH,add_at,Nat.zero_add];refine dY (i:=2) h1 rfl rfl (kD (i:=4) h1 rfl ?_);rw [hlk];refine ⟨some ⟨y.2,0,none⟩,rfl,?_⟩;simp only [aH,add_at,Nat.zero_add];refine ld_I h1 hpj rfl ?_;refine aGP (KerS.closeH hL h1) hK (hK.box y.1 (by rw [<-hL];exact List.mem_map_of_mem (List.mem_of_getElem? hj))) hn λA2 hK2 h2=>?_;have:=aGp (K:=K) (par:=pid) (box:=y.1.box) (q:=cl.id);rw [cQ (by omega) (by omega)];exact hk A2 hK2 h2
def l3 (K:Ke):Ke:={ K with tk:=0,line:=yieldZ K.line }
theorem aGj {Q:Int->Int->Int->Int->Int->Bool->AH->Prop} (h:Own (KerS x K::R) A) (hK:bV K) (hb:∀ x ∈ [w0,w1,w2,w3,w4,w5],0<=x/\x<18446744073709551616) (hc:dU w0 w1 w2 w3 w4 w5=some cl) (hop:cl.op=14)
  (hl:K.line=pid::r) (hk:∀ A',bV (l3 K)->Own (KerS x (l3 K)::R) A'->Q pid 0 0 0 0 false A'):qgb_A (some ⟨x.kb,0,none⟩) w0 w1 w2 w3 w4 w5 Q A:=by
 obtain ⟨L,gm,hL,h⟩:=KerS.openH h;refine uB (j:=2) (i:=3) h rfl (que_at hl) hb hc (by omega) λA1 h1=>zX (by omega) λb hb=>?_;rw [hop] at hb;refine aN hb ?_;unfold qfz_A qfz_G;refine ⟨λA'=>Own (KerS x (l3 K)::R) A',λA2 h2=>hk A2 (hK.que (aCY _)) h2,bsel_f (by rw [hop];rfl) (aN (by rw [hop];rfl) ?_)⟩;simp only [aH,add_at,Nat.zero_add];refine cO (i:=2) h1 rfl rfl (aAS (h1.pick 3 rfl) hK.line_len λA2 h2=>?_);exact KerS.closeH hL (cV.que h2)
end Go.Dn
namespace Go.Dn
variable {A:AH} {l:List SP} {P:SP} {N tags qn:Int} {s s5 s7:Sl} {ch:List Int} {k:Nat}
def m0 (N:Int):Mm:=⟨[],[⟨-1,N-1,2,0,true⟩],0,λ_ _=>0⟩
def k1M (N:Int):Mm:=⟨[⟨0,1,[],[]⟩],[⟨-1,N-1,2,N-3,true⟩,⟨0,N-3,1,0,true⟩],0,λ_ _=>0⟩
def k1K (N:Int):Ke:=⟨k1M N,[⟨0,1,0,0,ts0⟩],[0],0,[],1⟩
theorem aHf (hN:4<=N/\N<=262144):InvM (m0 N):=by
 refine { srt:=List.Pairwise.nil,good:=λs hs=>(by cases hs),pgs:=λs hs=>(by cases hs),reg:=λs hs=>(by cases hs),own:=List.nodup_nil,src:=λs hs=>(by cases hs),key:=λk hk=>(by cases hk),zero:=λ_ _ _=>rfl,keys0:=Int.le_refl _,tree:=⟨λd hd=>?_,by simp [m0],⟨_,rfl,rfl,rfl⟩,λi d hd _=>?_,λi d hd _ hi=>?_⟩,live:=λs hs=>(by cases hs),use:=λi d hd _=>?_,kind:=λs hs=>(by cases hs),bor:=λs hs=>(by cases hs),lent:=λs hs=>(by cases hs) }
 ·simp [m0] at hd;subst hd;exact ⟨by simp,by simp,by simp;omega,by simp;omega⟩
 ·cases i with
  | zero=>simp [m0] at hd;subst hd;rfl
  | succ i=>simp [m0] at hd
 ·cases i with
  | zero=>exact absurd rfl hi
  | succ i=>simp [m0] at hd
 ·cases i with
  | zero=>simp [m0] at hd;subst hd;rfl
  | succ i=>simp [m0] at hd
theorem aJd {Q:Option Addr->Int->AH->Prop} (h1:Own (SlO s5 1 ((entB (0,N*4096,1)).map byV)::l) A) (hs5:s5.a≠none) (hN:4<=N/\N<=262144) (ht:1<=tags/\tags<=4095)
  (hk:∀ c A',c.N=N->Own (MacE c (m0 N)::l) A'->Q (some ⟨c.m,0,none⟩) 0 A'):qbs_A N 0 1 tags s5 Q A:=by
 unfold qbs_A qbs_G;refine aBE (k:=0) (kn:=(0,1)) h1 rfl bS h1.capS6 (λg=>absurd g hs5) (aFw _) λer m s1 A2 ho _ hs1 h2=>?_;obtain ⟨rfl,rfl⟩:=aEn ⟨by omega,by omega⟩ ho;refine bsel_f rfl ?_;refine aEx h2 ht.1 ht.2 λtg A3 h3=>bsel_f rfl ?_;refine aX (cs:=mJ (List.replicate 16 ln0)) h3 λtl A4 h4=>?_;refine tD (k:=.i64) h4 λsp A5 h5=>?_;refine aX (cs:=[.pointer none,.pointer none,.pointer none,.pointer (some ⟨tl,0,none⟩),.pointer (some ⟨tg,0,none⟩),.int .i64 0,.map (some sp)]) h5 λmb A6 h6=>?_;refine aFt h6 ⟨by omega,by omega⟩ λr A7 h7=>?_;refine aJ (i:=1) h7 rfl rfl rfl λA8 h8=>?_;have hok:okR 0 [(1,N)]=true:=by simp [okR];omega
 refine aER (k:=5) (rs:=[(1,N)]) h8 rfl bS (λg=>by simp at g) (λ_ g=>by rw [hok] at g;cases g) λ_ _ b A9 h9=>?_;simp only [aH,add_at,Nat.zero_add];refine aJ (i:=2) h9 rfl rfl rfl λA10 h10=>?_;refine bsel_f rfl (cO (i:=2) h10 rfl rfl ?_);refine yU h10 ?_;refine aEP h10 (λg=>by simp [cA] at g;omega) λ_ t A11 h11=>?_;refine aJ (i:=3) h11 rfl rfl rfl λA12 h12=>?_;unfold qau_A;simp only [aH,add_at,Nat.zero_add];refine cO (i:=3) h12 rfl rfl (cO (i:=3) h12 rfl rfl (cO (i:=3) h12 rfl rfl ?_));have hsz:cA [(1,N)]=N-1:=by simp [cA]
 have h13:Own (zW N r b t (tr0 (N-1)) (inR [(1,N)]) (λ_=>False) (λ_ _=>0) 0 (At mb [.pointer (some ⟨r,0,none⟩),.pointer (some ⟨b,0,none⟩),.pointer (some ⟨t,0,none⟩),.pointer (some ⟨tl,0,none⟩),.pointer (some ⟨tg,0,none⟩),.int .i64 0,.map (some sp)]::MapI sp .i64 []::At tl (mJ (List.replicate 16 ln0))::PcS tg (jS tags)::SlO s1 2 (dB [(1,N)])::SlO s5 1 ((entB (0,N*4096,1)).map byV)::l)) A12:=by
  have h12:Own (TreeS t [⟨-1,cA [(1,N)],0,0,true⟩]::Bud b (inR [(1,N)]) (λ_=>False) (cA [(1,N)])::RamW r N [] (λ_ _=>0)::At mb [.pointer (some ⟨r,0,none⟩),.pointer (some ⟨b,0,none⟩),.pointer (some ⟨t,0,none⟩),.pointer (some ⟨tl,0,none⟩),.pointer (some ⟨tg,0,none⟩),.int .i64 0,.map (some sp)]::MapI sp .i64 []::At tl (mJ (List.replicate 16 ln0))::PcS tg (jS tags)::SlO s1 2 (dB [(1,N)])::SlO s5 1 ((entB (0,N*4096,1)).map byV)::l) A12:=h12;rw [hsz] at h12;unfold zW;rw [show (tr0 (N-1)).fr-0=N-1 by show N-1-0=N-1;omega];exact (h12.pick 2 rfl).cons λC hC=>Own.swap hC
 have hp0:aJW N (inR [(1,N)]) (λ_=>False):=⟨λx hx=>aBn.2 (by simp [inR] at hx;omega),λx hx=>hx.elim⟩;refine aHT h13 hp0 hN (by omega) λtop mid A13 W' hft hfm hK hp1 h14=>?_;refine aJ (i:=3) h14 rfl rfl rfl λA14 h15=>?_;obtain ⟨c,hc⟩:∃ c:Mc,c=⟨N,r,b,t,mb,tl,tg,sp,top,mid⟩:=⟨_,rfl⟩;refine bsel_f rfl ?_;have hm:c.m=mb:=by rw [hc]
 rw [<-hm];refine hk c A14 (by rw [hc]) (MacE.closeE (φ:=λ_=>0) (MacS.closeH (g:=⟨λx=>inR [(1,N)] x/\x ∉ [top,mid],λx=>False\/x ∈ [top,mid],W',N-1-2,[⟨-1,N-1,2,0,true⟩],List.replicate 16 ln0,jS tags,[]⟩) (L:=[]) ?_ ?_))
 ·have hi:=aHf hN;have hin:∀ x,inR [(1,N)] x↔1<=x/\x<N:=λx=>by simp [inR]
  refine ⟨hi.toInvL,rfl,rfl,?_,List.Perm.nil,by rw [hc];exact hK.nodup,λf=>?_,λf=>?_,λa ha=>(by cases ha),λk hk=>(by cases hk),λq hq=>?_,pcNew_ok ht,LnOK.new,by rw [hc];exact hN⟩
  ·show N-1-2=sumZ rmN [⟨-1,N-1,2,0,true⟩];simp [sumZ,rmN,Nd.room]
  ·rw [hc];show (False\/f ∈ [top,mid])↔f ∈ top::mid::([]:List Sc).flatMap (frC λ_=>0);simp
  ·rw [hc];show (inR [(1,N)] f/\f ∉ [top,mid])\/(False\/f ∈ [top,mid])↔1<=f/\f<N;rw [<-hin];have h1:inR [(1,N)] top:=hft;have h2:inR [(1,N)] mid:=hfm;constructor
   ·rintro (z | z | z)
    ·exact z.1
    ·exact z.elim
    ·simp at z;rcases z with rfl | rfl
     ·exact h1
     ·exact h2
   ·intro z;by_cases e:f ∈ [top,mid]
    ·exact .inr (.inr e)
    ·exact .inl ⟨z,e⟩
  ·have:=hK.top q hq;rw [hc];show W' top q=_;rw [this];cases q with
   | zero=>rfl
   | succ q=>simp
 ·rw [hc];have h16:Own (RamW r N [] W'::Bud b (λx=>inR [(1,N)] x/\x ∉ [top,mid]) (λx=>False\/x ∈ [top,mid]) ((tr0 (N-1)).fr-2)::TreeS t ((tr0 (N-1)).ns 2)::At mb (mcC ⟨N,r,b,t,mb,tl,tg,sp,top,mid⟩)::MapI sp .i64 []::At tl (mJ (List.replicate 16 ln0))::PcS tg (jS tags)::SlO s1 2 (dB [(1,N)])::SlO s5 1 ((entB (0,N*4096,1)).map byV)::l) A14:=h15;exact h16.cons λ_ h=>h.cons λ_ h=>h.cons λ_ h=>h.cons λ_ h=>h.cons λ_ h=>(Own.imp (P':=TlbS tl (List.replicate 16 ln0)) (λB hB=>⟨by simp,hB⟩) h).cons λ_ h=>h.cons λ_ h=>h.tail.tail
theorem aJT (hN:6<=N):cP ⟨m0 N,[],[],0,[],0⟩ 0 0 (N-3)=(k1K N,0,0):=by
 have e1:kidM (m0 N) 0 (N-3)=(⟨[],[⟨-1,N-1,2,N-3,true⟩,⟨0,N-3,0,0,true⟩],0,λ_ _=>0⟩,1,0):=by
  have hE:kidE (m0 N).ns ⟨-1,N-1,2,0,true⟩ (N-3)=0:=by
   unfold kidE Nd.room;rw [if_neg (by omega),if_neg (by simp;omega),if_neg (by simp [m0])]
  show (if kidE (m0 N).ns ⟨-1,N-1,2,0,true⟩ (N-3)≠0 then _ else _)=_;rw [if_neg (by rw [hE];simp)];unfold nsM kidN;show _=_;simp [m0,firstDead]
 have e2:openM ⟨[],[⟨-1,N-1,2,N-3,true⟩,⟨0,N-3,0,0,true⟩],0,λ_ _=>0⟩ 0 1=(k1M N,0):=by
  unfold openM;have hr:iR [⟨-1,N-1,2,N-3,true⟩,⟨0,N-3,0,0,true⟩] 1=N-3:=by simp [iR,Nd.room]
  rw [if_neg (by decide),if_neg (by simp [findS]),if_neg (by simp only;rw [hr];omega)];simp [k1M,insS,newS,addU,useN]
 unfold cP;have e0:freeP []=0:=rfl;simp only;rw [e0,e1];simp only;rw [e2];simp [k1K]
theorem aLP (hN:4<=N/\N<=262144):bV ⟨m0 N,[],[],0,[],0⟩:=
 ⟨aHf hN,List.nodup_nil,λp hp=>(by cases hp),List.Perm.nil,λp hp=>(by cases hp),λp hp=>(by cases hp),λs hs=>(by cases hs),Int.le_refl _⟩
theorem aCB {sz m n:Nat} {cs:List Value} (hr:bI P s sz cs) (hm:m<=s.len) (a:Option Addr) (ha:a=s.a):bI P ⟨a,m,n⟩ sz (cs.take (m*sz)):=λB A hB u=>by
 obtain ⟨h1,h2⟩:=hr B A hB u;have hle:m*sz<=s.len*sz:=Nat.mul_le_mul_right _ hm;refine ⟨by simp only [List.length_take];omega,λj v hv=>?_⟩;rw [List.getElem?_take] at hv;split at hv
 ·subst ha;exact h2 j v hv
 ·cases hv
theorem aGe {Q:Int->Int->Int->Int->Sl->Int->Sl->AH->Prop} (h:Own l A) (e:l[k]? = some P) (hr:bI P s 1 (ivC ch)) (hs0:s.a=none->ch=[]) (hN:4<=N/\N<=262144) (hcap:s.len<=s.cap)
  (hk:∀ s5 s7 A',s5.a≠none->(s7.a=none->ch.take 200=[])->Own (SlO s7 1 (ivC (ch.take 200))::SlO s5 1 ((entB (0,N*4096,1)).map byV)::l) A'->Q N 0 1 tags s5 qn s7 A'):qac_A N tags qn s Q A:=by
 have hl:s.len=ch.length:=dP h e hr;unfold qac_A qac_G qab_A qab_G;refine ⟨λs2 A'=>A'=A/\s2.a=s.a/\s2.len=(ch.take 200).length/\bI P s2 1 (ivC (ch.take 200)),λs2 A1 ⟨e1,ea,el,er⟩=>?_,aG (λg=>?_) λg=>?_⟩
 ·subst e1;have w1:IntKind.wrap .u64 N=N:=cQ (by omega) (by omega);have w2:IntKind.wrap .u64 (N*4096)=N*4096:=cQ (by omega) (by omega);rw [w1,w2];refine aCk (a:=(0,N*4096,1)) h λs5 A2 hs5 h2=>?_;refine aX (cs:=[]) h2 λb A3 h3=>?_;have h4:Own (SlO ⟨some ⟨b,0,none⟩,0,0⟩ 1 []::SlO s5 1 ((entB (0,N*4096,1)).map byV)::l) A3:=h3.imp λB _=>(⟨⟨by simp,Nat.le_refl _⟩,.inl rfl⟩:SlO ⟨some ⟨b,0,none⟩,0,0⟩ 1 [] B);have h200:(ch.take 200).length<=200:=by simp;omega
  refine cN (i:=k+1) h4 (by simpa using e) er (λz=>?_) (λz=>by cases z) rfl (λv hv=>ivC_one hv) ⟨by simp only [el];omega,by simp only [el];omega⟩ λs7 A4 j1 j2 h5=>?_
  ·rw [ea] at z;rw [hs0 z];rfl
  ·exact hk s5 s7 A4 hs5 (λz=>by have:=j2 z;simpa [ivC] using this) (by simpa using h5)
 ·have g:200<(s.len:Int):=of_decide_eq_true g;refine inB_in (by omega) (by omega) ⟨rfl,?_,?_,?_⟩
  ·show (if s.cap=0 then s.a else Option.map (λx=>Addr.add x (0*1)) s.a)=s.a;split
   ·rfl
   ·cases s.a with
    | none=>rfl
    | some a=>simp [Addr.add]
  ·show 200=_;simp;omega
  ·have hrd:=aCB (m:=200) (n:=s.cap) hr (by omega) (if s.cap=0 then s.a else Option.map (λx=>Addr.add x (0*1)) s.a) (by
    split
    ·rfl
    ·cases s.a with
     | none=>rfl
     | some a=>simp [Addr.add])
   have e3:ivC (ch.take 200)=(ivC ch).take (200*1):=by unfold ivC;rw [List.map_take]
   rw [e3];exact hrd
 ·have g:¬ 200<(s.len:Int):=of_decide_eq_false g;have e3:ch.take 200=ch:=List.take_of_length_le (by omega);rw [e3];exact ⟨rfl,rfl,hl,hr⟩
end Go.Dn
namespace Go.Dn
variable {A:AH} {l:List SP} {N tags qn:Int} {s s5 s7:Sl} {ch:List Int} {k:Nat}
theorem aHa {Q:Option Addr->Int->AH->Prop} (h:Own (SlO s7 1 (ivC ch)::SlO s5 1 ((entB (0,N*4096,1)).map byV)::l) A) (hs5:s5.a≠none) (hs7:s7.a=none->ch=[]) (hch:ch.length<=200) (hN:6<=N/\N<=262144) (ht:1<=tags/\tags<=4095) (hq:1<=qn/\qn<=1000)
  (hk:∀ x A',x.qn=qn->x.c.N=N->bV (k1K N)->Own (KerS x (k1K N)::l) A'->Q (some ⟨x.kb,0,none⟩) 0 A'):qck_A N 0 1 tags s5 qn s7 Q A:=by
 unfold qck_A qck_G;refine aJd h.swap hs5 ⟨by omega,hN.2⟩ ht λc A1 hc h1=>bsel_f rfl ?_;refine aEg h1 (λg=>by omega) λ_ _ qb A2 h2=>bsel_f rfl ?_;unfold qbu_A
 have hl7:s7.len=ch.length:=by
  have:=eV (i:=2) h2 rfl (dR (s:=s7));rw [uC] at this;omega
 refine cN (i:=2) (h2.nil6 (sz:=1)) rfl dR (λz=>by rw [hs7 z];rfl) (λ_=>rfl) rfl (λv hv=>ivC_one hv) ⟨by simp [Sl.nil,hl7];omega,by simp [Sl.nil,hl7];omega⟩ λs8 A3 _ _ h3=>?_;refine aX (cs:=[.pointer (some ⟨c.m,0,none⟩),.slice s8.a s8.len s8.cap,.int .i64 ((0:Nat):Int)]) h3 λcp A4 h4=>?_;have h5:=CpuS.closeH (m:=c.m) (n:=ch.length) (ch:=ch) ⟨Nat.zero_le _,rfl,by omega⟩ h4;refine tD (k:=.i64) h5 λpm A5 h6=>aX (cs:=[.pointer (some ⟨cp,0,none⟩),.pointer (some ⟨qb,0,none⟩),.map none,.map (some pm),.int .i64 0]) h6 λkb A6 h7=>?_;obtain ⟨x,hx⟩:∃ x:Kx,x=⟨kb,cp,qb,pm,ch.length,c,qn⟩:=⟨_,rfl⟩
 have h8:Own (cV x ⟨m0 N,[],[],0,[],0⟩ [] none l) A6:=by
  rw [hx];have h7:Own (At kb [.pointer (some ⟨cp,0,none⟩),.pointer (some ⟨qb,0,none⟩),.map none,.map (some pm),.int .i64 0]::MapI pm .i64 []::CpuS cp c.m ch.length::QueS qb qn 0 []::MacE c (m0 N)::SlO s7 1 (ivC ch)::l) A6:=h7;have h8:=(h7.pick 4 rfl).cons λC hC=>(Own.pick 2 rfl hC).cons λD hD=>hD.cons λE hE=>(Own.pick 1 rfl hE).cons λF hF=>hF.cons λG hG=>hG.tail;have h9:Own (MacE c (m0 N)::CpuS cp c.m ch.length::At kb [.pointer (some ⟨cp,0,none⟩),.pointer (some ⟨qb,0,none⟩),.map none,.map (some pm),.int .i64 0]::QueS qb qn 0 []::MapI pm .i64 []::l) A6:=h8;refine h9.cons λC hC=>hC.cons λD hD=>hD.cons λE hE=>hE.cons λF hF=>hF.cons λG hG=>?_;exact ⟨λ_=>none,G,λ_=>.inl rfl,(λ_ _ e=>nomatch e),lA.refl G,.inl ⟨rfl,rfl⟩,hG⟩
 have hm:(some (Addr.mk c.m 0 none):Option Addr)=some ⟨x.c.m,0,none⟩:=by rw [hx]
 have hkb:(some (Addr.mk kb 0 none):Option Addr)=some ⟨x.kb,0,none⟩:=by rw [hx]
 rw [hm];simp only [aH,add_at,Nat.zero_add];refine uK h8 ?_;refine aGd (i:=0) h8 (aHf ⟨by omega,hN.2⟩) rfl rfl ?_;have er:(⟨-1,N-1,2,0,true⟩:Nd).room=N-3:=by unfold Nd.room;simp only;omega
 rw [er,hkb];refine aGP (par:=0) (box:=0) (KerS.closeH (K:=⟨m0 N,[],[],0,[],0⟩) rfl h8) (aLP ⟨by omega,hN.2⟩) rfl (by show (0:Int)<_;omega) λA7 hK h9=>?_;rw [aJT hN.1] at hK h9 ⊢;exact bsel_f rfl (hk x A7 (by rw [hx]) (by rw [hx];exact hc) hK h9)
end Go.Dn
