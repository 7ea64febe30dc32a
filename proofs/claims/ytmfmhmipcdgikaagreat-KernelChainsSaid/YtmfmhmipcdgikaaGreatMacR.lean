/- What the proof stands on. -/
import Derived.Test.YtmfmhmipcdgikaaGreatCut
import Derived.Test.YtmfmhmipcdgikaaGreatCpu
namespace Go.Dn
variable {A:AH} {l R:List SP} {c:Mc} {g:Sg} {L pre post:List Sc} {M:Mm} {φ:Int->Int} {a a':Sc} {s s':Sm} {r':List Reg} {sl:Sl}
theorem SgOK.pay (h:SgOK c g (pre++a::post) M φ) (hi:s'.id=a.1.id):payM M a.1 s'=⟨pre.map (·.1)++s'::post.map (·.1),addU M.ns a.1.box (costS s'-costS a.1),M.keys,M.wd⟩:=by
 unfold payM;have hn:=h.nodupI;rw [h.mem] at hn ⊢;rw [aAP hn hi]
theorem jM (h:∀ q ∈ nums s,lookR r' q=lookR s.regs q):ownP { s with regs:=r' } = ownP s/\borP { s with regs:=r' } = borP s:=by
 have e:∀ x ∈ s.pgs,kdR r' x.num=kdR s.regs x.num:=λx hx=>by
  unfold kdR;rw [h x.num (List.mem_map_of_mem hx)]
 unfold ownP borP;exact ⟨List.filter_congr λx hx=>by simp only;rw [e x hx],List.filter_congr λx hx=>by simp only;rw [e x hx]⟩
theorem aFL (hs:(nums s).Pairwise (· < ·)) (h:∀ q ∈ nums s,lookR r' q=lookR s.regs q):lfS φ { s with regs:=r' } = lfS φ s:=by
 funext q
 have e3:lfS φ { s with regs:=r' } q=match pgAt s q,lookR r' q with
  | some g,some a=>some ⟨φ g.key,a.1,a.2.1,a.2.2.1⟩
  | _,_=>none:=rfl
 rw [e3];unfold lfS;cases e:pgAt s q with
 | none=>cases lookR r' q<;>cases lookR s.regs q<;>rfl
 | some x=>
  obtain ⟨h1,h2⟩:=eT e;rw [h q (by rw [<-h2];exact List.mem_map_of_mem h1)];cases lookR s.regs q<;>rfl
theorem cost_regs (h:∀ q ∈ nums s,lookR r' q=lookR s.regs q):costS { s with regs:=r' } = costS s:=by
 unfold costS;rw [(jM h).1];rfl
theorem InvL.regs (h:InvL M) {pre post:List Sm} (hs:M.sps=pre++s::post) (hr:∀ q ∈ nums s,lookR r' q=lookR s.regs q) (hg:goodB r'=true):InvL ⟨pre++{ s with regs:=r' }::post,M.ns,M.keys,M.wd⟩:=by
 have hsm:s ∈ M.sps:=by rw [hs];exact mid_iff.2 (.inl rfl)
 have ho:ownK (pre++{ s with regs:=r' }::post)=ownK M.sps:=by
  rw [hs,dV,dV,fO,fO,(jM hr).1]
 have hc:=cost_regs hr
 have hroom:∀ d,M.ns[s.box]? = some d->costS { s with regs:=r' } - costS s<=d.room:=λd hd=>by
  have hl:=h.live s hsm;unfold liveN at hl;rw [hd] at hl;have:=(h.tree.room hd hl).1;omega
 have:=h.pay (s':={ s with regs:=r' }) (k':=M.keys) (wd':=M.wd) hs rfl rfl hg (h.pgs s hsm) (λx hx=>by show lookR r' x.num≠none;rw [hr _ (List.mem_map_of_mem hx)];exact h.reg s hsm x hx) (by rw [ho];exact h.own) (λx hx z hz=>by
  rw [ho];rcases mid_iff.1 hx with rfl | hx
  ·exact h.src s hsm z hz
  ·exact h.src x (by rw [hs];exact mid_iff.2 (.inr hx)) z hz) (by rw [ho];exact h.key) h.zero h.keys0 hroom
 rw [hc,Int.sub_self,addU_zero] at this;exact this
theorem SgOK.regsU (h:SgOK c g (pre++a::post) M φ) (hr:∀ q ∈ nums a.1,lookR r' q=lookR a.1.regs q) (hg:goodB r'=true) (hs:sl.a=none->r'=[]) :
  SgOK c g (pre++({ a.1 with regs:=r' },{ a.2 with s:=sl })::post) (payM M a.1 { a.1 with regs:=r' }) φ:=by
 have ham:a ∈ pre++a::post:=cmid_iff.2 (.inl rfl);have hone:=h.one a ham;have hinv:=h.inv.regs h.mem hr hg;have hlf:=aFL (φ:=φ) (h.inv.pgs _ (h.in_ ham)) hr;rw [h.pay (s':={ a.1 with regs:=r' }) rfl,cost_regs hr,Int.sub_self,addU_zero]
 have hl:∀ id,lfL φ (pre.map (·.1)++{ a.1 with regs:=r' }::post.map (·.1)) id=lfL φ M.sps id:=λid=>by
  have e1:pre.map (·.1)++{ a.1 with regs:=r' }::post.map (·.1)=(pre++({ a.1 with regs:=r' },a.2)::post).map (·.1):=by simp
  have e2:M.sps=(pre++a::post).map (·.1):=by rw [h.mem];simp
  have hn:=h.nodupI;rw [e2,List.map_map] at hn;rw [e1,e2,t9 (a:=a) (a':=({ a.1 with regs:=r' },a.2)) (φ:=φ) hn rfl λ_ _ _ _=>rfl];rw [t9 (a:=a) (a':=a) (φ:=φ) hn rfl λ_ _ _ _=>rfl];by_cases e:id=a.1.id
  ·rw [if_pos e,if_pos e];exact hlf
  ·rw [if_neg e,if_neg e]
 refine h.less (gn:=[]) rfl rfl (by simp) hinv rfl h.ns h.n h.pc ?_ (λx=>by simp) (λx=>by simp) ⟨?_,hone.rt,hone.lnd,hone.lent,hs⟩ (λ_ _ _=>rfl) (λk hk i=>?_) ?_
 ·rw [List.append_nil];show (a.2.tl++(ownP a.1).map λg=>φ g.key).Perm (a.2.tl++(ownP { a.1 with regs:=r' }).map λg=>φ g.key);rw [(jM hr).1]
 ·show Rest g.G g.W a.2.root a.2.tab (lfS φ { a.1 with regs:=r' }) a.2.tl;rw [hlf];exact hone.rest
 ·refine h.wd k ?_ i;have hk:k ∈ ownK (pre.map (·.1)++{ a.1 with regs:=r' }::post.map (·.1)):=hk;rw [h.mem];rw [dV,fO,(jM hr).1] at hk;rw [dV,fO];exact hk
 ·have:=h.ln;rwa [show lfL φ M.sps=lfL φ (pre.map (·.1)++{ a.1 with regs:=r' }::post.map (·.1)) from funext λid=>(hl id).symm] at this
theorem aMY {K:AP} (h:Own (macG c g (ownC a::SlO sl 6 (regC r')::l)) A) (hk:∀ A',Own (macG c g (ownC ({ a.1 with regs:=r' },{ a.2 with s:=sl })::l)) A'->K A'):aC ⟨a.2.p,2,none⟩ (.slice sl.a sl.len sl.cap) A K:=by
 obtain ⟨lm,h⟩:=macG.openOne h;refine aJ (i:=7) h rfl rfl rfl λA2 h2=>hk A2 (macG.closeOne (a:=({ a.1 with regs:=r' },{ a.2 with s:=sl })) (lm:=lm) ?_);have h2:Own (macG c g (At a.2.p [.int .i64 a.1.box,.int .i64 a.2.root,.slice sl.a sl.len sl.cap,.map (some lm)]::SlO a.2.s 6 (regC a.1.regs)::MapI lm .i64 (ivs a.2.lent)::SlO sl 6 (regC r')::l)) A2:=h2;exact macG.mapR (λC hC=>hC.cons λD hD=>(hD.tail).swap) h2
theorem aJD {id:Int} {K:Option Value->Prop} (h:Own (macG c g l) A) (hS:SgOK c g L M φ) (hf:findS M id=none) (hk:K none):aM ⟨c.m,6,none⟩ A λmp=>qP A mp .i64 id K:=by
 refine dY (i:=3) h rfl rfl (kD (i:=4) h rfl ?_);rw [hS.hno hf];exact hk
theorem aGo {K:Option Value->Prop} (h:Own (macG c g l) A) (hS:SgOK c g (pre++a::post) M φ) (hk:K (some (ptrV a.2.p))):aM ⟨c.m,6,none⟩ A λmp=>qP A mp .i64 a.1.id K:=by
 refine dY (i:=3) h rfl rfl (kD (i:=4) h rfl ?_)
 have:g.sps.lookup a.1.id=some (ptrV a.2.p):=by
  rw [hS.look]
  have:(pre++a::post).find? (λx=>x.1.id==a.1.id)=some a:=by
   rw [List.find?_append];have hn:=hS.nodupI;rw [hS.mem,List.map_append,List.map_cons,List.nodup_append] at hn
   have e:pre.find? (λx=>x.1.id==a.1.id)=none:=by
    rw [List.find?_eq_none];intro x hx hq;exact hn.2.2 x.1.id (List.mem_map.2 ⟨x.1,List.mem_map_of_mem hx,rfl⟩) a.1.id (by simp) (by simpa using hq)
   rw [e];simp
  rw [this];rfl
 rw [this];exact hk
def mapM (M:Mm) (id:Int) (y:Reg):Mm × Int:=match findS M id with
 | none=>(M,5)
 | some s=>if iB s.regs y≠0 then (M,iB s.regs y) else (payM M s { s with regs:=addL s.regs y },0)
theorem aGq {L:List Reg} {y:Reg} (hg:goodB L=true) (he:iB L y=0) {q:Int} (hq:y.a<=q/\q<y.b):lookR L q=none:=by
 obtain ⟨g1,g2,g3⟩:=pL.1 hg;unfold iB at he;split at he
 ·omega
 rw [if_neg (by simp [hg])] at he;cases hv:atS y L 0 0 with
 | none=>rw [hv] at he;cases he
 | some v=>
  obtain ⟨c,h1,h2,h3,h4⟩:=tV g2 hv;cases e:lookR L q with
  | none=>rfl
  | some z=>
   obtain ⟨x,hx,hx1,hx2⟩:=aCo.2 (show lookR L q≠none by rw [e];simp);rw [<-List.take_append_drop c L] at hx;rcases List.mem_append.1 hx with hx | hx
   ·have:=h3 x hx;omega
   ·have:=(h4 x hx).1;omega
theorem aDj {L:List Reg} {y:Reg} (hg:goodB L=true) (he:iB L y=0) {q:Int} (hq:lookR L q≠none):lookR (addL L y) q=lookR L q:=by
 have hr:rightB y.a y.b=true:=by
  unfold iB at he;split at he
  ·omega
  ·rename_i c;simpa using c
 rw [(rY hg hr he).2.2 q,if_neg λz=>hq (aGq hg he z)]
theorem InvM.map (h:InvM M) {pre post:List Sm} (hs:M.sps=pre++s::post) {y:Reg} (hy:y.k=0) (he:iB s.regs y=0):InvM ⟨pre++{ s with regs:=addL s.regs y }::post,M.ns,M.keys,M.wd⟩:=by
 have hsm:s ∈ M.sps:=by rw [hs];exact mid_iff.2 (.inl rfl)
 have hin:∀ x,x ∈ pre++post->x ∈ M.sps:=λx hx=>by rw [hs];exact mid_iff.2 (.inr hx)
 have hg:=h.good s hsm
 have hr:rightB y.a y.b=true:=by
  unfold iB at he;split at he
  ·omega
  ·rename_i c;simpa using c
 obtain ⟨p1,_,p3⟩:=rY hg hr he
 have hre:∀ q ∈ nums s,lookR (addL s.regs y) q=lookR s.regs q:=λq hq=>by
  obtain ⟨x,hx,rfl⟩:=List.mem_map.1 hq;exact aDj hg he (h.reg s hsm x hx)
 have hb:borK (pre++{ s with regs:=addL s.regs y }::post)=borK M.sps:=by
  rw [hs,jF,jF,mP,mP,(jM hre).2]
 refine { h.toInvL.regs hs hre p1 with kind:=λx hx q a ha=>?_,bor:=λx hx q a ha hk=>?_,lent:=λx hx z hz=>?_ }
 ·rcases mid_iff.1 hx with rfl | hx
  ·have ha:lookR (addL s.regs y) q=some a:=ha;rw [p3] at ha;split at ha
   ·cases ha;exact .inl hy
   ·exact h.kind s hsm q a ha
  ·exact h.kind x (hin x hx) q a ha
 ·rcases mid_iff.1 hx with rfl | hx
  ·have ha:lookR (addL s.regs y) q=some a:=ha;rw [p3] at ha;split at ha
   ·cases ha;have hk:y.k=1:=hk;omega
   ·exact h.bor s hsm q a ha hk
  ·exact h.bor x (hin x hx) q a ha hk
 ·show z.lent=((borK (pre++{ s with regs:=addL s.regs y }::post)).count z.key:Nat);rw [hb];rcases mid_iff.1 hx with rfl | hx
  ·rw [(jM hre).1] at hz;exact h.lent s hsm z hz
  ·exact h.lent x (hin x hx) z hz
theorem aIW {id:Int} {y:Reg} {Q:Int->AH->Prop} (h:Own (MacS c M φ::R) A) (hM:InvM M) (hy:y.k=0) (hk:∀ A',InvM (mapM M id y).1->Own (MacS c (mapM M id y).1 φ::R) A'->Q (mapM M id y).2 A'):qes_A (some ⟨c.m,0,none⟩) id y.a y.b y.w y.u y.x Q A:=by
 have hadd:∀ (s:Sl) (Q':Sl->Int->AH->Prop) (A':AH),qer_A s y.a y.b y.w y.u y.x y.k Q' A'->qer_A s y.a y.b y.w y.u y.x 0 Q' A':=by rw [hy];exact λ_ _ _ z=>z
 obtain ⟨g,L,hS,h⟩:=MacS.openH h;unfold qes_A qes_G;simp only [aH,add_at,Nat.zero_add];cases hf:findS M id with
 | none=>
  have e:mapM M id y=(M,5):=by unfold mapM;rw [hf]
  rw [e] at hk;exact aJD h hS hf ⟨none,rfl,aN rfl (hk A hM (MacS.closeH hS h))⟩
 | some s=>
  obtain ⟨a,pre,post,rfl,rfl,rfl,_⟩:=hS.has hf;have ham:a ∈ pre++a::post:=cmid_iff.2 (.inl rfl);have h1:=macG.focus h
  refine aGo h1 hS ⟨some ⟨a.2.p,0,none⟩,rfl,bsel_f rfl ?_⟩;obtain ⟨lm,h2⟩:=macG.openOne h1;simp only [aH,add_at,Nat.zero_add];refine ld_S (i:=7) h2 rfl rfl ?_;refine hadd _ _ _ (aGt (k:=8) h2 rfl aU (hS.one a ham).sl (λA3 h3 he=>?_) λsl A3 he hsl h3=>?_)
  ·have e:mapM M a.1.id y=(M,iB a.1.regs y):=by unfold mapM;rw [hf];simp only;rw [if_pos he]
   rw [e] at hk;refine ⟨λA'=>A'=A3,λA4 e4=>?_,bsel_f (by simp [he]) rfl⟩;subst e4;exact hk A4 hM (MacS.closeH hS (macG.unfocus (macG.closeOne h3)))
  ·have e:mapM M a.1.id y=(payM M a.1 { a.1 with regs:=addL a.1.regs y },0):=by unfold mapM;rw [hf];simp only;rw [if_neg (by simp [he])]
   rw [e] at hk;have hg:=hS.inv.good _ (hS.in_ ham)
   have hr:rightB y.a y.b=true:=by
    unfold iB at he;split at he
    ·omega
    ·rename_i c;simpa using c
   have hre:∀ q ∈ nums a.1,lookR (addL a.1.regs y) q=lookR a.1.regs q:=λq hq=>by
    obtain ⟨x,hx,rfl⟩:=List.mem_map.1 hq;exact aDj hg he (hS.inv.reg _ (hS.in_ ham) x hx)
   have hU:=hS.regsU (r':=addL a.1.regs y) (sl:=sl) hre (rY hg hr he).1 λz=>absurd z hsl;refine ⟨λA'=>Own (macG c g (ownC ({ a.1 with regs:=addL a.1.regs y },{ a.2 with s:=sl })::((pre++post).map ownC++R))) A',λA4 h4=>hk A4 ?_ (MacS.closeH hU (macG.unfocus h4)),aN rfl ?_⟩
   ·rw [hS.pay (s':={ a.1 with regs:=addL a.1.regs y }) rfl,cost_regs hre,Int.sub_self,addU_zero];exact hM.map hS.mem hy he
   ·have h4:Own (macG c g (SlO sl 6 (regC (addL a.1.regs y))::ownC a::((pre++post).map ownC++R))) A3:=macG.backX (h3.cons λC hC=>macG.closeOne hC);exact aMY (macG.mapR (λC hC=>hC.swap) h4) λA4 h5=>h5
end Go.Dn
namespace Go.Dn
variable {s:Sm} {g:Pg} {p q:Int}
def inZ (p q:Int) (n:Int):Bool:=decide (p<=n)&&decide (n<q)
def aFy (s:Sm) (p q:Int):Bool:=(s.pgs.any λg=>g.lent != 0&&inZ p q g.num) || regBusy s.regs p q
end Go.Dn
namespace Go.Dn
variable {M:Mm} {s t:Sm} {l:List Sm} {g x:Pg} {f id:Int}
theorem uX {α β γ:Type} (f:β->γ) (g:α->List β):∀ l:List α,(l.flatMap g).map f=l.flatMap λa=>(g a).map f
 | []=>rfl
 | x::r=>by rw [List.flatMap_cons,List.map_append,uX f g r,List.flatMap_cons]
theorem aI3 (h:InvL M) {s t:Sm} (hs:s ∈ M.sps) (ht:t ∈ M.sps) {x y:Pg} (hx:x ∈ ownP s) (hy:y ∈ ownP t) (e:x.key=y.key):s=t/\x=y:=by
 have hn:((M.sps.flatMap λs=>(ownP s).map λg=>(s.id,g.num,g.key)).map λz=>z.2.2).Nodup:=by
  rw [uX]
  have:(M.sps.flatMap λa=>((ownP a).map λg=>(a.id,g.num,g.key)).map λz=>z.2.2)=ownK M.sps:=by
   unfold ownK;congr 1;funext a;rw [List.map_map];rfl
  rw [this];exact h.own
 have h1:(s.id,x.num,x.key) ∈ M.sps.flatMap λs=>(ownP s).map λg=>(s.id,g.num,g.key):=List.mem_flatMap.2 ⟨s,hs,List.mem_map.2 ⟨x,hx,rfl⟩⟩;have h2:(t.id,y.num,y.key) ∈ M.sps.flatMap λs=>(ownP s).map λg=>(s.id,g.num,g.key):=List.mem_flatMap.2 ⟨t,ht,List.mem_map.2 ⟨y,hy,rfl⟩⟩;have h3:=gO hn h1 h2 e;simp only [Prod.mk.injEq] at h3;have hst:s=t:=gO (f:=λs:Sm=>s.id) (rS h.srt) hs ht h3.1;subst hst;refine ⟨rfl,?_⟩;have e1:=jD (h.pgs s hs) (j8.1 hx).1;have e2:=jD (h.pgs s hs) (j8.1 hy).1;rw [h3.2.1,e2] at e1;exact (Option.some.inj e1).symm
end Go.Dn
namespace Go.Dn
variable {M:Mm} {s:Sm} {pre post l:List Sm} {x:Pg} {f d id:Int}
def delS (l:List Sm) (id:Int):List Sm:=l.filter λs=>s.id != id
theorem aGg (h:((pre++s::post).map (·.id)).Nodup):delS (pre++s::post) s.id=pre++post:=by
 have ne:∀ x ∈ pre++post,x.id≠s.id:=λx hx e=>by
  have hp:((pre++s::post).map (·.id)).Perm (s.id::(pre++post).map (·.id)):=by
   rw [List.map_append,List.map_cons,List.map_append];exact List.perm_middle
  have:=hp.nodup_iff.1 h;rw [List.nodup_cons] at this;exact this.1 (List.mem_map.2 ⟨x,hx,e⟩)
 unfold delS;rw [List.filter_append,List.filter_cons_of_neg (by simp),<- List.filter_append];exact List.filter_eq_self.2 λx hx=>by simpa using ne x hx
def closeM (M:Mm) (id:Int):Mm × Int:=match findS M id with
 | none=>(M,5)
 | some s=>if aFy s 0 34359738368=true then (M,11) else ({ M with sps:=delS M.sps id,ns:=addU M.ns s.box (-costS s) },0)
theorem InvM.shut (h:InvM M) (hs:M.sps=pre++s::post) (hb:∀ z ∈ s.pgs,kdR s.regs z.num=0/\z.key ∉ borK M.sps):InvM ⟨pre++post,addU M.ns s.box (-costS s),M.keys,M.wd⟩:=by
 have hsm:s ∈ M.sps:=by rw [hs];exact mid_iff.2 (.inl rfl)
 have hin:∀ x,x ∈ pre++post->x ∈ M.sps:=λx hx=>by rw [hs];exact mid_iff.2 (.inr hx)
 have hlv:=h.live s hsm
 obtain ⟨e,hd,hdl⟩:∃ d,M.ns[s.box]? = some d/\d.live=true:=by
  unfold liveN at hlv;cases e:M.ns[s.box]? with
  | none=>rw [e] at hlv;cases hlv
  | some d=>rw [e] at hlv;exact ⟨d,rfl,hlv⟩
 have hu:=h.use s.box e hd hdl
 have hge:costS s<=sumZ (costB s.box) M.sps:=by
  have h2:=kS (f:=costB s.box) (l:=M.sps) (λx _=>by unfold costB;split;have:=fM (s:=x);omega;exact Int.le_refl _) s hsm;have h3:costB s.box s=costS s:=by unfold costB;rw [if_pos rfl]
  rw [h3] at h2;exact h2
 have hrm:=(h.tree.room hd hdl).1;have hoK:(ownK M.sps).Perm ((ownP s).map (·.key)++ownK (pre++post)):=by rw [hs];exact gX
 have hbs:borP s=[]:=List.filter_eq_nil_iff.2 λz hz=>by simp [(hb z hz).1]
 have hbK:(borK M.sps).Perm (borK (pre++post)):=by
  rw [hs];refine vM.trans ?_;rw [hbs];exact List.Perm.refl _
 refine { srt:=?_,good:=λx hx=>h.good x (hin x hx),pgs:=λx hx=>h.pgs x (hin x hx),reg:=λx hx=>h.reg x (hin x hx),own:=(List.nodup_append.1 (hoK.nodup_iff.1 h.own)).2.1,src:=λx hx z hz=>?_,key:=λj hj=>h.key j (hoK.mem_iff.2 (List.mem_append_right _ hj)),zero:=h.zero,keys0:=h.keys0,tree:=h.tree.addU hd (by split at hu<;>omega) (by have:=fM (s:=s);omega),live:=λx hx=>?_,use:=λj d he hle=>?_,kind:=λx hx=>h.kind x (hin x hx),bor:=λx hx=>h.bor x (hin x hx),lent:=λx hx z hz=>?_ }
 ·have:=h.srt;rw [hs] at this;refine this.sublist ?_;refine List.Sublist.map _ ?_;exact List.Sublist.append_left (List.sublist_cons_self _ _) pre
 ·have ho:=h.src x (hin x hx) z hz;rcases List.mem_append.1 (hoK.mem_iff.1 ho) with ho | ho
  ·exfalso;obtain ⟨w,w1,w2⟩:=List.mem_map.1 ho;by_cases e:kdR x.regs z.num=0
   ·have:=(aI3 h.toInvL hsm (hin x hx) w1 (j8.2 ⟨hz,e⟩) w2).1;subst this;have hn:=rS h.srt;rw [hs] at hn
    have hp:((pre++s::post).map (·.id)).Perm (s.id::(pre++post).map (·.id)):=by
     rw [List.map_append,List.map_cons,List.map_append];exact List.perm_middle
    have:=hp.nodup_iff.1 hn;rw [List.nodup_cons] at this;exact this.1 (List.mem_map.2 ⟨s,hx,rfl⟩)
   ·exact (hb w (j8.1 w1).1).2 (by rw [w2];exact aA4.2 ⟨x,hin x hx,z,aDm.2 ⟨hz,e⟩,rfl⟩)
  ·exact ho
 ·show liveN (addU M.ns s.box _) x.box=true;rw [fH];exact h.live x (hin x hx)
 ·have he:(addU M.ns s.box (-costS s))[j]? = some d:=he;rw [gH] at he;cases e2:M.ns[j]? with
  | none=>rw [e2] at he;cases he
  | some x=>
   rw [e2] at he;simp only [Option.map_some,Option.some.injEq] at he;have hlx:x.live=true:=by rw [<-he] at hle;split at hle<;>exact hle
   have hux:=h.use j x e2 hlx;rw [hs,pF] at hux;show d.use=_+sumZ (costB j) (pre++post);by_cases gj:s.box=j
   ·rw [if_pos gj] at he;have e4:costB j s=costS s:=by unfold costB;rw [if_pos gj]
    rw [<-he];rw [e4] at hux;simp only;omega
   ·rw [if_neg gj] at he;have e4:costB j s=0:=by unfold costB;rw [if_neg gj]
    rw [<-he];rw [e4] at hux;omega
 ·show z.lent=((borK (pre++post)).count z.key:Nat);rw [<-hbK.count_eq];exact h.lent x (hin x hx) z hz
theorem InvM.tree' (h:InvM M) {ns':List Nd} (ht:TreeOK ns') (hl:∀ s ∈ M.sps,liveN ns' s.box=true) (hu:∀ (i:Nat) d,ns'[i]? = some d->d.live=true->d.use=(if i=0 then 2 else 0)+sumZ (costB i) M.sps):InvM { M with ns:=ns' }:=
 { h with tree:=ht,live:=hl,use:=hu }
end Go.Dn
namespace Go.Dn
variable {c:Mc} {g:Sg} {L pre post:List Sc} {M:Mm} {φ:Int->Int} {a:Sc} {p id:Int} {x:Pg}
theorem SgOK.lk (h:SgOK c g L M φ) (ha:a ∈ L):g.sps.lookup a.1.id=some (ptrV a.2.p)/\findS M a.1.id=some a.1:=by
 obtain ⟨pre,post,rfl⟩:=List.append_of_mem ha;have hf:=t4 h;refine ⟨?_,hf⟩;rw [h.look]
 have:(pre++a::post).find? (λx=>x.1.id==a.1.id)=some a:=by
  rw [List.find?_append];have hn:=h.nodupI;rw [h.mem,List.map_append,List.map_cons,List.nodup_append] at hn
  have e:pre.find? (λx=>x.1.id==a.1.id)=none:=by
   rw [List.find?_eq_none];intro x hx hq;exact hn.2.2 x.1.id (List.mem_map.2 ⟨x.1,List.mem_map_of_mem hx,rfl⟩) a.1.id (by simp) (by simpa using hq)
  rw [e];simp
 rw [this];rfl
end Go.Dn
namespace Go.Dn
variable {A:AH} {l:List SP} {c:Mc} {g:Sg} {L:List Sc} {M:Mm} {φ:Int->Int} {a:Sc} {s:Sm} {p:Int} {x:Pg}
section
variable {i:Nat} {box root:Int} {s:Sl} {lent:List (Int × Int)} {regs:List Reg} {p:Nat}
theorem yW (h:Own l A) (e:l[i]? = some (OneS p box root s regs lent)):∃ lm,bM A ⟨p,0,none⟩=some (.int .i64 box)/\bM A ⟨p,1,none⟩=some (.int .i64 root)/\bM A ⟨p,2,none⟩=some (.slice s.a s.len s.cap)/\bM A ⟨p,3,none⟩=some (.map (some lm))/\
  (∃ es c,A lm=some (.map es c)/\aFO .i64 es (ivs lent)):=by
 obtain ⟨lm,h⟩:=OneS.openH (h.pick i e);obtain ⟨es,c,h1,h2,_⟩:=Own.map (i:=2) (l:=pO p lm box root s regs lent++l.eraseIdx i) rfl h;exact ⟨lm,dH (i:=0) rfl h rfl,dH (i:=0) rfl h rfl,dH (i:=0) rfl h rfl,dH (i:=0) rfl h rfl,es,c,h1,h2⟩
theorem wG {K:Int->Prop} (h:Own l A) (e:l[i]? = some (OneS p box root s regs lent)) (hk:K root):aI .i64 ⟨p,1,none⟩ A K:=by
 obtain ⟨lm,_,h1,_⟩:=yW h e;exact ⟨_,h1,hk⟩
theorem aHL {K:Int->Prop} (h:Own l A) (e:l[i]? = some (OneS p box root s regs lent)) (hk:K box):aI .i64 ⟨p,0,none⟩ A K:=by
 obtain ⟨lm,h1,_⟩:=yW h e;exact ⟨_,h1,hk⟩
end
theorem SgOK.inj (h:SgOK c g L M φ) {k1 k2:Int} (h1:k1 ∈ ownK M.sps) (h2:k2 ∈ ownK M.sps) (e:φ k1=φ k2):k1=k2:=by
 have hn:((ownK M.sps).map φ).Nodup:=by
  rw [<-h.abs];unfold ownK;rw [uX,List.flatMap_map];have h3:=h.nd;unfold frs at h3;have h4:=(List.nodup_cons.1 (List.nodup_cons.1 h3).2).2;refine h4.sublist ?_;clear h4 h3;generalize L=l
  induction l with
  | nil=>exact List.Sublist.slnil
  | cons x r ih=>
   rw [List.flatMap_cons,List.flatMap_cons];refine List.Sublist.append ?_ ih;unfold frC;rw [List.map_map];exact List.sublist_append_right _ _
 exact gO hn h1 h2 e
theorem SgOK.hasF (h:SgOK c g L M φ):∀ f,g.G f->hasF c.N [] f=true:=λf hf=>aBn.2 (by have:=(h.rng f).1 (.inr hf);omega)
end Go.Dn
namespace Go.Dn
variable {A:AH} {l:List SP} {c:Mc} {g g':Sg} {L pre post:List Sc} {M M':Mm} {φ φ':Int->Int} {a a' b:Sc} {s t:Sm} {k p q d id:Int} {X:SP} {cp n:Nat}
theorem macG.cpu (h:Own (macG c g (X::CpuS cp c.m n::l)) A):Own (CpuS cp c.m n::macG c g (X::l)) A:=by
 unfold macG at h ⊢;exact h.pick 8 rfl
theorem macG.cpuB (h:Own (CpuS cp c.m n::macG c g (X::l)) A):Own (macG c g (X::CpuS cp c.m n::l)) A:=
 Own.back (l:=macG c g (X::CpuS cp c.m n::l)) (P:=CpuS cp c.m n) (P':=CpuS cp c.m n) 8 rfl h
theorem pI {K:Option Addr->Prop} (h:Own (macG c g (X::CpuS cp c.m n::l)) A) (hk:K (some ⟨c.m,0,none⟩)):aP ⟨cp,0,none⟩ A K:=by
 obtain ⟨s,ch,at_,_,h1⟩:=CpuS.openH (macG.cpu h);exact cO (i:=0) h1 rfl rfl hk
theorem aIb {V:Vw} {Q:Int->AH->Prop} (h:Own (macG c g (X::CpuS cp c.m n::l)) A) (hV:LnOK V g.ls)
  (hk:∀ way ls' A',-1<=way->way<2->LnOK V ls'->Own (macG c { g with ls:=ls' } (X::CpuS cp c.m n::l)) A'->Q way A'):qcx_A (some ⟨cp,0,none⟩) Q A:=by
 obtain ⟨s,ch,at_,⟨h1,h2,h3⟩,hA⟩:=CpuS.openH (macG.cpu h)
 have hlen:s.len=ch.length:=by
  have:=eV (i:=1) hA rfl (dR (s:=s));simpa using this
 unfold qcx_A qcx_G;simp only [aH,add_at,Nat.zero_add];refine ⟨λ_ A'=>Own (macG c g (X::CpuS cp c.m n::l)) A',λx A1 hA1=>?_,?_⟩
 ·obtain ⟨k,hk0⟩:∃ k,Int.tmod (IntKind.wrap .i64 (Int.tmod x 51+51)) 51=k:=⟨_,rfl⟩
  have hk1:0<=k/\k<51:=by
   rw [<-hk0]
   have e1 : -51<Int.tmod x 51/\Int.tmod x 51<51:=by
    have:=Int.lt_tmod_of_pos x (show (0:Int)<51 by omega);have:=Int.tmod_lt_of_pos x (show (0:Int)<51 by omega);omega
   rw [bG (by omega) (by omega)];have:=Int.tmod_nonneg 51 (show 0<=Int.tmod x 51+51 by omega);have:=Int.tmod_lt_of_pos (Int.tmod x 51+51) (show (0:Int)<51 by omega);omega
  rw [hk0];have e3:Int.tmod k 3=k % 3:=Int.tmod_eq_emod_of_nonneg hk1.1;have e4:Int.tdiv k 3=k / 3:=Int.tdiv_eq_ediv_of_nonneg hk1.1;rw [e3,e4,bG (n:=k / 3) (by omega) (by omega),bG (n:=k / 3-1) (by omega) (by omega),bG (n:=k % 3-1) (by omega) (by omega)];refine ⟨λA'=>∃ ls',LnOK V ls'/\Own (macG c { g with ls:=ls' } (X::CpuS cp c.m n::l)) A',λA2 ⟨ls',v1,hA2⟩=>hk _ ls' A2 (by omega) (by omega) v1 hA2,?_⟩;refine aG (λg=>?_) λ_=>⟨g.ls,hV,hA1⟩;have g:k / 3-1>=0:=of_decide_eq_true g;refine pI hA1 ?_;simp only [aH,add_at,Nat.zero_add];refine cO (i:=3) hA1 rfl rfl ?_;have e5:Int.tmod (k / 3-1) 8=(k / 3-1) % 8:=Int.tmod_eq_emod_of_nonneg g;have e6:Int.tdiv (k / 3-1) 8=(k / 3-1) / 8:=Int.tdiv_eq_ediv_of_nonneg g;rw [e5,e6,bG (n:=(k / 3-1) / 8) (by omega) (by omega)];exact sQ (macG.tlb hA1) (by omega) (by omega) λj A2 hA2=>⟨_,hV.evict,macG.tlbB hA2⟩
 ·refine ld_I (i:=0) hA rfl rfl (ld_S (i:=0) hA rfl rfl ?_);refine aG (λg=>?_) λ_=>h;have g:(at_:Int)<s.len:=of_decide_eq_true g;refine ld_S (i:=0) hA rfl rfl (ld_I (i:=0) hA rfl rfl ?_);obtain ⟨y,hy⟩:∃ y,ch[at_]? = some y:=⟨ch[at_]'(by omega),by simp⟩;obtain ⟨b,o,q1,q2⟩:=bW (i:=1) (j:=at_) (v:=.int .i64 y) hA rfl (dR (s:=s)) (by rw [List.getElem?_map,hy];rfl);rw [q1];simp only [aH,add_at,Int.toNat_natCast,Nat.mul_one];refine inB_in (by omega) g ?_;refine ⟨y,q2,ld_I (i:=0) hA rfl rfl ?_⟩;refine aJ (i:=0) hA rfl rfl rfl λA2 hA2=>?_;rename_i g0 _;have hA2:Own (At cp [.pointer (some ⟨c.m,0,none⟩),.slice s.a s.len s.cap,.int .i64 (IntKind.wrap .i64 ((at_:Int)+1))]::SlO s 1 (ch.map (.int .i64))::macG c _ (X::l)) A2:=hA2;rw [bG (n:=(at_:Int)+1) (by omega) (by omega)] at hA2;exact macG.cpuB (CpuS.closeH (at_:=at_+1) ⟨by omega,h2,h3⟩ hA2)
theorem aMR {Q:Int->AH->Prop} (h:Own (macG c g l) A) (hz:g.z.OK)
  (hk:∀ A',Own (macG c { g with ls:=if (getZ g.z id).2.2=true then g.ls.map (allF true) else g.ls,z:=(getZ g.z id).1 } l) A'->Q (getZ g.z id).2.1 A'):qdd_A (some ⟨c.m,0,none⟩) id Q A:=by
 unfold qdd_A qdd_G;simp only [aH,add_at,Nat.zero_add];refine cO (i:=3) h rfl rfl ?_;refine aEC (macG.tags h) hz λA1 h1=>?_;have h1:=macG.tagsB h1;refine ⟨λA'=>Own (macG c { g with ls:=if (getZ g.z id).2.2=true then g.ls.map (allF true) else g.ls,z:=(getZ g.z id).1 } l) A',λA2 h2=>hk A2 h2,?_⟩;refine aG (λgg=>?_) λgg=>?_
 ·refine cO (i:=3) h1 rfl rfl ?_;refine aGC (macG.tlb h1) λA2 h2=>?_;rw [if_pos gg];exact macG.tlbB h2
 ·rw [if_neg (by rw [gg];simp)];exact h1
theorem SgOK.zl {z':PcZ} {ls':List Ln} (h:SgOK c g L M φ) (hz:PcOK z') (hl:LnOK (vw z' (lfL φ M.sps)) ls'):SgOK c { g with ls:=ls',z:=z' } L M φ:=
 ⟨h.inv,h.abs,h.ns,h.n,h.sps,h.nd,h.G,h.rng,λb hb=>(h.one b hb).keep (λ_ _=>rfl) (λf hf=>h.fr_tl hb hf) λ_ _=>rfl,h.wd,h.kw,hz,hl,h.N⟩
theorem SgOK.lfL_at (h:SgOK c g (pre++a::post) M φ):lfL φ M.sps a.1.id=lfS φ a.1:=by
 have:=t4 h;unfold findS at this;unfold lfL;rw [this]
theorem RtOK.mark {W W':Int->Int->Int} {root:Int} (h:RtOK c W root) (hm:yB W W') (hk:0<=c.kern/\c.kern<1048576):RtOK c W' root:=by
 obtain ⟨⟨x,y,h1⟩,h2⟩:=h;refine ⟨?_,λj j1 j2=>?_⟩
 ·rcases hm root 256 (by omega) (by omega) with e | ⟨_,e | e⟩
  ·exact ⟨x,y,by rw [e];exact h1⟩
  ·exact ⟨true,y,by rw [e,h1,qL hk]⟩
  ·exact ⟨true,true,by rw [e,h1,qL hk,vY hk]⟩
 ·rcases hm root j (by omega) j2 with e | ⟨e,_⟩
  ·rw [e];exact h2 j j1 j2
  ·exact absurd (h2 j j1 j2) e
theorem SgOK.mark {W':Int->Int->Int} (h:SgOK c g (pre++a::post) M φ) (hm:yB g.W W') (hW:∀ t,t ∉ a.2.tl->W' t=g.W t):SgOK c { g with W:=W' } (pre++a::post) M φ:=by
 have ham:a ∈ pre++a::post:=cmid_iff.2 (.inl rfl);obtain ⟨o1,o2,o3,o4⟩:=h.oth;have hone:=h.one a ham;have hoth:∀ f,f ∈ frs c φ (pre++post)->W' f=g.W f:=λf hf=>hW f λz=>o3 f (List.mem_append_left _ z) hf;have hkern:c.kern ∈ frs c φ (pre++post):=by unfold frs;simp
 refine ⟨h.inv,h.abs,h.ns,h.n,h.sps,h.nd,h.G,h.rng,λb hb=>?_,λk hk i=>?_,λq hq=>?_,h.pc,h.ln,h.N⟩
 ·rcases cmid_iff.1 hb with rfl | hb
  ·refine ⟨hone.rest.mark hm,hone.rt.mark hm ?_,hone.lnd,hone.lent,hone.sl⟩;have:=(h.rng c.kern).1 (.inr ((h.G _).2 (by unfold frs;simp)));have:=h.N.2;omega
  ·refine (h.one b (cmid_iff.2 (.inr hb))).keep (λf hf=>?_) (λf hf=>h.fr_tl (cmid_iff.2 (.inr hb)) hf) λ_ _=>rfl;refine hoth f ?_;unfold frs;exact List.mem_cons_of_mem _ (List.mem_cons_of_mem _ (List.mem_flatMap.2 ⟨b,hb,List.mem_append_left _ hf⟩))
 ·show W' (φ k) i=M.wd k i;rw [hW _ ((h.data hk).2.1 a ham)];exact h.wd k hk i
 ·show W' c.kern q=_;rw [hoth _ hkern];exact h.kw q hq
theorem aIx {x:Int} (hx:0<=x/\x<140737488355328):IntKind.wrap .i64 (IntKind.wrap .u64 (Int.tdiv x 4096))=x / 4096:=by
 rw [Int.tdiv_eq_ediv_of_nonneg hx.1,cQ (by omega) (by omega),bG (by omega) (by omega)]
set_option maxRecDepth 20000 in
theorem aKm {addr:Int} {aw:Bool} {Q:Int->AH->Prop} {Kp:Value->AP} (hS:SgOK c g (pre++a::post) M φ) (hM:InvM M) (h:Own (macG c g (ownC a::CpuS cp c.m n::l)) A) (ha:0<=addr/\addr<140737488355328)
  (hno:∀ code e,touchM M a.1.id (addr / 4096) aw true false=(M,0,code,e)->e≠0->∀ g' A',SgOK c g' (pre++a::post) M φ->Own (macG c g' (ownC a::CpuS cp c.m n::l)) A'->
   Kp (.iface 226 (.agg #[.int .u64 (if e=9 then addr else 0),.int .i64 (if e=9 then code else 0),.int .i64 e])) A')
  (hk:∀ M' k,touchM M a.1.id (addr / 4096) aw true false=(M',k,0,0)->InvM M'->k ∈ ownK M'.sps->∀ g' a' φ' A',SgOK c g' (pre++a'::post) M' φ'->Own (macG c g' (ownC a'::CpuS cp c.m n::l)) A'->Q (φ' k) A') :
  qed_A (some ⟨cp,0,none⟩) a.1.id addr aw true false Q Kp A:=by
 have ham:a ∈ pre++a::post:=cmid_iff.2 (.inl rfl);unfold qed_A qed_G;simp only [aH,add_at,Nat.zero_add];rw [aIx ha];obtain ⟨pg,hpge⟩:∃ pg,addr / 4096=pg:=⟨_,rfl⟩;rw [hpge] at hno hk ⊢;have hpg0:0<=pg/\pg<34359738368:=by omega
 refine aIb h hS.ln λway ls1 A1 w0 w1 hV1 h1=>?_;have hS1:=hS.zl (z':=g.z) (ls':=ls1) hS.pc hV1;have hlk:g.sps.lookup a.1.id=some (ptrV a.2.p):=(hS.lk ham).1;refine pI h1 ?_;unfold qcy_A;simp only [aH,add_at,Nat.zero_add];refine dY (i:=3) h1 rfl rfl (kD (i:=4) h1 rfl ?_);rw [hlk];refine ⟨some ⟨a.2.p,0,none⟩,rfl,aN rfl ?_⟩;simp only [aH,add_at,Nat.zero_add];refine wG (i:=7) h1 rfl ?_;refine ⟨λA'=>Own (macG c { g with ls:=ls1 } (ownC a::CpuS cp c.m n::l)) A',λA2 h2=>?_,bsel_f rfl h1⟩;refine pI h2 (aMR h2 hS.pc.ok λA3 h3=>?_);have hV3:=hV1.tag hS.pc a.1.id;have hz3:=hS.pc.get a.1.id;obtain ⟨t1,t2,t3⟩:=hz3.to a.1.id _ (aBx hS.pc a.1.id);have hvw:∀ LF',vw (getZ g.z a.1.id).1 LF' (getZ g.z a.1.id).2.1 pg=LF' a.1.id pg:=λLF'=>aJ3 hS.pc a.1.id pg;have h3:Own (macG c { g with ls:=if (getZ g.z a.1.id).2.2=true then ls1.map (allF true) else ls1,z:=(getZ g.z a.1.id).1 } (ownC a::CpuS cp c.m n::l)) A3:=h3;show (λn15=>_) (getZ g.z a.1.id).2.1;generalize (getZ g.z a.1.id).1=z3 at h3 hV3 hz3 t1 t2 t3 hvw;generalize (getZ g.z a.1.id).2.1=tg at h3 t1 t2 t3 hvw ⊢;generalize (if (getZ g.z a.1.id).2.2=true then ls1.map (allF true) else ls1)=ls3 at h3 hV3;have hS3:=hS.zl hz3 hV3;have ht4:tg<4096:=by have:=hz3.ok;unfold PcZ.OK at this;omega
 refine ⟨λA'=>Own (macG c { g with ls:=ls3,z:=z3 } (ownC a::CpuS cp c.m n::l)) A',λA4 h4=>?_,?_⟩
 ·-- the page is used, and walked to
  refine pI h4 ?_;refine aKs hS3 hM h4 (λM' k code e he hne ⟨e1,e2⟩ W' A5 hS5 h5=>?_) λy M' k hy hmay ht g5 a5 φ5 A5 hS5 hM5 ez els _ er ep ei hφ hlf5 hk5 h5=>?_
  ·rw [e1,e2] at he;have hno:=hno code e he hne _ A5 hS5 h5;refine ⟨λc43 c44 B=>c43=(if e=9 then addr else 0)/\c44=(if e=9 then code else 0)/\B=A5,λc43 c44 B ⟨f1,f2,f3⟩=>?_,?_⟩
   ·subst f1 f2 f3;refine aN (by simpa using hne) ?_;exact hno
   ·refine aG (λq=>?_) λq=>?_
    ·have q:e=9:=by simpa using q
     rw [if_pos q,if_pos q];exact ⟨rfl,rfl,rfl⟩
    ·have q:¬ e=9:=by simpa using q
     rw [if_neg q,if_neg q];exact ⟨rfl,rfl,rfl⟩
  ·have ham5:a5 ∈ pre++a5::post:=cmid_iff.2 (.inl rfl);refine ⟨λ_ _ A'=>A'=A5,λ_ _ A6 e6=>?_,bsel_f rfl rfl⟩;subst e6;refine bsel_f rfl (pI h5 ?_);simp only [aH,add_at,Nat.zero_add];refine cO (i:=3) h5 rfl rfl ?_;have hone5:=hS5.one a5 ham5;rw [<-er];refine aCR (tl:=a5.2.tl) h5 hone5.rest (λf hf=>hS5.hasF f (hS5.fr_tl ham5 hf)) ha hpge hlf5 hmay λd W2 A7 hm2 hW2 h7=>?_;have h7:Own (macG c { g5 with W:=W2 } (ownC a5::CpuS cp c.m n::l)) A7:=h7;have hS7:=hS5.mark hm2 hW2;refine bsel_f rfl ⟨λA'=>∃ ls',LnOK (vw g5.z (lfL φ5 M'.sps)) ls'/\Own (macG c { g5 with W:=W2,ls:=ls' } (ownC a5::CpuS cp c.m n::l)) A',λA8 ⟨ls',v8,h8⟩=>hk M' k ht hM5 hk5 _ a5 φ5 A8 (hS7.zl (z':=g5.z) hS5.pc v8) h8,?_⟩;refine aG (λgw=>?_) λ_=>⟨g5.ls,hS5.ln,h7⟩;have gw:way>=0:=of_decide_eq_true gw;obtain ⟨wn,rfl⟩:∃ wn:Nat,way=wn:=⟨way.toNat,by omega⟩;refine pI h7 ?_;simp only [aH,add_at,Nat.zero_add];refine cO (i:=3) h7 rfl rfl ?_;have hx0:=hone5.rest.T.rangeL _ _ hlf5;refine aEu (m:=⟨true,tg,pg,φ5 k,y.1,y.2.1,y.2.2.1,false,d⟩) (macG.tlb h7) (by omega) rfl ⟨by show 0<=tg;omega,ht4⟩ ⟨by show 0<=pg;omega,by show pg<_;omega⟩ hx0.1 λA9 h9=>⟨_,hS5.ln.fill λ_=>⟨rfl,⟨φ5 k,y.1,y.2.1,y.2.2.1⟩,?_,rfl,rfl,rfl,rfl⟩,macG.tlbB h9⟩;show vw g5.z (lfL φ5 M'.sps) tg pg=some _;rw [ez];show vw z3 (lfL φ5 M'.sps) tg pg=some _;rw [hvw,<- ei,hS5.lfL_at];exact hlf5
 ·-- what is kept
  refine pI h3 ?_;simp only [aH,add_at,Nat.zero_add];refine cO (i:=3) h3 rfl rfl ?_;refine aCs (macG.tlb h3) ⟨by omega,by omega⟩ (λA4 h4=>bsel_f rfl (macG.tlbB h4)) λy hy hfit A4 h4=>aN rfl ?_;have h4:Own (macG c { g with ls:=ls3,z:=z3 } (ownC a::CpuS cp c.m n::l)) A4:=macG.tlbB h4;refine May_spec ?_
  obtain ⟨f1,f2,f3⟩:y.v=true/\y.page=pg/\(y.tag=tg\/y.g=true):=by
   unfold fitsB at hfit;simpa using hfit
  obtain ⟨g1,x,g2,g3,g4,g5,g6⟩:=hV3 y hy f1
  have f3:y.tag=tg:=by
   rcases f3 with q | q
   ·exact q
   ·rw [g1] at q;cases q
  rw [f2,f3,hvw,hS.lfL_at] at g2
  have done:iJ y.w y.u y.x aw true false=true->Q y.frame A4:=λhm=>by
   rw [g3];unfold lfS at g2;cases e1:pgAt a.1 pg with
   | none=>rw [e1] at g2;cases lookR a.1.regs pg<;>cases g2
   | some w=>
    rw [e1] at g2;cases e2:lookR a.1.regs pg with
    | none=>rw [e2] at g2;cases g2
    | some r=>
     rw [e2] at g2;simp only [Option.some.injEq] at g2;subst g2;simp only at g4 g5 g6 ⊢;rw [g4,g5,g6] at hm;refine hk M w.key ?_ hM (hS.key_le ham (eT e1).1).2 _ a φ A4 hS3 h4;unfold touchM;rw [t4 hS];simp only;rw [e2];simp only;rw [if_neg (by rw [hm];simp),e1]
  refine aG (λk1=>aG (λ_=>done k1) λ_=>aG (λ_=>done k1) λ_=>h4) λ_=>h4
end Go.Dn
namespace Go.Dn
variable {A:AH} {n:Nat}
theorem aMh {x1 x2 x3:Option Addr} {y0 y1 y2:Int} {K:AP} (h:qee_pA x1 x2 x3 y0 y1 y2 K A):qee_vA qee_pA x1 x2 x3 (.iface 226 (.agg #[.int .u64 y0,.int .i64 y1,.int .i64 y2])) K A:=by
 show iI [CK.i .u64,CK.i .i64,CK.i .i64] (AP->AP) (qee_pA x1 x2 x3) [Value.int .u64 y0,Value.int .i64 y1,Value.int .i64 y2] λf=>f K A;simp only [iI,gQ];exact aN rfl (aN rfl (aN rfl h))
theorem aMQ {f a:Int} (hf:0<=f/\f<1048576) (ha:0<=a):IntKind.wrap .u64 (IntKind.wrap .u64 (IntKind.wrap .u64 f*4096)+Int.tmod a 4096)=f*4096+a % 4096:=by
 rw [Int.tmod_eq_emod_of_nonneg ha,cQ (n:=f) (by omega) (by omega),cQ (n:=f*4096) (by omega) (by omega),cQ (by omega) (by omega)]
end Go.Dn
namespace Go.Dn
variable {A:AH} {l R R':List SP} {c:Mc} {g g':Sg} {L pre post:List Sc} {M M':Mm} {φ φ':Int->Int} {a a' b:Sc} {s:Sm} {k q id:Int} {cp n:Nat}
def doM (M:Mm) (id addr:Int) (size:Nat) (aw:Bool) (x0:Int):Mm × Int × Int × Int × Int:=
 match touchM M id (addr / 4096) aw true false with
 | (M',k,code,e)=>if e≠0 then (M',0,if e=9 then addr else 0,if e=9 then code else 0,e)
  else if aw=true then ({ M' with wd:=setW M'.wd k (addr % 4096 / 8) (putB (M'.wd k (addr % 4096 / 8)) (addr % 4096 % 8).toNat size x0) },0,0,0,0)
  else (M',aFF (M'.wd k (addr % 4096 / 8)) (addr % 4096 % 8).toNat size,0,0,0)
theorem InvM.wr (h:InvM M) {j v:Int} (hk:k ∈ ownK M.sps):InvM { M with wd:=setW M.wd k j v }:=by
 have hz:∀ k' i,M.keys<k'->setW M.wd k j v k' i=0:=λk' i hk'=>by
  have:=(h.key k hk).2;rw [cH (by omega)];exact h.zero k' i hk'
 exact { srt:=h.srt,good:=h.good,pgs:=h.pgs,reg:=h.reg,own:=h.own,src:=h.src,key:=h.key,keys0:=h.keys0,tree:=h.tree,live:=h.live,use:=h.use,kind:=h.kind,bor:=h.bor,lent:=h.lent,zero:=hz }
theorem aD9 {W:Int->Int->Int} {f j v g i:Int}:setW W f j v g i=if g=f/\i=j then v else W g i:=rfl
theorem SgOK.wr (hS:SgOK c g L M φ) {j v:Int} (hk:k ∈ ownK M.sps) (hinv:InvL { M with wd:=setW M.wd k j v }):SgOK c { g with W:=setW g.W (φ k) j v } L { M with wd:=setW M.wd k j v } φ:=by
 obtain ⟨d1,d2,d3⟩:=hS.data hk;refine ⟨hinv,hS.abs,hS.ns,hS.n,hS.sps,hS.nd,hS.G,hS.rng,λb hb=>(hS.one b hb).keep (λf hf=>cH λe=>d2 b hb (by rw [<-e];exact hf)) (λf hf=>hS.fr_tl hb hf) λ_ _=>rfl,λk' hk' i=>?_,λq hq=>?_,hS.pc,hS.ln,hS.N⟩
 ·show setW g.W (φ k) j v (φ k') i=setW M.wd k j v k' i;rw [aD9,aD9];by_cases e:k'=k
  ·subst e;by_cases e2:i=j
   ·rw [if_pos ⟨rfl,e2⟩,if_pos ⟨rfl,e2⟩]
   ·rw [if_neg (λz=>e2 z.2),if_neg (λz=>e2 z.2)];exact hS.wd k' hk' i
  ·rw [if_neg (λz=>e (hS.inj hk' hk z.1)),if_neg (λz=>e z.1)];exact hS.wd k' hk' i
 ·show setW g.W (φ k) j v c.kern q=_;rw [cH λe=>d3 e.symm];exact hS.kw q hq
theorem macG.three {P1 P2 B5 B3 B1:SP} (h:Own (B5::B3::B1::macG c g (P1::P2::l)) A):Own (macG c g (P1::P2::B5::B3::B1::l)) A:=by
 have h1:Own (B5::B3::macG c g (B1::P1::P2::l)) A:=h.cons λ_ h=>h.cons λ_ h=>macG.backX h;have h2:Own (B5::macG c g (B3::B1::P1::P2::l)) A:=h1.cons λ_ h=>macG.backX h;have h3:=macG.backX h2;exact macG.mapR (λC hC=>hC.perm (List.perm_append_comm_assoc [B5,B3,B1] [P1,P2] l)) h3
theorem macG.drop3 {P1 P2 B5 B3 B1:SP} (h:Own (macG c g (P1::P2::B5::B3::B1::l)) A):Own (macG c g (P1::P2::l)) A:=
 macG.mapR (λ_ hC=>hC.cons λ_ h=>h.cons λ_ h=>h.tail.tail.tail) h
set_option maxRecDepth 20000 in
theorem DoG {addr x0:Int} {aw:Bool} {size:Nat} {Q:Int->Int->Int->Int->AH->Prop} (hS:SgOK c g (pre++a::post) M φ) (hM:InvM M) (h:Own (macG c g (ownC a::CpuS cp c.m n::l)) A) (ha:0<=addr/\addr<140737488355328)
  (hsz:size=1\/size=2\/size=4\/size=8) (hd:addr % size=0)
  (hk:InvM (doM M a.1.id addr size aw x0).1->∀ g' a' φ' A',SgOK c g' (pre++a'::post) (doM M a.1.id addr size aw x0).1 φ'->Own (macG c g' (ownC a'::CpuS cp c.m n::l)) A'->Q (doM M a.1.id addr size aw x0).2.1 (doM M a.1.id addr size aw x0).2.2.1 (doM M a.1.id addr size aw x0).2.2.2.1 (doM M a.1.id addr size aw x0).2.2.2.2 A') :
  qef_A (some ⟨cp,0,none⟩) a.1.id addr size aw x0 Q A:=by
 unfold qef_A qef_G;refine aX (cs:=[.int .u64 0]) h λb1 A1 h1=>?_;refine aX (cs:=[.int .u64 0,.int .i64 0]) h1 λb3 A2 h2=>?_;refine aX (cs:=[.int .i64 0]) h2 λb5 A3 h3=>?_;have h3:=macG.three h3;simp only [aH,add_at,Nat.zero_add];refine ⟨λA'=>A'=A3,λA4 e4=>?_,?_⟩
 ·subst e4;refine ⟨λA'=>A'=A4,λA5 e5=>?_,?_⟩
  ·subst e5;refine aKm hS hM h3 ha (λcode e he hne g6 A6 hS6 h6=>?_) λM' k he hM6 hk6 g6 a6 φ6 A6 hS6 h6=>?_
   ·have ed:doM M a.1.id addr size aw x0=(M,0,if e=9 then addr else 0,if e=9 then code else 0,e):=by
     unfold doM;rw [he];simp only;rw [if_pos hne]
    rw [ed] at hk;have hk:=hk hM g6 a φ;simp only at hk;generalize (if e=9 then addr else 0)=e1 at hk ⊢;generalize (if e=9 then code else 0)=e2 at hk ⊢;refine aMh ?_;unfold qee_pA;simp only [aH,add_at,Nat.zero_add];refine aJ (i:=11) h6 rfl rfl rfl λA7 h7=>?_;refine aJ (i:=10) h7 rfl rfl rfl λA8 h8=>?_;refine aJ (i:=10) h8 rfl rfl rfl λA9 h9=>?_;refine aJ (i:=9) h9 rfl rfl rfl λA10 h10=>?_;refine ld_I (i:=11) h10 rfl rfl (ld_I (i:=10) h10 rfl rfl (ld_I (i:=10) h10 rfl rfl (ld_I (i:=9) h10 rfl rfl ?_)));exact hk A10 hS6 (macG.drop3 h10)
   ·have hxr:=(hS6.rng (φ6 k)).1 (.inr (hS6.data hk6).1);have hNN:=hS6.N.2;have hx:hasF c.N [] (φ6 k)=true:=aBn.2 (by omega);have ho:0<=addr % 4096/\addr % 4096<4096:=by omega
    have hd':addr % 4096 % size=0:=by rcases hsz with rfl | rfl | rfl | rfl<;>omega
    have hwd:g6.W (φ6 k) (addr % 4096 / 8)=M'.wd k (addr % 4096 / 8):=hS6.wd k hk6 _;rw [aMQ ⟨by omega,by omega⟩ ha.1];refine aG (λgg=>?_) λgg=>?_
    ·have ed:doM M a.1.id addr size aw x0=({ M' with wd:=setW M'.wd k (addr % 4096 / 8) (putB (M'.wd k (addr % 4096 / 8)) (addr % 4096 % 8).toNat size x0) },0,0,0,0):=by
      unfold doM;rw [he];simp only;rw [if_neg (by simp),if_pos gg]
     rw [ed] at hk;have hinv:=hM6.wr (j:=addr % 4096 / 8) (v:=putB (M'.wd k (addr % 4096 / 8)) (addr % 4096 % 8).toNat size x0) hk6;refine pI h6 ?_;simp only [aH,add_at,Nat.zero_add];refine cO (i:=3) h6 rfl rfl ?_;refine aBu (x:=x0) h6 hx hsz ho hd' λA7 h7=>bsel_f rfl ?_;have h7:Own (macG c { g6 with W:=setW g6.W (φ6 k) (addr % 4096 / 8) (putB (g6.W (φ6 k) (addr % 4096 / 8)) (addr % 4096 % 8).toNat size x0) } (ownC a6::CpuS cp c.m n::At b5 [.int .i64 0]::At b3 [.int .u64 0,.int .i64 0]::At b1 [.int .u64 0]::l)) A7:=h7;rw [hwd] at h7;refine aJ (i:=11) h7 rfl rfl rfl λA8 h8=>?_;refine aJ (i:=10) h8 rfl rfl rfl λA9 h9=>?_;refine aJ (i:=10) h9 rfl rfl rfl λA10 h10=>?_;refine aJ (i:=9) h10 rfl rfl rfl λA11 h11=>?_;unfold qee_nA;refine ld_I (i:=11) h11 rfl rfl (ld_I (i:=10) h11 rfl rfl (ld_I (i:=10) h11 rfl rfl (ld_I (i:=9) h11 rfl rfl ?_)));exact hk hinv _ a6 φ6 A11 (hS6.wr hk6 hinv.toInvL) (macG.drop3 h11)
    ·have ed:doM M a.1.id addr size aw x0=(M',aFF (M'.wd k (addr % 4096 / 8)) (addr % 4096 % 8).toNat size,0,0,0):=by
      unfold doM;rw [he];simp only;rw [if_neg (by simp),if_neg (by rw [gg];simp)]
     rw [ed] at hk;have hk:=hk hM6 g6 a6 φ6;rw [<-hwd] at hk;refine pI h6 ?_;simp only [aH,add_at,Nat.zero_add];refine cO (i:=3) h6 rfl rfl ?_;refine aB3 h6 hx hsz ho hd' ?_;refine aJ (i:=11) h6 rfl rfl rfl λA7 h7=>?_;refine aJ (i:=9) h7 rfl rfl rfl λA8 h8=>?_;refine ld_I (i:=11) h8 rfl rfl (ld_I (i:=9) h8 rfl rfl ?_);refine aJ (i:=11) h8 rfl rfl rfl λA9 h9=>⟨ld_I (i:=9) h9 rfl rfl rfl,?_⟩;refine aJ (i:=10) h9 rfl rfl rfl λA10 h10=>?_;refine aJ (i:=10) h10 rfl rfl rfl λA11 h11=>⟨ld_I (i:=9) h11 rfl rfl rfl,?_⟩;refine aJ (i:=9) h11 rfl rfl rfl λA12 h12=>?_;unfold qee_nA;refine ld_I (i:=11) h12 rfl rfl (ld_I (i:=10) h12 rfl rfl (ld_I (i:=10) h12 rfl rfl (ld_I (i:=9) h12 rfl rfl ?_)));exact hk A12 hS6 (macG.drop3 h12)
  ·have e1:IntKind.wrap .u64 (size:Int)=size:=by rcases hsz with rfl | rfl | rfl | rfl<;>rfl
   rw [e1];refine bsel_f (by rcases hsz with rfl | rfl | rfl | rfl<;>rfl) (bsel_f ?_ (bsel_f (by simp;omega) rfl))
   rw [Int.tmod_eq_emod_of_nonneg ha.1,hd];rfl
 ·refine ⟨λb A'=>b=true/\A'=A3,λb A4 ⟨e1,e2⟩=>?_,?_⟩
  ·subst e1 e2;exact aN rfl rfl
  ·rcases hsz with rfl | rfl | rfl | rfl
   ·exact aN rfl ⟨rfl,rfl⟩
   ·exact bsel_f rfl (aN rfl ⟨rfl,rfl⟩)
   ·exact bsel_f rfl (bsel_f rfl (aN rfl ⟨rfl,rfl⟩))
   ·exact bsel_f rfl (bsel_f rfl (bsel_f rfl ⟨rfl,rfl⟩))
def MacE (c:Mc) (M:Mm):SP:=λB=>∃ φ,MacS c M φ B
theorem MacE.openE (h:Own (MacE c M::R) A):∃ φ,Own (MacS c M φ::R) A:=h.ex
theorem MacE.closeE (h:Own (MacS c M φ::R) A):Own (MacE c M::R) A:=h.imp λ_ hB=>⟨φ,hB⟩
theorem aMS {addr x0:Int} {aw:Bool} {size:Nat} {Q:Int->Int->Int->Int->AH->Prop} (h:Own (MacE c M::CpuS cp c.m n::R) A) (hM:InvM M) (hf:findS M id=some s) (ha:0<=addr/\addr<140737488355328)
  (hsz:size=1\/size=2\/size=4\/size=8) (hd:addr % size=0)
  (hk:∀ A',InvM (doM M id addr size aw x0).1->Own (MacE c (doM M id addr size aw x0).1::CpuS cp c.m n::R) A'->Q (doM M id addr size aw x0).2.1 (doM M id addr size aw x0).2.2.1 (doM M id addr size aw x0).2.2.2.1 (doM M id addr size aw x0).2.2.2.2 A') :
  qef_A (some ⟨cp,0,none⟩) id addr size aw x0 Q A:=by
 obtain ⟨φ,h⟩:=MacE.openE h;obtain ⟨g,L,hS,h⟩:=MacS.openH h;obtain ⟨a,pre,post,rfl,rfl,rfl,_⟩:=hS.has hf;have h1:=macG.mapR (R':=ownC a::CpuS cp c.m n::((pre++post).map ownC++R)) (λC hC=>hC.cons λD hD=>hD.perm (List.perm_middle)) (macG.focus h)
 refine DoG hS hM h1 ha hsz hd λhinv g' a' φ' A' hS' h'=>hk A' hinv (MacE.closeE (MacS.closeH hS' (macG.unfocus ?_)));exact macG.mapR (λC hC=>hC.cons λD hD=>hD.perm (List.perm_middle.symm)) h'
end Go.Dn
namespace Go.Dn
variable {A:AH} {l R:List SP} {t blk cap i:Nat} {ns:List Nd} {rest:List Value} {d:Nd}
theorem aBF {P:SP} {k kb b:Nat} {x:Int} {s:Sl} {Q:Int->AH->Prop} (h:Own l A) (e:l[k]? = some P) (hr:bI P s 5 (ndCells ns)) (eb:l[kb]? = some (At b [.int .i64 x])) (hb:ns.length<=64)
  (h0:(ns.any λd=>d.live&&d.par==x)=false->Q (-1) A) (h1:(ns.any λd=>d.live&&d.par==x)=true->∀ j:Nat,Q j A) :
  qcc_A s (some ⟨b,0,none⟩) Q A:=by
 have hl:s.len=ns.length:=by have:=eV h e hr;rw [dA] at this;omega
 unfold qcc_A qcc_G;refine ⟨λx' m h'=>∃ v:Nat,x'=v/\m+v=ns.length/\h'=A/\(ns.any λd=>d.live&&d.par==x)=((ns.drop v).any λd=>d.live&&d.par==x),⟨ns.length,0,rfl,rfl,rfl,rfl⟩,?_⟩;intro x' m A1 ⟨v,e1,e2,e3,e4⟩;subst e1 e3;refine aG (λc=>?_) λc=>?_
 ·have c:(v:Int)<s.len:=of_decide_eq_true c;obtain ⟨d,hd⟩:∃ d,ns[v]? = some d:=⟨ns[v]'(by omega),by simp⟩;obtain ⟨bb,o,q1,c0⟩:=aDf (c:=0) h e hr hd (by omega) rfl
  have same:∀ {c:Nat} {x:Value},c<5->d.cells[c]? = some x->bM A1 ⟨bb,o+(v*5+c),none⟩=some x:=λ{c x} hc hx=>by
   obtain ⟨b2,o2,q2,c2⟩:=aDf h e hr hd hc hx;rw [q1] at q2;cases q2;exact c2
  have ad:∀ c,Addr.add (Addr.add ⟨bb,o,none⟩ (Int.toNat (v:Int)*5)) c=⟨bb,o+(v*5+c),none⟩:=λc=>by rw [add_at,add_at,Int.toNat_natCast,Nat.add_assoc]
  rw [q1];refine inB_in (by omega) c ⟨d.par,by rw [add_at,Int.toNat_natCast];exact c0,⟨d.quo,by rw [ad];exact same (by omega) rfl,⟨d.use,by rw [ad];exact same (by omega) rfl,⟨d.lent,by rw [ad];exact same (by omega) rfl,⟨d.live,by rw [ad];exact same (by omega) rfl,?_⟩⟩⟩⟩⟩;unfold qcb_A
  have hdr:(ns.drop v).any (λd=>d.live&&d.par==x)=((d.live&&d.par==x) || (ns.drop (v+1)).any λd=>d.live&&d.par==x):=by
   obtain ⟨h1,h2⟩:=List.getElem?_eq_some_iff.1 hd;rw [List.drop_eq_getElem_cons h1,h2];rfl
  rw [hdr] at e4
  have next:(d.live&&d.par==x)=false->∃ m3,m3<m/\∃ v':Nat,IntKind.wrap .i64 ((v:Int)+1)=v'/\m3+v'=ns.length/\A1=A1/\(ns.any λd=>d.live&&d.par==x)=((ns.drop v').any λd=>d.live&&d.par==x):=λg=>
   ⟨m-1,by omega,v+1,by rw [bG]<;>omega,by omega,rfl,by rw [e4,g];rfl⟩
  refine aG (λg=>?_) λg=>bsel_f rfl (next (by rw [g];rfl))
  refine ld_I h eb rfl (aG (λg2=>?_) λg2=>next (by rw [g,g2];rfl))
  exact h1 (by rw [e4,g,g2];rfl) v
 ·have c:¬(v:Int)<s.len:=of_decide_eq_false c;refine h0 ?_;rw [e4,List.drop_eq_nil_of_le (by omega)];rfl
theorem t6 {d':Nd} {f:Nat} (hi:ns[i]? = some d) (hf:f<5) {v:Value} (hv:d.cells[f]? = some v) (h:Own (fR t blk cap ns rest++R) A):bM A ⟨blk,i*5+f,none⟩=some v:=dH (i:=1) rfl h (kA hi hf hv)
theorem aFI {Q:Int->AH->Prop} (h:Own (TreeS t ns::R) A) (hT:TreeOK ns) (hi:ns[i]? = some d) (hl:d.live=true) (hk:∀ A',Own (TreeS t (if endE ns i=0 then pH ns i d else ns)::R) A'->Q (endE ns i) A'):qce_A (some ⟨t,0,none⟩) i Q A:=by
 obtain ⟨blk,cap,rest,⟨hlen,hoks⟩,hh⟩:=TreeS.openH h;have bk:∀ A',Own (fR t blk cap ns rest++R) A'->Own (TreeS t ns::R) A':=λA' h'=>TreeS.closeH hlen hoks h';have hil:=(List.getElem?_eq_some_iff.1 hi).1;unfold qce_A qce_G;refine aX (cs:=[.int .i64 (i:Int)]) hh λb1 A1 h1=>ld_I (i:=0) h1 rfl rfl ?_;have h1:Own (fR t blk cap ns rest++(At b1 [.int .i64 (i:Int)]::R)) A1:=h1.perm (List.perm_middle (l₁:=fR t blk cap ns rest)).symm;have bk1:∀ A',Own (fR t blk cap ns rest++(At b1 [.int .i64 (i:Int)]::R)) A'->Own (TreeS t ns::R) A':=λA' h'=>(TreeS.closeH hlen hoks h').cons λC hC=>hC.tail;refine sD h1 hi hl ⟨λA'=>A'=A1/\i≠0,λA2 ⟨e1,e2⟩=>?_,bsel_f rfl (ld_I (i:=2) h1 rfl rfl (aG (λg=>?_) λg=>⟨rfl,λz=>by subst z;cases g⟩))⟩
 ·subst e1;simp only [aH,add_at,Nat.zero_add]
  have hE:endE ns i=if d.use > 0\/(ns.any λx=>x.live&&x.par==(i:Int))=true then 11 else 0:=by
   unfold endE;rw [hi];simp only;rw [if_neg (λz=>by rcases z with z | z;rw [hl] at z;cases z;exact e2 z)]
  have busy:d.use > 0\/(ns.any λx=>x.live&&x.par==(i:Int))=true->Q 11 A2:=λz=>by
   rw [if_pos z] at hE;have:=hk A2;rw [hE,if_neg (by decide)] at this;exact this (bk1 _ h1)
  refine ⟨d.use,t6 (d':=d) hi (by omega) rfl h1,aG (λg=>busy (.inl (of_decide_eq_true g))) λg=>?_⟩;refine ld_S (i:=0) h1 rfl rfl ?_;unfold qcd_A qcd_G;refine aBF (k:=1) (kb:=2) h1 rfl (fD (by rw [dA])) rfl hlen (λg2=>bsel_f rfl ?_) λg2 j=>aN (by simp) (busy (.inr g2));have g:¬ d.use > 0:=of_decide_eq_false g;have hE:endE ns i=0:=by rw [hE,if_neg (λz=>by rcases z with z | z;exact g z;rw [g2] at z;cases z)]
  obtain ⟨_,_,hu,hkid,j,e,hj,hji,hje,hel,heq⟩:=zY hT hi hE;have hjl:=(List.getElem?_eq_some_iff.1 hje).1;rw [hE,if_pos rfl] at hk;refine ld_S (i:=0) h1 rfl rfl ⟨d.par,t6 (d':=d) hi (f:=0) (by omega) rfl h1,?_⟩;rw [hj];simp only [aH,Int.toNat_natCast,Nat.zero_add];refine inB_in (by omega) (by show (j:Int)<(ns.length:Int);omega) ⟨e.lent,?_,⟨d.quo,t6 (d':=d) hi (f:=1) (by omega) rfl h1,inB_in (by omega) (by show (j:Int)<(ns.length:Int);omega) ?_⟩⟩
  ·rw [add_at,add_at,Nat.zero_add];exact t6 (d':=d) hje (f:=3) (by omega) rfl h1
  obtain ⟨o1,o2,o3,o4⟩:=hoks e (List.mem_of_getElem? hje);obtain ⟨p1,p2,p3,p4⟩:=hoks d (List.mem_of_getElem? hi);rw [bG (n:=e.lent-d.quo) (by omega) (by omega)];rw [add_at,add_at,Nat.zero_add];refine kZ (f:=3) (nd':={ e with lent:=e.lent-d.quo }) h1 hje (by omega) rfl rfl λA3 h3=>?_;have hi3:(ns.set j { e with lent:=e.lent-d.quo })[i]? = some d:=by rw [List.getElem?_set,if_neg hji];exact hi
  generalize hns:ns.set j { e with lent:=e.lent-d.quo } = n3 at *;have fin:∀ {m:List Nd} {x:Nd},x ∈ m.set i nd0->x ∈ m\/x=nd0:=λh=>List.mem_or_eq_of_mem_set h;refine kZ (f:=0) (nd':={ d with par:=0 }) h3 hi3 (by omega) rfl rfl λA4 h4=>?_
  have at4:∀ x y:Nd,(n3.set i x)[i]? = some x:=λx _=>by
   have:i<n3.length:=(List.getElem?_eq_some_iff.1 hi3).1;simp [this]
  refine kZ (f:=1) (nd':={ d with par:=0,quo:=0 }) h4 (at4 _ d) (by omega) rfl rfl λA5 h5=>?_;rw [List.set_set] at h5;refine kZ (f:=2) (nd':={ d with par:=0,quo:=0,use:=0 }) h5 (at4 _ d) (by omega) rfl rfl λA6 h6=>?_;rw [List.set_set] at h6;refine kZ (f:=3) (nd':={ d with par:=0,quo:=0,use:=0,lent:=0 }) h6 (at4 _ d) (by omega) rfl rfl λA7 h7=>?_;rw [List.set_set] at h7;refine kZ (f:=4) (nd':=nd0) h7 (at4 _ d) (by omega) rfl rfl λA8 h8=>hk A8 ?_;rw [List.set_set,<- heq] at h8;have hT2:=(hT.fin hi hE).1;exact (TreeS.closeH hT2.len hT2.ok h8).cons λC hC=>hC.tail
 ·have g:i=0:=by have:(i:Int)=0:=eq_of_beq g;omega
  have hE:endE ns i=5:=by unfold endE;rw [hi];simp only;rw [if_pos (.inr g)]
  rw [hE,if_neg (by decide)] at hk;exact hk A1 (bk1 _ h1)
theorem aEo (h:firstDead ns=none) (q:Int):kidN ns i d q=(ns.set i { d with lent:=d.lent+q }++[⟨i,q,0,0,true⟩],ns.length):=by unfold kidN;rw [h]
theorem aFn {j:Nat} (h:firstDead ns=some j) (q:Int):kidN ns i d q=((ns.set i { d with lent:=d.lent+q }).set j ⟨i,q,0,0,true⟩,j):=by unfold kidN;rw [h]
def kidE (ns:List Nd) (d:Nd) (q:Int):Int:=if q<0 then 1 else if q > d.room then 8 else if firstDead ns=none/\64<=ns.length then 4 else 0
theorem aF0 {q:Int} {Q:Int->Int->AH->Prop} (h:Own (TreeS t ns::R) A) (hi:ns[i]? = some d) (hl:d.live=true) (h0:kidE ns d q≠0->Q 0 (kidE ns d q) A)
  (hk:kidE ns d q=0->∀ A',Own (TreeS t (kidN ns i d q).1::R) A'->Q (kidN ns i d q).2 0 A'):qby_A (some ⟨t,0,none⟩) i q Q A:=by
 have ok:∀ e,kidE ns d q=e->e≠0->Q 0 e A:=λe he hn=>by have:=h0 (by rw [he];exact hn);rw [he] at this;exact this
 refine aCh h hi hl (λg=>ok 1 (by unfold kidE;rw [if_pos g]) (by decide)) (λg1 g2=>ok 8 (by unfold kidE Nd.room;rw [if_neg (by omega),if_pos g2]) (by decide)) (λg1 g2 g3 g4=>ok 4 (by unfold kidE Nd.room;rw [if_neg (by omega),if_neg (by omega),if_pos ⟨g3,g4⟩]) (by decide)) (λg1 g2 g3 g4 A' hA=>?_) λg1 g2 j g3 A' hA=>?_
 ·have:=hk (by unfold kidE Nd.room;rw [if_neg (by omega),if_neg (by omega),if_neg (by omega)]) A';rw [aEo g3] at this;exact this hA
 ·have:=hk (by unfold kidE Nd.room;rw [if_neg (by omega),if_neg (by omega),if_neg (by rw [g3];simp)]) A';rw [aFn g3] at this;exact this hA
end Go.Dn
namespace Go.Dn
variable {A:AH} {l R:List SP} {c:Mc} {g:Sg} {L:List Sc} {M:Mm} {φ:Int->Int} {b:Sc} {s t:Sm} {q d:Int} {i:Nat} {nd:Nd}
def nsM (M:Mm) (ns:List Nd):Mm:={ M with ns:=ns }
def kidM (M:Mm) (i:Nat) (q:Int):Mm × Nat × Int:=match M.ns[i]? with
 | none=>(M,0,5)
 | some d=>if kidE M.ns d q≠0 then (M,0,kidE M.ns d q) else (nsM M (kidN M.ns i d q).1,(kidN M.ns i d q).2,0)
def finM (M:Mm) (i:Nat):Mm × Int:=match M.ns[i]? with
 | none=>(M,5)
 | some d=>if endE M.ns i=0 then (nsM M (pH M.ns i d),0) else (M,endE M.ns i)
theorem mY (h:liveN M.ns i=true):∃ d,M.ns[i]? = some d/\d.live=true:=by
 unfold liveN at h;cases e:M.ns[i]? with
 | none=>rw [e] at h;cases h
 | some d=>rw [e] at h;exact ⟨d,rfl,h⟩
theorem aEB {ns:List Nd} {d:Nd} (h:kidE ns d q=0):0<=q/\q<=d.room/\(firstDead ns=none->ns.length<64):=by
 unfold kidE at h;split at h
 ·omega
 ·split at h
  ·omega
  ·split at h
   ·omega
   ·rename_i c;refine ⟨by omega,by omega,λz=>?_⟩;rcases Nat.lt_or_ge ns.length 64 with w | w
    ·exact w
    ·exact absurd ⟨z,w⟩ c
theorem InvM.kid (h:InvM M) (hi:M.ns[i]? = some nd) (hl:nd.live=true) (he:kidE M.ns nd q=0):InvM (nsM M (kidN M.ns i nd q).1):=by
 obtain ⟨q0,q1,q2⟩:=aEB he;obtain ⟨j,j1,j2,j3,j4,j5,j6⟩:=pB (q:=q) hi hl
 have hne:∀ s ∈ M.sps,s.box≠j:=λs hs z=>by
  have:=h.live s hs;rw [z,j3] at this;cases this
 have hj0:j≠0:=λz=>by
  obtain ⟨d,d1,d2,_⟩:=h.tree.root;rw [z] at j3;unfold liveN at j3;rw [d1] at j3;simp only at j3;rw [d2] at j3;cases j3
 refine h.tree' (h.tree.kid hi hl q0 q1 q2) (λs hs=>?_) λm d hd hdl=>?_
 ·by_cases e:s.box=i
  ·unfold liveN;rw [e,j5];exact hl
  ·unfold liveN;rw [j6 _ e (hne s hs)];exact h.live s hs
 ·by_cases e:m=i
  ·subst e;rw [j5] at hd;cases hd;exact h.use m nd hi hl
  ·by_cases e2:m=j
   ·subst e2;rw [j4] at hd;cases hd;rw [if_neg hj0,rO λs hs=>by unfold costB;rw [if_neg (hne s hs)]];rfl
   ·rw [j6 m e e2] at hd;exact h.use m d hd hdl
theorem InvM.fin (h:InvM M) (hi:M.ns[i]? = some nd) (he:endE M.ns i=0):InvM (nsM M (pH M.ns i nd)):=by
 obtain ⟨e1,e2,e3,e4,j,e,p1,p2,p3,p4,p5⟩:=zY h.tree hi he;obtain ⟨t1,t2,t3⟩:=h.tree.fin hi he
 have hne:∀ s ∈ M.sps,s.box≠i:=λs hs z=>by
  have hu:=h.use i nd hi e1;rw [if_neg e2,e3] at hu;have h2:=kS (f:=costB i) (l:=M.sps) (λs _=>by unfold costB;split;have:=fM (s:=s);omega;exact Int.le_refl _) s hs;have h3:costB i s=costS s:=by unfold costB;rw [if_pos z]
  have:=fM (s:=s);omega
 have hil:i<M.ns.length:=(List.getElem?_eq_some_iff.1 hi).1;have hjl:j<M.ns.length:=(List.getElem?_eq_some_iff.1 p3).1;refine h.tree' t1 (λs hs=>by rw [t3 _ (hne s hs)];exact h.live s hs) λm d hd hdl=>?_;rw [p5,List.getElem?_set] at hd;by_cases em:i=m
 ·rw [if_pos em,if_pos (by simpa using hil)] at hd;cases hd;cases hdl
 ·rw [if_neg em,List.getElem?_set] at hd;by_cases ej:j=m
  ·rw [if_pos ej,if_pos hjl] at hd;cases hd;subst ej;exact h.use j e p3 p4
  ·rw [if_neg ej] at hd;exact h.use m d hd hdl
theorem SgOK.tr {ns':List Nd} (h:SgOK c g L M φ) (hinv:InvL (nsM M ns')) (hr:sumZ rmN ns'=sumZ rmN M.ns):SgOK c { g with ns:=ns' } L (nsM M ns') φ:=
 ⟨hinv,h.abs,rfl,by show g.n=sumZ rmN ns';rw [hr];exact h.n,h.sps,h.nd,h.G,h.rng,λb hb=>(h.one b hb).keep (λ_ _=>rfl) (λf hf=>h.fr_tl hb hf) λ_ _=>rfl,h.wd,h.kw,h.pc,h.ln,h.N⟩
theorem aMa {Q:Int->Int->AH->Prop} (h:Own (MacE c M::R) A) (hM:InvM M) (hl:liveN M.ns i=true)
  (hk:∀ A',InvM (kidM M i q).1->Own (MacE c (kidM M i q).1::R) A'->Q (kidM M i q).2.1 (kidM M i q).2.2 A'):qby_A (some ⟨c.t,0,none⟩) i q Q A:=by
 obtain ⟨φ,h⟩:=MacE.openE h;obtain ⟨g,L,hS,h⟩:=MacS.openH h;obtain ⟨d,hd,hdl⟩:=mY hl;unfold kidM at hk;rw [hd] at hk;simp only at hk;refine aF0 (macG.tree h) (by rw [hS.ns];exact hd) hdl (λhe=>?_) λhe A1 h1=>?_
 ·rw [hS.ns] at he ⊢;rw [if_pos he] at hk;exact hk A hM (MacE.closeE (MacS.closeH hS h))
 ·rw [hS.ns] at he h1 ⊢;rw [if_neg (by simp [he])] at hk;have hinv:=hM.kid hd hdl he;exact hk A1 hinv (MacE.closeE (MacS.closeH (hS.tr hinv.toInvL (aCA hd hdl)) (macG.treeB h1)))
theorem aJC {Q:Int->AH->Prop} (h:Own (MacE c M::R) A) (hM:InvM M) (hl:liveN M.ns i=true)
  (hk:∀ A',InvM (finM M i).1->Own (MacE c (finM M i).1::R) A'->Q (finM M i).2 A'):qce_A (some ⟨c.t,0,none⟩) i Q A:=by
 obtain ⟨φ,h⟩:=MacE.openE h;obtain ⟨g,L,hS,h⟩:=MacS.openH h;obtain ⟨d,hd,hdl⟩:=mY hl;unfold finM at hk;rw [hd] at hk;simp only at hk;refine aFI (macG.tree h) (by rw [hS.ns];exact hM.tree) (by rw [hS.ns];exact hd) hdl λA1 h1=>?_;rw [hS.ns] at h1 ⊢;by_cases he:endE M.ns i=0
 ·rw [if_pos he] at hk h1;have hinv:=hM.fin hd he;rw [he];exact hk A1 hinv (MacE.closeE (MacS.closeH (hS.tr hinv.toInvL (hM.tree.fin hd he).2.1) (macG.treeB h1)))
 ·rw [if_neg he] at hk h1;have e : { g with ns:=M.ns } = g:=by rw [<-hS.ns]
  have h2:=macG.treeB h1;rw [e] at h2;exact hk A1 hM (MacE.closeE (MacS.closeH hS h2))
theorem aGd {Q:Int->AH->Prop} (h:Own (MacE c M::R) A) (hM:InvM M) (hi:M.ns[i]? = some nd) (hl:nd.live=true) (hk:Q nd.room A):qaw_A (some ⟨c.t,0,none⟩) i Q A:=by
 obtain ⟨φ,h⟩:=MacE.openE h;obtain ⟨g,L,hS,h⟩:=MacS.openH h;obtain ⟨blk,cap,rest,h2,h3⟩:=TreeS.openH (macG.tree h);exact vO h3 (by rw [hS.ns];exact hi) hl (hM.tree.ok nd (List.mem_of_getElem? hi)) hk
theorem aJO {Q:Int->Int->Int->Int->Bool->Bool->AH->Prop} (h:Own (MacE c M::R) A) (hi:M.ns[i]? = some nd) (hl:nd.live=true) (hk:Q nd.par nd.quo nd.use nd.lent nd.live true A):qgf_A (some ⟨c.t,0,none⟩) i Q A:=by
 obtain ⟨φ,h⟩:=MacE.openE h;obtain ⟨g,L,hS,h⟩:=MacS.openH h;exact aG2 (macG.tree h) (by rw [hS.ns];exact hi) hl hk
theorem aK1 {Q:Int->AH->Prop} (h:Own (MacE c M::R) A) (hk:Q (sumZ rmN M.ns) A):qas_A (some ⟨c.b,0,none⟩) Q A:=by
 obtain ⟨φ,h⟩:=MacE.openE h;obtain ⟨g,L,hS,h⟩:=MacS.openH h;rw [<-hS.n] at hk;exact yU (macG.pick 1 rfl h) hk
theorem MacE.ptr {j:Nat} {v:Option Addr} {K:Option Addr->Prop} (h:Own (MacE c M::R) A) (e:(mcC c)[j]? = some (.pointer v)) (hk:K v):aP ⟨c.m,j,none⟩ A K:=by
 obtain ⟨φ,h⟩:=MacE.openE h;obtain ⟨g,L,hS,h⟩:=MacS.openH h;exact cO (i:=3) h rfl e hk
end Go.Dn
