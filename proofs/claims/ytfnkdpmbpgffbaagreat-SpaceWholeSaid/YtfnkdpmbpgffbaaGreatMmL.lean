/- What the proof stands on. -/
import Derived.Test.YtfnkdpmbpgffbaaGreatStart
import Derived.Test.YtfnkdpmbpgffbaaGreatMacT2
namespace Go.Dn
variable {A:AH} {l R:List SP} {c:Mc} {g:Sg} {L pre post:List Sc} {M:Mm} {φ:Int->Int} {a a':Sc} {s s':Sm} {r':List Reg} {sl:Sl}
theorem aZ.pay (h:aZ c g (pre++a::post) M φ) (hi:s'.id=a.1.id):payM M a.1 s'=⟨pre.map (·.1)++s'::post.map (·.1),addU M.ns a.1.box (costS s'-costS a.1),M.keys,M.wd⟩:=by
 unfold payM;have b:=h.nodupI;rw [h.mem] at b ⊢;rw [xB b hi]
theorem fS (h:∀ q ∈ nums s,lookR r' q=lookR s.regs q):ownP { s with regs:=r' } = ownP s/\borP { s with regs:=r' } = borP s:=by
 have e:∀ x ∈ s.pgs,kdR r' x.num=kdR s.regs x.num:=λx b=>by
  unfold kdR;rw [h x.num (List.mem_map_of_mem b)]
 unfold ownP borP;exact ⟨List.filter_congr λx b=>by simp only;rw [e x b],List.filter_congr λx b=>by simp only;rw [e x b]⟩
theorem aCV (hs:(nums s).Pairwise (· < ·)) (h:∀ q ∈ nums s,lookR r' q=lookR s.regs q):lfS φ { s with regs:=r' } = lfS φ s:=by
 funext q
 have b:lfS φ { s with regs:=r' } q=match pgAt s q,lookR r' q with
  | some g,some a=>some ⟨φ g.key,a.1,a.2.1,a.2.2.1⟩
  | _,_=>none:=rfl
 rw [b];unfold lfS;cases e:pgAt s q with
 | none=>cases lookR r' q<;>cases lookR s.regs q<;>rfl
 | some x=>
  obtain ⟨d,f⟩:=aL e;rw [h q (by rw [<-f];exact List.mem_map_of_mem d)];cases lookR s.regs q<;>rfl
theorem cost_regs (h:∀ q ∈ nums s,lookR r' q=lookR s.regs q):costS { s with regs:=r' } = costS s:=by
 unfold costS;rw [(fS h).1];rfl
theorem InvL.regs (h:InvL M) {pre post:List Sm} (hs:M.sps=pre++s::post) (i:∀ q ∈ nums s,lookR r' q=lookR s.regs q) (o:goodB r'=true):InvL ⟨pre++{ s with regs:=r' }::post,M.ns,M.keys,M.wd⟩:=by
 have b:s ∈ M.sps:=by rw [hs];exact mid_iff.2 (.inl rfl)
 have j:ownK (pre++{ s with regs:=r' }::post)=ownK M.sps:=by
  rw [hs,bY,bY,bZ,bZ,(fS i).1]
 have p:=cost_regs i
 have e:∀ d,M.ns[s.box]? = some d->costS { s with regs:=r' } - costS s<=d.room:=λd m=>by
  have k:=h.live s b;unfold liveN at k;rw [m] at k;have:=(h.tree.room m k).1;omega
 have:=h.pay (s':={ s with regs:=r' }) (k':=M.keys) (wd':=M.wd) hs rfl rfl o (h.pgs s b) (λx f=>by show lookR r' x.num≠none;rw [i _ (List.mem_map_of_mem f)];exact h.reg s b x f) (by rw [j];exact h.own) (λx f z n=>by
  rw [j];rcases mid_iff.1 f with rfl | f
  .exact h.src s b z n
  .exact h.src x (by grind) z n) (by rw [j];exact h.key) h.zero h.keys0 e
 rw [p,Int.sub_self,addU_zero] at this;exact this
theorem aZ.regsU (h:aZ c g (pre++a::post) M φ) (d:∀ q ∈ nums a.1,lookR r' q=lookR a.1.regs q) (r:goodB r'=true) (hs:sl.a=none->r'=[]) :
  aZ c g (pre++({ a.1 with regs:=r' },{ a.2 with s:=sl })::post) (payM M a.1 { a.1 with regs:=r' }) φ:=by
 have f:a ∈ pre++a::post:=cmid_iff.2 (.inl rfl);have b:=h.one a f;have j:=h.inv.regs h.mem d r;have m:=aCV (φ:=φ) (h.inv.pgs _ (h.in_ f)) d;rw [h.pay (s':={ a.1 with regs:=r' }) rfl,cost_regs d,Int.sub_self,addU_zero]
 have t:∀ id,lfL φ (pre.map (·.1)++{ a.1 with regs:=r' }::post.map (·.1)) id=lfL φ M.sps id:=λid=>by
  have e1:pre.map (·.1)++{ a.1 with regs:=r' }::post.map (·.1)=(pre++({ a.1 with regs:=r' },a.2)::post).map (·.1):=by simp
  have p:M.sps=(pre++a::post).map (·.1):=by rw [h.mem];simp
  have o:=h.nodupI;rw [p,List.map_map] at o;rw [e1,p,eV (a:=a) (a':=({ a.1 with regs:=r' },a.2)) (φ:=φ) o rfl λ_ _ _ _=>rfl];rw [eV (a:=a) (a':=a) (φ:=φ) o rfl λ_ _ _ _=>rfl];by_cases e:id=a.1.id
  .rw [if_pos e,if_pos e];exact m
  .rw [if_neg e,if_neg e]
 refine h.less (gn:=[]) rfl rfl (by simp) j rfl h.ns h.n h.pc ?_ (λx=>by simp) (λx=>by simp) ⟨?_,b.rt,b.lnd,b.lent,hs⟩ (λ_ _ _=>rfl) (λk n i=>?_) ?_
 .rw [List.append_nil];show (a.2.tl++(ownP a.1).map λg=>φ g.key).Perm (a.2.tl++(ownP { a.1 with regs:=r' }).map λg=>φ g.key);rw [(fS d).1]
 .show Rest g.G g.W a.2.root a.2.tab (lfS φ { a.1 with regs:=r' }) a.2.tl;rw [m];exact b.rest
 .refine h.wd k ?_ i;have n:k ∈ ownK (pre.map (·.1)++{ a.1 with regs:=r' }::post.map (·.1)):=n;rw [h.mem];rw [bY,bZ,(fS d).1] at n;rw [bY,bZ];exact n
 .have:=h.ln;rwa [show lfL φ M.sps=lfL φ (pre.map (·.1)++{ a.1 with regs:=r' }::post.map (·.1)) from funext λid=>(t id).symm] at this
theorem aHb {K:AP} (h:Own (macG c g (ownC a::SlO sl 6 (regC r')::l)) A) (f:∀ d,Own (macG c g (ownC ({ a.1 with regs:=r' },{ a.2 with s:=sl })::l)) d->K d):aC ⟨a.2.p,2,none⟩ (.slice sl.a sl.len sl.cap) A K:=by
 obtain ⟨lm,h⟩:=macG.openOne h;refine bU (i:=7) h rfl rfl rfl λe b=>f e (macG.closeOne (a:=({ a.1 with regs:=r' },{ a.2 with s:=sl })) (lm:=lm) ?_);have b:Own (macG c g (At a.2.p [.int .i64 a.1.box,.int .i64 a.2.root,.slice sl.a sl.len sl.cap,.map (some lm)]::SlO a.2.s 6 (regC a.1.regs)::MapI lm .i64 (ivs a.2.lent)::SlO sl 6 (regC r')::l)) e:=b;exact macG.mapR (λC j=>j.cons λD k=>(k.tail).swap) b
theorem jY {id:Int} {K:Option Value->Prop} (h:Own (macG c g l) A) (b:aZ c g L M φ) (d:findS M id=none) (e:K none):aM ⟨c.m,6,none⟩ A λf=>lG A f .i64 id K:=by
 refine fC (i:=3) h rfl rfl (iD (i:=4) h rfl ?_);rw [b.hno d];exact e
theorem uJ {K:Option Value->Prop} (h:Own (macG c g l) A) (b:aZ c g (pre++a::post) M φ) (f:K (some (ptrV a.2.p))):aM ⟨c.m,6,none⟩ A λj=>lG A j .i64 a.1.id K:=by
 refine fC (i:=3) h rfl rfl (iD (i:=4) h rfl ?_)
 have:g.sps.lookup a.1.id=some (ptrV a.2.p):=by
  rw [b.look]
  have:(pre++a::post).find? (λx=>x.1.id==a.1.id)=some a:=by
   rw [List.find?_append];have d:=b.nodupI;rw [b.mem,List.map_append,List.map_cons,List.nodup_append] at d
   have e:pre.find? (λx=>x.1.id==a.1.id)=none:=by
    rw [List.find?_eq_none];intro x k m;exact d.2.2 x.1.id (List.mem_map.2 ⟨x.1,List.mem_map_of_mem k,rfl⟩) a.1.id (by simp) (by simp_all)
   rw [e];simp
  rw [this];rfl
 rw [this];exact f
def mapM (M:Mm) (id:Int) (y:Reg):Mm × Int:=match findS M id with
 | none=>(M,5)
 | some s=>if cG s.regs y≠0 then (M,cG s.regs y) else (payM M s { s with regs:=addL s.regs y },0)
theorem aCg {L:List Reg} {y:Reg} (f:goodB L=true) (b:cG L y=0) {q:Int} (m:y.a<=q/\q<y.b):lookR L q=none:=by
 obtain ⟨n,i,o⟩:=bJ.1 f;unfold cG at b;split at b
 .omega
 rw [if_neg (by simp [f])] at b;cases h:atS y L 0 0 with
 | none=>rw [h] at b;cases b
 | some v=>
  obtain ⟨c,p,r,t,u⟩:=rW i h;cases e:lookR L q with
  | none=>rfl
  | some z=>
   obtain ⟨x,d,j,k⟩:=pO.2 (show lookR L q≠none by rw [e];simp);rw [<-List.take_append_drop c L] at d;rcases List.mem_append.1 d with d | d
   .grind
   .grind
theorem wK {L:List Reg} {y:Reg} (d:goodB L=true) (b:cG L y=0) {q:Int} (e:lookR L q≠none):lookR (addL L y) q=lookR L q:=by
 have f:rightB y.a y.b=true:=by
  unfold cG at b;split at b
  .omega
  .simp_all
 rw [(kN d f b).2.2 q,if_neg λz=>e (aCg d b z)]
theorem bA.map (h:bA M) {pre post:List Sm} (hs:M.sps=pre++s::post) {y:Reg} (p:y.k=0) (j:cG s.regs y=0):bA ⟨pre++{ s with regs:=addL s.regs y }::post,M.ns,M.keys,M.wd⟩:=by
 have e:s ∈ M.sps:=by rw [hs];exact mid_iff.2 (.inl rfl)
 have f:∀ x,x ∈ pre++post->x ∈ M.sps:=λx b=>by rw [hs];exact mid_iff.2 (.inr b)
 have n:=h.good s e
 have r:rightB y.a y.b=true:=by
  unfold cG at j;split at j
  .omega
  .simp_all
 obtain ⟨t,_,o⟩:=kN n r j
 have i:∀ q ∈ nums s,lookR (addL s.regs y) q=lookR s.regs q:=λq u=>by
  obtain ⟨x,b,rfl⟩:=List.mem_map.1 u;exact wK n j (h.reg s e x b)
 have v:borK (pre++{ s with regs:=addL s.regs y }::post)=borK M.sps:=by
  rw [hs,dG,dG,cT,cT,(fS i).2]
 refine { h.toInvL.regs hs i t with kind:=λx b q a d=>?_,bor:=λx b q a d k=>?_,lent:=λx b z m=>?_ }
 .rcases mid_iff.1 b with rfl | b
  .have d:lookR (addL s.regs y) q=some a:=d;rw [o] at d;split at d
   .cases d;exact .inl p
   .exact h.kind s e q a d
  .exact h.kind x (f x b) q a d
 .rcases mid_iff.1 b with rfl | b
  .have d:lookR (addL s.regs y) q=some a:=d;rw [o] at d;split at d
   .cases d;have k:y.k=1:=k;omega
   .exact h.bor s e q a d k
  .exact h.bor x (f x b) q a d k
 .show z.lent=((borK (pre++{ s with regs:=addL s.regs y }::post)).count z.key:Nat);rw [v];rcases mid_iff.1 b with rfl | b
  .rw [(fS i).1] at m;exact h.lent s e z m
  .exact h.lent x (f x b) z m
theorem aFm {id:Int} {y:Reg} {Q:Int->AH->Prop} (h:Own (MacS c M φ::R) A) (t:bA M) (E:y.k=0) (m:∀ d,bA (mapM M id y).1->Own (MacS c (mapM M id y).1 φ::R) d->Q (mapM M id y).2 d):qcy_A (some ⟨c.m,0,none⟩) id y.a y.b y.w y.u y.x Q A:=by
 have n:∀ (s:Sl) (F:Sl->Int->AH->Prop) (d:AH),qcx_A s y.a y.b y.w y.u y.x y.k F d->qcx_A s y.a y.b y.w y.u y.x 0 F d:=by rw [E];exact λ_ _ _ z=>z
 obtain ⟨g,L,b,h⟩:=MacS.openH h;unfold qcy_A qcy_G;simp only [aJ,add_at,Nat.zero_add];cases o:findS M id with
 | none=>
  have e:mapM M id y=(M,5):=by unfold mapM;rw [o]
  rw [e] at m;exact jY h b o ⟨none,rfl,aG rfl (m A t (MacS.closeH b h))⟩
 | some s=>
  obtain ⟨a,pre,post,rfl,rfl,rfl,_⟩:=b.has o;have j:a ∈ pre++a::post:=cmid_iff.2 (.inl rfl);have G:=macG.focus h
  refine uJ G b ⟨some ⟨a.2.p,0,none⟩,rfl,bsel_f rfl ?_⟩;obtain ⟨lm,H⟩:=macG.openOne G;simp only [aJ,add_at,Nat.zero_add];refine ld_S (i:=7) H rfl rfl ?_;refine n _ _ _ (wS (k:=8) H rfl aR (b.one a j).sl (λu v f=>?_) λsl u f w v=>?_)
  .have e:mapM M a.1.id y=(M,cG a.1.regs y):=by unfold mapM;rw [o];simp only;rw [if_pos f]
   rw [e] at m;refine ⟨λd=>d=u,λr J=>?_,bsel_f (by simp [f]) rfl⟩;subst J;exact m r t (MacS.closeH b (macG.unfocus (macG.closeOne v)))
  .have e:mapM M a.1.id y=(payM M a.1 { a.1 with regs:=addL a.1.regs y },0):=by unfold mapM;rw [o];simp only;rw [if_neg (by simp [f])]
   rw [e] at m;have I:=b.inv.good _ (b.in_ j)
   have K:rightB y.a y.b=true:=by
    unfold cG at f;split at f
    .omega
    .simp_all
   have p:∀ q ∈ nums a.1,lookR (addL a.1.regs y) q=lookR a.1.regs q:=λq N=>by
    obtain ⟨x,O,rfl⟩:=List.mem_map.1 N;exact wK I f (b.inv.reg _ (b.in_ j) x O)
   have P:=b.regsU (r':=addL a.1.regs y) (sl:=sl) p (kN I K f).1 λz=>absurd z w;refine ⟨λd=>Own (macG c g (ownC ({ a.1 with regs:=addL a.1.regs y },{ a.2 with s:=sl })::((pre++post).map ownC++R))) d,λr B=>m r ?_ (MacS.closeH P (macG.unfocus B)),aG rfl ?_⟩
   .rw [b.pay (s':={ a.1 with regs:=addL a.1.regs y }) rfl,cost_regs p,Int.sub_self,addU_zero];exact t.map b.mem E f
   .have B:Own (macG c g (SlO sl 6 (regC (addL a.1.regs y))::ownC a::((pre++post).map ownC++R))) u:=macG.backX (v.cons λC D=>macG.closeOne D);exact aHb (macG.mapR (λC D=>D.swap) B) λr S=>S
end Go.Dn
namespace Go.Dn
variable {M:Mm} {s s' t u:Sm} {pre post l:List Sm} {g x:Pg} {p q k:Int} {φ:Int->Int}
def remP (s:Sm) (p:Int):Sm:={ s with pgs:=s.pgs.filter λg=>g.num != p }
theorem eO:g ∈ (remP s p).pgs↔g ∈ s.pgs/\g.num≠p:=by
 unfold remP;simp
theorem tH (hs:(nums s).Pairwise (· < ·)) (b:pgAt s p=some x):s.pgs.Perm (x::(remP s p).pgs):=by
 obtain ⟨a,c⟩:=aL b;unfold remP;simp only;unfold nums at hs;generalize s.pgs=l at *;clear b
 induction l with
 | nil=>simp at a
 | cons y r ih=>
  rw [List.map_cons,List.pairwise_cons] at hs;rcases List.mem_cons.1 a with rfl | a
  .rw [List.filter_cons_of_neg (by simp [c])]
   have:r.filter (λg=>g.num != p)=r:=List.filter_eq_self.2 λz d=>by
    have:=hs.1 z.num (List.mem_map_of_mem d);simp;omega
   rw [this]
  .have:y.num≠p:=by have:=hs.1 x.num (List.mem_map_of_mem a);omega
   rw [List.filter_cons_of_pos (by simp_all)];exact ((ih hs.2 a).cons y).trans (List.Perm.swap _ _ _)
theorem aFP (hs:(nums s).Pairwise (· < ·)) (a:pgAt s p=some x):(nums s).Perm (p::nums (remP s p)):=by
 have h:=(tH hs a).map (·.num);rw [List.map_cons,(aL a).2] at h;exact h
theorem aCn (hs:(nums s).Pairwise (· < ·)):(nums (remP s p)).Pairwise (· < ·):=by
 unfold nums at hs ⊢;exact hs.sublist (List.filter_sublist.map _)
theorem aBH (hs:(nums s).Pairwise (· < ·)):pgAt (remP s p) q=if q=p then none else pgAt s q:=by
 by_cases e:q=p
 .rw [if_pos e];rw [iB];intro z;obtain ⟨y,b,a⟩:=List.mem_map.1 z;exact (eO.1 b).2 (by rw [a,e])
 .rw [if_neg e];cases c:pgAt s q with
  | some y=>
   obtain ⟨b,a⟩:=aL c;rw [<-a];exact bR (aCn hs) (eO.2 ⟨b,by rw [a];exact e⟩)
  | none=>
   rw [iB] at c ⊢;intro z;obtain ⟨y,b,a⟩:=List.mem_map.1 z;exact c (by rw [<-a];exact List.mem_map_of_mem (eO.1 b).1)
theorem rV (hs:(nums s).Pairwise (· < ·)) (a:pgAt s p=some x):(ownP s).Perm (if kdR s.regs p=0 then x::ownP (remP s p) else ownP (remP s p)):=by
 refine ((tH hs a).filter λg=>kdR s.regs g.num==0).trans ?_;rw [List.filter_cons,(aL a).2];by_cases e:kdR s.regs p=0
 .rw [if_pos (by simp_all),if_pos e];exact List.Perm.refl _
 .rw [if_neg (by simp_all),if_neg e];exact List.Perm.refl _
theorem aH3 (hs:(nums s).Pairwise (· < ·)) (a:pgAt s p=some x):(borP s).Perm (if kdR s.regs p=0 then borP (remP s p) else x::borP (remP s p)):=by
 refine ((tH hs a).filter λg=>kdR s.regs g.num != 0).trans ?_;rw [List.filter_cons,(aL a).2];by_cases e:kdR s.regs p=0
 .rw [if_neg (by simp_all),if_pos e];exact List.Perm.refl _
 .rw [if_pos (by simp_all),if_neg e];exact List.Perm.refl _
theorem aAG (hs:(nums s).Pairwise (· < ·)) (a:pgAt s p=some x):costS s=costS (remP s p)+eN (nums (remP s p)) p+if kdR s.regs p=0 then 1 else 0:=by
 unfold costS;rw [xJ (aFP hs a),(rV hs a).length_eq];simp only [tabsN];split<;>simp<;>omega
theorem qY (hs:(nums s).Pairwise (· < ·)):lfS φ (remP s p)=setL (lfS φ s) p none:=by
 funext q
 have b:lfS φ (remP s p) q=match pgAt (remP s p) q,lookR s.regs q with
  | some g,some a=>some ⟨φ g.key,a.1,a.2.1,a.2.2.1⟩
  | _,_=>none:=rfl
 rw [b,aBH hs];unfold setL;by_cases e:q=p
 .simp_all
 .rw [if_neg e,if_neg e];unfold lfS;rfl
theorem lN (b:t.id=s.id) (c:u.id=s.id) (a:t.box=s.box):payM (payM M s t) t u=payM M s u:=by
 unfold payM;simp only;congr 1
 .unfold putS;rw [List.map_map];apply List.map_congr_left;intro x _;simp only [Function.comp];by_cases e:x.id=s.id
  .simp_all
  .simp_all
 .rw [a,aCZ];congr 1;omega
theorem InvL.rem (h:InvL M) (hs:M.sps=pre++s::post) (v:pgAt s p=some x) (F:kdR s.regs p=0->x.key ∉ borK M.sps):InvL ⟨pre++remP s p::post,addU M.ns s.box (costS (remP s p)-costS s),M.keys,M.wd⟩:=by
 have a:s ∈ M.sps:=by rw [hs];exact mid_iff.2 (.inl rfl)
 have i:∀ x,x ∈ pre++post->x ∈ M.sps:=λx v=>by rw [hs];exact mid_iff.2 (.inr v)
 have b:=h.pgs s a;have A:=rV b v
 have m:(ownK M.sps).Perm (if kdR s.regs p=0 then x.key::ownK (pre++remP s p::post) else ownK (pre++remP s p::post)):=by
  rw [hs];refine cO.trans ((List.Perm.append_right _ (A.map (·.key))).trans ?_);split
  .rw [List.map_cons];exact (cO.symm.cons x.key)
  .exact cO.symm
 have n:∀ k ∈ ownK (pre++remP s p::post),k ∈ ownK M.sps:=λk H=>by grind
 refine h.pay (s':=remP s p) hs rfl rfl (h.good s a) (aCn b) (λz f=>h.reg s a z (eO.1 f).1) ?_ (λy D z f=>?_) (λj G=>h.key j (n j G)) h.zero h.keys0 λd E=>?_
 .have:=m.nodup_iff.1 h.own;split at this
  .simp_all
  .exact this
 .have c:z.key ∈ ownK M.sps/\(z ∈ borP y->z.key ∈ borK M.sps):=by
   rcases mid_iff.1 D with rfl | o
   .have r:=(eO.1 f).1;exact ⟨h.src s a z r,λw=>rF.2 ⟨s,a,z,lP.2 ⟨r,(lP.1 w).2⟩,rfl⟩⟩
   .exact ⟨h.src y (i y o) z f,λw=>rF.2 ⟨y,i y o,z,w,rfl⟩⟩
  by_cases e:kdR y.regs z.num=0
  .exact aB7.2 ⟨y,D,z,cJ.2 ⟨f,e⟩,rfl⟩
  .have w:=c.2 (lP.2 ⟨f,e⟩);have B:=c.1;rw [m.mem_iff] at B;split at B
   .grind
   .exact B
 .have C:=h.live s a;unfold liveN at C;rw [E] at C;have:=(h.tree.room E C).1;have:=aAG b v;split at this<;>omega
def remL (s:Sm) (l:List Int):Sm:=l.foldl remP s
theorem eP:∀ (l:List Int) (s:Sm),(remL s l).id=s.id/\(remL s l).box=s.box/\(remL s l).regs=s.regs
 | [],_=>⟨rfl,rfl,rfl⟩
 | p::l,s=>eP l (remP s p)
theorem kJ:∀ (l:List Int) (s:Sm),(remL s l).pgs=s.pgs.filter λg=>!l.contains g.num
 | [],s=>by
  show s.pgs=_;rw [List.filter_eq_self.2];simp
 | p::l,s=>by
  show (remL (remP s p) l).pgs=_;rw [kJ l (remP s p)];unfold remP;simp only;rw [List.filter_filter];apply List.filter_congr;intro g _;rw [List.contains_cons,Bool.not_or,Bool.and_comm];rfl
theorem nU (l:List Int) (p:Int) (s:Sm):remL s (l++[p])=remP (remL s l) p:=by unfold remL;rw [List.foldl_append];rfl
def inZ (p q:Int) (n:Int):Bool:=decide (p<=n)&&decide (n<q)
def gW (s:Sm) (p q:Int):Bool:=(s.pgs.any λg=>g.lent != 0&&inZ p q g.num) || regBusy s.regs p q
theorem vN (d:bA M) (a:s ∈ M.sps) (h:gW s p q=false) (f:g ∈ s.pgs) (i:inZ p q g.num=true):g.lent=0/\kdR s.regs g.num=0/\g.key ∉ borK M.sps:=by
 unfold gW at h;rw [Bool.or_eq_false_iff] at h;obtain ⟨w,n⟩:=h;have j:g.lent=0:=by grind
 have m:kdR s.regs g.num=0:=by
  unfold kdR;cases e:lookR s.regs g.num with
  | none=>exact absurd e (d.reg s a g f)
  | some y=>
   simp only;rcases d.kind s a _ y e with c | c
   .exact c
   .unfold lookR at e;obtain ⟨r,b,rfl⟩:=Option.map_eq_some_iff.1 e;unfold findR at b;have o:=List.mem_of_find?_eq_some b;have v:=List.find?_some b;simp only [Bool.and_eq_true,decide_eq_true_eq] at v;unfold inZ at i;simp only [Bool.and_eq_true,decide_eq_true_eq] at i;have:=List.any_eq_false.1 n r o;have c:r.k=1:=c;rw [c] at this;simp at this;omega
 refine ⟨j,m,λz=>?_⟩;have:=d.lent s a g (cJ.2 ⟨f,m⟩);rw [j] at this;have:=List.count_pos_iff.2 z;omega
def fA (M:Mm) (id a b:Int):Mm × Int:=match findS M id with
 | none=>(M,5)
 | some s=>if gU s.regs a b≠0 then (M,gU s.regs a b) else if gW s a b=true then (M,11)
  else (payM M s { s with regs:=cutR s.regs a b,pgs:=s.pgs.filter λg=>!inZ a b g.num },0)
theorem bA.unmap (h:bA M) (hs:M.sps=pre++s::post) (G:InvL M->InvL ⟨pre++s'::post,addU M.ns s.box (costS s'-costS s),M.keys,M.wd⟩) (y:s' = { s with regs:=cutR s.regs p q,pgs:=s.pgs.filter λg=>!inZ p q g.num })
  (H:gU s.regs p q=0) (I:gW s p q=false):bA ⟨pre++s'::post,addU M.ns s.box (costS s'-costS s),M.keys,M.wd⟩:=by
 have d:s ∈ M.sps:=by rw [hs];exact mid_iff.2 (.inl rfl)
 have m:∀ x,x ∈ pre++post->x ∈ M.sps:=λx b=>by rw [hs];exact mid_iff.2 (.inr b)
 obtain ⟨c1,c2⟩:=tK (h.good s d) H;have f:s'.regs=cutR s.regs p q:=by rw [y]
 have o:s'.pgs=s.pgs.filter λg=>!inZ p q g.num:=by rw [y]
 have A:∀ n,inZ p q n=true↔p<=n/\n<q:=λn=>by unfold inZ;simp
 have D:∀ z ∈ s'.pgs,z ∈ s.pgs/\inZ p q z.num=false/\kdR s'.regs z.num=kdR s.regs z.num:=λz v=>by
  rw [o] at v;obtain ⟨B,j⟩:=List.mem_filter.1 v;have j:inZ p q z.num=false:=by simpa using j
  refine ⟨B,j,?_⟩;unfold kdR;rw [f,c2,if_neg λw=>by rw [(A _).2 w] at j;cases j]
 have C:borP s'=borP s:=by
  unfold borP;rw [o,List.filter_filter];apply List.filter_congr;intro z v;by_cases e:inZ p q z.num=true
  .have:=(vN h d I v e).2.1;rw [e,this];simp
  .grind
 have E:borK (pre++s'::post)=borK M.sps:=by rw [hs,dG,dG,cT,cT,C]
 refine { G h.toInvL with kind:=λx b r a i=>?_,bor:=λx b r a i F=>?_,lent:=λx b z v=>?_ }
 .rcases mid_iff.1 b with rfl | b
  .rw [f,c2] at i;split at i
   .cases i
   .exact h.kind s d r a i
  .exact h.kind x (m x b) r a i
 .rcases mid_iff.1 b with rfl | b
  .rw [f,c2] at i;split at i
   .cases i
   .rename_i c;obtain ⟨z,B,j,J⟩:=h.bor s d r a i F;refine ⟨z,?_,j,J⟩;rw [o];refine List.mem_filter.2 ⟨B,?_⟩;have:¬ inZ p q z.num=true:=λw=>c (by simp_all);simpa using this
  .exact h.bor x (m x b) r a i F
 .show z.lent=((borK (pre++s'::post)).count z.key:Nat);rw [E];rcases mid_iff.1 b with rfl | b
  .obtain ⟨B,j⟩:=cJ.1 v;obtain ⟨K,N,L⟩:=D z B;exact h.lent s d z (cJ.2 ⟨K,by rw [<-L];exact j⟩)
  .exact h.lent x (m x b) z v
end Go.Dn
namespace Go.Dn
variable {A:AH} {l R:List SP} {P:SP} {k kb b:Nat} {s:Sl} {L:List Int} {p q:Int}
theorem aKd {v:Nat} {x:Int} (h:Own l A) (e:l[k]? = some P) (c:Reads P s 1 (intsV L)) (d:L[v]? = some x):∃ a,s.a=some a/\∀ K:Int->Prop,K x->aI .i64 (Addr.add a (Int.toNat (v:Int)*1)) A K:=by
 obtain ⟨m,o,f,g⟩:=bK h e c (j:=v) (v:=.int .i64 x) (by unfold intsV;simp [d]);exact ⟨_,f,λK i=>⟨x,by rw [add_at,Int.toNat_natCast,Nat.mul_one];exact g,i⟩⟩
theorem aM6 {x:Int} {Q:Bool->AH->Prop} (h:Own l A) (d:l[kb]? = some (At b [.int .i64 p,.int .i64 q])) (a:Q (!inZ p q x) A):qdx_A x (some ⟨b,0,none⟩) Q A:=by
 unfold qdx_A;simp only [aJ,add_at,Nat.zero_add];unfold inZ at a;refine bQ h d rfl (bsel_in (λg=>?_) λg=>bQ h d rfl ?_)
 .have g:x<p:=of_decide_eq_true g;rw [decide_eq_false (by omega)] at a;exact a
 .have g:¬ x<p:=of_decide_eq_false g;rw [decide_eq_true (by omega),Bool.true_and] at a
  have e:decide (x>=q) = !decide (x<q):=by
   by_cases c:x<q
   .rw [decide_eq_true c,decide_eq_false (by omega)];rfl
   .rw [decide_eq_false c,decide_eq_true (by omega)];rfl
  rw [e];exact a
theorem nW {α:Type} {f:α->Bool} {L:List α} {v:Nat} {x:α} (a:L[v]? = some x):(L.take (v+1)).filter f=(L.take v).filter f++if f x then [x] else []:=by
 rw [cN a,List.filter_append];congr 1;cases e:f x<;>simp [e]
theorem aGf {Q:Sl->AH->Prop} (h:Own (SlO s 1 (intsV L)::R) A) (hn:s.a=none->L=[]) (eb:R[kb]? = some (At b [.int .i64 p,.int .i64 q])) (hb:L.length<=1000000000000)
  (T:∀ s' o,(s'.a=none->L.filter (inZ p q)=[])->Own (SlO s' 1 (intsV (L.filter (inZ p q)))::R) o->Q s' o):qdz_A s (some ⟨b,0,none⟩) Q A:=by
 have hl:s.len=L.length:=by have:=dV (i:=0) h rfl aR;simp [intsV] at this;omega
 unfold qdz_A qdz_G qdy_A qdy_G;refine ⟨λx m o=>∃ v:Nat,x=v/\m+v=L.length/\o=A/\(L.take v).filter (inZ p q)=L.take v,⟨L.length,0,rfl,rfl,rfl,rfl⟩,?_⟩;intro x m A1 ⟨v,e1,e2,e3,N⟩;subst e1 e3;refine bsel_in (λc=>?_) λc=>?_
 .have c:(v:Int)<s.len:=of_decide_eq_true c;obtain ⟨y,O⟩:∃ y,L[v]? = some y:=⟨L[v]'(by omega),by simp⟩;obtain ⟨a,U,q2⟩:=aKd (k:=0) h rfl aR O;rw [U];refine inB_in (by omega) c (q2 _ (aM6 (kb:=kb+1) h (by simpa using eb) ?_));refine bsel_in (λg=>?_) λg=>?_
  .-- one that goes: the others are moved down
   have g:inZ p q y=false:=by simpa using g
   have r:s.cap≠0:=by obtain ⟨B,_,V⟩:=h.sat;have:=V.1.2;omega
   obtain ⟨f,rest,f1,f2,f3,f4,h4⟩:=SlO.openS h r;rw [f1] at U;cases U;refine bsel_f (by simp) ?_;rw [w64 (n:=(v:Int)+1) (by omega) (by omega)];refine ⟨λi w W o=>∃ (d w':Nat) (C:List Int),i=d/\w=w'/\W+w'=L.length/\d<w'/\C.length=L.length/\C.take d=(L.take w').filter (inZ p q)/\C.drop w'=L.drop w'/\Own (At f (intsV C++rest)::R) o,⟨L.length-(v+1),v,v+1,L,rfl,rfl,by omega,by omega,rfl,?_,rfl,h4⟩,?_⟩
   .rw [nW O,g,N];simp
   intro i w W A2 ⟨d,w',C,d1,d2,d3,d4,D,I,d7,E⟩;subst d1 d2;have j:(intsV C).length=L.length:=by unfold intsV;simp [D]
   refine bsel_in (λF=>?_) λF=>?_
   .have F:(w':Int)<s.len:=of_decide_eq_true F;obtain ⟨z,G⟩:∃ z,L[w']? = some z:=⟨L[w']'(by omega),by simp⟩
    have X:C[w']? = some z:=by
     have h1:(C.drop w')[0]? = (L.drop w')[0]?:=by rw [d7]
     simpa [G] using h1
    have J:C.drop (w'+1)=L.drop (w'+1):=by rw [<-List.drop_drop,<- List.drop_drop,d7]
    refine ⟨λx' o=>∃ (K:Nat) (H:List Int),x'=K/\K<w'+1/\H.length=L.length/\H.take K=(L.take (w'+1)).filter (inZ p q)/\H.drop (w'+1)=L.drop (w'+1)/\Own (At f (intsV H++rest)::R) o,λx' S ⟨K,H,j1,j2,j3,j4,j5,j6⟩=>⟨W-1,by omega,K,w'+1,H,j1,by rw [w64]<;>omega,by omega,j2,j3,j4,j5,j6⟩,?_⟩;simp only [aJ,add_at,Nat.zero_add,Int.toNat_natCast,Nat.mul_one];refine inB_in (by omega) F (bQ (i:=0) (n:=z) E rfl ?_ ?_)
    .rw [List.getElem?_append_left (by rw [j];omega)];unfold intsV;simp [X]
    refine aM6 (kb:=kb+1) E (by simpa using eb) ?_;refine bsel_in (λgg=>?_) λgg=>?_
    .have gg:inZ p q z=true:=by simpa using gg
     refine inB_in (by omega) (by omega) (bU (i:=0) E rfl ?_ rfl λS t=>?_)
     .rw [List.getElem?_append_left (by rw [j];omega),List.getElem?_eq_getElem (by rw [j];omega)];rfl
     refine ⟨d+1,C.set d z,by rw [w64]<;>omega,by omega,by simp [D],?_,?_,?_⟩
     .rw [nW G,gg,if_pos rfl,<- I];rw [List.take_add_one,List.take_set_of_le (Nat.le_refl _)];congr 1;rw [List.getElem?_set,if_pos rfl,if_pos (by omega)];rfl
     .rw [List.drop_set_of_lt (by omega)];exact J
     .have e:(intsV C++rest).set d (.int .i64 z)=intsV (C.set d z)++rest:=by
       rw [List.set_append_left _ _ (by rw [j];omega)];unfold intsV;rw [List.map_set]
      have t:Own (At f ((intsV C++rest).set d (.int .i64 z))::R) S:=t;rw [e] at t;exact t
    .have gg:inZ p q z=false:=by simpa using gg
     exact ⟨d,C,rfl,by omega,D,by rw [nW G,gg,I];simp,J,E⟩
   .have F:¬ (w':Int)<s.len:=of_decide_eq_false F;have hw:L.take w'=L:=List.take_of_length_le (by omega);rw [hw] at I;refine inB_in (by omega) (by omega) ?_;unfold aG0;simp only [Int.toNat_natCast,Nat.mul_one]
    have ha:(if s.cap=d then (some ⟨f,0,none⟩:Option Addr) else Option.map (λx=>Addr.add x d) (some ⟨f,0,none⟩))=some ⟨f,d,none⟩:=by
     rw [if_neg (by omega)];simp [add_at]
    rw [ha]
    have Y:intsV C++rest=intsV (C.take d)++intsV (C.drop d)++rest:=by
     congr 1;unfold intsV;rw [<-List.map_append,List.take_append_drop]
    rw [Y] at E
    have G:(Builtin.zeroCells #[(.int .i64 (0:Int))] (s.len-d)).toList.length=s.len-d:=by
     rw [Array.length_toList,eL];simp
    refine iW _ 0 A2 _ _ _ _ E ?_ ?_ (λv Z=>?_) λS t=>inB_in (by omega) (by omega) ?_
    .rw [G];unfold intsV;simp [D];omega
    .unfold intsV;simp [D];omega
    .have:v = .int .i64 0:=by
      unfold Builtin.zeroCells at Z;simp at Z;obtain ⟨i,_,hi⟩:=Z;rw [<-hi,Nat.mod_one];rfl
     rw [this];rfl
    .rw [if_neg r];have hs':Option.map (λx=>Addr.add x 0) (some (⟨f,0,none⟩:Addr))=some ⟨f,0,none⟩:=by simp [add_at]
     rw [hs'];rw [I] at t;have M:(L.filter (inZ p q)).length=d:=by rw [<-I];simp [D];omega
     refine T _ S (λz=>by cases z) ?_;rw [List.append_assoc] at t;refine t.imp λB V=>⟨⟨by unfold intsV;simp [M],by show d<=s.cap;omega⟩,.inr ⟨f,_,rfl,?_,V⟩⟩;have u:(intsV L++rest).length=s.cap:=by rw [f4];omega
     simp only [List.length_append,G] at u ⊢;unfold intsV at u ⊢;simp [M] at u ⊢;omega
  .have g:inZ p q y=true:=by simpa using g
   exact ⟨m-1,by omega,v+1,by rw [w64]<;>omega,by omega,rfl,by rw [nW O,g,N,cN O];rfl⟩
 .have c:¬ (v:Int)<s.len:=of_decide_eq_false c;rw [List.take_of_length_le (by omega)] at N;rw [N] at T;exact aG rfl (T s A1 hn h)
end Go.Dn
namespace Go.Dn
variable {A:AH} {l:List SP} {c:Mc} {g g':Sg} {pre post:List Sc} {M:Mm} {φ:Int->Int} {a a':Sc} {s s':Sm} {nd:Nd} {k p q:Int} {x:Pg}
theorem aCl:∀ {m l:List Int},m.Nodup->(∀ x ∈ m,x ∈ l)->l.length<=m.length->m.Perm l
 | [],l,_,_,h=>by simp_all
 | x::m,l,hn,hs,h=>by
  rw [List.nodup_cons] at hn;have b:=hs x (by simp);refine ((aCl (l:=l.erase x) hn.2 (λy d=>(List.mem_erase_of_ne λe:y=x=>hn.1 (by simp_all)).2 (hs y (by simp [d]))) ?_).cons x).trans (List.perm_cons_erase b).symm;rw [List.length_erase_of_mem b];simp only [List.length_cons] at h;omega
theorem aE9 {id page:Int} {Q:AH->Prop} (h:Own (macG c g l) A) (j:∀ b m,aMx g.z id page g.ls b->Own (macG c { g with ls:=b } l) m->Q m):qen_A (some ⟨c.m,0,none⟩) id page Q A:=by
 unfold qen_A qen_G;simp only [aJ,add_at,Nat.zero_add];refine mE (i:=3) h rfl rfl (aAc (macG.tags h) ?_);cases e:g.z.tag.lookup id with
 | none=>exact bsel_f rfl (j g.ls A (λy f _=>⟨f,λq=>by rw [e] at q;cases q.1⟩) h)
 | some t=>
  simp only [Option.getD_some];refine aG rfl (mE (i:=3) h rfl rfl ?_);refine aDj (macG.tlb h) λo r=>j _ o (λy f d=>?_) (macG.tlbB r);obtain ⟨u,v,rfl⟩:=List.mem_map.1 f;unfold o8 at d ⊢;by_cases g:fitsB t page u=true
  .rw [if_pos g] at d;cases d
  .rw [if_neg g] at d ⊢;refine ⟨v,λ⟨n,w⟩=>g ?_⟩;rw [e] at n;cases n;unfold fitsB;simp [d,w]
theorem aHj (h:SpOK c g φ a) (t:(nums a.1).Pairwise (· < ·)):jJ a.2.lent p q=a.1.pgs.any λx=>x.lent != 0&&inZ p q x.num:=by
 unfold jJ;rw [Bool.eq_iff_iff,List.any_eq_true,List.any_eq_true]
 have f:∀ {m:List (Int × Int)} {k v:Int},m.lookup k=some v->(k,v) ∈ m:=λ{m k v}=>by
  induction m with
  | nil=>intro h;cases h
  | cons y r ih=>
   obtain ⟨i,n⟩:=y;intro h;rw [List.lookup_cons] at h;cases e:(k==i) with
   | true=>
    rw [e] at h;have:k=i:=by simpa using e
    subst this;simp at h;subst h;simp
   | false=>rw [e] at h;exact List.mem_cons_of_mem _ (ih h)
 have b:∀ {m:List (Int × Int)} {k v:Int},(m.map (·.1)).Nodup->(k,v) ∈ m->m.lookup k=some v:=λ{m k v}=>by
  induction m with
  | nil=>intro _ h;cases h
  | cons y r ih=>
   obtain ⟨i,n⟩:=y;intro u h;rw [List.map_cons,List.nodup_cons] at u;rw [List.lookup_cons];rcases List.mem_cons.1 h with h | h
   .cases h;simp
   .grind
 constructor
 .rintro ⟨⟨k,v⟩,o,j⟩;have d:=b h.lnd o;rw [h.lent k] at d;cases e:pgAt a.1 k with
  | none=>rw [e] at d;cases d
  | some y=>
   rw [e] at d;obtain ⟨i,n⟩:=aL e;refine ⟨y,i,?_⟩;simp only [Option.bind_some] at d;split at d
   .cases d
   .rename_i c;unfold inZ;rw [n];simpa [c] using j
 .rintro ⟨y,o,j⟩;rw [Bool.and_eq_true] at j;have d:=h.lent y.num;rw [bR t o] at d;have c:y.lent≠0:=by simpa using j.1
  simp only [Option.bind_some,if_neg c] at d;refine ⟨_,f d,?_⟩;have:=j.2;unfold inZ at this;simpa using this
theorem aHr {Q:Bool->AH->Prop} (h:Own (macG c g (ownC a::l)) A) (d:SpOK c g φ a) (e:(nums a.1).Pairwise (· < ·)) (i:a.1.regs.length<=64) (f:∀ b,Own (macG c g (ownC a::l)) b->Q (gW a.1 p q) b):qdq_A (some ⟨a.2.p,0,none⟩) p q Q A:=by
 obtain ⟨lm,h⟩:=OneS.openH (macG.frontX h);refine aFH h (by omega) λb h'=>?_;rw [aHj d e];exact f b (macG.backX (OneS.closeH h'))
theorem aEx {lf:Int->Option Lf} {Q:Sl->AH->Prop} (h:Own (macG c g (ownC a::l)) A) (O:Rest g.G g.W a.2.root a.2.tab lf a.2.tl) (U:∀ f,g.G f->hasF c.N [] f=true) (d:(nums a.1).Pairwise (· < ·)) (o:∀ x,x ∈ nums a.1↔lf x≠none)
  (P:∀ s' ps R,(s'.a=none->ps=[])->ps=(nums a.1).filter (inZ p q)->ps.length<=1000000000000->Own (macG c g (ownC a::SlO s' 1 (intsV ps)::l)) R->Q s' R):qea_A (some ⟨c.m,0,none⟩) (some ⟨a.2.p,0,none⟩) p q Q A:=by
 obtain ⟨lm,h⟩:=macG.openOne h;unfold qea_A qea_G;refine aT (cs:=[.int .i64 p,.int .i64 q]) h λb A1 t=>?_;have t:=macG.backX t;simp only [aJ,add_at,Nat.zero_add];refine bQ (i:=8) t rfl rfl (bQ (i:=8) t rfl rfl (prs (k:=3) t rfl ⟨bQ (i:=8) t rfl rfl rfl,?_⟩));refine jP t U O λs1 ps V F u j m v=>?_
 have G:ps=nums a.1:=by
  have hs:=d;have B:∀ x,x ∈ ps↔x ∈ nums a.1:=λx=>by rw [m,o]
  clear m v P F u o d;generalize nums a.1=H at *
  induction ps generalizing H with
  | nil=>cases H with
   | nil=>rfl
   | cons y r=>have:=(B y).2 (by simp);simp at this
  | cons x r ih=>
   cases H with
   | nil=>have:=(B x).1 (by simp);simp at this
   | cons y r2=>
    rw [List.pairwise_cons] at j hs
    have e:x=y:=by
     rcases List.mem_cons.1 ((B x).1 (by simp)) with e | e
     .exact e
     .rcases List.mem_cons.1 ((B y).2 (by simp)) with S | S
      .exact S.symm
      .grind
    subst e;rw [ih j.2 r2 hs.2 λz=>?_];constructor
    .grind
    .grind
 subst G;have v:Own (SlO s1 1 (intsV (nums a.1))::macG c g (At b [.int .i64 p,.int .i64 q]::mY a.2.p lm a.1.box a.2.root a.2.s a.1.regs a.2.lent++l)) V:=Own.swap v
 have n:(nums a.1).length<=1000000000000:=by
  have:=kX (N:=34359738368) (nums a.1) 0 d λz W=>by
   obtain ⟨w,X⟩:=Option.ne_none_iff_exists'.1 ((o z).1 W);exact O.pr z w X
  omega
 refine aGf (kb:=7) v u rfl n λT Y I Z=>P T _ Y I rfl (Nat.le_trans (List.length_filter_le _ _) n) ?_;have h4:=macG.backX Z;refine macG.closeOne (lm:=lm) (macG.mapR (λC J=>?_) h4);have J:Own (SlO T 1 (intsV ((nums a.1).filter (inZ p q)))::At b [.int .i64 p,.int .i64 q]::(mY a.2.p lm a.1.box a.2.root a.2.s a.1.regs a.2.lent++l)) C:=J;have K:=J.cons λD L=>L.tail;exact K.swap.cons λD L=>L.swap.cons λE hE=>hE.swap
theorem aJd {Q:Sl->AH->Prop} (h:Own (macG c g (ownC a::l)) A) (d:aZ c g (pre++a::post) M φ)
  (i:∀ s' ps e,(s'.a=none->ps=[])->ps=(nums a.1).filter (inZ p q)->ps.length<=1000000000000->Own (macG c g (ownC a::SlO s' 1 (intsV ps)::l)) e->Q s' e):qea_A (some ⟨c.m,0,none⟩) (some ⟨a.2.p,0,none⟩) p q Q A:=by
 have b:a ∈ pre++a::post:=cmid_iff.2 (.inl rfl);exact aEx h (d.one a b).rest (λf j=>vJ.2 (by have:=(d.rng f).1 (.inr j);omega)) (d.inv.pgs _ (d.in_ b)) (d.ps b) i
theorem aI1 {tl' gl:List Int} {cs:Cs} (hs:(nums a.1).Pairwise (· < ·)) (b:pgAt a.1 p=some x) (e:a.2.tl.Perm (cs.tl++gl)):(frC φ a).Perm (frC φ (remP a.1 p,cs)++(if kdR a.1.regs p=0 then φ x.key::gl else gl)):=by
 unfold frC;have f:=(rV hs b).map λg=>φ g.key;have d:(a.2.tl++(ownP a.1).map λg=>φ g.key).Perm ((cs.tl++gl)++(if kdR a.1.regs p=0 then φ x.key::(ownP (remP a.1 p)).map (λg=>φ g.key) else (ownP (remP a.1 p)).map λg=>φ g.key)):=by grind
 refine d.trans ?_;rw [List.append_assoc,List.append_assoc];refine List.Perm.append_left _ ?_;split
 .grind
 .grind
theorem aHn {Q:AH->Prop} (hS:aZ c g (pre++a::post) M φ) (h:Own (macG c g (ownC a::l)) A) (hx:pgAt a.1 p=some x) (hl0:x.lent=0) (hnb:kdR a.1.regs p=0->x.key ∉ borK M.sps)
  (hk:∀ g' a' A',aZ c g' (pre++a'::post) (payM M a.1 (remP a.1 p)) φ->a'.1=remP a.1 p->a'.2.p=a.2.p->a'.2.root=a.2.root->g'.z=g.z->Own (macG c g' (ownC a'::l)) A'->Q A'):qeo_A (some ⟨c.m,0,none⟩) a.1.id (some ⟨a.2.p,0,none⟩) p Q A:=by
 have ham:a ∈ pre++a::post:=cmid_iff.2 (.inl rfl);obtain ⟨nd,n1,n2,n3,n4,n5⟩:=hS.node ham;have hone:=hS.one a ham;have hsrt:=hS.inv.pgs _ (hS.in_ ham);obtain ⟨hx1,hx2⟩:=aL hx;obtain ⟨w,hw⟩:=Option.ne_none_iff_exists'.1 ((hS.ps ham p).1 (by rw [<-hx2];exact List.mem_map_of_mem hx1));obtain ⟨y,hy⟩:=Option.ne_none_iff_exists'.1 (hS.inv.reg _ (hS.in_ ham) x hx1);rw [hx2] at hy
 have hwf:w.frame=φ x.key:=by
  unfold lfS at hw;rw [hx,hy] at hw;cases hw;rfl
 have hkd:kdR a.1.regs p=y.2.2.2:=by unfold kdR;rw [hy]
 have hkx:=hS.key_le ham hx1;have hdat:=hS.data hkx.2;have hFG:=(iF h.tail).1;have hG:∀ f,g.G f->hasF c.N [] f=true:=λf hf=>vJ.2 (by have:=(hS.rng f).1 (.inr hf);omega);have hlen:=hone.rest.len (ps:=nums a.1) (hS.ps ham);have hcost:=aAG hsrt hx
 -- what its container has
 have huse:costS a.1<=nd.use:=by
  have hu:=hS.inv.use a.1.box nd (by rw [<-hS.ns];exact n1) n2;have h2:=nY (f:=costB a.1.box) (l:=M.sps) (λs _=>by unfold costB;split;have:=cE (s:=s);omega;exact Int.le_refl _) a.1 (hS.in_ ham);have h3:costB a.1.box a.1=costS a.1:=by unfold costB;rw [if_pos rfl]
  rw [h3] at h2;split at hu<;>omega
 have hca:(a.2.tl.length:Int)+(ownP a.1).length=costS a.1:=by unfold costS;rw [hlen]
 obtain ⟨lm,h⟩:=macG.openOne h;unfold qeo_A qeo_G;simp only [aJ,add_at,Nat.zero_add];refine ld_S (i:=7) h rfl rfl ?_;refine gH (k:=8) h rfl aR (by have:=(hS.regs ham).1;omega) (λz=>by unfold lookR at hy;rw [z] at hy;cases hy) λr hf _ _ _=>?_;have hr:attrR r=y:=by rw [bO,hf] at hy;exact Option.some.inj hy
 have hrk:r.k=kdR a.1.regs p:=by rw [hkd,<- hr];rfl
 refine bQ (i:=7) h rfl rfl (bQ (i:=7) h rfl rfl (prs (k:=3) h rfl ⟨bQ (i:=7) h rfl rfl rfl,?_⟩));refine aC1 (i:=a.1.box) h n1 n2 (by omega) hG hone.rest (λz=>by rw [hw] at z;cases z) λw' gl W1 tab1 tl1 A1 hw' hglG hgl hlen1 hgn hmem hR1 hW1 hHi h1=>?_;rw [hw] at hw';cases hw'
 have hpermT:a.2.tl.Perm (tl1++gl):=by
  have f1:(a.2.tl.filter λy=>decide (y ∉ gl)).Perm tl1:=(List.perm_ext_iff_of_nodup (hone.rest.nd.filter _) hR1.nd).2 λf=>by rw [hmem,List.mem_filter,decide_eq_true_eq]
  have f2:=qB (λy=>decide (y ∉ gl)) a.2.tl;have f3:(a.2.tl.filter λy=>!decide (y ∉ gl)).Perm gl:=aCl (hone.rest.nd.filter _) (λf hf=>by have:=(List.mem_filter.1 hf).2;simpa using this) (by have:=f1.length_eq;omega);refine List.Perm.trans ?_ (f1.append f3);exact (List.filter_append_perm _ _).symm
 have hps1:∀ q,q ∈ nums (remP a.1 p)↔setL (lfS φ a.1) p none q≠none:=λq=>by
  rw [<-qY hsrt];constructor
  ·intro hq;obtain ⟨z,hz,rfl⟩:=List.mem_map.1 hq;obtain ⟨z1,z2⟩:=eO.1 hz;rw [qY hsrt];unfold setL;rw [if_neg z2];exact (hS.ps ham _).1 (List.mem_map_of_mem z1)
  ·intro hq;rw [qY hsrt] at hq;unfold setL at hq;split at hq
   ·simp_all
   ·rename_i c;obtain ⟨z,hz,rfl⟩:=List.mem_map.1 ((hS.ps ham q).2 hq);exact List.mem_map_of_mem (eO.2 ⟨hz,c⟩)
 have hgn2:gl.length=eN (nums (remP a.1 p)) p:=by rw [hgn,hR1.need hps1]
 obtain ⟨gn,hgnE⟩:∃ gn,gn=if kdR a.1.regs p=0 then φ x.key::gl else gl:=⟨_,rfl⟩
 have hgnl:costS (remP a.1 p)-costS a.1 = -(gn.length:Int):=by grind
 have hfin:∀ A3,Own (macG c { g with F:=λy=>g.F y\/y ∈ gn,G:=λy=>g.G y/\y ∉ gn,W:=W1,n:=g.n+gn.length,ns:=useN g.ns a.1.box nd (nd.use-gn.length) } (ownC a::l)) A3->qen_A (some ⟨c.m,0,none⟩) a.1.id p (λh34=>Q h34) A3:=λA3 h3=>by
  refine aE9 h3 λls' A4 hls h4=>?_;have hinv:=hS.inv.rem hS.mem hx hnb
  have hsub:∀ k ∈ ownK (pre.map (·.1)++remP a.1 p::post.map (·.1)),k ∈ ownK M.sps:=λk hk=>by
   rw [hS.mem];rw [cO.mem_iff,List.mem_append] at hk ⊢;rcases hk with hk | hk
   ·left;obtain ⟨z,hz,rfl⟩:=List.mem_map.1 hk;obtain ⟨z1,z2⟩:=cJ.1 hz;exact List.mem_map_of_mem (cJ.2 ⟨(eO.1 z1).1,z2⟩)
   ·exact .inr hk
  rw [hS.pay (s':=remP a.1 p) rfl] at hk;have htl1:∀ f ∈ tl1,f ∈ a.2.tl/\f ∉ gn:=λf hf=>by grind
  refine hk { g with F:=λy=>g.F y\/y ∈ gn,G:=λy=>g.G y/\y ∉ gn,W:=W1,n:=g.n+gn.length,ns:=useN g.ns a.1.box nd (nd.use-gn.length),ls:=ls' } (remP a.1 p,{ a.2 with tab:=tab1,tl:=tl1 }) A4
   (hS.less (g':={ g with F:=λy=>g.F y\/y ∈ gn,G:=λy=>g.G y/\y ∉ gn,W:=W1,n:=g.n+gn.length,ns:=useN g.ns a.1.box nd (nd.use-gn.length),ls:=ls' }) (gn:=gn) rfl rfl (by simp) hinv rfl ?_ ?_ hS.pc ?_ (λ_=>Iff.rfl) (λ_=>Iff.rfl) ⟨?_,⟨?_,λj j1 j2=>?_⟩,hone.lnd,λq=>?_,hone.sl⟩ (λf hf hf2=>hW1 f hf2) (λk hk i=>?_) ?_) rfl rfl rfl rfl h4
  ·show useN g.ns a.1.box nd (nd.use-gn.length)=addU M.ns a.1.box _;rw [hgnl,jU (by rw [<-hS.ns];exact n1),hS.ns];rfl
  ·show g.n+gn.length=sumZ rmN (addU M.ns a.1.box _);rw [hgnl,jB (by rw [<-hS.ns];exact n1) n2,hS.n];omega
  ·rw [hgnE];exact aI1 (tl':=[]) hsrt hx hpermT
  ·show Rest _ W1 a.2.root tab1 (lfS φ (remP a.1 p)) tl1;rw [qY hsrt];exact hR1.keep (λ_ _=>rfl) λf hf=>⟨hS.fr_tl ham (htl1 f hf).1,(htl1 f hf).2⟩
  ·obtain ⟨b1,b2,b3⟩:=hone.rt.k;exact ⟨b1,b2,by show W1 a.2.root 256=_;rw [hHi 256 (by omega)];exact b3⟩
  ·show W1 a.2.root j=0;rw [hHi j (by omega)];exact hone.rt.z j j1 j2
  ·show a.2.lent.lookup q=_;rw [aBH hsrt];by_cases e:q=p
   ·subst e;rw [if_pos rfl,hone.lent,hx];simp [hl0]
   ·rw [if_neg e];exact hone.lent q
  ·show W1 (φ k) i=M.wd k i;have hk2:=hsub k hk;rw [hW1 _ ((hS.data hk2).2.1 a ham)];exact hS.wd k hk2 i
  ·refine LnOK.forget hS.pc hS.ln hls λi q hiq=>?_;have e1:pre.map (·.1)++remP a.1 p::post.map (·.1)=(pre++(remP a.1 p,a.2)::post).map (·.1):=by simp
   have e2:M.sps=(pre++a::post).map (·.1):=by rw [hS.mem];simp
   have hn:=hS.nodupI;rw [e2,List.map_map] at hn;show lfL φ (pre.map (·.1)++remP a.1 p::post.map (·.1)) i q=lfL φ M.sps i q;rw [e1,e2,eV (a:=a) (a':=(remP a.1 p,a.2)) (φ:=φ) hn rfl λ_ _ _ _=>rfl,eV (a:=a) (a':=a) (φ:=φ) hn rfl λ_ _ _ _=>rfl];by_cases e:i=a.1.id
   ·rw [if_pos e,if_pos e,qY hsrt];unfold setL;rw [if_neg (λz=>by rcases hiq with w | w;exact w e;exact w z)]
   ·rw [if_neg e,if_neg e]
 refine ⟨λA'=>Own (macG c { g with F:=λy=>g.F y\/y ∈ gn,G:=λy=>g.G y/\y ∉ gn,W:=W1,n:=g.n+gn.length,ns:=useN g.ns a.1.box nd (nd.use-gn.length) } (ownC a::l)) A',hfin,aG rfl ?_⟩;rw [hrk];by_cases e:kdR a.1.regs p=0
 ·rw [e];rw [if_pos e] at hgnE;have hfgl:φ x.key ∉ gl:=λz=>hdat.2.1 a ham (hgl _ z);refine aG rfl (bQ (i:=7) h1 rfl rfl (prs (k:=3) h1 rfl ?_));rw [hwf];refine jH (i:=a.1.box) (nd:={ nd with use:=nd.use-gl.length }) h1 (useN_at n1 _) n2 ⟨hdat.1,hfgl⟩ ?_ λA2 h2=>macG.closeOne (lm:=lm) ?_
  ·rw [e] at hcost;simp only;have:=cE (s:=remP a.1 p);simp at hcost;omega
  ·have e1:Bud c.b (λy=>(g.F y\/y ∈ gl)\/y=φ x.key) (λy=>(g.G y/\y ∉ gl)/\y≠φ x.key) (g.n+gl.length+1)=Bud c.b (λy=>g.F y\/y ∈ gn) (λy=>g.G y/\y ∉ gn) (g.n+gn.length):=aAS (λy=>by rw [hgnE];simp only [List.mem_cons];rw [or_assoc];exact or_congr Iff.rfl or_comm) (λy=>by rw [hgnE];simp only [List.mem_cons,not_or];rw [and_assoc];exact and_congr Iff.rfl and_comm) (by rw [hgnE];simp;omega)
   have e2:useN (useN g.ns a.1.box nd (nd.use-gl.length)) a.1.box { nd with use:=nd.use-gl.length } (nd.use-gl.length-1)=useN g.ns a.1.box nd (nd.use-gn.length):=by
    unfold useN;rw [List.set_set];congr 2;rw [hgnE];simp;omega
   have h2:Own (RamW c.r c.N [] W1::Bud c.b (λy=>(g.F y\/y ∈ gl)\/y=φ x.key) (λy=>(g.G y/\y ∉ gl)/\y≠φ x.key) (g.n+gl.length+1)::TreeS c.t (useN (useN g.ns a.1.box nd (nd.use-gl.length)) a.1.box { nd with use:=nd.use-gl.length } (nd.use-gl.length-1))::At c.m (mcC c)::MapI c.sp .i64 g.sps::TlbS c.tl g.ls::PcS c.tg g.z::(mY a.2.p lm a.1.box a.2.root a.2.s a.1.regs a.2.lent++l)) A2:=h2;rw [e1,e2] at h2;exact h2
 ·rw [if_neg e] at hgnE;subst hgnE;exact bsel_f (by simpa using e) (macG.closeOne h1)
end Go.Dn
namespace Go.Dn
variable {A:AH} {l R:List SP} {c:Mc} {g g':Sg} {L pre post:List Sc} {M:Mm} {φ:Int->Int} {a a':Sc} {s s':Sm} {k p q:Int} {x:Pg}
theorem aBR {l:List Int}:∀ z ∈ borP (remL s l),z ∈ borP s:=λz e=>by
 obtain ⟨b,d⟩:=lP.1 e;rw [kJ] at b;rw [(eP l s).2.2] at d;exact lP.2 ⟨(List.mem_filter.1 b).1,d⟩
theorem aCv {ps:List Int} {v:Nat} {n:Int} (b:ps.Nodup) (d:ps[v]? = some n):n ∉ ps.take v:=λz=>by
 have e:ps=ps.take v++ps.drop v:=(List.take_append_drop v ps).symm;rw [e,List.nodup_append] at b;refine b.2.2 n z n ?_ rfl;refine List.mem_of_getElem? (i:=0) ?_;simpa using d
theorem aGz {id:Int} {Q:Int->AH->Prop} (h:Own (MacS c M φ::R) A) (O:bA M) (y:∀ A',bA (fA M id p q).1->Own (MacS c (fA M id p q).1 φ::R) A'->Q (fA M id p q).2 A'):qep_A (some ⟨c.m,0,none⟩) id p q Q A:=by
 obtain ⟨g,L,d,h⟩:=MacS.openH h;unfold qep_A qep_G;simp only [aJ,add_at,Nat.zero_add];cases hf:findS M id with
 | none=>
  have e:fA M id p q=(M,5):=by unfold fA;rw [hf]
  rw [e] at y;exact jY h d hf ⟨none,rfl,aG rfl (y A O (MacS.closeH d h))⟩
 | some s=>
  obtain ⟨a,pre,post,rfl,rfl,rfl,_⟩:=d.has hf;have o:a ∈ pre++a::post:=cmid_iff.2 (.inl rfl);have E:=d.inv.pgs _ (d.in_ o);have h1:=macG.focus h
  have eM:fA M a.1.id p q=if gU a.1.regs p q≠0 then (M,gU a.1.regs p q) else if gW a.1 p q=true then (M,11) else (payM M a.1 { a.1 with regs:=cutR a.1.regs p q,pgs:=a.1.pgs.filter λg=>!inZ p q g.num },0):=by unfold fA;rw [hf]
  refine uJ h1 d ⟨some ⟨a.2.p,0,none⟩,rfl,bsel_f rfl ?_⟩;obtain ⟨lm,h2⟩:=macG.openOne h1;simp only [aJ,add_at,Nat.zero_add];refine ld_S (i:=7) h2 rfl rfl ?_;refine zO (k:=8) h2 rfl aR (λA3 h3 K=>?_) λsl A3 K hsl h3=>bsel_f rfl ?_
  .rw [eM,if_pos K] at y;exact aG (by simpa using K) (y A3 O (MacS.closeH d (macG.unfocus (macG.closeOne h3))))
  rw [eM,if_neg (by simp [K])] at y;have h4:Own (macG c g (ownC a::SlO sl 6 (regC (cutR a.1.regs p q))::((pre++post).map ownC++R))) A3:=macG.mapR (λC H=>H.swap) (macG.backX (h3.cons λC H=>macG.closeOne H));refine aHr h4 (d.one a o) E (d.regs o).1 λA4 h5=>?_;refine bsel_in (λP=>?_) λP=>?_
  .rw [if_pos P] at y;exact y A4 O (MacS.closeH d (macG.unfocus (macG.mapR (λC H=>H.cons λD hD=>hD.tail) h5)))
  rw [if_neg (by rw [P];simp)] at y;refine aJd h5 d λB ps A5 hn12 I hpl h6=>?_;have hnd:ps.Nodup:=by rw [I];exact (E.imp λh=>by omega).filter _
  have hl12:B.len=ps.length:=by have:=dV (i:=8) h6 rfl aR;unfold intsV at this;simp at this;omega
  have S:∀ n ∈ ps,∃ z ∈ a.1.pgs,z.num=n/\inZ p q n=true:=λn u=>by
   rw [I] at u;obtain ⟨n1,n2⟩:=List.mem_filter.1 u;obtain ⟨z,z1,T⟩:=List.mem_map.1 n1;exact ⟨z,z1,T,n2⟩
  refine ⟨λx m A'=>∃ (v:Nat) (g':Sg) (a':Sc),x=v/\m+v=ps.length/\aZ c g' (pre++a'::post) (payM M a.1 (remL a.1 (ps.take v))) φ/\a'.1=remL a.1 (ps.take v)/\a'.2.p=a.2.p/\
   Own (macG c g' (ownC a'::SlO B 1 (intsV ps)::SlO sl 6 (regC (cutR a.1.regs p q))::((pre++post).map ownC++R))) A',⟨ps.length,0,g,a,rfl,rfl,?_,rfl,rfl,h6⟩,?_⟩
  .have e:payM M a.1 (remL a.1 (ps.take 0))=M:=by
    show payM M a.1 a.1=M;rw [d.pay rfl,Int.sub_self,addU_zero,<- d.mem]
   rw [e];exact d
  intro x m A6 ⟨v,g',a',e1,e2,r,b,U,h7⟩;subst e1;have J:a'.1.id=a.1.id:=by rw [b];exact (eP _ _).1
  have V:a'.1.box=a.1.box:=by rw [b];exact (eP _ _).2.1
  have W:a'.1.regs=a.1.regs:=by rw [b];exact (eP _ _).2.2
  have F:(payM M a.1 (remL a.1 (ps.take v))).sps=pre.map (·.1)++a'.1::post.map (·.1):=by
   rw [d.pay (s':=remL a.1 (ps.take v)) (by rw [<-b];exact J),b]
  refine bsel_in (λN=>?_) λN=>?_
  .have N:(v:Int)<B.len:=of_decide_eq_true N;obtain ⟨n,u⟩:∃ n,ps[v]? = some n:=⟨ps[v]'(by omega),by simp⟩;obtain ⟨ad,q1,q2⟩:=aKd (k:=8) h7 rfl aR u;rw [q1];refine inB_in (by omega) N (q2 _ ?_);obtain ⟨z,z1,T,z3⟩:=S n (List.mem_of_getElem? u);obtain ⟨b1,b2,b3⟩:=vN O (d.in_ o) P z1 (by rw [T];exact z3)
   have hz':z ∈ a'.1.pgs:=by
    rw [b,kJ];refine List.mem_filter.2 ⟨z1,?_⟩;have:=aCv hnd u;rw [T];simpa using this
   have X:a' ∈ pre++a'::post:=cmid_iff.2 (.inl rfl);have Y:=bR (r.inv.pgs _ (r.in_ X)) hz';rw [T] at Y;rw [<-J,<- U];refine aHn r h7 Y b1 (λ_ f=>b3 ?_) λg2 a2 A7 Z e21 e22 _ _ h8=>⟨m-1,by omega,v+1,g2,a2,by rw [w64]<;>omega,by omega,?_,?_,e22,h8⟩
   .rw [F,dQ.mem_iff,List.mem_append] at f;rw [d.mem,dQ.mem_iff,List.mem_append];rcases f with f | f
    .obtain ⟨w,w1,w2⟩:=List.mem_map.1 f;rw [b] at w1;exact .inl (List.mem_map.2 ⟨w,aBR w w1,w2⟩)
    .exact .inr f
   .rw [b] at Z;rw [cN u,nU];have j:=eP (ps.take v) a.1;rwa [lN j.1 (by exact j.1) j.2.1] at Z
   .rw [e21,b,cN u,nU]
  .have N:¬ (v:Int)<B.len:=of_decide_eq_false N;rw [List.take_of_length_le (by omega)] at r b F
   have G:a'.1.pgs=a.1.pgs.filter λg=>!inZ p q g.num:=by
    rw [b,kJ];apply List.filter_congr;intro z hz;congr 1;rw [Bool.eq_iff_iff,List.contains_iff_mem,I,List.mem_filter];exact ⟨λw=>w.2,λw=>⟨List.mem_map_of_mem hz,w⟩⟩
   obtain ⟨c1,c2⟩:=tK (d.inv.good _ (d.in_ o)) K
   have hre:∀ n ∈ nums a'.1,lookR (cutR a.1.regs p q) n=lookR a'.1.regs n:=λn u=>by
    obtain ⟨z,hz,rfl⟩:=List.mem_map.1 u;rw [G] at hz;have:=(List.mem_filter.1 hz).2;rw [c2,W,if_neg];unfold inZ at this;simp only [Bool.not_eq_true',Bool.and_eq_false_iff,decide_eq_false_iff_not] at this;omega
   have hU:=r.regsU (r':=cutR a.1.regs p q) (sl:=sl) hre c1 hsl;have j:=eP ps a.1
   have e5:({ a'.1 with regs:=cutR a.1.regs p q }:Sm) = { a.1 with regs:=cutR a.1.regs p q,pgs:=a.1.pgs.filter λg=>!inZ p q g.num }:=by
    rw [<-G];show (⟨a'.1.id,a'.1.box,cutR a.1.regs p q,a'.1.pgs⟩:Sm)=⟨a.1.id,a.1.box,cutR a.1.regs p q,a'.1.pgs⟩;rw [J,V]
   have e6:payM (payM M a.1 (remL a.1 ps)) a'.1 { a'.1 with regs:=cutR a.1.regs p q } = payM M a.1 { a.1 with regs:=cutR a.1.regs p q,pgs:=a.1.pgs.filter λg=>!inZ p q g.num }:=by
    rw [e5,b];exact lN (s:=a.1) (t:=remL a.1 ps) j.1 rfl j.2.1
   rw [e6] at hU;rw [<-U];refine aHb (l:=(pre++post).map ownC++R) (macG.mapR (λC H=>H.cons λD hD=>hD.tail) h7) λA7 h8=>y A7 ?_ (MacS.closeH hU (macG.unfocus h8));rw [d.pay (s':={ a.1 with regs:=cutR a.1.regs p q,pgs:=a.1.pgs.filter λg=>!inZ p q g.num }) rfl];refine O.unmap d.mem (λ_=>?_) rfl K P;have:=hU.inv;rwa [d.pay (s':={ a.1 with regs:=cutR a.1.regs p q,pgs:=a.1.pgs.filter λg=>!inZ p q g.num }) rfl] at this
end Go.Dn
namespace Go.Dn
variable {M:Mm} {s s' t:Sm} {pre post l:List Sm} {g x:Pg} {p q k f d id:Int} {φ:Int->Int} {pw pu px:Bool}
def bumpG (p d:Int) (g:Pg):Pg:=if g.num=p then { g with lent:=g.lent+d } else g
def bumpS (p d:Int) (s:Sm):Sm:={ s with pgs:=s.pgs.map (bumpG p d) }
def bumpM (M:Mm) (id p d:Int):Mm:={ M with sps:=M.sps.map λs=>if s.id==id then bumpS p d s else s }
theorem iK:(bumpG p d g).num=g.num:=by unfold bumpG;split<;>rfl
theorem kU:(bumpG p d g).key=g.key:=by unfold bumpG;split<;>rfl
theorem xR:nums (bumpS p d s)=nums s:=by
 unfold nums bumpS;simp only [List.map_map];exact List.map_congr_left λx _=>iK
theorem kR:ownP (bumpS p d s)=(ownP s).map (bumpG p d):=by
 unfold ownP bumpS;simp only;rw [List.filter_map];congr 1;apply List.filter_congr;intro x _;simp only [Function.comp,iK]
theorem aFt:borP (bumpS p d s)=(borP s).map (bumpG p d):=by
 unfold borP bumpS;simp only;rw [List.filter_map];congr 1;apply List.filter_congr;intro x _;simp only [Function.comp,iK]
theorem t5 (l:List Pg):(l.map (bumpG p d)).map (·.key)=l.map (·.key):=by
 rw [List.map_map];exact List.map_congr_left λx _=>kU
theorem yT:costS (bumpS p d s)=costS s:=by
 unfold costS;rw [xR,kR,List.length_map]
theorem aC7:pgAt (bumpS p d s) q=(pgAt s q).map (bumpG p d):=by
 unfold pgAt bumpS;simp only;rw [List.find?_map];congr 1
 have:((λg:Pg=>g.num==q) ∘ bumpG p d)=λg=>g.num==q:=by
  funext x;simp only [Function.comp,iK]
 rw [this]
theorem aCL:lfS φ (bumpS p d s)=lfS φ s:=by
 funext n
 have b:lfS φ (bumpS p d s) n=match pgAt (bumpS p d s) n,lookR s.regs n with
  | some g,some a=>some ⟨φ g.key,a.1,a.2.1,a.2.2.1⟩
  | _,_=>none:=rfl
 rw [b,aC7];unfold lfS;cases e:pgAt s n with
 | none=>cases lookR s.regs n<;>rfl
 | some x=>
  cases lookR s.regs n with
  | none=>rfl
  | some a=>simp only [Option.map_some,kU]
theorem sU:g ∈ (bumpS p d s).pgs↔∃ x ∈ s.pgs,bumpG p d x=g:=by unfold bumpS;simp
theorem zP {pre post:List Sm} (hs:M.sps=pre++s::post) (a:(M.sps.map (·.id)).Nodup):(bumpM M s.id p d).sps=pre++bumpS p d s::post:=by
 unfold bumpM;rw [hs] at a ⊢
 exact (by
  have b:=xB (s:=s) (s':=bumpS p d s) (pre:=pre) (post:=post) a rfl;unfold putS at b;simp only;rw [<-b];apply List.map_congr_left;intro x h;by_cases e:x.id=s.id
  .have c:(x.id==(bumpS p d s).id)=true:=by show (x.id==s.id)=true;simpa using e
   rw [if_pos (by simp_all),if_pos c];have:x=s:=by grind
   rw [this]
  .have c:(x.id==(bumpS p d s).id)=false:=by show (x.id==s.id)=false;simpa using e
   rw [if_neg (by simp_all),if_neg (by simp_all)])
theorem InvL.bump (h:InvL M) (hs:M.sps=pre++s::post):InvL ⟨pre++bumpS p d s::post,M.ns,M.keys,M.wd⟩:=by
 have a:s ∈ M.sps:=by rw [hs];exact mid_iff.2 (.inl rfl)
 have j:ownK (pre++bumpS p d s::post)=ownK M.sps:=by
  rw [hs,bY,bY,bZ,bZ,kR,t5]
 have b:∀ e,M.ns[s.box]? = some e->costS (bumpS p d s)-costS s<=e.room:=λe n=>by
  have m:=h.live s a;unfold liveN at m;rw [n] at m;have:=(h.tree.room n m).1;rw [yT];omega
 have:=h.pay (s':=bumpS p d s) (k':=M.keys) (wd':=M.wd) hs rfl rfl (h.good s a) (by rw [xR];exact h.pgs s a) (λy c=>by
  obtain ⟨z,i,rfl⟩:=sU.1 c;rw [iK];exact h.reg s a z i) (by rw [j];exact h.own) (λy c z i=>by
  rw [j];rcases mid_iff.1 c with rfl | c
  .obtain ⟨w,o,rfl⟩:=sU.1 i;rw [kU];exact h.src s a w o
  .exact h.src y (by grind) z i) (by rw [j];exact h.key) h.zero h.keys0 b
 rw [yT,Int.sub_self,addU_zero] at this;exact this
structure aDT (M:Mm) (k d:Int):Prop extends InvL M where
 kind:∀ s ∈ M.sps,∀ q a,lookR s.regs q=some a->a.2.2.2=0\/a.2.2.2=1
 bor:∀ s ∈ M.sps,∀ q a,lookR s.regs q=some a->a.2.2.2=1->∃ g ∈ s.pgs,g.num=q/\g.lent=0
 lent:∀ s ∈ M.sps,∀ g ∈ ownP s,g.lent=((borK M.sps).count g.key:Nat)-if g.key=k then d else 0
theorem yX {α β γ:Type} (f:β->γ) (g:α->List β):∀ l:List α,(l.flatMap g).map f=l.flatMap λa=>(g a).map f
 | []=>rfl
 | x::r=>by rw [List.flatMap_cons,List.map_append,yX f g r,List.flatMap_cons]
theorem aAN (h:InvL M) {s t:Sm} (hs:s ∈ M.sps) (i:t ∈ M.sps) {x y:Pg} (j:x ∈ ownP s) (m:y ∈ ownP t) (e:x.key=y.key):s=t/\x=y:=by
 have n:((M.sps.flatMap λs=>(ownP s).map λg=>(s.id,g.num,g.key)).map λz=>z.2.2).Nodup:=by
  rw [yX]
  have:(M.sps.flatMap λa=>((ownP a).map λg=>(a.id,g.num,g.key)).map λz=>z.2.2)=ownK M.sps:=by
   unfold ownK;congr 1;funext a;rw [List.map_map];rfl
  rw [this];exact h.own
 have o:(s.id,x.num,x.key) ∈ M.sps.flatMap λs=>(ownP s).map λg=>(s.id,g.num,g.key):=List.mem_flatMap.2 ⟨s,hs,List.mem_map.2 ⟨x,j,rfl⟩⟩;have r:(t.id,y.num,y.key) ∈ M.sps.flatMap λs=>(ownP s).map λg=>(s.id,g.num,g.key):=List.mem_flatMap.2 ⟨t,i,List.mem_map.2 ⟨y,m,rfl⟩⟩;have b:=iE n o r e;simp only [Prod.mk.injEq] at b;have c:s=t:=iE (f:=λs:Sm=>s.id) (iG h.srt) hs i b.1;subst c;refine ⟨rfl,?_⟩;have e1:=bR (h.pgs s hs) (cJ.1 j).1;have u:=bR (h.pgs s hs) (cJ.1 m).1;rw [b.2.1,u] at e1;exact (Option.some.inj e1).symm
theorem aDT.bump (h:aDT M k d) (hs:M.sps=pre++s::post) (v:pgAt s p=some x) (C:x.key=k) (c:kdR s.regs p=0):bA ⟨pre++bumpS p d s::post,M.ns,M.keys,M.wd⟩:=by
 have b:s ∈ M.sps:=by rw [hs];exact mid_iff.2 (.inl rfl)
 have i:∀ x,x ∈ pre++post->x ∈ M.sps:=λx v=>by rw [hs];exact mid_iff.2 (.inr v)
 have I:borK (pre++bumpS p d s::post)=borK M.sps:=by
  rw [hs,dG,dG,cT,cT,aFt,t5]
 obtain ⟨J,F⟩:=aL v;have o:x ∈ ownP s:=cJ.2 ⟨J,by rw [F];exact c⟩;refine { h.toInvL.bump hs with kind:=λy j=>?_,bor:=λy j n a r u=>?_,lent:=λy j z A=>?_ }
 .rcases mid_iff.1 j with rfl | j
  .exact h.kind s b
  .exact h.kind y (i y j)
 .rcases mid_iff.1 j with rfl | j
  .obtain ⟨w,K,G,L⟩:=h.bor s b n a r u;refine ⟨bumpG p d w,sU.2 ⟨w,K,rfl⟩,by rw [iK];exact G,?_⟩;unfold bumpG;rw [if_neg]
   .exact L
   .intro e;have r:lookR s.regs n=some a:=r;unfold kdR at c;rw [<-e,G,r] at c;simp only at c;omega
  .exact h.bor y (i y j) n a r u
 .show z.lent=((borK (pre++bumpS p d s::post)).count z.key:Nat);rw [I];rcases mid_iff.1 j with rfl | m
  .rw [kR] at A;obtain ⟨w,D,rfl⟩:=List.mem_map.1 A;have B:=h.lent s b w D;rw [kU];unfold bumpG;by_cases e:w.num=p
   .have:w=x:=by
     have e1:=bR (h.pgs s b) (cJ.1 D).1;rw [e,v] at e1;exact (Option.some.inj e1).symm
    subst this;rw [if_pos C] at B;rw [if_pos e];simp only;omega
   .rw [if_neg e]
    rw [if_neg (λz=>e (by
     have:=(aAN h.toInvL b b D o (by rw [z,C])).2;rw [this];exact F))] at B
    omega
  .have B:=h.lent y (i y m) z A;rw [if_neg] at B
   .omega
   .intro e;have E:=(aAN h.toInvL (i y m) b A o (by rw [e,C])).1;subst E;have H:=iG h.srt;rw [hs] at H;have N:((pre++y::post).map (·.id)).Perm (y.id::(pre++post).map (·.id)):=by simp_all
    have:=N.nodup_iff.1 H;rw [List.nodup_cons] at this;exact this.1 (List.mem_map.2 ⟨y,m,rfl⟩)
def borS (t:Sm) (y:Reg) (k:Int):Sm:=addP { t with regs:=addL t.regs y } y.a k
def eJ (M:Mm) (id page to at_:Int) (pw pu px:Bool):Mm × Int:=match findS M id,findS M to with
 | some s,some t=>match lookR s.regs page,pgAt s page with
  | some r,some x=>if r.2.2.2≠0 then (M,5) else if ((pw&&!r.1) || (px&&!r.2.2.1))=true then (M,10)
   else if cG t.regs ⟨at_,at_+1,pw,pu,px,1⟩≠0 then (M,cG t.regs ⟨at_,at_+1,pw,pu,px,1⟩)
   else if roomN M.ns t.box<costS (borS t ⟨at_,at_+1,pw,pu,px,1⟩ x.key)-costS t then (M,8)
   else (bumpM (payM M t (borS t ⟨at_,at_+1,pw,pu,px,1⟩ x.key)) id page 1,0)
  | _,_=>(M,5)
 | _,_=>(M,5)
theorem pS {L:List Reg} {y:Reg} (a:cG L y=0):rightB y.a y.b=true:=by
 unfold cG at a;split at a
 .omega
 .simp_all
theorem kF (h:InvL M) (i:t ∈ M.sps) {y:Reg} (w:y.b=y.a+1) (j:y.k=1) (c:cG t.regs y=0):pgAt t y.a=none/\(∀ q ∈ nums t,lookR (addL t.regs y) q=lookR t.regs q)/\goodB (addL t.regs y)=true/\
  lookR (addL t.regs y) y.a=some (attrR y)/\pgAt { t with regs:=addL t.regs y } y.a=none/\kdR (addL t.regs y) y.a=1/\∀ q,q≠y.a->lookR (addL t.regs y) q=lookR t.regs q:=by
 have m:=h.good t i;obtain ⟨o,_,r⟩:=kN m (pS c) c;have hno:lookR t.regs y.a=none:=aCg m c (by omega)
 have a:pgAt t y.a=none:=by
  cases e:pgAt t y.a with
  | none=>rfl
  | some x=>
   obtain ⟨u,z⟩:=aL e;exact absurd (by simp_all) (h.reg t i x u)
 have b:lookR (addL t.regs y) y.a=some (attrR y):=by rw [r,if_pos (by omega)]
 refine ⟨a,λq n=>?_,o,b,a,?_,λq n=>?_⟩
 .obtain ⟨x,v,rfl⟩:=List.mem_map.1 n;exact wK m c (h.reg t i x v)
 .unfold kdR;rw [b];exact j
 .grind
theorem aAp (h:InvL M) (b:t ∈ M.sps) {y:Reg} (c:y.b=y.a+1) (a:y.k=1) (e:cG t.regs y=0):costS (borS t y k)=costS t+eN (nums t) y.a:=by
 obtain ⟨m,i,n,o,r,j,u⟩:=kF h b c a e;unfold borS;rw [nT,cost_regs i];show costS t+(eN (nums t) y.a:Int)+(if kdR (addL t.regs y) y.a=0 then 1 else 0)=_;rw [j,if_neg (by decide)];omega
theorem aCc (h:InvL M) (j:t ∈ M.sps) {y:Reg} (m:y.b=y.a+1) (a:y.k=1) (n:cG t.regs y=0):(ownP (borS t y k)).Perm (ownP t)/\(borP (borS t y k)).Perm (⟨y.a,k,0⟩::borP t):=by
 obtain ⟨r,i,u,v,w,o,z⟩:=kF h j m a n;have b:=lF (s:={ t with regs:=addL t.regs y }) (p:=y.a) (k:=k);have c:=aC2 (s:={ t with regs:=addL t.regs y }) (p:=y.a) (k:=k);have e:¬ kdR (addL t.regs y) y.a=0:=by rw [o];decide
 rw [if_neg e] at b c;rw [(fS i).1] at b;rw [(fS i).2] at c;exact ⟨b,c⟩
theorem bA.borrow (h:bA M) (hs:M.sps=pre++t::post) {y:Reg} (D:y.b=y.a+1) (v:y.k=1) (E:cG t.regs y=0) (I:k ∈ ownK M.sps) (i:¬ roomN M.ns t.box<costS (borS t y k)-costS t) :
  aDT ⟨pre++borS t y k::post,addU M.ns t.box (costS (borS t y k)-costS t),M.keys,M.wd⟩ k 1:=by
 have b:t ∈ M.sps:=by rw [hs];exact mid_iff.2 (.inl rfl)
 have u:∀ x,x ∈ pre++post->x ∈ M.sps:=λx c=>by rw [hs];exact mid_iff.2 (.inr c)
 obtain ⟨T,J,K,F,L,U,G⟩:=kF h.toInvL b D v E;obtain ⟨H,N⟩:=aCc (k:=k) h.toInvL b D v E
 have A:(ownK (pre++borS t y k::post)).Perm (ownK M.sps):=by
  rw [hs];exact cO.trans ((List.Perm.append_right _ (H.map (·.key))).trans cO.symm)
 have C:(borK (pre++borS t y k::post)).Perm (k::borK M.sps):=by
  rw [hs];refine dQ.trans ((List.Perm.append_right _ (N.map (·.key))).trans ?_);rw [List.map_cons];exact dQ.symm.cons k
 have r:∀ z,z ∈ (borS t y k).pgs↔z=⟨y.a,k,0⟩\/z ∈ t.pgs:=λz=>mem_addP
 have O:=h.toInvL.pay (s':=borS t y k) (k':=M.keys) (wd':=M.wd) hs rfl rfl K (mW (s:={ t with regs:=addL t.regs y }) (h.pgs t b) L) (λz o=>by
  show lookR (addL t.regs y) z.num≠none;rcases (r z).1 o with rfl | o
  .rw [F];simp
  .rw [J _ (List.mem_map_of_mem o)];exact h.reg t b z o) (A.nodup_iff.2 h.own) (λx c z o=>by
  rw [A.mem_iff];rcases mid_iff.1 c with rfl | c
  .rcases (r z).1 o with rfl | o
   .exact I
   .exact h.src t b z o
  .exact h.src x (u x c) z o) (λj P=>h.key j (A.mem_iff.1 P)) h.zero h.keys0 λe Q=>by
  unfold roomN at i;rw [Q] at i;simp only at i;omega
 refine { O with kind:=λx c n a m=>?_,bor:=λx c n a m B=>?_,lent:=λx c z o=>?_ }
 .rcases mid_iff.1 c with rfl | c
  .have m:lookR (addL t.regs y) n=some a:=m;by_cases e:n=y.a
   .rw [e,F] at m;cases m;exact .inr v
   .rw [G n e] at m;exact h.kind t b n a m
  .exact h.kind x (u x c) n a m
 .rcases mid_iff.1 c with rfl | c
  .have m:lookR (addL t.regs y) n=some a:=m;by_cases e:n=y.a
   .simp_all
   .rw [G n e] at m;obtain ⟨w,R,S⟩:=h.bor t b n a m B;exact ⟨w,(r w).2 (.inr R),S⟩
  .exact h.bor x (u x c) n a m B
 .show z.lent=((borK (pre++borS t y k::post)).count z.key:Nat)-if z.key=k then 1 else 0
  have V:z.lent=((borK M.sps).count z.key:Nat):=by
   rcases mid_iff.1 c with rfl | c
   .exact h.lent t b z (H.mem_iff.1 o)
   .exact h.lent x (u x c) z o
  rw [C.count_eq,List.count_cons];by_cases e:z.key=k
  .simp_all
  .grind
end Go.Dn
