/- What the proof stands on. -/
import Derived.Test.YtfnkdpmbpgffbaaGreatCut
import Derived.Test.YtfnkdpmbpgffbaaGreatMmL
namespace Go.Dn
variable {M:Mm} {s t:Sm} {pre post l:List Sm} {x y:Pg} {p q f d id:Int}
def retS (t:Sm) (p:Int):Sm:={ remP t p with regs:=cutR t.regs p (p+1) }
def fF (M:Mm) (id page to at_:Int):Mm × Int:=match findS M id,findS M to with
 | some s,some t=>match pgAt s page,pgAt t at_,lookR t.regs at_ with
  | some x,some y,some r=>if x.lent=0\/r.2.2.2≠1\/x.key≠y.key then (M,5) else (bumpM (payM M t (retS t at_)) id page (-1),0)
  | _,_,_=>(M,5)
 | _,_=>(M,5)
theorem sB (h:InvL M) (b:t ∈ M.sps) (c:gU t.regs p (p+1)=0):goodB (cutR t.regs p (p+1))=true/\(∀ q,q≠p->lookR (cutR t.regs p (p+1)) q=lookR t.regs q)/\lookR (cutR t.regs p (p+1)) p=none/\∀ q ∈ nums (remP t p),lookR (cutR t.regs p (p+1)) q=lookR (remP t p).regs q:=by
 obtain ⟨c1,c2⟩:=tK (h.good t b) c;refine ⟨c1,λq a=>by rw [c2,if_neg (by omega)],by rw [c2,if_pos (by omega)],λq a=>?_⟩;obtain ⟨z,e,rfl⟩:=List.mem_map.1 a;have:=(eO.1 e).2;rw [c2,if_neg (by omega)];rfl
theorem aFZ (h:InvL M) (a:t ∈ M.sps) (b:gU t.regs p (p+1)=0):costS (retS t p)=costS (remP t p):=cost_regs (sB h a b).2.2.2
theorem aGO (h:InvL M) (a:t ∈ M.sps) (b:gU t.regs p (p+1)=0):ownP (retS t p)=ownP (remP t p)/\borP (retS t p)=borP (remP t p):=fS (sB h a b).2.2.2
theorem bA.ret (h:bA M) (hs:M.sps=pre++t::post) (r:pgAt t p=some y) (j:kdR t.regs p=1) (u:gU t.regs p (p+1)=0) :
  aDT ⟨pre++retS t p::post,addU M.ns t.box (costS (retS t p)-costS t),M.keys,M.wd⟩ y.key (-1):=by
 have b:t ∈ M.sps:=by rw [hs];exact mid_iff.2 (.inl rfl)
 have i:∀ x,x ∈ pre++post->x ∈ M.sps:=λx g=>by rw [hs];exact mid_iff.2 (.inr g)
 obtain ⟨c1,c2,E,G⟩:=sB h.toInvL b u;have v:=h.toInvL.rem hs r (λz=>by rw [j] at z;cases z);have A:=v.regs (s:=remP t p) (pre:=pre) (post:=post) rfl G c1;have H:InvL ⟨pre++retS t p::post,addU M.ns t.box (costS (retS t p)-costS t),M.keys,M.wd⟩:=by rw [aFZ h.toInvL b u];exact A
 have k:=aH3 (h.pgs t b) r;have m:=rV (h.pgs t b) r;have e1:¬ kdR t.regs p=0:=by rw [j];decide
 rw [if_neg e1] at k m;obtain ⟨I,J⟩:=aGO h.toInvL b u
 have B:(borK M.sps).Perm (y.key::borK (pre++retS t p::post)):=by
  rw [hs];refine dQ.trans ((List.Perm.append_right _ (k.map (·.key))).trans ?_);rw [List.map_cons,<- J];exact dQ.symm.cons y.key
 refine { H with kind:=λx g n a c=>?_,bor:=λx g n a c o=>?_,lent:=λx g z C=>?_ }
 .rcases mid_iff.1 g with rfl | g
  .have c:lookR (cutR t.regs p (p+1)) n=some a:=c;by_cases e:n=p
   .rw [e,E] at c;cases c
   .rw [c2 n e] at c;exact h.kind t b n a c
  .exact h.kind x (i x g) n a c
 .rcases mid_iff.1 g with rfl | g
  .have c:lookR (cutR t.regs p (p+1)) n=some a:=c;by_cases e:n=p
   .rw [e,E] at c;cases c
   .rw [c2 n e] at c;obtain ⟨w,K,F,L⟩:=h.bor t b n a c o;exact ⟨w,eO.2 ⟨K,by rw [F];exact e⟩,F,L⟩
  .exact h.bor x (i x g) n a c o
 .show z.lent=((borK (pre++retS t p::post)).count z.key:Nat)-if z.key=y.key then -1 else 0
  have D:z.lent=((borK M.sps).count z.key:Nat):=by
   rcases mid_iff.1 g with rfl | g
   .rw [I] at C;exact h.lent t b z (m.mem_iff.2 C)
   .exact h.lent x (i x g) z C
  rw [B.count_eq,List.count_cons] at D;by_cases e:z.key=y.key
  .rw [if_pos (by simpa using e.symm)] at D;rw [if_pos e];omega
  .rw [if_neg (by simpa using λq=>e q.symm)] at D;rw [if_neg e];omega
def delS (l:List Sm) (id:Int):List Sm:=l.filter λs=>s.id != id
theorem aIu (h:((pre++s::post).map (·.id)).Nodup):delS (pre++s::post) s.id=pre++post:=by
 have ne:∀ x ∈ pre++post,x.id≠s.id:=λx a e=>by
  have b:((pre++s::post).map (·.id)).Perm (s.id::(pre++post).map (·.id)):=by
   rw [List.map_append,List.map_cons,List.map_append];exact List.perm_middle
  have:=b.nodup_iff.1 h;rw [List.nodup_cons] at this;exact this.1 (List.mem_map.2 ⟨x,a,e⟩)
 unfold delS;rw [List.filter_append,List.filter_cons_of_neg (by simp),<- List.filter_append];exact List.filter_eq_self.2 λx a=>by simpa using ne x a
def eD (M:Mm) (id:Int):Mm × Int:=match findS M id with
 | none=>(M,5)
 | some s=>if gW s 0 34359738368=true then (M,11) else ({ M with sps:=delS M.sps id,ns:=addU M.ns s.box (-costS s) },0)
theorem bA.shut (h:bA M) (hs:M.sps=pre++s::post) (G:∀ z ∈ s.pgs,kdR s.regs z.num=0/\z.key ∉ borK M.sps):bA ⟨pre++post,addU M.ns s.box (-costS s),M.keys,M.wd⟩:=by
 have i:s ∈ M.sps:=by rw [hs];exact mid_iff.2 (.inl rfl)
 have a:∀ x,x ∈ pre++post->x ∈ M.sps:=λx b=>by rw [hs];exact mid_iff.2 (.inr b)
 have g:=h.live s i
 obtain ⟨e,A,r⟩:∃ d,M.ns[s.box]? = some d/\d.live=true:=by
  unfold liveN at g;cases e:M.ns[s.box]? with
  | none=>rw [e] at g;cases g
  | some d=>rw [e] at g;exact ⟨d,rfl,g⟩
 have L:=h.use s.box e A r
 have N:costS s<=sumZ (costB s.box) M.sps:=by
  have H:=nY (f:=costB s.box) (l:=M.sps) (λx _=>by unfold costB;split;have:=cE (s:=x);omega;exact Int.le_refl _) s i;have O:costB s.box s=costS s:=by unfold costB;rw [if_pos rfl]
  rw [O] at H;exact H
 have P:=(h.tree.room A r).1;have k:(ownK M.sps).Perm ((ownP s).map (·.key)++ownK (pre++post)):=by rw [hs];exact cO
 have B:borP s=[]:=List.filter_eq_nil_iff.2 λz m=>by simp [(G z m).1]
 have C:(borK M.sps).Perm (borK (pre++post)):=by
  rw [hs];refine dQ.trans ?_;rw [B];exact List.Perm.refl _
 refine { srt:=?_,good:=λx b=>h.good x (a x b),pgs:=λx b=>h.pgs x (a x b),reg:=λx b=>h.reg x (a x b),own:=(List.nodup_append.1 (k.nodup_iff.1 h.own)).2.1,src:=λx b z m=>?_,key:=λj Q=>h.key j (k.mem_iff.2 (List.mem_append_right _ Q)),zero:=h.zero,keys0:=h.keys0,tree:=h.tree.addU A (by split at L<;>omega) (by have:=cE (s:=s);omega),live:=λx b=>?_,use:=λj d c n=>?_,kind:=λx b=>h.kind x (a x b),bor:=λx b=>h.bor x (a x b),lent:=λx b z m=>?_ }
 .have:=h.srt;rw [hs] at this;refine this.sublist ?_;refine List.Sublist.map _ ?_;exact List.Sublist.append_left (List.sublist_cons_self _ _) pre
 .have u:=h.src x (a x b) z m;rcases List.mem_append.1 (k.mem_iff.1 u) with u | u
  .exfalso;obtain ⟨w,I,J⟩:=List.mem_map.1 u;by_cases e:kdR x.regs z.num=0
   .have:=(aAN h.toInvL i (a x b) I (cJ.2 ⟨m,e⟩) J).1;subst this;have K:=iG h.srt;rw [hs] at K
    have R:((pre++s::post).map (·.id)).Perm (s.id::(pre++post).map (·.id)):=by
     rw [List.map_append,List.map_cons,List.map_append];exact List.perm_middle
    have:=R.nodup_iff.1 K;rw [List.nodup_cons] at this;exact this.1 (List.mem_map.2 ⟨s,b,rfl⟩)
   .exact (G w (cJ.1 I).1).2 (by rw [J];exact rF.2 ⟨x,a x b,z,lP.2 ⟨m,e⟩,rfl⟩)
  .exact u
 .show liveN (addU M.ns s.box _) x.box=true;rw [oS];exact h.live x (a x b)
 .have c:(addU M.ns s.box (-costS s))[j]? = some d:=c;rw [dL] at c;cases D:M.ns[j]? with
  | none=>rw [D] at c;cases c
  | some x=>
   rw [D] at c;simp only [Option.map_some,Option.some.injEq] at c;have E:x.live=true:=by rw [<-c] at n;split at n<;>exact n
   have o:=h.use j x D E;rw [hs,sK] at o;show d.use=_+sumZ (costB j) (pre++post);by_cases v:s.box=j
   .rw [if_pos v] at c;have F:costB j s=costS s:=by unfold costB;rw [if_pos v]
    rw [<-c];rw [F] at o;simp only;omega
   .rw [if_neg v] at c;have F:costB j s=0:=by unfold costB;rw [if_neg v]
    rw [<-c];rw [F] at o;omega
 .show z.lent=((borK (pre++post)).count z.key:Nat);rw [<-C.count_eq];exact h.lent x (a x b) z m
theorem bA.tree' (h:bA M) {a:List Nd} (b:TreeOK a) (c:∀ s ∈ M.sps,liveN a s.box=true) (e:∀ (i:Nat) d,a[i]? = some d->d.live=true->d.use=(if i=0 then 2 else 0)+sumZ (costB i) M.sps):bA { M with ns:=a }:=
 { h with tree:=b,live:=c,use:=e }
end Go.Dn
namespace Go.Dn
variable {A:AH} {l R:List SP} {c:Mc} {g:Sg} {L pre post:List Sc} {M:Mm} {φ:Int->Int} {a a' b:Sc} {s:Sm} {k p q d id:Int} {x:Pg}
theorem pV (h:a ∈ L):∃ i:Nat,(macG c g (L.map ownC++R))[i]? = some (ownC a):=by
 obtain ⟨j,f⟩:=List.mem_iff_getElem?.1 h;have n:=(List.getElem?_eq_some_iff.1 f).1;refine ⟨7+j,?_⟩;have e:macG c g (L.map ownC++R)=macG c g []++(L.map ownC++R):=rfl;have m:(macG c g []).length=7:=rfl;rw [e,List.getElem?_append_right (by omega),m,show 7+j-7=j by omega,List.getElem?_append_left (by simp_all),List.getElem?_map,f];rfl
theorem aZ.lk (h:aZ c g L M φ) (i:a ∈ L):g.sps.lookup a.1.id=some (ptrV a.2.p)/\findS M a.1.id=some a.1:=by
 obtain ⟨pre,post,rfl⟩:=List.append_of_mem i;have j:=aEW h;refine ⟨?_,j⟩;rw [h.look]
 have:(pre++a::post).find? (λx=>x.1.id==a.1.id)=some a:=by
  rw [List.find?_append];have f:=h.nodupI;rw [h.mem,List.map_append,List.map_cons,List.nodup_append] at f
  have e:pre.find? (λx=>x.1.id==a.1.id)=none:=by
   rw [List.find?_eq_none];intro x m n;exact f.2.2 x.1.id (List.mem_map.2 ⟨x.1,List.mem_map_of_mem m,rfl⟩) a.1.id (by simp) (by simp_all)
  rw [e];simp
 rw [this];rfl
theorem aZ.get (h:aZ c g L M φ) (e:findS M id=some s):∃ a ∈ L,a.1=s/\s.id=id:=by
 obtain ⟨a,pre,post,e1,f,rfl,_⟩:=h.has e;exact ⟨a,cmid_iff.2 (.inl rfl),e1,f⟩
theorem aLZ {l:List Int} {N:Nat} (h:l.Nodup) (e:∀ x ∈ l,0<=x/\x<N):l.length<=N:=by
 have:=gO (l:=(List.range N).map λi:Nat=>(i:Int)) h λx f=>by
  obtain ⟨j,m⟩:=e x f;exact List.mem_map.2 ⟨x.toNat,List.mem_range.2 (by omega),by omega⟩
 simpa using this
theorem aZ.len (h:aZ c g L M φ):L.length<=262144:=by
 have j:(frs c φ L).length<=c.N.toNat:=aLZ h.nd λx m=>by
  have:=(h.rng x).1 (.inr ((h.G x).2 m));omega
 have n:∀ l:List Sc,(∀ b ∈ l,b ∈ L)->l.length<=(l.flatMap (frC φ)).length:=λl=>by
  induction l with
  | nil=>simp
  | cons x r ih=>
   intro e;have i:=ih λb f=>e b (by simp [f]);have:0<x.2.tl.length:=List.length_pos_of_mem (((h.one x (e x (by simp))).rest.mem x.2.root).2 ⟨0,0,((h.one x (e x (by simp))).rest.T.root 0 _).2 ⟨rfl,rfl⟩⟩);have m:x.2.tl.length<=(frC φ x).length:=by unfold frC;simp
   rw [List.flatMap_cons,List.length_append,List.length_cons];omega
 have o:=n L λb f=>f;unfold frs at j;simp only [List.length_cons] at j;have:=h.N.2;omega
theorem aZ.pgs_le (h:aZ c g L M φ) (f:a ∈ L):a.1.pgs.length<=34359738368:=by
 have:=kX (N:=34359738368) (nums a.1) 0 (h.inv.pgs _ (h.in_ f)) λz i=>by
  obtain ⟨w,j⟩:=Option.ne_none_iff_exists'.1 ((h.ps f z).1 i);exact (h.one a f).rest.pr z w j
 have e:(nums a.1).length=a.1.pgs.length:=by unfold nums;simp
 omega
theorem aZ.lent_lt (h:aZ c g L M φ):(borK M.sps).length<=9007199254740992:=by
 have m:∀ l:List Sc,(∀ b ∈ l,b ∈ L)->(borK (l.map (·.1))).length<=l.length*34359738368:=λl=>by
  induction l with
  | nil=>intro _;exact Nat.le_refl _
  | cons x r ih=>
   intro f;have i:=ih λb e=>f b (by simp [e]);have j:=h.pgs_le (f x (by simp));have n:(borP x.1).length<=x.1.pgs.length:=List.length_filter_le _ _;rw [List.map_cons,cT,List.length_append,List.length_map,List.length_cons];omega
 have j:=m L λb e=>e;have:=h.len;rw [h.abs] at j;omega
theorem aZ.bump (h:aZ c g (pre++a::post) M φ) {f:List (Int × Int)} (t:pgAt a.1 p=some x) (n:(f.map (·.1)).Nodup) (v:∀ q,f.lookup q=if q=p then (if x.lent+d=0 then none else some (x.lent+d)) else a.2.lent.lookup q) :
  aZ c g (pre++(bumpS p d a.1,{ a.2 with lent:=f })::post) (bumpM M a.1.id p d) φ:=by
 have o:a ∈ pre++a::post:=cmid_iff.2 (.inl rfl);have j:=h.one a o
 have w:bumpM M a.1.id p d=⟨pre.map (·.1)++bumpS p d a.1::post.map (·.1),M.ns,M.keys,M.wd⟩:=by
  have:=zP (p:=p) (d:=d) h.mem h.nodupI;unfold bumpM at this ⊢;simp only at this;rw [this]
 rw [w];have y:ownK (pre.map (·.1)++bumpS p d a.1::post.map (·.1))=ownK M.sps:=by rw [h.mem,bY,bY,bZ,bZ,kR,t5]
 refine h.less (gn:=[]) rfl rfl (by simp) (h.inv.bump h.mem) rfl h.ns h.n h.pc ?_ (λx=>by simp) (λx=>by simp) ⟨?_,j.rt,n,λq=>?_,j.sl⟩ (λ_ _ _=>rfl) (λk u i=>?_) ?_
 .rw [List.append_nil];show (a.2.tl++(ownP a.1).map λg=>φ g.key).Perm (a.2.tl++(ownP (bumpS p d a.1)).map λg=>φ g.key);rw [kR,List.map_map];have:((λg:Pg=>φ g.key) ∘ bumpG p d)=λg=>φ g.key:=by funext z;simp only [Function.comp,kU]
  rw [this]
 .show Rest g.G g.W a.2.root a.2.tab (lfS φ (bumpS p d a.1)) a.2.tl;rw [aCL];exact j.rest
 .show f.lookup q=(pgAt (bumpS p d a.1) q).bind _;rw [v,aC7];by_cases e:q=p
  .subst e;rw [if_pos rfl,t];have:bumpG q d x = { x with lent:=x.lent+d }:=by unfold bumpG;rw [if_pos (aL t).2]
   simp only [Option.map_some,this,Option.bind_some]
  .rw [if_neg e,j.lent];cases m:pgAt a.1 q with
   | none=>rfl
   | some z=>
    have:bumpG p d z=z:=by unfold bumpG;rw [if_neg (by rw [(aL m).2];exact e)]
    simp only [Option.map_some,this]
 .rw [show ownK _=ownK M.sps from y] at u;exact h.wd k u i
 .have e1:∀ id,lfL φ (pre.map (·.1)++bumpS p d a.1::post.map (·.1)) id=lfL φ M.sps id:=λid=>by
   have e1:pre.map (·.1)++bumpS p d a.1::post.map (·.1)=(pre++(bumpS p d a.1,a.2)::post).map (·.1):=by simp
   have m:M.sps=(pre++a::post).map (·.1):=by rw [h.mem];simp
   have r:=h.nodupI;rw [m,List.map_map] at r;rw [e1,m,eV (a:=a) (a':=(bumpS p d a.1,a.2)) (φ:=φ) r rfl λ_ _ _ _=>rfl];rw [eV (a:=a) (a':=a) (φ:=φ) r rfl λ_ _ _ _=>rfl];by_cases e:id=a.1.id
   .rw [if_pos e,if_pos e];exact aCL
   .rw [if_neg e,if_neg e]
  have:=h.ln;rwa [show lfL φ M.sps=lfL φ (pre.map (·.1)++bumpS p d a.1::post.map (·.1)) from funext λid=>(e1 id).symm] at this
theorem aL8 {K:AP} (h:Own (macG c g (L.map ownC++R)) A) (j:aZ c g L M φ) (m:a ∈ L) (r:pgAt a.1 p=some x) (C:0<=x.lent/\x.lent<9223372036854775807) (w:∀ t,Own (MacS c (bumpM M a.1.id p 1) φ::R) t->K t) :
  aM ⟨a.2.p,3,none⟩ A λu=>lG A u .i64 p λo=>∃ n,((o.getD (.int .i64 (0:Int))):Value)=(.int .i64 n)/\mK A u .i64 p (.int .i64 (IntKind.wrap .i64 (n+1))) K:=by
 obtain ⟨pre,post,rfl⟩:=List.append_of_mem m;have e:=j.one a m;obtain ⟨lm,f⟩:=macG.openOne (macG.focus h)
 refine fC (i:=7) f rfl rfl (iD (i:=9) f rfl ?_);rw [dR,e.lent,r];refine ⟨x.lent,?_,?_⟩
 .grind
 rw [w64 (by omega) (by omega)];refine aDs (i:=9) f rfl λy v=>w y ?_;rw [xT] at v
 have z:∀ q,(putZ a.2.lent p (x.lent+1)).lookup q=if q=p then (if x.lent+1=0 then none else some (x.lent+1)) else a.2.lent.lookup q:=λq=>by
  rw [gQ,if_neg (show ¬ x.lent+1=0 by omega)]
 have B:=j.bump (d:=1) r (tM e.lnd).1 z;refine MacS.closeH B (macG.unfocus (a:=(bumpS p 1 a.1,{ a.2 with lent:=putZ a.2.lent p (x.lent+1) })) (macG.closeOne (a:=(bumpS p 1 a.1,{ a.2 with lent:=putZ a.2.lent p (x.lent+1) })) (lm:=lm) v))
theorem aLg {K:AP} (h:Own (macG c g (L.map ownC++R)) A) (y:aZ c g L M φ) (F:a ∈ L) (z:pgAt a.1 p=some x) (P:1<=x.lent/\x.lent<9223372036854775807) (G:∀ H,Own (MacS c (bumpM M a.1.id p (-1)) φ::R) H->K H) :
  aM ⟨a.2.p,3,none⟩ A λI=>lG A I .i64 p λo=>∃ n,((o.getD (.int .i64 (0:Int))):Value)=(.int .i64 n)/\mK A I .i64 p (.int .i64 (IntKind.wrap .i64 (n-1))) λf=>
   aM ⟨a.2.p,3,none⟩ f λt=>lG f t .i64 p λB=>∃ u,((B.getD (.int .i64 (0:Int))):Value)=(.int .i64 u)/\bsel (u==(0:Int)) (aM ⟨a.2.p,3,none⟩ f λw=>qW f w .i64 p K) (K f):=by
 obtain ⟨pre,post,rfl⟩:=List.append_of_mem F;have j:=y.one a F;obtain ⟨lm,C⟩:=macG.openOne (macG.focus h)
 refine fC (i:=7) C rfl rfl (iD (i:=9) C rfl ?_);rw [dR,j.lent,z];refine ⟨x.lent,?_,?_⟩
 .grind
 rw [w64 (by omega) (by omega)];refine aDs (i:=9) C rfl λN r=>?_;rw [xT] at r;have m:=(tM (k:=p) (v:=x.lent-1) j.lnd).1;refine fC (i:=7) r rfl rfl (iD (i:=9) r rfl ⟨x.lent-1,by rw [dR,gQ,if_pos rfl];rfl,?_⟩);refine bsel_in (λe=>?_) λe=>?_
 .have e:x.lent-1=0:=by simpa using e
  refine fC (i:=7) r rfl rfl (aDw (i:=9) r rfl λO J=>G O ?_);rw [rG] at J
  have D:∀ q,(delZ (putZ a.2.lent p (x.lent-1)) p).lookup q=if q=p then (if x.lent + -1=0 then none else some (x.lent + -1)) else a.2.lent.lookup q:=λq=>by
   rw [dS p q m,gQ,if_pos (show x.lent + -1=0 by omega)];by_cases c:q=p
   .simp_all
   .simp_all
  have E:=y.bump (d:=-1) z (sL m).1 D;exact MacS.closeH E (macG.unfocus (a:=(bumpS p (-1) a.1,{ a.2 with lent:=delZ (putZ a.2.lent p (x.lent-1)) p })) (macG.closeOne (a:=(bumpS p (-1) a.1,{ a.2 with lent:=delZ (putZ a.2.lent p (x.lent-1)) p })) (lm:=lm) J))
 .have e:¬ x.lent-1=0:=by simpa using e
  refine G N ?_
  have D:∀ q,(putZ a.2.lent p (x.lent-1)).lookup q=if q=p then (if x.lent + -1=0 then none else some (x.lent + -1)) else a.2.lent.lookup q:=λq=>by
   rw [gQ,if_neg (show ¬ x.lent + -1=0 by omega)];rfl
  have E:=y.bump (d:=-1) z m D;exact MacS.closeH E (macG.unfocus (a:=(bumpS p (-1) a.1,{ a.2 with lent:=putZ a.2.lent p (x.lent-1) })) (macG.closeOne (a:=(bumpS p (-1) a.1,{ a.2 with lent:=putZ a.2.lent p (x.lent-1) })) (lm:=lm) r))
end Go.Dn
namespace Go.Dn
variable {A:AH} {l R:List SP} {c:Mc} {g:Sg} {L:List Sc} {M:Mm} {φ:Int->Int} {a:Sc} {s:Sm} {k p id page:Int} {x y:Pg} {w:Bool}
section
variable {i:Nat} {box root:Int} {s:Sl} {lent:List (Int × Int)} {regs:List Reg} {p:Nat}
theorem oT (h:Own l A) (e:l[i]? = some (OneS p box root s regs lent)):∃ lm,bM A ⟨p,0,none⟩=some (.int .i64 box)/\bM A ⟨p,1,none⟩=some (.int .i64 root)/\bM A ⟨p,2,none⟩=some (.slice s.a s.len s.cap)/\bM A ⟨p,3,none⟩=some (.map (some lm))/\
  (∃ b c,A lm=some (.map b c)/\aJc .i64 b (ivs lent)):=by
 obtain ⟨lm,h⟩:=OneS.openH (h.pick i e);obtain ⟨b,c,d,f,_⟩:=Own.map (i:=2) (l:=mY p lm box root s regs lent++l.eraseIdx i) rfl h;exact ⟨lm,dW (i:=0) rfl h rfl,dW (i:=0) rfl h rfl,dW (i:=0) rfl h rfl,dW (i:=0) rfl h rfl,b,c,d,f⟩
theorem cH {K:Int->Prop} (h:Own l A) (e:l[i]? = some (OneS p box root s regs lent)) (b:K root):aI .i64 ⟨p,1,none⟩ A K:=by
 obtain ⟨lm,_,d,_⟩:=oT h e;exact ⟨_,d,b⟩
theorem jS {K:Int->Prop} (h:Own l A) (e:l[i]? = some (OneS p box root s regs lent)) (b:K box):aI .i64 ⟨p,0,none⟩ A K:=by
 obtain ⟨lm,d,_⟩:=oT h e;exact ⟨_,d,b⟩
theorem lZ {K:Sl->Prop} (h:Own l A) (e:l[i]? = some (OneS p box root s regs lent)) (b:K s):aS ⟨p,2,none⟩ A K:=by
 obtain ⟨lm,_,_,d,_⟩:=oT h e;exact ⟨s,d,b⟩
theorem aCH {id:Int} {K:Option Value->Prop} (h:Own l A) (e:l[i]? = some (OneS p box root s regs lent)) (d:K ((lent.lookup id).map λv=>.int .i64 v)):aM ⟨p,3,none⟩ A λf=>lG A f .i64 id K:=by
 obtain ⟨lm,_,_,_,j,b,c,m,n⟩:=oT h e;obtain ⟨r,k1,k2,_,_⟩:=jN (k:=.i64) (key:=id) b.toList (ivs lent) 0 n;exact ⟨_,j,b.toList,by simp [wR,m],r,k1,by rw [k2,dR];exact d⟩
theorem dZ:Reads (OneS p box root s regs lent) s 6 (regC regs):=λB A ⟨lm,d⟩ u=>by
 have e:Own (SlO s 6 (regC regs)::At p [.int .i64 box,.int .i64 root,.slice s.a s.len s.cap,.map (some lm)]::MapI lm .i64 (ivs lent)::[]) B:=Own.swap d;obtain ⟨f,h,b⟩:=e.sat;exact aR f A b (h.trans u)
end
theorem aZ.inj (h:aZ c g L M φ) {k1 k2:Int} (f:k1 ∈ ownK M.sps) (j:k2 ∈ ownK M.sps) (e:φ k1=φ k2):k1=k2:=by
 have m:((ownK M.sps).map φ).Nodup:=by
  rw [<-h.abs];unfold ownK;rw [yX,List.flatMap_map];have b:=h.nd;unfold frs at b;have d:=(List.nodup_cons.1 (List.nodup_cons.1 b).2).2;refine d.sublist ?_;clear d b;generalize L=l
  induction l with
  | nil=>exact List.Sublist.slnil
  | cons x r ih=>
   rw [List.flatMap_cons,List.flatMap_cons];refine List.Sublist.append ?_ ih;unfold frC;rw [List.map_map];exact List.sublist_append_right _ _
 exact iE m f j e
theorem aZ.lf_at (h:aZ c g L M φ) (e:a ∈ L) {x:Pg} {r:Reg} (b:pgAt a.1 p=some x) (d:findR a.1.regs p=some r):lfS φ a.1 p=some ⟨φ x.key,r.w,r.u,r.x⟩:=by
 unfold lfS;rw [b,bO,d];rfl
theorem aZ.hasF (h:aZ c g L M φ):∀ f,g.G f->hasF c.N [] f=true:=λf b=>vJ.2 (by have:=(h.rng f).1 (.inr b);omega)
theorem aZ.lf_frame (h:aZ c g L M φ) (f:a ∈ L) {z:Lf} (b:lfS φ a.1 p=some z):∃ x y,pgAt a.1 p=some x/\lookR a.1.regs p=some y/\z=⟨φ x.key,y.1,y.2.1,y.2.2.1⟩:=by
 unfold lfS at b;cases e:pgAt a.1 p with
 | none=>rw [e] at b;cases lookR a.1.regs p<;>cases b
 | some x=>
  rw [e] at b;cases d:lookR a.1.regs p with
  | none=>rw [d] at b;cases b
  | some y=>rw [d] at b;cases b;exact ⟨x,y,rfl,rfl,rfl⟩
def gD (M:Mm) (id page:Int) (w:Bool):Int:=match findS M id with
 | none=>5
 | some s=>match lookR s.regs page,pgAt s page with
  | some r,some _=>if r.2.2.2≠0 then 5 else if (w&&!r.1)=true then 10 else 0
  | _,_=>5
theorem aDu {Q:Int->AH->Prop} (h:Own (MacS c M φ::R) A) (b:∀ o,Own (MacS c M φ::R) o->Q (gD M id page w) o):qff_A (some ⟨c.m,0,none⟩) id page w Q A:=by
 obtain ⟨g,L,d,h⟩:=MacS.openH h;unfold qff_A qff_G;simp only [aJ,add_at,Nat.zero_add];cases D:findS M id with
 | none=>
  have e:gD M id page w=5:=by unfold gD;rw [D]
  rw [e] at b;exact jY h d D ⟨none,rfl,aG rfl (b A (MacS.closeH d h))⟩
 | some s=>
  obtain ⟨a,n,rfl,rfl⟩:=d.get D;obtain ⟨i,hi⟩:=pV (c:=c) (g:=g) (R:=R) n
  have e:gD M a.1.id page w=match lookR a.1.regs page,pgAt a.1 page with
   | some r,some _=>if r.2.2.2≠0 then 5 else if (w&&!r.1)=true then 10 else 0
   | _,_=>5:=by unfold gD;rw [D]
  rw [e] at b;have E:=(d.lk n).1;refine fC (i:=3) h rfl rfl (iD (i:=4) h rfl ?_);rw [E];refine ⟨some ⟨a.2.p,0,none⟩,rfl,bsel_f rfl ?_⟩;simp only [aJ,add_at,Nat.zero_add];refine lZ h hi ?_
  have q:∀ {K:Bool->AH->Prop},(∀ o,Own (macG c g (L.map ownC++R)) o->K (pgAt a.1 page).isSome o)->(aI .i64 ⟨a.2.p,0,none⟩ A λF=>aI .i64 ⟨a.2.p,1,none⟩ A λt=>qat_A (some ⟨c.m,0,none⟩) F (λu v B G C=>((aI .i64 ⟨a.2.p,1,none⟩ C λH=>(((.int .i64 H):Value)=(.int .i64 t)))/\
    (qef_A u v B G t page (λ_ _ _ _ I J=>K I J) C))) A):=λ{K} f=>by
   refine jS h hi (cH h hi (prs (k:=3) h rfl ⟨cH h hi rfl,?_⟩));refine fE h d.hasF (d.one a n).rest (λN j m=>?_) λz N j m=>?_
   .have:=(d.lf_none n).1 N;have f:=f j m;rw [this] at f;exact f
   .obtain ⟨x,y,e1,_⟩:=d.lf_frame n N;have f:=f j m;rw [e1] at f;exact f
  refine gH h hi dZ (by have:=(d.regs n).1;omega) (λS=>?_) λr T _ _ _=>?_
  .refine q λj m=>aG rfl ?_;rw [bO,S] at b;exact b j (MacS.closeH d m)
  .refine q λj m=>bsel_f rfl ?_;rw [bO,T] at b;have b:=b j (MacS.closeH d m);simp only [Option.map_some] at b;cases P:pgAt a.1 page with
   | none=>
    rw [P] at b;refine bsel_in (λ_=>b) λ_=>aG rfl b
   | some x=>
    rw [P] at b;simp only at b;refine bsel_in (λc1=>?_) λc1=>bsel_f rfl ?_
    .have c1:r.k≠0:=by simpa using c1
     rw [if_pos (show (attrR r).2.2.2≠0 from c1)] at b;exact b
    .have c1:r.k=0:=by simpa using c1
     rw [if_neg (show ¬ (attrR r).2.2.2≠0 from λz=>z c1)] at b;refine bsel_in (λc2=>bsel_in (λO=>?_) λO=>?_) λc2=>?_
     .have:(w&&!(attrR r).1)=true:=by rw [c2];exact O
      rw [if_pos this] at b;exact b
     .have:¬ (w&&!(attrR r).1)=true:=by rw [c2];intro z;rw [show (!(attrR r).1)=false from O] at z;cases z
      rw [if_neg this] at b;exact b
     .rw [c2] at b;rw [if_neg (by simp)] at b;exact b
end Go.Dn
namespace Go.Dn
variable {c:Mc} {g:Sg} {pre post:List Sc} {M:Mm} {φ:Int->Int} {a:Sc} {s:Sm} {k p id:Int} {x:Pg}
theorem aAa {k:Int} {v:Value}:∀ {m:List (Int × Value)},m.lookup k=some v->(m.map (·.1)).Nodup->m.Perm ((k,v)::delM m k)
 | [],h,_=>by cases h
 | x::r,h,hn=>by
  obtain ⟨b,d⟩:=x;rw [List.lookup_cons] at h;rw [List.map_cons,List.nodup_cons] at hn;unfold delM;by_cases e:b=k
  .simp_all
  .rw [if_neg (show ¬ ((b,d):Int × Value).1=k from e)];rw [show (k==b)=false by simpa using λz=>e z.symm] at h;exact (List.Perm.cons _ (aAa h hn.2)).trans (List.Perm.swap _ _ _)
theorem aKw (h:((pre++a::post).map λx=>x.1.id).Nodup) {i:Int} (hi:i≠a.1.id):lfL φ ((pre++post).map (·.1)) i=lfL φ ((pre++a::post).map (·.1)) i:=by
 unfold lfL;have:((pre++post).map (·.1)).find? (λs=>s.id==i)=((pre++a::post).map (·.1)).find? (λs=>s.id==i):=by grind
 rw [this]
theorem aZ.gone (d:aZ c g (pre++a::post) M φ) (H:a.1.pgs=[]) (o:InvL ⟨pre.map (·.1)++post.map (·.1),addU M.ns a.1.box (-1),M.keys,M.wd⟩) {q:List Ln} (v:aJ2 g.z a.1.id g.ls q) {nd:Nd} (I:g.ns[a.1.box]? = some nd) (O:nd.live=true) :
  aZ c { g with F:=λx=>g.F x\/x=a.2.root,G:=λx=>g.G x/\x≠a.2.root,n:=g.n+1,ns:=useN g.ns a.1.box nd (nd.use-1),ls:=q,z:=kT g.z a.1.id,sps:=delM g.sps a.1.id } (pre++post) ⟨pre.map (·.1)++post.map (·.1),addU M.ns a.1.box (-1),M.keys,M.wd⟩ φ:=by
 have j:a ∈ pre++a::post:=cmid_iff.2 (.inl rfl);have h:=d.one a j
 have w:a.2.tl=[a.2.root]:=by
  have r:=h.rest.len (ps:=nums a.1) (d.ps j);have P:nums a.1=[]:=by unfold nums;rw [H];rfl
  rw [P] at r;have y:tabsN []=1:=rfl;rw [y] at r;have l:a.2.root ∈ a.2.tl:=(h.rest.mem _).2 ⟨0,0,(h.rest.T.root 0 _).2 ⟨rfl,rfl⟩⟩;obtain ⟨z,Q⟩:=List.length_eq_one_iff.1 r;rw [Q] at l ⊢;rw [List.mem_singleton] at l;rw [l]
 have A:frC φ a=[a.2.root]:=by
  unfold frC ownP;rw [H,w];rfl
 obtain ⟨U,R,J,K⟩:=d.oth;rw [A] at J K;have S:g.G a.2.root:=(K _).2 (.inl (by simp));have B:a.2.root ∉ frs c φ (pre++post):=J _ (by simp);have t:∀ b ∈ pre++post,b ∈ pre++a::post:=λb m=>cmid_iff.2 (.inr m)
 have C:∀ k ∈ ownK (pre.map (·.1)++post.map (·.1)),k ∈ ownK M.sps:=λk D=>by
  rw [d.mem,cO.mem_iff];exact List.mem_append_right _ D
 have L:∀ b ∈ pre++post,∀ f ∈ b.2.tl,f ∈ frs c φ (pre++post):=λb m f E=>by
  unfold frs;exact List.mem_cons_of_mem _ (List.mem_cons_of_mem _ (List.mem_flatMap.2 ⟨b,m,List.mem_append_left _ E⟩))
 refine ⟨o,by simp,?_,?_,?_,R,λf=>?_,λf=>?_,λb m=>(d.one b (t b m)).keep (λ_ _=>rfl) (λf E=>⟨d.fr_tl (t b m) E,λe=>B (by grind)⟩) λ_ _=>rfl,λk D i=>d.wd k (C k D) i,d.kw,d.pc.drop _,?_,d.N⟩
 .show useN g.ns a.1.box nd (nd.use-1)=addU M.ns a.1.box (-1);rw [jU (by rw [<-d.ns];exact I),d.ns];rfl
 .show g.n+1=sumZ rmN (addU M.ns a.1.box (-1));rw [jB (by rw [<-d.ns];exact I) O,d.n];omega
 .show (delM g.sps a.1.id).Perm (entC (pre++post));have r:=(d.lk j).1
  have u:((entC (pre++a::post)).map (·.1)).Nodup:=by
   have e:(entC (pre++a::post)).map (·.1)=M.sps.map (·.id):=by
    rw [<-d.abs];unfold entC;rw [List.map_map,List.map_map];rfl
   rw [e];exact d.nodupI
  have y:=aAa r ((d.sps.map (·.1)).nodup_iff.2 u)
  have T:(entC (pre++a::post)).Perm ((a.1.id,ptrV a.2.p)::entC (pre++post)):=by
   unfold entC;rw [List.map_append,List.map_cons,List.map_append];exact List.perm_middle
  exact (List.perm_cons _).1 (y.symm.trans (d.sps.trans T))
 .grind
 .show (g.F f\/f=a.2.root)\/(g.G f/\f≠a.2.root)↔_;rw [<-d.rng f];constructor
  .grind
  .grind
 .refine LnOK.gone d.pc d.ln v λi hi=>?_;have u:=d.nodupI;have N:M.sps=(pre++a::post).map (·.1):=by rw [d.mem];simp
  rw [N,List.map_map] at u;show lfL φ (pre.map (·.1)++post.map (·.1)) i=lfL φ M.sps i;rw [N,<- List.map_append];exact aKw u hi
end Go.Dn
namespace Go.Dn
variable {A:AH} {l R:List SP} {c:Mc} {g g':Sg} {L pre post:List Sc} {M:Mm} {φ:Int->Int} {a a':Sc} {s s':Sm} {k p id:Int} {x:Pg}
theorem aIV {Q:Int->AH->Prop} (h:Own (MacS c M φ::R) A) (hM:bA M) (W:∀ A',bA (eD M id).1->Own (MacS c (eD M id).1 φ::R) A'->Q (eD M id).2 A'):qfq_A (some ⟨c.m,0,none⟩) id Q A:=by
 obtain ⟨g,L,b,h⟩:=MacS.openH h;unfold qfq_A qfq_G;simp only [aJ,add_at,Nat.zero_add];cases P:findS M id with
 | none=>
  have e:eD M id=(M,5):=by unfold eD;rw [P]
  rw [e] at W;exact jY h b P ⟨none,rfl,aG rfl (W A hM (MacS.closeH b h))⟩
 | some s=>
  obtain ⟨a,pre,post,rfl,rfl,rfl,_⟩:=b.has P;have j:a ∈ pre++a::post:=cmid_iff.2 (.inl rfl);have hsrt:=b.inv.pgs _ (b.in_ j);have h1:=macG.focus h
  have eM:eD M a.1.id=if gW a.1 0 34359738368=true then (M,11) else ({ M with sps:=delS M.sps a.1.id,ns:=addU M.ns a.1.box (-costS a.1) },0):=by unfold eD;rw [P]
  refine uJ h1 b ⟨some ⟨a.2.p,0,none⟩,rfl,bsel_f rfl ?_⟩;refine aHr h1 (b.one a j) hsrt (b.regs j).1 λA4 h5=>?_;refine bsel_in (λhb=>?_) λhb=>?_
  .rw [eM,if_pos hb] at W;exact W A4 hM (MacS.closeH b (macG.unfocus h5))
  rw [eM,if_neg (by simp_all)] at W;simp only [aJ,add_at,Nat.zero_add];refine jS (i:=7) h5 rfl (prs (k:=3) h5 rfl (cH (i:=7) h5 rfl ?_));refine jP h5 (λf P=>vJ.2 (by have:=(b.rng f).1 (.inr P);omega)) (b.one a j).rest λq ps A5 hl16 hn16 H B h6=>?_;have h6:Own (macG c g (ownC a::SlO q 1 (intsV ps)::((pre++post).map ownC++R))) A5:=macG.mapR (λC hC=>hC.swap) (macG.backX h6.swap)
  have hpm:∀ n ∈ ps,∃ z ∈ a.1.pgs,z.num=n:=λn E=>by
   have:=(b.ps j n).2 ((B n).1 E);exact List.mem_map.1 this
  have hin:∀ z ∈ a.1.pgs,inZ 0 34359738368 z.num=true:=λz S=>by
   obtain ⟨w,hw⟩:=Option.ne_none_iff_exists'.1 ((b.ps j z.num).1 (List.mem_map_of_mem S));have:=(b.one a j).rest.pr _ _ hw;unfold inZ;simp;omega
  have hnd:ps.Nodup:=H.imp λh=>by omega
  have hlen:ps.length<=34359738368:=by
   have:=kX (N:=34359738368) ps 0 H λz S=>by
    obtain ⟨w,hw⟩:=Option.ne_none_iff_exists'.1 ((B z).1 S);exact (b.one a j).rest.pr z w hw
   omega
  refine ⟨λx m A'=>∃ (v:Nat) (g':Sg) (a':Sc),x=v/\m+v=ps.length/\aZ c g' (pre++a'::post) (payM M a.1 (remL a.1 (ps.take v))) φ/\a'.1=remL a.1 (ps.take v)/\a'.2.p=a.2.p/\
   Own (macG c g' (ownC a'::SlO q 1 (intsV ps)::((pre++post).map ownC++R))) A',⟨ps.length,0,g,a,rfl,rfl,?_,rfl,rfl,h6⟩,?_⟩
  .have e:payM M a.1 (remL a.1 (ps.take 0))=M:=by
    show payM M a.1 a.1=M;rw [b.pay rfl,Int.sub_self,addU_zero,<- b.mem]
   rw [e];exact b
  intro x m A6 ⟨v,g',a',e1,e2,o,r,ha2,X⟩;subst e1;have Y:a'.1.id=a.1.id:=by rw [r];exact (eP _ _).1
  have T:a'.1.box=a.1.box:=by rw [r];exact (eP _ _).2.1
  have U:(payM M a.1 (remL a.1 (ps.take v))).sps=pre.map (·.1)++a'.1::post.map (·.1):=by
   rw [b.pay (s':=remL a.1 (ps.take v)) (by simp_all),r]
  refine bsel_in (λcc=>?_) λcc=>?_
  .have cc:(v:Int)<q.len:=of_decide_eq_true cc;obtain ⟨n,E⟩:∃ n,ps[v]? = some n:=⟨ps[v]'(by omega),by simp⟩;obtain ⟨ad,q1,q2⟩:=aKd (k:=8) X rfl aR E;rw [q1];refine inB_in (by omega) cc (q2 _ ?_);obtain ⟨z,z1,z2⟩:=hpm n (List.mem_of_getElem? E);obtain ⟨b1,b2,b3⟩:=vN hM (b.in_ j) hb z1 (hin z z1)
   have hz':z ∈ a'.1.pgs:=by
    rw [r,kJ];refine List.mem_filter.2 ⟨z1,?_⟩;have:=aCv hnd E;rw [z2];simpa using this
   have u:a' ∈ pre++a'::post:=cmid_iff.2 (.inl rfl);have hpa:=bR (o.inv.pgs _ (o.in_ u)) hz';rw [z2] at hpa;rw [<-Y,<- ha2];refine aHn o X hpa b1 (λ_ I=>b3 ?_) λg2 a2 A7 hS2 e21 e22 _ _ V=>⟨m-1,by omega,v+1,g2,a2,by rw [w64]<;>omega,by omega,?_,?_,e22,V⟩
   .rw [U,dQ.mem_iff,List.mem_append] at I;rw [b.mem,dQ.mem_iff,List.mem_append];rcases I with I | I
    .obtain ⟨w,w1,w2⟩:=List.mem_map.1 I;rw [r] at w1;exact .inl (List.mem_map.2 ⟨w,aBR w w1,w2⟩)
    .simp_all
   .rw [r] at hS2;rw [cN E,nU];have Z:=eP (ps.take v) a.1;rwa [lN Z.1 (by exact Z.1) Z.2.1] at hS2
   .rw [e21,r,cN E,nU]
  .have cc:¬ (v:Int)<q.len:=of_decide_eq_false cc;rw [List.take_of_length_le (by omega)] at o r U
   have D:a'.1.pgs=[]:=by
    rw [r,kJ,List.filter_eq_nil_iff];intro z S;have:z.num ∈ ps:=(B _).2 ((b.ps j _).1 (List.mem_map_of_mem S));simpa using this
   have u:a' ∈ pre++a'::post:=cmid_iff.2 (.inl rfl);obtain ⟨nd,n1,n2,n3,n4,n5⟩:=o.node u
   have hc1:costS a'.1=1:=by
    have h0:nums a'.1=[]:=by unfold nums;rw [D];rfl
    have h2:ownP a'.1=[]:=by unfold ownP;rw [D];rfl
    unfold costS;rw [h0,h2];rfl
   have huse:1<=nd.use:=by
    have hu:=o.inv.use a'.1.box nd (by rw [<-o.ns];exact n1) n2;have h2:=nY (f:=costB a'.1.box) (l:=(payM M a.1 (remL a.1 ps)).sps) (λs _=>by unfold costB;split;have:=cE (s:=s);omega;exact Int.le_refl _) a'.1 (o.in_ u);have h3:costB a'.1.box a'.1=costS a'.1:=by unfold costB;rw [if_pos rfl]
    rw [h3,hc1] at h2;split at hu<;>omega
   have hlfn:∀ n,lfS φ a'.1 n=none:=λn=>by
    unfold lfS pgAt;rw [D];rfl
   have hdel:delS M.sps a.1.id=pre.map (·.1)++post.map (·.1):=by
    have E:=b.nodupI;rw [b.mem] at E ⊢;exact aIu E
   have hns:addU (payM M a.1 (remL a.1 ps)).ns a'.1.box (-1)=addU M.ns a.1.box (-costS a.1):=by
    show addU (addU M.ns a.1.box (costS (remL a.1 ps)-costS a.1)) a'.1.box (-1)=_;rw [T,aCZ,<- r,hc1];congr 1;omega
   have J:=hM.shut b.mem λz S=>by
    obtain ⟨b1,b2,b3⟩:=vN hM (b.in_ j) hb S (hin z S);exact ⟨b2,b3⟩
   have hinv:InvL ⟨pre.map (·.1)++post.map (·.1),addU (payM M a.1 (remL a.1 ps)).ns a'.1.box (-1),M.keys,M.wd⟩:=by rw [hns];exact J.toInvL
   rw [hdel] at W
   have fin:∀ d A8,aJ2 g'.z a'.1.id g'.ls d->Own (macG c { g' with ls:=d } (ownC a'::SlO q 1 (intsV ps)::((pre++post).map ownC++R))) A8->
     qfo_A (some ⟨c.tg,0,none⟩) a.1.id (λh38=>aI .i64 ⟨a.2.p,1,none⟩ h38 λn40=>qfp_A (some ⟨c.r,0,none⟩) (some ⟨c.b,0,none⟩) (some ⟨c.t,0,none⟩) a.1.box n40 (λn41 h42=>aM ⟨c.m,6,none⟩ h42 λmp44=>qW h42 mp44 .i64 a.1.id λh45=>Q 0 h45) h38) A8:=λd A8 hls V=>by
    have hp6:Own (PcS c.tg g'.z::(macG c { g' with ls:=d } (ownC a'::SlO q 1 (intsV ps)::((pre++post).map ownC++R))).eraseIdx 6) A8:=Own.pick 6 rfl V;refine aBK hp6 λA9 h9=>?_;have h9:Own (macG c { g' with ls:=d,z:=kT g'.z a.1.id } (ownC a'::SlO q 1 (intsV ps)::((pre++post).map ownC++R))) A9:=Own.back 6 rfl h9;rw [<-ha2];refine cH (i:=7) h9 rfl ?_;rw [<-T];refine aD8 (i:=a'.1.box) h9 n1 n2 huse (λf P=>vJ.2 (by have:=(o.rng f).1 (.inr P);omega)) (o.one a' u).rest (λ⟨n,E⟩=>absurd (hlfn n) E) λ_ A10 K=>?_;have K:Own (macG c { g' with F:=λx=>g'.F x\/x=a'.2.root,G:=λx=>g'.G x/\x≠a'.2.root,n:=g'.n+1,ns:=useN g'.ns a'.1.box nd (nd.use-1),ls:=d,z:=kT g'.z a.1.id } (ownC a'::SlO q 1 (intsV ps)::((pre++post).map ownC++R))) A10:=K;refine fC (i:=3) K rfl rfl (aDw (i:=4) K rfl λA11 O=>?_);have O:Own (macG c { g' with F:=λx=>g'.F x\/x=a'.2.root,G:=λx=>g'.G x/\x≠a'.2.root,n:=g'.n+1,ns:=useN g'.ns a'.1.box nd (nd.use-1),ls:=d,z:=kT g'.z a.1.id,sps:=delM g'.sps a.1.id } (ownC a'::SlO q 1 (intsV ps)::((pre++post).map ownC++R))) A11:=O;rw [<-Y] at O;have hSg:=o.gone D hinv hls n1 n2;rw [hns] at hSg;exact W A11 J (MacS.closeH hSg (macG.mapR (λC hC=>hC.tail.tail) O))
   refine ⟨λA'=>∃ d,aJ2 g'.z a'.1.id g'.ls d/\Own (macG c { g' with ls:=d } (ownC a'::SlO q 1 (intsV ps)::((pre++post).map ownC++R))) A',λA8 ⟨d,hls,V⟩=>?_,?_⟩
   .exact mE (i:=3) V rfl rfl (fin d A8 hls V)
   .refine mE (i:=3) X rfl rfl ?_;refine aAc (macG.pick 6 rfl X) ?_;cases ht:g'.z.tag.lookup a.1.id with
    | none=>exact bsel_f rfl ⟨g'.ls,λy hy _=>⟨hy,λz=>by rw [Y,ht] at z;cases z⟩,X⟩
    | some t=>
     refine aG rfl (mE (i:=3) X rfl rfl ?_);refine aFR (macG.tlb X) λA8 V=>⟨g'.ls.map (yS t),λy hy hv=>?_,Own.back 5 rfl V⟩;obtain ⟨w,w1,w2⟩:=List.mem_map.1 hy;unfold yS at w2;split at w2
     .rw [<-w2] at hv;cases hv
     .simp_all
end Go.Dn
namespace Go.Dn
variable {A:AH} {l R:List SP} {c:Mc} {g:Sg} {L pre post:List Sc} {M:Mm} {φ:Int->Int} {a a':Sc} {s s':Sm} {k p q:Int} {x:Pg} {pw pu px:Bool}
def iS (M:Mm) (id a b:Int) (pw pu px:Bool):Mm × Int:=match findS M id with
 | none=>(M,5)
 | some s=>if eC s.regs a b pw pu px≠0 then (M,eC s.regs a b pw pu px) else if gW s a b=true then (M,11)
  else (payM M s { s with regs:=protR s.regs a b pw pu px },0)
theorem aJK (b:goodB s.regs=true) (d:eC s.regs p q pw pu px=0) (n:Int):kdR (protR s.regs p q pw pu px) n=kdR s.regs n:=by
 unfold kdR;rw [(pG b d).2];by_cases c:p<=n/\n<q
 .grind
 .rw [if_neg c]
theorem qL (hg:goodB s.regs=true) (he:eC s.regs p q pw pu px=0):ownP { s with regs:=protR s.regs p q pw pu px } = ownP s/\borP { s with regs:=protR s.regs p q pw pu px } = borP s:=by
 unfold ownP borP;simp only [aJK hg he,and_self]
theorem oJ (b:goodB s.regs=true) (d:eC s.regs p q pw pu px=0):costS { s with regs:=protR s.regs p q pw pu px } = costS s:=by
 unfold costS;rw [(qL b d).1];rfl
theorem bA.prot (h:bA M) {pre post:List Sm} (hs:M.sps=pre++s::post) (u:eC s.regs p q pw pu px=0):bA ⟨pre++{ s with regs:=protR s.regs p q pw pu px }::post,M.ns,M.keys,M.wd⟩:=by
 have e:s ∈ M.sps:=by rw [hs];exact mid_iff.2 (.inl rfl)
 have j:∀ x,x ∈ pre++post->x ∈ M.sps:=λx b=>by rw [hs];exact mid_iff.2 (.inr b)
 have v:=h.good s e;obtain ⟨H,C⟩:=pG v u;obtain ⟨D,I⟩:=qL v u;have w:ownK (pre++{ s with regs:=protR s.regs p q pw pu px }::post)=ownK M.sps:=by rw [hs,bY,bY,bZ,bZ,D]
 have J:borK (pre++{ s with regs:=protR s.regs p q pw pu px }::post)=borK M.sps:=by rw [hs,dG,dG,cT,cT,I]
 have f:∀ n a,lookR (protR s.regs p q pw pu px) n=some a->∃ a0,lookR s.regs n=some a0/\a.2.2.2=a0.2.2.2:=λn a i=>by
  rw [C] at i;split at i
  .obtain ⟨a0,r,rfl⟩:=Option.map_eq_some_iff.1 i;exact ⟨a0,r,rfl⟩
  .exact ⟨a,i,rfl⟩
 have m:∀ d,M.ns[s.box]? = some d->costS { s with regs:=protR s.regs p q pw pu px } - costS s<=d.room:=λd E=>by
  have y:=h.live s e;unfold liveN at y;rw [E] at y;have:=(h.tree.room E y).1;rw [oJ v u];omega
 have F:=h.toInvL.pay (s':={ s with regs:=protR s.regs p q pw pu px }) (k':=M.keys) (wd':=M.wd) hs rfl rfl H (h.pgs s e) (λx b z=>by
  have t:=h.reg s e x b;have z:lookR (protR s.regs p q pw pu px) x.num=none:=z;rw [C] at z;split at z
  .exact t (Option.map_eq_none_iff.1 z)
  .exact t z) (by rw [w];exact h.own) (λx b z o=>by
  rw [w];rcases mid_iff.1 b with rfl | b
  .exact h.src s e z o
  .exact h.src x (j x b) z o) (by rw [w];exact h.key) h.zero h.keys0 m
 rw [oJ v u,Int.sub_self,addU_zero] at F;refine { F with kind:=λx b n a i=>?_,bor:=λx b n a i G=>?_,lent:=λx b z o=>?_ }
 .rcases mid_iff.1 b with rfl | b
  .obtain ⟨a0,r,B⟩:=f n a i;rw [B];exact h.kind s e n a0 r
  .exact h.kind x (j x b) n a i
 .rcases mid_iff.1 b with rfl | b
  .obtain ⟨a0,r,B⟩:=f n a i;exact h.bor s e n a0 r (by rw [<-B];exact G)
  .exact h.bor x (j x b) n a i G
 .show z.lent=((borK (pre++{ s with regs:=protR s.regs p q pw pu px }::post)).count z.key:Nat);rw [J];rcases mid_iff.1 b with rfl | b
  .rw [D] at o;exact h.lent s e z o
  .exact h.lent x (j x b) z o
theorem aB8 {id:Int} {Q:Int->AH->Prop} (h:Own (MacS c M φ::R) A) (hM:bA M) (F:∀ A',bA (iS M id p q pw pu px).1->Own (MacS c (iS M id p q pw pu px).1 φ::R) A'->Q (iS M id p q pw pu px).2 A'):qew_A (some ⟨c.m,0,none⟩) id p q pw pu px Q A:=by
 obtain ⟨g,L,b,h⟩:=MacS.openH h;unfold qew_A qew_G;simp only [aJ,add_at,Nat.zero_add];cases O:findS M id with
 | none=>
  have e:iS M id p q pw pu px=(M,5):=by unfold iS;rw [O]
  rw [e] at F;exact jY h b O ⟨none,rfl,aG rfl (F A hM (MacS.closeH b h))⟩
 | some s=>
  obtain ⟨a,pre,post,rfl,rfl,rfl,_⟩:=b.has O;have E:a ∈ pre++a::post:=cmid_iff.2 (.inl rfl);have P:=b.inv.pgs _ (b.in_ E);have o:=b.one a E;have h1:=macG.focus h
  have eM:iS M a.1.id p q pw pu px=if eC a.1.regs p q pw pu px≠0 then (M,eC a.1.regs p q pw pu px) else if gW a.1 p q=true then (M,11) else (payM M a.1 { a.1 with regs:=protR a.1.regs p q pw pu px },0):=by unfold iS;rw [O]
  refine uJ h1 b ⟨some ⟨a.2.p,0,none⟩,rfl,bsel_f rfl ?_⟩;obtain ⟨lm,h2⟩:=macG.openOne h1;simp only [aJ,add_at,Nat.zero_add];refine ld_S (i:=7) h2 rfl rfl ?_;refine aDx (k:=8) h2 rfl aR (λA3 h3 S=>?_) λsl A3 S hsl h3=>bsel_f rfl ?_
  .rw [eM,if_pos S] at F;exact aG (by simp_all) (F A3 hM (MacS.closeH b (macG.unfocus (macG.closeOne h3))))
  rw [eM,if_neg (by simp [S])] at F;have h4:Own (macG c g (ownC a::SlO sl 6 (regC (protR a.1.regs p q pw pu px))::((pre++post).map ownC++R))) A3:=macG.mapR (λC Y=>Y.swap) (macG.backX (h3.cons λC Y=>macG.closeOne Y));refine aHr h4 o P (b.regs E).1 λA4 h5=>?_;refine bsel_in (λhb=>?_) λhb=>?_
  .rw [if_pos hb] at F;exact F A4 hM (MacS.closeH b (macG.unfocus (macG.mapR (λC Y=>Y.cons λD hD=>hD.tail) h5)))
  rw [if_neg (by simp_all)] at F;have r:=b.inv.good _ (b.in_ E);obtain ⟨c1,c2⟩:=pG r S;have hGr:∀ f,g.G f->hasF c.N [] f=true:=λf O=>vJ.2 (by have:=(b.rng f).1 (.inr O);omega);refine aHb (l:=(pre++post).map ownC++R) h5 λA5 h6=>?_;obtain ⟨a',t⟩:∃ a':Sc,a'=({ a.1 with regs:=protR a.1.regs p q pw pu px },{ a.2 with s:=sl }):=⟨_,rfl⟩;rw [<-t] at h6;have a1:a'.1 = { a.1 with regs:=protR a.1.regs p q pw pu px }:=by rw [t]
  have K:a'.2 = { a.2 with s:=sl }:=by rw [t]
  have ap:a'.2.p=a.2.p:=by rw [t]
  have aid:a'.1.id=a.1.id:=by rw [t]
  rw [<-ap];refine aEx (lf:=lfS φ a.1) h6 (by rw [t];exact o.rest) hGr (by rw [t];exact P) (by rw [t];exact b.ps E) λG ps A6 hn12 H hpl h7=>?_;have H:ps=(nums a.1).filter (inZ p q):=by rw [H,t];rfl
  have hl12:G.len=ps.length:=by have:=dV (i:=8) h7 rfl aR;unfold intsV at this;simp at this;omega
  -- the leaves as far as they are told anew
  obtain ⟨u,B⟩:∃ u:Nat->Int->Option Lf,u=λv n=>if n ∈ ps.take v then (lfS φ a.1 n).map λy=>⟨y.frame,pw,pu,px⟩ else lfS φ a.1 n:=⟨_,rfl⟩
  refine ⟨λx m A'=>∃ (v:Nat) (W':Int->Int->Int) (I:List Ln),x=v/\m+v=ps.length/\Rest g.G W' a.2.root a.2.tab (u v) a.2.tl/\(∀ f,f ∉ a.2.tl->W' f=g.W f)/\(∀ j,256<=j->W' a.2.root j=g.W a.2.root j)/\
   (∀ y ∈ I,y.v=true->y ∈ g.ls/\∀ n ∈ ps.take v,¬(g.z.tag.lookup a.1.id=some y.tag/\y.page=n))/\
   Own (macG c { g with W:=W',ls:=I } (ownC a'::SlO G 1 (intsV ps)::((pre++post).map ownC++R))) A',⟨ps.length,0,g.W,g.ls,rfl,rfl,?_,λ_ _=>rfl,λ_ _=>rfl,λy N _=>⟨N,by simp⟩,h7⟩,?_⟩
  .have:u 0=lfS φ a.1:=by rw [B];funext n;simp
   rw [this];exact o.rest
  intro x m A7 ⟨v,W',I,e1,e2,Z,hW',T,U,h8⟩;subst e1;refine bsel_in (λcc=>?_) λcc=>?_
  .have cc:(v:Int)<G.len:=of_decide_eq_true cc;obtain ⟨n,V⟩:∃ n,ps[v]? = some n:=⟨ps[v]'(by omega),by simp⟩;obtain ⟨ad,q1,q2⟩:=aKd (k:=8) h8 rfl aR V;rw [q1];refine inB_in (by omega) cc (q2 _ ?_);obtain ⟨lm2,h9⟩:=macG.openOne h8;refine bQ (i:=7) h9 rfl rfl (bQ (i:=7) h9 rfl rfl (prs (k:=3) h9 rfl ⟨bQ (i:=7) h9 rfl rfl rfl,?_⟩))
   have hnp:u v n≠none:=by
    have:n ∈ ps:=List.mem_of_getElem? V;rw [H] at this;have:=(b.ps E n).1 (List.mem_filter.1 this).1;rw [B];simp only;split
    .simp_all
    .exact this
   have hR2:Rest g.G W' a'.2.root a'.2.tab (u v) a'.2.tl:=by rw [K];exact Z
   refine zD h9 hGr hR2 (λz=>absurd z hnp) λy N W2 A8 hR3 hW3 hHi3 h10=>?_;have h11:Own (macG c { g with W:=W2,ls:=I } (ownC a'::SlO G 1 (intsV ps)::((pre++post).map ownC++R))) A8:=macG.closeOne (lm:=lm2) h10;refine aE9 h11 λls2 A9 hls2 h12=>⟨m-1,by omega,v+1,W2,ls2,by rw [w64]<;>omega,by omega,?_,λf O=>?_,λj hj=>?_,λz hz hv=>?_,h12⟩
   .have e:u (v+1)=setL (u v) n (some ⟨y.frame,pw,pu,px⟩):=by
     funext i;unfold setL;rw [B] at N ⊢;simp only at N ⊢;rw [cN V];simp only [List.mem_append,List.mem_singleton];by_cases e1:i=n
     .subst e1;rw [if_pos (.inr rfl),if_pos rfl];split at N
      .obtain ⟨y0,hy0,rfl⟩:=Option.map_eq_some_iff.1 N;rw [hy0];rfl
      .rw [N];rfl
     .simp_all
    rw [e];rw [K] at hR3;exact hR3
   .simp_all
   .simp_all
   .obtain ⟨k1,k2⟩:=hls2 z hz hv;obtain ⟨k3,k4⟩:=U z k1 hv;refine ⟨k3,λi hi=>?_⟩;rw [cN V] at hi;rcases List.mem_append.1 hi with hi | hi
    .exact k4 i hi
    .simp_all
  .have cc:¬ (v:Int)<G.len:=of_decide_eq_false cc;have J:ps.take v=ps:=List.take_of_length_le (by omega)
   have hlf:u v=lfS φ a'.1:=by
    funext n;rw [B];simp only;rw [J,a1]
    have e3:lfS φ { a.1 with regs:=protR a.1.regs p q pw pu px } n=match pgAt a.1 n,lookR (protR a.1.regs p q pw pu px) n with
     | some g,some a=>some ⟨φ g.key,a.1,a.2.1,a.2.2.1⟩
     | _,_=>none:=rfl
    rw [e3,c2];unfold lfS;cases e:pgAt a.1 n with
    | none=>
     have:n ∉ ps:=λz=>by
      rw [H] at z;exact iB.1 e (List.mem_filter.1 z).1
     rw [if_neg this]
    | some z=>
     obtain ⟨z1,z2⟩:=aL e
     have:n ∈ ps↔p<=n/\n<q:=by
      rw [H,List.mem_filter];unfold inZ;simp only [Bool.and_eq_true,decide_eq_true_eq];exact ⟨λw=>w.2,λw=>⟨by rw [<-z2];exact List.mem_map_of_mem z1,w⟩⟩
     by_cases d:p<=n/\n<q
     .rw [if_pos (this.2 d),if_pos d];cases lookR a.1.regs n<;>rfl
     .rw [if_neg (λw=>d (this.1 w)),if_neg d];cases lookR a.1.regs n<;>rfl
   rw [hlf] at Z;have hcost:=oJ r S;have X:=hM.prot b.mem S;rw [b.pay (s':={ a.1 with regs:=protR a.1.regs p q pw pu px }) rfl,hcost,Int.sub_self,addU_zero] at F;refine F A7 X (MacS.closeH (g:={ g with W:=W',ls:=I }) (L:=pre++a'::post) ?_ (macG.unfocus (macG.mapR (λC Y=>Y.cons λD hD=>hD.tail) h8)));have hoK:ownK (pre.map (·.1)++{ a.1 with regs:=protR a.1.regs p q pw pu px }::post.map (·.1))=ownK M.sps:=by rw [b.mem,bY,bY,bZ,bZ,(qL r S).1]
   refine b.less (gn:=[]) aid ap (by simp [a1]) X.toInvL rfl b.ns b.n b.pc ?_ (λx=>by simp) (λx=>by simp) ⟨?_,⟨?_,λj j1 j2=>?_⟩,?_,λi=>?_,?_⟩ (λf O hf2=>hW' f hf2) (λk F i=>?_) ?_
   .rw [List.append_nil];unfold frC;rw [a1,K,(qL r S).1]
   .rw [K];exact Z
   .rw [K];obtain ⟨b1,b2,b3⟩:=o.rt.k;exact ⟨b1,b2,by show W' a.2.root 256=_;rw [T 256 (by omega)];exact b3⟩
   .rw [K];show W' a.2.root j=0;rw [T j (by omega)];exact o.rt.z j j1 j2
   .rw [K];exact o.lnd
   .rw [K,a1];exact o.lent i
   .rw [K,a1];exact hsl
   .show W' (φ k) i=M.wd k i;have hk2:k ∈ ownK M.sps:=by rw [<-hoK];exact F
    rw [hW' _ ((b.data hk2).2.1 a E)];exact b.wd k hk2 i
   .intro y N hv;obtain ⟨k1,k2⟩:=U y N hv;obtain ⟨l1,x,l2,l3⟩:=b.ln y k1 hv;refine ⟨l1,x,?_,l3⟩;unfold vw at l2 ⊢;cases e:g.z.own.lookup y.tag with
    | none=>rw [e] at l2;cases l2
    | some id'=>
     rw [e] at l2;have l2:lfL φ M.sps id' y.page=some x:=l2;show lfL φ (pre.map (·.1)++{ a.1 with regs:=protR a.1.regs p q pw pu px }::post.map (·.1)) id' y.page=some x;have e1:pre.map (·.1)++{ a.1 with regs:=protR a.1.regs p q pw pu px }::post.map (·.1)=(pre++a'::post).map (·.1):=by simp [a1]
     have e2:M.sps=(pre++a::post).map (·.1):=by rw [b.mem];simp
     have V:=b.nodupI;rw [e2,List.map_map] at V;rw [e2,eV (a:=a) (a':=a) (φ:=φ) V rfl λ_ _ _ _=>rfl] at l2;rw [e1,eV (a:=a) (a':=a') (φ:=φ) V aid λ_ _ _ _=>rfl];by_cases g1:id'=a.1.id
     .rw [if_pos g1] at l2 ⊢;rw [<-hlf,B];simp only;rw [J,if_neg]
      .exact l2
      .intro z;refine k2 y.page (by rw [J];exact z) ⟨?_,rfl⟩;rw [<-g1];exact b.pc.back _ _ e
     .rw [if_neg g1] at l2 ⊢;exact l2
end Go.Dn
namespace Go.Dn
variable {A:AH} {l R:List SP} {c:Mc} {g:Sg} {L pre post:List Sc} {M:Mm} {φ:Int->Int} {a:Sc} {s:Sm} {i:Nat} {nd:Nd} {id:Int}
def insS:List Sm->Sm->List Sm
 | [],s=>[s]
 | x::r,s=>if s.id<x.id then s::x::r else x::insS r s
theorem aFk {k:Int} {v:Value}:∀ {m:List (Int × Value)},m.lookup k=none->putM m k v=m++[(k,v)]
 | [],_=>rfl
 | (a,w)::m,h=>by
  rw [List.lookup_cons] at h;by_cases g:a=k
  .simp_all
  .have:(k==a)=false:=by simpa using λq=>g q.symm
   rw [this] at h;unfold putM;rw [if_neg g,aFk h];rfl
theorem iX (s:Sm):∀ l:List Sm,∃ pre post,l=pre++post/\insS l s=pre++s::post
 | []=>⟨[],[],rfl,rfl⟩
 | x::r=>by
  unfold insS;split
  .exact ⟨[],x::r,rfl,rfl⟩
  .obtain ⟨p,q,b,d⟩:=iX s r;exact ⟨x::p,q,by rw [b];rfl,by rw [d];rfl⟩
theorem aCw:∀ {l:List Sm},(l.map (·.id)).Pairwise (· < ·)->(∀ x ∈ l,x.id≠s.id)->((insS l s).map (·.id)).Pairwise (· < ·)
 | [],_,_=>by simp [insS]
 | x::r,h,hn=>by
  rw [List.map_cons,List.pairwise_cons] at h;have f:=hn x (by simp);unfold insS;split
  .rename_i c;rw [List.map_cons,List.map_cons,List.pairwise_cons,List.pairwise_cons];refine ⟨λy d=>?_,h⟩;rcases List.mem_cons.1 d with rfl | d
   .exact c
   .grind
  .rename_i c;rw [List.map_cons,List.pairwise_cons];refine ⟨λy d=>?_,aCw h.2 λz b=>hn z (by simp [b])⟩;obtain ⟨z,b,rfl⟩:=List.mem_map.1 d;obtain ⟨p,q,e1,e⟩:=iX s r;rw [e] at b;rcases mid_iff.1 b with rfl | b
   .omega
   .rw [<-e1] at b;exact h.1 _ (List.mem_map_of_mem b)
def newS (id:Int) (i:Nat):Sm:=⟨id,i,[],[]⟩
def openM (M:Mm) (id:Int) (i:Nat):Mm × Int:=if id<0 then (M,1) else if (findS M id).isSome=true then (M,6) else if roomN M.ns i<1 then (M,8)
 else ({ M with sps:=insS M.sps (newS id i),ns:=addU M.ns i 1 },0)
theorem aCx:costS (newS id i)=1:=rfl
theorem bA.opn (h:bA M) (w:findS M id=none) (t:liveN M.ns i=true) (y:¬ roomN M.ns i<1):bA { M with sps:=insS M.sps (newS id i),ns:=addU M.ns i 1 }:=by
 obtain ⟨p,q,e1,u⟩:=iX (newS id i) M.sps
 have B:∀ x ∈ M.sps,x.id≠id:=λx b e=>by
  unfold findS at w;rw [List.find?_eq_none] at w;exact w x b (by simp [e])
 have f:∀ x,x ∈ insS M.sps (newS id i)↔x=newS id i\/x ∈ M.sps:=λx=>by rw [u,mid_iff,<- e1]
 obtain ⟨d,C,J⟩:∃ d,M.ns[i]? = some d/\d.live=true:=by
  unfold liveN at t;cases e:M.ns[i]? with
  | none=>rw [e] at t;cases t
  | some d=>rw [e] at t;exact ⟨d,rfl,t⟩
 have D:ownK (insS M.sps (newS id i))=ownK M.sps:=by rw [u,e1,bY,bY,bZ];rfl
 have K:borK (insS M.sps (newS id i))=borK M.sps:=by rw [u,e1,dG,dG,cT];rfl
 have o:1<=d.room:=by unfold roomN at y;rw [C] at y;simp only at y;omega
 have P:=(h.tree.ok d (List.mem_of_getElem? C)).use;have E:(newS id i).pgs=[]:=rfl;have N:∀ n,lookR (newS id i).regs n=none:=λn=>rfl;refine { srt:=aCw h.srt B,good:=λx b=>?_,pgs:=λx b=>?_,reg:=λx b=>?_,own:=by show (ownK (insS M.sps (newS id i))).Nodup;rw [D];exact h.own,src:=λx b z F=>?_,key:=by show ∀ k ∈ ownK (insS M.sps (newS id i)),_;rw [D];exact h.key,zero:=h.zero,keys0:=h.keys0,tree:=h.tree.addU C (by omega) o,live:=λx b=>?_,use:=λj e m r=>?_,kind:=λx b=>?_,bor:=λx b=>?_,lent:=λx b=>?_ }
 .rcases (f x).1 b with rfl | b
  .rfl
  .exact h.good x b
 .rcases (f x).1 b with rfl | b
  .exact List.Pairwise.nil
  .exact h.pgs x b
 .rcases (f x).1 b with rfl | b
  .simp_all
  .exact h.reg x b
 .show z.key ∈ ownK (insS M.sps (newS id i));rw [D];rcases (f x).1 b with rfl | b
  .simp_all
  .exact h.src x b z F
 .show liveN (addU M.ns i 1) x.box=true;rw [oS];rcases (f x).1 b with rfl | b
  .exact t
  .exact h.live x b
 .have m:(addU M.ns i 1)[j]? = some e:=m;rw [dL] at m;cases G:M.ns[j]? with
  | none=>rw [G] at m;cases m
  | some x=>
   rw [G] at m;simp only [Option.map_some,Option.some.injEq] at m;have H:x.live=true:=by rw [<-m] at r;split at r<;>exact r
   have O:=h.use j x G H;show e.use=_+sumZ (costB j) (insS M.sps (newS id i));rw [u,sK,<- e1];by_cases v:i=j
   .rw [if_pos v] at m;have I:costB j (newS id i)=1:=by unfold costB;rw [show (newS id i).box=i from rfl,if_pos v];rfl
    rw [<-m,I];simp only;omega
   .rw [if_neg v] at m;have I:costB j (newS id i)=0:=by unfold costB;rw [show (newS id i).box=i from rfl,if_neg v]
    rw [<-m,I];omega
 .rcases (f x).1 b with rfl | b
  .simp_all
  .exact h.kind x b
 .rcases (f x).1 b with rfl | b
  .simp_all
  .exact h.bor x b
 .show ∀ z ∈ ownP x,z.lent=((borK (insS M.sps (newS id i))).count z.key:Nat);rw [K];rcases (f x).1 b with rfl | b
  .intro z F;have:=(cJ.1 F).1;rw [E] at this;cases this
  .exact h.lent x b
theorem lfL_ins {pre post:List Sc} (d:∀ b ∈ pre++post,b.1.id≠a.1.id) (h:∀ q,lfS φ a.1 q=none) (j:Int):lfL φ ((pre++a::post).map (·.1)) j=lfL φ ((pre++post).map (·.1)) j:=by
 unfold lfL;rw [List.map_append,List.map_cons,List.find?_append,List.find?_cons,List.map_append,List.find?_append];by_cases e:a.1.id=j
 .rw [show (a.1.id==j)=true by simp [e]];have e1:∀ l:List Sc,(∀ b ∈ l,b.1.id≠a.1.id)->(l.map (·.1)).find? (λs=>s.id==j)=none:=λl h=>by grind
  rw [e1 pre λb f=>d b (List.mem_append_left _ f),e1 post λb f=>d b (List.mem_append_right _ f)];simp only [Option.none_or];exact funext h
 .grind
theorem aG2 {Q:Int->AH->Prop} (h:Own (MacS c M φ::R) A) (hM:bA M) (S:liveN M.ns i=true) (D:∀ A',bA (openM M id i).1->Own (MacS c (openM M id i).1 φ::R) A'->Q (openM M id i).2 A'):qbz_A (some ⟨c.m,0,none⟩) id i Q A:=by
 obtain ⟨g,L,m,h⟩:=MacS.openH h
 have hkr:0<=c.kern/\c.kern<1048576:=by
  have:=(m.rng c.kern).1 (.inr ((m.G _).2 (by unfold frs;simp)));have:=m.N.2;omega
 unfold qbz_A qbz_G;refine bsel_in (λc1=>?_) λc1=>?_
 .have c1:id<0:=of_decide_eq_true c1;have e:openM M id i=(M,1):=by unfold openM;rw [if_pos c1]
  rw [e] at D;exact D A hM (MacS.closeH m h)
 have c1:¬ id<0:=of_decide_eq_false c1;simp only [aJ,add_at,Nat.zero_add];cases u:findS M id with
 | some s=>
  have e:openM M id i=(M,6):=by unfold openM;rw [if_neg c1,u];rfl
  rw [e] at D;obtain ⟨a,pre,post,rfl,rfl,rfl,_⟩:=m.has u;exact uJ h m ⟨some ⟨a.2.p,0,none⟩,rfl,aG rfl (D A hM (MacS.closeH m h))⟩
 | none=>
  obtain ⟨d,U,J⟩:∃ d,M.ns[i]? = some d/\d.live=true:=by
   unfold liveN at S;cases e:M.ns[i]? with
   | none=>rw [e] at S;cases S
   | some d=>rw [e] at S;exact ⟨d,rfl,S⟩
  have V:g.ns[i]? = some d:=by rw [m.ns];exact U
  have X:=m.inv.tree.room U J;rw [<-m.n] at X;have Y:roomN M.ns i=d.room:=by unfold roomN;rw [U]
  have hFG:=(iF h.tail).1;refine jY h m u ⟨none,rfl,bsel_f rfl (bQ (i:=3) h rfl rfl (prs (k:=3) h rfl ⟨bQ (i:=3) h rfl rfl rfl,?_⟩))⟩;refine aF7 (i:=i) (tk:=[]) (oQ V h) V J (λf u=>vJ.2 (by have:=(m.rng f).1 (.inl u);omega)) hkr (λc2=>?_) (λc2 c3=>?_) λc2 _ root A1 Z _ K=>bsel_f rfl ?_
  .have e:openM M id i=(M,8):=by unfold openM;rw [if_neg c1,u,Y,if_neg (by simp),if_pos (by unfold Nd.room;simp at c2;omega)]
   rw [e] at D;exact aG rfl (D A hM (MacS.closeH m h))
  .exfalso;unfold Nd.room at X;simp at c2 c3;omega
  have hnr:¬ roomN M.ns i<1:=by rw [Y];unfold Nd.room;simp at c2;omega
  have e:openM M id i=({ M with sps:=insS M.sps (newS id i),ns:=addU M.ns i 1 },0):=by unfold openM;rw [if_neg c1,u,if_neg (by simp),if_neg hnr]
  have E:=hM.opn u S hnr;rw [e] at D;obtain ⟨p,q,e1,e2⟩:=iX (newS id i) M.sps;obtain ⟨W1,w⟩:∃ W1,W1=setW (zeroW g.W root) root 256 (kEnt c.kern):=⟨_,rfl⟩;have hrG:¬ g.G root:=hFG root Z;obtain ⟨r,o⟩:∃ r:Sg,r = { g with F:=λx=>g.F x/\x ∉ [root],G:=λx=>g.G x\/x ∈ [root],W:=W1,n:=g.n-1,ns:=addU M.ns i 1 }:=⟨_,rfl⟩
  have K:Own (macG c r (L.map ownC++R)) A1:=by
   have K:Own (RamW c.r c.N [] (setW (zeroW g.W root) root 256 (kEnt c.kern))::Bud c.b (λx=>g.F x/\x ∉ [root]) (λx=>g.G x\/x ∈ [root]) (g.n-1)::TreeS c.t (useN g.ns i d (d.use+1))::At c.m (mcC c)::MapI c.sp .i64 g.sps::TlbS c.tl g.ls::PcS c.tg g.z::(L.map ownC++R)) A1:=K;rw [<-w,m.ns,<- jU U] at K;rw [o];exact K
  refine fC (i:=3) K rfl rfl ?_;refine uT (k:=.i64) K λlm A2 h2=>?_;refine aT (cs:=[.int .i64 i,.int .i64 root,.slice none 0 0,.map (some lm)]) h2 λy A3 h3=>?_;refine aDs (i:=6) h3 rfl λA4 h4=>D A4 E ?_
  -- where it lies among the others
  have hsp:L.map (·.1)=p++q:=by rw [m.abs,e1]
  obtain ⟨pre,post,T,hp1,hp2⟩:∃ pre post,L=pre++post/\pre.map (·.1)=p/\post.map (·.1)=q:=List.map_eq_append_iff.1 hsp;obtain ⟨a,v⟩:∃ a:Sc,a=(newS id i,⟨y,root,Sl.nil,[],tab0 root,[root]⟩):=⟨_,rfl⟩
  have hne:∀ b ∈ pre++post,b.1.id≠a.1.id:=λb hb z=>by
   have hbm:b.1 ∈ M.sps:=by rw [<-m.abs,T];exact List.mem_map_of_mem hb
   unfold findS at u;rw [List.find?_eq_none] at u;exact u b.1 hbm (by rw [z,v];simp [newS])
  have hnl:r.sps.lookup id=none:=by rw [o];exact m.hno u
  have H:∀ n,lfS φ a.1 n=none:=λn=>by rw [v];rfl
  have N:∀ f,g.G f->W1 f=g.W f:=λf t=>by
   have:f≠root:=λz=>hrG (by simp_all);rw [w,bX this,eK this]
  have hrng:=(m.rng root).1 (.inl Z);have hNN:=m.N.2
  have I:(frs c φ (pre++a::post)).Perm (root::frs c φ L):=by
   refine aBa.trans ?_;rw [T,v];exact List.Perm.refl _
  have O:Rest (λx=>g.G x\/x ∈ [root]) W1 root (tab0 root) (λ_=>none) [root]:=by
   have key:∀ k q f,tab0 root k q=some f↔(k=0/\q=0)/\f=root:=λk q f=>by
    unfold tab0;split
    .grind
    .simp_all
   refine ⟨TabW.init (λj j0 j1=>?_) ⟨by omega,by omega⟩,λp x e=>(by cases e),λk q f e hk1=>?_,(by simp),λf=>?_,λf t=>.inr t⟩
   .rw [w];unfold setW zeroW;rw [if_neg (by omega),if_pos rfl]
   .simp_all
   .simp_all
  have hSn:aZ c { r with sps:=putM r.sps id (ptrV y) } (pre++a::post) { M with sps:=insS M.sps (newS id i),ns:=addU M.ns i 1 } φ:=by
   refine ⟨E.toInvL,?_,by rw [o],?_,?_,I.nodup_iff.2 (List.nodup_cons.2 ⟨λz=>hrG ((m.G root).2 z),m.nd⟩),λf=>?_,λf=>?_,λb hb=>?_,λk B j=>?_,λj hj=>?_,by rw [o];exact m.pc,?_,m.N⟩
   .simp_all
   .rw [o];show g.n-1=sumZ rmN (addU M.ns i 1);rw [jB U J,m.n]
   .show (putM r.sps id (ptrV y)).Perm (entC (pre++a::post));rw [aFk hnl,o]
    have:(entC (pre++a::post)).Perm ((id,ptrV y)::entC L):=by
     unfold entC;rw [List.map_append,List.map_cons,T,List.map_append,v];exact List.perm_middle
    exact ((List.perm_append_comm (l₁:=g.sps) (l₂:=[(id,ptrV y)])).trans (List.Perm.cons _ m.sps)).trans this.symm
   .rw [o,I.mem_iff];show g.G f\/f ∈ [root]↔_;rw [m.G,List.mem_singleton,List.mem_cons];exact or_comm
   .rw [o];show (g.F f/\f ∉ [root])\/(g.G f\/f ∈ [root])↔_;rw [<-m.rng f];simp only [List.mem_singleton];constructor
    .grind
    .grind
   .rcases cmid_iff.1 hb with rfl | hb
    .refine ⟨?_,⟨⟨false,false,?_⟩,λj j1 j2=>?_⟩,by rw [v];exact List.nodup_nil,λq=>by rw [v];rfl,λ_=>by rw [v];rfl⟩
     .rw [o,show lfS φ b.1=λ_=>none from funext H,v];exact O
     .rw [o,v];show W1 root 256=_;rw [w];unfold setW;rw [if_pos ⟨rfl,rfl⟩];rfl
     .rw [o,v];show W1 root j=0;rw [w];unfold setW zeroW;rw [if_neg (by omega),if_pos rfl]
    .have P:b ∈ L:=by rw [T];exact hb
     refine (m.one b P).keep (λf t=>?_) (λf t=>?_) λ_ _=>rfl
     .rw [o];exact N f (m.fr_tl P t)
     .rw [o];exact .inl (m.fr_tl P t)
   .have hk3:k ∈ ownK M.sps:=by
     have B:k ∈ ownK (insS M.sps (newS id i)):=B;rw [e2,bY,bZ] at B;rw [e1,bY];exact B
    rw [o];show W1 (φ k) j=M.wd k j;rw [N _ (m.data hk3).1];exact m.wd k hk3 j
   .rw [o];show W1 c.kern j=_;rw [N _ ((m.G _).2 (by unfold frs;simp))];exact m.kw j hj
   .rw [o];show LnOK (vw g.z (lfL φ (insS M.sps (newS id i)))) g.ls;have e5:insS M.sps (newS id i)=(pre++a::post).map (·.1):=by rw [e2,List.map_append,List.map_cons,hp1,hp2,v]
    have e6:M.sps=(pre++post).map (·.1):=by rw [<-m.abs,T]
    have:=m.ln;rw [e6] at this;rw [e5,show lfL φ ((pre++a::post).map (·.1))=lfL φ ((pre++post).map (·.1)) from funext λj=>lfL_ins hne H j];exact this
  refine MacS.closeH hSn (macG.unfocus ?_);have h4:Own (At y [.int .i64 i,.int .i64 root,.slice none 0 0,.map (some lm)]::MapI lm .i64 []::macG c { r with sps:=putM r.sps id (ptrV y) } (L.map ownC++R)) A4:=h4;have h5:Own (mY y lm i root Sl.nil [] []++macG c { r with sps:=putM r.sps id (ptrV y) } (L.map ownC++R)) A4:=h4.cons λC hC=>Own.nil6 hC;have h6:Own (ownC a::macG c { r with sps:=putM r.sps id (ptrV y) } (L.map ownC++R)) A4:=by rw [v];exact OneS.closeH h5
  rw [T] at h6;exact macG.backX h6
end Go.Dn
namespace Go.Dn
variable {A:AH} {R:List SP} {t i:Nat} {ns:List Nd} {d:Nd}
theorem aAm (h:firstDead ns=none) (q:Int):kidN ns i d q=(ns.set i { d with lent:=d.lent+q }++[⟨i,q,0,0,true⟩],ns.length):=by unfold kidN;rw [h]
theorem aGc {j:Nat} (h:firstDead ns=some j) (q:Int):kidN ns i d q=((ns.set i { d with lent:=d.lent+q }).set j ⟨i,q,0,0,true⟩,j):=by unfold kidN;rw [h]
def kidE (ns:List Nd) (d:Nd) (q:Int):Int:=if q<0 then 1 else if q > d.room then 8 else if firstDead ns=none/\64<=ns.length then 4 else 0
theorem aHQ {q:Int} {Q:Int->Int->AH->Prop} (h:Own (TreeS t ns::R) A) (hi:ns[i]? = some d) (n:d.live=true) (o:kidE ns d q≠0->Q 0 (kidE ns d q) A)
  (l:kidE ns d q=0->∀ a,Own (TreeS t (kidN ns i d q).1::R) a->Q (kidN ns i d q).2 0 a):qfv_A (some ⟨t,0,none⟩) i q Q A:=by
 have ok:∀ e,kidE ns d q=e->e≠0->Q 0 e A:=λe p r=>by have:=o (by omega);rw [p] at this;exact this
 refine aDS h hi n (λg=>ok 1 (by unfold kidE;rw [if_pos g]) (by decide)) (λf c=>ok 8 (by unfold kidE Nd.room;rw [if_neg (by omega),if_pos c]) (by decide)) (λf c b m=>ok 4 (by unfold kidE Nd.room;rw [if_neg (by omega),if_neg (by omega),if_pos ⟨b,m⟩]) (by decide)) (λf c b m a k=>?_) λf c j b a k=>?_
 .have:=l (by unfold kidE Nd.room;rw [if_neg (by omega),if_neg (by omega),if_neg (by omega)]) a;rw [aAm b] at this;exact this k
 .have:=l (by unfold kidE Nd.room;rw [if_neg (by omega),if_neg (by omega),if_neg (by rw [b];simp)]) a;rw [aGc b] at this;exact this k
end Go.Dn
