/- What the proof stands on. -/
import Derived.Test.YtmfmhmipcdgikaaGreatChild
import Derived.Test.YtmfmhmipcdgikaaGreatRgs
import Derived.Test.YtmfmhmipcdgikaaGreatLnP
import Derived.Test.YtmfmhmipcdgikaaGreatRamB
namespace Go.Dn
variable {A:AH} {R:List SP} {r:Nat} {fr root:Int} {hs:List (Int × Int)} {W:Int->Int->Int} {tab:Tab} {lf:Int->Option Lf} {tl:List Int} {G:Int->Prop}
theorem aEI {a:Int} (h:0<=a/\a<140737488355328):wT a=true:=by
 unfold wT;simp;omega
theorem aCR {a p:Int} {x:Lf} {aw au af:Bool} {Q:WQ} (h:Own (RamW r fr hs W::R) A) (hR:Rest G W root tab lf tl) (hhas:∀ f ∈ tl,hasF fr hs f=true) (ha:0<=a/\a<140737488355328) (hp:a / 4096=p)
  (hl:lf p=some x) (hmay:iJ x.w x.u x.x aw au af=true)
  (hk:∀ d W' A',yB W W'->(∀ t,t ∉ tl->W' t=W t)->Own (RamW r fr hs W'::R) A'->Q x.frame x.w x.u x.x false false d 0 0 0 A') :
  qeb_A (some ⟨r,0,none⟩) root a aw au af Q A:=by
 obtain ⟨M,⟨h1,h2⟩,hh⟩:=RamW.openH h;have hb:=RamW.byte hh;have hp2:0<=p/\p<34359738368:=by omega
 have hhas':∀ k q f,tab k q=some f->hasF fr hs f=true:=λk q f e=>hhas f ((hR.mem f).2 ⟨k,q,e⟩);have hroot:tab 0 0=some root:=(hR.T.root 0 root).2 ⟨rfl,rfl⟩;obtain ⟨d,ps,e,hps⟩:=aEY (aw:=aw) (au:=au) (af:=af) (a:=a) (M:=M) (λt i t0 i0 i1=>h2 t i t0 i0 i1) hR.T hhas' hp2 hp;obtain ⟨nd,hlen,hpl⟩:=hps (by rw [hl];simp);refine aEL (i:=0) hh rfl h1.holes ⟨h1.lo,h1.hi⟩ ⟨by omega,by omega⟩ ?_
 have e2:aD8 fr hs M root a aw au af = .ok x.frame x.w x.u x.x false false (d || aw) ps:=by
  unfold aD8;rw [aEI ha,hhas' 0 0 root hroot,e,hl];simp [aLT,hmay]
 rw [e2]
 have hpl':∀ p ∈ ps,∃ t i,p=t*4096+8*i/\0<=i/\i<512/\bR M t i≠0:=λq hq=>by
  obtain ⟨k,q',t,i,f1,f2,⟨f3,f4⟩,f5⟩:=hpl q hq;refine ⟨t,i,f2,f3,f4,?_⟩;rw [<-h2 t i (hR.T.range _ _ _ f1).1 f3 f4];exact f5
 obtain ⟨m1,m2,m3⟩:=sN (wr:=aw) ps M hb nd hpl';intro A' hA;refine hk (d || aw) (λt i=>if 0<=t/\0<=i/\i<512 then bR (eD M aw ps) t i else W t i) A' ?_ ?_ (RamW.closeH h1 (λt i q1 q2 q3=>by rw [if_pos ⟨q1,q2,q3⟩]) hA)
 ·intro f j j0 j1;by_cases f0:0<=f
  ·have:=m2 f j j0 j1;rw [h2 f j f0 j0 j1];have e:(if 0<=f/\0<=j/\j<512 then bR (eD M aw ps) f j else W f j)=bR (eD M aw ps) f j:=if_pos ⟨f0,j0,j1⟩;simp only [e];exact this
  ·left;exact if_neg (by omega)
 ·intro t ht;funext i;show (if 0<=t/\0<=i/\i<512 then bR (eD M aw ps) t i else W t i)=W t i;split
  ·rename_i g;rw [h2 t i g.1 g.2.1 g.2.2];refine m3 t i g.2.1 g.2.2 λhm=>?_;obtain ⟨k,q',t',i',f1,f2,⟨f3,f4⟩,_⟩:=hpl _ hm;have:t=t':=by omega
   subst this;exact ht ((hR.mem t).2 ⟨k,q',f1⟩)
  ·rfl
theorem Rest.mark {W':Int->Int->Int} (hR:Rest G W root tab lf tl) (hm:yB W W'):Rest G W' root tab lf tl:=⟨hR.T.mark hm,hR.pr,hR.low,hR.nd,hR.mem,hR.inG⟩
end Go.Dn
namespace Go.Dn
structure Mc where
 N:Int
 r:Nat
 b:Nat
 t:Nat
 m:Nat
 tl:Nat
 tg:Nat
 sp:Nat
 kern:Int
 mid:Int
structure Sg where
 F:Int->Prop
 G:Int->Prop
 W:Int->Int->Int
 n:Int
 ns:List Nd
 ls:List Ln
 z:PcZ
 sps:List (Int × Value)
structure Cs where
 p:Nat
 root:Int
 s:Sl
 lent:List (Int × Int)
 tab:Tab
 tl:List Int
abbrev Sc:=Sm × Cs
def mcC (c:Mc):List Value:=[.pointer (some ⟨c.r,0,none⟩),.pointer (some ⟨c.b,0,none⟩),.pointer (some ⟨c.t,0,none⟩),.pointer (some ⟨c.tl,0,none⟩),.pointer (some ⟨c.tg,0,none⟩),.int .i64 c.kern,.map (some c.sp)]
def macG (c:Mc) (g:Sg) (R:List SP):List SP:=RamW c.r c.N [] g.W::Bud c.b g.F g.G g.n::TreeS c.t g.ns::At c.m (mcC c)::MapI c.sp .i64 g.sps::TlbS c.tl g.ls::PcS c.tg g.z::R
def ownC (a:Sc):SP:=OneS a.2.p a.1.box a.2.root a.2.s a.1.regs a.2.lent
def lfS (φ:Int->Int) (s:Sm):Int->Option Lf:=λq=>match pgAt s q,lookR s.regs q with
 | some g,some a=>some ⟨φ g.key,a.1,a.2.1,a.2.2.1⟩
 | _,_=>none
def lfL (φ:Int->Int) (l:List Sm) (id:Int):Int->Option Lf:=match l.find? (λs=>s.id==id) with
 | some s=>lfS φ s
 | none=>λ_=>none
def frC (φ:Int->Int) (a:Sc):List Int:=a.2.tl++(ownP a.1).map λg=>φ g.key
def frs (c:Mc) (φ:Int->Int) (L:List Sc):List Int:=c.kern::c.mid::L.flatMap (frC φ)
structure RtOK (c:Mc) (W:Int->Int->Int) (root:Int):Prop where
 k:∃ a d,W root 256=packZ true true false a d false false false c.kern
 z:∀ j,256<j->j<512->W root j=0
structure SpOK (c:Mc) (g:Sg) (φ:Int->Int) (a:Sc):Prop where
 rest:Rest g.G g.W a.2.root a.2.tab (lfS φ a.1) a.2.tl
 rt:RtOK c g.W a.2.root
 lnd:(a.2.lent.map (·.1)).Nodup
 lent:∀ q,a.2.lent.lookup q=(pgAt a.1 q).bind λg=>if g.lent=0 then none else some g.lent
 sl:a.2.s.a=none->a.1.regs=[]
def entC (L:List Sc):List (Int × Value):=L.map λa=>(a.1.id,ptrV a.2.p)
structure SgOK (c:Mc) (g:Sg) (L:List Sc) (M:Mm) (φ:Int->Int):Prop where
 inv:InvL M
 abs:L.map (·.1)=M.sps
 ns:g.ns=M.ns
 n:g.n=sumZ rmN M.ns
 sps:g.sps.Perm (entC L)
 nd:(frs c φ L).Nodup
 G:∀ f,g.G f↔f ∈ frs c φ L
 rng:∀ f,g.F f\/g.G f↔1<=f/\f<c.N
 one:∀ a ∈ L,SpOK c g φ a
 wd:∀ k ∈ ownK M.sps,∀ i,g.W (φ k) i=M.wd k i
 kw:∀ q:Nat,q<512->g.W c.kern q=if q=0 then kEnt c.mid else 0
 pc:PcOK g.z
 ln:LnOK (vw g.z (lfL φ M.sps)) g.ls
 N:4<=c.N/\c.N<=262144
def MacS (c:Mc) (M:Mm) (φ:Int->Int):SP:=λB=>∃ g L,SgOK c g L M φ/\Own (macG c g (L.map ownC)) B
variable {A:AH} {l R R':List SP} {c:Mc} {g:Sg} {L pre post:List Sc} {M:Mm} {φ:Int->Int} {a:Sc} {s:Sm}
theorem MacS.openH (h:Own (MacS c M φ::R) A):∃ g L,SgOK c g L M φ/\Own (macG c g (L.map ownC++R)) A:=by
 obtain ⟨g,h⟩:=Own.ex h;obtain ⟨L,h⟩:=Own.ex h;obtain ⟨h1,h⟩:=Own.pure h;exact ⟨g,L,h1,by have:=h.flat;exact this⟩
theorem MacS.closeH (h1:SgOK c g L M φ) (h:Own (macG c g (L.map ownC++R)) A):Own (MacS c M φ::R) A:=by
 have h:Own (macG c g (L.map ownC)++R) A:=h;exact h.app.imp λ_ hB=>⟨g,L,h1,hB⟩
theorem macG.mapR (f:∀ C,Own R C->Own R' C) (h:Own (macG c g R) A):Own (macG c g R') A:=
 h.cons λ_ h=>h.cons λ_ h=>h.cons λ_ h=>h.cons λ_ h=>h.cons λ_ h=>h.cons λ_ h=>h.cons f
theorem macG.focus (h:Own (macG c g ((pre++a::post).map ownC++R)) A):Own (macG c g (ownC a::((pre++post).map ownC++R))) A:=by
 refine macG.mapR (λC hC=>hC.perm ?_) h;rw [List.map_append,List.map_cons,List.map_append,List.append_assoc,List.append_assoc,List.cons_append];exact List.perm_middle
theorem macG.unfocus (h:Own (macG c g (ownC a::((pre++post).map ownC++R))) A):Own (macG c g ((pre++a::post).map ownC++R)) A:=by
 refine macG.mapR (λC hC=>hC.perm (List.Perm.symm ?_)) h;rw [List.map_append,List.map_cons,List.map_append,List.append_assoc,List.append_assoc,List.cons_append];exact List.perm_middle
theorem macG.pick (i:Nat) {P:SP} (e:(macG c g R)[i]? = some P) (h:Own (macG c g R) A):Own (P::(macG c g R).eraseIdx i) A:=Own.pick i e h
theorem macG.tlb (h:Own (macG c g R) A):Own (TlbS c.tl g.ls::(macG c g R).eraseIdx 5) A:=Own.pick 5 rfl h
theorem macG.tlbB {ls':List Ln} (h:Own (TlbS c.tl ls'::(macG c g R).eraseIdx 5) A):Own (macG c { g with ls:=ls' } R) A:=
 Own.back (l:=macG c g R) (P:=TlbS c.tl g.ls) (P':=TlbS c.tl ls') 5 rfl h
theorem macG.tags (h:Own (macG c g R) A):Own (PcS c.tg g.z::(macG c g R).eraseIdx 6) A:=Own.pick 6 rfl h
theorem macG.tagsB {z':PcZ} (h:Own (PcS c.tg z'::(macG c g R).eraseIdx 6) A):Own (macG c { g with z:=z' } R) A:=
 Own.back (l:=macG c g R) (P:=PcS c.tg g.z) (P':=PcS c.tg z') 6 rfl h
theorem macG.tree (h:Own (macG c g R) A):Own (TreeS c.t g.ns::(macG c g R).eraseIdx 2) A:=Own.pick 2 rfl h
theorem macG.treeB {ns':List Nd} (h:Own (TreeS c.t ns'::(macG c g R).eraseIdx 2) A):Own (macG c { g with ns:=ns' } R) A:=
 Own.back (l:=macG c g R) (P:=TreeS c.t g.ns) (P':=TreeS c.t ns') 2 rfl h
theorem macG.backX {X:SP} (h:Own (X::macG c g R) A):Own (macG c g (X::R)) A:=
 Own.back (l:=macG c g (X::R)) (P:=X) (P':=X) 7 rfl h
theorem macG.frontX {X:SP} (h:Own (macG c g (X::R)) A):Own (X::macG c g R) A:=Own.pick 7 rfl h
theorem prs {k:Nat} {box:Int} {Q:Option Addr->Option Addr->Option Addr->Int->AH->Prop} (h:Own l A) (e:l[k]? = some (At c.m (mcC c))) (hk:Q (some ⟨c.r,0,none⟩) (some ⟨c.b,0,none⟩) (some ⟨c.t,0,none⟩) box A) :
  qau_A (some ⟨c.m,0,none⟩) box Q A:=by
 unfold qau_A;simp only [aH,add_at,Nat.zero_add];exact cO h e rfl (cO h e rfl (cO h e rfl hk))
theorem macG.openOne (h:Own (macG c g (ownC a::R)) A):∃ lm,Own (macG c g (pO a.2.p lm a.1.box a.2.root a.2.s a.1.regs a.2.lent++R)) A:=by
 obtain ⟨lm,h⟩:=OneS.openH (macG.frontX h);refine ⟨lm,?_⟩;have h2:=h.perm (l':=macG c g []++(pO a.2.p lm a.1.box a.2.root a.2.s a.1.regs a.2.lent++R)) ?_
 ·exact h2
 ·rw [<-List.append_assoc];exact (List.perm_append_comm.append_right R).symm.trans (by rw [List.append_assoc];exact List.Perm.append_left _ (by exact List.Perm.refl (macG c g []++R))) |>.symm
theorem macG.closeOne {lm:Nat} (h:Own (macG c g (pO a.2.p lm a.1.box a.2.root a.2.s a.1.regs a.2.lent++R)) A):Own (macG c g (ownC a::R)) A:=macG.mapR (λ_ hC=>OneS.closeH hC) h
end Go.Dn
namespace Go.Dn
variable {l:List SP} {c:Mc} {g g':Sg} {L pre post:List Sc} {M M':Mm} {φ φ':Int->Int} {a a':Sc} {s:Sm} {nw gn:List Int}
theorem zP:(frs c φ (pre++a::post)).Perm (frC φ a++frs c φ (pre++post)):=by
 unfold frs
 have h:((pre++a::post).flatMap (frC φ)).Perm (frC φ a++(pre++post).flatMap (frC φ)):=by
  rw [List.flatMap_append,List.flatMap_cons,List.flatMap_append,<- List.append_assoc,<- List.append_assoc];exact List.Perm.append_right _ List.perm_append_comm
 refine ((h.cons c.mid).cons c.kern).trans ?_;refine List.Perm.trans ?_ List.perm_middle.symm;exact List.Perm.cons _ List.perm_middle.symm
theorem aES (h:∀ q ∈ a.1.pgs,φ' q.key=φ q.key):frC φ' a=frC φ a:=by
 unfold frC;congr 1;exact List.map_congr_left λq hq=>h q (j8.1 hq).1
theorem aEr (h:∀ b ∈ L,∀ q ∈ b.1.pgs,φ' q.key=φ q.key):frs c φ' L=frs c φ L:=by
 unfold frs;congr 2
 induction L with
 | nil=>rfl
 | cons x r ih=>
  rw [List.flatMap_cons,List.flatMap_cons,aES (h x (by simp)),ih λb hb=>h b (by simp [hb])]
theorem xG {s:Sm} (h:∀ q ∈ s.pgs,φ' q.key=φ q.key):lfS φ' s=lfS φ s:=by
 funext q;unfold lfS;cases e:pgAt s q with
 | none=>rfl
 | some x=>
  cases lookR s.regs q with
  | none=>rfl
  | some y=>simp only;rw [h x (eT e).1]
theorem cmid_iff {b:Sc}:b ∈ pre++a::post↔b=a\/b ∈ pre++post:=by
 simp only [List.mem_append,List.mem_cons];constructor
 ·rintro (h | h | h)
  ·exact .inr (.inl h)
  ·exact .inl h
  ·exact .inr (.inr h)
 ·rintro (h | h | h)
  ·exact .inr (.inl h)
  ·exact .inl h
  ·exact .inr (.inr h)
theorem aG0 (hid:a'.1.id=a.1.id) (hp:a'.2.p=a.2.p):entC (pre++a'::post)=entC (pre++a::post):=by simp [entC,hid,hp]
theorem SgOK.oth (h:SgOK c g (pre++a::post) M φ):(frC φ a).Nodup/\(frs c φ (pre++post)).Nodup/\(∀ f ∈ frC φ a,f ∉ frs c φ (pre++post))/\∀ f,g.G f↔f ∈ frC φ a\/f ∈ frs c φ (pre++post):=by
 have hp:=zP (c:=c) (φ:=φ) (pre:=pre) (post:=post) (a:=a);have:=hp.nodup_iff.1 h.nd;rw [List.nodup_append] at this;refine ⟨this.1,this.2.1,λf hf hf2=>this.2.2 f hf f hf2 rfl,λf=>?_⟩;rw [h.G,hp.mem_iff,List.mem_append]
theorem SpOK.keep (h:SpOK c g φ a) (hW:∀ f ∈ a.2.tl,g'.W f=g.W f) (hG:∀ f ∈ a.2.tl,g'.G f) (hφ:∀ q ∈ a.1.pgs,φ' q.key=φ q.key):SpOK c g' φ' a:=by
 have hrt:a.2.root ∈ a.2.tl:=(h.rest.mem _).2 ⟨0,0,(h.rest.T.root 0 _).2 ⟨rfl,rfl⟩⟩;refine ⟨?_,⟨?_,λj=>?_⟩,h.lnd,h.lent,h.sl⟩
 ·rw [xG hφ];exact h.rest.keep hW hG
 ·rw [hW _ hrt];exact h.rt.k
 ·rw [hW _ hrt];exact h.rt.z j
theorem SgOK.upd (h:SgOK c g (pre++a::post) M φ) (hid:a'.1.id=a.1.id) (hp:a'.2.p=a.2.p) (hM:M'.sps=(pre++a'::post).map (·.1)) (hinv:InvL M')
  (hsp:g'.sps=g.sps) (hns:g'.ns=M'.ns) (hn:g'.n=sumZ rmN M'.ns) (hpc:PcOK g'.z) (hx:(frC φ' a').Nodup) (hdis:∀ f ∈ frC φ' a',f ∉ frs c φ (pre++post)) (hG:∀ f,g'.G f↔f ∈ frC φ' a'\/f ∈ frs c φ (pre++post))
  (hrng:∀ f,g'.F f\/g'.G f↔1<=f/\f<c.N) (hone:SpOK c g' φ' a') (hφ:∀ b ∈ pre++post,∀ q ∈ b.1.pgs,φ' q.key=φ q.key) (hW:∀ f,f=c.kern\/(∃ b ∈ pre++post,f ∈ b.2.tl)->g'.W f=g.W f)
  (hwd:∀ k ∈ ownK M'.sps,∀ i,g'.W (φ' k) i=M'.wd k i) (hln:LnOK (vw g'.z (lfL φ' M'.sps)) g'.ls):SgOK c g' (pre++a'::post) M' φ':=by
 have hp1:=zP (c:=c) (φ:=φ') (pre:=pre) (post:=post) (a:=a');rw [aEr (L:=pre++post) hφ] at hp1
 have hin:∀ b ∈ pre++post,∀ f ∈ b.2.tl,f ∈ frs c φ (pre++post):=λb hb f hf=>by
  unfold frs;exact List.mem_cons_of_mem _ (List.mem_cons_of_mem _ (List.mem_flatMap.2 ⟨b,hb,List.mem_append_left _ hf⟩))
 refine ⟨hinv,hM.symm,hns,hn,by rw [hsp,aG0 hid hp];exact h.sps,hp1.nodup_iff.2 (List.nodup_append.2 ⟨hx,h.oth.2.1,λf hf f2 hf2 e=>hdis f hf (by rw [e];exact hf2)⟩),λf=>by rw [hG,hp1.mem_iff,List.mem_append],hrng,λb hb=>?_,hwd,λq hq=>?_,hpc,hln,h.N⟩
 ·rcases cmid_iff.1 hb with rfl | hb
  ·exact hone
  ·exact (h.one b (cmid_iff.2 (.inr hb))).keep (λf hf=>hW f (.inr ⟨b,hb,hf⟩)) (λf hf=>(hG f).2 (.inr (hin b hb f hf))) (hφ b hb)
 ·rw [hW _ (.inl rfl)];exact h.kw q hq
theorem SgOK.grow (h:SgOK c g (pre++a::post) M φ) (hFG:∀ x,g.F x->¬ g.G x) (hid:a'.1.id=a.1.id) (hp:a'.2.p=a.2.p) (hM:M'.sps=(pre++a'::post).map (·.1)) (hinv:InvL M')
  (hsp:g'.sps=g.sps) (hns:g'.ns=M'.ns) (hn:g'.n=sumZ rmN M'.ns) (hpc:PcOK g'.z) (hpm:(frC φ' a').Perm (frC φ a++nw)) (hnn:nw.Nodup) (hnF:∀ x ∈ nw,g.F x) (hF':∀ x,g'.F x↔g.F x/\x ∉ nw) (hG':∀ x,g'.G x↔g.G x\/x ∈ nw)
  (hone:SpOK c g' φ' a') (hφ:∀ b ∈ pre++post,∀ q ∈ b.1.pgs,φ' q.key=φ q.key) (hW:∀ f,g.G f->f ∉ a.2.tl->g'.W f=g.W f)
  (hwd:∀ k ∈ ownK M'.sps,∀ i,g'.W (φ' k) i=M'.wd k i) (hln:LnOK (vw g'.z (lfL φ' M'.sps)) g'.ls):SgOK c g' (pre++a'::post) M' φ':=by
 obtain ⟨o1,o2,o3,o4⟩:=h.oth;have hnG:∀ x ∈ nw,¬ g.G x:=λx hx=>hFG x (hnF x hx);refine h.upd hid hp hM hinv hsp hns hn hpc (hpm.nodup_iff.2 (List.nodup_append.2 ⟨o1,hnn,λx hx y hy e=>hnG y hy ((o4 y).2 (.inl (by rw [<-e];exact hx)))⟩)) (λf hf hf2=>?_) (λf=>?_) (λf=>?_) hone hφ (λf hf=>hW f ?_ ?_) hwd hln
 ·rcases List.mem_append.1 (hpm.mem_iff.1 hf) with hf | hf
  ·exact o3 f hf hf2
  ·exact hnG f hf ((o4 f).2 (.inr hf2))
 ·rw [hG',o4,hpm.mem_iff,List.mem_append];constructor
  ·rintro ((h | h) | h)
   ·exact .inl (.inl h)
   ·exact .inr h
   ·exact .inl (.inr h)
  ·rintro ((h | h) | h)
   ·exact .inl (.inl h)
   ·exact .inr h
   ·exact .inl (.inr h)
 ·rw [hF',hG',<- h.rng f];constructor
  ·rintro (h | h | h)
   ·exact .inl h.1
   ·exact .inr h
   ·exact .inl (hnF f h)
  ·rintro (h | h)
   ·by_cases e:f ∈ nw
    ·exact .inr (.inr e)
    ·exact .inl ⟨h,e⟩
   ·exact .inr (.inl h)
 ·rcases hf with rfl | ⟨b,hb,hf⟩
  ·exact (o4 _).2 (.inr (by unfold frs;simp))
  ·exact (o4 _).2 (.inr (by unfold frs;exact List.mem_cons_of_mem _ (List.mem_cons_of_mem _ (List.mem_flatMap.2 ⟨b,hb,List.mem_append_left _ hf⟩))))
 ·intro hf2;refine o3 f (List.mem_append_left _ hf2) ?_;rcases hf with rfl | ⟨b,hb,hf⟩
  ·unfold frs;simp
  ·unfold frs;exact List.mem_cons_of_mem _ (List.mem_cons_of_mem _ (List.mem_flatMap.2 ⟨b,hb,List.mem_append_left _ hf⟩))
theorem SgOK.less (h:SgOK c g (pre++a::post) M φ) (hid:a'.1.id=a.1.id) (hp:a'.2.p=a.2.p) (hM:M'.sps=(pre++a'::post).map (·.1)) (hinv:InvL M')
  (hsp:g'.sps=g.sps) (hns:g'.ns=M'.ns) (hn:g'.n=sumZ rmN M'.ns) (hpc:PcOK g'.z) (hpm:(frC φ a).Perm (frC φ a'++gn)) (hF':∀ x,g'.F x↔g.F x\/x ∈ gn) (hG':∀ x,g'.G x↔g.G x/\x ∉ gn)
  (hone:SpOK c g' φ a') (hW:∀ f,g.G f->f ∉ a.2.tl->g'.W f=g.W f)
  (hwd:∀ k ∈ ownK M'.sps,∀ i,g'.W (φ k) i=M'.wd k i) (hln:LnOK (vw g'.z (lfL φ M'.sps)) g'.ls):SgOK c g' (pre++a'::post) M' φ:=by
 obtain ⟨o1,o2,o3,o4⟩:=h.oth;have hnn:=List.nodup_append.1 (hpm.nodup_iff.1 o1);refine h.upd hid hp hM hinv hsp hns hn hpc hnn.1 (λf hf=>o3 f (hpm.mem_iff.2 (List.mem_append_left _ hf))) (λf=>?_) (λf=>?_) hone (λ_ _ _ _=>rfl) (λf hf=>hW f ?_ ?_) hwd hln
 ·rw [hG',o4,hpm.mem_iff,List.mem_append];constructor
  ·rintro ⟨(h | h) | h,h2⟩
   ·exact .inl h
   ·exact absurd h h2
   ·exact .inr h
  ·rintro (h | h)
   ·exact ⟨.inl (.inl h),λq=>hnn.2.2 f h f q rfl⟩
   ·exact ⟨.inr h,λq=>o3 f (hpm.mem_iff.2 (List.mem_append_right _ q)) h⟩
 ·rw [hF',hG',<- h.rng f];constructor
  ·rintro ((h | h) | h)
   ·exact .inl h
   ·exact .inr ((o4 f).2 (.inl (hpm.mem_iff.2 (List.mem_append_right _ h))))
   ·exact .inr h.1
  ·rintro (h | h)
   ·exact .inl (.inl h)
   ·by_cases e:f ∈ gn
    ·exact .inl (.inr e)
    ·exact .inr ⟨h,e⟩
 ·rcases hf with rfl | ⟨b,hb,hf⟩
  ·exact (o4 _).2 (.inr (by unfold frs;simp))
  ·exact (o4 _).2 (.inr (by unfold frs;exact List.mem_cons_of_mem _ (List.mem_cons_of_mem _ (List.mem_flatMap.2 ⟨b,hb,List.mem_append_left _ hf⟩))))
 ·intro hf2;refine o3 f (List.mem_append_left _ hf2) ?_;rcases hf with rfl | ⟨b,hb,hf⟩
  ·unfold frs;simp
  ·unfold frs;exact List.mem_cons_of_mem _ (List.mem_cons_of_mem _ (List.mem_flatMap.2 ⟨b,hb,List.mem_append_left _ hf⟩))
theorem SgOK.nodupI (h:SgOK c g L M φ):(M.sps.map (·.id)).Nodup:=rS h.inv.srt
theorem SgOK.look (h:SgOK c g L M φ) (id:Int):g.sps.lookup id=(L.find? (λa=>a.1.id==id)).map λa=>ptrV a.2.p:=by
 have hn:((entC L).map (·.1)).Nodup:=by
  have e:(entC L).map (·.1)=M.sps.map (·.id):=by rw [<-h.abs];simp [entC]
  rw [e];exact h.nodupI
 have hn2:(g.sps.map (·.1)).Nodup:=(h.sps.map (·.1)).nodup_iff.2 hn
 have lk:∀ {l1 l2:List (Int × Value)},l1.Perm l2->(l1.map (·.1)).Nodup->∀ k,l1.lookup k=l2.lookup k:=λ{l1 l2} hp=>by
  induction hp with
  | nil=>intro _ k;rfl
  | cons x _ ih=>
   intro hn k;rw [List.map_cons,List.nodup_cons] at hn;obtain ⟨x1,x2⟩:=x;rw [List.lookup_cons,List.lookup_cons,ih hn.2 k]
  | swap x y l=>
   intro hn k;obtain ⟨x1,x2⟩:=x;obtain ⟨y1,y2⟩:=y;simp only [List.map_cons,List.nodup_cons,List.mem_cons,not_or] at hn;rw [List.lookup_cons,List.lookup_cons,List.lookup_cons,List.lookup_cons];cases e1:(k==y1) with
   | false=>rfl
   | true=>
    cases e2:(k==x1) with
    | false=>rfl
    | true=>
     have h1:k=y1:=by simpa using e1
     have h2:k=x1:=by simpa using e2
     exact absurd (h1.symm.trans h2) hn.1.1
  | trans h1 h2 i1 i2=>
   intro hn k;rw [i1 hn k,i2 ((h1.map _).nodup_iff.1 hn) k]
 rw [lk h.sps hn2];clear lk hn hn2 h
 induction L with
 | nil=>rfl
 | cons x r ih=>
  unfold entC at ih ⊢;rw [List.map_cons,List.lookup_cons,List.find?_cons,ih]
  have:(id==x.1.id)=(x.1.id==id):=by
   rw [Bool.eq_iff_iff];simp only [beq_iff_eq];exact ⟨Eq.symm,Eq.symm⟩
  rw [this];cases (x.1.id==id)<;>rfl
theorem SgOK.has (h:SgOK c g L M φ) {id:Int} {s:Sm} (hs:findS M id=some s):∃ a pre post,a.1=s/\s.id=id/\L=pre++a::post/\g.sps.lookup id=some (ptrV a.2.p):=by
 have e:findS M id=(L.find? (λa=>a.1.id==id)).map (·.1):=by
  unfold findS;rw [<-h.abs,List.find?_map];rfl
 rw [e] at hs;obtain ⟨a,ha,rfl⟩:=Option.map_eq_some_iff.1 hs;obtain ⟨pre,post,hL⟩:=List.append_of_mem (List.mem_of_find?_eq_some ha);exact ⟨a,pre,post,rfl,by simpa using List.find?_some ha,hL,by rw [h.look,ha];rfl⟩
theorem SgOK.hno (h:SgOK c g L M φ) {id:Int} (hs:findS M id=none):g.sps.lookup id=none:=by
 have e:findS M id=(L.find? (λa=>a.1.id==id)).map (·.1):=by
  unfold findS;rw [<-h.abs,List.find?_map];rfl
 rw [e] at hs;rw [h.look,Option.map_eq_none_iff.1 hs];rfl
theorem t9 (h:((pre++a::post).map λx=>x.1.id).Nodup) (hid:a'.1.id=a.1.id) (hφ:∀ b ∈ pre++post,∀ q ∈ b.1.pgs,φ' q.key=φ q.key) (id:Int) :
  lfL φ' ((pre++a'::post).map (·.1)) id=if id=a.1.id then lfS φ' a'.1 else lfL φ ((pre++a::post).map (·.1)) id:=by
 have ne:∀ b ∈ pre++post,b.1.id≠a.1.id:=λb hb e=>by
  have hp:((pre++a::post).map λx=>x.1.id).Perm (a.1.id::(pre++post).map λx=>x.1.id):=by
   rw [List.map_append,List.map_cons,List.map_append];exact List.perm_middle
  have:=hp.nodup_iff.1 h;rw [List.nodup_cons] at this;exact this.1 (List.mem_map.2 ⟨b,hb,e⟩)
 have fnd:∀ x:Sc,x.1.id=a.1.id->((pre++x::post).map (·.1)).find? (λs=>s.id==id)=if id=a.1.id then .some x.1 else ((pre++post).map (·.1)).find? (λs=>s.id==id):=λx hx=>by
  rw [List.map_append,List.map_cons,List.find?_append,List.find?_cons,List.map_append,List.find?_append];by_cases e:id=a.1.id
  ·rw [if_pos e]
   have e1:(pre.map (·.1)).find? (λs=>s.id==id) = .none:=by
    rw [List.find?_eq_none];intro s hs hq;obtain ⟨b,hb,rfl⟩:=List.mem_map.1 hs;exact ne b (List.mem_append_left _ hb) (by rw [<-e];simpa using hq)
   rw [e1,show (x.1.id==id)=true by simp [hx,e]];rfl
  ·rw [if_neg e,show (x.1.id==id)=false by rw [hx];simpa using λq=>e q.symm]
 unfold lfL;rw [fnd a' hid,fnd a rfl];by_cases e:id=a.1.id
 ·rw [if_pos e,if_pos e]
 ·rw [if_neg e,if_neg e,if_neg e];cases e2:((pre++post).map (·.1)).find? (λs=>s.id==id) with
  | none=>rfl
  | some s=>
   obtain ⟨b,hb,rfl⟩:=List.mem_map.1 (List.mem_of_find?_eq_some e2);simp only;exact xG (hφ b hb)
end Go.Dn
namespace Go.Dn
variable {A:AH} {l:List SP} {c:Mc} {g g':Sg} {a:Sc} {s:Sm} {lf:Int->Option Lf} {nd:Nd}
theorem aD0 {b:Nat} {F F' G G':Int->Prop} {n n':Int} (h1:∀ x,F x↔F' x) (h2:∀ x,G x↔G' x) (h3:n=n'):Bud b F G n=Bud b F' G' n':=by
 have e1:F=F':=funext λx=>propext (h1 x);have e2:G=G':=funext λx=>propext (h2 x);rw [e1,e2,h3]
theorem aJ1 {id page:Int} {aw au af:Bool} {Q:Int->Int->Int->AH->Prop} (h:Own (macG c g (ownC a::l)) A) (hs:g.sps.lookup id=some (ptrV a.2.p)) (hN:c.N<=262144) (hrg:∀ f,g.F f\/g.G f->1<=f/\f<c.N)
  (hR:Rest g.G g.W a.2.root a.2.tab lf a.2.tl) (hrl:a.1.regs.length<=64) (hpr:∀ y ∈ a.1.regs,0<=y.a/\y.b<=34359738368) (hi:g.ns[a.1.box]? = some nd) (hlv:nd.live=true) (hq:nd.room<=g.n)
  (h9:findR a.1.regs page=none->∀ A',Own (macG c g (ownC a::l)) A'->Q 0 (cZ aw au af) 9 A')
  (hno:∀ y,findR a.1.regs page=some y->iJ y.w y.u y.x aw au af=false->∀ A',Own (macG c g (ownC a::l)) A'->Q 0 (cZ aw au af+if lf page=none then 0 else 1) 9 A')
  (h0:∀ y x,findR a.1.regs page=some y->iJ y.w y.u y.x aw au af=true->lf page=some x->∀ A',Own (macG c g (ownC a::l)) A'->Q x.frame 0 0 A')
  (h8:∀ y,findR a.1.regs page=some y->iJ y.w y.u y.x aw au af=true->lf page=none->nd.room<1+lK a.2.tab page->∀ W' A',(∀ f,¬ g.F f->W' f=g.W f)->Own (macG c { g with W:=W' } (ownC a::l)) A'->Q 0 0 8 A')
  (hk:∀ y,findR a.1.regs page=some y->iJ y.w y.u y.x aw au af=true->lf page=none->1+lK a.2.tab page<=nd.room->∀ f tk W' tab' A',g.F f->tk.length=lK a.2.tab page->(∀ x ∈ tk,g.F x/\x≠f)->
   Rest (λx=>g.G x\/x ∈ f::tk) W' a.2.root tab' (kJ lf page (some ⟨f,y.w,y.u,y.x⟩)) (a.2.tl++tk)->(∀ x,x ∉ tk->x ∉ a.2.tl->W' x=zeroW g.W f x)->(∀ j,256<=j->W' a.2.root j=g.W a.2.root j)->
   Own (macG c { g with F:=λx=>g.F x/\x ∉ f::tk,G:=λx=>g.G x\/x ∈ f::tk,W:=W',n:=g.n-(1+tk.length),ns:=useN g.ns a.1.box nd (nd.use+(1+tk.length)) } (ownC a::l)) A'->Q f 0 0 A') :
  qdu_A (some ⟨c.m,0,none⟩) id page aw au af Q A:=by
 have hinF:∀ x,g.F x->hasF c.N [] x=true:=λx hx=>aBn.2 (by have:=hrg x (.inl hx);omega);have hinG:∀ x,g.G x->hasF c.N [] x=true:=λx hx=>aBn.2 (by have:=hrg x (.inr hx);omega);have hFG:=(mO h.tail).1;obtain ⟨lm,h⟩:=macG.openOne h;have bk:∀ {g':Sg} A',Own (macG c g' (pO a.2.p lm a.1.box a.2.root a.2.s a.1.regs a.2.lent++l)) A'->Own (macG c g' (ownC a::l)) A':=λA' h'=>macG.closeOne h';unfold qdu_A qdu_G;simp only [aH,add_at,Nat.zero_add];refine dY (i:=3) h rfl rfl (kD (i:=4) h rfl ?_);rw [hs];refine ⟨some ⟨a.2.p,0,none⟩,rfl,bsel_f rfl ?_⟩;refine aX (cs:=[.bool aw,.bool au]) h λb5 A1 h1=>?_;refine ⟨λx v m A'=>A'=A1/\((v=0/\m=2/\x=0)\/(v=1/\m=1/\x=if aw then 2 else 0)\/(v=2/\m=0/\x=(if aw then 2 else 0)+(if au then 4 else 0))),⟨2,rfl,.inl ⟨rfl,rfl,rfl⟩⟩,?_⟩;intro x v m A2 ⟨e1,e2⟩;subst e1;refine aG (λcc=>?_) λcc=>?_
 ·have cc:v<2:=of_decide_eq_true cc;refine ⟨λx' A'=>A'=A2/\((v=0/\m=2/\x'=if aw then 2 else 0)\/(v=1/\m=1/\x'=(if aw then 2 else 0)+(if au then 4 else 0))),λx' A3 ⟨f1,f2⟩=>?_,?_⟩
  ·rcases f2 with ⟨f2,f3,f4⟩ | ⟨f2,f3,f4⟩
   ·subst f2 f3;exact ⟨1,by omega,f1,.inr (.inl ⟨rfl,rfl,f4⟩)⟩
   ·subst f2 f3;exact ⟨0,by omega,f1,.inr (.inr ⟨rfl,rfl,f4⟩)⟩
  ·rcases e2 with ⟨e2,e3,e4⟩ | ⟨e2,e3,e4⟩ | ⟨e2,_⟩
   ·subst e2 e3 e4;refine inB_in (by omega) (by omega) (aY (i:=0) h1 rfl rfl ?_);refine aG (λg=>bsel_f rfl ⟨rfl,.inl ⟨rfl,rfl,?_⟩⟩) λg=>⟨rfl,.inl ⟨rfl,rfl,by rw [g];rfl⟩⟩;rw [g];decide
   ·subst e2 e3 e4;refine inB_in (by omega) (by omega) (aY (i:=0) h1 rfl rfl ?_);refine aG (λg=>bsel_f rfl ⟨rfl,.inr ⟨rfl,rfl,?_⟩⟩) λg=>⟨rfl,.inr ⟨rfl,rfl,by rw [g];cases aw<;>rfl⟩⟩;rw [g];cases aw<;>decide
   ·omega
 ·have cc:¬ v<2:=of_decide_eq_false cc
  have ex:x=(if aw then 2 else 0)+(if au then 4 else 0):=by
   rcases e2 with ⟨e2,_⟩ | ⟨e2,_⟩ | ⟨_,_,e4⟩
   ·omega
   ·omega
   ·exact e4
  subst ex;have h1:=h1.tail;refine ⟨λx' A'=>x'=cZ aw au af/\A'=A2,λx' A3 ⟨f1,f2⟩=>?_,?_⟩
  ·subst f1 f2;refine ld_S (i:=7) h1 rfl rfl ?_;refine aFb (k:=8) h1 rfl aU (by omega) (λhf=>aN rfl (h9 hf A3 (bk _ h1))) λy hf hy hy1 hy2=>bsel_f rfl ?_;refine ld_I (i:=7) h1 rfl rfl (prs (k:=3) h1 rfl ?_);refine ld_I (i:=7) h1 rfl rfl ?_;refine aAQ h1 hinG hR (λhl A4 h4=>?_) λx hl A4 h4=>?_
   ·refine May_spec ?_;refine aG (λgm=>?_) λgm=>?_
    ·have gm:iJ y.w y.u y.x aw au af=false:=by simpa using gm
     refine ⟨λx' A'=>x'=cZ aw au af/\A'=A4,λx' A5 ⟨k1,k2⟩=>?_,bsel_f rfl ⟨rfl,rfl⟩⟩;subst k1 k2;have:=hno y hf gm A5 (bk _ h4);rw [if_pos hl,Int.add_zero] at this;exact this
    ·have gm:iJ y.w y.u y.x aw au af=true:=by simpa using gm
     refine bsel_f rfl ?_;have h8':=h8 y hf gm hl;have hk':=hk y hf gm hl;have hpg:=hpr y hy;refine uS (i:=a.1.box) h4 hi hlv hinF (λhr=>aN rfl (h8' (by unfold Nd.room;omega) g.W A4 (λ_ _=>rfl) (bk _ h4))) (λhr hn0=>?_) λhr hn0 f A5 hff h5=>bsel_f rfl ?_
     ·unfold Nd.room at hq;omega
     refine ld_I (i:=7) h5 rfl rfl ?_;have hff0:=hrg f (.inl hff);have hfG:¬ g.G f:=hFG f hff;have hR5:Rest (λx=>g.G x\/x=f) (zeroW g.W f) a.2.root a.2.tab lf a.2.tl:=hR.keep (λx hx=>dX λe=>hfG (by rw [<-e];exact hR.inG x hx)) λx hx=>.inl (hR.inG x hx);refine aE6 (i:=a.1.box) (nd:={ nd with use:=nd.use+1 }) h5 (useN_at hi _) hlv (λx hx=>hinF x hx.1) (λx hx=>by rcases hx with hx | rfl;exact hinG x hx;exact hinF _ hff) hR5 (λc1=>?_) (λ_ _ _ _ c1=>absurd hl c1) (λ_ _ _ _ _ e W' A6 he hW' _ _ h6=>?_) λ_ _ _ _ _ tk W' tab' A6 hlen hroom _ htk hR6 hW6 hHi h6=>bsel_f rfl ?_
     ·omega
     ·have he8:e=8/\nd.room<1+lK a.2.tab page:=by
       unfold Nd.room at hq ⊢;simp only at he;omega
      obtain ⟨rfl,he2⟩:=he8;refine aN rfl ?_
      refine nV (i:=a.1.box) (nd:={ nd with use:=nd.use+1 }) h6 (useN_at hi _) hlv (.inr rfl) (by
       obtain ⟨_,_,_,⟨_,h2⟩,_⟩:=TreeS.openH h4.rot3;have:=(h2 nd (List.mem_of_getElem? hi)).use;simp;omega) λA7 h7=>?_
      have hWk:∀ x,¬ g.F x->W' x=g.W x:=λx hx=>by
       rw [hW' x λz=>hx z.1];exact dX λe=>hx (by rw [e];exact hff)
      refine h8' he2 W' A7 hWk (bk _ ?_)
      have e1:Bud c.b (λx=>(g.F x/\x≠f)\/x=f) (λx=>(g.G x\/x=f)/\x≠f) (g.n-1+1)=Bud c.b g.F g.G g.n:=aD0 (λx=>⟨λz=>by rcases z with z | rfl;exact z.1;exact hff,λz=>by
       by_cases q:x=f
       ·exact .inr q
       ·exact .inl ⟨z,q⟩⟩) (λx=>⟨λz=>by rcases z with ⟨z | z,z2⟩;exact z;exact absurd z z2,λz=>⟨.inl z,λq=>hfG (by rw [<-q];exact z)⟩⟩) (by omega)
      have e2:useN (useN g.ns a.1.box nd (nd.use+1)) a.1.box { nd with use:=nd.use+1 } (nd.use+1-1)=g.ns:=by
       rw [show nd.use+1-1=nd.use by omega];exact yD hi _
      have h7:Own (RamW c.r c.N [] W'::Bud c.b (λx=>(g.F x/\x≠f)\/x=f) (λx=>(g.G x\/x=f)/\x≠f) (g.n-1+1)::TreeS c.t (useN (useN g.ns a.1.box nd (nd.use+1)) a.1.box { nd with use:=nd.use+1 } (nd.use+1-1))::At c.m (mcC c)::MapI c.sp .i64 g.sps::TlbS c.tl g.ls::PcS c.tg g.z::(pO a.2.p lm a.1.box a.2.root a.2.s a.1.regs a.2.lent++l)) A7:=h7;rw [e1,e2] at h7;exact h7
     ·simp only at hroom;refine hk' (by unfold Nd.room;omega) f tk W' tab' A6 hff hlen htk (hR6.keep (λ_ _=>rfl) λx hx=>?_) hW6 (λj hj=>?_) (bk _ ?_)
      ·rcases hR6.inG x hx with (z | z) | z
       ·exact .inl z
       ·exact .inr (by rw [z];simp)
       ·exact .inr (List.mem_cons_of_mem _ z)
      ·rw [hHi j hj];have:a.2.root≠f:=λz=>hfG (by rw [<-z];exact hR.tg ((hR.T.root 0 _).2 ⟨rfl,rfl⟩));rw [dX this]
      ·have e1:Bud c.b (λx=>(g.F x/\x≠f)/\x ∉ tk) (λx=>(g.G x\/x=f)\/x ∈ tk) (g.n-1-tk.length)=Bud c.b (λx=>g.F x/\x ∉ f::tk) (λx=>g.G x\/x ∈ f::tk) (g.n-(1+tk.length)):=aD0 (λx=>by simp only [List.mem_cons,not_or];exact and_assoc) (λx=>by simp only [List.mem_cons];exact or_assoc) (by omega)
       have e2:useN (useN g.ns a.1.box nd (nd.use+1)) a.1.box { nd with use:=nd.use+1 } (nd.use+1+tk.length)=useN g.ns a.1.box nd (nd.use+(1+tk.length)):=by
        unfold useN;rw [List.set_set,Int.add_assoc]
       have h6:Own (RamW c.r c.N [] W'::Bud c.b (λx=>(g.F x/\x≠f)/\x ∉ tk) (λx=>(g.G x\/x=f)\/x ∈ tk) (g.n-1-tk.length)::TreeS c.t (useN (useN g.ns a.1.box nd (nd.use+1)) a.1.box { nd with use:=nd.use+1 } (nd.use+1+tk.length))::At c.m (mcC c)::MapI c.sp .i64 g.sps::TlbS c.tl g.ls::PcS c.tg g.z::(pO a.2.p lm a.1.box a.2.root a.2.s a.1.regs a.2.lent++l)) A6:=h6;rw [e1,e2] at h6;exact h6
   ·refine May_spec ?_;refine aG (λgm=>?_) λgm=>?_
    ·have gm:iJ y.w y.u y.x aw au af=false:=by simpa using gm
     refine ⟨λx' A'=>x'=cZ aw au af+1/\A'=A4,λx' A5 ⟨k1,k2⟩=>?_,aN rfl ⟨aHj,rfl⟩⟩;subst k1 k2;have:=hno y hf gm A5 (bk _ h4);rw [if_neg (by rw [hl];simp)] at this;exact this
    ·have gm:iJ y.w y.u y.x aw au af=true:=by simpa using gm
     exact aN rfl (h0 y x hf gm hl A4 (bk _ h4))
  ·refine aG (λg=>⟨?_,rfl⟩) λg=>⟨?_,rfl⟩
   ·subst g;exact aIV
   ·subst g;simp [cZ]
end Go.Dn
namespace Go.Dn
variable {M:Mm} {s s':Sm} {pre post l:List Sm} {g:Pg} {p q k:Int} {φ φ':Int->Int}
def insG:List Pg->Pg->List Pg
 | [],g=>[g]
 | x::r,g=>if g.num<x.num then g::x::r else x::insG r g
theorem insG_perm:∀ l:List Pg,(insG l g).Perm (g::l)
 | []=>List.Perm.refl _
 | x::r=>by
  unfold insG;split
  ·exact List.Perm.refl _
  ·exact ((insG_perm r).cons x).trans (List.Perm.swap _ _ _)
theorem aAG:∀ {l:List Pg},(l.map (·.num)).Pairwise (· < ·)->(∀ x ∈ l,x.num≠g.num)->((insG l g).map (·.num)).Pairwise (· < ·)
 | [],_,_=>by simp [insG]
 | x::r,h,hn=>by
  rw [List.map_cons,List.pairwise_cons] at h;have hx:=hn x (by simp);unfold insG;split
  ·rename_i c;rw [List.map_cons,List.map_cons,List.pairwise_cons,List.pairwise_cons];refine ⟨λy hy=>?_,h⟩;rcases List.mem_cons.1 hy with rfl | hy
   ·exact c
   ·have:=h.1 y hy;omega
  ·rename_i c;rw [List.map_cons,List.pairwise_cons];refine ⟨λy hy=>?_,aAG h.2 λz hz=>hn z (by simp [hz])⟩;obtain ⟨z,hz,rfl⟩:=List.mem_map.1 hy;rcases List.mem_cons.1 ((insG_perm r).mem_iff.1 hz) with rfl | hz
   ·omega
   ·exact h.1 _ (List.mem_map.2 ⟨z,hz,rfl⟩)
def addP (s:Sm) (p k:Int):Sm:={ s with pgs:=insG s.pgs ⟨p,k,0⟩ }
theorem xW:(nums (addP s p k)).Perm (p::nums s):=by
 have h:=(insG_perm (g:=⟨p,k,0⟩) s.pgs).map (·.num);exact h
theorem aBK (h:(nums s).Pairwise (· < ·)) (hn:pgAt s p=none):(nums (addP s p k)).Pairwise (· < ·):=
 aAG h λx hx e=>t8.1 hn (List.mem_map.2 ⟨x,hx,e⟩)
theorem mem_addP:g ∈ (addP s p k).pgs↔g=⟨p,k,0⟩\/g ∈ s.pgs:=by
 rw [show (addP s p k).pgs=insG s.pgs ⟨p,k,0⟩ from rfl,(insG_perm s.pgs).mem_iff,List.mem_cons]
theorem aDN (h:(nums s).Pairwise (· < ·)) (hn:pgAt s p=none):pgAt (addP s p k) q=if q=p then some ⟨p,k,0⟩ else pgAt s q:=by
 have hs:=aBK (k:=k) h hn;by_cases e:q=p
 ·subst e;rw [if_pos rfl];exact jD (g:=⟨q,k,0⟩) hs (mem_addP.2 (.inl rfl))
 ·rw [if_neg e];cases e2:pgAt s q with
  | some x=>
   obtain ⟨h1,h2⟩:=eT e2;rw [<-h2];exact jD hs (mem_addP.2 (.inr h1))
  | none=>
   rw [t8] at e2 ⊢;rw [xW.mem_iff,List.mem_cons];rintro (z | z)
   ·exact e z
   ·exact e2 z
theorem lV:(ownP (addP s p k)).Perm (if kdR s.regs p=0 then ⟨p,k,0⟩::ownP s else ownP s):=by
 have:=(insG_perm (g:=⟨p,k,0⟩) s.pgs).filter λg=>kdR s.regs g.num==0;refine this.trans ?_;rw [List.filter_cons];by_cases e:kdR s.regs p=0
 ·rw [if_pos (by simpa using e),if_pos e];exact List.Perm.refl _
 ·rw [if_neg (by simpa using e),if_neg e];exact List.Perm.refl _
theorem aGW:(borP (addP s p k)).Perm (if kdR s.regs p=0 then borP s else ⟨p,k,0⟩::borP s):=by
 have:=(insG_perm (g:=⟨p,k,0⟩) s.pgs).filter λg=>kdR s.regs g.num != 0;refine this.trans ?_;rw [List.filter_cons];by_cases e:kdR s.regs p=0
 ·rw [if_neg (by simpa using e),if_pos e];exact List.Perm.refl _
 ·rw [if_pos (by simpa using e),if_neg e];exact List.Perm.refl _
theorem xY:costS (addP s p k)=costS s+jI (nums s) p+if kdR s.regs p=0 then 1 else 0:=by
 unfold costS;rw [aCW xW,lV.length_eq];simp only [kY];split<;>simp<;>omega
theorem aJi (h:(nums s).Pairwise (· < ·)) (hn:pgAt s p=none) {y:Bool × Bool × Bool × Int} (hy:lookR s.regs p=some y) (hφ:∀ x ∈ s.pgs,φ' x.key=φ x.key) :
  lfS φ' (addP s p k)=kJ (lfS φ s) p (some ⟨φ' k,y.1,y.2.1,y.2.2.1⟩):=by
 funext q
 have e3:lfS φ' (addP s p k) q=match pgAt (addP s p k) q,lookR s.regs q with
  | some g,some a=>some ⟨φ' g.key,a.1,a.2.1,a.2.2.1⟩
  | _,_=>none:=rfl
 rw [e3,aDN h hn];unfold kJ;by_cases e:q=p
 ·subst e;rw [if_pos rfl,if_pos rfl,hy]
 ·rw [if_neg e,if_neg e];unfold lfS;cases e2:pgAt s q with
  | none=>cases lookR s.regs q<;>rfl
  | some x=>
   cases lookR s.regs q with
   | none=>rfl
   | some a=>simp only;rw [hφ x (eT e2).1]
def iR (ns:List Nd) (i:Nat):Int:=match ns[i]? with | some d=>d.room | none=>0
def touchM (M:Mm) (id page:Int) (aw au af:Bool):Mm × Int × Int × Int:=
 match findS M id with
 | none=>(M,0,0,5)
 | some s=>match lookR s.regs page with
  | none=>(M,0,cZ aw au af,9)
  | some y=>if iJ y.1 y.2.1 y.2.2.1 aw au af=false then (M,0,cZ aw au af+(if (pgAt s page).isNone then 0 else 1),9)
   else match pgAt s page with
    | some g=>(M,g.key,0,0)
    | none=>if iR M.ns s.box<costS (addP s page (M.keys+1))-costS s then (M,0,0,8)
     else ({ payM M s (addP s page (M.keys+1)) with keys:=M.keys+1 },M.keys+1,0,0)
theorem zD (h:InvL M):M.keys+1 ∉ ownK M.sps:=λz=>by have:=h.key _ z;omega
theorem InvM.kd0 (h:InvM M) (hs:s ∈ M.sps) {y:Bool × Bool × Bool × Int} (hy:lookR s.regs p=some y) (hn:pgAt s p=none):kdR s.regs p=0:=by
 unfold kdR;rw [hy];simp only;rcases h.kind s hs p y hy with e | e
 ·exact e
 ·obtain ⟨g,hg,h1,_⟩:=h.bor s hs p y hy e;exact absurd (List.mem_map.2 ⟨g,hg,h1⟩) (t8.1 hn)
theorem InvM.touch (h:InvM M) (hs:M.sps=pre++s::post) {y:Bool × Bool × Bool × Int} (hy:lookR s.regs p=some y) (hn:pgAt s p=none) (hroom:¬ iR M.ns s.box<costS (addP s p (M.keys+1))-costS s) :
  InvM ⟨pre++addP s p (M.keys+1)::post,addU M.ns s.box (costS (addP s p (M.keys+1))-costS s),M.keys+1,M.wd⟩:=by
 have hsm:s ∈ M.sps:=by rw [hs];exact mid_iff.2 (.inl rfl)
 have hin:∀ x,x ∈ pre++post->x ∈ M.sps:=λx hx=>by rw [hs];exact mid_iff.2 (.inr hx)
 have hkd:=h.kd0 hsm hy hn;have hoP:=lV (s:=s) (p:=p) (k:=M.keys+1);have hbP:=aGW (s:=s) (p:=p) (k:=M.keys+1);rw [if_pos hkd] at hoP hbP
 have hoK:(ownK (pre++addP s p (M.keys+1)::post)).Perm ((M.keys+1)::ownK M.sps):=by
  rw [hs];refine gX.trans ((List.Perm.append_right _ (hoP.map (·.key))).trans ?_);exact (gX.symm.cons (M.keys+1))
 have hbK:(borK (pre++addP s p (M.keys+1)::post)).Perm (borK M.sps):=by
  rw [hs];exact vM.trans ((List.Perm.append_right _ (hbP.map (·.key))).trans vM.symm)
 have hsrt:=h.pgs s hsm
 have hL:InvL ⟨pre++addP s p (M.keys+1)::post,addU M.ns s.box (costS (addP s p (M.keys+1))-costS s),M.keys+1,M.wd⟩:=by
  refine h.toInvL.pay (s':=addP s p (M.keys+1)) hs rfl rfl (h.good s hsm) (aBK hsrt hn) (λx hx=>?_) (hoK.nodup_iff.2 (List.nodup_cons.2 ⟨zD h.toInvL,h.own⟩)) (λx hx z hz=>?_) (λj hj=>?_) (λj i hj=>h.zero j i (by omega)) (by have:=h.keys0;omega) λd hd=>?_
  ·rcases mem_addP.1 hx with rfl | hx
   ·show lookR s.regs p≠none;rw [hy];simp
   ·exact h.reg s hsm x hx
  ·rw [hoK.mem_iff,List.mem_cons];rcases mid_iff.1 hx with rfl | hx
   ·rcases mem_addP.1 hz with rfl | hz
    ·exact .inl rfl
    ·exact .inr (h.src s hsm z hz)
   ·exact .inr (h.src x (hin x hx) z hz)
  ·rcases List.mem_cons.1 (hoK.mem_iff.1 hj) with rfl | hj
   ·have:=h.keys0;omega
   ·have:=h.key j hj;omega
  ·unfold iR at hroom;rw [hd] at hroom;simp only at hroom;omega
 refine { hL with kind:=λx hx=>?_,bor:=λx hx q a ha hk=>?_,lent:=λx hx z hz=>?_ }
 ·rcases mid_iff.1 hx with rfl | hx
  ·exact h.kind s hsm
  ·exact h.kind x (hin x hx)
 ·rcases mid_iff.1 hx with rfl | hx
  ·obtain ⟨z,z1,z2⟩:=h.bor s hsm q a ha hk;exact ⟨z,mem_addP.2 (.inr z1),z2⟩
  ·exact h.bor x (hin x hx) q a ha hk
 ·show z.lent=((borK (pre++addP s p (M.keys+1)::post)).count z.key:Nat);rw [hbK.count_eq];rcases mid_iff.1 hx with rfl | hx
  ·rcases List.mem_cons.1 (hoP.mem_iff.1 hz) with rfl | hz
   ·have:(borK M.sps).count (M.keys+1)=0:=List.count_eq_zero.2 λc=>by
     obtain ⟨w,w1,v,v1,v2⟩:=aA4.1 c;have:=h.src w w1 v (aDm.1 v1).1;rw [v2] at this;exact zD h.toInvL this
    show (0:Int)=_;rw [this];rfl
   ·exact h.lent s hsm z hz
  ·exact h.lent x (hin x hx) z hz
end Go.Dn
namespace Go.Dn
variable {A:AH} {l:List SP} {c:Mc} {g g':Sg} {L pre post:List Sc} {M M':Mm} {φ φ':Int->Int} {a a':Sc} {s:Sm} {nd:Nd} {k:Int}
theorem SgOK.mem (h:SgOK c g (pre++a::post) M φ):M.sps=pre.map (·.1)++a.1::post.map (·.1):=by rw [<-h.abs];simp
theorem SgOK.in_ (h:SgOK c g L M φ) {b:Sc} (hb:b ∈ L):b.1 ∈ M.sps:=by rw [<-h.abs];exact List.mem_map_of_mem hb
theorem SgOK.fr_tl (h:SgOK c g L M φ) {b:Sc} (hb:b ∈ L) {f:Int} (hf:f ∈ b.2.tl):g.G f:=(h.G f).2 (List.mem_cons_of_mem _ (List.mem_cons_of_mem _ (List.mem_flatMap.2 ⟨b,hb,List.mem_append_left _ hf⟩)))
theorem SgOK.data (h:SgOK c g L M φ) (hk:k ∈ ownK M.sps):g.G (φ k)/\(∀ b ∈ L,φ k ∉ b.2.tl)/\φ k≠c.kern:=by
 rw [<-h.abs] at hk;obtain ⟨s,hs,x,hx,rfl⟩:=aF5.1 hk;obtain ⟨b0,hb0,rfl⟩:=List.mem_map.1 hs;have hin:φ x.key ∈ L.flatMap (frC φ):=List.mem_flatMap.2 ⟨b0,hb0,List.mem_append_right _ (List.mem_map.2 ⟨x,hx,rfl⟩)⟩;have hnd:=h.nd;unfold frs at hnd;rw [List.nodup_cons,List.nodup_cons] at hnd;refine ⟨(h.G _).2 (List.mem_cons_of_mem _ (List.mem_cons_of_mem _ hin)),λb hb ht=>?_,λe=>hnd.1 (by rw [<-e];exact List.mem_cons_of_mem _ hin)⟩;have h2:=hnd.2.2
 -- both in one list, at two places
 obtain ⟨p1,p2,e⟩:=List.append_of_mem hb0;rw [e] at h2 hb
 have h3:(frC φ b0++(p1++p2).flatMap (frC φ)).Nodup:=by
  refine (List.Perm.nodup_iff ?_).1 h2;rw [List.flatMap_append,List.flatMap_cons,List.flatMap_append,<- List.append_assoc,<- List.append_assoc];exact List.Perm.append_right _ List.perm_append_comm
 rw [List.nodup_append] at h3;rcases cmid_iff.1 hb with rfl | hb
 ·have h4:=h3.1;unfold frC at h4;rw [List.nodup_append] at h4;exact h4.2.2 _ ht _ (List.mem_map.2 ⟨x,hx,rfl⟩) rfl
 ·exact h3.2.2 _ (List.mem_append_right _ (List.mem_map.2 ⟨x,hx,rfl⟩)) _ (List.mem_flatMap.2 ⟨b,hb,List.mem_append_left _ ht⟩) rfl
theorem SgOK.key_le (h:SgOK c g L M φ) {b:Sc} (hb:b ∈ L) {x:Pg} (hx:x ∈ b.1.pgs):x.key<=M.keys/\x.key ∈ ownK M.sps:=by
 have:=h.inv.src b.1 (h.in_ hb) x hx;exact ⟨(h.inv.key _ this).2,this⟩
theorem SgOK.ps (h:SgOK c g L M φ) {b:Sc} (hb:b ∈ L) (p:Int):p ∈ nums b.1↔lfS φ b.1 p≠none:=by
 constructor
 ·intro hp;obtain ⟨x,hx,rfl⟩:=List.mem_map.1 hp;have e1:=jD (h.inv.pgs _ (h.in_ hb)) hx;obtain ⟨y,e2⟩:=Option.ne_none_iff_exists'.1 (h.inv.reg _ (h.in_ hb) x hx);unfold lfS;rw [e1,e2];simp
 ·intro hp;unfold lfS at hp;cases e:pgAt b.1 p with
  | none=>rw [e] at hp;simp at hp
  | some x=>
   obtain ⟨h1,h2⟩:=eT e;exact List.mem_map.2 ⟨x,h1,h2⟩
theorem SgOK.lf_none (h:SgOK c g L M φ) {b:Sc} (hb:b ∈ L) {p:Int}:lfS φ b.1 p=none↔pgAt b.1 p=none:=by
 rw [t8,h.ps hb,Classical.not_not]
theorem SgOK.node (h:SgOK c g L M φ) {b:Sc} (hb:b ∈ L):∃ nd,g.ns[b.1.box]? = some nd/\nd.live=true/\iR M.ns b.1.box=nd.room/\nd.room<=g.n/\0<=nd.room:=by
 have hlv:=h.inv.live _ (h.in_ hb);unfold liveN at hlv;cases e:M.ns[b.1.box]? with
 | none=>rw [e] at hlv;cases hlv
 | some nd=>
  rw [e] at hlv;have:=h.inv.tree.room e hlv;exact ⟨nd,by rw [h.ns];exact e,hlv,by unfold iR;rw [e],by rw [h.n];exact this.2,this.1⟩
theorem SgOK.regs (h:SgOK c g L M φ) {b:Sc} (hb:b ∈ L):b.1.regs.length<=64/\∀ y ∈ b.1.regs,0<=y.a/\y.b<=34359738368:=by
 obtain ⟨h1,h2,_⟩:=pL.1 (h.inv.good _ (h.in_ hb));exact ⟨h1,λy hy=>by have:=aD6 h2 y hy;omega⟩
theorem fK {L:List Reg} {p:Int}:lookR L p=(findR L p).map attrR:=rfl
theorem SgOK.w (h:SgOK c g L M φ) {W':Int->Int->Int} (hW:∀ f,g.G f->W' f=g.W f):SgOK c { g with W:=W' } L M φ:=
 ⟨h.inv,h.abs,h.ns,h.n,h.sps,h.nd,h.G,h.rng,λb hb=>(h.one b hb).keep (λf hf=>hW f (h.fr_tl hb hf)) (λf hf=>h.fr_tl hb hf) λ_ _=>rfl,λk hk i=>by show W' (φ k) i=_;rw [hW _ (h.data hk).1];exact h.wd k hk i,
  λq hq=>by show W' c.kern q=_;rw [hW _ ((h.G _).2 (by unfold frs;simp))];exact h.kw q hq,h.pc,h.ln,h.N⟩
theorem t4 (h:SgOK c g (pre++a::post) M φ):findS M a.1.id=some a.1:=by
 have hm:=h.mem;unfold findS;rw [hm,List.find?_append];have hn:=h.nodupI;rw [hm,List.map_append,List.map_cons,List.nodup_append] at hn
 have e:(pre.map (·.1)).find? (λs=>s.id==a.1.id)=none:=by
  rw [List.find?_eq_none];intro s hs hq;exact hn.2.2 _ (List.mem_map_of_mem hs) a.1.id (by simp) (by simpa using hq)
 rw [e];simp
theorem aIM {tk:List Int} {f:Int} {p:Int} {cs:Cs} (hk:∀ x ∈ a.1.pgs,φ' x.key=φ x.key) (hf:φ' k=f) (hkd:kdR a.1.regs p=0) (ht:cs.tl=a.2.tl++tk):(frC φ' (addP a.1 p k,cs)).Perm (frC φ a++(f::tk)):=by
 unfold frC;have h1:=lV (s:=a.1) (p:=p) (k:=k);rw [if_pos hkd] at h1
 have h2:((ownP (addP a.1 p k)).map λg=>φ' g.key).Perm (f::(ownP a.1).map λg=>φ g.key):=by
  refine (h1.map _).trans ?_;rw [List.map_cons];simp only [hf];rw [List.map_congr_left λx hx=>hk x (j8.1 hx).1]
 show (cs.tl++(ownP (addP a.1 p k)).map λg=>φ' g.key).Perm _;rw [ht,List.append_assoc,List.append_assoc];refine List.Perm.append_left _ ((List.Perm.append_left _ h2).trans ?_);refine List.perm_middle.trans (List.Perm.trans ?_ List.perm_middle.symm);exact List.Perm.cons _ List.perm_append_comm
theorem aKs {page:Int} {aw au af:Bool} {Q:Int->Int->Int->AH->Prop} (hS:SgOK c g (pre++a::post) M φ) (hM:InvM M) (h:Own (macG c g (ownC a::l)) A)
  (hno:∀ M' k code e,touchM M a.1.id page aw au af=(M',k,code,e)->e≠0->M'=M/\k=0->∀ W' A',SgOK c { g with W:=W' } (pre++a::post) M φ->Own (macG c { g with W:=W' } (ownC a::l)) A'->Q 0 code e A')
  (hk:∀ y M' k,lookR a.1.regs page=some y->iJ y.1 y.2.1 y.2.2.1 aw au af=true->touchM M a.1.id page aw au af=(M',k,0,0)->∀ g' a' φ' A',SgOK c g' (pre++a'::post) M' φ'->InvM M'->g'.z=g.z->g'.ls=g.ls->g'.sps=g.sps->a'.2.root=a.2.root->a'.2.p=a.2.p->a'.1.id=a.1.id->
   (∀ j,j<=M.keys->φ' j=φ j)->lfS φ' a'.1 page=some ⟨φ' k,y.1,y.2.1,y.2.2.1⟩->k ∈ ownK M'.sps->Own (macG c g' (ownC a'::l)) A'->Q (φ' k) 0 0 A') :
  qdu_A (some ⟨c.m,0,none⟩) a.1.id page aw au af Q A:=by
 have ham:a ∈ pre++a::post:=cmid_iff.2 (.inl rfl);have hFG:=(mO h.tail).1;obtain ⟨nd,n1,n2,n3,n4,n5⟩:=hS.node ham;have hone:=hS.one a ham;have hfs:=t4 hS
 have hlk:g.sps.lookup a.1.id=some (ptrV a.2.p):=by
  obtain ⟨b,p1,p2,e1,e2,e3,e4⟩:=hS.has hfs;rw [hS.look]
  have:(pre++a::post).find? (λx=>x.1.id==a.1.id)=some a:=by
   rw [List.find?_append];have hn:=hS.nodupI;rw [hS.mem,List.map_append,List.map_cons,List.nodup_append] at hn
   have e:pre.find? (λx=>x.1.id==a.1.id)=none:=by
    rw [List.find?_eq_none];intro x hx hq;exact hn.2.2 x.1.id (List.mem_map.2 ⟨x.1,List.mem_map_of_mem hx,rfl⟩) a.1.id (by simp) (by simpa using hq)
   rw [e];simp
  rw [this];rfl
 have hS0:∀ W',(∀ f,g.G f->W' f=g.W f)->SgOK c { g with W:=W' } (pre++a::post) M φ:=λW' hW=>hS.w hW;have hs0:=hS0 g.W λ_ _=>rfl
 have hpn:∀ {o:Prop} [Decidable o],(if lfS φ a.1 page=none then (0:Int) else 1)=if (pgAt a.1 page).isNone then 0 else 1:=λ{_ _}=>by
  by_cases e:lfS φ a.1 page=none
  ·rw [if_pos e,(hS.lf_none ham).1 e];rfl
  ·rw [if_neg e];have:=λz=>e ((hS.lf_none ham).2 z);cases e2:pgAt a.1 page with
   | none=>exact absurd e2 this
   | some x=>rfl
 refine aJ1 h hlk hS.N.2 (λf hf=>(hS.rng f).1 hf) hone.rest (hS.regs ham).1 (hS.regs ham).2 n1 n2 n4 (λhf A1 h1=>?_) (λy hf hm A1 h1=>?_) (λy x hf hm hl A1 h1=>?_) (λy hf hm hl hr W1 A1 hW h1=>?_) λy hf hm hl hr f tk W1 tab1 A1 hff hlen htk hR hW hHi h1=>?_
 ·refine hno M 0 _ 9 ?_ (by decide) ⟨rfl,rfl⟩ g.W A1 hs0 h1;unfold touchM;rw [hfs];simp only;rw [fK,hf];rfl
 ·refine hno M 0 _ 9 ?_ (by decide) ⟨rfl,rfl⟩ g.W A1 hs0 h1;unfold touchM;rw [hfs];simp only;rw [fK,hf,hpn (o:=True)];show (if iJ y.w y.u y.x aw au af=false then _ else _)=_;rw [if_pos hm]
 ·have hpg:pgAt a.1 page≠none:=λz=>by rw [(hS.lf_none ham).2 z] at hl;cases hl
  obtain ⟨q,hq⟩:=Option.ne_none_iff_exists'.1 hpg
  have hx:x=⟨φ q.key,y.w,y.u,y.x⟩:=by
   unfold lfS at hl;rw [hq,fK,hf] at hl;simp only [Option.map_some,Option.some.injEq] at hl;exact hl.symm
  subst hx;refine hk (attrR y) M q.key (by rw [fK,hf];rfl) hm ?_ g a φ A1 hs0 hM rfl rfl rfl rfl rfl rfl (λ_ _=>rfl) hl (hS.key_le ham (eT hq).1).2 h1;unfold touchM;rw [hfs];simp only;rw [fK,hf];show (if iJ y.w y.u y.x aw au af=false then _ else _)=_;rw [if_neg (by rw [hm];simp),hq]
 ·have hpn:=(hS.lf_none ham).1 hl;have hlo:lookR a.1.regs page=some (attrR y):=by rw [fK,hf];rfl
  have hkd:=hM.kd0 (hS.in_ ham) hlo hpn;have hnd:=hone.rest.need (p:=page) (ps:=nums a.1) (hS.ps ham);refine hno M 0 0 8 ?_ (by decide) ⟨rfl,rfl⟩ W1 A1 (hS0 W1 λf hf=>hW f λz=>hFG f z hf) h1;unfold touchM;rw [hfs];simp only;rw [hlo];show (if iJ y.w y.u y.x aw au af=false then _ else _)=_;rw [if_neg (by rw [hm];simp),hpn];simp only;rw [if_pos];rw [xY,if_pos hkd,n3];omega
 ·have hpn:=(hS.lf_none ham).1 hl;have hlo:lookR a.1.regs page=some (attrR y):=by rw [fK,hf];rfl
  have hkd:=hM.kd0 (hS.in_ ham) hlo hpn;have hnd:=hone.rest.need (p:=page) (ps:=nums a.1) (hS.ps ham)
  have hcost:costS (addP a.1 page (M.keys+1))-costS a.1=1+(tk.length:Int):=by
   rw [xY,if_pos hkd];omega
  have hrm:¬ iR M.ns a.1.box<costS (addP a.1 page (M.keys+1))-costS a.1:=by rw [hcost,n3];omega
  have ht:touchM M a.1.id page aw au af=({ payM M a.1 (addP a.1 page (M.keys+1)) with keys:=M.keys+1 },M.keys+1,0,0):=by
   unfold touchM;rw [hfs];simp only;rw [hlo];show (if iJ y.w y.u y.x aw au af=false then _ else _)=_;rw [if_neg (by rw [hm];simp),hpn];simp only;rw [if_neg hrm]
  have hM':({ payM M a.1 (addP a.1 page (M.keys+1)) with keys:=M.keys+1 }:Mm)=⟨pre.map (·.1)++addP a.1 page (M.keys+1)::post.map (·.1),addU M.ns a.1.box (costS (addP a.1 page (M.keys+1))-costS a.1),M.keys+1,M.wd⟩:=by
   unfold payM;have hn:=hS.nodupI;rw [hS.mem] at hn ⊢;rw [aAP (s':=addP a.1 page (M.keys+1)) hn rfl]
  have hinv:=hM.touch hS.mem hlo hpn hrm;rw [hM'] at ht;obtain ⟨φ2,hφ2⟩:∃ φ2:Int->Int,φ2=λj=>if j=M.keys+1 then f else φ j:=⟨_,rfl⟩
  have hφk:φ2 (M.keys+1)=f:=by rw [hφ2];simp
  have hφo:∀ j,j<=M.keys->φ2 j=φ j:=λj hj=>by rw [hφ2];simp only;rw [if_neg (by omega)]
  have hφp:∀ b ∈ pre++a::post,∀ x ∈ b.1.pgs,φ2 x.key=φ x.key:=λb hb x hx=>hφo _ (hS.key_le hb hx).1;have hlf:=aJi (φ:=φ) (φ':=φ2) (k:=M.keys+1) (hS.inv.pgs _ (hS.in_ ham)) hpn hlo (hφp a ham);have htlk:∀ x,g.G x->x ∉ tk:=λx hx z=>hFG x (htk x z).1 hx
  have hWk:∀ x,g.G x->x ∉ a.2.tl->W1 x=g.W x:=λx hx hx2=>by
   rw [hW x (htlk x hx) hx2];exact dX λe=>hFG f hff (by rw [<-e];exact hx)
  have hftl:f ∉ a.2.tl:=λz=>hFG f hff (hS.fr_tl ham z)
  have hnn:(f::tk).Nodup:=by
   have:=hR.nd;rw [List.nodup_append] at this;exact List.nodup_cons.2 ⟨λz=>(htk f z).2 rfl,this.2.1⟩
  rw [<-hφk];refine hk (attrR y) _ _ hlo hm ht { g with F:=λx=>g.F x/\x ∉ f::tk,G:=λx=>g.G x\/x ∈ f::tk,W:=W1,n:=g.n-(1+tk.length),ns:=useN g.ns a.1.box nd (nd.use+(1+tk.length)) } (addP a.1 page (M.keys+1),{ a.2 with tab:=tab1,tl:=a.2.tl++tk }) φ2 A1 (hS.grow (g':={ g with F:=λx=>g.F x/\x ∉ f::tk,G:=λx=>g.G x\/x ∈ f::tk,W:=W1,n:=g.n-(1+tk.length),ns:=useN g.ns a.1.box nd (nd.use+(1+tk.length)) }) (nw:=f::tk) hFG rfl rfl (by simp) hinv.toInvL rfl ?_ ?_ hS.pc (aIM (hφp a ham) hφk hkd rfl) hnn (λx hx=>?_) (λ_=>Iff.rfl) (λ_=>Iff.rfl) ⟨?_,⟨?_,λj j1 j2=>?_⟩,hone.lnd,λq=>?_,hone.sl⟩ (λb hb=>hφp b (cmid_iff.2 (.inr hb))) hWk (λj hj i=>?_) ?_) hinv rfl rfl rfl rfl rfl rfl hφo ?_ ?_ h1
  ·rw [hcost,pV (by rw [<-hS.ns];exact n1),hS.ns]
  ·show g.n-(1+(tk.length:Int))=_;rw [hcost,oQ (by rw [<-hS.ns];exact n1) n2,hS.n]
  ·rcases List.mem_cons.1 hx with rfl | hx
   ·exact hff
   ·exact (htk x hx).1
  ·rw [hlf,hφk];exact hR
  ·obtain ⟨b1,b2,b3⟩:=hone.rt.k;exact ⟨b1,b2,by show W1 a.2.root 256=_;rw [hHi 256 (by omega)];exact b3⟩
  ·show W1 a.2.root j=0;rw [hHi j (by omega)];exact hone.rt.z j j1 j2
  ·show a.2.lent.lookup q=_;rw [aDN (hS.inv.pgs _ (hS.in_ ham)) hpn];by_cases e:q=page
   ·subst e;rw [if_pos rfl,hone.lent,hpn];rfl
   ·rw [if_neg e];exact hone.lent q
  ·show W1 (φ2 j) i=M.wd j i;have hj':j ∈ ownK (pre.map (·.1)++addP a.1 page (M.keys+1)::post.map (·.1)):=hj;by_cases e:j=M.keys+1
   ·subst e;rw [hφk,hW f (λz=>(htk f z).2 rfl) hftl,hS.inv.zero _ _ (by omega)];unfold zeroW;rw [if_pos rfl]
   ·have hoP:=lV (s:=a.1) (p:=page) (k:=M.keys+1);rw [if_pos hkd] at hoP
    have hj2:j ∈ ownK M.sps:=by
     rw [hS.mem,gX.mem_iff];rw [gX.mem_iff,List.mem_append,(hoP.map (·.key)).mem_iff,List.map_cons,List.mem_cons] at hj';rcases hj' with (z | z) | z
     ·exact absurd z e
     ·exact List.mem_append_left _ z
     ·exact List.mem_append_right _ z
    have hd:=hS.data hj2;rw [hφo j (hS.inv.key j hj2).2,hWk _ hd.1 (hd.2.1 a ham)];exact hS.wd j hj2 i
  ·have hln:=hS.ln;rw [hS.mem] at hln;refine hln.mono (LF:=lfL φ (pre.map (·.1)++a.1::post.map (·.1))) λid q x hx=>?_;have hn:=hS.nodupI;rw [hS.mem] at hn;have e1:pre.map (·.1)++addP a.1 page (M.keys+1)::post.map (·.1)=(pre++(addP a.1 page (M.keys+1),a.2)::post).map (·.1):=by simp
   have e2:pre.map (·.1)++a.1::post.map (·.1)=(pre++a::post).map (·.1):=by simp
   have hn2:((pre++a::post).map λx=>x.1.id).Nodup:=by rw [e2,List.map_map] at hn;exact hn
   show lfL φ2 (pre.map (·.1)++addP a.1 page (M.keys+1)::post.map (·.1)) id q=some x;rw [e2] at hx;rw [e1,t9 (a:=a) (a':=(addP a.1 page (M.keys+1),a.2)) (φ:=φ) hn2 rfl λb hb=>hφp b (cmid_iff.2 (.inr hb))];by_cases e:id=a.1.id
   ·rw [if_pos e];rw [t9 (a:=a) (a':=a) (φ:=φ) hn2 rfl λ_ _ _ _=>rfl,if_pos e] at hx;show lfS φ2 (addP a.1 page (M.keys+1)) q=some x;rw [hlf];unfold kJ;rw [if_neg λz=>by rw [z,hl] at hx;cases hx];exact hx
   ·rw [if_neg e];exact hx
  ·show lfS φ2 (addP a.1 page (M.keys+1)) page=_;rw [hlf];unfold kJ;rw [if_pos rfl]
  ·have hoP:=lV (s:=a.1) (p:=page) (k:=M.keys+1);rw [if_pos hkd] at hoP;show M.keys+1 ∈ ownK (pre.map (·.1)++addP a.1 page (M.keys+1)::post.map (·.1));rw [gX.mem_iff,List.mem_append,(hoP.map (·.key)).mem_iff];exact .inl (by simp)
end Go.Dn
namespace Go.Dn
variable {A:AH} {l R:List SP} {p:Nat} {ls:List Ln}
theorem aCs {tag page:Int} {Q:Bool->Int->Int->Int->Bool->Bool->Bool->Bool->Bool->Bool->AH->Prop} (h:Own (TlbS p ls::R) A) (hp:0<=page/\page<9223372036854775808)
  (hn:∀ A',Own (TlbS p ls::R) A'->Q false 0 0 0 false false false false false false A')
  (hk:∀ y ∈ ls,fitsB tag page y=true->∀ A',Own (TlbS p ls::R) A'->Q y.v y.tag y.page y.frame y.w y.u y.x y.g y.d true A') :
  qdi_A (some ⟨p,0,none⟩) tag page Q A:=by
 obtain ⟨hl,h⟩:=TlbS.openH h;unfold qdi_A qdi_G qde_A;refine aX (cs:=[.int .i64 tag]) h λb1 A1 h1=>?_;refine aX (cs:=[.int .i64 page]) h1 λb3 A2 h2=>?_;simp only [aH,add_at,Nat.zero_add];refine ld_I (i:=0) h2 rfl rfl ?_;rw [aLm hp.1 hp.2];obtain ⟨s,hs⟩:∃ s:Nat,page % 8=s:=⟨(page % 8).toNat,by omega⟩;have hs8:s<8:=by omega
 rw [hs];simp only [Int.toNat_natCast];refine inB_in (by omega) (by omega) ?_;unfold qdh_A qdh_G qdg_A qdg_G qdf_A;simp only [aH,add_at,Nat.zero_add];refine ⟨λx m A'=>∃ v:Nat,x=v/\m+v=2/\A'=A2,⟨2,0,rfl,rfl,rfl⟩,?_⟩;intro x m A3 ⟨v,e1,e2,e3⟩;subst e1 e3;refine aG (λc=>?_) λc=>?_
 ·have c:(v:Int)<2:=of_decide_eq_true c;obtain ⟨y,hy⟩:∃ y,ls[s*2+v]? = some y:=⟨ls[s*2+v]'(by omega),by simp⟩;simp only [Int.toNat_natCast];refine inB_in (by omega) c ?_;refine aBI (i:=2) (k:=s*2+v) h2 rfl hy (by omega) ?_;refine ld_I (i:=1) h2 rfl rfl (ld_I (i:=0) h2 rfl rfl ?_);have next:∃ m3,m3<m/\∃ v':Nat,IntKind.wrap .i64 ((v:Int)+1)=v'/\m3+v'=2/\True:=⟨m-1,by omega,v+1,by rw [bG]<;>omega,by omega,trivial⟩
  have yes:fitsB tag page y=true->_:=λz=>hk y (List.mem_of_getElem? hy) z A3 (TlbS.closeH hl h2.tail.tail)
  have go:fitsB tag page y=true->bsel (decide ((v:Int)>=0)) (bF (v:Int) 2 (aB ⟨p,s*18+v*9,none⟩ A3 λb11=>aI .i64 ⟨p,s*18+v*9+1,none⟩ A3 λn12=>aI .i64 ⟨p,s*18+v*9+2,none⟩ A3 λn13=>aI .i64 ⟨p,s*18+v*9+3,none⟩ A3 λn14=>aB ⟨p,s*18+v*9+4,none⟩ A3 λb15=>aB ⟨p,s*18+v*9+5,none⟩ A3 λb16=>aB ⟨p,s*18+v*9+6,none⟩ A3 λb17=>aB ⟨p,s*18+v*9+7,none⟩ A3 λb18=>aB ⟨p,s*18+v*9+8,none⟩ A3 λb19=>Q b11 n12 n13 n14 b15 b16 b17 b18 b19 true A3)) (Q false 0 0 0 false false false false false false A3):=λz=>
   aN (by simp) (inB_in (by omega) c (aBI (i:=2) (k:=s*2+v) h2 rfl hy (by omega) (yes z)))
  refine aG (λa1=>aG (λa2=>aG (λa3=>aN rfl (go (by unfold fitsB;rw [a1,a2,a3];rfl))) λa3=>?_) λa2=>bsel_f rfl next) λa1=>bsel_f rfl next
  refine aG (λa4=>go (by unfold fitsB;rw [a1,a2,a3,a4];rfl)) λa4=>next
 ·have c:¬(v:Int)<2:=of_decide_eq_false c;exact bsel_f rfl (hn A3 (TlbS.closeH hl h2.tail.tail))
theorem sQ {a b:Int} {Q:Int->AH->Prop} (h:Own (TlbS p ls::R) A) (ha:0<=a/\a<8) (hb:0<=b/\b<2) (hk:∀ k A',Own (TlbS p (ls.set k ln0)::R) A'->Q 0 A'):qcw_A (some ⟨p,0,none⟩) a b Q A:=by
 obtain ⟨hl,h⟩:=TlbS.openH h;unfold qcw_A;simp only [aH,add_at,Nat.zero_add];refine bsel_f (by simp;omega) (bsel_f (by simp;omega) (bsel_f (by simp;omega) (bsel_f (by simp;omega) (inB_in (by omega) (by omega) (inB_in (by omega) (by omega) ?_)))));obtain ⟨y,hy⟩:∃ y,ls[a.toNat*2+b.toNat]? = some y:=⟨ls[a.toNat*2+b.toNat]'(by omega),by simp⟩;exact aBr (m:=ln0) (K:=λA'=>Q 0 A') h hy (o:=a.toNat*18+b.toNat*9) (by omega) λA1 h1=>hk _ A1 (TlbS.closeH (by simp [hl]) h1)
def CpuS (cp:Nat) (m:Nat) (n:Nat):SP:=λB=>∃ (s:Sl) (ch:List Int) (at_:Nat),(at_<=ch.length/\ch.length=n/\n<=1000000000)/\Own [At cp [.pointer (some ⟨m,0,none⟩),.slice s.a s.len s.cap,.int .i64 at_],SlO s 1 (ch.map (.int .i64))] B
theorem CpuS.openH {cp m n:Nat} (h:Own (CpuS cp m n::R) A):∃ (s:Sl) (ch:List Int) (at_:Nat),(at_<=ch.length/\ch.length=n/\n<=1000000000)/\Own (At cp [.pointer (some ⟨m,0,none⟩),.slice s.a s.len s.cap,.int .i64 at_]::SlO s 1 (ch.map (.int .i64))::R) A:=by
 obtain ⟨s,h⟩:=Own.ex h;obtain ⟨ch,h⟩:=Own.ex h;obtain ⟨at_,h⟩:=Own.ex h;obtain ⟨h1,h⟩:=Own.pure h;exact ⟨s,ch,at_,h1,Own.flat h⟩
theorem CpuS.closeH {cp m n:Nat} {s:Sl} {ch:List Int} {at_:Nat} (h1:at_<=ch.length/\ch.length=n/\n<=1000000000) (h:Own (At cp [.pointer (some ⟨m,0,none⟩),.slice s.a s.len s.cap,.int .i64 at_]::SlO s 1 (ch.map (.int .i64))::R) A):Own (CpuS cp m n::R) A:=
 (Own.app (l:=[At cp [.pointer (some ⟨m,0,none⟩),.slice s.a s.len s.cap,.int .i64 at_],SlO s 1 (ch.map (.int .i64))]) h).imp λ_ hB=>⟨s,ch,at_,h1,hB⟩
variable {c:Mb} {u:Int} {F G:Int->Prop} {W:Int->Int->Int} {z:PcZ} {sps:List (Int × Value)} {X:SP} {cp n:Nat}
theorem gA.cpu (h:Own (gA c F G W u ls z sps (X::CpuS cp c.m n::l)) A):Own (CpuS cp c.m n::gA c F G W u ls z sps (X::l)) A:=by
 unfold gA zW at h ⊢;exact h.pick 8 rfl
theorem gA.cpuB (h:Own (CpuS cp c.m n::gA c F G W u ls z sps (X::l)) A):Own (gA c F G W u ls z sps (X::CpuS cp c.m n::l)) A:=by
 have:=Own.back (l:=gA c F G W u ls z sps (X::CpuS cp c.m n::l)) (P:=CpuS cp c.m n) (P':=CpuS cp c.m n) 8 rfl h;exact this
theorem aL9 {K:Option Addr->Prop} (h:Own (gA c F G W u ls z sps (X::CpuS cp c.m n::l)) A) (hk:K (some ⟨c.m,0,none⟩)):aP ⟨cp,0,none⟩ A K:=by
 obtain ⟨s,ch,at_,_,h1⟩:=CpuS.openH (gA.cpu h);exact cO (i:=0) h1 rfl rfl hk
theorem dR {s:Sl} {sz:Nat} {cs:List Value}:bI (SlO s sz cs) s sz cs:=λB A h u=>nT B A h.look u
theorem aJr {V:Vw} {Q:Int->AH->Prop} (h:Own (gA c F G W u ls z sps (X::CpuS cp c.m n::l)) A) (hV:LnOK V ls)
  (hk:∀ way ls' A',-1<=way->way<2->LnOK V ls'->Own (gA c F G W u ls' z sps (X::CpuS cp c.m n::l)) A'->Q way A'):qcx_A (some ⟨cp,0,none⟩) Q A:=by
 obtain ⟨s,ch,at_,⟨h1,h2,h3⟩,hA⟩:=CpuS.openH (gA.cpu h)
 have hlen:s.len=ch.length:=by
  have:=eV (i:=1) hA rfl (dR (s:=s));simpa using this
 unfold qcx_A qcx_G;simp only [aH,add_at,Nat.zero_add];refine ⟨λ_ A'=>Own (gA c F G W u ls z sps (X::CpuS cp c.m n::l)) A',λx A1 hA1=>?_,?_⟩
 ·obtain ⟨k,hk0⟩:∃ k,Int.tmod (IntKind.wrap .i64 (Int.tmod x 51+51)) 51=k:=⟨_,rfl⟩
  have hk1:0<=k/\k<51:=by
   rw [<-hk0]
   have e1 : -51<Int.tmod x 51/\Int.tmod x 51<51:=by
    have:=Int.lt_tmod_of_pos x (show (0:Int)<51 by omega);have:=Int.tmod_lt_of_pos x (show (0:Int)<51 by omega);omega
   rw [bG (by omega) (by omega)];have:=Int.tmod_nonneg 51 (show 0<=Int.tmod x 51+51 by omega);have:=Int.tmod_lt_of_pos (Int.tmod x 51+51) (show (0:Int)<51 by omega);omega
  rw [hk0];have e3:Int.tmod k 3=k % 3:=Int.tmod_eq_emod_of_nonneg hk1.1;have e4:Int.tdiv k 3=k / 3:=Int.tdiv_eq_ediv_of_nonneg hk1.1;rw [e3,e4,bG (n:=k / 3) (by omega) (by omega),bG (n:=k / 3-1) (by omega) (by omega),bG (n:=k % 3-1) (by omega) (by omega)];refine ⟨λA'=>∃ ls',LnOK V ls'/\Own (gA c F G W u ls' z sps (X::CpuS cp c.m n::l)) A',λA2 ⟨ls',v1,hA2⟩=>hk _ ls' A2 (by omega) (by omega) v1 hA2,?_⟩;refine aG (λg=>?_) λ_=>⟨ls,hV,hA1⟩;have g:k / 3-1>=0:=of_decide_eq_true g;refine aL9 hA1 ?_;simp only [aH,add_at,Nat.zero_add];refine cO (i:=3) hA1 rfl rfl ?_;have e5:Int.tmod (k / 3-1) 8=(k / 3-1) % 8:=Int.tmod_eq_emod_of_nonneg g;have e6:Int.tdiv (k / 3-1) 8=(k / 3-1) / 8:=Int.tdiv_eq_ediv_of_nonneg g;rw [e5,e6,bG (n:=(k / 3-1) / 8) (by omega) (by omega)];exact sQ (gA.tlb hA1) (by omega) (by omega) λj A2 hA2=>⟨_,hV.evict,gA.tlbB hA2⟩
 ·refine ld_I (i:=0) hA rfl rfl (ld_S (i:=0) hA rfl rfl ?_);refine aG (λg=>?_) λ_=>h;have g:(at_:Int)<s.len:=of_decide_eq_true g;refine ld_S (i:=0) hA rfl rfl (ld_I (i:=0) hA rfl rfl ?_);obtain ⟨y,hy⟩:∃ y,ch[at_]? = some y:=⟨ch[at_]'(by omega),by simp⟩;obtain ⟨b,o,q1,q2⟩:=bW (i:=1) (j:=at_) (v:=.int .i64 y) hA rfl (dR (s:=s)) (by rw [List.getElem?_map,hy];rfl);rw [q1];simp only [aH,add_at,Int.toNat_natCast,Nat.mul_one];refine inB_in (by omega) g ?_;refine ⟨y,q2,ld_I (i:=0) hA rfl rfl ?_⟩;refine aJ (i:=0) hA rfl rfl rfl λA2 hA2=>?_;have hA2:Own (At cp [.pointer (some ⟨c.m,0,none⟩),.slice s.a s.len s.cap,.int .i64 (IntKind.wrap .i64 ((at_:Int)+1))]::SlO s 1 (ch.map (.int .i64))::gA c F G W u ls z sps (X::l)) A2:=hA2;rw [bG (n:=(at_:Int)+1) (by omega) (by omega)] at hA2;exact gA.cpuB (CpuS.closeH (at_:=at_+1) ⟨by omega,h2,h3⟩ hA2)
end Go.Dn
