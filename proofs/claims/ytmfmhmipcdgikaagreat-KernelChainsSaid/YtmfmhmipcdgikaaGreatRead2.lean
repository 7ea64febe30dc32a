/- What the proof stands on. -/
import Derived.Test.YtmfmhmipcdgikaaGreatG
import Derived.Test.YtmfmhmipcdgikaaGreatRoot
import Derived.Test.YtmfmhmipcdgikaaGreatCut
import Derived.Test.YtmfmhmipcdgikaaGreatRgs
import Derived.Test.YtmfmhmipcdgikaaGreatRamB
import Derived.Test.YtmfmhmipcdgikaaGreatMacR
namespace Go.Dn
variable {A:AH} {l R:List SP} {c:Mc} {g:Sg} {L pre post:List Sc} {M:Mm} {φ:Int->Int} {a:Sc} {s:Sm} {i:Nat} {nd:Nd} {id:Int}
def insS:List Sm->Sm->List Sm
 | [],s=>[s]
 | x::r,s=>if s.id<x.id then s::x::r else x::insS r s
theorem aAj {k:Int} {v:Value}:∀ {m:List (Int × Value)},m.lookup k=none->putM m k v=m++[(k,v)]
 | [],_=>rfl
 | (a,w)::m,h=>by
  rw [List.lookup_cons] at h;by_cases g:a=k
  ·subst g;simp at h
  ·have:(k==a)=false:=by simpa using λq=>g q.symm
   rw [this] at h;unfold putM;rw [if_neg g,aAj h];rfl
theorem iD (s:Sm):∀ l:List Sm,∃ pre post,l=pre++post/\insS l s=pre++s::post
 | []=>⟨[],[],rfl,rfl⟩
 | x::r=>by
  unfold insS;split
  ·exact ⟨[],x::r,rfl,rfl⟩
  ·obtain ⟨p,q,h1,h2⟩:=iD s r;exact ⟨x::p,q,by rw [h1];rfl,by rw [h2];rfl⟩
theorem aAO:∀ {l:List Sm},(l.map (·.id)).Pairwise (· < ·)->(∀ x ∈ l,x.id≠s.id)->((insS l s).map (·.id)).Pairwise (· < ·)
 | [],_,_=>by simp [insS]
 | x::r,h,hn=>by
  rw [List.map_cons,List.pairwise_cons] at h;have hx:=hn x (by simp);unfold insS;split
  ·rename_i c;rw [List.map_cons,List.map_cons,List.pairwise_cons,List.pairwise_cons];refine ⟨λy hy=>?_,h⟩;rcases List.mem_cons.1 hy with rfl | hy
   ·exact c
   ·have:=h.1 y hy;omega
  ·rename_i c;rw [List.map_cons,List.pairwise_cons];refine ⟨λy hy=>?_,aAO h.2 λz hz=>hn z (by simp [hz])⟩;obtain ⟨z,hz,rfl⟩:=List.mem_map.1 hy;obtain ⟨p,q,e1,e2⟩:=iD s r;rw [e2] at hz;rcases mid_iff.1 hz with rfl | hz
   ·omega
   ·rw [<-e1] at hz;exact h.1 _ (List.mem_map_of_mem hz)
def newS (id:Int) (i:Nat):Sm:=⟨id,i,[],[]⟩
def openM (M:Mm) (id:Int) (i:Nat):Mm × Int:=if id<0 then (M,1) else if (findS M id).isSome=true then (M,6) else if iR M.ns i<1 then (M,8)
 else ({ M with sps:=insS M.sps (newS id i),ns:=addU M.ns i 1 },0)
theorem InvM.opn (h:InvM M) (hf:findS M id=none) (hl:liveN M.ns i=true) (hr:¬ iR M.ns i<1):InvM { M with sps:=insS M.sps (newS id i),ns:=addU M.ns i 1 }:=by
 obtain ⟨p,q,e1,e2⟩:=iD (newS id i) M.sps
 have hne:∀ x ∈ M.sps,x.id≠id:=λx hx e=>by
  unfold findS at hf;rw [List.find?_eq_none] at hf;exact hf x hx (by simp [e])
 have hmem:∀ x,x ∈ insS M.sps (newS id i)↔x=newS id i\/x ∈ M.sps:=λx=>by rw [e2,mid_iff,<- e1]
 obtain ⟨d,hd,hdl⟩:∃ d,M.ns[i]? = some d/\d.live=true:=by
  unfold liveN at hl;cases e:M.ns[i]? with
  | none=>rw [e] at hl;cases hl
  | some d=>rw [e] at hl;exact ⟨d,rfl,hl⟩
 have ho:ownK (insS M.sps (newS id i))=ownK M.sps:=by rw [e2,e1,dV,dV,fO];rfl
 have hb:borK (insS M.sps (newS id i))=borK M.sps:=by rw [e2,e1,jF,jF,mP];rfl
 have hroom:1<=d.room:=by unfold iR at hr;rw [hd] at hr;simp only at hr;omega
 have hu:=(h.tree.ok d (List.mem_of_getElem? hd)).use;have nop:(newS id i).pgs=[]:=rfl;have nor:∀ n,lookR (newS id i).regs n=none:=λn=>rfl;refine { srt:=aAO h.srt hne,good:=λx hx=>?_,pgs:=λx hx=>?_,reg:=λx hx=>?_,own:=by show (ownK (insS M.sps (newS id i))).Nodup;rw [ho];exact h.own,src:=λx hx z hz=>?_,key:=by show ∀ k ∈ ownK (insS M.sps (newS id i)),_;rw [ho];exact h.key,zero:=h.zero,keys0:=h.keys0,tree:=h.tree.addU hd (by omega) hroom,live:=λx hx=>?_,use:=λj e he hle=>?_,kind:=λx hx=>?_,bor:=λx hx=>?_,lent:=λx hx=>?_ }
 ·rcases (hmem x).1 hx with rfl | hx
  ·rfl
  ·exact h.good x hx
 ·rcases (hmem x).1 hx with rfl | hx
  ·exact List.Pairwise.nil
  ·exact h.pgs x hx
 ·rcases (hmem x).1 hx with rfl | hx
  ·intro z hz;rw [nop] at hz;cases hz
  ·exact h.reg x hx
 ·show z.key ∈ ownK (insS M.sps (newS id i));rw [ho];rcases (hmem x).1 hx with rfl | hx
  ·rw [nop] at hz;cases hz
  ·exact h.src x hx z hz
 ·show liveN (addU M.ns i 1) x.box=true;rw [fH];rcases (hmem x).1 hx with rfl | hx
  ·exact hl
  ·exact h.live x hx
 ·have he:(addU M.ns i 1)[j]? = some e:=he;rw [gH] at he;cases e3:M.ns[j]? with
  | none=>rw [e3] at he;cases he
  | some x=>
   rw [e3] at he;simp only [Option.map_some,Option.some.injEq] at he;have hlx:x.live=true:=by rw [<-he] at hle;split at hle<;>exact hle
   have hux:=h.use j x e3 hlx;show e.use=_+sumZ (costB j) (insS M.sps (newS id i));rw [e2,pF,<- e1];by_cases gj:i=j
   ·rw [if_pos gj] at he;have e4:costB j (newS id i)=1:=by unfold costB;rw [show (newS id i).box=i from rfl,if_pos gj];rfl
    rw [<-he,e4];simp only;omega
   ·rw [if_neg gj] at he;have e4:costB j (newS id i)=0:=by unfold costB;rw [show (newS id i).box=i from rfl,if_neg gj]
    rw [<-he,e4];omega
 ·rcases (hmem x).1 hx with rfl | hx
  ·intro q a ha;rw [nor] at ha;cases ha
  ·exact h.kind x hx
 ·rcases (hmem x).1 hx with rfl | hx
  ·intro q a ha;rw [nor] at ha;cases ha
  ·exact h.bor x hx
 ·show ∀ z ∈ ownP x,z.lent=((borK (insS M.sps (newS id i))).count z.key:Nat);rw [hb];rcases (hmem x).1 hx with rfl | hx
  ·intro z hz;have:=(j8.1 hz).1;rw [nop] at this;cases this
  ·exact h.lent x hx
theorem lfL_ins {pre post:List Sc} (hne:∀ b ∈ pre++post,b.1.id≠a.1.id) (hl:∀ q,lfS φ a.1 q=none) (j:Int):lfL φ ((pre++a::post).map (·.1)) j=lfL φ ((pre++post).map (·.1)) j:=by
 unfold lfL;rw [List.map_append,List.map_cons,List.find?_append,List.find?_cons,List.map_append,List.find?_append];by_cases e:a.1.id=j
 ·rw [show (a.1.id==j)=true by simp [e]]
  have e1:∀ l:List Sc,(∀ b ∈ l,b.1.id≠a.1.id)->(l.map (·.1)).find? (λs=>s.id==j)=none:=λl hl=>by
   rw [List.find?_eq_none];intro s hs hq;obtain ⟨b,hb,rfl⟩:=List.mem_map.1 hs;exact hl b hb (by rw [e];simpa using hq)
  rw [e1 pre λb hb=>hne b (List.mem_append_left _ hb),e1 post λb hb=>hne b (List.mem_append_right _ hb)];simp only [Option.none_or];exact funext hl
 ·rw [show (a.1.id==j)=false by simpa using e]
theorem aKP {Q:Int->AH->Prop} (h:Own (MacS c M φ::R) A) (hM:InvM M) (hl:liveN M.ns i=true) (hk:∀ A',InvM (openM M id i).1->Own (MacS c (openM M id i).1 φ::R) A'->Q (openM M id i).2 A'):qca_A (some ⟨c.m,0,none⟩) id i Q A:=by
 obtain ⟨g,L,hS,h⟩:=MacS.openH h
 have hkr:0<=c.kern/\c.kern<1048576:=by
  have:=(hS.rng c.kern).1 (.inr ((hS.G _).2 (by unfold frs;simp)));have:=hS.N.2;omega
 unfold qca_A qca_G;refine aG (λc1=>?_) λc1=>?_
 ·have c1:id<0:=of_decide_eq_true c1;have e:openM M id i=(M,1):=by unfold openM;rw [if_pos c1]
  rw [e] at hk;exact hk A hM (MacS.closeH hS h)
 have c1:¬ id<0:=of_decide_eq_false c1;simp only [aH,add_at,Nat.zero_add];cases hf:findS M id with
 | some s=>
  have e:openM M id i=(M,6):=by unfold openM;rw [if_neg c1,hf];rfl
  rw [e] at hk;obtain ⟨a,pre,post,rfl,rfl,rfl,_⟩:=hS.has hf;exact aGo h hS ⟨some ⟨a.2.p,0,none⟩,rfl,aN rfl (hk A hM (MacS.closeH hS h))⟩
 | none=>
  obtain ⟨d,hd,hdl⟩:∃ d,M.ns[i]? = some d/\d.live=true:=by
   unfold liveN at hl;cases e:M.ns[i]? with
   | none=>rw [e] at hl;cases hl
   | some d=>rw [e] at hl;exact ⟨d,rfl,hl⟩
  have hdg:g.ns[i]? = some d:=by rw [hS.ns];exact hd
  have hrm:=hS.inv.tree.room hd hdl;rw [<-hS.n] at hrm;have hro:iR M.ns i=d.room:=by unfold iR;rw [hd]
  have hFG:=(mO h.tail).1;refine aJD h hS hf ⟨none,rfl,bsel_f rfl (ld_I (i:=3) h rfl rfl (prs (k:=3) h rfl ⟨ld_I (i:=3) h rfl rfl rfl,?_⟩))⟩;refine aFe (i:=i) (tk:=[]) (mC hdg h) hdg hdl (λf hf=>aBn.2 (by have:=(hS.rng f).1 (.inl hf);omega)) hkr (λc2=>?_) (λc2 c3=>?_) λc2 _ root A1 hfr _ h1=>bsel_f rfl ?_
  ·have e:openM M id i=(M,8):=by unfold openM;rw [if_neg c1,hf,hro,if_neg (by simp),if_pos (by unfold Nd.room;simp at c2;omega)]
   rw [e] at hk;exact aN rfl (hk A hM (MacS.closeH hS h))
  ·exfalso;unfold Nd.room at hrm;simp at c2 c3;omega
  have hnr:¬ iR M.ns i<1:=by rw [hro];unfold Nd.room;simp at c2;omega
  have e:openM M id i=({ M with sps:=insS M.sps (newS id i),ns:=addU M.ns i 1 },0):=by unfold openM;rw [if_neg c1,hf,if_neg (by simp),if_neg hnr]
  have hinv:=hM.opn hf hl hnr;rw [e] at hk;obtain ⟨p,q,e1,e2⟩:=iD (newS id i) M.sps;obtain ⟨W1,hW1⟩:∃ W1,W1=setW (zeroW g.W root) root 256 (kEnt c.kern):=⟨_,rfl⟩;have hrG:¬ g.G root:=hFG root hfr;obtain ⟨g1,hg1⟩:∃ g1:Sg,g1 = { g with F:=λx=>g.F x/\x ∉ [root],G:=λx=>g.G x\/x ∈ [root],W:=W1,n:=g.n-1,ns:=addU M.ns i 1 }:=⟨_,rfl⟩
  have h1:Own (macG c g1 (L.map ownC++R)) A1:=by
   have h1:Own (RamW c.r c.N [] (setW (zeroW g.W root) root 256 (kEnt c.kern))::Bud c.b (λx=>g.F x/\x ∉ [root]) (λx=>g.G x\/x ∈ [root]) (g.n-1)::TreeS c.t (useN g.ns i d (d.use+1))::At c.m (mcC c)::MapI c.sp .i64 g.sps::TlbS c.tl g.ls::PcS c.tg g.z::(L.map ownC++R)) A1:=h1;rw [<-hW1,hS.ns,<- pV hd] at h1;rw [hg1];exact h1
  refine dY (i:=3) h1 rfl rfl ?_;refine tD (k:=.i64) h1 λlm A2 h2=>?_;refine aX (cs:=[.int .i64 i,.int .i64 root,.slice none 0 0,.map (some lm)]) h2 λpb A3 h3=>?_;refine aGQ (i:=6) h3 rfl λA4 h4=>hk A4 hinv ?_
  -- where it lies among the others
  have hsp:L.map (·.1)=p++q:=by rw [hS.abs,e1]
  obtain ⟨pre,post,hL,hp1,hp2⟩:∃ pre post,L=pre++post/\pre.map (·.1)=p/\post.map (·.1)=q:=List.map_eq_append_iff.1 hsp;obtain ⟨a,ha⟩:∃ a:Sc,a=(newS id i,⟨pb,root,Sl.nil,[],tab0 root,[root]⟩):=⟨_,rfl⟩
  have hne:∀ b ∈ pre++post,b.1.id≠a.1.id:=λb hb z=>by
   have hbm:b.1 ∈ M.sps:=by rw [<-hS.abs,hL];exact List.mem_map_of_mem hb
   unfold findS at hf;rw [List.find?_eq_none] at hf;exact hf b.1 hbm (by rw [z,ha];simp [newS])
  have hnl:g1.sps.lookup id=none:=by rw [hg1];exact hS.hno hf
  have hlfn:∀ n,lfS φ a.1 n=none:=λn=>by rw [ha];rfl
  have hWo:∀ f,g.G f->W1 f=g.W f:=λf hf2=>by
   have:f≠root:=λz=>hrG (by rw [<-z];exact hf2);rw [hW1,cH this,dX this]
  have hrng:=(hS.rng root).1 (.inl hfr);have hNN:=hS.N.2
  have hfrs:(frs c φ (pre++a::post)).Perm (root::frs c φ L):=by
   refine zP.trans ?_;rw [hL,ha];exact List.Perm.refl _
  have hrest:Rest (λx=>g.G x\/x ∈ [root]) W1 root (tab0 root) (λ_=>none) [root]:=by
   have key:∀ k q f,tab0 root k q=some f↔(k=0/\q=0)/\f=root:=λk q f=>by
    unfold tab0;split
    ·rename_i e;simp [e];exact eq_comm
    ·rename_i e;simp [e]
   refine ⟨TabW.init (λj j0 j1=>?_) ⟨by omega,by omega⟩,λp x e=>(by cases e),λk q f e hk1=>?_,(by simp),λf=>?_,λf hf2=>.inr hf2⟩
   ·rw [hW1];unfold setW zeroW;rw [if_neg (by omega),if_pos rfl]
   ·have:=((key k q f).1 e).1;omega
   ·rw [List.mem_singleton];constructor
    ·intro e;exact ⟨0,0,(key 0 0 f).2 ⟨⟨rfl,rfl⟩,e⟩⟩
    ·rintro ⟨k,q,e⟩;exact ((key k q f).1 e).2
  have hSn:SgOK c { g1 with sps:=putM g1.sps id (ptrV pb) } (pre++a::post) { M with sps:=insS M.sps (newS id i),ns:=addU M.ns i 1 } φ:=by
   refine ⟨hinv.toInvL,?_,by rw [hg1],?_,?_,hfrs.nodup_iff.2 (List.nodup_cons.2 ⟨λz=>hrG ((hS.G root).2 z),hS.nd⟩),λf=>?_,λf=>?_,λb hb=>?_,λk hk2 j=>?_,λj hj=>?_,by rw [hg1];exact hS.pc,?_,hS.N⟩
   ·show (pre++a::post).map (·.1)=insS M.sps (newS id i);rw [e2,List.map_append,List.map_cons,hp1,hp2,ha]
   ·rw [hg1];show g.n-1=sumZ rmN (addU M.ns i 1);rw [oQ hd hdl,hS.n]
   ·show (putM g1.sps id (ptrV pb)).Perm (entC (pre++a::post));rw [aAj hnl,hg1]
    have:(entC (pre++a::post)).Perm ((id,ptrV pb)::entC L):=by
     unfold entC;rw [List.map_append,List.map_cons,hL,List.map_append,ha];exact List.perm_middle
    exact ((List.perm_append_comm (l₁:=g.sps) (l₂:=[(id,ptrV pb)])).trans (List.Perm.cons _ hS.sps)).trans this.symm
   ·rw [hg1,hfrs.mem_iff];show g.G f\/f ∈ [root]↔_;rw [hS.G,List.mem_singleton,List.mem_cons];exact or_comm
   ·rw [hg1];show (g.F f/\f ∉ [root])\/(g.G f\/f ∈ [root])↔_;rw [<-hS.rng f];simp only [List.mem_singleton];constructor
    ·rintro (z | z | z)
     ·exact .inl z.1
     ·exact .inr z
     ·exact .inl (by rw [z];exact hfr)
    ·rintro (z | z)
     ·by_cases w:f=root
      ·exact .inr (.inr w)
      ·exact .inl ⟨z,w⟩
     ·exact .inr (.inl z)
   ·rcases cmid_iff.1 hb with rfl | hb
    ·refine ⟨?_,⟨⟨false,false,?_⟩,λj j1 j2=>?_⟩,by rw [ha];exact List.nodup_nil,λq=>by rw [ha];rfl,λ_=>by rw [ha];rfl⟩
     ·rw [hg1,show lfS φ b.1=λ_=>none from funext hlfn,ha];exact hrest
     ·rw [hg1,ha];show W1 root 256=_;rw [hW1];unfold setW;rw [if_pos ⟨rfl,rfl⟩];rfl
     ·rw [hg1,ha];show W1 root j=0;rw [hW1];unfold setW zeroW;rw [if_neg (by omega),if_pos rfl]
    ·have hbL:b ∈ L:=by rw [hL];exact hb
     refine (hS.one b hbL).keep (λf hf2=>?_) (λf hf2=>?_) λ_ _=>rfl
     ·rw [hg1];exact hWo f (hS.fr_tl hbL hf2)
     ·rw [hg1];exact .inl (hS.fr_tl hbL hf2)
   ·have hk3:k ∈ ownK M.sps:=by
     have hk2:k ∈ ownK (insS M.sps (newS id i)):=hk2;rw [e2,dV,fO] at hk2;rw [e1,dV];exact hk2
    rw [hg1];show W1 (φ k) j=M.wd k j;rw [hWo _ (hS.data hk3).1];exact hS.wd k hk3 j
   ·rw [hg1];show W1 c.kern j=_;rw [hWo _ ((hS.G _).2 (by unfold frs;simp))];exact hS.kw j hj
   ·rw [hg1];show LnOK (vw g.z (lfL φ (insS M.sps (newS id i)))) g.ls;have e5:insS M.sps (newS id i)=(pre++a::post).map (·.1):=by rw [e2,List.map_append,List.map_cons,hp1,hp2,ha]
    have e6:M.sps=(pre++post).map (·.1):=by rw [<-hS.abs,hL]
    have:=hS.ln;rw [e6] at this;rw [e5,show lfL φ ((pre++a::post).map (·.1))=lfL φ ((pre++post).map (·.1)) from funext λj=>lfL_ins hne hlfn j];exact this
  refine MacS.closeH hSn (macG.unfocus ?_);have h4:Own (At pb [.int .i64 i,.int .i64 root,.slice none 0 0,.map (some lm)]::MapI lm .i64 []::macG c { g1 with sps:=putM g1.sps id (ptrV pb) } (L.map ownC++R)) A4:=h4;have h5:Own (pO pb lm i root Sl.nil [] []++macG c { g1 with sps:=putM g1.sps id (ptrV pb) } (L.map ownC++R)) A4:=h4.cons λC hC=>Own.nil6 hC;have h6:Own (ownC a::macG c { g1 with sps:=putM g1.sps id (ptrV pb) } (L.map ownC++R)) A4:=by rw [ha];exact OneS.closeH h5
  rw [hL] at h6;exact macG.backX h6
end Go.Dn
namespace Go.Dn
variable {A:AH} {l:List SP} {c:Mc} {g:Sg} {φ:Int->Int} {a:Sc} {k p q:Int} {x:Pg}
theorem aHe (h:SpOK c g φ a) (hp:(nums a.1).Pairwise (· < ·)):gT a.2.lent p q=a.1.pgs.any λx=>x.lent != 0&&inZ p q x.num:=by
 unfold gT;rw [Bool.eq_iff_iff,List.any_eq_true,List.any_eq_true]
 have mem_of:∀ {m:List (Int × Int)} {k v:Int},m.lookup k=some v->(k,v) ∈ m:=λ{m k v}=>by
  induction m with
  | nil=>intro h;cases h
  | cons y r ih=>
   obtain ⟨y1,y2⟩:=y;intro h;rw [List.lookup_cons] at h;cases e:(k==y1) with
   | true=>
    rw [e] at h;have:k=y1:=by simpa using e
    subst this;simp at h;subst h;simp
   | false=>rw [e] at h;exact List.mem_cons_of_mem _ (ih h)
 have look_of:∀ {m:List (Int × Int)} {k v:Int},(m.map (·.1)).Nodup->(k,v) ∈ m->m.lookup k=some v:=λ{m k v}=>by
  induction m with
  | nil=>intro _ h;cases h
  | cons y r ih=>
   obtain ⟨y1,y2⟩:=y;intro hn h;rw [List.map_cons,List.nodup_cons] at hn;rw [List.lookup_cons];rcases List.mem_cons.1 h with h | h
   ·cases h;simp
   ·have:(k==y1)=false:=by
     simpa using λz:k=y1=>hn.1 (by rw [<-z];exact List.mem_map.2 ⟨_,h,rfl⟩)
    rw [this];exact ih hn.2 h
 constructor
 ·rintro ⟨⟨k,v⟩,h1,h2⟩;have h3:=look_of h.lnd h1;rw [h.lent k] at h3;cases e:pgAt a.1 k with
  | none=>rw [e] at h3;cases h3
  | some y=>
   rw [e] at h3;obtain ⟨y1,y2⟩:=eT e;refine ⟨y,y1,?_⟩;simp only [Option.bind_some] at h3;split at h3
   ·cases h3
   ·rename_i c;unfold inZ;rw [y2];simpa [c] using h2
 ·rintro ⟨y,h1,h2⟩;rw [Bool.and_eq_true] at h2;have h3:=h.lent y.num;rw [jD hp h1] at h3;have c:y.lent≠0:=by simpa using h2.1
  simp only [Option.bind_some,if_neg c] at h3;refine ⟨_,mem_of h3,?_⟩;have:=h2.2;unfold inZ at this;simpa using this
theorem aLp {Q:Bool->AH->Prop} (h:Own (macG c g (ownC a::l)) A) (ho:SpOK c g φ a) (hp:(nums a.1).Pairwise (· < ·)) (hb:a.1.regs.length<=64) (hk:∀ A',Own (macG c g (ownC a::l)) A'->Q (aFy a.1 p q) A'):qfk_A (some ⟨a.2.p,0,none⟩) p q Q A:=by
 obtain ⟨lm,h⟩:=OneS.openH (macG.frontX h);refine aEl h (by omega) λA' h'=>?_;rw [aHe ho hp];exact hk A' (macG.backX (OneS.closeH h'))
end Go.Dn
namespace Go.Dn
variable {A:AH} {l R:List SP} {c:Mc} {g:Sg} {L pre post:List Sc} {M:Mm} {φ:Int->Int} {a:Sc} {s:Sm} {k p id:Int} {x:Pg}
theorem yF {k:Int} {v:Value}:∀ {m:List (Int × Value)},m.lookup k=some v->(m.map (·.1)).Nodup->m.Perm ((k,v)::delM m k)
 | [],h,_=>by cases h
 | x::r,h,hn=>by
  obtain ⟨x1,x2⟩:=x;rw [List.lookup_cons] at h;rw [List.map_cons,List.nodup_cons] at hn;unfold delM;by_cases e:x1=k
  ·rw [if_pos (show ((x1,x2):Int × Value).1=k from e)];rw [show (k==x1)=true by simp [e]] at h;simp only [Option.some.injEq] at h;rw [<-e,<- h]
  ·rw [if_neg (show ¬ ((x1,x2):Int × Value).1=k from e)];rw [show (k==x1)=false by simpa using λz=>e z.symm] at h;exact (List.Perm.cons _ (yF h hn.2)).trans (List.Perm.swap _ _ _)
theorem aHM (h:((pre++a::post).map λx=>x.1.id).Nodup) {i:Int} (hi:i≠a.1.id):lfL φ ((pre++post).map (·.1)) i=lfL φ ((pre++a::post).map (·.1)) i:=by
 unfold lfL
 have:((pre++post).map (·.1)).find? (λs=>s.id==i)=((pre++a::post).map (·.1)).find? (λs=>s.id==i):=by
  rw [List.map_append,List.map_append,List.map_cons,List.find?_append,List.find?_append,List.find?_cons];have:(a.1.id==i)=false:=by simpa using λz=>hi z.symm
  rw [this]
 rw [this]
theorem SgOK.gone (hS:SgOK c g (pre++a::post) M φ) (hp:a.1.pgs=[]) (hinv:InvL ⟨pre.map (·.1)++post.map (·.1),addU M.ns a.1.box (-1),M.keys,M.wd⟩) {ls':List Ln} (hls:aIf g.z a.1.id g.ls ls') {nd:Nd} (n1:g.ns[a.1.box]? = some nd) (n2:nd.live=true) :
  SgOK c { g with F:=λx=>g.F x\/x=a.2.root,G:=λx=>g.G x/\x≠a.2.root,n:=g.n+1,ns:=useN g.ns a.1.box nd (nd.use-1),ls:=ls',z:=jU g.z a.1.id,sps:=delM g.sps a.1.id } (pre++post) ⟨pre.map (·.1)++post.map (·.1),addU M.ns a.1.box (-1),M.keys,M.wd⟩ φ:=by
 have ham:a ∈ pre++a::post:=cmid_iff.2 (.inl rfl);have hone:=hS.one a ham
 have htl:a.2.tl=[a.2.root]:=by
  have h1:=hone.rest.len (ps:=nums a.1) (hS.ps ham);have h0:nums a.1=[]:=by unfold nums;rw [hp];rfl
  rw [h0] at h1;have h2:kY []=1:=rfl;rw [h2] at h1;have hrt:a.2.root ∈ a.2.tl:=(hone.rest.mem _).2 ⟨0,0,(hone.rest.T.root 0 _).2 ⟨rfl,rfl⟩⟩;obtain ⟨z,hz⟩:=List.length_eq_one_iff.1 h1;rw [hz] at hrt ⊢;rw [List.mem_singleton] at hrt;rw [hrt]
 have hfr:frC φ a=[a.2.root]:=by
  unfold frC ownP;rw [hp,htl];rfl
 obtain ⟨o1,o2,o3,o4⟩:=hS.oth;rw [hfr] at o3 o4;have hrG:g.G a.2.root:=(o4 _).2 (.inl (by simp));have hrn:a.2.root ∉ frs c φ (pre++post):=o3 _ (by simp);have hbm:∀ b ∈ pre++post,b ∈ pre++a::post:=λb hb=>cmid_iff.2 (.inr hb)
 have hoK:∀ k ∈ ownK (pre.map (·.1)++post.map (·.1)),k ∈ ownK M.sps:=λk hk=>by
  rw [hS.mem,gX.mem_iff];exact List.mem_append_right _ hk
 have hfin:∀ b ∈ pre++post,∀ f ∈ b.2.tl,f ∈ frs c φ (pre++post):=λb hb f hf=>by
  unfold frs;exact List.mem_cons_of_mem _ (List.mem_cons_of_mem _ (List.mem_flatMap.2 ⟨b,hb,List.mem_append_left _ hf⟩))
 refine ⟨hinv,by simp,?_,?_,?_,o2,λf=>?_,λf=>?_,λb hb=>(hS.one b (hbm b hb)).keep (λ_ _=>rfl) (λf hf=>⟨hS.fr_tl (hbm b hb) hf,λe=>hrn (by rw [<-e];exact hfin b hb f hf)⟩) λ_ _=>rfl,λk hk i=>hS.wd k (hoK k hk) i,hS.kw,hS.pc.drop _,?_,hS.N⟩
 ·show useN g.ns a.1.box nd (nd.use-1)=addU M.ns a.1.box (-1);rw [pV (by rw [<-hS.ns];exact n1),hS.ns];rfl
 ·show g.n+1=sumZ rmN (addU M.ns a.1.box (-1));rw [oQ (by rw [<-hS.ns];exact n1) n2,hS.n];omega
 ·show (delM g.sps a.1.id).Perm (entC (pre++post));have h1:=(hS.lk ham).1
  have hn:((entC (pre++a::post)).map (·.1)).Nodup:=by
   have e:(entC (pre++a::post)).map (·.1)=M.sps.map (·.id):=by
    rw [<-hS.abs];unfold entC;rw [List.map_map,List.map_map];rfl
   rw [e];exact hS.nodupI
  have h2:=yF h1 ((hS.sps.map (·.1)).nodup_iff.2 hn)
  have h3:(entC (pre++a::post)).Perm ((a.1.id,ptrV a.2.p)::entC (pre++post)):=by
   unfold entC;rw [List.map_append,List.map_cons,List.map_append];exact List.perm_middle
  exact (List.perm_cons _).1 (h2.symm.trans (hS.sps.trans h3))
 ·show g.G f/\f≠a.2.root↔_;rw [o4,List.mem_singleton];constructor
  ·rintro ⟨z | z,w⟩
   ·exact absurd z w
   ·exact z
  ·intro z;exact ⟨.inr z,λe=>hrn (by rw [<-e];exact z)⟩
 ·show (g.F f\/f=a.2.root)\/(g.G f/\f≠a.2.root)↔_;rw [<-hS.rng f];constructor
  ·rintro ((z | z) | z)
   ·exact .inl z
   ·exact .inr (by rw [z];exact hrG)
   ·exact .inr z.1
  ·rintro (z | z)
   ·exact .inl (.inl z)
   ·by_cases e:f=a.2.root
    ·exact .inl (.inr e)
    ·exact .inr ⟨z,e⟩
 ·refine LnOK.gone hS.pc hS.ln hls λi hi=>?_;have hn:=hS.nodupI;have e2:M.sps=(pre++a::post).map (·.1):=by rw [hS.mem];simp
  rw [e2,List.map_map] at hn;show lfL φ (pre.map (·.1)++post.map (·.1)) i=lfL φ M.sps i;rw [e2,<- List.map_append];exact aHM hn hi
theorem aFR {Q:Int->AH->Prop} (h:Own (MacS c M φ::R) A) (hM:InvM M) (hs0:findS M id=some s) (hp0:s.pgs=[]) (hk:∀ A',InvM (closeM M id).1->Own (MacS c (closeM M id).1 φ::R) A'->Q (closeM M id).2 A'):qfv_A (some ⟨c.m,0,none⟩) id Q A:=by
 obtain ⟨g,L,hS,h⟩:=MacS.openH h;unfold qfv_A qfv_G;simp only [aH,add_at,Nat.zero_add];have hf:=hs0
 ·obtain ⟨a,pre,post,rfl,rfl,rfl,_⟩:=hS.has hf;have ham:a ∈ pre++a::post:=cmid_iff.2 (.inl rfl);have hsrt:=hS.inv.pgs _ (hS.in_ ham);have h1:=macG.focus h
  have eM:closeM M a.1.id=if aFy a.1 0 34359738368=true then (M,11) else ({ M with sps:=delS M.sps a.1.id,ns:=addU M.ns a.1.box (-costS a.1) },0):=by unfold closeM;rw [hf]
  refine aGo h1 hS ⟨some ⟨a.2.p,0,none⟩,rfl,bsel_f rfl ?_⟩;refine aLp h1 (hS.one a ham) hsrt (hS.regs ham).1 λA4 h5=>?_;refine aG (λhb=>?_) λhb=>?_
  ·rw [eM,if_pos hb] at hk;exact hk A4 hM (MacS.closeH hS (macG.unfocus h5))
  rw [eM,if_neg (by rw [hb];simp)] at hk;simp only [aH,add_at,Nat.zero_add];refine aHL (i:=7) h5 rfl (prs (k:=3) h5 rfl (wG (i:=7) h5 rfl ?_));refine sZ h5 (λf hf=>aBn.2 (by have:=(hS.rng f).1 (.inr hf);omega)) (hS.one a ham).rest λs16 ps A5 hl16 hn16 hrise hpmem h6=>?_;have h6:Own (macG c g (ownC a::SlO s16 1 (intsV ps)::((pre++post).map ownC++R))) A5:=macG.mapR (λC hC=>hC.swap) (macG.backX h6.swap)
  have hps0:ps=[]:=by
   cases ps with
   | nil=>rfl
   | cons n r=>
    have:=(hS.ps ham n).2 ((hpmem n).1 (by simp));unfold nums at this;rw [hp0] at this;cases this
  refine ⟨λx m A'=>x=0/\A'=A5,⟨0,rfl,rfl⟩,λx m A6 ⟨e1,e2⟩=>?_⟩;subst e1 e2;refine bsel_f (by rw [hl16,hps0];rfl) ?_
  ·skip
   obtain ⟨nd,n1,n2,n3,n4,n5⟩:=hS.node ham
   have hc1:costS a.1=1:=by
    have h0:nums a.1=[]:=by unfold nums;rw [hp0];rfl
    have h2:ownP a.1=[]:=by unfold ownP;rw [hp0];rfl
    unfold costS;rw [h0,h2];rfl
   have huse:1<=nd.use:=by
    have hu:=hS.inv.use a.1.box nd (by rw [<-hS.ns];exact n1) n2;have h2:=kS (f:=costB a.1.box) (l:=M.sps) (λs _=>by unfold costB;split;have:=fM (s:=s);omega;exact Int.le_refl _) a.1 (hS.in_ ham);have h3:costB a.1.box a.1=costS a.1:=by unfold costB;rw [if_pos rfl]
    rw [h3,hc1] at h2;split at hu<;>omega
   have hlfn:∀ n,lfS φ a.1 n=none:=λn=>by
    unfold lfS pgAt;rw [hp0];rfl
   have hdel:delS M.sps a.1.id=pre.map (·.1)++post.map (·.1):=by
    have hn:=hS.nodupI;rw [hS.mem] at hn ⊢;exact aGg hn
   have hns:addU M.ns a.1.box (-1)=addU M.ns a.1.box (-costS a.1):=by rw [hc1]
   have hshut:=hM.shut hS.mem λz hz=>by
    rw [hp0] at hz;cases hz
   have hinv:InvL ⟨pre.map (·.1)++post.map (·.1),addU M.ns a.1.box (-1),M.keys,M.wd⟩:=by rw [hns];exact hshut.toInvL
   rw [hdel] at hk
   have fin:∀ ls' A8,aIf g.z a.1.id g.ls ls'->Own (macG c { g with ls:=ls' } (ownC a::SlO s16 1 (intsV ps)::((pre++post).map ownC++R))) A8->
     qft_A (some ⟨c.tg,0,none⟩) a.1.id (λh38=>aI .i64 ⟨a.2.p,1,none⟩ h38 λn40=>qfu_A (some ⟨c.r,0,none⟩) (some ⟨c.b,0,none⟩) (some ⟨c.t,0,none⟩) a.1.box n40 (λn41 h42=>aM ⟨c.m,6,none⟩ h42 λmp44=>o5 h42 mp44 .i64 a.1.id λh45=>Q 0 h45) h38) A8:=λls' A8 hls h8=>by
    have hp6:Own (PcS c.tg g.z::(macG c { g with ls:=ls' } (ownC a::SlO s16 1 (intsV ps)::((pre++post).map ownC++R))).eraseIdx 6) A8:=Own.pick 6 rfl h8;refine aAJ hp6 λA9 h9=>?_;have h9:Own (macG c { g with ls:=ls',z:=jU g.z a.1.id } (ownC a::SlO s16 1 (intsV ps)::((pre++post).map ownC++R))) A9:=Own.back 6 rfl h9;refine wG (i:=7) h9 rfl ?_;refine aCr (i:=a.1.box) h9 n1 n2 huse (λf hf=>aBn.2 (by have:=(hS.rng f).1 (.inr hf);omega)) (hS.one a ham).rest (λ⟨n,hn⟩=>absurd (hlfn n) hn) λ_ A10 h10=>?_;have h10:Own (macG c { g with F:=λx=>g.F x\/x=a.2.root,G:=λx=>g.G x/\x≠a.2.root,n:=g.n+1,ns:=useN g.ns a.1.box nd (nd.use-1),ls:=ls',z:=jU g.z a.1.id } (ownC a::SlO s16 1 (intsV ps)::((pre++post).map ownC++R))) A10:=h10;refine dY (i:=3) h10 rfl rfl (aCI (i:=4) h10 rfl λA11 h11=>?_);have h11:Own (macG c { g with F:=λx=>g.F x\/x=a.2.root,G:=λx=>g.G x/\x≠a.2.root,n:=g.n+1,ns:=useN g.ns a.1.box nd (nd.use-1),ls:=ls',z:=jU g.z a.1.id,sps:=delM g.sps a.1.id } (ownC a::SlO s16 1 (intsV ps)::((pre++post).map ownC++R))) A11:=h11;have hSg:=hS.gone hp0 hinv hls n1 n2;rw [hns] at hSg;exact hk A11 hshut (MacS.closeH hSg (macG.mapR (λC hC=>hC.tail.tail) h11))
   refine ⟨λA'=>∃ ls',aIf g.z a.1.id g.ls ls'/\Own (macG c { g with ls:=ls' } (ownC a::SlO s16 1 (intsV ps)::((pre++post).map ownC++R))) A',λA8 ⟨ls',hls,h8⟩=>?_,?_⟩
   ·exact cO (i:=3) h8 rfl rfl (fin ls' A8 hls h8)
   ·refine cO (i:=3) h6 rfl rfl ?_;refine aFj (macG.pick 6 rfl h6) ?_;cases ht:g.z.tag.lookup a.1.id with
    | none=>exact bsel_f rfl ⟨g.ls,λy hy _=>⟨hy,λz=>by rw [ht] at z;cases z⟩,h6⟩
    | some t=>
     refine aN rfl (cO (i:=3) h6 rfl rfl ?_);refine aEO (macG.tlb h6) λA8 h8=>⟨g.ls.map (wJ t),λy hy hv=>?_,Own.back 5 rfl h8⟩;obtain ⟨w,w1,w2⟩:=List.mem_map.1 hy;unfold wJ at w2;split at w2
     ·rw [<-w2] at hv;cases hv
     ·rename_i c3;rw [<-w2];refine ⟨w1,λz=>?_⟩;rw [ht] at z;cases z;simpa using c3
end Go.Dn
namespace Go.Dn
structure Sp where
 id:Int
 p:Nat
 root:Int
 s:Sl
 regs:List Reg
 lent:List (Int × Int)
 tab:Tab
 lf:Int->Option Lf
 tl:List Int
 bx:Nat
def Sp.own (a:Sp):SP:=OneS a.p a.bx a.root a.s a.regs a.lent
variable {a:Sp}
def Sp.as (a:Sp) (tab:Tab) (lf:Int->Option Lf) (tl:List Int):Sp:={ a with tab:=tab,lf:=lf,tl:=tl }
end Go.Dn
namespace Go.Dn
def Sp.new (id:Int) (p:Nat) (root:Int) (bx:Nat):Sp:=⟨id,p,root,Sl.nil,[],[],tab0 root,λ_=>none,[root],bx⟩
end Go.Dn
namespace Go.Dn
variable {A:AH} {l R:List SP} {P:SP} {k q:Nat} {s:Sl} {L:List Int}
def ivC (L:List Int):List Value:=L.map (.int .i64)
theorem uC (L:List Int):(ivC L).length=L.length:=by simp [ivC]
theorem ivC_one {v:Value} (h:v ∈ ivC L):v.oneCell'=true:=by
 obtain ⟨x,_,rfl⟩:=List.mem_map.1 h;rfl
theorem aJK {v:Nat} {x:Int} (h:L[v]? = some x):(ivC L)[v]? = some (.int .i64 x):=by unfold ivC;rw [List.getElem?_map,h];rfl
theorem dP (h:Own l A) (e:l[k]? = some P) (hr:bI P s 1 (ivC L)):s.len=L.length:=by
 have:=eV h e hr;rw [uC] at this;omega
theorem aD1 {v:Nat} {x:Int} (h:Own l A) (e:l[k]? = some P) (hr:bI P s 1 (ivC L)) (hv:L[v]? = some x):∃ a,s.a=some a/\∀ K:Int->Prop,K x->aI .i64 (Addr.add a v) A K:=by
 obtain ⟨bb,o,q0,c0⟩:=bW h e hr (aJK hv);exact ⟨_,q0,λK hK=>⟨x,by rw [add_at];exact c0,hK⟩⟩
theorem aJg {α:Type} {L:List α} {v:Nat} {z:α} (hz:L[v]? = some z):L.drop v=z::L.drop (v+1):=by
 have hlt:=(List.getElem?_eq_some_iff.1 hz).1;rw [List.drop_eq_getElem_cons hlt];rw [List.getElem?_eq_getElem hlt] at hz;rw [Option.some.inj hz]
theorem sF {x:Int} {Q:Int->AP} (h:Own l A) (e:l[k]? = some P) (hr:bI P s 1 (ivC L)) (hb:L.length<=100000)
  (h0:x ∉ L->Q (-1) A) (h1:∀ v:Nat,L[v]? = some x->x ∉ L.take v->Q v A):qcf_A s x Q A:=by
 have hl:=dP h e hr;unfold qcf_A;refine ⟨λy m A'=>∃ v:Nat,y=v/\m+v=L.length/\A'=A/\x ∉ L.take v,⟨L.length,0,rfl,rfl,rfl,by simp⟩,?_⟩;intro y m A1 ⟨v,e1,e2,e3,e4⟩;subst e1 e3;refine aG (λc=>?_) λc=>?_
 ·have c:(v:Int)<s.len:=of_decide_eq_true c;obtain ⟨z,hz⟩:∃ z,L[v]? = some z:=⟨L[v]'(by omega),by simp⟩;obtain ⟨a,q1,q2⟩:=aD1 h e hr hz;rw [q1];refine inB_in (by omega) c ?_;simp only [Int.toNat_natCast,Nat.mul_one];refine q2 _ (aG (λg=>?_) λg=>?_)
  ·have g:x=z:=eq_of_beq g;exact h1 v (by rw [hz,g]) e4
  ·have g:¬ x=z:=λe=>by rw [e] at g;simp at g
   exact ⟨m-1,by omega,v+1,by rw [bG]<;>omega,by omega,trivial,by rw [yQ hz,List.mem_append];simp [e4,g]⟩
 ·have c:¬ (v:Int)<s.len:=of_decide_eq_false c;refine h0 ?_;rw [List.take_of_length_le (by omega)] at e4;exact e4
theorem vK {x:Int} {Q:Bool->AP} (h:Own l A) (e:l[k]? = some P) (hr:bI P s 1 (ivC L)) (hb:L.length<=100000) (hk:Q (L.contains x) A):qcg_A s x Q A:=by
 unfold qcg_A qcg_G;refine sF h e hr hb (λg=>?_) λv g _=>?_
 ·rw [decide_eq_false (by omega)];have:L.contains x=false:=by simpa using g
  rw [this] at hk;exact hk
 ·rw [decide_eq_true (by omega)];have:L.contains x=true:=by simpa using List.mem_of_getElem? g
  rw [this] at hk;exact hk
theorem fW {Q:Sl->AP} (h:Own l A) (e:l[k]? = some P) (hr:bI P s 1 (ivC L)) (hb:L.length<=100000) (hn:s.a=none->L=[])
  (hk:∀ s' A',(s'.a=none->L=[])->Own (SlO s' 1 (ivC L)::l) A'->Q s' A'):qch_A s Q A:=by
 have hl:=dP h e hr;unfold qch_A;refine aG (λg=>?_) λg=>?_
 ·have g:s.a=none:=by simpa using g
  have hL:=hn g;subst hL;exact hk Sl.nil A (λ_=>rfl) ⟨λ_=>none,A,λ_=>.inl rfl,(λ_ _ e=>nomatch e),lA.refl A,SlO.nil,h⟩
 ·have g:s.a≠none:=λz=>by rw [z] at g;cases g
  refine aX (cs:=[]) h λb1 A1 h1=>?_;have h2:Own (SlO ⟨some ⟨b1,0,none⟩,0,0⟩ 1 []::l) A1:=h1.imp λB _=>⟨⟨by simp,Nat.le_refl _⟩,.inl rfl⟩;refine cN (i:=k) h2 e hr (λz=>absurd z g) (λz=>by cases z) rfl (λv hv=>ivC_one hv) ⟨by simp only [hl];omega,by simp only [hl];omega⟩ λs' A3 j1 j2 h3=>?_;exact hk s' A3 (λz=>by have:=j2 z;simpa [ivC] using this) (by simpa using h3)
theorem aDy {x:Int} {t:TypeId} {K:Sl->AP} (h:Own (SlO s 1 (ivC L)::R) A) (hs:s.a=none->L=[]) (hb:L.length<=100000)
  (hk:∀ s' A',s'.a≠none->Own (SlO s' 1 (ivC (L++[x]))::R) A'->K s' A') :
  aT A (.cells #[.int .i64 x] t) λb h2=>jZ 1 8 #[(.int .i64 (0:Int))] t s (Sl.mk (some (Addr.mk b 0 none)) 1 1) h2 K:=by
 have hl:s.len=L.length:=dP (k:=0) h rfl aU;refine aX (cs:=[.int .i64 x]) h λb A1 h1=>?_;have h1:=h1.swap;refine cN (i:=0) (c1:=ivC L) h1 rfl (fD (n:=1) (sz:=1) (cs:=[.int .i64 x]) (rest:=[]) rfl) (λg=>nomatch g) (λg=>by rw [hs g];rfl) rfl (λv hv=>by simp at hv;subst hv;rfl) ⟨by simp only [hl];omega,by simp only [hl];omega⟩ λs' A2 j1 j2 h2=>?_;refine hk s' A2 (λg=>by have:=j2 g;simp at this) ?_;have:ivC (L++[x])=ivC L++[.int .i64 x]:=by simp [ivC]
 rw [this];exact Own.cons (λC hC=>hC.tail) h2
def QueS (q:Nat) (qn tk:Int) (L:List Int):SP:=λB=>∃ s:Sl,(s.a=none->L=[])/\Own [At q [.int .i64 qn,.int .i64 tk,.slice s.a s.len s.cap],SlO s 1 (ivC L)] B
theorem QueS.openH {qn tk:Int} (h:Own (QueS q qn tk L::R) A):∃ s:Sl,(s.a=none->L=[])/\Own (At q [.int .i64 qn,.int .i64 tk,.slice s.a s.len s.cap]::SlO s 1 (ivC L)::R) A:=by
 obtain ⟨s,h⟩:=h.ex;obtain ⟨hs,h⟩:=h.pure;exact ⟨s,hs,h.flat⟩
theorem QueS.closeH {qn tk:Int} (hs:s.a=none->L=[]) (h:Own (At q [.int .i64 qn,.int .i64 tk,.slice s.a s.len s.cap]::SlO s 1 (ivC L)::R) A):Own (QueS q qn tk L::R) A:=
 (Own.app (l:=[_,_]) h).imp λ_ hB=>⟨s,hs,hB⟩
theorem aEg {qn:Int} {Q:Option Addr->Int->AP} (h:Own l A) (h1:qn<1\/1000<qn->Q none 1 A) (hk:1<=qn->qn<=1000->∀ q A',Own (QueS q qn 0 []::l) A'->Q (some ⟨q,0,none⟩) 0 A'):qbt_A qn Q A:=by
 unfold qbt_A;refine aG (λg=>h1 (.inl (of_decide_eq_true g))) λg=>aG (λg2=>h1 (.inr (of_decide_eq_true g2))) λg2=>?_;have g:=of_decide_eq_false g;have g2:=of_decide_eq_false g2;refine aX (cs:=[.int .i64 qn,.int .i64 0,.slice none 0 0]) h λb A1 h2=>hk (by omega) (by omega) b A1 ?_;have h3:Own (SlO Sl.nil 1 (ivC [])::At b [.int .i64 qn,.int .i64 0,.slice none 0 0]::l) A1:=⟨λ_=>none,A1,λ_=>.inl rfl,(λ_ _ e=>nomatch e),lA.refl A1,SlO.nil,h2⟩;exact QueS.closeH (s:=Sl.nil) (λ_=>rfl) h3.swap
theorem aEZ {p qn tk:Int} {Q:Int->AP} (h:Own (QueS q qn tk L::R) A) (hb:L.length<=10000) (h1:(p<0\/16<=p)->∀ A',Own (QueS q qn tk L::R) A'->Q 1 A')
  (h6:0<=p->p<16->L.contains p=true->∀ A',Own (QueS q qn tk L::R) A'->Q 6 A') (hk:0<=p->p<16->L.contains p=false->∀ A',Own (QueS q qn tk (L++[p])::R) A'->Q 0 A'):qci_A (some ⟨q,0,none⟩) p Q A:=by
 unfold qci_A qci_G;refine ⟨λb A'=>A'=A/\(b=true↔(p<0\/16<=p)),λb A1 ⟨e1,e2⟩=>?_,aG (λg=>⟨rfl,by simp [of_decide_eq_true g]⟩) λg=>⟨rfl,by have:=of_decide_eq_false g;simp only [decide_eq_true_eq];omega⟩⟩;subst e1;refine aG (λg=>h1 (e2.1 g) A1 h) λg=>?_;have g:¬ (p<0\/16<=p):=λz=>by rw [e2.2 z] at g;cases g
 obtain ⟨s,hs,h2⟩:=QueS.openH h;simp only [aF,add_at,Nat.zero_add];refine ld_S (i:=0) h2 rfl rfl (vK (k:=1) h2 rfl aU (by omega) (aG (λc=>h6 (by omega) (by omega) c A1 h) λc=>?_));refine ld_S (i:=0) h2 rfl rfl (fW (k:=1) h2 rfl aU (by omega) hs λs2 A2 hs2 h3=>aDy h3 hs2 (by omega) λs3 A3 hs3 h4=>?_);refine aJ (i:=1) h4 rfl rfl rfl λA4 h5=>hk (by omega) (by omega) c A4 ?_;have h5:Own (SlO s3 1 (ivC (L++[p]))::At q [.int .i64 qn,.int .i64 tk,.slice s3.a s3.len s3.cap]::SlO s 1 (ivC L)::R) A4:=h5;exact QueS.closeH (λz=>absurd z hs3) ((h5.swap).cons λC hC=>hC.cons λD hD=>hD.tail)
theorem xK {qn tk:Int} {Q:Int->Bool->AP} (h:Own (QueS q qn tk L::R) A) (h0:L=[]->Q 0 false A) (h1:∀ x r,L=x::r->Q x true A):qcl_A (some ⟨q,0,none⟩) Q A:=by
 unfold qcl_A;obtain ⟨s,hs,h2⟩:=QueS.openH h;have hl:s.len=L.length:=dP (k:=1) h2 rfl aU;refine ld_S (i:=0) h2 rfl rfl (aG (λg=>h0 ?_) λg=>?_)
 ·have g:(s.len:Int)=0:=eq_of_beq g;exact List.length_eq_zero_iff.1 (by omega)
 ·have g:¬ (s.len:Int)=0:=λe=>by
   have:((Int.ofNat s.len)==(0:Int))=true:=by simpa using e
   rw [this] at g;cases g
  cases L with
  | nil=>simp at hl;omega
  | cons x r=>
   refine ld_S (i:=0) h2 rfl rfl ?_;obtain ⟨a,q1,q2⟩:=aD1 (k:=1) (v:=0) (x:=x) h2 rfl aU rfl;rw [q1];refine inB_in (by omega) (by simp only [List.length_cons] at hl;show (0:Int)<(s.len:Int);omega) ?_;have:=q2 (λn=>Q n true A) (h1 x r rfl);simpa [Addr.add] using this
end Go.Dn
namespace Go.Dn
variable {A:AH} {R:List SP} {br bw b i:Nat} {w:List Int}
structure CallR where
 op:Int
 a:Int:=0
 b:Int:=0
 pw:Bool:=false
 pu:Bool:=false
 px:Bool:=false
 addr:Int:=0
 size:Int:=0
 x:Int:=0
 id:Int:=0
 ra:Int:=0
 rb:Int:=0
 rd:Int:=0
def CallR.cells (c:CallR):List Value:=[.int .i64 c.op,.int .i64 c.a,.int .i64 c.b,.bool c.pw,.bool c.pu,.bool c.px,.int .u64 c.addr,.int .i64 c.size,.int .u64 c.x,.int .i64 c.id,.int .i64 c.ra,.int .i64 c.rb,.int .i64 c.rd]
def iY (x y:Int):Bool:=decide (x<=34359738367)&&(decide (y<=65536)&&(decide (y≠0)&&decide (x+y<=34359738368)))
def spotB (a s:Int):Bool:=decide (a<=140737488355327)&&((s==1 || s==2 || s==4 || s==8)&&decide (a % s=0))
def aBP (s x:Int):Bool:=s==8 || decide (x<2 ^ (8*s.toNat))
def kG (c:CallR) (l:List Int):Option CallR:=if l.all (·==0) then some c else none
def dU (w0 w1 w2 w3 w4 w5:Int):Option CallR:=
  if w0=1\/w0=3 then if iY w1 w2&&decide (w3<=3) then kG { op:=w0,a:=w1,b:=w1+w2,pw:=w3 % 2==1,pu:=true,px:=w3 / 2 % 2==1 } [w4,w5] else none
  else if w0=2 then if iY w1 w2 then kG { op:=w0,a:=w1,b:=w1+w2 } [w3,w4,w5] else none
  else if w0=4 then if spotB w1 w2 then kG { op:=w0,addr:=w1,size:=w2 } [w3,w4,w5] else none
  else if w0=5 then if spotB w1 w2&&aBP w2 w3 then kG { op:=w0,addr:=w1,size:=w2,x:=w3 } [w4,w5] else none
  else if w0=6 then if decide (w1<=34359738367)&&(decide (w2<=15)&&decide (w3<=1)) then kG { op:=w0,a:=w1,b:=w1+1,id:=w2,pw:=w3==1 } [w4,w5] else none
  else if w0=7 then if decide (w1<=255)&&decide (w2<=34359738367) then kG { op:=w0,id:=w1,a:=w2,b:=w2+1 } [w3,w4,w5] else none
  else if w0=8\/w0=9 then if decide (w1<=255) then kG { op:=w0,id:=w1 } [w2,w3,w4,w5] else none
  else if w0=10 then if decide (w1<=140737488355327) then kG { op:=w0,addr:=w1 } [w2,w3,w4,w5] else none
  else if w0=12 then if decide (w1<=1048576) then kG { op:=w0,id:=w1 } [w2,w3,w4,w5] else none
  else if w0=15 then if decide (w1<=7)&&(decide (w2<=3)&&(decide (w3<=3)&&decide (w4<=3))) then kG { op:=w0,id:=1+w1,ra:=w2,rb:=w3,rd:=w4 } [w5] else none
  else if w0=16 then if decide (w1<=3) then kG { op:=w0,id:=w1,x:=w2 } [w3,w4,w5] else none
  else if w0=11\/w0=13\/w0=14 then kG { op:=w0 } [w1,w2,w3,w4,w5]
  else none
def sR:List Int->Option CallR
 | [w0,w1,w2,w3,w4,w5]=>dU w0 w1 w2 w3 w4 w5
 | _=>none
def badV:Value:=.iface aAM (.agg #[])
def rdS (br bw:Nat) (w:List Int) (i:Nat):SP:=Own [At br [.slice (some ⟨bw,min i 5,none⟩) (6-i) (6-i)],At bw (w.map (.int .u64))]
theorem rdS.open (h:Own (rdS br bw w i::R) A):Own (At br [.slice (some ⟨bw,min i 5,none⟩) (6-i) (6-i)]::At bw (w.map (.int .u64))::R) A:=h.flat
theorem rdS.close (h:Own (At br [.slice (some ⟨bw,min i 5,none⟩) (6-i) (6-i)]::At bw (w.map (.int .u64))::R) A):Own (rdS br bw w i::R) A:=Own.app (l:=[_,_]) h
theorem eK {x most:Int} {Q:Int->AP} {Kp:Value->AP} (h:Own (rdS br bw w i::R) A) (hi:i<6) (hx:w[i]? = some x)
  (hq:x<=most->∀ A',Own (rdS br bw w (i+1)::R) A'->Q x A') (hp:most<x->∀ A',Own R A'->Kp badV A'):qcm_A (some ⟨br,0,none⟩) most Q Kp A:=by
 have h:=rdS.open h;unfold qcm_A;have hm:min i 5=i:=by omega
 refine ld_S (i:=0) h rfl rfl (inB_in (by omega) (by simp only;omega) (ld_I (i:=1) (n:=x) h rfl (by rw [hm,List.getElem?_map,hx];rfl) ⟨λA'=>x<=most/\Own (rdS br bw w (i+1)::R) A',λA' hA=>hq hA.1 A' hA.2,?_⟩));refine ld_S (i:=0) h rfl rfl (inB_in (by omega) (by simp only;omega) ?_);simp only [aF];refine aJ (i:=0) h rfl rfl rfl λA' h'=>?_
 have hs:(.slice (if (6-i)=1 then some ⟨bw,min i 5,none⟩ else Option.map (λx=>Addr.add x (1*1)) (some ⟨bw,min i 5,none⟩)) (6-i-1) (6-i-1):Value) = .slice (some ⟨bw,min (i+1) 5,none⟩) (6-(i+1)) (6-(i+1)):=by
  have:i=0\/i=1\/i=2\/i=3\/i=4\/i=5:=by omega
  rcases this with rfl | rfl | rfl | rfl | rfl | rfl<;>rfl
 have h':Own (At br [.slice (some ⟨bw,min (i+1) 5,none⟩) (6-(i+1)) (6-(i+1))]::At bw (w.map (.int .u64))::R) A':=by
  rw [<-hs];exact h'
 refine aG (λg=>hp (of_decide_eq_true g) A' h'.tail.tail) λg=>⟨Int.not_lt.1 (of_decide_eq_false g),rdS.close h'⟩
theorem bL {x below:Int} {Q:Int->AP} {Kp:Value->AP} (h:Own (rdS br bw w i::R) A) (hi:i<6) (hx:w[i]? = some x) (hb:1<=below/\below<=1152921504606846976) (h0:0<=x)
  (hq:x<=below-1->∀ A',Own (rdS br bw w (i+1)::R) A'->Q x A') (hp:below-1<x->∀ A',Own R A'->Kp badV A'):qcn_A (some ⟨br,0,none⟩) below Q Kp A:=by
 unfold qcn_A qcn_G;rw [bG (n:=below-1) (by omega) (by omega),cQ (by omega) (by omega)];refine eK h hi hx (λq A' h'=>?_) hp;rw [bG (by omega) (by omega)];exact hq q A' h'
theorem vW {x y:Int} {Q:Int->Int->AP} {Kp:Value->AP} (h:Own (rdS br bw w i::R) A) (hi:i<5) (hx:w[i]? = some x) (hy:w[i+1]? = some y) (h0:0<=x) (h1:0<=y)
  (hq:iY x y=true->∀ A',Own (rdS br bw w (i+2)::R) A'->Q x (x+y) A') (hp:iY x y=false->∀ A',Own R A'->Kp badV A'):qco_A (some ⟨br,0,none⟩) Q Kp A:=by
 unfold qco_A qco_G;refine bL h (by omega) hx (by omega) h0 (λq1 A1 h1'=>bL h1' (by omega) hy (by omega) h1 (λq2 A2 h2=>?_) λq2=>hp (by unfold iY;simp;omega)) λq1=>hp (by unfold iY;simp;omega);rw [bG (n:=x+1) (by omega) (by omega),bG (n:=x+1+y) (by omega) (by omega),bG (n:=x+1+y-1) (by omega) (by omega)];refine ⟨λA'=>iY x y=true/\Own (rdS br bw w (i+2)::R) A',λA' hA=>?_,?_⟩
 ·rw [show x+1+y-1=x+y by omega];exact hq hA.1 A' hA.2
 ·refine aG (λg=>hp (by have:=eq_of_beq g;unfold iY;simp;omega) A2 h2.tail) λg=>aG (λg2=>hp (by have:=of_decide_eq_true g2;unfold iY;simp;omega) A2 h2.tail) λg2=>⟨?_,h2⟩;have g:¬ (x+1+y-1=x):=λe=>by rw [e] at g;simp at g
  have g2:¬ (x+1+y-1 > 34359738368):=of_decide_eq_false g2;unfold iY;simp;omega
theorem aBt {x:Int} {Q:Int->Int->AP} {Kp:Value->AP} (h:Own (rdS br bw w i::R) A) (hi:i<6) (hx:w[i]? = some x) (h0:0<=x)
  (hq:x<=34359738367->∀ A',Own (rdS br bw w (i+1)::R) A'->Q x (x+1) A') (hp:34359738367<x->∀ A',Own R A'->Kp badV A'):qcr_A (some ⟨br,0,none⟩) Q Kp A:=by
 unfold qcr_A qcr_G;refine bL h hi hx (by omega) h0 (λq A' h'=>?_) λq=>hp (by omega);rw [bG (n:=x+1) (by omega) (by omega)];exact hq (by omega) A' h'
theorem aFc {x:Int} {Q:Bool->Bool->Bool->AP} {Kp:Value->AP} (h:Own (rdS br bw w i::R) A) (hi:i<6) (hx:w[i]? = some x) (h0:0<=x)
  (hq:x<=3->∀ A',Own (rdS br bw w (i+1)::R) A'->Q (x % 2==1) true (x / 2 % 2==1) A') (hp:3<x->∀ A',Own R A'->Kp badV A'):qcp_A (some ⟨br,0,none⟩) Q Kp A:=by
 unfold qcp_A qcp_G;refine eK h hi hx (λq A' h'=>?_) hp;have:x=0\/x=1\/x=2\/x=3:=by omega
 rcases this with rfl | rfl | rfl | rfl<;>exact hq (by omega) A' h'
theorem zF {x y:Int} {c:CallR} {Q:AP} {Kp:Value->AP} (h:Own (rdS br bw w i::At b c.cells::R) A) (hi:i<5) (hx:w[i]? = some x) (hy:w[i+1]? = some y) (h0:0<=x/\x<18446744073709551616) (h1:0<=y)
  (hq:spotB x y=true->∀ A',Own (rdS br bw w (i+2)::At b { c with addr:=x,size:=y }.cells::R) A'->Q A') (hp:spotB x y=false->∀ A',Own R A'->Kp badV A'):qcq_A (some ⟨br,0,none⟩) (some ⟨b,0,none⟩) Q Kp A:=by
 unfold qcq_A qcq_G;refine eK h (by omega) hx (λq1 A1 h1'=>?_) λq1 A' h'=>hp (by unfold spotB;rw [decide_eq_false (by omega)];rfl) A' h'.tail;simp only [aF,add_at,Nat.zero_add];refine aJ (i:=1) h1' rfl rfl rfl λA2 h2=>?_;refine bL h2 (by omega) hy (by omega) h1 (λq2 A3 h3=>?_) λq2 A' h'=>hp (by unfold spotB;simp;omega) A' h'.tail;refine aJ (i:=1) h3 rfl rfl rfl λA4 h4=>?_;have h4:Own (rdS br bw w (i+2)::At b { c with addr:=x,size:=y }.cells::R) A4:=h4;have hR:Own R A4:=h4.tail.tail;refine ld_I (i:=1) h4 rfl rfl (ld_I (i:=1) h4 rfl rfl ?_)
 have fin:(y=1\/y=2\/y=4\/y=8)->bits .and .i64 y (IntKind.wrap .i64 (y-1))=0->IntKind.wrap .u64 y=y->bsel (bits .and .i64 y (IntKind.wrap .i64 (y-1)) != 0) (Kp (.iface 158 (.agg #[])) A4) (aI .i64 ⟨b,7,none⟩ A4 λn18=>bsel (n18==0) (Kp (.iface 158 (.agg #[])) A4) (aI .u64 ⟨b,6,none⟩ A4 λn20=>aI .i64 ⟨b,7,none⟩ A4 λn22=>bsel (IntKind.wrap .u64 n22==0) False (bsel (Int.tmod n20 (IntKind.wrap .u64 n22) != 0) (Kp (.iface 158 (.agg #[])) A4) (Q A4)))):=by
  intro hy4 e1 e2;refine bsel_f (by rw [e1];rfl) (ld_I (i:=1) h4 rfl rfl (bsel_f (by simp;omega) (ld_I (i:=1) h4 rfl rfl (ld_I (i:=1) h4 rfl rfl (bsel_f (by rw [e2];simp;omega) ?_)))));rw [e2,Int.tmod_eq_emod_of_nonneg h0.1];have hsz:(y==1 || y==2 || y==4 || y==8)=true:=by rcases hy4 with rfl | rfl | rfl | rfl<;>rfl
  refine aG (λg=>hp ?_ A4 hR) λg=>hq ?_ A4 h4
  ·have g:¬ x % y=0:=by simpa using g
   unfold spotB;rw [decide_eq_false g];simp
  ·have g:x % y=0:=by simpa using g
   unfold spotB;rw [decide_eq_true (by omega),decide_eq_true g,hsz];rfl
 have no:spotB x y=false->bits .and .i64 y (IntKind.wrap .i64 (y-1))≠0->∀ T,bsel (bits .and .i64 y (IntKind.wrap .i64 (y-1)) != 0) (Kp (.iface 158 (.agg #[])) A4) T:=λhb e1 T=>aN (by simp [e1]) (hp hb A4 hR);have:y=0\/y=1\/y=2\/y=3\/y=4\/y=5\/y=6\/y=7\/y=8:=by omega
 rcases this with rfl | rfl | rfl | rfl | rfl | rfl | rfl | rfl | rfl
 ·exact bsel_f (by show (bits .and .i64 0 (IntKind.wrap .i64 (0-1)) != 0)=false;decide) (ld_I (i:=1) h4 rfl rfl (aN rfl (hp (by unfold spotB;simp) A4 hR)))
 ·exact fin (by omega) rfl rfl
 ·exact fin (by omega) rfl rfl
 ·exact no (by unfold spotB;simp) (by decide) _
 ·exact fin (by omega) rfl rfl
 ·exact no (by unfold spotB;simp) (by decide) _
 ·exact no (by unfold spotB;simp) (by decide) _
 ·exact no (by unfold spotB;simp) (by decide) _
 ·exact fin (by omega) rfl rfl
theorem aEw {Q:AP} {Kp:Value->AP} (hw:w.length=6) (hw0:∀ x ∈ w,0<=x) (hi:i<=6) (h:Own (rdS br bw w i::R) A)
  (hq:(w.drop i).all (·==0)=true->∀ A',Own R A'->Q A') (hp:(w.drop i).all (·==0)=false->∀ A',Own R A'->Kp badV A') :
  ∃ I145:Int->Nat->AH->Prop,(∃ m146,I145 (0:Int) m146 A)/\∀ x149:Int,∀ m146 h148,I145 x149 m146 h148->bsel (decide (x149<(Int.ofNat (6-i))))
   (qcm_A (some ⟨br,0,none⟩) (0:Int) (λ_ h151=>∃ m147,m147<m146/\I145 (IntKind.wrap .i64 (x149+(1:Int))) m147 h151) (λv152 h153=>Kp v152 h153) h148) (Q h148):=by
 refine ⟨λx m A'=>∃ v:Nat,x=v/\m+v=6-i/\(w.drop i).all (·==0)=(w.drop (i+v)).all (·==0)/\Own (rdS br bw w (i+v)::R) A',⟨6-i,0,rfl,rfl,rfl,h⟩,?_⟩;intro x m A1 ⟨v,e1,e2,e3,h1⟩;subst e1;refine aG (λg=>?_) λg=>?_
 ·have g:(v:Int)<((6-i:Nat):Int):=of_decide_eq_true g;obtain ⟨z,hz⟩:∃ z,w[i+v]? = some z:=⟨w[i+v]'(by omega),by simp⟩;have hz0:=hw0 z (List.mem_of_getElem? hz)
  have hd:(w.drop (i+v)).all (·==0)=((z==0)&&(w.drop (i+v+1)).all (·==0)):=by
   obtain ⟨q1,q2⟩:=List.getElem?_eq_some_iff.1 hz;rw [List.drop_eq_getElem_cons q1,q2];rfl
  refine eK h1 (by omega) hz (λq A2 h2=>?_) λq A2 h2=>hp (by rw [e3,hd,beq_false_of_ne (by omega)];rfl) A2 h2;have:z=0:=by omega
  subst this;exact ⟨m-1,by omega,v+1,by rw [bG]<;>omega,by omega,by rw [e3,hd];rfl,by rw [<-Nat.add_assoc];exact h2⟩
 ·have g:¬ (v:Int)<((6-i:Nat):Int):=of_decide_eq_false g;have hv:i+v=6:=by omega
  refine hq ?_ A1 h1.tail;rw [e3,hv,List.drop_eq_nil_of_le (by omega)];rfl
theorem aAh {x:Int} (n:Nat) (h0:0<=x):(Int.fdiv x (2 ^ n) != 0) = !decide (x<2 ^ n):=by
 rw [lE];have hp:(0:Int)<2 ^ n:=Int.pow_pos (by omega);by_cases g:x<2 ^ n
 ·rw [Int.ediv_eq_zero_of_lt h0 g,decide_eq_true g];rfl
 ·have:1<=x / 2 ^ n:=by rw [Int.le_ediv_iff_mul_le hp];omega
  rw [decide_eq_false g];simp;omega
theorem aE0 {w0 w1 w2 w3 w4 w5:Int} {Q:Int->Int->Int->Bool->Bool->Bool->Int->Int->Int->Int->Int->Int->Int->AP} {Kp:Value->AP} (hw:w=[w0,w1,w2,w3,w4,w5]) (hb:∀ x ∈ w,0<=x/\x<18446744073709551616) (h:Own (rdS br bw w 0::R) A)
  (hq:∀ c,sR w=some c->∀ A',Own R A'->Q c.op c.a c.b c.pw c.pu c.px c.addr c.size c.x c.id c.ra c.rb c.rd A') (hp:sR w=none->∀ A',Own R A'->Kp badV A'):qcs_A (some ⟨br,0,none⟩) Q Kp A:=by
 have hl:w.length=6:=by rw [hw];rfl
 have q0:w[0]? = some w0:=by rw [hw];rfl
 have q1:w[1]? = some w1:=by rw [hw];rfl
 have q2:w[2]? = some w2:=by rw [hw];rfl
 have q3:w[3]? = some w3:=by rw [hw];rfl
 have q4:w[4]? = some w4:=by rw [hw];rfl
 have b0:=hb w0 (List.mem_of_getElem? q0);have b1:=hb w1 (List.mem_of_getElem? q1);have b2:=hb w2 (List.mem_of_getElem? q2);have b3:=hb w3 (List.mem_of_getElem? q3);have b4:=hb w4 (List.mem_of_getElem? q4);have hcz:sR w=dU w0 w1 w2 w3 w4 w5:=by rw [hw];rfl
 have dr:∀ i,w.drop i=[w0,w1,w2,w3,w4,w5].drop i:=λi=>by rw [hw]
 unfold dU at hcz;unfold qcs_A qcs_G;refine bL h (by omega) q0 (by omega) b0.1 (λz0 A1 h1=>?_) λz0=>hp (by rw [hcz];repeat rw [if_neg (by omega)])
 refine aX (cs:=({ op:=0 }:CallR).cells) h1 λb A2 h2=>?_
 refine aJ (i:=0) h2 rfl rfl rfl λ_ h3=>aJ (i:=0) h3 rfl rfl rfl λ_ h3=>aJ (i:=0) h3 rfl rfl rfl λ_ h3=>aJ (i:=0) h3 rfl rfl rfl λ_ h3=>aJ (i:=0) h3 rfl rfl rfl λ_ h3=>aJ (i:=0) h3 rfl rfl rfl λ_ h3=>
  aJ (i:=0) h3 rfl rfl rfl λ_ h3=>aJ (i:=0) h3 rfl rfl rfl λ_ h3=>aJ (i:=0) h3 rfl rfl rfl λ_ h3=>aJ (i:=0) h3 rfl rfl rfl λ_ h3=>aJ (i:=0) h3 rfl rfl rfl λ_ h3=>aJ (i:=0) h3 rfl rfl rfl λ_ h3=>aJ (i:=0) h3 rfl rfl rfl λA3 h3=>?_
 have h3:Own (At b ({ op:=w0 }:CallR).cells::rdS br bw w 1::R) A3:=h3;have h3:=h3.swap;clear h h1 h2;simp only [add_at,Nat.zero_add];have out:∀ (i:Nat) (c:CallR) (A':AH),i<=6->sR w=kG c ([w0,w1,w2,w3,w4,w5].drop i)->Own (rdS br bw w i::At b c.cells::R) A'->∃ (i:Nat) (c:CallR),i<=6/\sR w=kG c (w.drop i)/\Own (rdS br bw w i::At b c.cells::R) A':=λi c A' k1 k2 k3=>⟨i,c,k1,by rw [dr];exact k2,k3⟩;refine ⟨λA'=>∃ (i:Nat) (c:CallR),i<=6/\sR w=kG c (w.drop i)/\Own (rdS br bw w i::At b c.cells::R) A',λA4 ⟨i,c,k1,k2,k3⟩=>?_,?_⟩
 ·have k4:=rdS.open k3;refine ld_S (i:=0) k4 rfl rfl ?_;refine aEw hl (λx hx=>(hb x hx).1) k1 k3 (λz A5 h5=>?_) λz A5 h5=>hp (by rw [k2];unfold kG;rw [z];rfl) A5 h5.tail;have:=hq c (by rw [k2];unfold kG;rw [z];rfl) A5 h5.tail;exact ld_I (i:=0) h5 rfl rfl (ld_I (i:=0) h5 rfl rfl (ld_I (i:=0) h5 rfl rfl (aY (i:=0) h5 rfl rfl (aY (i:=0) h5 rfl rfl (aY (i:=0) h5 rfl rfl (ld_I (i:=0) h5 rfl rfl (ld_I (i:=0) h5 rfl rfl (ld_I (i:=0) h5 rfl rfl (ld_I (i:=0) h5 rfl rfl (ld_I (i:=0) h5 rfl rfl (ld_I (i:=0) h5 rfl rfl (ld_I (i:=0) h5 rfl rfl this))))))))))))
 have kp:∀ A',sR w=none->Own (At b ({ op:=w0 }:CallR).cells::R) A'->Kp badV A':=λA' z h'=>hp z A' h'.tail;refine ld_I (i:=1) h3 rfl rfl ⟨λbb A'=>A'=A3/\bb=(w0==1 || w0==3),λbb A4 ⟨e1,e2⟩=>?_,aG (λg=>⟨rfl,by simp only at g ⊢;rw [g];rfl⟩) λg=>⟨rfl,by simp only at g ⊢;rw [g];rfl⟩⟩
 subst e1 e2;refine aG (λg=>?_) λg=>?_
 ·have g:w0=1\/w0=3:=by simpa using g
  rw [if_pos g] at hcz;refine vW h3 (by omega) q1 q2 b1.1 b2.1 (λz A5 h5=>?_) λz A5 h5=>kp A5 (by rw [hcz,z];rfl) h5;rw [z,Bool.true_and] at hcz;refine aFc h5 (by omega) q3 b3.1 (λz A6 h6=>?_) λz A5 h5=>kp A5 (by rw [hcz,if_neg (by simp;omega)]) h5;rw [if_pos (by simp;omega)] at hcz;refine aJ (i:=1) h6 rfl rfl rfl λ_ h6=>aJ (i:=1) h6 rfl rfl rfl λ_ h6=>aJ (i:=1) h6 rfl rfl rfl λ_ h6=>aJ (i:=1) h6 rfl rfl rfl λ_ h6=>aJ (i:=1) h6 rfl rfl rfl λA7 h7=>?_;exact out 4 _ _ (by omega) hcz h7
 have g:¬ (w0=1\/w0=3):=by simpa using g
 rw [if_neg g] at hcz;refine aG (λg2=>?_) λg2=>?_
 ·have g2:w0=2:=eq_of_beq g2;rw [if_pos g2] at hcz;refine vW h3 (by omega) q1 q2 b1.1 b2.1 (λz A5 h5=>?_) λz A5 h5=>kp A5 (by rw [hcz,z];rfl) h5;rw [if_pos z] at hcz;refine aJ (i:=1) h5 rfl rfl rfl λ_ h6=>aJ (i:=1) h6 rfl rfl rfl λA7 h7=>?_;exact out 3 _ _ (by omega) hcz h7
 have g2:¬ w0=2:=λe=>by simp [e] at g2
 rw [if_neg g2] at hcz;refine aG (λg3=>?_) λg3=>?_
 ·have g3:w0=4:=eq_of_beq g3;rw [if_pos g3] at hcz;refine zF h3 (by omega) q1 q2 b1 b2.1 (λz A5 h5=>?_) λz A5 h5=>hp (by rw [hcz,z];rfl) A5 h5;rw [if_pos z] at hcz;exact out 3 _ _ (by omega) hcz h5
 have g3:¬ w0=4:=λe=>by simp [e] at g3
 rw [if_neg g3] at hcz;refine aG (λg4=>?_) λg4=>?_
 ·have g4:w0=5:=eq_of_beq g4;rw [if_pos g4] at hcz;refine zF h3 (by omega) q1 q2 b1 b2.1 (λz A5 h5=>?_) λz A5 h5=>hp (by rw [hcz,z];rfl) A5 h5;rw [z,Bool.true_and] at hcz;refine eK h5 (by omega) q3 (λ_ A6 h6=>?_) λz=>by omega
  refine aJ (i:=1) h6 rfl rfl rfl λA7 h7=>?_
  have hs:w2=1\/w2=2\/w2=4\/w2=8:=by
   unfold spotB at z;simp at z;omega
  have good:aBP w2 w3=true->∃ i c,i<=6/\sR w=kG c (w.drop i)/\Own (rdS br bw w i::At b c.cells::R) A7:=λz=>by
   rw [if_pos z] at hcz;exact out 4 _ _ (by omega) hcz h7
  refine ld_I (i:=1) h7 rfl rfl (aG (λz=>?_) λz=>?_)
  ·have z:w2<8:=of_decide_eq_true z;refine ld_I (i:=1) h7 rfl rfl (ld_I (i:=1) h7 rfl rfl ?_);simp only;have hn:IntKind.wrap .i64 (8*w2)=8*w2:=by rw [bG]<;>omega
   rw [hn];refine bsel_f (by simp;omega) ?_
   have key:(Int.fdiv w3 (2 ^ min (Int.toNat (8*w2)) 64) != 0) = !(decide (w3<2 ^ (8*w2.toNat))):=by
    rcases hs with rfl | rfl | rfl | rfl
    ·exact aAh 8 b3.1
    ·exact aAh 16 b3.1
    ·exact aAh 32 b3.1
    ·omega
   rw [key]
   have hf:aBP w2 w3=decide (w3<2 ^ (8*w2.toNat)):=by
    unfold aBP;have:(w2==8)=false:=by simp;omega
    rw [this,Bool.false_or]
   refine aG (λy=>?_) λy=>good ?_
   ·refine hp ?_ A7 h7.tail.tail;rw [hcz,hf];have:decide (w3<2 ^ (8*w2.toNat))=false:=by simpa using y
    rw [this];rfl
   ·rw [hf];simpa using y
  ·have z:¬ w2<8:=of_decide_eq_false z;refine good ?_;have:w2=8:=by omega
   unfold aBP;rw [this];rfl
 have g4:¬ w0=5:=λe=>by simp [e] at g4
 rw [if_neg g4] at hcz;refine aG (λg5=>?_) λg5=>?_
 ·have g5:w0=6:=eq_of_beq g5;rw [if_pos g5] at hcz;refine aBt h3 (by omega) q1 b1.1 (λz A5 h5=>bL h5 (by omega) q2 (by omega) b2.1 (λz2 A6 h6=>?_) λz2 A5 h5=>kp A5 (by rw [hcz,if_neg (by simp;omega)]) h5) λz A5 h5=>kp A5 (by rw [hcz,if_neg (by simp;omega)]) h5;refine aJ (i:=1) h6 rfl rfl rfl λ_ h6=>aJ (i:=1) h6 rfl rfl rfl λ_ h6=>aJ (i:=1) h6 rfl rfl rfl λA7 h7=>?_;refine eK h7 (by omega) q3 (λz3 A8 h8=>?_) λz A5 h5=>hp (by rw [hcz,if_neg (by simp;omega)]) A5 h5.tail;rw [if_pos (by simp;omega)] at hcz;refine aJ (i:=1) h8 rfl rfl rfl λA9 h9=>?_;exact out 4 _ _ (by omega) hcz h9
 have g5:¬ w0=6:=λe=>by simp [e] at g5
 rw [if_neg g5] at hcz;refine aG (λg6=>?_) λg6=>?_
 ·have g6:w0=7:=eq_of_beq g6;rw [if_pos g6] at hcz;refine bL h3 (by omega) q1 (by omega) b1.1 (λz A5 h5=>aBt h5 (by omega) q2 b2.1 (λz2 A6 h6=>?_) λz2 A5 h5=>kp A5 (by rw [hcz,if_neg (by simp;omega)]) h5) λz A5 h5=>kp A5 (by rw [hcz,if_neg (by simp;omega)]) h5;rw [if_pos (by simp;omega)] at hcz;refine aJ (i:=1) h6 rfl rfl rfl λ_ h6=>aJ (i:=1) h6 rfl rfl rfl λ_ h6=>aJ (i:=1) h6 rfl rfl rfl λA7 h7=>?_;exact out 3 _ _ (by omega) hcz h7
 have g6:¬ w0=7:=λe=>by simp [e] at g6
 rw [if_neg g6] at hcz;refine ⟨λbb A'=>A'=A4/\bb=(w0==8 || w0==9),λbb A5 ⟨e1,e2⟩=>?_,aG (λg=>⟨rfl,by simp only at g ⊢;rw [g];rfl⟩) λg=>⟨rfl,by simp only at g ⊢;rw [g];rfl⟩⟩
 subst e1 e2;refine aG (λg7=>?_) λg7=>?_
 ·have g7:w0=8\/w0=9:=by simpa using g7
  rw [if_pos g7] at hcz;refine bL h3 (by omega) q1 (by omega) b1.1 (λz A6 h6=>?_) λz A5 h5=>kp A5 (by rw [hcz,if_neg (by simp;omega)]) h5;rw [if_pos (by simp;omega)] at hcz;refine aJ (i:=1) h6 rfl rfl rfl λA7 h7=>?_;exact out 2 _ _ (by omega) hcz h7
 have g7:¬ (w0=8\/w0=9):=by simpa using g7
 rw [if_neg g7] at hcz;refine aG (λg8=>?_) λg8=>?_
 ·have g8:w0=10:=eq_of_beq g8;rw [if_pos g8] at hcz;refine eK h3 (by omega) q1 (λz A6 h6=>?_) λz A5 h5=>kp A5 (by rw [hcz,if_neg (by simp;omega)]) h5;rw [if_pos (by simp;omega)] at hcz;refine aJ (i:=1) h6 rfl rfl rfl λA7 h7=>?_;exact out 2 _ _ (by omega) hcz h7
 have g8:¬ w0=10:=λe=>by simp [e] at g8
 rw [if_neg g8] at hcz;refine aG (λg9=>?_) λg9=>?_
 ·have g9:w0=12:=eq_of_beq g9;rw [if_pos g9] at hcz;refine bL h3 (by omega) q1 (by omega) b1.1 (λz A6 h6=>?_) λz A5 h5=>kp A5 (by rw [hcz,if_neg (by simp;omega)]) h5;rw [if_pos (by simp;omega)] at hcz;refine aJ (i:=1) h6 rfl rfl rfl λA7 h7=>?_;exact out 2 _ _ (by omega) hcz h7
 have g9:¬ w0=12:=λe=>by simp [e] at g9
 rw [if_neg g9] at hcz;refine aG (λg10=>?_) λg10=>?_
 ·have g10:w0=15:=eq_of_beq g10;rw [if_pos g10] at hcz;refine bL h3 (by omega) q1 (by omega) b1.1 (λz1 A6 h6=>?_) λz A5 h5=>kp A5 (by rw [hcz,if_neg (by simp;omega)]) h5;refine bL h6 (by omega) q2 (by omega) b2.1 (λz2 A6 h6=>?_) λz A5 h5=>kp A5 (by rw [hcz,if_neg (by simp;omega)]) h5;refine bL h6 (by omega) q3 (by omega) b3.1 (λz3 A6 h6=>?_) λz A5 h5=>kp A5 (by rw [hcz,if_neg (by simp;omega)]) h5;refine bL h6 (by omega) q4 (by omega) b4.1 (λz4 A6 h6=>?_) λz A5 h5=>kp A5 (by rw [hcz,if_neg (by simp;omega)]) h5;rw [if_pos (by simp;omega)] at hcz;rw [bG (n:=1+w1) (by omega) (by omega)];refine aJ (i:=1) h6 rfl rfl rfl λ_ h6=>aJ (i:=1) h6 rfl rfl rfl λ_ h6=>aJ (i:=1) h6 rfl rfl rfl λ_ h6=>aJ (i:=1) h6 rfl rfl rfl λA7 h7=>?_;exact out 5 _ _ (by omega) hcz h7
 have g10:¬ w0=15:=λe=>by simp [e] at g10
 rw [if_neg g10] at hcz;refine aG (λg11=>?_) λg11=>?_
 ·have g11:w0=16:=eq_of_beq g11;rw [if_pos g11] at hcz;refine bL h3 (by omega) q1 (by omega) b1.1 (λz A6 h6=>?_) λz A5 h5=>kp A5 (by rw [hcz,if_neg (by simp;omega)]) h5;rw [if_pos (by simp;omega)] at hcz;refine eK h6 (by omega) q2 (λ_ A7 h7=>?_) λz=>by omega
  refine aJ (i:=1) h7 rfl rfl rfl λ_ h7=>aJ (i:=1) h7 rfl rfl rfl λA8 h8=>?_;exact out 3 _ _ (by omega) hcz h8
 have g11:¬ w0=16:=λe=>by simp [e] at g11
 rw [if_neg g11] at hcz;refine ⟨λbb A'=>A'=A5/\bb=(w0==11 || (w0==13 || w0==14)),λbb A6 ⟨e1,e2⟩=>?_,aG (λg=>⟨rfl,by simp only at g ⊢;rw [g];rfl⟩) λg=>aG (λg'=>⟨rfl,by simp only at g g' ⊢;rw [g,g'];rfl⟩) λg'=>⟨rfl,by simp only at g g' ⊢;rw [g,g'];rfl⟩⟩
 subst e1 e2;refine aG (λg12=>?_) λg12=>?_
 ·have g12:w0=11\/w0=13\/w0=14:=by simpa using g12
  rw [if_pos g12] at hcz;exact out 1 _ _ (by omega) hcz h3
 ·have g12:¬ (w0=11\/w0=13\/w0=14):=by simpa using g12
  rw [if_neg g12] at hcz;exact hp hcz A6 h3.tail.tail
end Go.Dn
namespace Go.Dn
variable {A:AH} {l:List SP}
theorem aEa {w0 w1 w2 w3 w4 w5:Int} {Q:Int->Int->Int->Bool->Bool->Bool->Int->Int->Int->Int->Int->Int->Int->Int->AP} (hb:∀ x ∈ [w0,w1,w2,w3,w4,w5],0<=x/\x<18446744073709551616) (h:Own l A)
  (hq:∀ c,dU w0 w1 w2 w3 w4 w5=some c->∀ A',Own l A'->Q c.op c.a c.b c.pw c.pu c.px c.addr c.size c.x c.id c.ra c.rb c.rd 0 A') (hp:dU w0 w1 w2 w3 w4 w5=none->∀ A',Own l A'->Q 0 0 0 false false false 0 0 0 0 0 0 0 13 A'):qcu_A w0 w1 w2 w3 w4 w5 Q A:=by
 unfold qcu_A qcu_G;refine aX (cs:=[w0,w1,w2,w3,w4,w5].map (.int .u64)) h λbw A1 h1=>aX (cs:=({ op:=0 }:CallR).cells) h1 λb3 A2 h2=>aX (cs:=[.int .i64 0]) h2 λb5 A3 h3=>aX (cs:=[.slice (some ⟨bw,0,none⟩) 6 6]) h3 λbr A4 h4=>?_
 have h5:Own (rdS br bw [w0,w1,w2,w3,w4,w5] 0::At b3 ({ op:=0 }:CallR).cells::At b5 [.int .i64 0]::l) A4:=by
  have:Own (At br [.slice (some ⟨bw,0,none⟩) 6 6]::At bw ([w0,w1,w2,w3,w4,w5].map (.int .u64))::At b3 ({ op:=0 }:CallR).cells::At b5 [.int .i64 0]::l) A4:=
   h4.perm (List.Perm.cons _ (by
    refine List.Perm.trans (List.Perm.swap _ _ _) ?_;refine List.Perm.trans (List.Perm.cons _ (List.Perm.swap _ _ _)) ?_;exact List.Perm.swap _ _ _))
  exact rdS.close this
 refine aE0 rfl hb h5 (λc hc A5 h6=>?_) λhc A5 h6=>?_
 ·simp only [add_at,Nat.zero_add]
  refine aJ (i:=0) h6 rfl rfl rfl λ_ h6=>aJ (i:=0) h6 rfl rfl rfl λ_ h6=>aJ (i:=0) h6 rfl rfl rfl λ_ h6=>aJ (i:=0) h6 rfl rfl rfl λ_ h6=>aJ (i:=0) h6 rfl rfl rfl λ_ h6=>aJ (i:=0) h6 rfl rfl rfl λ_ h6=>
   aJ (i:=0) h6 rfl rfl rfl λ_ h6=>aJ (i:=0) h6 rfl rfl rfl λ_ h6=>aJ (i:=0) h6 rfl rfl rfl λ_ h6=>aJ (i:=0) h6 rfl rfl rfl λ_ h6=>aJ (i:=0) h6 rfl rfl rfl λ_ h6=>aJ (i:=0) h6 rfl rfl rfl λ_ h6=>aJ (i:=0) h6 rfl rfl rfl λ_ h6=>aJ (i:=1) h6 rfl rfl rfl λA7 h7=>?_
  have h7:Own (At b3 c.cells::At b5 [.int .i64 0]::l) A7:=h7;unfold qct_nA
  exact ld_I (i:=0) h7 rfl rfl (ld_I (i:=0) h7 rfl rfl (ld_I (i:=0) h7 rfl rfl (aY (i:=0) h7 rfl rfl (aY (i:=0) h7 rfl rfl (aY (i:=0) h7 rfl rfl (ld_I (i:=0) h7 rfl rfl (ld_I (i:=0) h7 rfl rfl (ld_I (i:=0) h7 rfl rfl (ld_I (i:=0) h7 rfl rfl (ld_I (i:=0) h7 rfl rfl (ld_I (i:=0) h7 rfl rfl (ld_I (i:=0) h7 rfl rfl
   (ld_I (i:=1) h7 rfl rfl (hq c hc A7 h7.tail.tail))))))))))))))
 ·show qct_pA (some ⟨b3,0,none⟩) (some ⟨b5,0,none⟩) _ A5;unfold qct_pA;simp only [add_at,Nat.zero_add,aF]
  refine aJ (i:=0) h6 rfl rfl rfl λ_ h6=>aJ (i:=0) h6 rfl rfl rfl λ_ h6=>aJ (i:=0) h6 rfl rfl rfl λ_ h6=>aJ (i:=0) h6 rfl rfl rfl λ_ h6=>aJ (i:=0) h6 rfl rfl rfl λ_ h6=>aJ (i:=0) h6 rfl rfl rfl λ_ h6=>
   aJ (i:=0) h6 rfl rfl rfl λ_ h6=>aJ (i:=0) h6 rfl rfl rfl λ_ h6=>aJ (i:=0) h6 rfl rfl rfl λ_ h6=>aJ (i:=0) h6 rfl rfl rfl λ_ h6=>aJ (i:=0) h6 rfl rfl rfl λ_ h6=>aJ (i:=0) h6 rfl rfl rfl λ_ h6=>aJ (i:=0) h6 rfl rfl rfl λ_ h6=>aJ (i:=1) h6 rfl rfl rfl λA7 h7=>?_
  have h7:Own (At b3 ({ op:=0 }:CallR).cells::At b5 [.int .i64 13]::l) A7:=h7
  exact ld_I (i:=0) h7 rfl rfl (ld_I (i:=0) h7 rfl rfl (ld_I (i:=0) h7 rfl rfl (aY (i:=0) h7 rfl rfl (aY (i:=0) h7 rfl rfl (aY (i:=0) h7 rfl rfl (ld_I (i:=0) h7 rfl rfl (ld_I (i:=0) h7 rfl rfl (ld_I (i:=0) h7 rfl rfl (ld_I (i:=0) h7 rfl rfl (ld_I (i:=0) h7 rfl rfl (ld_I (i:=0) h7 rfl rfl (ld_I (i:=0) h7 rfl rfl
   (ld_I (i:=1) h7 rfl rfl (hp hc A7 h7.tail.tail))))))))))))))
end Go.Dn
