/- What is asked over a part of the heap is enough for the whole: code. -/
import Derived.Test.YtfnkdpmbpgffbaaGreatDnU
namespace Go.Dn
def AnnA.h:AnnA->Ann
 | .leaf=>.leaf
 | .draw k=>.draw k
 | .drawS ord _=>.drawS ord
 | .seq j a b=>.seq (match j with | some J=>some J.h | none=>none) a.h b.h
 | .cond a b=>.cond a.h b.h
 | .block a=>.block a.h
 | .loop j a=>.loop j.h a.h
theorem kL {e:Env} {t:Nat}:∀ (l:List Nat),look (keepE e l) t=if t ∈ l then look e t else none
 | []=>by simp [keepE,look]
 | x::r=>by
  unfold keepE;cases g:look e x with
  | none=>
   simp only;rw [kL r];by_cases h:t=x
   .simp_all
   .simp [h]
  | some v=>
   simp only;rw [aO,kL r];by_cases h:x=t
   .simp_all
   .grind
theorem oG {e:Bvs} {t:Nat}:∀ (l:List Nat),lookB (keepB e l) t=if t ∈ l then lookB e t else none
 | []=>by simp [keepB,lookB]
 | x::r=>by
  unfold keepB;cases g:lookB e x with
  | none=>
   simp only;rw [oG r];by_cases h:t=x
   .simp_all
   .simp [h]
  | some v=>
   simp only;rw [dF,oG r];by_cases h:x=t
   .simp_all
   .grind
theorem tE {e:Bvs} {i:Nat}:∀ {l:List Nat},i ∈ keptI e l↔∃ t ∈ l,∃ o,lookB e t=some (i,o)
 | []=>by simp [keptI]
 | x::r=>by
  unfold keptI;cases g:lookB e x with
  | none=>
   simp only;rw [tE];constructor
   .simp_all
   .simp_all
  | some p=>
   simp only [List.mem_cons];rw [tE];constructor
   .grind
   .grind
theorem iI {ids:List Nat} {i:Nat}:∀ {l:Bxs},lookX (keepX ids l) i=if i ∈ ids then lookX l i else none
 | []=>by simp [keepX,lookX]
 | (d,p)::r=>by
  unfold keepX;cases g:memN d ids with
  | true=>
   simp only;rw [bH,bH,iI];by_cases h:d=i
   .subst h;simp [eF.1 g]
   .simp [h]
  | false=>
   simp only;rw [bH,iI];by_cases h:d=i
   .subst h;simp [hP.1 g]
   .simp [h]
theorem oM {ids:List Nat}:∀ {l:Bxs},(keepX ids l).Sublist l
 | []=>.slnil
 | (d,p)::r=>by
  unfold keepX;split
  .exact oM.cons_cons _
  .exact oM.cons _
theorem aFb {bx:Bxs}:∀ {l:List Nat},aHY bx l=true->∀ i ∈ l,∃ p,lookX bx i=some p
 | [],_,_,h=>by simp at h
 | x::r,h,i,hi=>by
  unfold aHY at h;split at h
  .rename_i p g;rcases List.mem_cons.1 hi with rfl | hi
   .simp_all
   .exact aFb h i hi
  .cases h
abbrev Cl:=List (Nat × (Nat × CK))
theorem dH {i j:Nat}:∀ {cl:Cl},memC i j cl=true↔∃ c ∈ cl,c.1=i/\c.2.1=j
 | []=>by simp [memC]
 | c::r=>by
  unfold memC;cases g:Nat.beq c.1 i&&Nat.beq c.2.1 j with
  | true=>
   rw [Bool.and_eq_true] at g;simp only [true_iff];exact ⟨c,List.mem_cons_self,lX.1 g.1,lX.1 g.2⟩
  | false=>
   simp only;rw [dH];constructor
   .simp_all
   .rintro ⟨x,a,b⟩;rcases List.mem_cons.1 a with rfl | a
    .simp_all
    .grind
theorem fR:∀ {cl:Cl} {vs:List Value} {bx:Bxs},(putCells bx cl vs).map (·.1)=bx.map (·.1)
 | [],_,bx=>by unfold putCells;rfl
 | _::_,[],bx=>by unfold putCells;rfl
 | c::r,v::vs,bx=>by
  unfold putCells;split
  .rw [fR,jI]
  .exact fR
def aKF (cl:Cl) (a b:Bxs):Prop:=a.map (·.1)=b.map (·.1)/\∀ i cs ty,lookX a i=some (cs,ty)->∃ cs',lookX b i=some (cs',ty)/\cs'.length=cs.length/\∀ j,memC i j cl=false->cs'[j]? = cs[j]?
theorem sW {i j:Nat} {c:Nat × (Nat × CK)} {r:Cl} (h:memC i j (c::r)=false):memC i j r=false/\¬(c.1=i/\c.2.1=j):=by
 constructor
 .cases q:memC i j r with
  | false=>rfl
  | true=>
   obtain ⟨x,a,b⟩:=dH.1 q;have:memC i j (c::r)=true:=dH.2 ⟨x,List.mem_cons_of_mem _ a,b⟩;rw [this] at h;cases h
 .intro e;have:memC i j (c::r)=true:=dH.2 ⟨c,List.mem_cons_self,e⟩;rw [this] at h;cases h
theorem tC {i j:Nat} {c:Nat × (Nat × CK)} {r:Cl} (h:memC i j r=false) (d:¬(c.1=i/\c.2.1=j)):memC i j (c::r)=false:=by
 cases q:memC i j (c::r) with
 | false=>rfl
 | true=>
  obtain ⟨x,a,b⟩:=dH.1 q;rcases List.mem_cons.1 a with rfl | a
  .omega
  .have:memC i j r=true:=dH.2 ⟨x,a,b⟩;rw [this] at h;cases h
theorem o6 {a b:Bxs} (h:a.map (·.1)=b.map (·.1)) (i:Nat):lookX a i=none↔lookX b i=none:=by rw [eB,eB,h]
theorem jE:∀ {cl:Cl} {vs:List Value} {bx:Bxs},aKF cl bx (putCells bx cl vs)
 | [],_,bx=>by unfold putCells;exact ⟨rfl,λi cs ty h=>⟨cs,h,rfl,λ_ _=>rfl⟩⟩
 | _::_,[],bx=>by unfold putCells;exact ⟨rfl,λi cs ty h=>⟨cs,h,rfl,λ_ _=>rfl⟩⟩
 | c::r,v::vs,bx=>by
  unfold putCells;split
  .rename_i b n o;obtain ⟨p,m⟩:=jE (cl:=r) (vs:=vs) (bx:=setX bx c.1 (b.set c.2.1 v));refine ⟨by rw [<-p,jI],λi cs ty h=>?_⟩;by_cases g:c.1=i
   .subst g;have q:lookX (setX bx c.1 (b.set c.2.1 v)) c.1=some (b.set c.2.1 v,n):=by rw [eY o,if_pos rfl]
    rw [o] at h;cases h;obtain ⟨a,d,f,k⟩:=m _ _ _ q;refine ⟨a,d,by rw [f];simp,λj l=>?_⟩;obtain ⟨s,t⟩:=sW l;rw [k j s,List.getElem?_set_ne (λe=>t ⟨rfl,e⟩)]
   .have q:lookX (setX bx c.1 (b.set c.2.1 v)) i=some (cs,ty):=by rw [eY o,if_neg g];exact h
    obtain ⟨a,d,f,k⟩:=m _ _ _ q;exact ⟨a,d,f,λj l=>k j (sW l).1⟩
  .obtain ⟨p,m⟩:=jE (cl:=r) (vs:=vs) (bx:=bx);refine ⟨p,λi cs ty h=>?_⟩;obtain ⟨a,d,f,k⟩:=m _ _ _ h;exact ⟨a,d,f,λj l=>k j (sW l).1⟩
theorem aAy:∀ {a b:Bxs},a.map (·.1)=b.map (·.1)->(a.map (·.1)).Nodup->(∀ i,lookX a i=lookX b i)->a=b
 | [],[],_,_,_=>rfl
 | [],_::_,h,_,_=>by simp at h
 | _::_,[],h,_,_=>by simp at h
 | (d,p)::a,(e,q)::b,h,nd,hl=>by
  simp only [List.map_cons,List.cons.injEq] at h;obtain ⟨rfl,h⟩:=h;have f:=hl d;rw [bH,if_pos rfl,bH,if_pos rfl] at f;cases f;have c:=List.nodup_cons.1 nd;congr 1;refine aAy h c.2 λi=>?_;by_cases g:d=i
  .subst g;rw [eB.2 c.1,eB.2 (by simp_all)]
  .have:=hl i;rw [bH,if_neg g,bH,if_neg g] at this;exact this
theorem kC:∀ {cl:Cl} {vs:List Value} {a b:Bxs},aKF cl a b->cl.length=vs.length->(a.map (·.1)).Nodup->putCells a cl vs=putCells b cl vs
 | [],vs,a,b,h,_,nd=>by
  unfold putCells;refine aAy h.1 nd λi=>?_;cases g:lookX a i with
  | none=>exact ((o6 h.1 i).1 g).symm
  | some p=>
   obtain ⟨cs,ty⟩:=p;obtain ⟨d,f,l,k⟩:=h.2 i cs ty g;rw [f];have:d=cs:=List.ext_getElem? λj=>k j rfl;rw [this]
 | _::_,[],_,_,_,hl,_=>by simp at hl
 | c::r,v::vs,a,b,h,hl,nd=>by
  unfold putCells;cases g:lookX a c.1 with
  | none=>
   rw [(o6 h.1 c.1).1 g];refine kC ⟨h.1,λi cs ty hi=>?_⟩ (by simp_all) nd;obtain ⟨d,f,l,k⟩:=h.2 i cs ty hi;exact ⟨d,f,l,λj m=>k j (tC m (λe=>by rw [e.1,hi] at g;cases g))⟩
  | some p=>
   obtain ⟨n,o⟩:=p;obtain ⟨t,f,l,k⟩:=h.2 c.1 n o g;rw [f];simp only;refine kC ⟨by rw [jI,jI];exact h.1,λi cs ty hi=>?_⟩ (by simp_all) (by rw [jI];exact nd);rw [eY g] at hi;rw [eY f];split at hi
   .rename_i e;rw [if_pos e];simp only [Option.some.injEq,Prod.mk.injEq] at hi;obtain ⟨rfl,rfl⟩:=hi;refine ⟨_,rfl,by simp [l],λj m=>?_⟩;by_cases s:c.2.1=j
    .grind
    .rw [List.getElem?_set_ne s,List.getElem?_set_ne s];exact k j (tC (by simp_all) (λq=>s q.2))
   .rename_i e;rw [if_neg e];obtain ⟨d,k1,k2,u⟩:=h.2 i cs ty hi;exact ⟨d,k1,k2,λj m=>u j (tC m (λq=>e q.1))⟩
theorem rB {bx:Bxs}:∀ {cl:Cl} {vs:List Value},gL bx cl=some vs->cl.length=vs.length
 | [],vs,h=>by simp [gL] at h;subst h;rfl
 | c::r,vs,h=>by
  unfold gL at h;split at h
  .rename_i cs ty l b a;split at h
   .cases h;simp [rB a]
   .cases h
  .cases h
theorem zR {ids:List Nat}:∀ {l:Bxs},(∀ i ∈ l.map (·.1),i ∈ ids)->keepX ids l=l
 | [],_=>rfl
 | (d,p)::r,h=>by
  unfold keepX;rw [eF.2 (h d List.mem_cons_self)];simp only;rw [zR λi hi=>h i (List.mem_cons_of_mem _ hi)]
theorem aHf {ids:List Nat} {i:Nat} {l:Bxs} (h:i ∈ (keepX ids l).map (·.1)):i ∈ ids:=by
 have:¬ lookX (keepX ids l) i=none:=λe=>eB.1 e h;rw [iI] at this;by_cases g:i ∈ ids
 .exact g
 .simp_all
theorem pM {e:Bvs} {keep:List Nat}:∀ (l:List Nat),(∀ t ∈ l,t ∈ keep)->keptI (keepB e keep) l=keptI e l
 | [],_=>rfl
 | x::r,h=>by
  unfold keptI;rw [oG,if_pos (h x List.mem_cons_self),pM r λt a=>h t (List.mem_cons_of_mem _ a)]
theorem aBY {l:List Nat} {ρ ρ':Env} (h:EnvLe ρ ρ'):EnvLe (stripE l ρ) (stripE l ρ'):=by
 have back:∀ (e:Env) (x:Nat) (u:Value),look e x=some u->memN x l=false->look (stripE l e) x=some u:=by
  intro e
  induction e with
  | nil=>intro x u h;simp [look] at h
  | cons p e ih=>
   obtain ⟨d,w⟩:=p;intro x u a b;rw [aO] at a;unfold stripE;split at a
   .rename_i g;subst g;rw [b];simp only;rw [aO,if_pos rfl];exact a
   .rename_i g;split
    .simp_all
    .rw [aO,if_neg g];exact ih x u a b
 intro x u c;obtain ⟨f,i⟩:=fI _ c;exact back _ _ _ (h _ _ f) i
theorem nH {g:Bxs}:∀ {cl:Cl} {vs:List Value} {bx:Bxs},gL g cl=some vs->
  (∀ i d ty,lookX bx i=some (d,ty)->∃ c1,lookX g i=some (c1,ty)/\c1.length=d.length/\∀ j,memC i j cl=false->c1[j]? = d[j]?)->
  ∀ i p,lookX (putCells bx cl vs) i=some p->lookX g i=some p
 | [],vs,bx,_,h,i,p,b=>by
  unfold putCells at b;have b:lookX bx i=some p:=b;obtain ⟨d,ty⟩:=p;obtain ⟨c1,A,F,B⟩:=h i d ty b;have:c1=d:=List.ext_getElem? λj=>B j rfl;rw [A,this]
 | c::r,vs,bx,n,h,i,p,b=>by
  unfold gL at n;split at n
  .rename_i cs ty l y z;split at n
   .rename_i v G;cases n;unfold putCells at b;split at b
    .rename_i C D u;refine nH z (λk d w m=>?_) i p b;rw [eY u] at m;split at m
     .rename_i e;subst e;simp only [Option.some.injEq,Prod.mk.injEq] at m;obtain ⟨rfl,rfl⟩:=m;obtain ⟨c1,k1,k2,o⟩:=h _ _ _ u;rw [y] at k1;cases k1;refine ⟨cs,y,by rw [k2];simp,λj f=>?_⟩;by_cases E:c.2.1=j
      .grind
      .rw [List.getElem?_set_ne E];refine o j ?_;cases q:memC c.1 j (c::r) with
       | false=>rfl
       | true=>
        obtain ⟨x,a,s,t⟩:=dH.1 q;rcases List.mem_cons.1 a with rfl | a
        .omega
        .have:memC c.1 j r=true:=dH.2 ⟨x,a,s,t⟩;rw [this] at f;cases f
     .rename_i e;obtain ⟨c1,k1,k2,o⟩:=h _ _ _ m;refine ⟨c1,k1,k2,λj f=>o j ?_⟩;cases q:memC k j (c::r) with
      | false=>rfl
      | true=>
       obtain ⟨x,a,s,t⟩:=dH.1 q;rcases List.mem_cons.1 a with rfl | a
       .omega
       .have:memC k j r=true:=dH.2 ⟨x,a,s,t⟩;rw [this] at f;cases f
    .rename_i u;refine nH z (λk d w m=>?_) i p b;obtain ⟨c1,k1,k2,o⟩:=h _ _ _ m;refine ⟨c1,k1,k2,λj f=>o j ?_⟩;cases q:memC k j (c::r) with
     | false=>rfl
     | true=>
      obtain ⟨x,a,s,t⟩:=dH.1 q;rcases List.mem_cons.1 a with rfl | a
      .simp_all
      .have:memC k j r=true:=dH.2 ⟨x,a,s,t⟩;rw [this] at f;cases f
   .cases n
  .cases n
theorem aDa {i:Nat} {p:List Value × TypeId}:∀ {l:Bxs},(l.map (·.1)).Nodup->(i,p) ∈ l->lookX l i=some p
 | [],_,h=>by simp at h
 | (d,q)::r,nd,h=>by
  obtain ⟨a,b⟩:=List.nodup_cons.1 nd;rw [bH];rcases List.mem_cons.1 h with e | h
  .simp_all
  .rw [if_neg (λe=>a (by simp_all))];exact aDa b h
theorem aAs {i:Nat} {p:List Value × TypeId} {l:Bxs} (h:lookX l i=some p):(i,p) ∈ l:=by
 obtain ⟨a,l2,rfl,_⟩:=jV h;simp
theorem aKb {A:AH} {h:Hp} {E:Bx} {β:Nat->Nat} {b d:Bxs} (s:Sim A (bxL β b++E) h) (P:(b.map (·.1)).Nodup) (D:(d.map (·.1)).Nodup) (hs:∀ i p,lookX d i=some p->lookX b i=some p):Sim A (bxL β d++E) h:=by
 have a:∀ e ∈ d,e ∈ b:=λe j=>aAs (hs e.1 e.2 (aDa D j))
 have G:∀ e ∈ bxL β d++E,e ∈ bxL β b++E:=λe j=>by
  rcases List.mem_append.1 j with n | n
  .obtain ⟨x,o,rfl⟩:=List.mem_map.1 n;exact List.mem_append.2 (.inl (List.mem_map.2 ⟨x,a x o,rfl⟩))
  .simp_all
 refine ⟨s.sub,λe j=>s.box e (G e j),?_⟩;obtain ⟨H,I,J⟩:=List.pairwise_append.1 s.apart;refine List.pairwise_append.2 ⟨?_,I,λx t y u=>?_⟩
 .have key:∀ (l:Bxs),(∀ e ∈ l,e ∈ b)->(l.map (·.1)).Nodup->(bxL β l).Pairwise λx y=>x.1≠y.1:=by
   intro l
   induction l with
   | nil=>exact λ_ _=>List.Pairwise.nil
   | cons e l ih=>
    intro v nd;obtain ⟨K,L⟩:=List.nodup_cons.1 nd;refine List.pairwise_cons.2 ⟨λy u=>?_,ih (λx t=>v x (List.mem_cons_of_mem _ t)) L⟩;obtain ⟨z,q,rfl⟩:=List.mem_map.1 u;have M:e.1≠z.1:=λg=>K (List.mem_map.2 ⟨z,q,g.symm⟩);have B:=v e List.mem_cons_self;have C:=v z (List.mem_cons_of_mem _ q)
    -- k boxes of 'b1' with c m
    have k:∀ (l:Bxs),e ∈ l->z ∈ l->(bxL β l).Pairwise (λx y=>x.1≠y.1)->β e.1≠β z.1:=by
     intro l
     induction l with
     | nil=>intro h;simp at h
     | cons w l ihl=>
      intro n o N;obtain ⟨F,O⟩:=List.pairwise_cons.1 N;rcases List.mem_cons.1 n with r | r
      .rcases List.mem_cons.1 o with f | f
       .simp_all
       .rw [r];exact F _ (List.mem_map.2 ⟨z,f,rfl⟩)
      .rcases List.mem_cons.1 o with f | f
       .rw [f];exact Ne.symm (F _ (List.mem_map.2 ⟨e,r,rfl⟩))
       .exact ihl r f O
    exact k b B C H
  exact key d a D
 .obtain ⟨z,q,rfl⟩:=List.mem_map.1 t;exact J _ (List.mem_map.2 ⟨z,a z q,rfl⟩) y u
def aJt {T U:Type} (f:T->U):(l:List CK)->ArC l T->ArC l U
 | [],x=>f x
 | _::r,g=>λx=>aJt f r (g x)
def aGt {T U:Type} (f:T->U):(l:List (Nat × Sh))->yZ l T->yZ l U
 | [],x=>f x
 | (_,.c _)::r,g=>λx=>aGt f r (g x)
 | (_,.agg l)::r,g=>aJt (aGt f r) l g
theorem nN {k:CK} {G a:CKT k->Value->Prop} (h:alK k G) (b:∀ x v,G x v->a x v):alK k a:=by
 cases k<;>exact λn=>b _ _ (h n)
theorem oI {k:CK} {v:Value} {G a:CKT k->Prop} (h:jF k v G) (b:∀ x,G x->a x):jF k v a:=by
 unfold jF at h ⊢;split at h
 .exact jO (b _) id h
 all_goals first | exact b _ h | exact h.elim
theorem aFn {T U:Type} {f:T->U}:∀ (l:List CK) (R:ArC l T) (G:List Value->U->Prop) (H:List Value->T->Prop),(∀ vs R,H vs R->G vs (f R))->alC l T R H->alC l U (aJt f l R) G
 | [],_,_,_,hg,h=>hg _ _ h
 | _::r,R,G,H,hg,h=>nN h λx _ a=>aFn r (R x) _ _ (λvs R b=>hg _ R b) a
theorem aES {T U:Type} {f:T->U}:∀ (l:List CK) (R:ArC l T) (vs:List Value) (G:U->Prop) (H:T->Prop),(∀ R,H R->G (f R))->kS l T R vs H->kS l U (aJt f l R) vs G
 | [],_,[],_,_,hg,h=>hg _ h
 | [],_,_::_,_,_,_,h=>h.elim
 | _::_,_,[],_,_,_,h=>h.elim
 | _::r,R,v::vs,G,H,hg,h=>oI h λx a=>aES r (R x) vs G H hg a
theorem vR {T U:Type} {f:T->U}:∀ (l:List (Nat × Sh)) (R:yZ l T) (G:Env->U->Prop) (H:Env->T->Prop),(∀ e R,H e R->G e (f R))->alJ l T R H->alJ l U (aGt f l R) G
 | [],_,_,_,hg,h=>hg _ _ h
 | (_,.c _)::r,R,G,H,hg,h=>nN h λx _ a=>vR r (R x) _ _ (λe R b=>hg _ R b) a
 | (_,.agg l)::r,R,G,H,hg,h=>aFn l R _ _ (λvs c a=>vR r c _ _ (λe d b=>hg _ d b) a) h
theorem rE {T U:Type} {f:T->U} {e d:Env} (a:EnvLe e d):∀ (l:List (Nat × Sh)) (R:yZ l T) (G:U->Prop) (H:T->Prop),(∀ R,H R->G (f R))->uQ l T R e H->uQ l U (aGt f l R) d G
 | [],_,_,_,hg,h=>hg _ h
 | (t,.c k)::r,R,G,H,hg,h=>by
  unfold uQ at h ⊢;split at h
  .rename_i v b;rw [a _ _ b];exact oI h λx c=>rE a r (R x) G H hg c
  .exact h.elim
 | (t,.agg l)::r,R,G,H,hg,h=>by
  unfold uQ at h ⊢;split at h
  .rename_i vs b;rw [a _ _ b];exact aES l R _ _ _ (λg c=>rE a r g G H hg c) h
  .exact h.elim
theorem vM {T:Type}:∀ (l:List (Nat × Sh)) (R:yZ l T) (G:Env->T->Prop),alJ l T R G->alJ l T R λe R=>(∀ t v,look e t=some v->t ∈ l.map (·.1))/\G e R
 | [],_,_,h=>⟨λt v a=>by simp [look] at a,h⟩
 | (s,.c _)::r,R,G,h=>nN h λx w a=>by
  refine alJ_mono' r (R x) (vM r (R x) _ a) λe g ⟨b,i⟩=>⟨λt v c=>?_,i⟩;rw [aO] at c;split at c
  .simp_all
  .simp_all
 | (s,.agg l)::r,R,G,h=>by
  refine alC_mono' l R h λvs f a=>?_;refine alJ_mono' r f (vM r f _ a) λe g ⟨b,i⟩=>⟨λt v c=>?_,i⟩;rw [aO] at c;split at c
  .simp_all
  .simp_all
where
 alC_mono' {T:Type}:∀ (l:List CK) (R:ArC l T) {G d:List Value->T->Prop},alC l T R G->(∀ vs R,G vs R->d vs R)->alC l T R d
  | [],_,_,_,h,hg=>hg _ _ h
  | _::r,R,_,_,h,hg=>nN h λx _ a=>alC_mono' r (R x) a λvs R b=>hg _ R b
 alJ_mono' {T:Type}:∀ (l:List (Nat × Sh)) (R:yZ l T) {G d:Env->T->Prop},alJ l T R G->(∀ e R,G e R->d e R)->alJ l T R d
  | [],_,_,_,h,hg=>hg _ _ h
  | (_,.c _)::r,R,_,_,h,hg=>nN h λx _ a=>alJ_mono' r (R x) a λe R b=>hg _ R b
  | (_,.agg l)::r,R,_,_,h,hg=>alC_mono' l R h λvs f a=>alJ_mono' r f a λe g b=>hg _ g b
theorem aLS {M:Type} {k:CK} {v:Value} {G:M->CKT k->Prop} (h:jF k v λx=>∃ m,G m x):∃ m,jF k v (G m):=by
 cases k<;>cases v<;>simp only [jF] at h ⊢<;>first | exact h.elim | exact h | skip
 obtain ⟨a,m,b⟩:=bG h;exact ⟨m,dA.2 ⟨λ_=>b,λe=>by rw [a] at e;cases e⟩⟩
theorem aDW {M:Type}:∀ (l:List CK) (T:Type) (R:ArC l T) (vs:List Value) (G:M->T->Prop),(kS l T R vs λx=>∃ m,G m x)->∃ m,kS l T R vs (G m)
 | [],_,_,[],_,h=>h
 | [],_,_,_::_,_,h=>h.elim
 | _::_,_,_,[],_,h=>h.elim
 | k::r,T,R,v::vs,G,h=>aLS (G:=λm x=>kS r T (R x) vs (G m)) (oI h λx a=>aDW r T (R x) vs G a)
theorem aJa {p:Prop} {k:CK} {v:Value} {G:CKT k->Prop} (h:jF k v λx=>p/\G x):p/\jF k v G:=by
 cases k<;>cases v<;>simp only [jF] at h ⊢<;>first | exact h.elim | exact h | skip
 obtain ⟨a,b,c⟩:=bG h;exact ⟨b,dA.2 ⟨λ_=>c,λe=>by rw [a] at e;cases e⟩⟩
theorem aER {p:Prop}:∀ (l:List CK) (T:Type) (R:ArC l T) (vs:List Value) (G:T->Prop),(kS l T R vs λx=>p/\G x)->p/\kS l T R vs G
 | [],_,_,[],_,h=>h
 | [],_,_,_::_,_,h=>h.elim
 | _::_,_,_,[],_,h=>h.elim
 | k::r,T,R,v::vs,G,h=>aJa (G:=λx=>kS r T (R x) vs G) (oI h λx a=>aER r T (R x) vs G a)
end Go.Dn
