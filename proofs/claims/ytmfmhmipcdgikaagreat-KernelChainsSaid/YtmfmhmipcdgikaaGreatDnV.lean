/- What is asked over a part of the heap is enough for the whole: code. -/
import Derived.Test.YtmfmhmipcdgikaaGreatDnU
namespace Go.Dn
def AnnA.h:AnnA->Ann
 | .leaf=>.leaf
 | .draw k=>.draw k
 | .drawS ord _=>.drawS ord
 | .seq j a b=>.seq (match j with | some J=>some J.h | none=>none) a.h b.h
 | .cond a b=>.cond a.h b.h
 | .block a=>.block a.h
 | .loop j a=>.loop j.h a.h
theorem jJ {e:Env} {t:Nat}:∀ (l:List Nat),look (keepE e l) t=if t ∈ l then look e t else none
 | []=>by simp [keepE,look]
 | x::r=>by
  unfold keepE;cases g:look e x with
  | none=>
   simp only;rw [jJ r];by_cases h:t=x
   ·subst h;simp [g]
   ·simp [h]
  | some v=>
   simp only;rw [aQ,jJ r];by_cases h:x=t
   ·subst h;simp [g]
   ·rw [if_neg h];simp [Ne.symm h]
theorem mI {e:Bvs} {t:Nat}:∀ (l:List Nat),lookB (keepB e l) t=if t ∈ l then lookB e t else none
 | []=>by simp [keepB,lookB]
 | x::r=>by
  unfold keepB;cases g:lookB e x with
  | none=>
   simp only;rw [mI r];by_cases h:t=x
   ·subst h;simp [g]
   ·simp [h]
  | some v=>
   simp only;rw [dD,mI r];by_cases h:x=t
   ·subst h;simp [g]
   ·rw [if_neg h];simp [Ne.symm h]
theorem rL {e:Bvs} {i:Nat}:∀ {l:List Nat},i ∈ keptI e l↔∃ t ∈ l,∃ o,lookB e t=some (i,o)
 | []=>by simp [keptI]
 | x::r=>by
  unfold keptI;cases g:lookB e x with
  | none=>
   simp only;rw [rL];constructor
   ·rintro ⟨t,h1,h2⟩;exact ⟨t,List.mem_cons_of_mem _ h1,h2⟩
   ·rintro ⟨t,h1,o,h2⟩;rcases List.mem_cons.1 h1 with rfl | h1
    ·rw [g] at h2;cases h2
    ·exact ⟨t,h1,o,h2⟩
  | some p=>
   simp only [List.mem_cons];rw [rL];constructor
   ·rintro (rfl | ⟨t,h1,h2⟩)
    ·exact ⟨x,.inl rfl,p.2,g⟩
    ·exact ⟨t,.inr h1,h2⟩
   ·rintro ⟨t,rfl | h1,o,h2⟩
    ·rw [g] at h2;cases h2;exact .inl rfl
    ·exact .inr ⟨t,h1,o,h2⟩
theorem gP {ids:List Nat} {i:Nat}:∀ {l:Bxs},lookX (keepX ids l) i=if i ∈ ids then lookX l i else none
 | []=>by simp [keepX,lookX]
 | (d,p)::r=>by
  unfold keepX;cases g:memN d ids with
  | true=>
   simp only;rw [bE,bE,gP];by_cases h:d=i
   ·subst h;simp [eA.1 g]
   ·simp [h]
  | false=>
   simp only;rw [bE,gP];by_cases h:d=i
   ·subst h;simp [gG.1 g]
   ·simp [h]
theorem mW {ids:List Nat}:∀ {l:Bxs},(keepX ids l).Sublist l
 | []=>.slnil
 | (d,p)::r=>by
  unfold keepX;split
  ·exact mW.cons_cons _
  ·exact mW.cons _
theorem aDO {bx:Bxs}:∀ {l:List Nat},aFS bx l=true->∀ i ∈ l,∃ p,lookX bx i=some p
 | [],_,_,h=>by simp at h
 | x::r,h,i,hi=>by
  unfold aFS at h;split at h
  ·rename_i p g;rcases List.mem_cons.1 hi with rfl | hi
   ·exact ⟨_,g⟩
   ·exact aDO h i hi
  ·cases h
abbrev Cl:=List (Nat × (Nat × CK))
theorem dE {i j:Nat}:∀ {cl:Cl},memC i j cl=true↔∃ c ∈ cl,c.1=i/\c.2.1=j
 | []=>by simp [memC]
 | c::r=>by
  unfold memC;cases g:Nat.beq c.1 i&&Nat.beq c.2.1 j with
  | true=>
   rw [Bool.and_eq_true] at g;simp only [true_iff];exact ⟨c,List.mem_cons_self,gC.1 g.1,gC.1 g.2⟩
  | false=>
   simp only;rw [dE];constructor
   ·rintro ⟨x,h1,h2⟩;exact ⟨x,List.mem_cons_of_mem _ h1,h2⟩
   ·rintro ⟨x,h1,h2⟩;rcases List.mem_cons.1 h1 with rfl | h1
    ·rw [gC.2 h2.1,gC.2 h2.2] at g;cases g
    ·exact ⟨x,h1,h2⟩
theorem fA:∀ {cl:Cl} {vs:List Value} {bx:Bxs},(putCells bx cl vs).map (·.1)=bx.map (·.1)
 | [],_,bx=>by unfold putCells;rfl
 | _::_,[],bx=>by unfold putCells;rfl
 | c::r,v::vs,bx=>by
  unfold putCells;split
  ·rw [fA,hX]
  ·exact fA
def aJx (cl:Cl) (a b:Bxs):Prop:=a.map (·.1)=b.map (·.1)/\∀ i cs ty,lookX a i=some (cs,ty)->∃ cs',lookX b i=some (cs',ty)/\cs'.length=cs.length/\∀ j,memC i j cl=false->cs'[j]? = cs[j]?
theorem rA {i j:Nat} {c:Nat × (Nat × CK)} {r:Cl} (h:memC i j (c::r)=false):memC i j r=false/\¬(c.1=i/\c.2.1=j):=by
 constructor
 ·cases q:memC i j r with
  | false=>rfl
  | true=>
   obtain ⟨x,x1,x2⟩:=dE.1 q;have:memC i j (c::r)=true:=dE.2 ⟨x,List.mem_cons_of_mem _ x1,x2⟩;rw [this] at h;cases h
 ·intro e;have:memC i j (c::r)=true:=dE.2 ⟨c,List.mem_cons_self,e⟩;rw [this] at h;cases h
theorem rH {i j:Nat} {c:Nat × (Nat × CK)} {r:Cl} (h:memC i j r=false) (h2:¬(c.1=i/\c.2.1=j)):memC i j (c::r)=false:=by
 cases q:memC i j (c::r) with
 | false=>rfl
 | true=>
  obtain ⟨x,x1,x2⟩:=dE.1 q;rcases List.mem_cons.1 x1 with rfl | x1
  ·exact absurd x2 h2
  ·have:memC i j r=true:=dE.2 ⟨x,x1,x2⟩;rw [this] at h;cases h
theorem nK {a b:Bxs} (h:a.map (·.1)=b.map (·.1)) (i:Nat):lookX a i=none↔lookX b i=none:=by rw [dO,dO,h]
theorem gU:∀ {cl:Cl} {vs:List Value} {bx:Bxs},aJx cl bx (putCells bx cl vs)
 | [],_,bx=>by unfold putCells;exact ⟨rfl,λi cs ty h=>⟨cs,h,rfl,λ_ _=>rfl⟩⟩
 | _::_,[],bx=>by unfold putCells;exact ⟨rfl,λi cs ty h=>⟨cs,h,rfl,λ_ _=>rfl⟩⟩
 | c::r,v::vs,bx=>by
  unfold putCells;split
  ·rename_i cs0 ty0 h0;obtain ⟨h1,h2⟩:=gU (cl:=r) (vs:=vs) (bx:=setX bx c.1 (cs0.set c.2.1 v));refine ⟨by rw [<-h1,hX],λi cs ty h=>?_⟩;by_cases g:c.1=i
   ·subst g;have h3:lookX (setX bx c.1 (cs0.set c.2.1 v)) c.1=some (cs0.set c.2.1 v,ty0):=by rw [eJ h0,if_pos rfl]
    rw [h0] at h;cases h;obtain ⟨cs',h4,h5,h6⟩:=h2 _ _ _ h3;refine ⟨cs',h4,by rw [h5];simp,λj hj=>?_⟩;obtain ⟨q1,q2⟩:=rA hj;rw [h6 j q1,List.getElem?_set_ne (λe=>q2 ⟨rfl,e⟩)]
   ·have h3:lookX (setX bx c.1 (cs0.set c.2.1 v)) i=some (cs,ty):=by rw [eJ h0,if_neg g];exact h
    obtain ⟨cs',h4,h5,h6⟩:=h2 _ _ _ h3;exact ⟨cs',h4,h5,λj hj=>h6 j (rA hj).1⟩
  ·obtain ⟨h1,h2⟩:=gU (cl:=r) (vs:=vs) (bx:=bx);refine ⟨h1,λi cs ty h=>?_⟩;obtain ⟨cs',h4,h5,h6⟩:=h2 _ _ _ h;exact ⟨cs',h4,h5,λj hj=>h6 j (rA hj).1⟩
theorem yS:∀ {a b:Bxs},a.map (·.1)=b.map (·.1)->(a.map (·.1)).Nodup->(∀ i,lookX a i=lookX b i)->a=b
 | [],[],_,_,_=>rfl
 | [],_::_,h,_,_=>by simp at h
 | _::_,[],h,_,_=>by simp at h
 | (d,p)::a,(e,q)::b,h,nd,hl=>by
  simp only [List.map_cons,List.cons.injEq] at h;obtain ⟨rfl,h⟩:=h;have h1:=hl d;rw [bE,if_pos rfl,bE,if_pos rfl] at h1;cases h1;have nd2:=List.nodup_cons.1 nd;congr 1;refine yS h nd2.2 λi=>?_;by_cases g:d=i
  ·subst g;rw [dO.2 nd2.1,dO.2 (by rw [<-h];exact nd2.1)]
  ·have:=hl i;rw [bE,if_neg g,bE,if_neg g] at this;exact this
theorem iW:∀ {cl:Cl} {vs:List Value} {a b:Bxs},aJx cl a b->cl.length=vs.length->(a.map (·.1)).Nodup->putCells a cl vs=putCells b cl vs
 | [],vs,a,b,h,_,nd=>by
  unfold putCells;refine yS h.1 nd λi=>?_;cases g:lookX a i with
  | none=>exact ((nK h.1 i).1 g).symm
  | some p=>
   obtain ⟨cs,ty⟩:=p;obtain ⟨cs',h1,h2,h3⟩:=h.2 i cs ty g;rw [h1];have:cs'=cs:=List.ext_getElem? λj=>h3 j rfl;rw [this]
 | _::_,[],_,_,_,hl,_=>by simp at hl
 | c::r,v::vs,a,b,h,hl,nd=>by
  unfold putCells;cases g:lookX a c.1 with
  | none=>
   rw [(nK h.1 c.1).1 g];refine iW ⟨h.1,λi cs ty hi=>?_⟩ (by simpa using hl) nd;obtain ⟨cs',h1,h2,h3⟩:=h.2 i cs ty hi;exact ⟨cs',h1,h2,λj hj=>h3 j (rH hj (λe=>by rw [e.1,hi] at g;cases g))⟩
  | some p=>
   obtain ⟨cs0,ty0⟩:=p;obtain ⟨cs1,h1,h2,h3⟩:=h.2 c.1 cs0 ty0 g;rw [h1];simp only;refine iW ⟨by rw [hX,hX];exact h.1,λi cs ty hi=>?_⟩ (by simpa using hl) (by rw [hX];exact nd);rw [eJ g] at hi;rw [eJ h1];split at hi
   ·rename_i e;rw [if_pos e];simp only [Option.some.injEq,Prod.mk.injEq] at hi;obtain ⟨rfl,rfl⟩:=hi;refine ⟨_,rfl,by simp [h2],λj hj=>?_⟩;by_cases e2:c.2.1=j
    ·subst e2;simp only [List.getElem?_set,if_pos,h2]
    ·rw [List.getElem?_set_ne e2,List.getElem?_set_ne e2];exact h3 j (rH (by rw [e];exact hj) (λq=>e2 q.2))
   ·rename_i e;rw [if_neg e];obtain ⟨cs',k1,k2,k3⟩:=h.2 i cs ty hi;exact ⟨cs',k1,k2,λj hj=>k3 j (rH hj (λq=>e q.1))⟩
theorem pX {bx:Bxs}:∀ {cl:Cl} {vs:List Value},fY bx cl=some vs->cl.length=vs.length
 | [],vs,h=>by simp [fY] at h;subst h;rfl
 | c::r,vs,h=>by
  unfold fY at h;split at h
  ·rename_i cs ty l h1 h2;split at h
   ·cases h;simp [pX h2]
   ·cases h
  ·cases h
theorem xH {ids:List Nat}:∀ {l:Bxs},(∀ i ∈ l.map (·.1),i ∈ ids)->keepX ids l=l
 | [],_=>rfl
 | (d,p)::r,h=>by
  unfold keepX;rw [eA.2 (h d List.mem_cons_self)];simp only;rw [xH λi hi=>h i (List.mem_cons_of_mem _ hi)]
theorem aF2 {ids:List Nat} {i:Nat} {l:Bxs} (h:i ∈ (keepX ids l).map (·.1)):i ∈ ids:=by
 have:¬ lookX (keepX ids l) i=none:=λe=>dO.1 e h;rw [gP] at this;by_cases g:i ∈ ids
 ·exact g
 ·rw [if_neg g] at this;exact absurd rfl this
theorem oE {e:Bvs} {keep:List Nat}:∀ (l:List Nat),(∀ t ∈ l,t ∈ keep)->keptI (keepB e keep) l=keptI e l
 | [],_=>rfl
 | x::r,h=>by
  unfold keptI;rw [mI,if_pos (h x List.mem_cons_self),oE r λt ht=>h t (List.mem_cons_of_mem _ ht)]
theorem aAW {l:List Nat} {ρ ρ':Env} (h:EnvLe ρ ρ'):EnvLe (stripE l ρ) (stripE l ρ'):=by
 have back:∀ (e:Env) (x:Nat) (u:Value),look e x=some u->memN x l=false->look (stripE l e) x=some u:=by
  intro e
  induction e with
  | nil=>intro x u h;simp [look] at h
  | cons p e ih=>
   obtain ⟨d,w⟩:=p;intro x u h1 h2;rw [aQ] at h1;unfold stripE;split at h1
   ·rename_i g;subst g;rw [h2];simp only;rw [aQ,if_pos rfl];exact h1
   ·rename_i g;split
    ·exact ih x u h1 h2
    ·rw [aQ,if_neg g];exact ih x u h1 h2
 intro x u hx;obtain ⟨g1,g2⟩:=eO _ hx;exact back _ _ _ (h _ _ g1) g2
theorem lQ {bxT:Bxs}:∀ {cl:Cl} {vs:List Value} {bx:Bxs},fY bxT cl=some vs->
  (∀ i c0 ty,lookX bx i=some (c0,ty)->∃ c1,lookX bxT i=some (c1,ty)/\c1.length=c0.length/\∀ j,memC i j cl=false->c1[j]? = c0[j]?)->
  ∀ i p,lookX (putCells bx cl vs) i=some p->lookX bxT i=some p
 | [],vs,bx,_,h,i,p,hp=>by
  unfold putCells at hp;have hp:lookX bx i=some p:=hp;obtain ⟨c0,ty⟩:=p;obtain ⟨c1,h1,h2,h3⟩:=h i c0 ty hp;have:c1=c0:=List.ext_getElem? λj=>h3 j rfl;rw [h1,this]
 | c::r,vs,bx,hg,h,i,p,hp=>by
  unfold fY at hg;split at hg
  ·rename_i cs ty l g1 g2;split at hg
   ·rename_i v hv;cases hg;unfold putCells at hp;split at hp
    ·rename_i cs0 ty0 h0;refine lQ g2 (λk c0 ty2 hk=>?_) i p hp;rw [eJ h0] at hk;split at hk
     ·rename_i e;subst e;simp only [Option.some.injEq,Prod.mk.injEq] at hk;obtain ⟨rfl,rfl⟩:=hk;obtain ⟨c1,k1,k2,k3⟩:=h _ _ _ h0;rw [g1] at k1;cases k1;refine ⟨cs,g1,by rw [k2];simp,λj hj=>?_⟩;by_cases e2:c.2.1=j
      ·subst e2;rw [hv]
       have hlt:c.2.1<cs0.length:=by
        rw [<-k2];exact (List.getElem?_eq_some_iff.1 hv).1
       rw [List.getElem?_set_self hlt]
      ·rw [List.getElem?_set_ne e2];refine k3 j ?_;cases q:memC c.1 j (c::r) with
       | false=>rfl
       | true=>
        obtain ⟨x,x1,x2,x3⟩:=dE.1 q;rcases List.mem_cons.1 x1 with rfl | x1
        ·exact absurd x3 e2
        ·have:memC c.1 j r=true:=dE.2 ⟨x,x1,x2,x3⟩;rw [this] at hj;cases hj
     ·rename_i e;obtain ⟨c1,k1,k2,k3⟩:=h _ _ _ hk;refine ⟨c1,k1,k2,λj hj=>k3 j ?_⟩;cases q:memC k j (c::r) with
      | false=>rfl
      | true=>
       obtain ⟨x,x1,x2,x3⟩:=dE.1 q;rcases List.mem_cons.1 x1 with rfl | x1
       ·exact absurd x2 e
       ·have:memC k j r=true:=dE.2 ⟨x,x1,x2,x3⟩;rw [this] at hj;cases hj
    ·rename_i h0;refine lQ g2 (λk c0 ty2 hk=>?_) i p hp;obtain ⟨c1,k1,k2,k3⟩:=h _ _ _ hk;refine ⟨c1,k1,k2,λj hj=>k3 j ?_⟩;cases q:memC k j (c::r) with
     | false=>rfl
     | true=>
      obtain ⟨x,x1,x2,x3⟩:=dE.1 q;rcases List.mem_cons.1 x1 with rfl | x1
      ·rw [x2] at h0;rw [h0] at hk;cases hk
      ·have:memC k j r=true:=dE.2 ⟨x,x1,x2,x3⟩;rw [this] at hj;cases hj
   ·cases hg
  ·cases hg
theorem aBy {i:Nat} {p:List Value × TypeId}:∀ {l:Bxs},(l.map (·.1)).Nodup->(i,p) ∈ l->lookX l i=some p
 | [],_,h=>by simp at h
 | (d,q)::r,nd,h=>by
  obtain ⟨n1,n2⟩:=List.nodup_cons.1 nd;rw [bE];rcases List.mem_cons.1 h with e | h
  ·cases e;rw [if_pos rfl]
  ·rw [if_neg (λe=>n1 (by rw [e];exact List.mem_map.2 ⟨_,h,rfl⟩))];exact aBy n2 h
theorem yH {i:Nat} {p:List Value × TypeId} {l:Bxs} (h:lookX l i=some p):(i,p) ∈ l:=by
 obtain ⟨l1,l2,rfl,_⟩:=iN h;simp
theorem aIk {A:AH} {h:Hp} {E:Bx} {β:Nat->Nat} {b1 b2:Bxs} (s:Sim A (bxL β b1++E) h) (n1:(b1.map (·.1)).Nodup) (n2:(b2.map (·.1)).Nodup) (hs:∀ i p,lookX b2 i=some p->lookX b1 i=some p):Sim A (bxL β b2++E) h:=by
 have hmem:∀ e ∈ b2,e ∈ b1:=λe he=>yH (hs e.1 e.2 (aBy n2 he))
 have hL:∀ e ∈ bxL β b2++E,e ∈ bxL β b1++E:=λe he=>by
  rcases List.mem_append.1 he with h1 | h1
  ·obtain ⟨x,h2,rfl⟩:=List.mem_map.1 h1;exact List.mem_append.2 (.inl (List.mem_map.2 ⟨x,hmem x h2,rfl⟩))
  ·exact List.mem_append.2 (.inr h1)
 refine ⟨s.sub,λe he=>s.box e (hL e he),?_⟩;obtain ⟨a1,a2,a3⟩:=List.pairwise_append.1 s.apart;refine List.pairwise_append.2 ⟨?_,a2,λx hx y hy=>?_⟩
 ·have key:∀ (l:Bxs),(∀ e ∈ l,e ∈ b1)->(l.map (·.1)).Nodup->(bxL β l).Pairwise λx y=>x.1≠y.1:=by
   intro l
   induction l with
   | nil=>exact λ_ _=>List.Pairwise.nil
   | cons e l ih=>
    intro hm nd;obtain ⟨d1,d2⟩:=List.nodup_cons.1 nd;refine List.pairwise_cons.2 ⟨λy hy=>?_,ih (λx hx=>hm x (List.mem_cons_of_mem _ hx)) d2⟩;obtain ⟨z,hz,rfl⟩:=List.mem_map.1 hy;have hne:e.1≠z.1:=λg=>d1 (List.mem_map.2 ⟨z,hz,g.symm⟩);have he1:=hm e List.mem_cons_self;have hz1:=hm z (List.mem_cons_of_mem _ hz)
    -- two boxes of 'b1' with different numbers
    have two:∀ (l:Bxs),e ∈ l->z ∈ l->(bxL β l).Pairwise (λx y=>x.1≠y.1)->β e.1≠β z.1:=by
     intro l
     induction l with
     | nil=>intro h;simp at h
     | cons w l ihl=>
      intro h1 h2 hp;obtain ⟨p1,p2⟩:=List.pairwise_cons.1 hp;rcases List.mem_cons.1 h1 with g1 | g1
      ·rcases List.mem_cons.1 h2 with g2 | g2
       ·exact absurd (by rw [g1,g2]) hne
       ·rw [g1];exact p1 _ (List.mem_map.2 ⟨z,g2,rfl⟩)
      ·rcases List.mem_cons.1 h2 with g2 | g2
       ·rw [g2];exact Ne.symm (p1 _ (List.mem_map.2 ⟨e,g1,rfl⟩))
       ·exact ihl g1 g2 p2
    exact two b1 he1 hz1 a1
  exact key b2 hmem n2
 ·obtain ⟨z,hz,rfl⟩:=List.mem_map.1 hx;exact a3 _ (List.mem_map.2 ⟨z,hmem z hz,rfl⟩) y hy
def aIG {T U:Type} (f:T->U):(l:List CK)->ArC l T->ArC l U
 | [],x=>f x
 | _::r,g=>λx=>aIG f r (g x)
def aFf {T U:Type} (f:T->U):(l:List (Nat × Sh))->wW l T->wW l U
 | [],x=>f x
 | (_,.c _)::r,g=>λx=>aFf f r (g x)
 | (_,.agg l)::r,g=>aIG (aFf f r) l g
theorem lO {k:CK} {G G':zS k->Value->Prop} (h:alK k G) (hg:∀ x v,G x v->G' x v):alK k G':=by
 cases k<;>exact λn=>hg _ _ (h n)
theorem mK {k:CK} {v:Value} {G G':zS k->Prop} (h:gQ k v G) (hg:∀ x,G x->G' x):gQ k v G':=by
 unfold gQ at h ⊢;split at h
 ·exact iT (hg _) id h
 all_goals first | exact hg _ h | exact h.elim
theorem aDY {T U:Type} {f:T->U}:∀ (l:List CK) (R:ArC l T) (G:List Value->U->Prop) (H:List Value->T->Prop),(∀ vs R,H vs R->G vs (f R))->alC l T R H->alC l U (aIG f l R) G
 | [],_,_,_,hg,h=>hg _ _ h
 | _::r,R,G,H,hg,h=>lO h λx _ h1=>aDY r (R x) _ _ (λvs R h2=>hg _ R h2) h1
theorem aDA {T U:Type} {f:T->U}:∀ (l:List CK) (R:ArC l T) (vs:List Value) (G:U->Prop) (H:T->Prop),(∀ R,H R->G (f R))->iI l T R vs H->iI l U (aIG f l R) vs G
 | [],_,[],_,_,hg,h=>hg _ h
 | [],_,_::_,_,_,_,h=>h.elim
 | _::_,_,[],_,_,_,h=>h.elim
 | _::r,R,v::vs,G,H,hg,h=>mK h λx h1=>aDA r (R x) vs G H hg h1
theorem tT {T U:Type} {f:T->U}:∀ (l:List (Nat × Sh)) (R:wW l T) (G:Env->U->Prop) (H:Env->T->Prop),(∀ e R,H e R->G e (f R))->alJ l T R H->alJ l U (aFf f l R) G
 | [],_,_,_,hg,h=>hg _ _ h
 | (_,.c _)::r,R,G,H,hg,h=>lO h λx _ h1=>tT r (R x) _ _ (λe R h2=>hg _ R h2) h1
 | (_,.agg l)::r,R,G,H,hg,h=>aDY l R _ _ (λvs R1 h1=>tT r R1 _ _ (λe R2 h2=>hg _ R2 h2) h1) h
theorem pQ {T U:Type} {f:T->U} {e e':Env} (he:EnvLe e e'):∀ (l:List (Nat × Sh)) (R:wW l T) (G:U->Prop) (H:T->Prop),(∀ R,H R->G (f R))->sK l T R e H->sK l U (aFf f l R) e' G
 | [],_,_,_,hg,h=>hg _ h
 | (t,.c k)::r,R,G,H,hg,h=>by
  unfold sK at h ⊢;split at h
  ·rename_i v hv;rw [he _ _ hv];exact mK h λx h1=>pQ he r (R x) G H hg h1
  ·exact h.elim
 | (t,.agg l)::r,R,G,H,hg,h=>by
  unfold sK at h ⊢;split at h
  ·rename_i vs hv;rw [he _ _ hv];exact aDA l R _ _ _ (λR1 h1=>pQ he r R1 G H hg h1) h
  ·exact h.elim
theorem uA {T:Type}:∀ (l:List (Nat × Sh)) (R:wW l T) (G:Env->T->Prop),alJ l T R G->alJ l T R λe R=>(∀ t v,look e t=some v->t ∈ l.map (·.1))/\G e R
 | [],_,_,h=>⟨λt v h1=>by simp [look] at h1,h⟩
 | (s,.c _)::r,R,G,h=>lO h λx w h1=>by
  refine alJ_mono' r (R x) (uA r (R x) _ h1) λe R2 ⟨h2,h3⟩=>⟨λt v h4=>?_,h3⟩;rw [aQ] at h4;split at h4
  ·rename_i g;simp [g]
  ·exact List.mem_cons_of_mem _ (h2 t v h4)
 | (s,.agg l)::r,R,G,h=>by
  refine alC_mono' l R h λvs R1 h1=>?_;refine alJ_mono' r R1 (uA r R1 _ h1) λe R2 ⟨h2,h3⟩=>⟨λt v h4=>?_,h3⟩;rw [aQ] at h4;split at h4
  ·rename_i g;simp [g]
  ·exact List.mem_cons_of_mem _ (h2 t v h4)
where
 alC_mono' {T:Type}:∀ (l:List CK) (R:ArC l T) {G G':List Value->T->Prop},alC l T R G->(∀ vs R,G vs R->G' vs R)->alC l T R G'
  | [],_,_,_,h,hg=>hg _ _ h
  | _::r,R,_,_,h,hg=>lO h λx _ h1=>alC_mono' r (R x) h1 λvs R h2=>hg _ R h2
 alJ_mono' {T:Type}:∀ (l:List (Nat × Sh)) (R:wW l T) {G G':Env->T->Prop},alJ l T R G->(∀ e R,G e R->G' e R)->alJ l T R G'
  | [],_,_,_,h,hg=>hg _ _ h
  | (_,.c _)::r,R,_,_,h,hg=>lO h λx _ h1=>alJ_mono' r (R x) h1 λe R h2=>hg _ R h2
  | (_,.agg l)::r,R,_,_,h,hg=>alC_mono' l R h λvs R1 h1=>alJ_mono' r R1 h1 λe R2 h2=>hg _ R2 h2
theorem aJH {M:Type} {k:CK} {v:Value} {G:M->zS k->Prop} (h:gQ k v λx=>∃ m,G m x):∃ m,gQ k v (G m):=by
 cases k<;>cases v<;>simp only [gQ] at h ⊢<;>first | exact h.elim | exact h | skip
 obtain ⟨h1,m,h2⟩:=bD h;exact ⟨m,cX.2 ⟨λ_=>h2,λe=>by rw [h1] at e;cases e⟩⟩
theorem aCc {M:Type}:∀ (l:List CK) (T:Type) (R:ArC l T) (vs:List Value) (G:M->T->Prop),(iI l T R vs λx=>∃ m,G m x)->∃ m,iI l T R vs (G m)
 | [],_,_,[],_,h=>h
 | [],_,_,_::_,_,h=>h.elim
 | _::_,_,_,[],_,h=>h.elim
 | k::r,T,R,v::vs,G,h=>aJH (G:=λm x=>iI r T (R x) vs (G m)) (mK h λx h1=>aCc r T (R x) vs G h1)
theorem aIR {p:Prop} {k:CK} {v:Value} {G:zS k->Prop} (h:gQ k v λx=>p/\G x):p/\gQ k v G:=by
 cases k<;>cases v<;>simp only [gQ] at h ⊢<;>first | exact h.elim | exact h | skip
 obtain ⟨h1,h2,h3⟩:=bD h;exact ⟨h2,cX.2 ⟨λ_=>h3,λe=>by rw [h1] at e;cases e⟩⟩
theorem aDp {p:Prop}:∀ (l:List CK) (T:Type) (R:ArC l T) (vs:List Value) (G:T->Prop),(iI l T R vs λx=>p/\G x)->p/\iI l T R vs G
 | [],_,_,[],_,h=>h
 | [],_,_,_::_,_,h=>h.elim
 | _::_,_,_,[],_,h=>h.elim
 | k::r,T,R,v::vs,G,h=>aIR (G:=λx=>iI r T (R x) vs G) (mK h λx h1=>aDp r T (R x) vs G h1)
end Go.Dn
