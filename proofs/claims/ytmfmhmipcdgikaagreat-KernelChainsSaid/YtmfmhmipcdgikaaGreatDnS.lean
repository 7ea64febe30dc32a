/- What is asked over a part of the heap is enough for the whole: boxes, and operations on them. -/
import Derived.Test.YtmfmhmipcdgikaaGreatDnR
namespace Go.Dn
theorem gC {a b:Nat}:(Nat.beq a b=true)↔a=b:=⟨Nat.eq_of_beq_eq_true,λe=>by subst e;simp⟩
theorem aA9 {a b:Nat}:(Nat.beq a b=false)↔a≠b:=by
 constructor
 ·intro h e;subst e;simp at h
 ·intro h;cases g:Nat.beq a b with
  | true=>exact absurd (gC.1 g) h
  | false=>rfl
theorem eA {t:Nat}:∀ {l:List Nat},memN t l=true↔t ∈ l
 | []=>by simp [memN]
 | x::r=>by
  unfold memN;cases g:Nat.beq x t with
  | true=>have:=gC.1 g;simp [this]
  | false=>
   have:=aA9.1 g;simp only [List.mem_cons];rw [eA];constructor
   ·exact .inr
   ·rintro (rfl | h)
    ·exact absurd rfl this
    ·exact h
theorem gG {t:Nat} {l:List Nat}:memN t l=false↔t ∉ l:=by
 rw [<-eA];cases memN t l<;>simp
theorem dD {d t:Nat} {p:Nat × Nat} {r:Bvs}:lookB ((d,p)::r) t=if d=t then some p else lookB r t:=by
 simp only [lookB];cases g:Nat.beq d t with
 | true=>simp [gC.1 g]
 | false=>simp [aA9.1 g]
theorem bE {d t:Nat} {p:List Value × TypeId} {r:Bxs}:lookX ((d,p)::r) t=if d=t then some p else lookX r t:=by
 simp only [lookX];cases g:Nat.beq d t with
 | true=>simp [gC.1 g]
 | false=>simp [aA9.1 g]
theorem kX {d:Nat}:∀ {l:Bvs} {t:Nat} {p:Nat × Nat},lookB (dropB d l) t=some p->lookB l t=some p/\t≠d
 | [],_,_,h=>by simp [dropB,lookB] at h
 | (x,q)::r,t,p,h=>by
  unfold dropB at h;cases g:Nat.beq x d with
  | true=>
   rw [g] at h;obtain ⟨h1,h2⟩:=kX h;have:=gC.1 g;subst this;exact ⟨by rw [dD,if_neg (Ne.symm h2)];exact h1,h2⟩
  | false=>
   rw [g] at h;simp only at h;rw [dD] at h ⊢;have:=aA9.1 g;split at h
   ·rename_i e;subst e;exact ⟨by rw [if_pos rfl];exact h,this⟩
   ·rename_i e;obtain ⟨h1,h2⟩:=kX h;exact ⟨by rw [if_neg e];exact h1,h2⟩
theorem iN {i:Nat} {p:List Value × TypeId}:∀ {l:Bxs},lookX l i=some p->∃ l1 l2,l=l1++(i,p)::l2/\(∀ e ∈ l1,e.1≠i)
 | [],h=>by simp [lookX] at h
 | (d,q)::r,h=>by
  rw [bE] at h;split at h
  ·rename_i e;subst e;cases h;exact ⟨[],r,rfl,λ_ h=>by simp at h⟩
  ·rename_i e;obtain ⟨l1,l2,rfl,h2⟩:=iN h;refine ⟨(d,q)::l1,l2,rfl,λe' he=>?_⟩;rcases List.mem_cons.1 he with rfl | he
   ·exact e
   ·exact h2 _ he
theorem dO {i:Nat} {l:Bxs}:lookX l i=none↔i ∉ l.map (·.1):=by
 induction l with
 | nil=>simp [lookX]
 | cons e r ih=>
  obtain ⟨d,q⟩:=e;rw [bE];by_cases g:d=i
  ·simp [g]
  ·rw [if_neg g,ih];simp [Ne.symm g]
theorem oN {i:Nat} {p:List Value × TypeId} {cs:List Value}:∀ {l1 l2:Bxs},(∀ e ∈ l1,e.1≠i)->setX (l1++(i,p)::l2) i cs=l1++(i,(cs,p.2))::l2
 | [],l2,_=>by simp [setX]
 | (d,q)::l1,l2,h=>by
  have hd:d≠i:=h _ List.mem_cons_self;show setX ((d,q)::(l1++(i,p)::l2)) i cs=_;unfold setX;rw [aA9.2 hd];simp only;rw [oN λe he=>h e (List.mem_cons_of_mem _ he)];rfl
theorem eJ {i j:Nat} {cs:List Value} {p:List Value × TypeId} {l:Bxs} (h:lookX l i=some p):lookX (setX l i cs) j=if i=j then some (cs,p.2) else lookX l j:=by
 obtain ⟨l1,l2,rfl,h1⟩:=iN h;rw [oN h1];clear h
 induction l1 with
 | nil=>
  simp only [List.nil_append,bE];by_cases g:i=j
  ·simp [g]
  ·simp [g]
 | cons e l1 ih=>
  obtain ⟨d,q⟩:=e;simp only [List.cons_append,bE];have hd:d≠i:=h1 _ List.mem_cons_self;rw [ih λe he=>h1 e (List.mem_cons_of_mem _ he)];by_cases g:d=j
  ·subst g;have q1:¬ i=d:=Ne.symm hd;simp [q1]
  ·rw [if_neg g,if_neg g]
theorem hX {i:Nat} {cs:List Value}:∀ {l:Bxs},(setX l i cs).map (·.1)=l.map (·.1)
 | []=>rfl
 | (d,q)::r=>by
  unfold setX;cases g:Nat.beq d i with
  | true=>rfl
  | false=>simp only [List.map_cons];rw [hX]
theorem Sim.perm {A:AH} {L L':Bx} {h:Hp} (s:Sim A L h) (p:L.Perm L'):Sim A L' h:=
 ⟨s.sub,λe m=>s.box e (p.mem_iff.2 m),(p.pairwise_iff (λ{_ _} hxy=>Ne.symm hxy)).1 s.apart⟩
def bxL (β:Nat->Nat) (bx:Bxs):Bx:=bx.map λe=>(β e.1,e.2.1,e.2.2)
def setF (β:Nat->Nat) (i b:Nat):Nat->Nat:=λj=>if j=i then b else β j
theorem rQ {β β':Nat->Nat} {bx:Bxs} (h:∀ i ∈ bx.map (·.1),β i=β' i):bxL β bx=bxL β' bx:=by
 unfold bxL;apply List.map_congr_left;intro e he;rw [h e.1 (List.mem_map.2 ⟨e,he,rfl⟩)]
structure RB (E:Bx) (β:Nat->Nat) (s:SA) (t:St) (A:AH) (h:Hp):Prop where
 env:EnvLe s.env t.env
 bv:∀ x i o,lookB s.bv x=some (i,o)->look t.env x=some (.pointer (some ⟨β i,o,none⟩))/\∃ p,lookX s.bx i=some p
 ds:t.ds=s.ds
 sim:Sim A (bxL β s.bx++E) h
 nd:(s.bx.map (·.1)).Nodup
structure SamB (s0:SA) (β0:Nat->Nat) (s:SA) (β:Nat->Nat):Prop where
 pi:s.pi=s0.pi
 pr:s.pr=s0.pr
 kept:∀ i ∈ s0.pi,∀ cs ty,lookX s.bx i=some (cs,ty)->β i=β0 i/\∃ c0,lookX s0.bx i=some (c0,ty)/\cs.length=c0.length/\∀ j,(i,j) ∈ s0.pr->cs[j]? = c0[j]?
theorem SamB.refl (s:SA) (β:Nat->Nat):SamB s β s β:=⟨rfl,rfl,λ_ _ cs _ h=>⟨rfl,cs,h,rfl,λ_ _=>rfl⟩⟩
theorem SamB.of_bx {s s':SA} {β:Nat->Nat} (h1:s'.bx=s.bx) (h2:s'.pi=s.pi) (h3:s'.pr=s.pr):SamB s β s' β:=⟨h2,h3,λ_ _ cs _ h=>⟨rfl,cs,by rw [<-h1];exact h,rfl,λ_ _=>rfl⟩⟩
theorem SamB.trans {s0 s1 s2:SA} {β0 β1 β2:Nat->Nat} (h:SamB s0 β0 s1 β1) (k:SamB s1 β1 s2 β2):SamB s0 β0 s2 β2:=by
 refine ⟨k.pi.trans h.pi,k.pr.trans h.pr,λi hi cs ty hl=>?_⟩;obtain ⟨e1,c1,l1,n1,q1⟩:=k.kept i (by rw [h.pi];exact hi) cs ty hl;obtain ⟨e2,c2,l2,n2,q2⟩:=h.kept i hi c1 ty l1;exact ⟨e1.trans e2,c2,l2,n1.trans n2,λj hj=>(q1 j (by rw [h.pr];exact hj)).trans (q2 j hj)⟩
section
variable {P:Program} {CA:CTA} {pm:List Nat} {E:Bx} {A:AH} {h:Hp} {β:Nat->Nat} {s:SA} {t:St}
theorem RB.box (r:RB E β s t A h) {i:Nat} {cs:List Value} {ty:TypeId} (hl:lookX s.bx i=some (cs,ty)):∃ l1 l2,bxL β s.bx++E=l1++(β i,cs,ty)::l2/\∀ cs',bxL β (setX s.bx i cs')++E=l1++(β i,cs',ty)::l2:=by
 obtain ⟨l1,l2,e,h1⟩:=iN hl;refine ⟨bxL β l1,bxL β l2++E,by rw [e];simp [bxL],λcs'=>?_⟩;rw [e,oN h1];simp [bxL]
theorem yV {A:AH} {h:Hp} {l1 l2:Bx} {b:Nat} {cs:List Value} {ty:TypeId} (s:Sim A (l1++(b,cs,ty)::l2) h):(l1++(b,cs,ty)::l2)[l1.length]? = some (b,cs,ty):=by simp
theorem aDu {A:AH} {h:Hp} {l1 l2:Bx} {b o:Nat} {cs:List Value} {ty:TypeId} {c:CK} {v:Value} {K:Value->Prop} (s:Sim A (l1++(b,cs,ty)::l2) h) (hv:cs[o]? = some v) (hc:ckV c v=true) (hk:K v):ldC c ⟨b,o,none⟩ h K:=by
 have hg:=yV s;cases c<;>cases v<;>simp only [ckV] at hc<;>first | (cases hc;done) | skip
 ·rename_i k k' x;have:k=k':=by cases k<;>cases k'<;>first | rfl | cases hc
  subst this;exact aL6 s hg hv hk
 ·exact aLF s hg hv hk
 ·exact aLN s hg hv hk
 ·exact aL8 s hg hv hk
 ·exact aLJ s hg hv hk
 all_goals exact aLD s hg hv hk
theorem aDU {A:AH} {h:Hp} {l1 l2:Bx} {b o:Nat} {cs:List Value} {ty:TypeId} (s:Sim A (l1++(b,cs,ty)::l2) h):∀ (l:List CK) (vs:List Value) (k:Nat) (K:List Value->Prop),aEG l vs=true->(∀ j v,vs[j]? = some v->cs[o+k+j]? = some v)->K vs->ldL l ⟨b,o,none⟩ k h K
 | [],[],_,_,_,_,hk=>hk
 | [],_::_,_,_,hc,_,_=>by simp [aEG] at hc
 | _::_,[],_,_,hc,_,_=>by simp [aEG] at hc
 | c::l,v::vs,k,K,hc,hv,hk=>by
  unfold aEG at hc;split at hc
  ·rename_i h1;show ldC c (Addr.add ⟨b,o,none⟩ k) h _
   have hadd:Addr.add ⟨b,o,none⟩ k=⟨b,o+k,none⟩:=by
    unfold Addr.add;split
    ·subst_vars;rfl
    ·rfl
   rw [hadd];refine aDu s (v:=v) (by simpa using hv 0 v rfl) h1 ?_;refine aDU s l vs (k+1) _ hc (λj w hw=>?_) hk;have:=hv (j+1) w (by simpa using hw);rw [<-this];congr 1;omega
  ·cases hc
theorem aDt {A:AH} {h:Hp} {l1 l2:Bx} {b o:Nat} {cs:List Value} {ty:TypeId} {tt:TypeId} {K:Value->Prop} (s:Sim A (l1++(b,cs,ty)::l2) h) (hh:ldX P tt cs o K):ldD P tt ⟨b,o,none⟩ h K:=by
 unfold ldX at hh;unfold ldD;split at hh
 ·rename_i d m e1 e2;rw [e1,e2];simp only;split at hh
  ·rename_i e3;rw [e3];simp only;split at hh
   ·rename_i l e4;rw [e4];simp only;split at hh
    ·rename_i e5 e6;rw [e5];refine aDU s _ _ 0 _ e6 (λj v hv=>?_) hh;have hj:=(List.getElem?_eq_some_iff.1 hv).1;rw [List.getElem?_take_of_lt (by simp at hj;omega),List.getElem?_drop] at hv;rw [Nat.add_zero];exact hv
    ·exact hh.elim
   ·exact hh.elim
  ·rename_i e3;rw [e3];simp only;split at hh
   ·rename_i c v r e4 e5;rw [e4];simp only;split at hh
    ·rename_i e6;refine aDu s (v:=v) ?_ e6 hh;have:(cs.drop o)[0]? = some v:=by rw [e5];rfl
     rw [List.getElem?_drop] at this;exact this
    ·exact hh.elim
   ·exact hh.elim
 ·exact hh.elim
theorem aA6:∀ (vs cs:List Value) (o:Nat),(putL cs o vs).length=cs.length
 | [],_,_=>rfl
 | v::vs,cs,o=>by unfold putL;rw [aA6 vs];simp
theorem aBj:∀ (vs cs:List Value) (o j:Nat),(j<o\/o+vs.length<=j)->(putL cs o vs)[j]? = cs[j]?
 | [],_,_,_,_=>rfl
 | v::vs,cs,o,j,h=>by
  unfold putL;rw [aBj vs _ _ _ (by simp at h;omega),List.getElem?_set_ne (by simp at h;omega)]
theorem aDl {b o:Nat} {ty:TypeId} {l1 l2:Bx} {A:AH} {K:HP}:∀ (vs cs:List Value) (k:Nat) (h:Hp),Sim A (l1++(b,cs,ty)::l2) h->aAw vs=true->o+k+vs.length<=cs.length->
  (∀ h',Sim A (l1++(b,putL cs (o+k) vs,ty)::l2) h'->K h')->stL vs ⟨b,o,none⟩ k h K
 | [],cs,k,h,s,_,_,hk=>hk h s
 | v::vs,cs,k,h,s,ho,hn,hk=>by
  unfold aAw at ho;split at ho
  ·rename_i h1;show stC (Addr.add ⟨b,o,none⟩ k) v h _
   have hadd:Addr.add ⟨b,o,none⟩ k=⟨b,o+k,none⟩:=by
    unfold Addr.add;split
    ·subst_vars;rfl
    ·rfl
   rw [hadd];simp only [List.length_cons] at hn;refine aI2 s (yV s) (by simp;omega) h1 λh' s'=>?_;rw [List.set_append_right _ _ (Nat.le_refl _),Nat.sub_self,List.set_cons_zero] at s';exact aDl vs _ (k+1) h' s' ho (by simp;omega) hk
  ·cases ho
theorem aDk {i o m:Nat}:∀ {l:List (Nat × Nat)},aIH i o m l=true->∀ j,(i,j) ∈ l->j<o\/o+m<=j
 | [],_,_,h=>by simp at h
 | (i',j')::r,h,j,hm=>by
  unfold aIH at h;split at h
  ·cases h
  ·rename_i g;rcases List.mem_cons.1 hm with e | hm
   ·have e1:=(Prod.mk.inj e).1;have e2:=(Prod.mk.inj e).2;rw [<-e1,<- e2] at g;have:Nat.beq i i=true:=gC.2 rfl;rw [this,Bool.true_and] at g;rcases Nat.lt_or_ge j o with q | q
    ·exact .inl q
    ·have:Nat.ble o j=true:=Nat.ble_eq_true_of_le q;rw [this,Bool.true_and] at g;refine .inr ?_;rcases Nat.lt_or_ge j (o+m) with q2 | q2
     ·have:Nat.blt j (o+m)=true:=Nat.ble_eq_true_of_le q2;rw [this] at g;cases g
     ·exact q2
   ·exact aDk h j hm
theorem aJE {tt:TypeId} {i o:Nat} {v:Value} {K:SA->Prop} {K':HP} (r:RB E β s t A h) (hh:stX P tt s i o v K) (hk:∀ s' h',RB E β s' t A h'->SamB s β s' β->s'.env=s.env->s'.bv=s.bv->s'.ds=s.ds->K s'->K' h'):stD P tt ⟨β i,o,none⟩ v h K':=by
 unfold stX at hh;unfold stD;split at hh
 ·rename_i m cs ty e1 e2;rw [e1];simp only;split at hh
  ·rename_i g1 g2 g3 g4;rw [g1];simp only;obtain ⟨l1,l2,q1,q2⟩:=r.box e2;have sim:=r.sim;rw [q1] at sim;have hm:=gC.1 g1;refine aDl _ _ 0 h sim g3 (by have:=Nat.le_of_ble_eq_true g2;omega) λh' s'=>?_;rw [Nat.add_zero] at s';refine hk { s with bx:=setX s.bx i (putL cs o v.cells.toList) } h' ⟨r.env,λx j p hb=>?_,r.ds,?_,?_⟩ ⟨rfl,rfl,λj hj cs' ty' hl=>?_⟩ rfl rfl rfl hh
   ·obtain ⟨a1,q,a2⟩:=r.bv x j p hb;refine ⟨a1,?_⟩;rw [eJ e2];split
    ·exact ⟨_,rfl⟩
    ·exact ⟨_,a2⟩
   ·rw [q2];exact s'
   ·rw [hX];exact r.nd
   ·rw [eJ e2] at hl;split at hl
    ·rename_i e;subst e;simp only [Option.some.injEq,Prod.mk.injEq] at hl;obtain ⟨rfl,rfl⟩:=hl;exact ⟨rfl,cs,e2,aA6 _ _ _,λj hj=>aBj _ _ _ _ (by have:=aDk g4 j hj;omega)⟩
    ·exact ⟨rfl,cs',hl,rfl,λ_ _=>rfl⟩
  ·exact hh.elim
 ·exact hh.elim
theorem aDC {d:Nat} {cs:List Value} {ty:TypeId} {K:SA->Prop} (r:RB E β s t A h) (hh:aCS s d cs ty K):∃ s',K s'/\RB E (setF β d h.size) s' t A (h.push (.cells cs.toArray ty))/\SamB s β s' (setF β d h.size)/\s' = { s with bx:=(d,(cs,ty))::s.bx }:=by
 unfold aCS at hh;split at hh
 ·rename_i e1 e2;have hno:=dO.1 e1;refine ⟨_,hh,⟨r.env,λx j p hb=>?_,r.ds,?_,?_⟩,⟨rfl,rfl,λj hj cs' ty' hl=>?_⟩,rfl⟩
  ·obtain ⟨a1,q,a2⟩:=r.bv x j p hb;have hj:j≠d:=λe=>by rw [e,e1] at a2;cases a2
   refine ⟨?_,q,?_⟩
   ·unfold setF;rw [if_neg hj];exact a1
   ·rw [bE,if_neg (Ne.symm hj)];exact a2
  ·have h1:bxL (setF β d h.size) s.bx=bxL β s.bx:=rQ λj hj=>by
    unfold setF;rw [if_neg (λe=>hno (by rw [<-e];exact hj))]
   have:bxL (setF β d h.size) ((d,(cs,ty))::s.bx)++E=(h.size,cs,ty)::(bxL β s.bx++E):=by
    rw [<-h1];simp [bxL,setF]
   show Sim A (bxL (setF β d h.size) ((d,(cs,ty))::s.bx)++E) _;rw [this];exact r.sim.boxNew cs ty
  ·exact List.nodup_cons.2 ⟨hno,r.nd⟩
  ·have hj2:j≠d:=λe=>by subst e;exact (gG.1 e2) hj
   rw [bE,if_neg (Ne.symm hj2)] at hl;exact ⟨by unfold setF;rw [if_neg hj2],cs',hl,rfl,λ_ _=>rfl⟩
 ·exact hh.elim
theorem z9 {d:Nat} {cs:List Value} {ty:TypeId} {K:SA->Prop} (hh:aCS s d cs ty K):d ∉ s.bx.map (·.1):=by
 unfold aCS at hh;split at hh
 ·rename_i e1 e2;exact dO.1 e1
 ·exact hh.elim
theorem iF {x:Operand} {i k:Nat} (r:RB E β s t A h) (hb:lU s x=some (i,k)):evO t.env x=some (.pointer (some ⟨β i,k,none⟩))/\∃ p,lookX s.bx i=some p:=by
 unfold lU at hb;split at hb
 ·exact r.bv _ _ _ hb
 ·cases hb
def aBm (β:Nat->Nat):Res->Value->Prop
 | .v x,y=>y=x
 | .b i o,y=>y = .pointer (some ⟨β i,o,none⟩)
theorem aHS {st:TypeId} {f:Nat} {a:Addr} {K:Nat->Prop} {K':Value->Prop} (hh:aJI P st f K) (hk:∀ off,K off->K' (.pointer (some (a.add off)))):uM P st (.pointer (some a)) f K':=by
 unfold aJI at hh;unfold uM;split at hh
 ·rename_i e1;rw [e1];simp only;split at hh
  ·rename_i e2;rw [e2];simp only;split at hh
   ·rename_i e3;rw [e3];simp only;split at hh
    ·rename_i e4;rw [e4];exact hk _ hh
    ·exact hh.elim
   ·exact hh.elim
  ·exact hh.elim
 ·exact hh.elim
theorem aKH {tt:TypeId} {ix:Value} {a:Addr} {K:Nat->Prop} {K':Value->Prop} (hh:ixX P tt ix K) (hk:∀ off,K off->K' (.pointer (some (a.add off)))):u6 P tt (.pointer (some a)) ix K':=by
 unfold ixX at hh;unfold u6;split at hh
 ·rename_i e1;rw [e1];simp only;split at hh
  ·rename_i e2;rw [e2];exact nU (hk _) hh
  ·exact hh.elim
 ·exact hh.elim
theorem aDg {b o k:Nat}:Addr.add ⟨b,o,none⟩ k=⟨b,o+k,none⟩:=by
 unfold Addr.add;split
 ·subst_vars;rfl
 ·rfl
theorem aG5 {o:Oper} {K:Res->SA->AP} {Kp:Value->AP} {Kd:Deferred->AP} {K' Kp':Value->HP} {Kd':Deferred->HP} (r:RB E β s t A h) (hh:opA P CA pm s o A K Kp Kd)
  (hx:∀ x y β' s' A' h',RB E β' s' t A' h'->SamB s β s' β'->(s'.ds=s.ds/\s'.env=s.env/\s'.bv=s.bv)->aBm β' x y->(∀ i k,x = .b i k->∃ p,lookX s'.bx i=some p)->(nZ o.op=true->β'=β/\s'=s)->
   (isSt s o=false->∃ l1,s'.bx=l1++s.bx/\(aIS o=false->l1=[])/\∀ i ∈ s.bx.map (·.1),β' i=β i)->K x s' A'->K' y h')
  (hp:∀ v A' h',RB E β s t A' h'->Kp v A'->Kp' v h') (hd:∀ v A' h',RB E β s t A' h'->Kd v A'->Kd' v h'):bO P (nI CA) t.env o h K' Kp' Kd':=by
 have wr:∀ {A':AH} {h':Hp},Sim A' (bxL β s.bx++E) h'->RB E β s t A' h':=λq=>⟨r.env,r.bv,r.ds,q,r.nd⟩
 have gen:opV P CA s.env o A (λv=>K (.v v) s) Kp Kd->bO P (nI CA) t.env o h K' Kp' Kd':=λhv=>
  aGY r.env r.sim hv (λv A' h' q hk=>hx (.v v) v β s A' h' (wr q) (SamB.refl _ _) ⟨rfl,rfl,rfl⟩ rfl (λ_ _ e=>by cases e) (λ_=>⟨rfl,rfl⟩) (λ_=>⟨[],rfl,λ_=>rfl,λ_ _=>rfl⟩) hk) (λv A' h' q hk=>hp v A' h' (wr q) hk) (λv A' h' q hk=>hd v A' h' (wr q) hk)
 have hx0:∀ v,K (.v v) s A->K' v h:=λv hk=>hx (.v v) v β s A h r (SamB.refl _ _) ⟨rfl,rfl,rfl⟩ rfl (λ_ _ e=>by cases e) (λ_=>⟨rfl,rfl⟩) (λ_=>⟨[],rfl,λ_=>rfl,λ_ _=>rfl⟩) hk;have hxb:∀ i k,(∃ p,lookX s.bx i=some p)->K (.b i k) s A->K' (.pointer (some ⟨β i,k,none⟩)) h:=λi k hp hk=>hx (.b i k) _ β s A h r (SamB.refl _ _) ⟨rfl,rfl,rfl⟩ rfl (λi' k' e=>by cases e;exact hp) (λ_=>⟨rfl,rfl⟩) (λ_=>⟨[],rfl,λ_=>rfl,λ_ _=>rfl⟩) hk;unfold opA at hh;split at hh
 ·rename_i x ho;unfold bO;rw [ho];simp only;split at hh
  ·rename_i i k hb;obtain ⟨g1,g2⟩:=iF r hb;unfold wV;rw [g1];exact hxb _ _ g2 hh
  ·exact bC r.env hx0 hh
 ·rename_i x ho;unfold bO;rw [ho];simp only;split at hh
  ·rename_i i k hb;obtain ⟨g1,g2⟩:=iF r hb;unfold wV;rw [g1];exact hxb _ _ g2 hh
  ·exact bC r.env hx0 hh
 ·rename_i x ho;unfold bO;rw [ho];simp only;split at hh
  ·rename_i i k hb;obtain ⟨g1,g2⟩:=iF r hb;unfold wV;rw [g1];exact hxb _ _ g2 hh
  ·exact bC r.env (λv=>aDQ hx0) hh
 ·rename_i tt ho;split at hh
  ·rename_i d hd2;split at hh
   ·unfold bO;rw [ho];simp only;refine fG (λz h1=>?_) hh;obtain ⟨s',k1,k2,k3,k4⟩:=aDC r h1;rw [Array.toArray_toList] at k2
    refine hx (.b d 0) _ _ s' A _ k2 k3 (by rw [k4];exact ⟨rfl,rfl,rfl⟩) (by simp [aBm,setF]) (λi k e=>by cases e;rw [k4];simp only [bE,if_pos];exact ⟨_,rfl⟩) (λe=>by rw [ho] at e;cases e)
     (λ_=>⟨[_],by rw [k4];rfl,λe=>(by unfold aIS at e;rw [ho] at e;cases e),λi hi=>by unfold setF;rw [if_neg (λe=>z9 h1 (by rw [<-e];exact hi))]⟩) k1
   ·exact gen hh
  ·exact gen hh
 ·rename_i tt x ho;split at hh
  ·rename_i d hd2;split at hh
   ·unfold bO;rw [ho];simp only;refine bC r.env (λv h1=>?_) hh;obtain ⟨s',k1,k2,k3,k4⟩:=aDC r h1;rw [Array.toArray_toList] at k2
    refine hx (.b d 0) _ _ s' A _ k2 k3 (by rw [k4];exact ⟨rfl,rfl,rfl⟩) (by simp [aBm,setF]) (λi k e=>by cases e;rw [k4];simp only [bE,if_pos];exact ⟨_,rfl⟩) (λe=>by rw [ho] at e;cases e)
     (λ_=>⟨[_],by rw [k4];rfl,λe=>(by unfold aIS at e;rw [ho] at e;cases e),λi hi=>by unfold setF;rw [if_neg (λe=>z9 h1 (by rw [<-e];exact hi))]⟩) k1
   ·exact gen hh
  ·exact gen hh
 ·rename_i tt a ho;split at hh
  ·rename_i i k hb;obtain ⟨g1,g2⟩:=iF r hb;unfold bO;rw [ho];simp only;unfold wV;rw [g1];simp only [jN,aF];split at hh
   ·rename_i cs ty hl;obtain ⟨l1,l2,q1,q2⟩:=r.box hl;have sim:=r.sim;rw [q1] at sim;refine aDt sim ?_;unfold ldX at hh ⊢;split at hh
    ·split at hh
     ·split at hh
      ·split at hh
       ·exact hx0 _ hh
       ·exact hh.elim
      ·exact hh.elim
     ·split at hh
      ·split at hh
       ·exact hx0 _ hh
       ·exact hh.elim
      ·exact hh.elim
    ·exact hh.elim
   ·exact hh.elim
  ·exact gen hh
 ·rename_i tt a x ho;split at hh
  ·rename_i i k hb;obtain ⟨g1,g2⟩:=iF r hb;unfold bO;rw [ho];simp only;unfold wV;rw [g1];simp only [jN,aF];refine bC r.env (λv h1=>?_) hh
   exact aJE r h1 λs' h' r' sb e1 e2 e3 hk=>hx (.v undef) undef β s' A h' r' sb ⟨e3,e1,e2⟩ rfl (λ_ _ e=>by cases e) (λe=>by rw [ho] at e;cases e)
    (λe=>by unfold isSt at e;rw [ho] at e;simp only at e;rw [hb] at e;cases e) hk
  ·exact gen hh
 ·rename_i st x f ho;split at hh
  ·rename_i i k hb;obtain ⟨g1,g2⟩:=iF r hb;unfold bO;rw [ho];simp only;unfold wV;rw [g1];simp only;exact aHS hh λoff hk=>by rw [aDg];exact hxb _ _ g2 hk
  ·exact gen hh
 ·rename_i tt x ix ho;split at hh
  ·rename_i i k hb;obtain ⟨g1,g2⟩:=iF r hb;unfold bO;rw [ho];simp only;unfold wV;rw [g1];simp only;refine bC r.env (λvi h1=>?_) hh;exact aKH h1 λoff hk=>by rw [aDg];exact hxb _ _ g2 hk
  ·exact gen hh
 ·exact gen hh
end
end Go.Dn
