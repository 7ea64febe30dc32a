/- What is asked over a part of the heap is enough for the whole: boxes, and operations on them. -/
import Derived.Test.YtfnkdpmbpgffbaaGreatDnR
namespace Go.Dn
theorem lX {a b:Nat}:(Nat.beq a b=true)↔a=b:=⟨Nat.eq_of_beq_eq_true,λe=>by subst e;simp⟩
theorem aCi {a b:Nat}:(Nat.beq a b=false)↔a≠b:=by
 constructor
 .intro h e;subst e;simp at h
 .intro h;cases g:Nat.beq a b with
  | true=>exact absurd (lX.1 g) h
  | false=>rfl
theorem eF {t:Nat}:∀ {l:List Nat},memN t l=true↔t ∈ l
 | []=>by simp [memN]
 | x::r=>by
  unfold memN;cases g:Nat.beq x t with
  | true=>have:=lX.1 g;simp [this]
  | false=>
   have:=aCi.1 g;simp only [List.mem_cons];rw [eF];constructor
   .exact .inr
   .grind
theorem hP {t:Nat} {l:List Nat}:memN t l=false↔t ∉ l:=by
 rw [<-eF];cases memN t l<;>simp
theorem dF {d t:Nat} {p:Nat × Nat} {r:Bvs}:lookB ((d,p)::r) t=if d=t then some p else lookB r t:=by
 simp only [lookB];cases g:Nat.beq d t with
 | true=>simp [lX.1 g]
 | false=>simp [aCi.1 g]
theorem bH {d t:Nat} {p:List Value × TypeId} {r:Bxs}:lookX ((d,p)::r) t=if d=t then some p else lookX r t:=by
 simp only [lookX];cases g:Nat.beq d t with
 | true=>simp [lX.1 g]
 | false=>simp [aCi.1 g]
theorem lO {d:Nat}:∀ {l:Bvs} {t:Nat} {p:Nat × Nat},lookB (dropB d l) t=some p->lookB l t=some p/\t≠d
 | [],_,_,h=>by simp [dropB,lookB] at h
 | (x,q)::r,t,p,h=>by
  unfold dropB at h;cases g:Nat.beq x d with
  | true=>
   rw [g] at h;obtain ⟨b,a⟩:=lO h;have:=lX.1 g;subst this;exact ⟨by rw [dF,if_neg (Ne.symm a)];exact b,a⟩
  | false=>
   rw [g] at h;simp only at h;rw [dF] at h ⊢;have:=aCi.1 g;split at h
   .simp_all
   .rename_i e;obtain ⟨b,a⟩:=lO h;exact ⟨by rw [if_neg e];exact b,a⟩
theorem jV {i:Nat} {p:List Value × TypeId}:∀ {l:Bxs},lookX l i=some p->∃ a l2,l=a++(i,p)::l2/\(∀ e ∈ a,e.1≠i)
 | [],h=>by simp [lookX] at h
 | (d,q)::r,h=>by
  rw [bH] at h;split at h
  .rename_i e;subst e;cases h;exact ⟨[],r,rfl,λ_ h=>by simp at h⟩
  .rename_i e;obtain ⟨a,l2,rfl,c⟩:=jV h;refine ⟨(d,q)::a,l2,rfl,λf b=>?_⟩;rcases List.mem_cons.1 b with rfl | b
   .exact e
   .exact c _ b
theorem eB {i:Nat} {l:Bxs}:lookX l i=none↔i ∉ l.map (·.1):=by
 induction l with
 | nil=>simp [lookX]
 | cons e r ih=>
  obtain ⟨d,q⟩:=e;rw [bH];by_cases g:d=i
  .simp [g]
  .grind
theorem pX {i:Nat} {p:List Value × TypeId} {cs:List Value}:∀ {a l2:Bxs},(∀ e ∈ a,e.1≠i)->setX (a++(i,p)::l2) i cs=a++(i,(cs,p.2))::l2
 | [],l2,_=>by simp [setX]
 | (d,q)::a,l2,h=>by
  have b:d≠i:=h _ List.mem_cons_self;show setX ((d,q)::(a++(i,p)::l2)) i cs=_;unfold setX;rw [aCi.2 b];simp only;rw [pX λe c=>h e (List.mem_cons_of_mem _ c)];rfl
theorem eY {i j:Nat} {cs:List Value} {p:List Value × TypeId} {l:Bxs} (h:lookX l i=some p):lookX (setX l i cs) j=if i=j then some (cs,p.2) else lookX l j:=by
 obtain ⟨b,l2,rfl,a⟩:=jV h;rw [pX a];clear h
 induction b with
 | nil=>
  simp only [List.nil_append,bH];by_cases g:i=j
  .simp [g]
  .simp [g]
 | cons e b ih=>
  obtain ⟨d,q⟩:=e;simp only [List.cons_append,bH];have f:d≠i:=a _ List.mem_cons_self;rw [ih λe c=>a e (List.mem_cons_of_mem _ c)];by_cases g:d=j
  .grind
  .simp_all
theorem jI {i:Nat} {cs:List Value}:∀ {l:Bxs},(setX l i cs).map (·.1)=l.map (·.1)
 | []=>rfl
 | (d,q)::r=>by
  unfold setX;cases g:Nat.beq d i with
  | true=>rfl
  | false=>simp only [List.map_cons];rw [jI]
theorem Sim.perm {A:AH} {L b:Bx} {h:Hp} (s:Sim A L h) (p:L.Perm b):Sim A b h:=
 ⟨s.sub,λe m=>s.box e (p.mem_iff.2 m),(p.pairwise_iff (λ{_ _} a=>Ne.symm a)).1 s.apart⟩
def bxL (β:Nat->Nat) (bx:Bxs):Bx:=bx.map λe=>(β e.1,e.2.1,e.2.2)
def setF (β:Nat->Nat) (i b:Nat):Nat->Nat:=λj=>if j=i then b else β j
theorem sP {β β':Nat->Nat} {bx:Bxs} (h:∀ i ∈ bx.map (·.1),β i=β' i):bxL β bx=bxL β' bx:=by
 unfold bxL;apply List.map_congr_left;intro e a;rw [h e.1 (List.mem_map.2 ⟨e,a,rfl⟩)]
structure RB (E:Bx) (β:Nat->Nat) (s:SA) (t:St) (A:AH) (h:Hp):Prop where
 env:EnvLe s.env t.env
 bv:∀ x i o,lookB s.bv x=some (i,o)->look t.env x=some (.pointer (some ⟨β i,o,none⟩))/\∃ p,lookX s.bx i=some p
 ds:t.ds=s.ds
 sim:Sim A (bxL β s.bx++E) h
 nd:(s.bx.map (·.1)).Nodup
structure SamB (s0:SA) (β0:Nat->Nat) (s:SA) (β:Nat->Nat):Prop where
 pi:s.pi=s0.pi
 pr:s.pr=s0.pr
 kept:∀ i ∈ s0.pi,∀ cs ty,lookX s.bx i=some (cs,ty)->β i=β0 i/\∃ c0,lookX s0.bx i=some (c0,ty)/\cs.length=c0.length/\∀ j,(i,j) ∈ s0.pr->cs[j]? = c0[j]?
theorem SamB.refl (s:SA) (β:Nat->Nat):SamB s β s β:=⟨rfl,rfl,λ_ _ cs _ h=>⟨rfl,cs,h,rfl,λ_ _=>rfl⟩⟩
theorem SamB.of_bx {s s':SA} {β:Nat->Nat} (a:s'.bx=s.bx) (b:s'.pi=s.pi) (c:s'.pr=s.pr):SamB s β s' β:=⟨b,c,λ_ _ cs _ h=>⟨rfl,cs,by rw [<-a];exact h,rfl,λ_ _=>rfl⟩⟩
theorem SamB.trans {s0 s1 a:SA} {β0 β1 β2:Nat->Nat} (h:SamB s0 β0 s1 β1) (k:SamB s1 β1 a β2):SamB s0 β0 a β2:=by
 refine ⟨k.pi.trans h.pi,k.pr.trans h.pr,λi hi cs ty c=>?_⟩;obtain ⟨e1,c1,d,e,f⟩:=k.kept i (by rw [h.pi];exact hi) cs ty c;obtain ⟨g,c2,l2,l,m⟩:=h.kept i hi c1 ty d;exact ⟨e1.trans g,c2,l2,e.trans l,λj b=>(f j (by rw [h.pr];exact b)).trans (m j b)⟩
section
variable {P:Program} {CA:CTA} {pm:List Nat} {E:Bx} {A:AH} {h:Hp} {β:Nat->Nat} {s:SA} {t:St}
theorem RB.box (r:RB E β s t A h) {i:Nat} {cs:List Value} {ty:TypeId} (c:lookX s.bx i=some (cs,ty)):∃ b l2,bxL β s.bx++E=b++(β i,cs,ty)::l2/\∀ a,bxL β (setX s.bx i a)++E=b++(β i,a,ty)::l2:=by
 obtain ⟨b,l2,e,d⟩:=jV c;refine ⟨bxL β b,bxL β l2++E,by rw [e];simp [bxL],λa=>?_⟩;rw [e,pX d];simp [bxL]
theorem aAE {A:AH} {h:Hp} {a l2:Bx} {b:Nat} {cs:List Value} {ty:TypeId} (s:Sim A (a++(b,cs,ty)::l2) h):(a++(b,cs,ty)::l2)[a.length]? = some (b,cs,ty):=by simp
theorem aEn {A:AH} {h:Hp} {g l2:Bx} {b o:Nat} {cs:List Value} {ty:TypeId} {c:CK} {v:Value} {K:Value->Prop} (s:Sim A (g++(b,cs,ty)::l2) h) (a:cs[o]? = some v) (f:ckV c v=true) (d:K v):ldC c ⟨b,o,none⟩ h K:=by
 have e:=aAE s;cases c<;>cases v<;>simp only [ckV] at f<;>first | (cases f;done) | skip
 .rename_i k k' x;have:k=k':=by cases k<;>cases k'<;>first | rfl | cases f
  subst this;exact aMY s e a d
 .exact aNe s e a d
 .exact aNa s e a d
 .exact aMW s e a d
 .exact aME s e a d
 all_goals exact aML s e a d
theorem aEL {A:AH} {h:Hp} {e l2:Bx} {b o:Nat} {cs:List Value} {ty:TypeId} (s:Sim A (e++(b,cs,ty)::l2) h):∀ (l:List CK) (vs:List Value) (k:Nat) (K:List Value->Prop),aGr l vs=true->(∀ j v,vs[j]? = some v->cs[o+k+j]? = some v)->K vs->ldL l ⟨b,o,none⟩ k h K
 | [],[],_,_,_,_,hk=>hk
 | [],_::_,_,_,a,_,_=>by simp [aGr] at a
 | _::_,[],_,_,a,_,_=>by simp [aGr] at a
 | c::l,v::vs,k,K,a,hv,hk=>by
  unfold aGr at a;split at a
  .rename_i f;show ldC c (Addr.add ⟨b,o,none⟩ k) h _
   have d:Addr.add ⟨b,o,none⟩ k=⟨b,o+k,none⟩:=by
    unfold Addr.add;split
    .simp_all
    .rfl
   rw [d];refine aEn s (v:=v) (by simpa using hv 0 v rfl) f ?_;refine aEL s l vs (k+1) _ a (λj w g=>?_) hk;have:=hv (j+1) w (by simp_all);rw [<-this];congr 1;omega
  .cases a
theorem aEu {A:AH} {h:Hp} {p l2:Bx} {b o:Nat} {cs:List Value} {ty:TypeId} {n:TypeId} {K:Value->Prop} (s:Sim A (p++(b,cs,ty)::l2) h) (a:ldX P n cs o K):ldD P n ⟨b,o,none⟩ h K:=by
 unfold ldX at a;unfold ldD;split at a
 .rename_i d m e1 q;rw [e1,q];simp only;split at a
  .rename_i e;rw [e];simp only;split at a
   .rename_i l f;rw [f];simp only;split at a
    .rename_i g i;rw [g];refine aEL s _ _ 0 _ i (λj v k=>?_) a;have u:=(List.getElem?_eq_some_iff.1 k).1;rw [List.getElem?_take_of_lt (by simp at u;omega),List.getElem?_drop] at k;rw [Nat.add_zero];exact k
    .exact a.elim
   .exact a.elim
  .rename_i e;rw [e];simp only;split at a
   .rename_i c v r f g;rw [f];simp only;split at a
    .rename_i i;refine aEn s (v:=v) ?_ i a;have:(cs.drop o)[0]? = some v:=by rw [g];rfl
     rw [List.getElem?_drop] at this;exact this
    .exact a.elim
   .exact a.elim
 .exact a.elim
theorem aB2:∀ (vs cs:List Value) (o:Nat),(putL cs o vs).length=cs.length
 | [],_,_=>rfl
 | v::vs,cs,o=>by unfold putL;rw [aB2 vs];simp
theorem aCI:∀ (vs cs:List Value) (o j:Nat),(j<o\/o+vs.length<=j)->(putL cs o vs)[j]? = cs[j]?
 | [],_,_,_,_=>rfl
 | v::vs,cs,o,j,h=>by
  unfold putL;rw [aCI vs _ _ _ (by simp at h;omega),List.getElem?_set_ne (by simp at h;omega)]
theorem aEB {b o:Nat} {ty:TypeId} {d l2:Bx} {A:AH} {K:HP}:∀ (vs cs:List Value) (k:Nat) (h:Hp),Sim A (d++(b,cs,ty)::l2) h->aBy vs=true->o+k+vs.length<=cs.length->
  (∀ h',Sim A (d++(b,putL cs (o+k) vs,ty)::l2) h'->K h')->stL vs ⟨b,o,none⟩ k h K
 | [],cs,k,h,s,_,_,hk=>hk h s
 | v::vs,cs,k,h,s,c,hn,hk=>by
  unfold aBy at c;split at c
  .rename_i e;show stC (Addr.add ⟨b,o,none⟩ k) v h _
   have a:Addr.add ⟨b,o,none⟩ k=⟨b,o+k,none⟩:=by
    unfold Addr.add;split
    .simp_all
    .rfl
   rw [a];simp only [List.length_cons] at hn;refine aJu s (aAE s) (by simp;omega) e λh' s'=>?_;rw [List.set_append_right _ _ (Nat.le_refl _),Nat.sub_self,List.set_cons_zero] at s';exact aEB vs _ (k+1) h' s' c (by simp;omega) hk
  .cases c
theorem aEZ {i o m:Nat}:∀ {l:List (Nat × Nat)},aJO i o m l=true->∀ j,(i,j) ∈ l->j<o\/o+m<=j
 | [],_,_,h=>by simp at h
 | (i',j')::r,h,j,a=>by
  unfold aJO at h;split at h
  .cases h
  .rename_i g;rcases List.mem_cons.1 a with e | a
   .have e1:=(Prod.mk.inj e).1;have c:=(Prod.mk.inj e).2;rw [<-e1,<- c] at g;have:Nat.beq i i=true:=lX.2 rfl;rw [this,Bool.true_and] at g;rcases Nat.lt_or_ge j o with q | q
    .exact .inl q
    .have:Nat.ble o j=true:=Nat.ble_eq_true_of_le q;rw [this,Bool.true_and] at g;refine .inr ?_;rcases Nat.lt_or_ge j (o+m) with b | b
     .have:Nat.blt j (o+m)=true:=Nat.ble_eq_true_of_le b;rw [this] at g;cases g
     .exact b
   .exact aEZ h j a
theorem aLn {d:TypeId} {i o:Nat} {v:Value} {K:SA->Prop} {K':HP} (r:RB E β s t A h) (a:stX P d s i o v K) (k:∀ s' h',RB E β s' t A h'->SamB s β s' β->s'.env=s.env->s'.bv=s.bv->s'.ds=s.ds->K s'->K' h'):stD P d ⟨β i,o,none⟩ v h K':=by
 unfold stX at a;unfold stD;split at a
 .rename_i m cs ty e1 b;rw [e1];simp only;split at a
  .rename_i f C l n;rw [f];simp only;obtain ⟨D,l2,u,F⟩:=r.box b;have sim:=r.sim;rw [u] at sim;have G:=lX.1 f;refine aEB _ _ 0 h sim l (by simp_all) λh' s'=>?_;rw [Nat.add_zero] at s';refine k { s with bx:=setX s.bx i (putL cs o v.cells.toList) } h' ⟨r.env,λx j p w=>?_,r.ds,?_,?_⟩ ⟨rfl,rfl,λj g y z c=>?_⟩ rfl rfl rfl a
   .obtain ⟨B,q,H⟩:=r.bv x j p w;refine ⟨B,?_⟩;rw [eY b];split
    .simp_all
    .simp_all
   .simp_all
   .rw [jI];exact r.nd
   .rw [eY b] at c;split at c
    .rename_i e;subst e;simp only [Option.some.injEq,Prod.mk.injEq] at c;obtain ⟨rfl,rfl⟩:=c;exact ⟨rfl,cs,b,aB2 _ _ _,λj g=>aCI _ _ _ _ (by have:=aEZ n j g;omega)⟩
    .simp_all
  .exact a.elim
 .exact a.elim
theorem aE3 {d:Nat} {cs:List Value} {ty:TypeId} {K:SA->Prop} (r:RB E β s t A h) (c:aDz s d cs ty K):∃ s',K s'/\RB E (setF β d h.size) s' t A (h.push (.cells cs.toArray ty))/\SamB s β s' (setF β d h.size)/\s' = { s with bx:=(d,(cs,ty))::s.bx }:=by
 unfold aDz at c;split at c
 .rename_i e1 k;have hno:=eB.1 e1;refine ⟨_,c,⟨r.env,λx j p l=>?_,r.ds,?_,?_⟩,⟨rfl,rfl,λj a f m i=>?_⟩,rfl⟩
  .obtain ⟨n,q,g⟩:=r.bv x j p l;have a:j≠d:=λe=>by rw [e,e1] at g;cases g
   refine ⟨?_,q,?_⟩
   .unfold setF;rw [if_neg a];exact n
   .rw [bH,if_neg (Ne.symm a)];exact g
  .have o:bxL (setF β d h.size) s.bx=bxL β s.bx:=sP λj a=>by
    unfold setF;rw [if_neg (λe=>hno (by simp_all))]
   have:bxL (setF β d h.size) ((d,(cs,ty))::s.bx)++E=(h.size,cs,ty)::(bxL β s.bx++E):=by
    rw [<-o];simp [bxL,setF]
   show Sim A (bxL (setF β d h.size) ((d,(cs,ty))::s.bx)++E) _;rw [this];exact r.sim.boxNew cs ty
  .exact List.nodup_cons.2 ⟨hno,r.nd⟩
  .have b:j≠d:=λe=>by subst e;exact (hP.1 k) a
   rw [bH,if_neg (Ne.symm b)] at i;exact ⟨by unfold setF;rw [if_neg b],f,i,rfl,λ_ _=>rfl⟩
 .exact c.elim
theorem aAP {d:Nat} {cs:List Value} {ty:TypeId} {K:SA->Prop} (a:aDz s d cs ty K):d ∉ s.bx.map (·.1):=by
 unfold aDz at a;split at a
 .rename_i e1 b;exact eB.1 e1
 .exact a.elim
theorem jG {x:Operand} {i k:Nat} (r:RB E β s t A h) (a:mN s x=some (i,k)):evO t.env x=some (.pointer (some ⟨β i,k,none⟩))/\∃ p,lookX s.bx i=some p:=by
 unfold mN at a;split at a
 .exact r.bv _ _ _ a
 .cases a
def aCy (β:Nat->Nat):Res->Value->Prop
 | .v x,y=>y=x
 | .b i o,y=>y = .pointer (some ⟨β i,o,none⟩)
theorem aI7 {st:TypeId} {f:Nat} {a:Addr} {K:Nat->Prop} {K':Value->Prop} (b:aLw P st f K) (c:∀ off,K off->K' (.pointer (some (a.add off)))):wW P st (.pointer (some a)) f K':=by
 unfold aLw at b;unfold wW;split at b
 .rename_i e1;rw [e1];simp only;split at b
  .rename_i d;rw [d];simp only;split at b
   .rename_i e;rw [e];simp only;split at b
    .rename_i g;rw [g];exact c _ b
    .exact b.elim
   .exact b.elim
  .exact b.elim
 .exact b.elim
theorem aL3 {c:TypeId} {d:Value} {a:Addr} {K:Nat->Prop} {K':Value->Prop} (b:ixX P c d K) (e:∀ off,K off->K' (.pointer (some (a.add off)))):xY P c (.pointer (some a)) d K':=by
 unfold ixX at b;unfold xY;split at b
 .rename_i e1;rw [e1];simp only;split at b
  .rename_i f;rw [f];exact pW (e _) b
  .exact b.elim
 .exact b.elim
theorem aEF {b o k:Nat}:Addr.add ⟨b,o,none⟩ k=⟨b,o+k,none⟩:=by
 unfold Addr.add;split
 .simp_all
 .rfl
theorem aG9 {o:Oper} {K:Res->SA->AP} {Kp:Value->AP} {Kd:Deferred->AP} {K' Kp':Value->HP} {Kd':Deferred->HP} (r:RB E β s t A h) (b:opA P CA pm s o A K Kp Kd)
  (C:∀ x y β' s' g h',RB E β' s' t g h'->SamB s β s' β'->(s'.ds=s.ds/\s'.env=s.env/\s'.bv=s.bv)->aCy β' x y->(∀ i k,x = .b i k->∃ p,lookX s'.bx i=some p)->(qF o.op=true->β'=β/\s'=s)->
   (isSt s o=false->∃ G,s'.bx=G++s.bx/\(aJe o=false->G=[])/\∀ i ∈ s.bx.map (·.1),β' i=β i)->K x s' g->K' y h')
  (H:∀ v g h',RB E β s t g h'->Kp v g->Kp' v h') (M:∀ v g h',RB E β s t g h'->Kd v g->Kd' v h'):bT P (qX CA) t.env o h K' Kp' Kd':=by
 have I:∀ {g:AH} {h':Hp},Sim g (bxL β s.bx++E) h'->RB E β s t g h':=λq=>⟨r.env,r.bv,r.ds,q,r.nd⟩
 have gen:opV P CA s.env o A (λv=>K (.v v) s) Kp Kd->bT P (qX CA) t.env o h K' Kp' Kd':=λN=>
  aGF r.env r.sim N (λv g h' q j=>C (.v v) v β s g h' (I q) (SamB.refl _ _) ⟨rfl,rfl,rfl⟩ rfl (λ_ _ e=>by cases e) (λ_=>⟨rfl,rfl⟩) (λ_=>⟨[],rfl,λ_=>rfl,λ_ _=>rfl⟩) j) (λv g h' q j=>H v g h' (I q) j) (λv g h' q j=>M v g h' (I q) j)
 have B:∀ v,K (.v v) s A->K' v h:=λv j=>C (.v v) v β s A h r (SamB.refl _ _) ⟨rfl,rfl,rfl⟩ rfl (λ_ _ e=>by cases e) (λ_=>⟨rfl,rfl⟩) (λ_=>⟨[],rfl,λ_=>rfl,λ_ _=>rfl⟩) j;have n:∀ i k,(∃ p,lookX s.bx i=some p)->K (.b i k) s A->K' (.pointer (some ⟨β i,k,none⟩)) h:=λi k H j=>C (.b i k) _ β s A h r (SamB.refl _ _) ⟨rfl,rfl,rfl⟩ rfl (λU k' e=>by cases e;exact H) (λ_=>⟨rfl,rfl⟩) (λ_=>⟨[],rfl,λ_=>rfl,λ_ _=>rfl⟩) j;unfold opA at b;split at b
 .rename_i x c;unfold bT;rw [c];simp only;split at b
  .rename_i i k l;obtain ⟨m,u⟩:=jG r l;unfold wV;rw [m];exact n _ _ u b
  .exact bD r.env B b
 .rename_i x c;unfold bT;rw [c];simp only;split at b
  .rename_i i k l;obtain ⟨m,u⟩:=jG r l;unfold wV;rw [m];exact n _ _ u b
  .exact bD r.env B b
 .rename_i x c;unfold bT;rw [c];simp only;split at b
  .rename_i i k l;obtain ⟨m,u⟩:=jG r l;unfold wV;rw [m];exact n _ _ u b
  .exact bD r.env (λv=>aEY B) b
 .rename_i F c;split at b
  .rename_i d J;split at b
   .unfold bT;rw [c];simp only;refine fZ (λz w=>?_) b;obtain ⟨s',k1,k2,L,D⟩:=aE3 r w;rw [Array.toArray_toList] at k2
    refine C (.b d 0) _ _ s' A _ k2 L (by simp_all) (by simp [aCy,setF]) (λi k e=>by cases e;rw [D];simp only [bH,if_pos];exact ⟨_,rfl⟩) (λe=>by rw [c] at e;cases e)
     (λ_=>⟨[_],by rw [D];rfl,λe=>(by unfold aJe at e;rw [c] at e;cases e),λi hi=>by unfold setF;rw [if_neg (λe=>aAP w (by simp_all))]⟩) k1
   .exact gen b
  .exact gen b
 .rename_i F x c;split at b
  .rename_i d J;split at b
   .unfold bT;rw [c];simp only;refine bD r.env (λv w=>?_) b;obtain ⟨s',k1,k2,L,D⟩:=aE3 r w;rw [Array.toArray_toList] at k2
    refine C (.b d 0) _ _ s' A _ k2 L (by simp_all) (by simp [aCy,setF]) (λi k e=>by cases e;rw [D];simp only [bH,if_pos];exact ⟨_,rfl⟩) (λe=>by rw [c] at e;cases e)
     (λ_=>⟨[_],by rw [D];rfl,λe=>(by unfold aJe at e;rw [c] at e;cases e),λi hi=>by unfold setF;rw [if_neg (λe=>aAP w (by simp_all))]⟩) k1
   .exact gen b
  .exact gen b
 .rename_i F a c;split at b
  .rename_i i k l;obtain ⟨m,u⟩:=jG r l;unfold bT;rw [c];simp only;unfold wV;rw [m];simp only [kV,aF];split at b
   .rename_i cs ty O;obtain ⟨G,l2,Q,V⟩:=r.box O;have sim:=r.sim;rw [Q] at sim;refine aEu sim ?_;unfold ldX at b ⊢;split at b
    .grind
    .exact b.elim
   .exact b.elim
  .exact gen b
 .rename_i F a x c;split at b
  .rename_i i k l;obtain ⟨m,u⟩:=jG r l;unfold bT;rw [c];simp only;unfold wV;rw [m];simp only [kV,aF];refine bD r.env (λv w=>?_) b
   exact aLn r w λs' h' r' R e1 S T j=>C (.v undef) undef β s' A h' r' R ⟨T,e1,S⟩ rfl (λ_ _ e=>by cases e) (λe=>by rw [c] at e;cases e)
    (λe=>by unfold isSt at e;rw [c] at e;simp only at e;rw [l] at e;cases e) j
  .exact gen b
 .rename_i st x f c;split at b
  .rename_i i k l;obtain ⟨m,u⟩:=jG r l;unfold bT;rw [c];simp only;unfold wV;rw [m];simp only;exact aI7 b λoff j=>by rw [aEF];exact n _ _ u j
  .exact gen b
 .rename_i F x W c;split at b
  .rename_i i k l;obtain ⟨m,u⟩:=jG r l;unfold bT;rw [c];simp only;unfold wV;rw [m];simp only;refine bD r.env (λX w=>?_) b;exact aL3 w λoff j=>by rw [aEF];exact n _ _ u j
  .exact gen b
 .exact gen b
end
end Go.Dn
