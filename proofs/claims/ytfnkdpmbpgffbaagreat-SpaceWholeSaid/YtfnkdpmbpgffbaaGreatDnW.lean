/- What is asked over a part of the heap is enough for the whole: all code. -/
import Derived.Test.YtfnkdpmbpgffbaaGreatDnV
namespace Go.Dn
section
variable {P:Program} {CA:CTA} {n:Nat} {pm:List Nat} {E:Bx} {A:AH} {h:Hp} {β:Nat->Nat} {s:SA} {t:St}
theorem aBX {keep:List Nat}:∀ {l:List (Nat × Sh)},aCA keep l=true->∀ t ∈ l.map (·.1),t ∉ keep
 | [],_,_,h=>by simp at h
 | p::r,a,t,b=>by
  unfold aCA at a;split at a
  .cases a
  .rename_i g;rcases List.mem_cons.1 b with rfl | b
   .exact hP.1 g
   .exact aBX a t b
theorem aAq {cl:Cl} {i j:Nat}:∀ {bx:Bxs} {cs:List Value} {ty:TypeId},(i,(cs,ty)) ∈ bx->j<cs.length->memC i j cl=false->(i,j) ∈ protX cl bx
 | [],_,_,h,_,_=>by simp at h
 | (d,p)::r,cs,ty,h,hj,hm=>by
  have key:∀ (l:List Value) (k:Nat),k<=j->j<k+l.length->(i,j) ∈ aBL i cl l k:=by
   intro l
   induction l with
   | nil=>intro k b a;simp at a;omega
   | cons v l ih=>
    intro k b a;simp only [List.length_cons] at a;unfold aBL;by_cases e:k=j
    .simp_all
    .grind
  unfold protX;rcases List.mem_cons.1 h with e | h
  .grind
  .exact List.mem_append.2 (.inr (aAq h hj hm))
def JP (E:Bx) (β:Nat->Nat) (s:SA) (J:JoinA) (β1:Nat->Nat) (vs:List Value) (A:AH) (h:Hp):Prop:=
 (∀ i ∈ keptI s.bv J.keep,β1 i=β i)/\Sim A (bxL β1 (putCells (keepX (keptI s.bv J.keep) s.bx) J.cells vs)++E) h/\SamB s β { s with bx:=putCells (keepX (keptI s.bv J.keep) s.bx) J.cells vs } β1
theorem aEV (r:RB E β s t A h) {ids:List Nat} {cl:Cl} {vs:List Value}:((putCells (keepX ids s.bx) cl vs).map (·.1)).Nodup:=by
 rw [fR];exact r.nd.sublist (oM.map _)
theorem RB.rejoin (r:RB E β s t A h) {J:JoinA} (j:aCA J.keep J.live=true) {e:Env} (k:∀ x v,look e x=some v->x ∈ J.live.map (·.1)) {β1:Nat->Nat} {vs:List Value} {d:AH} {f:Hp} (l:JP E β s J β1 vs d f) :
  RB E β1 (gA s J e vs) ⟨e++keepE t.env J.keep,t.ds⟩ d f:=by
 obtain ⟨m,q,z⟩:=l;refine ⟨λx v a=>?_,λx i o a=>?_,r.ds,q,aEV r⟩
 .have a:look (e++keepE s.env J.keep) x=some v:=a;show look (e++keepE t.env J.keep) x=some v;rw [mM] at a ⊢;cases g:look e x with
  | some w=>rw [g] at a;exact a
  | none=>
   rw [g,Option.none_or,kL] at a;rw [Option.none_or,kL];split at a
   .rename_i b;rw [if_pos b];exact r.env _ _ a
   .cases a
 .have a:lookB (keepB s.bv J.keep) x=some (i,o):=a;rw [oG] at a;split at a
  .rename_i b;obtain ⟨u,p,y⟩:=r.bv x i o a;have hi:i ∈ keptI s.bv J.keep:=tE.2 ⟨x,b,o,a⟩
   have c:look e x=none:=by
    cases g:look e x with
    | none=>rfl
    | some w=>exact absurd b (aBX j x (k x w g))
   refine ⟨?_,?_⟩
   .show look (e++keepE t.env J.keep) x=_;rw [mM,c,Option.none_or,kL,if_pos b,u,m i hi]
   .show ∃ p,lookX (putCells (keepX (keptI s.bv J.keep) s.bx) J.cells vs) i=some p;cases g:lookX (putCells (keepX (keptI s.bv J.keep) s.bx) J.cells vs) i with
    | some p=>exact ⟨p,rfl⟩
    | none=>
     rw [eB,fR,<- eB,iI,if_pos hi,y] at g;cases g
  .cases a
theorem JP.sam {J:JoinA} {β1:Nat->Nat} {vs:List Value} {a:AH} {b:Hp} {e:Env} (c:JP E β s J β1 vs a b):SamB s β (gA s J e vs) β1:=⟨rfl,rfl,c.2.2.kept⟩
theorem JP.of {J:JoinA} (r:RB E β s t A h) {β1:Nat->Nat} {s1:SA} {u:St} {k:AH} {l:Hp} (m:RB E β1 s1 u k l) (o:SamB (nQ s J) β s1 β1) (v:aHY s1.bx (keptI s.bv J.keep)=true) {vs:List Value} (w:gL s1.bx J.cells=some vs) :
  JP E β s J β1 vs k l:=by
 have x:∀ i ∈ keptI s.bv J.keep,∃ c1 ty a,lookX s1.bx i=some (c1,ty)/\β1 i=β i/\lookX s.bx i=some (a,ty)/\c1.length=a.length/\∀ j,memC i j J.cells=false->c1[j]? = a[j]?:=by
  intro i hi;obtain ⟨⟨c1,ty⟩,q⟩:=aFb v i hi;obtain ⟨e1,a,d,e,f⟩:=o.kept i (List.mem_append.2 (.inl hi)) c1 ty q;refine ⟨c1,ty,a,q,e1,d,e,λj y=>?_⟩;rcases Nat.lt_or_ge j a.length with g | g
  .refine f j (List.mem_append.2 (.inl (aAq (cs:=a) (ty:=ty) ?_ g y)));refine aAs ?_;rw [iI,if_pos hi];exact d
  .simp_all
 have b:∀ i p,lookX (putCells (keepX (keptI s.bv J.keep) s.bx) J.cells vs) i=some p->lookX s1.bx i=some p:=by
  refine nH w λi a ty c=>?_;rw [iI] at c;split at c
  .grind
  .cases c
 refine ⟨λi hi=>(x i hi).choose_spec.choose_spec.choose_spec.2.1,aKb m.sim m.nd (aEV r) b,rfl,rfl,λi hi cs ty c=>?_⟩;obtain ⟨e1,a,d,e,f⟩:=o.kept i (List.mem_append.2 (.inr hi)) cs ty (b i _ c);exact ⟨e1,a,d,e,λj z=>f j (List.mem_append.2 (.inr z))⟩
theorem JP.back {J:JoinA} (r:RB E β s t A h) {β1 β2:Nat->Nat} {vs a:List Value} {e:Env} {m d:AH} {o f:Hp} (g:JP E β s J β1 vs m o) (p:J.cells.length=a.length) (c:JP E β1 (gA s J e vs) J β2 a d f):JP E β s J β2 a d f:=by
 have j:keptI (gA s J e vs).bv J.keep=keptI s.bv J.keep:=pM _ λ_ q=>q
 have u:putCells (keepX (keptI (gA s J e vs).bv J.keep) (gA s J e vs).bx) J.cells a=putCells (keepX (keptI s.bv J.keep) s.bx) J.cells a:=by
  rw [j]
  have:keepX (keptI s.bv J.keep) (gA s J e vs).bx=(gA s J e vs).bx:=zR λi hi=>by
   have hi:i ∈ (putCells (keepX (keptI s.bv J.keep) s.bx) J.cells vs).map (·.1):=hi;rw [fR] at hi;exact aHf hi
  rw [this];exact (kC jE p (r.nd.sublist (oM.map _))).symm
 obtain ⟨k,l,b⟩:=c;rw [u] at l b;rw [j] at k;exact ⟨λi hi=>(k i hi).trans (g.1 i hi),l,(g.sam (e:=e)).trans ⟨b.pi,b.pr,b.kept⟩⟩
theorem SamB.back {J:JoinA} {β1:Nat->Nat} {s1:SA} (a:SamB (nQ s J) β s1 β1):SamB s β (aE4 s s1) β1:=by
 refine ⟨rfl,rfl,λi hi cs ty b=>?_⟩;obtain ⟨e1,c,d,e,f⟩:=a.kept i (List.mem_append.2 (.inr hi)) cs ty b;exact ⟨e1,c,d,e,λj g=>f j (List.mem_append.2 (.inr g))⟩
theorem RB.back {β1:Nat->Nat} {s1:SA} {b:St} {c:AH} {d:Hp} (a:RB E β1 s1 b c d):RB E β1 (aE4 s s1) b c d:=⟨a.env,a.bv,a.ds,a.sim,a.nd⟩
theorem RB.gd {J:JoinA} (r:RB E β s t A h):RB E β (nQ s J) t A h:=⟨r.env,r.bv,r.ds,r.sim,r.nd⟩
theorem aBQ {ops:List Oper} {a:List Nat}:∀ {c:List Nat},aB5 P n ops a s c=true->∀ j ∈ c,aHO P n ops a s j=true
 | [],_,_,h=>by simp at h
 | x::r,hf,j,b=>by
  unfold aB5 at hf;rw [Bool.and_eq_true] at hf;rcases List.mem_cons.1 b with rfl | b
  .exact hf.1
  .exact aBQ hf.2 j b
theorem xQ {d j:Nat}:∀ {ops:List Oper} {k:Nat},oH d j ops k=true->∀ (i:Nat) (o:Oper),ops[i]? = some o->k+i≠j->o.dst≠some d
 | [],_,_,_,_,h,_=>by simp at h
 | o0::r,k,a,i,o,b,hne=>by
  unfold oH at a;cases i with
  | zero=>
   simp at b;subst b;intro e;rw [e] at a;simp only at a;rw [lX.2 rfl,aCi.2 (by omega)] at a;cases a
  | succ i=>
   have b:r[i]? = some o:=by simpa using b
   have c:oH d j r (k+1)=true:=by grind
   exact xQ c i o b (by omega)
theorem zZ:∀ {l:List Nat},yI l=true->l.Nodup
 | [],_=>List.nodup_nil
 | x::r,h=>by
  unfold yI at h;rw [Bool.and_eq_true] at h;refine List.nodup_cons.2 ⟨?_,zZ h.2⟩;have:=h.1;simp only [Bool.not_eq_true'] at this;exact hP.1 this
theorem aAu {m:Nat}:∀ {l:List Nat},yN m l=true->∀ x ∈ l,x<m
 | [],_,_,h=>by simp at h
 | y::r,h,x,a=>by
  unfold yN at h;rw [Bool.and_eq_true] at h;rcases List.mem_cons.1 a with rfl | a
  .simp_all
  .exact aAu h.2 x a
theorem FI.start {ops:List Oper} {a c:List Nat} (l:yI a=true) (m:yN ops.length a=true) (p:aB5 P n ops a s c=true) :
  FI P n pm ops c (Array.replicate ops.length false) (Array.replicate ops.length false) a [] s t:=by
 have e:∀ j ∈ a,(Array.replicate ops.length false).getD j true=false:=λj b=>by
  have:=aAu m j b;simp [this]
 have one:∀ j ∈ c,∃ o d,ops[j]? = some o/\isFl P n o=some d/\(look s.env d=none/\lookB s.bv d=none)/\memN j a=true/\∀ k ok,ops[k]? = some ok->k≠j->ok.dst≠some d:=by
  intro j b;have:=aBQ p j b;unfold aHO at this;split at this
  .rename_i o f;split at this
   .rename_i d i;split at this
    .rename_i e1 q;rw [Bool.and_eq_true] at this;exact ⟨o,d,f,i,⟨e1,q⟩,this.2,λk ok r u=>xQ this.1 k ok r (by omega)⟩
    .cases this
   .cases this
  .cases this
 refine ⟨λ_ _ _=>rfl,(by simp [idx]),rfl,(by simp [idx]),(by simp [idx]),zZ l,λj b _=>?_,e,λj b=>?_,λj b _ o d f i=>?_,(by simp)⟩
 .obtain ⟨_,_,_,_,_,g,_⟩:=one j b;exact eF.1 g
 .grind
 .grind
theorem iA:∀ (c:Code) (ann:AnnA) (K:Ex->SA->AP) (K':Ex->St->HP) (β:Nat->Nat) (s:SA) (t:St) (A:AH) (h:Hp),RB E β s t A h->kD P CA n pm ann c K s A->
  (∀ e β' s' t' B h',RB E β' s' t' B h'->SamB s β s' β'->K e s' B->K' e t' h')->vF P (qX CA) n ann.h c K' t h
 | .skip,ann,K,K',β,s,t,A,h,r,hh,hk=>by
  rcases ann with _ | k | ⟨V,O⟩ | ⟨_ | J,p,G⟩ | ⟨p,G⟩ | p | ⟨J,p⟩<;>first | exact hk _ β s t A h r (SamB.refl _ _) hh | exact hh.elim
 | .label _,ann,K,K',β,s,t,A,h,r,hh,hk=>by
  rcases ann with _ | k | ⟨V,O⟩ | ⟨_ | J,p,G⟩ | ⟨p,G⟩ | p | ⟨J,p⟩<;>first | exact hk _ β s t A h r (SamB.refl _ _) hh | exact hh.elim
 | .ret,ann,K,K',β,s,t,A,h,r,hh,hk=>by
  rcases ann with _ | k | ⟨V,O⟩ | ⟨_ | J,p,G⟩ | ⟨p,G⟩ | p | ⟨J,p⟩<;>first | exact hk _ β s t A h r (SamB.refl _ _) hh | exact hh.elim
 | .exit id,ann,K,K',β,s,t,A,h,r,hh,hk=>by
  rcases ann with _ | k | ⟨V,O⟩ | ⟨_ | J,p,G⟩ | ⟨p,G⟩ | p | ⟨J,p⟩<;>first | exact hk _ β s t A h r (SamB.refl _ _) hh | exact hh.elim
 | .region id ops draw,ann,K,K',β,s,t,A,h,r,hh,hk=>by
  cases draw with
  | false=>
   rcases ann with _ | k | ⟨V,O⟩ | ⟨_ | J,p,G⟩ | ⟨p,G⟩ | p | ⟨J,p⟩<;>first | exact hh.elim | skip
   unfold kD at hh;unfold AnnA.h vF;exact denOpsA_up _ β s t A h r hh (hk .normal) λv=>hk (.panic v)
  | true=>
   cases ann with
   | draw k=>
    unfold kD at hh;unfold AnnA.h vF;split at hh
    .rename_i e1;rw [e1];simp only;split at hh
     .rename_i Q;rw [Q];exact denStA_up _ s t r hh λs' t' r' z=>hk .normal β s' t' A h r' z
     .exact hh.elim
    .rename_i e1;rw [e1];simp only;split at hh
     .rename_i Q;rw [Q];exact denStA_up _ s t r hh λs' t' r' z hd=>denOpsA_up _ β s' t' A h r' hd (λβ2 S t2 T D L C=>hk .normal β2 S t2 T D L (z.trans C)) λv β2 S t2 T D L C=>hk (.panic v) β2 S t2 T D L (z.trans C)
     .exact hh.elim
   | drawS ord O=>
    unfold kD at hh;unfold AnnA.h vF;split at hh
    .rename_i hc;rw [Bool.and_eq_true,Bool.and_eq_true,Bool.and_eq_true,Bool.and_eq_true] at hc;obtain ⟨⟨c1,c2,c3,c4⟩,c5⟩:=hc;rw [c1];have hlen:=lX.1 c2;have q:FI P n pm ops.toList O (Array.replicate ops.toList.length false) (Array.replicate ops.toList.length false) ord [] s t:=FI.start c3 c4 c5;have r0:RB (EF []++E) β s t A h:=r
     have:=aFy (K':=K' .normal) (Kp':=λv h=>K' (.panic v) ⟨stripE (ops.toList.flatMap opDst) t.env,t.ds⟩ h) (ops.toList.length+ord.length) ops.toList.length ord.length ord _ _ [] [] [] (λ_ _=>True) [] β s t A h (Nat.le_refl _) (by simp [hlen]) q r0 ⟨λ_ X=>(by simp at X),λ_ X=>(by simp at X),λ_ X=>(by simp at X)⟩ (λ_ _ _=>trivial) hh
      (hk .normal) (λv β2 S t2 T D L C X=>?_)
     .have hn:fV [] ord=ord:=by unfold fV;simp [idx]
      rw [hn] at this;exact this
     .refine hk (.panic v) β2 { S with env:=stripE (ops.toList.flatMap opDst) s.env,bv:=[],ds:=s.ds } ⟨stripE (ops.toList.flatMap opDst) t.env,t.ds⟩ T D ⟨λx u hx=>?_,λx i o hx=>by simp [lookB] at hx,?_,L.sim,L.nd⟩ ⟨C.pi,C.pr,C.kept⟩ X
      .exact aBY r.env x u hx
      .exact r.ds
    .exact hh.elim
   | seq j a b=>cases j<;>exact hh.elim
   | _=>exact hh.elim
 | .seq x y,ann,K,K',β,s,t,A,h,r,hh,hk=>by
  cases ann with
  | seq j a b=>
   cases j with
   | none=>
    unfold kD at hh;unfold AnnA.h vF;refine iA x a _ _ β s t A h r hh λe β' s' t' B h' r' z d=>?_;cases e with
    | normal=>exact iA y b K K' β' s' t' B h' r' d λQ β2 S t2 T D L C=>hk Q β2 S t2 T D L (z.trans C)
    | ret=>exact hk _ β' s' t' B h' r' z d
    | exit id=>exact hk _ β' s' t' B h' r' z d
    | panic v=>exact hk _ β' s' t' B h' r' z d
   | some J=>
    unfold kD at hh;unfold AnnA.h vF;split at hh
    .rename_i F;unfold aIW at F;rw [Bool.and_eq_true] at F;rw [F.1];simp only;obtain ⟨R,H,D⟩:=hh;have H:=vM _ _ _ H;refine ⟨aGt (λ(R1:ArC (cksOf J.cells) AP) (H:Hp)=>∃ β1 vs M,JP E β s J β1 vs M H/\kS (cksOf J.cells) AP R1 vs λR2=>R2 M) J.live R,?_,?_⟩
     .refine vR _ _ _ _ (λe R1 ⟨N,hb⟩ h' ⟨β1,vs,M,W,ha⟩=>?_) H;obtain ⟨R2,Y,Z⟩:=aBG _ _ _ _ _ _ ha hb;exact iA y b K K' β1 (gA s J e vs) _ M h' (r.rejoin F.2 N W) (Y M Z) λQ β2 S t2 T D L C=>hk Q β2 S t2 T D L (W.sam.trans C)
     .refine iA x a _ _ β (nQ s J) t A h r.gd D λe β' s' t' B h' r' z d=>?_;cases e with
      | normal=>
       refine rE r'.env _ _ _ _ (λR1 hR=>?_) d;unfold apX at hR;split at hR
       .rename_i vs Y Z;exact ⟨β',vs,B,JP.of r r' z Y Z,hR⟩
       .exact hR.elim
      | ret=>exact hk _ β' _ t' B h' r'.back z.back d
      | exit id=>exact hk _ β' _ t' B h' r'.back z.back d
      | panic v=>exact hk _ β' _ t' B h' r'.back z.back d
    .exact hh.elim
  | _=>exact hh.elim
 | .cond c x y,ann,K,K',β,s,t,A,h,r,hh,hk=>by
  cases ann with
  | cond a b=>
   unfold kD at hh;unfold AnnA.h vF;refine bD r.env (λv H=>?_) hh;split at H
   .exact jO (λq=>iA x a K K' β s t A h r q hk) (λq=>iA y b K K' β s t A h r q hk) H
   .exact H.elim
  | seq j a b=>cases j<;>exact hh.elim
  | _=>exact hh.elim
 | .block id x,ann,K,K',β,s,t,A,h,r,hh,hk=>by
  cases ann with
  | block a=>
   unfold kD at hh;unfold AnnA.h vF;refine iA x a _ _ β s t A h r hh λe β' s' t' B h' r' z d=>?_;cases e with
   | normal=>exact hk _ β' s' t' B h' r' z d
   | ret=>exact hk _ β' s' t' B h' r' z d
   | panic v=>exact hk _ β' s' t' B h' r' z d
   | exit id'=>
    simp only at d ⊢;cases g:Nat.beq id' id with
    | true=>rw [g] at d;exact hk _ β' s' t' B h' r' z d
    | false=>rw [g] at d;exact hk _ β' s' t' B h' r' z d
  | seq j a b=>cases j<;>exact hh.elim
  | _=>exact hh.elim
 | .loop x,ann,K,K',β,s,t,A,h,r,hh,hk=>by
  cases ann with
  | loop J a=>
   unfold kD at hh;unfold AnnA.h vF;split at hh
   .rename_i F;unfold aIW at F;rw [Bool.and_eq_true] at F;rw [F.1];simp only;obtain ⟨I,H,D⟩:=hh;have D:=vM _ _ _ D;refine ⟨aGt (λ(I1:ArC (cksOf J.cells) (Nat->AP)) (m:Nat) (H:Hp)=>∃ β1 vs M,JP E β s J β1 vs M H/\kS (cksOf J.cells) (Nat->AP) I1 vs λI2=>I2 m M) J.live I,?_,?_⟩
    .refine rE r.env _ _ _ _ (λI1 U=>?_) H;unfold apX at U;split at U
     .rename_i vs Y Z;obtain ⟨m,hm⟩:=aDW (cksOf J.cells) (Nat->AP) I1 vs (λm (I2:Nat->AP)=>I2 m A) U;have L:RB E β (nQ s J) t A h:=r.gd;exact ⟨m,β,vs,A,JP.of r L (SamB.refl _ _) Y Z,hm⟩
     .exact U.elim
    .refine vR _ _ _ _ (λe I1 ⟨N,hb⟩ m h' ⟨β1,vs,M,W,ha⟩=>?_) D;obtain ⟨I2,Y,Z⟩:=aBG _ _ _ _ _ _ ha hb;have r1:=r.rejoin F.2 N W;refine iA x a _ _ β1 (nQ (gA s J e vs) J) _ M h' r1.gd (Y m M Z) λQ β' s' t' B D r' z d=>?_;cases Q with
     | normal=>
      refine rE r'.env _ _ _ _ (λI3 U=>?_) d;unfold apX at U;split at U
      .rename_i vs2 g3 g4;obtain ⟨m',hm⟩:=aDW (cksOf J.cells) (Nat->AP) I3 vs2 (λm' (I2:Nat->AP)=>m'<m/\I2 m' B) U;obtain ⟨hlt,hm⟩:=aER (cksOf J.cells) (Nat->AP) I3 vs2 _ hm;have hj2:=JP.of r1 r' z (by rw [show keptI (gA s J e vs).bv J.keep=keptI s.bv J.keep from pM _ λ_ ht=>ht];exact g3) g4;exact ⟨m',hlt,β',vs2,B,JP.back r W (rB g4) hj2,hm⟩
      .exact U.elim
     | ret=>exact hk _ β' _ t' B D r'.back (W.sam.trans z.back) d
     | exit id=>exact hk _ β' _ t' B D r'.back (W.sam.trans z.back) d
     | panic v=>exact hk _ β' _ t' B D r'.back (W.sam.trans z.back) d
   .exact hh.elim
  | seq j a b=>cases j<;>exact hh.elim
  | _=>exact hh.elim
 | .scope x,ann,K,K',β,s,t,A,h,r,hh,hk=>by
  rcases ann with _ | k | ⟨V,O⟩ | ⟨_ | J,p,G⟩ | ⟨p,G⟩ | p | ⟨J,p⟩<;>exact hh.elim
 | .goto l,ann,K,K',β,s,t,A,h,r,hh,hk=>by
  rcases ann with _ | k | ⟨V,O⟩ | ⟨_ | J,p,G⟩ | ⟨p,G⟩ | p | ⟨J,p⟩<;>exact hh.elim
 | .rangeFunc f ps a b,ann,K,K',β,s,t,A,h,r,hh,hk=>by
  rcases ann with _ | k | ⟨V,O⟩ | ⟨_ | J,p,G⟩ | ⟨p,G⟩ | p | ⟨J,p⟩<;>exact hh.elim
 | .refuse w,ann,K,K',β,s,t,A,h,r,hh,hk=>by
  rcases ann with _ | k | ⟨V,O⟩ | ⟨_ | J,p,G⟩ | ⟨p,G⟩ | p | ⟨J,p⟩<;>exact hh.elim
end
end Go.Dn
