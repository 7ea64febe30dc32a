/- Functions, read over a part of the heap. -/
import Derived.Test.YtfnkdpmbpgffbaaGreatDnW
import Derived.Test.YtfnkdpmbpgffbaaGreatDnK
namespace Go.Dn
abbrev EnA:=List Value->(Value->AP)->(Value->AP)->AP
def yY (E:EnA):EnT:=λargs K Kp h=>∃ A L KA KpA,Sim A L h/\E args KA KpA A/\(∀ v A' h',Sim A' L h'->KA v A'->K v h')/\∀ v A' h',Sim A' L h'->KpA v A'->Kp v h'
def vD:List (FuncId × EnA)->CTA
 | [],_,_,_,_,_=>False
 | (f,E)::r,g,args,K,Kp,A=>match Nat.beq f g with
  | true=>E args K Kp A
  | false=>vD r g args K Kp A
def fX (P:Program):List ResultVar->SA->AH->(List Value->Prop)->Prop
 | [],_,_,K=>K []
 | .tmp t::r,s,A,K=>match look s.env t with
  | some v=>fX P r s A λvs=>K (v::vs)
  | none=>False
 | .cell a t::r,s,A,K=>match lookB s.bv a with
  | some (i,k)=>match lookX s.bx i with
   | some (cells,_)=>ldX P t cells k λv=>fX P r s A λvs=>K (v::vs)
   | none=>False
  | none=>match look s.env a with
   | some va=>lC va λad=>aGp P t ad A λv=>fX P r s A λvs=>K (v::vs)
   | none=>False
def aGC (P:Program) (fn:Func) (K Kp:Value->AP):Ex->SA->AP
 | .normal,s,A=>match s.ds with | []=>fX P fn.results.toList s A λvs=>K (gM vs) A | _=>False
 | .ret,s,A=>match s.ds with | []=>fX P fn.results.toList s A λvs=>K (gM vs) A | _=>False
 | .panic v,s,A=>match s.ds with | []=>Kp v A | _=>False
 | _,_,_=>False
def sL (args:List Value):SA:=⟨y7 0 args,[],[],[],[],[]⟩
def aDn (P:Program) (CA:CTA) (pm:List Nat) (fn:Func) (ann:AnnA) (args:List Value) (K Kp:Value->AP) (A:AH):Prop:=
 j8 P CA fn.ntmps pm ann (mC fn) (aGC P fn K Kp) (sL args) A
def aLO (P:Program) (CA:CTA) (pm:List Nat) (fn:Func) (ann:AnnA) (args:List Value) (rv:Value) (K:AP) (A:AH):Prop:=
 match mC fn with
 | .seq (.region _ ops false) y=>match ops.toList with
  | o::r=>match o.guard,o.op,fn.results.toList with
   | none,.call { callee:=.builtin .recover,args:=_,argTypes:=_ },[]=>
    fU fn.ntmps (sL args) o.dst (.v rv) λs=>l8 P CA fn.ntmps pm (o::r) r s (λs A=>j8 P CA fn.ntmps pm ann y (λe s A=>match e,s.ds with
     | .normal,[]=>K A
     | .ret,[]=>K A
     | _,_=>False) s A) (λ_ _ _=>False) A
   | _,_,_=>False
  | []=>False
 | _=>False
abbrev DnT':=List Value->AP->AP
abbrev DpT':=List Value->Value->AP->AP
def aNf (P:Program) (fn:Func) (g:FuncId) (Dn:DnT') (Dp:DpT') (K Kp:Value->AP):Ex->SA->AP
 | .normal,s,A=>match s.ds with
  | []=>fX P fn.results.toList s A λvs=>K (gM vs) A
  | [d]=>match d.target with
   | .fn (.func g') cap=>match Nat.beq g' g with
    | true=>Dn (d.args.toList++cap.toList) (λA'=>fX P fn.results.toList s A' λvs=>K (gM vs) A') A
    | false=>False
   | _=>False
  | _=>False
 | .ret,s,A=>match s.ds with
  | []=>fX P fn.results.toList s A λvs=>K (gM vs) A
  | [d]=>match d.target with
   | .fn (.func g') cap=>match Nat.beq g' g with
    | true=>Dn (d.args.toList++cap.toList) (λA'=>fX P fn.results.toList s A' λvs=>K (gM vs) A') A
    | false=>False
   | _=>False
  | _=>False
 | .panic v,s,A=>match s.ds with
  | []=>Kp v A
  | [d]=>match d.target with
   | .fn (.func g') cap=>match Nat.beq g' g with
    | true=>Dp (d.args.toList++cap.toList) v (λA'=>fX P fn.results.toList s A' λvs=>K (gM vs) A') A
    | false=>False
   | _=>False
  | _=>False
 | _,_,_=>False
def aKe (P:Program) (CA:CTA) (pm:List Nat) (fn:Func) (ann:AnnA) (g:FuncId) (Dn:DnT') (Dp:DpT') (args:List Value) (K Kp:Value->AP) (A:AH):Prop:=
 j8 P CA fn.ntmps pm ann (mC fn) (aNf P fn g Dn Dp K Kp) (sL args) A
inductive PSh | c (k:CK) | agg (l:List CK) | fn (g:FuncId) (first cap:List CK)
def aW:List PSh->Type->Type
 | .fn _ a b::r,T=>ArC a (ArC b (aW r T))
 | [],T=>T
 | .c k::r,T=>CKT k->aW r T
 | .agg l::r,T=>ArC l (aW r T)
def kA:(l:List PSh)->(T:Type)->aW l T->List Value->(T->Prop)->Prop
 | [],_,R,[],G=>G R
 | .c k::r,T,R,v::vs,G=>jA k v λx=>kA r T (R x) vs G
 | .agg l::r,T,R,v::vs,G=>match v with
  | .agg cs=>kP l (aW r T) R cs.toList λR1=>kA r T R1 vs G
  | _=>False
 | .fn g a b::r,T,R,v::vs,G=>match v with
  | .func (.func g') x y=>match Nat.beq g' g with
   | true=>kP a (ArC b (aW r T)) R x.toList λR1=>kP b (aW r T) R1 y.toList λR2=>kA r T R2 vs G
   | false=>False
  | _=>False
 | _,_,_,_,_=>False
def aL9 (k:CK) {T:Type} (g:Value->T):CKT k->T:=match k with
 | .i kk=>λn:Int=>g (.int kk n)
 | .b=>λn:Bool=>g (.bool n)
 | .p=>λn:Option Addr=>g (.pointer n)
 | .s=>λn:Sl=>g (.slice n.a n.len n.cap)
 | .m=>λn:Option Nat=>g (.map n)
 | .v=>λn:Value=>g n
def aDl:(l:List CK)->(T:Type)->(List Value->T)->ArC l T
 | [],_,g=>g []
 | k::r,T,g=>aL9 k λv=>aDl r T λvs=>g (v::vs)
def vC:(l:List PSh)->(T:Type)->(List Value->T)->aW l T
 | .fn f a b::r,T,g=>aDl a (ArC b (aW r T)) λxs=>aDl b (aW r T) λys=>vC r T λvs=>g (.func (.func f) xs.toArray ys.toArray::vs)
 | [],_,g=>g []
 | .c k::r,T,g=>aL9 k λv=>vC r T λvs=>g (v::vs)
 | .agg l::r,T,g=>aDl l (aW r T) λcs=>vC r T λvs=>g (.agg cs.toArray::vs)
def np (b:Bool) (Kp:Value->AP):Value->AP:=match b with | true=>Kp | false=>λ_ _=>False
theorem aLh {b:Bool} {Kp:Value->AP} {v:Value} {A:AH} (h:np b Kp v A):Kp v A:=by
 cases b
 .exact h.elim
 .exact h
abbrev EnR:=(Value->AP)->(Value->AP)->AP
def bA (l:List PSh) (F:aW l EnR):EnA:=λargs K Kp A=>kA l EnR F args λf=>f K Kp A
section
variable {P:Program} {CA:CTA} {A:AH} {h:Hp}
theorem aEG {T:Type} {k:CK} {g:Value->T} {v:Value} {G:T->Prop} (a:jA k v λx=>G (aL9 k g x)):G (g v):=by
 cases k<;>cases v<;>simp only [jA] at a<;>first | exact a.elim | exact a | skip
 obtain ⟨b,c⟩:=bF a;rename_i kk k' n;have:kk=k':=by cases kk<;>cases k'<;>first | rfl | cases b
 subst this;exact c
theorem vK:∀ {l:List CK} {T:Type} {g:List Value->T} {vs:List Value} {G:T->Prop},kP l T (aDl l T g) vs G->G (g vs)
 | [],_,_,[],_,h=>h
 | [],_,_,_::_,_,h=>h.elim
 | _::_,_,_,[],_,h=>h.elim
 | k::r,T,g,v::vs,G,h=>vK (l:=r) (g:=λvs=>g (v::vs)) (aEG (k:=k) (g:=λv=>aDl r T λvs=>g (v::vs)) (G:=λR=>kP r T R vs G) h)
theorem q9:∀ {l:List PSh} {T:Type} {g:List Value->T} {vs:List Value} {G:T->Prop},kA l T (vC l T g) vs G->G (g vs)
 | [],_,_,[],_,h=>h
 | [],_,_,_::_,_,h=>h.elim
 | .c k::r,T,g,v::vs,G,h=>q9 (l:=r) (g:=λvs=>g (v::vs)) (aEG (k:=k) (g:=λv=>vC r T λvs=>g (v::vs)) (G:=λR=>kA r T R vs G) h)
 | .c _::_,_,_,[],_,h=>h.elim
 | .agg _::_,_,_,[],_,h=>h.elim
 | .agg l::r,T,g,v::vs,G,h=>by
  unfold kA at h;split at h
  .rename_i cs;have:=vK (l:=l) (g:=λcs=>vC r T λvs=>g (.agg cs.toArray::vs)) (G:=λR=>kA r T R vs G) h;rw [Array.toArray_toList] at this;exact q9 (l:=r) (g:=λvs=>g (.agg cs::vs)) this
  .exact h.elim
 | .fn _ _ _::_,_,_,[],_,h=>h.elim
 | .fn f a b::r,T,g,v::vs,G,h=>by
  unfold kA at h;split at h
  .rename_i g' x y;split at h
   .rename_i c;have c:=lN.1 c;subst c;have j:=vK (l:=a) (T:=ArC b (aW r T)) (g:=λxs=>aDl b (aW r T) λd=>vC r T λvs=>g (.func (.func g') xs.toArray d.toArray::vs)) (G:=λm=>kP b (aW r T) m y.toList λe=>kA r T e vs G) h;have i:=vK (l:=b) (T:=aW r T) (g:=λd=>vC r T λvs=>g (.func (.func g') x.toList.toArray d.toArray::vs)) (G:=λe=>kA r T e vs G) j;rw [Array.toArray_toList,Array.toArray_toList] at i;exact q9 (l:=r) (g:=λvs=>g (.func (.func g') x y::vs)) i
   .exact h.elim
  .exact h.elim
def exC:(l:List CK)->{T U:Type}->(Nat->ArC l T)->((Nat->T)->U)->ArC l U
 | [],_,_,F,c=>c F
 | _::r,_,_,F,c=>λx=>exC r (λn=>F n x) c
def exS:(l:List PSh)->{T:Type}->(Nat->aW l T)->((Nat->T)->T)->aW l T
 | [],_,F,c=>c F
 | .c _::r,_,F,c=>λx=>exS r (λn=>F n x) c
 | .agg l::r,_,F,c=>exC l F λG=>exS r G c
 | .fn _ a b::r,T,F,c=>exC a (T:=ArC b (aW r T)) F λG=>exC b G λH=>exS r H c
theorem aE4 {k:CK} {v:Value} {H:Nat->CKT k->Prop} (h:jA k v λx=>∃ n,H n x):∃ n,jA k v (H n):=by
 cases k<;>cases v<;>simp only [jA] at h ⊢<;>first | exact h.elim | exact h | skip
 obtain ⟨a,n,b⟩:=bF h;rw [a];exact ⟨n,b⟩
theorem aAi {k:CK} {v:Value} {G a:CKT k->Prop} (h:jA k v G) (b:∀ x,G x->a x):jA k v a:=by
 cases k<;>cases v<;>simp only [jA] at h ⊢<;>first | exact h.elim | exact b _ h | skip
 obtain ⟨c,d⟩:=bF h;rw [c];exact b _ d
theorem vJ:∀ (l:List CK) {T U:Type} (F:Nat->ArC l T) (c:(Nat->T)->U) (vs:List Value) (G:U->Prop) (a:T->Prop),(∀ R,G (c R)->∃ n,a (R n))->kP l U (exC l F c) vs G->∃ n,kP l T (F n) vs a
 | [],_,_,F,c,[],G,a,hG,h=>hG F h
 | [],_,_,_,_,_::_,_,_,_,h=>h.elim
 | _::_,_,_,_,_,[],_,_,_,h=>h.elim
 | k::r,T,U,F,c,v::vs,G,a,hG,h=>aE4 (aAi (k:=k) (G:=λx=>kP r U (exC r (λn=>F n x) c) vs G) h λx b=>vJ r (λn=>F n x) c vs G a hG b)
theorem vL:∀ (l:List PSh) {T:Type} (F:Nat->aW l T) (c:(Nat->T)->T) (vs:List Value) (G:T->Prop),(∀ R,G (c R)->∃ n,G (R n))->kA l T (exS l F c) vs G->∃ n,kA l T (F n) vs G
 | [],_,F,c,[],G,hG,h=>hG F h
 | [],_,_,_,_::_,_,_,h=>h.elim
 | .c _::_,_,_,_,[],_,_,h=>h.elim
 | .c k::r,T,F,c,v::vs,G,hG,h=>aE4 (aAi (k:=k) (G:=λx=>kA r T (exS r (λn=>F n x) c) vs G) h λx i=>vL r (λn=>F n x) c vs G hG i)
 | .agg _::_,_,_,_,[],_,_,h=>h.elim
 | .agg l::r,T,F,c,v::vs,G,hG,h=>by
  unfold kA at h ⊢;cases v<;>try exact h.elim
  exact vJ l F (λG=>exS r G c) _ (λR=>kA r T R vs G) (λR=>kA r T R vs G) (λR d=>vL r R c vs G hG d) h
 | .fn _ _ _::_,_,_,_,[],_,_,h=>h.elim
 | .fn f a b::r,T,F,c,v::vs,G,hG,h=>by
  unfold kA at h ⊢;split at h
  .rename_i g' x y;split at h
   .rename_i m
    obtain ⟨n,j⟩:=vJ a (T:=ArC b (aW r T)) F (λG=>exC b G λH=>exS r H c) _ (λe=>kP b (aW r T) e y.toList λg=>kA r T g vs G) (λe=>kP b (aW r T) e y.toList λg=>kA r T g vs G) (λR d=>
     vJ b R (λH=>exS r H c) _ (λR=>kA r T R vs G) (λR=>kA r T R vs G) (λR d=>vL r R c vs G hG d) d) h
    exact ⟨n,j⟩
   .exact h.elim
  .exact h.elim
theorem aK1 {f:FuncId} {l:List PSh} {F:aW l EnR} (c:∀ (as:Array Value) (w:World),(callFunc f as).run P w = .ok (.enter f as) w) (d:F=vC l EnR λ_ _ _ _=>False):cK P f (yY (bA l F)):=by
 subst d;refine ⟨c,λargs K Kp w ⟨A,L,KA,a,s,b,_⟩=>?_⟩;have b:kA l EnR (vC l EnR λ_ _ _ _=>False) args λg=>g KA a A:=b;exact absurd (q9 (G:=λg:EnR=>g KA a A) b) id
theorem aLw {f:FuncId} {l:List PSh} {F:Nat->aW l EnR} {G:aW l EnR} (b:∀ k,cK P f (yY (bA l (F k)))) (c:G=exS l F λR K Kp A=>∃ k,R k K Kp A):cK P f (yY (bA l G)):=by
 subst c;refine ⟨(b 0).enter,λargs K Kp w ⟨A,L,KA,a,s,d,e,g⟩=>?_⟩;obtain ⟨k,i⟩:=vL l F _ args (λf=>f KA a A) (λR h=>h) d;exact (b k).call args K Kp w ⟨A,L,KA,a,s,i,e,g⟩
theorem aD:eX P (sF (vD [])):=⟨λ_ _ _ _ _ ⟨_,_,_,_,_,h,_⟩=>h.elim,λ_ _ _ _ _ ⟨_,_,_,_,_,h,_⟩ _=>h.elim⟩
theorem aA {f:FuncId} {E:EnA} {r:List (FuncId × EnA)} (j:cK P f (yY E)) (k:eX P (sF (vD r))):eX P (sF (vD ((f,E)::r))):=by
 constructor
 .intro g args K Kp w ⟨A,L,KA,a,s,b,d,e⟩;unfold vD at b;split at b
  .rename_i i;rw [<-lN.1 i];exact .inl j.enter
  .exact k.enters g args K Kp w ⟨A,L,KA,a,s,b,d,e⟩
 .intro g args K Kp w ⟨A,L,KA,a,s,b,d,e⟩ c;unfold vD at b;split at b
  .rename_i i;rw [<-lN.1 i];exact j.call args K Kp w ⟨A,L,KA,a,s,b,d,e⟩
  .exact k.calls g args K Kp w ⟨A,L,KA,a,s,b,d,e⟩ c
def aDk (P:Program) (f:FuncId) (E:EnT):Prop:=∀ args K Kp (w:World),E args K Kp w.heap->∃ v,(callFunc f args.toArray).run P w = .ok (.value v) w/\K v w.heap
theorem aCS {f:FuncId} {E:EnA} {r:List (FuncId × EnA)} (j:aDk P f (yY E)) (k:eX P (sF (vD r))):eX P (sF (vD ((f,E)::r))):=by
 constructor
 .intro g args K Kp w ⟨A,L,KA,a,s,c,d,e⟩;unfold vD at c;split at c
  .rename_i i;rw [<-lN.1 i];exact .inr (j args K Kp w ⟨A,L,KA,a,s,c,d,e⟩)
  .exact k.enters g args K Kp w ⟨A,L,KA,a,s,c,d,e⟩
 .intro g args K Kp w ⟨A,L,KA,a,s,c,d,e⟩ b;unfold vD at c;split at c
  .rename_i i;rw [<-lN.1 i] at b;obtain ⟨v,m,_⟩:=j args K Kp w ⟨A,L,KA,a,s,c,d,e⟩;have l:=b args.toArray w;rw [m] at l;cases l
  .exact k.calls g args K Kp w ⟨A,L,KA,a,s,c,d,e⟩ b
theorem kG {E:Bx} {β:Nat->Nat} {s:SA} {t:St} (r:RB E β s t A h):∀ (l:List ResultVar) (K K':List Value->Prop),(∀ vs,K vs->K' vs)->fX P l s A K->gN P l t.env h K'
 | [],_,_,b,hh=>b _ hh
 | .tmp x::l,K,K',b,hh=>by
  unfold fX at hh;unfold gN;split at hh
  .rename_i v c;rw [r.env _ _ c];exact kG r l _ _ (λ_=>b _) hh
  .exact hh.elim
 | .cell a ty::l,K,K',b,hh=>by
  unfold fX at hh;unfold gN;split at hh
  .rename_i i k e;obtain ⟨f,p⟩:=r.bv _ _ _ e;rw [f];simp only [lC,aF];split at hh
   .rename_i cs g j;obtain ⟨q,l2,m,u⟩:=r.box j;have sim:=r.sim;rw [m] at sim;refine aFk sim ?_;exact ldX_mono (λv d=>kG r l _ _ (λ_=>b _) d) hh
   .exact hh.elim
  .split at hh
   .rename_i w c;rw [r.env _ _ c];exact oK (λad d=>aEw r.sim d λv n=>kG r l _ _ (λ_=>b _) n) hh
   .exact hh.elim
where
 ldX_mono {t:TypeId} {cs:List Value} {o:Nat} {K K':Value->Prop} (b:∀ v,K v->K' v) (h:ldX P t cs o K):ldX P t cs o K':=by
  unfold ldX at h ⊢;split at h
  .split at h
   .split at h
    .split at h
     .exact b _ h
     .exact h.elim
    .exact h.elim
   .split at h
    .split at h
     .exact b _ h
     .exact h.elim
    .exact h.elim
  .exact h.elim
theorem RB.start {L:Bx} (s:Sim A L h) (args:List Value):RB L (λ_=>0) (sL args) ⟨y7 0 args,[]⟩ A h:=
 ⟨λ_ _ e=>e,λ_ _ _ e=>by simp [sL,lookB] at e,rfl,s,List.nodup_nil⟩
theorem rG:∀ {l:List CK} {T:Type} {R:ArC l T} {a:List Value} {G:T->Prop},kP l T R a G->∃ x,G x
 | [],_,_,[],_,h=>⟨_,h⟩
 | [],_,_,_::_,_,h=>h.elim
 | _::_,_,_,[],_,h=>h.elim
 | k::l,T,R,w::a,G,h=>by
  have h:jA k w _:=h;cases k<;>cases w<;>simp only [jA] at h<;>first | exact h.elim | exact rG h | skip
  obtain ⟨_,b⟩:=bF h;exact rG b
theorem vX:∀ {l:List PSh} {T:Type} {R:aW l T} {vs:List Value} {G:T->Prop},kA l T R vs G->vs.length=l.length
 | [],_,_,[],_,_=>rfl
 | [],_,_,_::_,_,h=>h.elim
 | .c k::r,T,R,v::vs,G,h=>by
  have:∃ x:aW r T,kA r T x vs G:=by
   have h:jA k v _:=h;cases k<;>cases v<;>simp only [jA] at h<;>first | exact h.elim | exact ⟨_,h⟩ | skip
   obtain ⟨_,d⟩:=bF h;exact ⟨_,d⟩
  obtain ⟨x,c⟩:=this;simp [vX c]
 | .c _::_,_,_,[],_,h=>h.elim
 | .agg _::_,_,_,[],_,h=>h.elim
 | .fn _ _ _::_,_,_,[],_,h=>h.elim
 | .agg l::r,T,R,v::vs,G,h=>by
  unfold kA at h;split at h
  .obtain ⟨x,c⟩:=rG h;simp [vX c]
  .exact h.elim
 | .fn f a b::r,T,R,v::vs,G,h=>by
  unfold kA at h;split at h
  .split at h
   .obtain ⟨x,c⟩:=rG h;obtain ⟨y,e⟩:=rG c;simp [vX e]
   .exact h.elim
  .exact h.elim
theorem aMK (r:P.follows .mixedOrders=true) (t:eX P (sF CA)) {f:FuncId} {c:Func} {m:List Nat} {ann:AnnA} {l:List PSh} {F:aW l EnR}
  (u:∀ (as:Array Value) (w:World),(callFunc f as).run P w = .ok (.enter f as) w) (x:P.funcs[f]? = some c) (y:c.body.isSome=true) (C:Nat.ble l.length c.ntmps=true)
  (n:Bool) (z:F=vC l EnR λvs K Kp A=>aDn P CA m c ann vs K (np n Kp) A):cK P f (yY (bA l F)):=by
 refine ⟨u,λargs K Kp w ⟨A,L,KA,g,s,o,p,B⟩=>?_⟩;subst z;have q:args.length=l.length:=vX o;have i:=q9 o;refine aBh r t (ann:=ann.h) x y (by simp_all) ?_;have i:j8 P CA c.ntmps m ann (mC c) (aGC P c KA (np n g)) (sL args) A:=i;unfold aE5;refine iC _ _ _ _ _ _ _ _ _ (RB.start s args) i λe β' s' t' D h' r' E a=>?_;obtain ⟨G,j⟩:=t';have b:j=s'.ds:=r'.ds;cases e with
 | normal=>
  unfold aGC at a;simp only at a;split at a
  .rename_i d;rw [d] at b;subst b;exact kG r' _ _ _ (λvs k=>p _ _ _ (r'.sim.keep (List.sublist_append_right _ _)) k) a
  .exact a.elim
 | ret=>
  unfold aGC at a;simp only at a;split at a
  .rename_i d;rw [d] at b;subst b;exact kG r' _ _ _ (λvs k=>p _ _ _ (r'.sim.keep (List.sublist_append_right _ _)) k) a
  .exact a.elim
 | panic v=>
  unfold aGC at a;simp only at a;split at a
  .rename_i d;rw [d] at b;subst b;exact B _ _ _ (r'.sim.keep (List.sublist_append_right _ _)) (aLh a)
  .exact a.elim
 | exit id=>exact a.elim
theorem aMX {f:FuncId} {E:EnA} (c:cK P f (yY E)) (args:List Value) (K:Value->HP) (w:World) {KA:Value->AP} (d:E args KA (λ_ _=>False) (λb=>w.heap[b]?))
  (g:∀ v a h',Sim a [] h'->KA v a->K v h'):Calls P f args.toArray w (callQ K (λ_ _=>False) w):=
 c.call args K _ w ⟨_,[],KA,_,⟨λ_ _ e=>e,λ_ m=>by simp at m,List.Pairwise.nil⟩,d,g,λ_ _ _ _ q=>q⟩
end
attribute [irreducible] aDn aKe aLO
end Go.Dn
