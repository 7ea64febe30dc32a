/- Functions, read over a part of the heap. -/
import Derived.Test.YtfnkdpmbpgffbaaGreatDnW
import Derived.Test.YtfnkdpmbpgffbaaGreatDnK
namespace Go.Dn
abbrev EnA:=List Value->(Value->AP)->(Value->AP)->AP
def y5 (E:EnA):EnT:=λargs K Kp h=>∃ A L KA KpA,Sim A L h/\E args KA KpA A/\(∀ v A' h',Sim A' L h'->KA v A'->K v h')/\∀ v A' h',Sim A' L h'->KpA v A'->Kp v h'
def vI:List (FuncId × EnA)->CTA
 | [],_,_,_,_,_=>False
 | (f,E)::r,g,args,K,Kp,A=>match Nat.beq f g with
  | true=>E args K Kp A
  | false=>vI r g args K Kp A
def fX (P:Program):List ResultVar->SA->AH->(List Value->Prop)->Prop
 | [],_,_,K=>K []
 | .tmp t::r,s,A,K=>match look s.env t with
  | some v=>fX P r s A λvs=>K (v::vs)
  | none=>False
 | .cell a t::r,s,A,K=>match lookB s.bv a with
  | some (i,k)=>match lookX s.bx i with
   | some (cells,_)=>ldX P t cells k λv=>fX P r s A λvs=>K (v::vs)
   | none=>False
  | none=>match look s.env a with
   | some va=>kV va λad=>aFx P t ad A λv=>fX P r s A λvs=>K (v::vs)
   | none=>False
def aHw (P:Program) (fn:Func) (K Kp:Value->AP):Ex->SA->AP
 | .normal,s,A=>match s.ds with | []=>fX P fn.results.toList s A λvs=>K (gS vs) A | _=>False
 | .ret,s,A=>match s.ds with | []=>fX P fn.results.toList s A λvs=>K (gS vs) A | _=>False
 | .panic v,s,A=>match s.ds with | []=>Kp v A | _=>False
 | _,_,_=>False
def tV (args:List Value):SA:=⟨zG 0 args,[],[],[],[],[]⟩
def aDF (P:Program) (CA:CTA) (pm:List Nat) (fn:Func) (ann:AnnA) (args:List Value) (K Kp:Value->AP) (A:AH):Prop:=
 kD P CA fn.ntmps pm ann (lV fn) (aHw P fn K Kp) (tV args) A
def aKR (P:Program) (CA:CTA) (pm:List Nat) (fn:Func) (ann:AnnA) (args:List Value) (rv:Value) (K:AP) (A:AH):Prop:=
 match lV fn with
 | .seq (.region _ ops false) y=>match ops.toList with
  | o::r=>match o.guard,o.op,fn.results.toList with
   | none,.call { callee:=.builtin .recover,args:=_,argTypes:=_ },[]=>
    fT fn.ntmps (tV args) o.dst (.v rv) λs=>lJ P CA fn.ntmps pm (o::r) r s (λs A=>kD P CA fn.ntmps pm ann y (λe s A=>match e,s.ds with
     | .normal,[]=>K A
     | .ret,[]=>K A
     | _,_=>False) s A) (λ_ _ _=>False) A
   | _,_,_=>False
  | []=>False
 | _=>False
abbrev DnT':=List Value->AP->AP
abbrev DpT':=List Value->Value->AP->AP
def aMX (P:Program) (fn:Func) (g:FuncId) (Dn:DnT') (Dp:DpT') (K Kp:Value->AP):Ex->SA->AP
 | .normal,s,A=>match s.ds with
  | []=>fX P fn.results.toList s A λvs=>K (gS vs) A
  | [d]=>match d.target with
   | .fn (.func g') cap=>match Nat.beq g' g with
    | true=>Dn (d.args.toList++cap.toList) (λA'=>fX P fn.results.toList s A' λvs=>K (gS vs) A') A
    | false=>False
   | _=>False
  | _=>False
 | .ret,s,A=>match s.ds with
  | []=>fX P fn.results.toList s A λvs=>K (gS vs) A
  | [d]=>match d.target with
   | .fn (.func g') cap=>match Nat.beq g' g with
    | true=>Dn (d.args.toList++cap.toList) (λA'=>fX P fn.results.toList s A' λvs=>K (gS vs) A') A
    | false=>False
   | _=>False
  | _=>False
 | .panic v,s,A=>match s.ds with
  | []=>Kp v A
  | [d]=>match d.target with
   | .fn (.func g') cap=>match Nat.beq g' g with
    | true=>Dp (d.args.toList++cap.toList) v (λA'=>fX P fn.results.toList s A' λvs=>K (gS vs) A') A
    | false=>False
   | _=>False
  | _=>False
 | _,_,_=>False
def aJr (P:Program) (CA:CTA) (pm:List Nat) (fn:Func) (ann:AnnA) (g:FuncId) (Dn:DnT') (Dp:DpT') (args:List Value) (K Kp:Value->AP) (A:AH):Prop:=
 kD P CA fn.ntmps pm ann (lV fn) (aMX P fn g Dn Dp K Kp) (tV args) A
inductive PSh | c (k:CK) | agg (l:List CK) | fn (g:FuncId) (first cap:List CK)
def aX:List PSh->Type->Type
 | .fn _ a b::r,T=>ArC a (ArC b (aX r T))
 | [],T=>T
 | .c k::r,T=>CKT k->aX r T
 | .agg l::r,T=>ArC l (aX r T)
def kA:(l:List PSh)->(T:Type)->aX l T->List Value->(T->Prop)->Prop
 | [],_,R,[],G=>G R
 | .c k::r,T,R,v::vs,G=>jF k v λx=>kA r T (R x) vs G
 | .agg l::r,T,R,v::vs,G=>match v with
  | .agg cs=>kS l (aX r T) R cs.toList λR1=>kA r T R1 vs G
  | _=>False
 | .fn g a b::r,T,R,v::vs,G=>match v with
  | .func (.func g') x y=>match Nat.beq g' g with
   | true=>kS a (ArC b (aX r T)) R x.toList λR1=>kS b (aX r T) R1 y.toList λR2=>kA r T R2 vs G
   | false=>False
  | _=>False
 | _,_,_,_,_=>False
def aMh (k:CK) {T:Type} (g:Value->T):CKT k->T:=match k with
 | .i kk=>λn:Int=>g (.int kk n)
 | .b=>λn:Bool=>g (.bool n)
 | .p=>λn:Option Addr=>g (.pointer n)
 | .s=>λn:Sl=>g (.slice n.a n.len n.cap)
 | .m=>λn:Option Nat=>g (.map n)
 | .v=>λn:Value=>g n
def aDI:(l:List CK)->(T:Type)->(List Value->T)->ArC l T
 | [],_,g=>g []
 | k::r,T,g=>aMh k λv=>aDI r T λvs=>g (v::vs)
def vH:(l:List PSh)->(T:Type)->(List Value->T)->aX l T
 | .fn f a b::r,T,g=>aDI a (ArC b (aX r T)) λxs=>aDI b (aX r T) λys=>vH r T λvs=>g (.func (.func f) xs.toArray ys.toArray::vs)
 | [],_,g=>g []
 | .c k::r,T,g=>aMh k λv=>vH r T λvs=>g (v::vs)
 | .agg l::r,T,g=>aDI l (aX r T) λcs=>vH r T λvs=>g (.agg cs.toArray::vs)
def np (b:Bool) (Kp:Value->AP):Value->AP:=match b with | true=>Kp | false=>λ_ _=>False
theorem aK9 {b:Bool} {Kp:Value->AP} {v:Value} {A:AH} (h:np b Kp v A):Kp v A:=by
 cases b
 .exact h.elim
 .exact h
abbrev EnR:=(Value->AP)->(Value->AP)->AP
def bC (l:List PSh) (F:aX l EnR):EnA:=λargs K Kp A=>kA l EnR F args λf=>f K Kp A
section
variable {P:Program} {CA:CTA} {A:AH} {h:Hp}
theorem aEI {T:Type} {k:CK} {g:Value->T} {v:Value} {G:T->Prop} (a:jF k v λx=>G (aMh k g x)):G (g v):=by
 cases k<;>cases v<;>simp only [jF] at a<;>first | exact a.elim | exact a | skip
 obtain ⟨b,c⟩:=bG a;rename_i kk k' n;have:kk=k':=by cases kk<;>cases k'<;>first | rfl | cases b
 subst this;exact c
theorem wH:∀ {l:List CK} {T:Type} {g:List Value->T} {vs:List Value} {G:T->Prop},kS l T (aDI l T g) vs G->G (g vs)
 | [],_,_,[],_,h=>h
 | [],_,_,_::_,_,h=>h.elim
 | _::_,_,_,[],_,h=>h.elim
 | k::r,T,g,v::vs,G,h=>wH (l:=r) (g:=λvs=>g (v::vs)) (aEI (k:=k) (g:=λv=>aDI r T λvs=>g (v::vs)) (G:=λR=>kS r T R vs G) h)
theorem sM:∀ {l:List PSh} {T:Type} {g:List Value->T} {vs:List Value} {G:T->Prop},kA l T (vH l T g) vs G->G (g vs)
 | [],_,_,[],_,h=>h
 | [],_,_,_::_,_,h=>h.elim
 | .c k::r,T,g,v::vs,G,h=>sM (l:=r) (g:=λvs=>g (v::vs)) (aEI (k:=k) (g:=λv=>vH r T λvs=>g (v::vs)) (G:=λR=>kA r T R vs G) h)
 | .c _::_,_,_,[],_,h=>h.elim
 | .agg _::_,_,_,[],_,h=>h.elim
 | .agg l::r,T,g,v::vs,G,h=>by
  unfold kA at h;split at h
  .rename_i cs;have:=wH (l:=l) (g:=λcs=>vH r T λvs=>g (.agg cs.toArray::vs)) (G:=λR=>kA r T R vs G) h;rw [Array.toArray_toList] at this;exact sM (l:=r) (g:=λvs=>g (.agg cs::vs)) this
  .exact h.elim
 | .fn _ _ _::_,_,_,[],_,h=>h.elim
 | .fn f a b::r,T,g,v::vs,G,h=>by
  unfold kA at h;split at h
  .rename_i g' x y;split at h
   .rename_i c;have c:=lX.1 c;subst c;have j:=wH (l:=a) (T:=ArC b (aX r T)) (g:=λxs=>aDI b (aX r T) λd=>vH r T λvs=>g (.func (.func g') xs.toArray d.toArray::vs)) (G:=λm=>kS b (aX r T) m y.toList λe=>kA r T e vs G) h;have i:=wH (l:=b) (T:=aX r T) (g:=λd=>vH r T λvs=>g (.func (.func g') x.toList.toArray d.toArray::vs)) (G:=λe=>kA r T e vs G) j;rw [Array.toArray_toList,Array.toArray_toList] at i;exact sM (l:=r) (g:=λvs=>g (.func (.func g') x y::vs)) i
   .exact h.elim
  .exact h.elim
def exC:(l:List CK)->{T U:Type}->(Nat->ArC l T)->((Nat->T)->U)->ArC l U
 | [],_,_,F,c=>c F
 | _::r,_,_,F,c=>λx=>exC r (λn=>F n x) c
def exS:(l:List PSh)->{T:Type}->(Nat->aX l T)->((Nat->T)->T)->aX l T
 | [],_,F,c=>c F
 | .c _::r,_,F,c=>λx=>exS r (λn=>F n x) c
 | .agg l::r,_,F,c=>exC l F λG=>exS r G c
 | .fn _ a b::r,T,F,c=>exC a (T:=ArC b (aX r T)) F λG=>exC b G λH=>exS r H c
theorem aEo {k:CK} {v:Value} {H:Nat->CKT k->Prop} (h:jF k v λx=>∃ n,H n x):∃ n,jF k v (H n):=by
 cases k<;>cases v<;>simp only [jF] at h ⊢<;>first | exact h.elim | exact h | skip
 obtain ⟨a,n,b⟩:=bG h;rw [a];exact ⟨n,b⟩
theorem z7 {k:CK} {v:Value} {G a:CKT k->Prop} (h:jF k v G) (b:∀ x,G x->a x):jF k v a:=by
 cases k<;>cases v<;>simp only [jF] at h ⊢<;>first | exact h.elim | exact b _ h | skip
 obtain ⟨c,d⟩:=bG h;rw [c];exact b _ d
theorem vU:∀ (l:List CK) {T U:Type} (F:Nat->ArC l T) (c:(Nat->T)->U) (vs:List Value) (G:U->Prop) (a:T->Prop),(∀ R,G (c R)->∃ n,a (R n))->kS l U (exC l F c) vs G->∃ n,kS l T (F n) vs a
 | [],_,_,F,c,[],G,a,hG,h=>hG F h
 | [],_,_,_,_,_::_,_,_,_,h=>h.elim
 | _::_,_,_,_,_,[],_,_,_,h=>h.elim
 | k::r,T,U,F,c,v::vs,G,a,hG,h=>aEo (z7 (k:=k) (G:=λx=>kS r U (exC r (λn=>F n x) c) vs G) h λx b=>vU r (λn=>F n x) c vs G a hG b)
theorem vO:∀ (l:List PSh) {T:Type} (F:Nat->aX l T) (c:(Nat->T)->T) (vs:List Value) (G:T->Prop),(∀ R,G (c R)->∃ n,G (R n))->kA l T (exS l F c) vs G->∃ n,kA l T (F n) vs G
 | [],_,F,c,[],G,hG,h=>hG F h
 | [],_,_,_,_::_,_,_,h=>h.elim
 | .c _::_,_,_,_,[],_,_,h=>h.elim
 | .c k::r,T,F,c,v::vs,G,hG,h=>aEo (z7 (k:=k) (G:=λx=>kA r T (exS r (λn=>F n x) c) vs G) h λx i=>vO r (λn=>F n x) c vs G hG i)
 | .agg _::_,_,_,_,[],_,_,h=>h.elim
 | .agg l::r,T,F,c,v::vs,G,hG,h=>by
  unfold kA at h ⊢;cases v<;>try exact h.elim
  exact vU l F (λG=>exS r G c) _ (λR=>kA r T R vs G) (λR=>kA r T R vs G) (λR d=>vO r R c vs G hG d) h
 | .fn _ _ _::_,_,_,_,[],_,_,h=>h.elim
 | .fn f a b::r,T,F,c,v::vs,G,hG,h=>by
  unfold kA at h ⊢;split at h
  .rename_i g' x y;split at h
   .rename_i m
    obtain ⟨n,j⟩:=vU a (T:=ArC b (aX r T)) F (λG=>exC b G λH=>exS r H c) _ (λe=>kS b (aX r T) e y.toList λg=>kA r T g vs G) (λe=>kS b (aX r T) e y.toList λg=>kA r T g vs G) (λR d=>
     vU b R (λH=>exS r H c) _ (λR=>kA r T R vs G) (λR=>kA r T R vs G) (λR d=>vO r R c vs G hG d) d) h
    exact ⟨n,j⟩
   .exact h.elim
  .exact h.elim
theorem aLT {f:FuncId} {l:List PSh} {F:aX l EnR} (c:∀ (as:Array Value) (w:World),(callFunc f as).run P w = .ok (.enter f as) w) (d:F=vH l EnR λ_ _ _ _=>False):cL P f (y5 (bC l F)):=by
 subst d;refine ⟨c,λargs K Kp w ⟨A,L,KA,a,s,b,_⟩=>?_⟩;have b:kA l EnR (vH l EnR λ_ _ _ _=>False) args λg=>g KA a A:=b;exact absurd (sM (G:=λg:EnR=>g KA a A) b) id
theorem aLs {f:FuncId} {l:List PSh} {F:Nat->aX l EnR} {G:aX l EnR} (b:∀ k,cL P f (y5 (bC l (F k)))) (c:G=exS l F λR K Kp A=>∃ k,R k K Kp A):cL P f (y5 (bC l G)):=by
 subst c;refine ⟨(b 0).enter,λargs K Kp w ⟨A,L,KA,a,s,d,e,g⟩=>?_⟩;obtain ⟨k,i⟩:=vO l F _ args (λf=>f KA a A) (λR h=>h) d;exact (b k).call args K Kp w ⟨A,L,KA,a,s,i,e,g⟩
theorem aD:eT P (qX (vI [])):=⟨λ_ _ _ _ _ ⟨_,_,_,_,_,h,_⟩=>h.elim,λ_ _ _ _ _ ⟨_,_,_,_,_,h,_⟩ _=>h.elim⟩
theorem aA {f:FuncId} {E:EnA} {r:List (FuncId × EnA)} (j:cL P f (y5 E)) (k:eT P (qX (vI r))):eT P (qX (vI ((f,E)::r))):=by
 constructor
 .intro g args K Kp w ⟨A,L,KA,a,s,b,d,e⟩;unfold vI at b;split at b
  .rename_i i;rw [<-lX.1 i];exact .inl j.enter
  .exact k.enters g args K Kp w ⟨A,L,KA,a,s,b,d,e⟩
 .intro g args K Kp w ⟨A,L,KA,a,s,b,d,e⟩ c;unfold vI at b;split at b
  .rename_i i;rw [<-lX.1 i];exact j.call args K Kp w ⟨A,L,KA,a,s,b,d,e⟩
  .exact k.calls g args K Kp w ⟨A,L,KA,a,s,b,d,e⟩ c
def aDR (P:Program) (f:FuncId) (E:EnT):Prop:=∀ args K Kp (w:World),E args K Kp w.heap->∃ v,(callFunc f args.toArray).run P w = .ok (.value v) w/\K v w.heap
theorem aDc {f:FuncId} {E:EnA} {r:List (FuncId × EnA)} (j:aDR P f (y5 E)) (k:eT P (qX (vI r))):eT P (qX (vI ((f,E)::r))):=by
 constructor
 .intro g args K Kp w ⟨A,L,KA,a,s,c,d,e⟩;unfold vI at c;split at c
  .rename_i i;rw [<-lX.1 i];exact .inr (j args K Kp w ⟨A,L,KA,a,s,c,d,e⟩)
  .exact k.enters g args K Kp w ⟨A,L,KA,a,s,c,d,e⟩
 .intro g args K Kp w ⟨A,L,KA,a,s,c,d,e⟩ b;unfold vI at c;split at c
  .rename_i i;rw [<-lX.1 i] at b;obtain ⟨v,m,_⟩:=j args K Kp w ⟨A,L,KA,a,s,c,d,e⟩;have l:=b args.toArray w;rw [m] at l;cases l
  .exact k.calls g args K Kp w ⟨A,L,KA,a,s,c,d,e⟩ b
theorem kI {E:Bx} {β:Nat->Nat} {s:SA} {t:St} (r:RB E β s t A h):∀ (l:List ResultVar) (K K':List Value->Prop),(∀ vs,K vs->K' vs)->fX P l s A K->gN P l t.env h K'
 | [],_,_,b,hh=>b _ hh
 | .tmp x::l,K,K',b,hh=>by
  unfold fX at hh;unfold gN;split at hh
  .rename_i v c;rw [r.env _ _ c];exact kI r l _ _ (λ_=>b _) hh
  .exact hh.elim
 | .cell a ty::l,K,K',b,hh=>by
  unfold fX at hh;unfold gN;split at hh
  .rename_i i k e;obtain ⟨f,p⟩:=r.bv _ _ _ e;rw [f];simp only [kV,aF];split at hh
   .rename_i cs g j;obtain ⟨q,l2,m,u⟩:=r.box j;have sim:=r.sim;rw [m] at sim;refine aEu sim ?_;exact ldX_mono (λv d=>kI r l _ _ (λ_=>b _) d) hh
   .exact hh.elim
  .split at hh
   .rename_i w c;rw [r.env _ _ c];exact oO (λad d=>aEH r.sim d λv n=>kI r l _ _ (λ_=>b _) n) hh
   .exact hh.elim
where
 ldX_mono {t:TypeId} {cs:List Value} {o:Nat} {K K':Value->Prop} (b:∀ v,K v->K' v) (h:ldX P t cs o K):ldX P t cs o K':=by
  unfold ldX at h ⊢;split at h
  .split at h
   .split at h
    .split at h
     .exact b _ h
     .exact h.elim
    .exact h.elim
   .split at h
    .split at h
     .exact b _ h
     .exact h.elim
    .exact h.elim
  .exact h.elim
theorem RB.start {L:Bx} (s:Sim A L h) (args:List Value):RB L (λ_=>0) (tV args) ⟨zG 0 args,[]⟩ A h:=
 ⟨λ_ _ e=>e,λ_ _ _ e=>by simp [tV,lookB] at e,rfl,s,List.nodup_nil⟩
theorem rK:∀ {l:List CK} {T:Type} {R:ArC l T} {a:List Value} {G:T->Prop},kS l T R a G->∃ x,G x
 | [],_,_,[],_,h=>⟨_,h⟩
 | [],_,_,_::_,_,h=>h.elim
 | _::_,_,_,[],_,h=>h.elim
 | k::l,T,R,w::a,G,h=>by
  have h:jF k w _:=h;cases k<;>cases w<;>simp only [jF] at h<;>first | exact h.elim | exact rK h | skip
  obtain ⟨_,b⟩:=bG h;exact rK b
theorem vZ:∀ {l:List PSh} {T:Type} {R:aX l T} {vs:List Value} {G:T->Prop},kA l T R vs G->vs.length=l.length
 | [],_,_,[],_,_=>rfl
 | [],_,_,_::_,_,h=>h.elim
 | .c k::r,T,R,v::vs,G,h=>by
  have:∃ x:aX r T,kA r T x vs G:=by
   have h:jF k v _:=h;cases k<;>cases v<;>simp only [jF] at h<;>first | exact h.elim | exact ⟨_,h⟩ | skip
   obtain ⟨_,d⟩:=bG h;exact ⟨_,d⟩
  obtain ⟨x,c⟩:=this;simp [vZ c]
 | .c _::_,_,_,[],_,h=>h.elim
 | .agg _::_,_,_,[],_,h=>h.elim
 | .fn _ _ _::_,_,_,[],_,h=>h.elim
 | .agg l::r,T,R,v::vs,G,h=>by
  unfold kA at h;split at h
  .obtain ⟨x,c⟩:=rK h;simp [vZ c]
  .exact h.elim
 | .fn f a b::r,T,R,v::vs,G,h=>by
  unfold kA at h;split at h
  .split at h
   .obtain ⟨x,c⟩:=rK h;obtain ⟨y,e⟩:=rK c;simp [vZ e]
   .exact h.elim
  .exact h.elim
theorem aM1 (r:P.follows .mixedOrders=true) (t:eT P (qX CA)) {f:FuncId} {c:Func} {m:List Nat} {ann:AnnA} {l:List PSh} {F:aX l EnR}
  (u:∀ (as:Array Value) (w:World),(callFunc f as).run P w = .ok (.enter f as) w) (x:P.funcs[f]? = some c) (y:c.body.isSome=true) (C:Nat.ble l.length c.ntmps=true)
  (n:Bool) (z:F=vH l EnR λvs K Kp A=>aDF P CA m c ann vs K (np n Kp) A):cL P f (y5 (bC l F)):=by
 refine ⟨u,λargs K Kp w ⟨A,L,KA,g,s,o,p,B⟩=>?_⟩;subst z;have q:args.length=l.length:=vZ o;have i:=sM o;refine aBB r t (ann:=ann.h) x y (by simp_all) ?_;have i:kD P CA c.ntmps m ann (lV c) (aHw P c KA (np n g)) (tV args) A:=i;unfold aEG;refine iA _ _ _ _ _ _ _ _ _ (RB.start s args) i λe β' s' t' D h' r' E a=>?_;obtain ⟨G,j⟩:=t';have b:j=s'.ds:=r'.ds;cases e with
 | normal=>
  unfold aHw at a;simp only at a;split at a
  .rename_i d;rw [d] at b;subst b;exact kI r' _ _ _ (λvs k=>p _ _ _ (r'.sim.keep (List.sublist_append_right _ _)) k) a
  .exact a.elim
 | ret=>
  unfold aHw at a;simp only at a;split at a
  .rename_i d;rw [d] at b;subst b;exact kI r' _ _ _ (λvs k=>p _ _ _ (r'.sim.keep (List.sublist_append_right _ _)) k) a
  .exact a.elim
 | panic v=>
  unfold aHw at a;simp only at a;split at a
  .rename_i d;rw [d] at b;subst b;exact B _ _ _ (r'.sim.keep (List.sublist_append_right _ _)) (aK9 a)
  .exact a.elim
 | exit id=>exact a.elim
theorem aM8 {f:FuncId} {E:EnA} (c:cL P f (y5 E)) (args:List Value) (K:Value->HP) (w:World) {KA:Value->AP} (d:E args KA (λ_ _=>False) (λb=>w.heap[b]?))
  (g:∀ v a h',Sim a [] h'->KA v a->K v h'):Calls P f args.toArray w (callQ K (λ_ _=>False) w):=
 c.call args K _ w ⟨_,[],KA,_,⟨λ_ _ e=>e,λ_ m=>by simp at m,List.Pairwise.nil⟩,d,g,λ_ _ _ _ q=>q⟩
end
attribute [irreducible] aDF aJr aKR
end Go.Dn
