/- Functions, read over a part of the heap. -/
import Derived.Test.YtmfmhmipcdgikaaGreatDnW
import Derived.Test.YtmfmhmipcdgikaaGreatDnK
namespace Go.Dn
abbrev EnA:=List Value->(Value->AP)->(Value->AP)->AP
def k8 (E:EnA):EnT:=λargs K Kp h=>∃ A L KA KpA,Sim A L h/\E args KA KpA A/\(∀ v A' h',Sim A' L h'->KA v A'->K v h')/\∀ v A' h',Sim A' L h'->KpA v A'->Kp v h'
def oP:List (FuncId × EnA)->CTA
 | [],_,_,_,_,_=>False
 | (f,E)::r,g,args,K,Kp,A=>match Nat.beq f g with
  | true=>E args K Kp A
  | false=>oP r g args K Kp A
def eY (P:Program):List ResultVar->SA->AH->(List Value->Prop)->Prop
 | [],_,_,K=>K []
 | .tmp t::r,s,A,K=>match look s.env t with
  | some v=>eY P r s A λvs=>K (v::vs)
  | none=>False
 | .cell a t::r,s,A,K=>match lookB s.bv a with
  | some (i,k)=>match lookX s.bx i with
   | some (cells,_)=>ldX P t cells k λv=>eY P r s A λvs=>K (v::vs)
   | none=>False
  | none=>match look s.env a with
   | some va=>jN va λad=>aE9 P t ad A λv=>eY P r s A λvs=>K (v::vs)
   | none=>False
def aGc (P:Program) (fn:Func) (K Kp:Value->AP):Ex->SA->AP
 | .normal,s,A=>match s.ds with | []=>eY P fn.results.toList s A λvs=>K (dW vs) A | _=>False
 | .ret,s,A=>match s.ds with | []=>eY P fn.results.toList s A λvs=>K (dW vs) A | _=>False
 | .panic v,s,A=>match s.ds with | []=>Kp v A | _=>False
 | _,_,_=>False
def nS (args:List Value):SA:=⟨w8 0 args,[],[],[],[],[]⟩
def aB4 (P:Program) (CA:CTA) (pm:List Nat) (fn:Func) (ann:AnnA) (args:List Value) (K Kp:Value->AP) (A:AH):Prop:=
 iL P CA fn.ntmps pm ann (eW fn) (aGc P fn K Kp) (nS args) A
def uW (P:Program) (CA:CTA) (pm:List Nat) (fn:Func) (ann:AnnA) (args:List Value) (rv:Value) (K:AP) (A:AH):Prop:=
 match eW fn with
 | .seq (.region _ ops false) y=>match ops.toList with
  | o::r=>match o.guard,o.op,fn.results.toList with
   | none,.call { callee:=.builtin .recover,args:=_,argTypes:=_ },[]=>
    fE fn.ntmps (nS args) o.dst (.v rv) λs=>j9 P CA fn.ntmps pm (o::r) r s (λs A=>iL P CA fn.ntmps pm ann y (λe s A=>match e,s.ds with
     | .normal,[]=>K A
     | .ret,[]=>K A
     | _,_=>False) s A) (λ_ _ _=>False) A
   | _,_,_=>False
  | []=>False
 | _=>False
abbrev DnT':=List Value->AP->AP
abbrev DpT':=List Value->Value->AP->AP
def aBJ (P:Program) (fn:Func) (g:FuncId) (Dn:DnT') (Dp:DpT') (K Kp:Value->AP):Ex->SA->AP
 | .normal,s,A=>match s.ds with
  | []=>eY P fn.results.toList s A λvs=>K (dW vs) A
  | [d]=>match d.target with
   | .fn (.func g') cap=>match Nat.beq g' g with
    | true=>Dn (d.args.toList++cap.toList) (λA'=>eY P fn.results.toList s A' λvs=>K (dW vs) A') A
    | false=>False
   | _=>False
  | _=>False
 | .ret,s,A=>match s.ds with
  | []=>eY P fn.results.toList s A λvs=>K (dW vs) A
  | [d]=>match d.target with
   | .fn (.func g') cap=>match Nat.beq g' g with
    | true=>Dn (d.args.toList++cap.toList) (λA'=>eY P fn.results.toList s A' λvs=>K (dW vs) A') A
    | false=>False
   | _=>False
  | _=>False
 | .panic v,s,A=>match s.ds with
  | []=>Kp v A
  | [d]=>match d.target with
   | .fn (.func g') cap=>match Nat.beq g' g with
    | true=>Dp (d.args.toList++cap.toList) v (λA'=>eY P fn.results.toList s A' λvs=>K (dW vs) A') A
    | false=>False
   | _=>False
  | _=>False
 | _,_,_=>False
def pG (P:Program) (CA:CTA) (pm:List Nat) (fn:Func) (ann:AnnA) (g:FuncId) (Dn:DnT') (Dp:DpT') (args:List Value) (K Kp:Value->AP) (A:AH):Prop:=
 iL P CA fn.ntmps pm ann (eW fn) (aBJ P fn g Dn Dp K Kp) (nS args) A
inductive PSh | c (k:CK) | agg (l:List CK) | fn (g:FuncId) (first cap:List CK)
def aW:List PSh->Type->Type
 | .fn _ a b::r,T=>ArC a (ArC b (aW r T))
 | [],T=>T
 | .c k::r,T=>zS k->aW r T
 | .agg l::r,T=>ArC l (aW r T)
def iK:(l:List PSh)->(T:Type)->aW l T->List Value->(T->Prop)->Prop
 | [],_,R,[],G=>G R
 | .c k::r,T,R,v::vs,G=>gQ k v λx=>iK r T (R x) vs G
 | .agg l::r,T,R,v::vs,G=>match v with
  | .agg cs=>iI l (aW r T) R cs.toList λR1=>iK r T R1 vs G
  | _=>False
 | .fn g a b::r,T,R,v::vs,G=>match v with
  | .func (.func g') x y=>match Nat.beq g' g with
   | true=>iI a (ArC b (aW r T)) R x.toList λR1=>iI b (aW r T) R1 y.toList λR2=>iK r T R2 vs G
   | false=>False
  | _=>False
 | _,_,_,_,_=>False
def aJ6 (k:CK) {T:Type} (g:Value->T):zS k->T:=match k with
 | .i kk=>λn:Int=>g (.int kk n)
 | .b=>λn:Bool=>g (.bool n)
 | .p=>λn:Option Addr=>g (.pointer n)
 | .s=>λn:Sl=>g (.slice n.a n.len n.cap)
 | .m=>λn:Option Nat=>g (.map n)
 | .v=>λn:Value=>g n
def aBi:(l:List CK)->(T:Type)->(List Value->T)->ArC l T
 | [],_,g=>g []
 | k::r,T,g=>aJ6 k λv=>aBi r T λvs=>g (v::vs)
def kL:(l:List PSh)->(T:Type)->(List Value->T)->aW l T
 | .fn f a b::r,T,g=>aBi a (ArC b (aW r T)) λxs=>aBi b (aW r T) λys=>kL r T λvs=>g (.func (.func f) xs.toArray ys.toArray::vs)
 | [],_,g=>g []
 | .c k::r,T,g=>aJ6 k λv=>kL r T λvs=>g (v::vs)
 | .agg l::r,T,g=>aBi l (aW r T) λcs=>kL r T λvs=>g (.agg cs.toArray::vs)
def np (b:Bool) (Kp:Value->AP):Value->AP:=match b with | true=>Kp | false=>λ_ _=>False
theorem aG3 {b:Bool} {Kp:Value->AP} {v:Value} {A:AH} (h:np b Kp v A):Kp v A:=by
 cases b
 ·exact h.elim
 ·exact h
abbrev EnR:=(Value->AP)->(Value->AP)->AP
def bB (l:List PSh) (F:aW l EnR):EnA:=λargs K Kp A=>iK l EnR F args λf=>f K Kp A
def dnS (l:List PSh) (F:aW l (AP->AP)):DnT':=λargs K A=>iK l (AP->AP) F args λf=>f K A
def dpS (l:List PSh) (t:TypeId) (ks:List CK) (F:aW l (ArC ks (AP->AP))):DpT':=λargs v K A=>match v with
 | .iface t' (.agg cs)=>match Nat.beq t' t with
  | true=>iK l (ArC ks (AP->AP)) F args λR=>iI ks (AP->AP) R cs.toList λf=>f K A
  | false=>False
 | _=>False
section
variable {P:Program} {CA:CTA} {A:AH} {h:Hp}
theorem aDH {T:Type} {k:CK} {g:Value->T} {v:Value} {G:T->Prop} (hh:gQ k v λx=>G (aJ6 k g x)):G (g v):=by
 cases k<;>cases v<;>simp only [gQ] at hh<;>first | exact hh.elim | exact hh | skip
 obtain ⟨h1,h2⟩:=bD hh;rename_i kk k' n;have:kk=k':=by cases kk<;>cases k'<;>first | rfl | cases h1
 subst this;exact h2
theorem pR:∀ {l:List CK} {T:Type} {g:List Value->T} {vs:List Value} {G:T->Prop},iI l T (aBi l T g) vs G->G (g vs)
 | [],_,_,[],_,h=>h
 | [],_,_,_::_,_,h=>h.elim
 | _::_,_,_,[],_,h=>h.elim
 | k::r,T,g,v::vs,G,h=>pR (l:=r) (g:=λvs=>g (v::vs)) (aDH (k:=k) (g:=λv=>aBi r T λvs=>g (v::vs)) (G:=λR=>iI r T R vs G) h)
theorem gF:∀ {l:List PSh} {T:Type} {g:List Value->T} {vs:List Value} {G:T->Prop},iK l T (kL l T g) vs G->G (g vs)
 | [],_,_,[],_,h=>h
 | [],_,_,_::_,_,h=>h.elim
 | .c k::r,T,g,v::vs,G,h=>gF (l:=r) (g:=λvs=>g (v::vs)) (aDH (k:=k) (g:=λv=>kL r T λvs=>g (v::vs)) (G:=λR=>iK r T R vs G) h)
 | .c _::_,_,_,[],_,h=>h.elim
 | .agg _::_,_,_,[],_,h=>h.elim
 | .agg l::r,T,g,v::vs,G,h=>by
  unfold iK at h;split at h
  ·rename_i cs;have:=pR (l:=l) (g:=λcs=>kL r T λvs=>g (.agg cs.toArray::vs)) (G:=λR=>iK r T R vs G) h;rw [Array.toArray_toList] at this;exact gF (l:=r) (g:=λvs=>g (.agg cs::vs)) this
  ·exact h.elim
 | .fn _ _ _::_,_,_,[],_,h=>h.elim
 | .fn f a b::r,T,g,v::vs,G,h=>by
  unfold iK at h;split at h
  ·rename_i g' x y;split at h
   ·rename_i hb;have hb:=gC.1 hb;subst hb;have h1:=pR (l:=a) (T:=ArC b (aW r T)) (g:=λxs=>aBi b (aW r T) λys=>kL r T λvs=>g (.func (.func g') xs.toArray ys.toArray::vs)) (G:=λR1=>iI b (aW r T) R1 y.toList λR2=>iK r T R2 vs G) h;have h2:=pR (l:=b) (T:=aW r T) (g:=λys=>kL r T λvs=>g (.func (.func g') x.toList.toArray ys.toArray::vs)) (G:=λR2=>iK r T R2 vs G) h1;rw [Array.toArray_toList,Array.toArray_toList] at h2;exact gF (l:=r) (g:=λvs=>g (.func (.func g') x y::vs)) h2
   ·exact h.elim
  ·exact h.elim
def exC:(l:List CK)->{T U:Type}->(Nat->ArC l T)->((Nat->T)->U)->ArC l U
 | [],_,_,F,c=>c F
 | _::r,_,_,F,c=>λx=>exC r (λn=>F n x) c
def exS:(l:List PSh)->{T:Type}->(Nat->aW l T)->((Nat->T)->T)->aW l T
 | [],_,F,c=>c F
 | .c _::r,_,F,c=>λx=>exS r (λn=>F n x) c
 | .agg l::r,_,F,c=>exC l F λG=>exS r G c
 | .fn _ a b::r,T,F,c=>exC a (T:=ArC b (aW r T)) F λG=>exC b G λH=>exS r H c
theorem aDd {k:CK} {v:Value} {H:Nat->zS k->Prop} (h:gQ k v λx=>∃ n,H n x):∃ n,gQ k v (H n):=by
 cases k<;>cases v<;>simp only [gQ] at h ⊢<;>first | exact h.elim | exact h | skip
 obtain ⟨h1,n,h2⟩:=bD h;rw [h1];exact ⟨n,h2⟩
theorem xP {k:CK} {v:Value} {G G':zS k->Prop} (h:gQ k v G) (hg:∀ x,G x->G' x):gQ k v G':=by
 cases k<;>cases v<;>simp only [gQ] at h ⊢<;>first | exact h.elim | exact hg _ h | skip
 obtain ⟨h1,h2⟩:=bD h;rw [h1];exact hg _ h2
theorem t7:∀ (l:List CK) {T U:Type} (F:Nat->ArC l T) (c:(Nat->T)->U) (vs:List Value) (G:U->Prop) (G':T->Prop),(∀ R,G (c R)->∃ n,G' (R n))->iI l U (exC l F c) vs G->∃ n,iI l T (F n) vs G'
 | [],_,_,F,c,[],G,G',hG,h=>hG F h
 | [],_,_,_,_,_::_,_,_,_,h=>h.elim
 | _::_,_,_,_,_,[],_,_,_,h=>h.elim
 | k::r,T,U,F,c,v::vs,G,G',hG,h=>aDd (xP (k:=k) (G:=λx=>iI r U (exC r (λn=>F n x) c) vs G) h λx hx=>t7 r (λn=>F n x) c vs G G' hG hx)
theorem tM:∀ (l:List PSh) {T:Type} (F:Nat->aW l T) (c:(Nat->T)->T) (vs:List Value) (G:T->Prop),(∀ R,G (c R)->∃ n,G (R n))->iK l T (exS l F c) vs G->∃ n,iK l T (F n) vs G
 | [],_,F,c,[],G,hG,h=>hG F h
 | [],_,_,_,_::_,_,_,h=>h.elim
 | .c _::_,_,_,_,[],_,_,h=>h.elim
 | .c k::r,T,F,c,v::vs,G,hG,h=>aDd (xP (k:=k) (G:=λx=>iK r T (exS r (λn=>F n x) c) vs G) h λx hx=>tM r (λn=>F n x) c vs G hG hx)
 | .agg _::_,_,_,_,[],_,_,h=>h.elim
 | .agg l::r,T,F,c,v::vs,G,hG,h=>by
  unfold iK at h ⊢;cases v<;>try exact h.elim
  exact t7 l F (λG=>exS r G c) _ (λR=>iK r T R vs G) (λR=>iK r T R vs G) (λR hR=>tM r R c vs G hG hR) h
 | .fn _ _ _::_,_,_,_,[],_,_,h=>h.elim
 | .fn f a b::r,T,F,c,v::vs,G,hG,h=>by
  unfold iK at h ⊢;split at h
  ·rename_i g' x y;split at h
   ·rename_i hb
    obtain ⟨n,hn⟩:=t7 a (T:=ArC b (aW r T)) F (λG=>exC b G λH=>exS r H c) _ (λR1=>iI b (aW r T) R1 y.toList λR2=>iK r T R2 vs G) (λR1=>iI b (aW r T) R1 y.toList λR2=>iK r T R2 vs G) (λR hR=>
     t7 b R (λH=>exS r H c) _ (λR=>iK r T R vs G) (λR=>iK r T R vs G) (λR hR=>tM r R c vs G hG hR) hR) h
    exact ⟨n,hn⟩
   ·exact h.elim
  ·exact h.elim
theorem aFr {f:FuncId} {l:List PSh} {F:aW l EnR} (he:∀ (as:Array Value) (w:World),(callFunc f as).run P w = .ok (.enter f as) w) (hF:F=kL l EnR λ_ _ _ _=>False):bA P f (k8 (bB l F)):=by
 subst hF;refine ⟨he,λargs K Kp w ⟨A,L,KA,KpA,s,hh,_⟩=>?_⟩;have hh:iK l EnR (kL l EnR λ_ _ _ _=>False) args λg=>g KA KpA A:=hh;exact absurd (gF (G:=λg:EnR=>g KA KpA A) hh) id
theorem aGr {f:FuncId} {l:List PSh} {F:Nat->aW l EnR} {G:aW l EnR} (hF:∀ k,bA P f (k8 (bB l (F k)))) (hG:G=exS l F λR K Kp A=>∃ k,R k K Kp A):bA P f (k8 (bB l G)):=by
 subst hG;refine ⟨(hF 0).enter,λargs K Kp w ⟨A,L,KA,KpA,s,hh,h1,h2⟩=>?_⟩;obtain ⟨k,hk⟩:=tM l F _ args (λf=>f KA KpA A) (λR h=>h) hh;exact (hF k).call args K Kp w ⟨A,L,KA,KpA,s,hk,h1,h2⟩
theorem aD:cG P (nI (oP [])):=⟨λ_ _ _ _ _ ⟨_,_,_,_,_,h,_⟩=>h.elim,λ_ _ _ _ _ ⟨_,_,_,_,_,h,_⟩ _=>h.elim⟩
theorem aA {f:FuncId} {E:EnA} {r:List (FuncId × EnA)} (he:bA P f (k8 E)) (hr:cG P (nI (oP r))):cG P (nI (oP ((f,E)::r))):=by
 constructor
 ·intro g args K Kp w ⟨A,L,KA,KpA,s,hh,h1,h2⟩;unfold oP at hh;split at hh
  ·rename_i hb;rw [<-gC.1 hb];exact .inl he.enter
  ·exact hr.enters g args K Kp w ⟨A,L,KA,KpA,s,hh,h1,h2⟩
 ·intro g args K Kp w ⟨A,L,KA,KpA,s,hh,h1,h2⟩ hent;unfold oP at hh;split at hh
  ·rename_i hb;rw [<-gC.1 hb];exact he.call args K Kp w ⟨A,L,KA,KpA,s,hh,h1,h2⟩
  ·exact hr.calls g args K Kp w ⟨A,L,KA,KpA,s,hh,h1,h2⟩ hent
def aCU (P:Program) (f:FuncId) (E:EnT):Prop:=∀ args K Kp (w:World),E args K Kp w.heap->∃ v,(callFunc f args.toArray).run P w = .ok (.value v) w/\K v w.heap
theorem aAF {f:FuncId} {E:EnA} {r:List (FuncId × EnA)} (he:aCU P f (k8 E)) (hr:cG P (nI (oP r))):cG P (nI (oP ((f,E)::r))):=by
 constructor
 ·intro g args K Kp w ⟨A,L,KA,KpA,s,hh,h1,h2⟩;unfold oP at hh;split at hh
  ·rename_i hb;rw [<-gC.1 hb];exact .inr (he args K Kp w ⟨A,L,KA,KpA,s,hh,h1,h2⟩)
  ·exact hr.enters g args K Kp w ⟨A,L,KA,KpA,s,hh,h1,h2⟩
 ·intro g args K Kp w ⟨A,L,KA,KpA,s,hh,h1,h2⟩ hent;unfold oP at hh;split at hh
  ·rename_i hb;rw [<-gC.1 hb] at hent;obtain ⟨v,hv,_⟩:=he args K Kp w ⟨A,L,KA,KpA,s,hh,h1,h2⟩;have h3:=hent args.toArray w;rw [hv] at h3;cases h3
  ·exact hr.calls g args K Kp w ⟨A,L,KA,KpA,s,hh,h1,h2⟩ hent
theorem gN {E:Bx} {β:Nat->Nat} {s:SA} {t:St} (r:RB E β s t A h):∀ (l:List ResultVar) (K K':List Value->Prop),(∀ vs,K vs->K' vs)->eY P l s A K->eR P l t.env h K'
 | [],_,_,hx,hh=>hx _ hh
 | .tmp x::l,K,K',hx,hh=>by
  unfold eY at hh;unfold eR;split at hh
  ·rename_i v hv;rw [r.env _ _ hv];exact gN r l _ _ (λ_=>hx _) hh
  ·exact hh.elim
 | .cell a ty::l,K,K',hx,hh=>by
  unfold eY at hh;unfold eR;split at hh
  ·rename_i i k hb;obtain ⟨g1,g2⟩:=r.bv _ _ _ hb;rw [g1];simp only [jN,aF];split at hh
   ·rename_i cs ty2 hl;obtain ⟨l1,l2,q1,q2⟩:=r.box hl;have sim:=r.sim;rw [q1] at sim;refine aDt sim ?_;exact ldX_mono (λv h1=>gN r l _ _ (λ_=>hx _) h1) hh
   ·exact hh.elim
  ·split at hh
   ·rename_i va hv;rw [r.env _ _ hv];exact mN (λad h1=>aDG r.sim h1 λv h2=>gN r l _ _ (λ_=>hx _) h2) hh
   ·exact hh.elim
where
 ldX_mono {t:TypeId} {cs:List Value} {o:Nat} {K K':Value->Prop} (hx:∀ v,K v->K' v) (h:ldX P t cs o K):ldX P t cs o K':=by
  unfold ldX at h ⊢;split at h
  ·split at h
   ·split at h
    ·split at h
     ·exact hx _ h
     ·exact h.elim
    ·exact h.elim
   ·split at h
    ·split at h
     ·exact hx _ h
     ·exact h.elim
    ·exact h.elim
  ·exact h.elim
theorem RB.start {L:Bx} (s:Sim A L h) (args:List Value):RB L (λ_=>0) (nS args) ⟨w8 0 args,[]⟩ A h:=
 ⟨λ_ _ e=>e,λ_ _ _ e=>by simp [nS,lookB] at e,rfl,s,List.nodup_nil⟩
theorem oX:∀ {l:List CK} {T:Type} {R:ArC l T} {ws:List Value} {G:T->Prop},iI l T R ws G->∃ x,G x
 | [],_,_,[],_,h=>⟨_,h⟩
 | [],_,_,_::_,_,h=>h.elim
 | _::_,_,_,[],_,h=>h.elim
 | k::l,T,R,w::ws,G,h=>by
  have h:gQ k w _:=h;cases k<;>cases w<;>simp only [gQ] at h<;>first | exact h.elim | exact oX h | skip
  obtain ⟨_,h2⟩:=bD h;exact oX h2
theorem kQ:∀ {l:List PSh} {T:Type} {R:aW l T} {vs:List Value} {G:T->Prop},iK l T R vs G->vs.length=l.length
 | [],_,_,[],_,_=>rfl
 | [],_,_,_::_,_,h=>h.elim
 | .c k::r,T,R,v::vs,G,h=>by
  have:∃ x:aW r T,iK r T x vs G:=by
   have h:gQ k v _:=h;cases k<;>cases v<;>simp only [gQ] at h<;>first | exact h.elim | exact ⟨_,h⟩ | skip
   obtain ⟨_,h2⟩:=bD h;exact ⟨_,h2⟩
  obtain ⟨x,hx⟩:=this;simp [kQ hx]
 | .c _::_,_,_,[],_,h=>h.elim
 | .agg _::_,_,_,[],_,h=>h.elim
 | .fn _ _ _::_,_,_,[],_,h=>h.elim
 | .agg l::r,T,R,v::vs,G,h=>by
  unfold iK at h;split at h
  ·obtain ⟨x,hx⟩:=oX h;simp [kQ hx]
  ·exact h.elim
 | .fn f a b::r,T,R,v::vs,G,h=>by
  unfold iK at h;split at h
  ·split at h
   ·obtain ⟨x,hx⟩:=oX h;obtain ⟨y,hy⟩:=oX hx;simp [kQ hy]
   ·exact h.elim
  ·exact h.elim
theorem aJY (hm:P.follows .mixedOrders=true) (hC:cG P (nI CA)) {f:FuncId} {fn:Func} {pm:List Nat} {ann:AnnA} {l:List PSh} {F:aW l EnR}
  (he:∀ (as:Array Value) (w:World),(callFunc f as).run P w = .ok (.enter f as) w) (hf:P.funcs[f]? = some fn) (hb:fn.body.isSome=true) (hn:Nat.ble l.length fn.ntmps=true)
  (b0:Bool) (hF:F=kL l EnR λvs K Kp A=>aB4 P CA pm fn ann vs K (np b0 Kp) A):bA P f (k8 (bB l F)):=by
 refine ⟨he,λargs K Kp w ⟨A,L,KA,KpA,s,hh,h1,h2⟩=>?_⟩;subst hF;have hlen:args.length=l.length:=kQ hh;have hd:=gF hh;refine zZ hm hC (ann:=ann.h) hf hb (by rw [hlen];exact hn) ?_;have hd:iL P CA fn.ntmps pm ann (eW fn) (aGc P fn KA (np b0 KpA)) (nS args) A:=hd;unfold aDE;refine fC _ _ _ _ _ _ _ _ _ (RB.start s args) hd λe β' s' t' A' h' r' sb hk=>?_;obtain ⟨te,tds⟩:=t';have hds:tds=s'.ds:=r'.ds;cases e with
 | normal=>
  unfold aGc at hk;simp only at hk;split at hk
  ·rename_i e0;rw [e0] at hds;subst hds;exact gN r' _ _ _ (λvs hv=>h1 _ _ _ (r'.sim.keep (List.sublist_append_right _ _)) hv) hk
  ·exact hk.elim
 | ret=>
  unfold aGc at hk;simp only at hk;split at hk
  ·rename_i e0;rw [e0] at hds;subst hds;exact gN r' _ _ _ (λvs hv=>h1 _ _ _ (r'.sim.keep (List.sublist_append_right _ _)) hv) hk
  ·exact hk.elim
 | panic v=>
  unfold aGc at hk;simp only at hk;split at hk
  ·rename_i e0;rw [e0] at hds;subst hds;exact h2 _ _ _ (r'.sim.keep (List.sublist_append_right _ _)) (aG3 hk)
  ·exact hk.elim
 | exit id=>exact hk.elim
theorem xJ {fn:Func} {pm:List Nat} {ann:AnnA} {args:List Value} {rv:Value} {KA:AP} {K:HP} {L:Bx} (s:Sim A L h) (hh:uW P CA pm fn ann args rv KA A) (hk:∀ A' h',Sim A' L h'->KA A'->K h'):uQ P (nI CA) fn ann.h args rv K h:=by
 unfold uW at hh;unfold uQ;split at hh
 ·rename_i e0;rw [e0];simp only;split at hh
  ·rename_i o r e1;rw [e1];simp only;split at hh
   ·rename_i e2 e3 e4;rw [e2,e3,e4];simp only;refine eX (RB.start s args) (x:=.v rv) (y:=rv) rfl (λ_ _ e=>by cases e) hh λs1 t1 r1 sb1 _ _ h1=>?_;refine denOpsA_up _ _ s1 t1 A h r1 h1 (λβ2 s2 t2 A2 h2 r2 sb2 h3=>?_) λ_ _ _ _ _ _ _ _ q=>q.elim;refine fC _ _ _ _ _ _ _ _ _ r2 h3 λe β3 s3 t3 A3 h3 r3 sb3 h4=>?_;obtain ⟨te,tds⟩:=t3;have hds:tds=s3.ds:=r3.ds;split at h4
    ·rename_i e5;rw [e5] at hds;subst hds;exact hk _ _ (r3.sim.keep (List.sublist_append_right _ _)) h4
    ·rename_i e5;rw [e5] at hds;subst hds;exact hk _ _ (r3.sim.keep (List.sublist_append_right _ _)) h4
    ·exact h4.elim
   ·exact hh.elim
  ·exact hh.elim
 ·exact hh.elim
def aFC (Dn:DnT'):List Value->HP->HP:=λargs K h=>∃ A L KA,Sim A L h/\Dn args KA A/\∀ A' h',Sim A' L h'->KA A'->K h'
def aGU (Dp:DpT'):List Value->Value->HP->HP:=λargs v K h=>∃ A L KA,Sim A L h/\Dp args v KA A/\∀ A' h',Sim A' L h'->KA A'->K h'
theorem aKL (hm:P.follows .mixedOrders=true) (hC:cG P (nI CA)) {g:FuncId} {fn:Func} {p1 p2:List Nat} {an ap:AnnA} {l:List PSh} {t:TypeId} {ks:List CK} {Fn:aW l (AP->AP)} {Fp:aW l (ArC ks (AP->AP))}
  (he:∀ (as:Array Value) (w:World),(callFunc g as).run P w = .ok (.enter g as) w) (hf:P.funcs[g]? = some fn) (hb:fn.body.isSome=true) (hn:Nat.ble l.length fn.ntmps=true)
  (h1:Fn=kL l (AP->AP) λvs K A=>uW P CA p1 fn an vs .nilIface K A) (h2:Fp=kL l (ArC ks (AP->AP)) λvs=>aBi ks (AP->AP) λps K A=>uW P CA p2 fn ap vs (.iface t (.agg ps.toArray)) K A) :
  uT P g (aFC (dnS l Fn)) (aGU (dpS l t ks Fp)):=by
 subst h1 h2;refine aGf hm hC (an:=an.h) (ap:=ap.h) he hf hb ?_ ?_
 ·intro args K h ⟨A,L,KA,s,hd,hk⟩;exact ⟨by rw [kQ hd];exact hn,xJ s (gF hd) hk⟩
 ·intro args v K h ⟨A,L,KA,s,hd,hk⟩;unfold dpS at hd;split at hd
  ·rename_i t' cs;split at hd
   ·rename_i ht;have ht:=gC.1 ht;subst ht;refine ⟨by rw [kQ hd];exact hn,?_⟩;have h3:=gF (G:=λR=>iI ks (AP->AP) R cs.toList λf=>f KA A) hd;have h4:=pR h3;rw [Array.toArray_toList] at h4;exact xJ s h4 hk
   ·exact hd.elim
  ·exact hd.elim
theorem aGB (hm:P.follows .mixedOrders=true) (hC:cG P (nI CA)) {f g:FuncId} {fn:Func} {pm:List Nat} {ann:AnnA} {l:List PSh} {F:aW l EnR} {Dn:DnT'} {Dp:DpT'} (hD:uT P g (aFC Dn) (aGU Dp))
  (he:∀ (as:Array Value) (w:World),(callFunc f as).run P w = .ok (.enter f as) w) (hf:P.funcs[f]? = some fn) (hb:fn.body.isSome=true) (hn:Nat.ble l.length fn.ntmps=true)
  (b0:Bool) (hF:F=kL l EnR λvs K Kp A=>pG P CA pm fn ann g Dn Dp vs K (np b0 Kp) A):bA P f (k8 (bB l F)):=by
 refine ⟨he,λargs K Kp w ⟨A,L,KA,KpA,s,hh,h1,h2⟩=>?_⟩;subst hF;have hlen:args.length=l.length:=kQ hh;have hd:=gF hh;refine w7 hm hC (ann:=ann.h) hD hf hb (by rw [hlen];exact hn) ?_;have hd:iL P CA fn.ntmps pm ann (eW fn) (aBJ P fn g Dn Dp KA (np b0 KpA)) (nS args) A:=hd;unfold aAt;refine fC _ _ _ _ _ _ _ _ _ (RB.start s args) hd λe β' s' t' A' h' r' sb hk=>?_;obtain ⟨te,tds⟩:=t';have hds:tds=s'.ds:=r'.ds;have sim2:=r'.sim
 have res:∀ {A2:AH} {h2':Hp},Sim A2 (bxL β' s'.bx++L) h2'->(eY P fn.results.toList s' A2 λvs=>KA (dW vs) A2)->eR P fn.results.toList te h2' λvs=>K (dW vs) h2':=λq hr=>
  gN (β:=β') (t:=⟨te,tds⟩) ⟨r'.env,r'.bv,r'.ds,q,r'.nd⟩ _ _ _ (λvs hv=>h1 _ _ _ (q.keep (List.sublist_append_right _ _)) hv) hr
 cases e with
 | normal=>
  unfold aBJ at hk;simp only at hk;split at hk
  ·rename_i e0;rw [e0] at hds;subst hds;exact res sim2 hk
  ·rename_i d e0;rw [e0] at hds;subst hds;unfold aB5;simp only;split at hk
   ·rename_i g' cap e1;rw [e1];simp only;split at hk
    ·rename_i e2;rw [e2];exact ⟨A',_,_,sim2,hk,λA2 h2' q=>res q⟩
    ·exact hk.elim
   ·exact hk.elim
  ·exact hk.elim
 | ret=>
  unfold aBJ at hk;simp only at hk;split at hk
  ·rename_i e0;rw [e0] at hds;subst hds;exact res sim2 hk
  ·rename_i d e0;rw [e0] at hds;subst hds;unfold aB5;simp only;split at hk
   ·rename_i g' cap e1;rw [e1];simp only;split at hk
    ·rename_i e2;rw [e2];exact ⟨A',_,_,sim2,hk,λA2 h2' q=>res q⟩
    ·exact hk.elim
   ·exact hk.elim
  ·exact hk.elim
 | panic v=>
  unfold aBJ at hk;simp only at hk;split at hk
  ·rename_i e0;rw [e0] at hds;subst hds;exact h2 _ _ _ (sim2.keep (List.sublist_append_right _ _)) (aG3 hk)
  ·rename_i d e0;rw [e0] at hds;subst hds;unfold aB5;simp only;split at hk
   ·rename_i g' cap e1;rw [e1];simp only;split at hk
    ·rename_i e2;rw [e2];exact ⟨A',_,_,sim2,hk,λA2 h2' q=>res q⟩
    ·exact hk.elim
   ·exact hk.elim
  ·exact hk.elim
 | exit id=>exact hk.elim
theorem aLR {f:FuncId} {E:EnA} (he:bA P f (k8 E)) (args:List Value) (K:Value->HP) (w:World) {KA:Value->AP} (hh:E args KA (λ_ _=>False) (λb=>w.heap[b]?))
  (hk:∀ v A' h',Sim A' [] h'->KA v A'->K v h'):Calls P f args.toArray w (callQ K (λ_ _=>False) w):=
 he.call args K _ w ⟨_,[],KA,_,⟨λ_ _ e=>e,λ_ m=>by simp at m,List.Pairwise.nil⟩,hh,hk,λ_ _ _ _ q=>q⟩
end
attribute [irreducible] aB4 pG uW
end Go.Dn
