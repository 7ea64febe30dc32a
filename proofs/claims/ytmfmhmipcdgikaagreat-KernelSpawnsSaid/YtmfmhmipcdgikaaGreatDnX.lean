/- Functions, read over a part of the heap. -/
import Derived.Test.YtmfmhmipcdgikaaGreatDnW
import Derived.Test.YtmfmhmipcdgikaaGreatDnK
namespace Go.Dn
abbrev EnA:=List Value->(Value->AP)->(Value->AP)->AP
def pK (E:EnA):EnT:=λargs K Kp h=>∃ A L KA KpA,Sim A L h/\E args KA KpA A/\(∀ v A' h',Sim A' L h'->KA v A'->K v h')/\∀ v A' h',Sim A' L h'->KpA v A'->Kp v h'
def mU:List (FuncId × EnA)->CTA
 | [],_,_,_,_,_=>False
 | (f,E)::r,g,args,K,Kp,A=>match Nat.beq f g with
  | true=>E args K Kp A
  | false=>mU r g args K Kp A
def eL (P:Program):List ResultVar->SA->AH->(List Value->Prop)->Prop
 | [],_,_,K=>K []
 | .tmp t::r,s,A,K=>match look s.env t with
  | some v=>eL P r s A λvs=>K (v::vs)
  | none=>False
 | .cell a t::r,s,A,K=>match lookB s.bv a with
  | some (i,k)=>match lookX s.bx i with
   | some (cells,_)=>ldX P t cells k λv=>eL P r s A λvs=>K (v::vs)
   | none=>False
  | none=>match look s.env a with
   | some va=>iS va λad=>aDK P t ad A λv=>eL P r s A λvs=>K (v::vs)
   | none=>False
def aFG (P:Program) (fn:Func) (K Kp:Value->AP):Ex->SA->AP
 | .normal,s,A=>match s.ds with | []=>eL P fn.results.toList s A λvs=>K (dO vs) A | _=>False
 | .ret,s,A=>match s.ds with | []=>eL P fn.results.toList s A λvs=>K (dO vs) A | _=>False
 | .panic v,s,A=>match s.ds with | []=>Kp v A | _=>False
 | _,_,_=>False
def nI (args:List Value):SA:=⟨vN 0 args,[],[],[],[],[]⟩
def aBQ (P:Program) (CA:CTA) (pm:List Nat) (fn:Func) (ann:AnnA) (args:List Value) (K Kp:Value->AP) (A:AH):Prop:=
 gW P CA fn.ntmps pm ann (eQ fn) (aFG P fn K Kp) (nI args) A
def uL (P:Program) (CA:CTA) (pm:List Nat) (fn:Func) (ann:AnnA) (args:List Value) (rv:Value) (K:AP) (A:AH):Prop:=
 match eQ fn with
 | .seq (.region _ ops false) y=>match ops.toList with
  | o::r=>match o.guard,o.op,fn.results.toList with
   | none,.call { callee:=.builtin .recover,args:=_,argTypes:=_ },[]=>
    eT fn.ntmps (nI args) o.dst (.v rv) λs=>jC P CA fn.ntmps pm (o::r) r s (λs A=>gW P CA fn.ntmps pm ann y (λe s A=>match e,s.ds with
     | .normal,[]=>K A
     | .ret,[]=>K A
     | _,_=>False) s A) (λ_ _ _=>False) A
   | _,_,_=>False
  | []=>False
 | _=>False
abbrev DnT':=List Value->AP->AP
abbrev DpT':=List Value->Value->AP->AP
def aAV (P:Program) (fn:Func) (g:FuncId) (Dn:DnT') (Dp:DpT') (K Kp:Value->AP):Ex->SA->AP
 | .normal,s,A=>match s.ds with
  | []=>eL P fn.results.toList s A λvs=>K (dO vs) A
  | [d]=>match d.target with
   | .fn (.func g') cap=>match Nat.beq g' g with
    | true=>Dn (d.args.toList++cap.toList) (λA'=>eL P fn.results.toList s A' λvs=>K (dO vs) A') A
    | false=>False
   | _=>False
  | _=>False
 | .ret,s,A=>match s.ds with
  | []=>eL P fn.results.toList s A λvs=>K (dO vs) A
  | [d]=>match d.target with
   | .fn (.func g') cap=>match Nat.beq g' g with
    | true=>Dn (d.args.toList++cap.toList) (λA'=>eL P fn.results.toList s A' λvs=>K (dO vs) A') A
    | false=>False
   | _=>False
  | _=>False
 | .panic v,s,A=>match s.ds with
  | []=>Kp v A
  | [d]=>match d.target with
   | .fn (.func g') cap=>match Nat.beq g' g with
    | true=>Dp (d.args.toList++cap.toList) v (λA'=>eL P fn.results.toList s A' λvs=>K (dO vs) A') A
    | false=>False
   | _=>False
  | _=>False
 | _,_,_=>False
def oC (P:Program) (CA:CTA) (pm:List Nat) (fn:Func) (ann:AnnA) (g:FuncId) (Dn:DnT') (Dp:DpT') (args:List Value) (K Kp:Value->AP) (A:AH):Prop:=
 gW P CA fn.ntmps pm ann (eQ fn) (aAV P fn g Dn Dp K Kp) (nI args) A
inductive PSh | c (k:CK) | agg (l:List CK) | fn (g:FuncId) (first cap:List CK)
def aY:List PSh->Type->Type
 | .fn _ a b::r,T=>ArC a (ArC b (aY r T))
 | [],T=>T
 | .c k::r,T=>CKT k->aY r T
 | .agg l::r,T=>ArC l (aY r T)
def nQ:(l:List PSh)->(T:Type)->aY l T->List Value->(T->Prop)->Prop
 | [],_,R,[],G=>G R
 | .c k::r,T,R,v::vs,G=>jA k v λx=>nQ r T (R x) vs G
 | .agg l::r,T,R,v::vs,G=>match v with
  | .agg cs=>iZ l (aY r T) R cs.toList λR1=>nQ r T R1 vs G
  | _=>False
 | .fn g a b::r,T,R,v::vs,G=>match v with
  | .func (.func g') x y=>match Nat.beq g' g with
   | true=>iZ a (ArC b (aY r T)) R x.toList λR1=>iZ b (aY r T) R1 y.toList λR2=>nQ r T R2 vs G
   | false=>False
  | _=>False
 | _,_,_,_,_=>False
def aIQ (k:CK) {T:Type} (g:Value->T):CKT k->T:=match k with
 | .i kk=>λn:Int=>g (.int kk n)
 | .b=>λn:Bool=>g (.bool n)
 | .p=>λn:Option Addr=>g (.pointer n)
 | .s=>λn:Sl=>g (.slice n.a n.len n.cap)
 | .m=>λn:Option Nat=>g (.map n)
 | .v=>λn:Value=>g n
def aAA:(l:List CK)->(T:Type)->(List Value->T)->ArC l T
 | [],_,g=>g []
 | k::r,T,g=>aIQ k λv=>aAA r T λvs=>g (v::vs)
def kW:(l:List PSh)->(T:Type)->(List Value->T)->aY l T
 | .fn f a b::r,T,g=>aAA a (ArC b (aY r T)) λxs=>aAA b (aY r T) λys=>kW r T λvs=>g (.func (.func f) xs.toArray ys.toArray::vs)
 | [],_,g=>g []
 | .c k::r,T,g=>aIQ k λv=>kW r T λvs=>g (v::vs)
 | .agg l::r,T,g=>aAA l (aY r T) λcs=>kW r T λvs=>g (.agg cs.toArray::vs)
def np (b:Bool) (Kp:Value->AP):Value->AP:=match b with | true=>Kp | false=>λ_ _=>False
theorem aFp {b:Bool} {Kp:Value->AP} {v:Value} {A:AH} (h:np b Kp v A):Kp v A:=by
 cases b
 ·exact h.elim
 ·exact h
abbrev EnR:=(Value->AP)->(Value->AP)->AP
def bD (l:List PSh) (F:aY l EnR):EnA:=λargs K Kp A=>nQ l EnR F args λf=>f K Kp A
def dnS (l:List PSh) (F:aY l (AP->AP)):DnT':=λargs K A=>nQ l (AP->AP) F args λf=>f K A
def dpS (l:List PSh) (t:TypeId) (ks:List CK) (F:aY l (ArC ks (AP->AP))):DpT':=λargs v K A=>match v with
 | .iface t' (.agg cs)=>match Nat.beq t' t with
  | true=>nQ l (ArC ks (AP->AP)) F args λR=>iZ ks (AP->AP) R cs.toList λf=>f K A
  | false=>False
 | _=>False
section
variable {P:Program} {CA:CTA} {A:AH} {h:Hp}
theorem aCE {T:Type} {k:CK} {g:Value->T} {v:Value} {G:T->Prop} (hh:jA k v λx=>G (aIQ k g x)):G (g v):=by
 cases k<;>cases v<;>simp only [jA] at hh<;>first | exact hh.elim | exact hh | skip
 obtain ⟨h1,h2⟩:=bB hh;rename_i kk k' n;have:kk=k':=by cases kk<;>cases k'<;>first | rfl | cases h1
 subst this;exact h2
theorem oD:∀ {l:List CK} {T:Type} {g:List Value->T} {vs:List Value} {G:T->Prop},iZ l T (aAA l T g) vs G->G (g vs)
 | [],_,_,[],_,h=>h
 | [],_,_,_::_,_,h=>h.elim
 | _::_,_,_,[],_,h=>h.elim
 | k::r,T,g,v::vs,G,h=>oD (l:=r) (g:=λvs=>g (v::vs)) (aCE (k:=k) (g:=λv=>aAA r T λvs=>g (v::vs)) (G:=λR=>iZ r T R vs G) h)
theorem hP:∀ {l:List PSh} {T:Type} {g:List Value->T} {vs:List Value} {G:T->Prop},nQ l T (kW l T g) vs G->G (g vs)
 | [],_,_,[],_,h=>h
 | [],_,_,_::_,_,h=>h.elim
 | .c k::r,T,g,v::vs,G,h=>hP (l:=r) (g:=λvs=>g (v::vs)) (aCE (k:=k) (g:=λv=>kW r T λvs=>g (v::vs)) (G:=λR=>nQ r T R vs G) h)
 | .c _::_,_,_,[],_,h=>h.elim
 | .agg _::_,_,_,[],_,h=>h.elim
 | .agg l::r,T,g,v::vs,G,h=>by
  unfold nQ at h;split at h
  ·rename_i cs;have:=oD (l:=l) (g:=λcs=>kW r T λvs=>g (.agg cs.toArray::vs)) (G:=λR=>nQ r T R vs G) h;rw [Array.toArray_toList] at this;exact hP (l:=r) (g:=λvs=>g (.agg cs::vs)) this
  ·exact h.elim
 | .fn _ _ _::_,_,_,[],_,h=>h.elim
 | .fn f a b::r,T,g,v::vs,G,h=>by
  unfold nQ at h;split at h
  ·rename_i g' x y;split at h
   ·rename_i hb;have hb:=fR.1 hb;subst hb;have h1:=oD (l:=a) (T:=ArC b (aY r T)) (g:=λxs=>aAA b (aY r T) λys=>kW r T λvs=>g (.func (.func g') xs.toArray ys.toArray::vs)) (G:=λR1=>iZ b (aY r T) R1 y.toList λR2=>nQ r T R2 vs G) h;have h2:=oD (l:=b) (T:=aY r T) (g:=λys=>kW r T λvs=>g (.func (.func g') x.toList.toArray ys.toArray::vs)) (G:=λR2=>nQ r T R2 vs G) h1;rw [Array.toArray_toList,Array.toArray_toList] at h2;exact hP (l:=r) (g:=λvs=>g (.func (.func g') x y::vs)) h2
   ·exact h.elim
  ·exact h.elim
theorem aD:cF P (mJ (mU [])):=⟨λ_ _ _ _ _ ⟨_,_,_,_,_,h,_⟩=>h.elim,λ_ _ _ _ _ ⟨_,_,_,_,_,h,_⟩ _=>h.elim⟩
theorem aA {f:FuncId} {E:EnA} {r:List (FuncId × EnA)} (he:bL P f (pK E)) (hr:cF P (mJ (mU r))):cF P (mJ (mU ((f,E)::r))):=by
 constructor
 ·intro g args K Kp w ⟨A,L,KA,KpA,s,hh,h1,h2⟩;unfold mU at hh;split at hh
  ·rename_i hb;rw [<-fR.1 hb];exact .inl he.enter
  ·exact hr.enters g args K Kp w ⟨A,L,KA,KpA,s,hh,h1,h2⟩
 ·intro g args K Kp w ⟨A,L,KA,KpA,s,hh,h1,h2⟩ hent;unfold mU at hh;split at hh
  ·rename_i hb;rw [<-fR.1 hb];exact he.call args K Kp w ⟨A,L,KA,KpA,s,hh,h1,h2⟩
  ·exact hr.calls g args K Kp w ⟨A,L,KA,KpA,s,hh,h1,h2⟩ hent
def aBN (P:Program) (f:FuncId) (E:EnT):Prop:=∀ args K Kp (w:World),E args K Kp w.heap->∃ v,(callFunc f args.toArray).run P w = .ok (.value v) w/\K v w.heap
theorem aAl {f:FuncId} {E:EnA} {r:List (FuncId × EnA)} (he:aBN P f (pK E)) (hr:cF P (mJ (mU r))):cF P (mJ (mU ((f,E)::r))):=by
 constructor
 ·intro g args K Kp w ⟨A,L,KA,KpA,s,hh,h1,h2⟩;unfold mU at hh;split at hh
  ·rename_i hb;rw [<-fR.1 hb];exact .inr (he args K Kp w ⟨A,L,KA,KpA,s,hh,h1,h2⟩)
  ·exact hr.enters g args K Kp w ⟨A,L,KA,KpA,s,hh,h1,h2⟩
 ·intro g args K Kp w ⟨A,L,KA,KpA,s,hh,h1,h2⟩ hent;unfold mU at hh;split at hh
  ·rename_i hb;rw [<-fR.1 hb] at hent;obtain ⟨v,hv,_⟩:=he args K Kp w ⟨A,L,KA,KpA,s,hh,h1,h2⟩;have h3:=hent args.toArray w;rw [hv] at h3;cases h3
  ·exact hr.calls g args K Kp w ⟨A,L,KA,KpA,s,hh,h1,h2⟩ hent
theorem gF {E:Bx} {β:Nat->Nat} {s:SA} {t:St} (r:RB E β s t A h):∀ (l:List ResultVar) (K K':List Value->Prop),(∀ vs,K vs->K' vs)->eL P l s A K->eE P l t.env h K'
 | [],_,_,hx,hh=>hx _ hh
 | .tmp x::l,K,K',hx,hh=>by
  unfold eL at hh;unfold eE;split at hh
  ·rename_i v hv;rw [r.env _ _ hv];exact gF r l _ _ (λ_=>hx _) hh
  ·exact hh.elim
 | .cell a ty::l,K,K',hx,hh=>by
  unfold eL at hh;unfold eE;split at hh
  ·rename_i i k hb;obtain ⟨g1,g2⟩:=r.bv _ _ _ hb;rw [g1];simp only [iS,aF];split at hh
   ·rename_i cs ty2 hl;obtain ⟨l1,l2,q1,q2⟩:=r.box hl;have sim:=r.sim;rw [q1] at sim;refine aC2 sim ?_;exact ldX_mono (λv h1=>gF r l _ _ (λ_=>hx _) h1) hh
   ·exact hh.elim
  ·split at hh
   ·rename_i va hv;rw [r.env _ _ hv];exact lP (λad h1=>aCs r.sim h1 λv h2=>gF r l _ _ (λ_=>hx _) h2) hh
   ·exact hh.elim
where
 ldX_mono {t:TypeId} {cs:List Value} {o:Nat} {K K':Value->Prop} (hx:∀ v,K v->K' v) (h:ldX P t cs o K):ldX P t cs o K':=by
  unfold ldX at h ⊢;split at h
  ·split at h
   ·split at h
    ·split at h
     ·exact hx _ h
     ·exact h.elim
    ·exact h.elim
   ·split at h
    ·split at h
     ·exact hx _ h
     ·exact h.elim
    ·exact h.elim
  ·exact h.elim
theorem RB.start {L:Bx} (s:Sim A L h) (args:List Value):RB L (λ_=>0) (nI args) ⟨vN 0 args,[]⟩ A h:=
 ⟨λ_ _ e=>e,λ_ _ _ e=>by simp [nI,lookB] at e,rfl,s,List.nodup_nil⟩
theorem nX:∀ {l:List CK} {T:Type} {R:ArC l T} {ws:List Value} {G:T->Prop},iZ l T R ws G->∃ x,G x
 | [],_,_,[],_,h=>⟨_,h⟩
 | [],_,_,_::_,_,h=>h.elim
 | _::_,_,_,[],_,h=>h.elim
 | k::l,T,R,w::ws,G,h=>by
  have h:jA k w _:=h;cases k<;>cases w<;>simp only [jA] at h<;>first | exact h.elim | exact nX h | skip
  obtain ⟨_,h2⟩:=bB h;exact nX h2
theorem jY:∀ {l:List PSh} {T:Type} {R:aY l T} {vs:List Value} {G:T->Prop},nQ l T R vs G->vs.length=l.length
 | [],_,_,[],_,_=>rfl
 | [],_,_,_::_,_,h=>h.elim
 | .c k::r,T,R,v::vs,G,h=>by
  have:∃ x:aY r T,nQ r T x vs G:=by
   have h:jA k v _:=h;cases k<;>cases v<;>simp only [jA] at h<;>first | exact h.elim | exact ⟨_,h⟩ | skip
   obtain ⟨_,h2⟩:=bB h;exact ⟨_,h2⟩
  obtain ⟨x,hx⟩:=this;simp [jY hx]
 | .c _::_,_,_,[],_,h=>h.elim
 | .agg _::_,_,_,[],_,h=>h.elim
 | .fn _ _ _::_,_,_,[],_,h=>h.elim
 | .agg l::r,T,R,v::vs,G,h=>by
  unfold nQ at h;split at h
  ·obtain ⟨x,hx⟩:=nX h;simp [jY hx]
  ·exact h.elim
 | .fn f a b::r,T,R,v::vs,G,h=>by
  unfold nQ at h;split at h
  ·split at h
   ·obtain ⟨x,hx⟩:=nX h;obtain ⟨y,hy⟩:=nX hx;simp [jY hy]
   ·exact h.elim
  ·exact h.elim
theorem aLH (hm:P.follows .mixedOrders=true) (hC:cF P (mJ CA)) {f:FuncId} {fn:Func} {pm:List Nat} {ann:AnnA} {l:List PSh} {F:aY l EnR}
  (he:∀ (as:Array Value) (w:World),(callFunc f as).run P w = .ok (.enter f as) w) (hf:P.funcs[f]? = some fn) (hb:fn.body.isSome=true) (hn:Nat.ble l.length fn.ntmps=true)
  (b0:Bool) (hF:F=kW l EnR λvs K Kp A=>aBQ P CA pm fn ann vs K (np b0 Kp) A):bL P f (pK (bD l F)):=by
 refine ⟨he,λargs K Kp w ⟨A,L,KA,KpA,s,hh,h1,h2⟩=>?_⟩;subst hF;have hlen:args.length=l.length:=jY hh;have hd:=hP hh;refine yD hm hC (ann:=ann.h) hf hb (by rw [hlen];exact hn) ?_;have hd:gW P CA fn.ntmps pm ann (eQ fn) (aFG P fn KA (np b0 KpA)) (nI args) A:=hd;unfold aCU;refine eK _ _ _ _ _ _ _ _ _ (RB.start s args) hd λe β' s' t' A' h' r' sb hk=>?_;obtain ⟨te,tds⟩:=t';have hds:tds=s'.ds:=r'.ds;cases e with
 | normal=>
  unfold aFG at hk;simp only at hk;split at hk
  ·rename_i e0;rw [e0] at hds;subst hds;exact gF r' _ _ _ (λvs hv=>h1 _ _ _ (r'.sim.keep (List.sublist_append_right _ _)) hv) hk
  ·exact hk.elim
 | ret=>
  unfold aFG at hk;simp only at hk;split at hk
  ·rename_i e0;rw [e0] at hds;subst hds;exact gF r' _ _ _ (λvs hv=>h1 _ _ _ (r'.sim.keep (List.sublist_append_right _ _)) hv) hk
  ·exact hk.elim
 | panic v=>
  unfold aFG at hk;simp only at hk;split at hk
  ·rename_i e0;rw [e0] at hds;subst hds;exact h2 _ _ _ (r'.sim.keep (List.sublist_append_right _ _)) (aFp hk)
  ·exact hk.elim
 | exit id=>exact hk.elim
theorem wW {fn:Func} {pm:List Nat} {ann:AnnA} {args:List Value} {rv:Value} {KA:AP} {K:HP} {L:Bx} (s:Sim A L h) (hh:uL P CA pm fn ann args rv KA A) (hk:∀ A' h',Sim A' L h'->KA A'->K h'):uS P (mJ CA) fn ann.h args rv K h:=by
 unfold uL at hh;unfold uS;split at hh
 ·rename_i e0;rw [e0];simp only;split at hh
  ·rename_i o r e1;rw [e1];simp only;split at hh
   ·rename_i e2 e3 e4;rw [e2,e3,e4];simp only;refine eM (RB.start s args) (x:=.v rv) (y:=rv) rfl (λ_ _ e=>by cases e) hh λs1 t1 r1 sb1 _ _ h1=>?_;refine denOpsA_up _ _ s1 t1 A h r1 h1 (λβ2 s2 t2 A2 h2 r2 sb2 h3=>?_) λ_ _ _ _ _ _ _ _ q=>q.elim;refine eK _ _ _ _ _ _ _ _ _ r2 h3 λe β3 s3 t3 A3 h3 r3 sb3 h4=>?_;obtain ⟨te,tds⟩:=t3;have hds:tds=s3.ds:=r3.ds;split at h4
    ·rename_i e5;rw [e5] at hds;subst hds;exact hk _ _ (r3.sim.keep (List.sublist_append_right _ _)) h4
    ·rename_i e5;rw [e5] at hds;subst hds;exact hk _ _ (r3.sim.keep (List.sublist_append_right _ _)) h4
    ·exact h4.elim
   ·exact hh.elim
  ·exact hh.elim
 ·exact hh.elim
def aEI (Dn:DnT'):List Value->HP->HP:=λargs K h=>∃ A L KA,Sim A L h/\Dn args KA A/\∀ A' h',Sim A' L h'->KA A'->K h'
def aGt (Dp:DpT'):List Value->Value->HP->HP:=λargs v K h=>∃ A L KA,Sim A L h/\Dp args v KA A/\∀ A' h',Sim A' L h'->KA A'->K h'
theorem aJC (hm:P.follows .mixedOrders=true) (hC:cF P (mJ CA)) {g:FuncId} {fn:Func} {p1 p2:List Nat} {an ap:AnnA} {l:List PSh} {t:TypeId} {ks:List CK} {Fn:aY l (AP->AP)} {Fp:aY l (ArC ks (AP->AP))}
  (he:∀ (as:Array Value) (w:World),(callFunc g as).run P w = .ok (.enter g as) w) (hf:P.funcs[g]? = some fn) (hb:fn.body.isSome=true) (hn:Nat.ble l.length fn.ntmps=true)
  (h1:Fn=kW l (AP->AP) λvs K A=>uL P CA p1 fn an vs .nilIface K A) (h2:Fp=kW l (ArC ks (AP->AP)) λvs=>aAA ks (AP->AP) λps K A=>uL P CA p2 fn ap vs (.iface t (.agg ps.toArray)) K A) :
  u6 P g (aEI (dnS l Fn)) (aGt (dpS l t ks Fp)):=by
 subst h1 h2;refine aFZ hm hC (an:=an.h) (ap:=ap.h) he hf hb ?_ ?_
 ·intro args K h ⟨A,L,KA,s,hd,hk⟩;exact ⟨by rw [jY hd];exact hn,wW s (hP hd) hk⟩
 ·intro args v K h ⟨A,L,KA,s,hd,hk⟩;unfold dpS at hd;split at hd
  ·rename_i t' cs;split at hd
   ·rename_i ht;have ht:=fR.1 ht;subst ht;refine ⟨by rw [jY hd];exact hn,?_⟩;have h3:=hP (G:=λR=>iZ ks (AP->AP) R cs.toList λf=>f KA A) hd;have h4:=oD h3;rw [Array.toArray_toList] at h4;exact wW s h4 hk
   ·exact hd.elim
  ·exact hd.elim
theorem aFf (hm:P.follows .mixedOrders=true) (hC:cF P (mJ CA)) {f g:FuncId} {fn:Func} {pm:List Nat} {ann:AnnA} {l:List PSh} {F:aY l EnR} {Dn:DnT'} {Dp:DpT'} (hD:u6 P g (aEI Dn) (aGt Dp))
  (he:∀ (as:Array Value) (w:World),(callFunc f as).run P w = .ok (.enter f as) w) (hf:P.funcs[f]? = some fn) (hb:fn.body.isSome=true) (hn:Nat.ble l.length fn.ntmps=true)
  (b0:Bool) (hF:F=kW l EnR λvs K Kp A=>oC P CA pm fn ann g Dn Dp vs K (np b0 Kp) A):bL P f (pK (bD l F)):=by
 refine ⟨he,λargs K Kp w ⟨A,L,KA,KpA,s,hh,h1,h2⟩=>?_⟩;subst hF;have hlen:args.length=l.length:=jY hh;have hd:=hP hh;refine vQ hm hC (ann:=ann.h) hD hf hb (by rw [hlen];exact hn) ?_;have hd:gW P CA fn.ntmps pm ann (eQ fn) (aAV P fn g Dn Dp KA (np b0 KpA)) (nI args) A:=hd;unfold yU;refine eK _ _ _ _ _ _ _ _ _ (RB.start s args) hd λe β' s' t' A' h' r' sb hk=>?_;obtain ⟨te,tds⟩:=t';have hds:tds=s'.ds:=r'.ds;have sim2:=r'.sim
 have res:∀ {A2:AH} {h2':Hp},Sim A2 (bxL β' s'.bx++L) h2'->(eL P fn.results.toList s' A2 λvs=>KA (dO vs) A2)->eE P fn.results.toList te h2' λvs=>K (dO vs) h2':=λq hr=>
  gF (β:=β') (t:=⟨te,tds⟩) ⟨r'.env,r'.bv,r'.ds,q,r'.nd⟩ _ _ _ (λvs hv=>h1 _ _ _ (q.keep (List.sublist_append_right _ _)) hv) hr
 cases e with
 | normal=>
  unfold aAV at hk;simp only at hk;split at hk
  ·rename_i e0;rw [e0] at hds;subst hds;exact res sim2 hk
  ·rename_i d e0;rw [e0] at hds;subst hds;unfold aCe;simp only;split at hk
   ·rename_i g' cap e1;rw [e1];simp only;split at hk
    ·rename_i e2;rw [e2];exact ⟨A',_,_,sim2,hk,λA2 h2' q=>res q⟩
    ·exact hk.elim
   ·exact hk.elim
  ·exact hk.elim
 | ret=>
  unfold aAV at hk;simp only at hk;split at hk
  ·rename_i e0;rw [e0] at hds;subst hds;exact res sim2 hk
  ·rename_i d e0;rw [e0] at hds;subst hds;unfold aCe;simp only;split at hk
   ·rename_i g' cap e1;rw [e1];simp only;split at hk
    ·rename_i e2;rw [e2];exact ⟨A',_,_,sim2,hk,λA2 h2' q=>res q⟩
    ·exact hk.elim
   ·exact hk.elim
  ·exact hk.elim
 | panic v=>
  unfold aAV at hk;simp only at hk;split at hk
  ·rename_i e0;rw [e0] at hds;subst hds;exact h2 _ _ _ (sim2.keep (List.sublist_append_right _ _)) (aFp hk)
  ·rename_i d e0;rw [e0] at hds;subst hds;unfold aCe;simp only;split at hk
   ·rename_i g' cap e1;rw [e1];simp only;split at hk
    ·rename_i e2;rw [e2];exact ⟨A',_,_,sim2,hk,λA2 h2' q=>res q⟩
    ·exact hk.elim
   ·exact hk.elim
  ·exact hk.elim
 | exit id=>exact hk.elim
theorem aKF {f:FuncId} {E:EnA} (he:bL P f (pK E)) (args:List Value) (K:Value->HP) (w:World) {KA:Value->AP} (hh:E args KA (λ_ _=>False) (λb=>w.heap[b]?))
  (hk:∀ v A' h',Sim A' [] h'->KA v A'->K v h'):Calls P f args.toArray w (callQ K (λ_ _=>False) w):=
 he.call args K _ w ⟨_,[],KA,_,⟨λ_ _ e=>e,λ_ m=>by simp at m,List.Pairwise.nil⟩,hh,hk,λ_ _ _ _ q=>q⟩
end
attribute [irreducible] aBQ oC uL
end Go.Dn
