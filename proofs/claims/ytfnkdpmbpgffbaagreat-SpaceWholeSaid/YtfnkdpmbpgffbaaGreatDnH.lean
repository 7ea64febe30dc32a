/- Code: regions, sequences, tests, blocks, loops. -/
import Derived.Test.YtfnkdpmbpgffbaaGreatDnG
import Derived.Scope
namespace Go.Dn
structure St where
 env:Env
 ds:List Deferred
inductive Ex | normal | exit (id:Nat) | ret | panic (v:Value)
def CKT:CK->Type
 | .i _=>Int
 | .b=>Bool
 | .p=>Option Addr
 | .s=>Sl
 | .m=>Option Nat
 | .v=>Value
inductive Sh | c (k:CK) | agg (l:List CK)
def ArC:List CK->Type->Type
 | [],T=>T
 | c::r,T=>CKT c->ArC r T
def yZ:List (Nat × Sh)->Type->Type
 | [],T=>T
 | (_,.c k)::r,T=>CKT k->yZ r T
 | (_,.agg l)::r,T=>ArC l (yZ r T)
def alK (k:CK) (G:CKT k->Value->Prop):Prop:=match k with
 | .i kk=>∀ n:Int,G n (.int kk n)
 | .b=>∀ n:Bool,G n (.bool n)
 | .p=>∀ n:Option Addr,G n (.pointer n)
 | .s=>∀ n:Sl,G n (.slice n.a n.len n.cap)
 | .m=>∀ n:Option Nat,G n (.map n)
 | .v=>∀ n:Value,G n n
def alC:(l:List CK)->(T:Type)->ArC l T->(List Value->T->Prop)->Prop
 | [],_,R,G=>G [] R
 | k::r,T,R,G=>alK k λx v=>alC r T (R x) λvs R'=>G (v::vs) R'
def alJ:(l:List (Nat × Sh))->(T:Type)->yZ l T->(Env->T->Prop)->Prop
 | [],_,R,G=>G [] R
 | (t,.c k)::r,T,R,G=>alK k λx v=>alJ r T (R x) λe R'=>G ((t,v)::e) R'
 | (t,.agg l)::r,T,R,G=>alC l (yZ r T) R λvs R1=>alJ r T R1 λe R'=>G ((t,.agg vs.toArray)::e) R'
def jF (k:CK) (v:Value) (G:CKT k->Prop):Prop:=match k,v with
 | .i kk,.int k' n=>bsel (kEq kk k') (G n) False
 | .b,.bool b=>G b
 | .p,.pointer p=>G p
 | .s,.slice a l c=>G ⟨a,l,c⟩
 | .m,.map m=>G m
 | .v,v=>G v
 | _,_=>False
def kS:(l:List CK)->(T:Type)->ArC l T->List Value->(T->Prop)->Prop
 | [],_,R,[],G=>G R
 | k::r,T,R,v::vs,G=>jF k v λx=>kS r T (R x) vs G
 | _,_,_,_,_=>False
def uQ:(l:List (Nat × Sh))->(T:Type)->yZ l T->Env->(T->Prop)->Prop
 | [],_,R,_,G=>G R
 | (t,.c k)::r,T,R,e,G=>match look e t with
  | some v=>jF k v λx=>uQ r T (R x) e G
  | none=>False
 | (t,.agg l)::r,T,R,e,G=>match look e t with
  | some (.agg vs)=>kS l (yZ r T) R vs.toList λR1=>uQ r T R1 e G
  | _=>False
structure Join where
 keep:List Nat
 live:List (Nat × Sh)
inductive Ann
 | leaf
 | draw (k:Nat)
 | drawS (ord:List Nat)
 | seq (j:Option Join) (a b:Ann)
 | cond (a b:Ann)
 | block (a:Ann)
 | loop (j:Join) (a:Ann)
def opDst (o:Oper):List Nat:=match o.dst with | some d=>[d] | none=>[]
def wrs:Code->List Nat
 | .region _ ops _=>ops.toList.flatMap opDst
 | .seq a b=>wrs a++wrs b
 | .cond _ a b=>wrs a++wrs b
 | .block _ a=>wrs a
 | .loop a=>wrs a
 | .scope a=>wrs a
 | _=>[]
def isDf:Op->Bool | .defer _=>true | _=>false
def memN (t:Nat):List Nat->Bool
 | []=>false
 | x::r=>match Nat.beq x t with | true=>true | false=>memN t r
def noDf:Code->Bool
 | .region _ ops _=>ops.toList.all λo=>!isDf o.op
 | .seq a b=>noDf a&&noDf b
 | .cond _ a b=>noDf a&&noDf b
 | .block _ a=>noDf a
 | .loop a=>noDf a
 | .scope a=>noDf a
 | .rangeFunc ..=>false
 | _=>true
def okJ (J:Join) (c:Code):Bool:=(J.keep.all λt=>!memN t (wrs c))&&noDf c
def keepE (e:Env):List Nat->Env
 | []=>[]
 | t::r=>match look e t with
  | some v=>(t,v)::keepE e r
  | none=>keepE e r
section
variable (P:Program) (C:CT) (n:Nat)
def hZ (s:St) (dst:Option Tmp) (v:Value) (K:St->Prop):Prop:=match dst with
 | none=>K s
 | some d=>match Nat.blt d n with
  | true=>K { s with env:=(d,v)::s.env }
  | false=>False
def yL (o:Oper) (s:St) (K:St->HP) (Kp:Value->St->HP) (h:Hp):Prop:=
 bT P C s.env o h (λv h'=>hZ n s o.dst v λs'=>K s' h') (λv h'=>Kp v s h') (λd h'=>hZ n { s with ds:=d::s.ds } o.dst undef λs'=>K s' h')
def grd (ops:List Oper) (o:Oper) (s:St) (run skip:St->Prop):Prop:=match o.guard with
 | none=>run s
 | some (j,want)=>match ops[j]? with
  | some oj=>match oj.dst with
   | some d=>match look s.env d with
    | some (.bool b)=>match want with
     | true=>bsel b (run { s with env:=(d,.bool true)::s.env }) (skip { s with env:=(d,.bool false)::s.env })
     | false=>bsel b (skip { s with env:=(d,.bool true)::s.env }) (run { s with env:=(d,.bool false)::s.env })
    | some (.tuple _)=>skip s
    | _=>False
   | none=>False
  | none=>False
def mS (ops:List Oper):List Oper->St->(St->HP)->(Value->St->HP)->HP
 | [],s,K,_,h=>K s h
 | o::r,s,K,Kp,h=>grd ops o s (λs=>yL P C n o s (λs' h'=>mS ops r s' K Kp h') Kp h) (λs=>hZ n s o.dst undef λs'=>mS ops r s' K Kp h)
def rU (ops:List Oper):List Oper->St->(St->Prop)->Hp->Prop
 | [],s,K,_=>K s
 | o::r,s,K,h=>match qF o.op with
  | true=>grd ops o s (λs=>bT P C s.env o h (λv _=>hZ n s o.dst v λs'=>rU ops r s' K h) (λ_ _=>False) (λ_ _=>False)) (λs=>hZ n s o.dst undef λs'=>rU ops r s' K h)
  | false=>False
def isL:Op->Bool
 | .load _ _ | .lookup _ _ _ _ | .call _=>true
 | _=>false
def descG:List Oper->Nat->List Nat->List Nat
 | [],_,D=>D
 | o::r,k,D=>match o.after.toList.any (λe=>Region.binds .any e&&memN e.on D) with
  | true=>descG r (k+1) (k::D)
  | false=>descG r (k+1) D
def q9 (ops:List Oper) (listed:Array Bool) (i:Nat) (oi:Oper):Bool:=
 ((descG ops 0 [i]).all λk=>!listed.getD k false)&&(List.range ops.length).all λj=>Nat.beq j i || listed.getD j true || match ops[j]? with
   | some oj=>memN j (descG ops 0 [i]) || oi.apart ops.toArray oj
   | none=>true
def aliveD (ops:List Oper) (i:Nat) (L:Array Bool):Bool:=
 (descG ops 0 [i]).all λk=>!L.getD k false || match ops[k]? with | some o=>qF o.op | none=>true
def aKU (l:List Nat) (i:Nat):Bool:=match l with | [k]=>Nat.beq k i | _=>false
def aMJ (ops:List Oper) (o:Oper) (s:St) (h:Hp) (K:Value->St->Prop) (Kskip:St->Prop):Prop:=
 grd ops o s (λs=>bT P C s.env o h (λv _=>hZ n s o.dst v (K v)) (λ_ _=>False) (λ_ _=>False)) (λs=>hZ n s o.dst undef Kskip)
def aHK (T:Array Bool->HP) (ops:List Oper) (i:Nat) (o:Oper) (s:St) (v:Value):Array Bool->HP:=λL h=>
 T L h/\(isL o.op=true->aliveD ops i L=true->bT P C s.env o h (λv' _=>v'=v) (λ_ _=>False) (λ_ _=>False))
def dE (ops:List Oper):Nat->(Array Bool->HP)->List Nat->Array Bool->St->(St->HP)->(Value->HP)->HP
 | 0,_,_,listed,s,K,_,h=>Region.ready .any ops.toArray listed=[]/\K s h
 | _+1,_,[],_,_,_,_,_=>False
 | f+1,T,i::r,listed,s,K,Kp,h=>∃ o,ops[i]? = some o/\
   ((qF o.op=true/\i ∈ Region.ready .any ops.toArray listed/\q9 ops listed i o=true/\
     grd ops o s (λs=>bT P C s.env o h (λv _=>hZ n s o.dst v λs'=>dE ops f (aHK P C T ops i o s v) r (listed.setIfInBounds i true) s' K Kp h) (λ_ _=>False) (λ_ _=>False))
      (λs=>hZ n s o.dst undef λs'=>dE ops f T r (listed.setIfInBounds i true) s' K Kp h))\/
    (Region.ready .any ops.toArray listed≠[]/\∀ j ∈ Region.ready .any ops.toArray listed,
     (j=i/\((qF o.op=true/\aMJ P C n ops o s h (λ_ s'=>dE ops f T r (listed.setIfInBounds i true) s' K Kp h) (λs'=>dE ops f T r (listed.setIfInBounds i true) s' K Kp h))\/
      (qF o.op=false/\isDf o.op=false/\grd ops o s (λs=>yL P C n o s (λs' h'=>T (listed.setIfInBounds i true) h'/\dE ops f T r (listed.setIfInBounds i true) s' K Kp h') (λv _ h'=>Kp v h') h)
       (λs=>hZ n s o.dst undef λs'=>T (listed.setIfInBounds i true) h/\dE ops f T r (listed.setIfInBounds i true) s' K Kp h))))\/
     (j≠i/\∃ oj,ops[j]? = some oj/\qF oj.op=false/\isDf oj.op=false/\oj.guard=none/\
      yL P C n oj s (λs' h'=>T (listed.setIfInBounds j true) h'/\dE ops f T (i::r.erase j) (listed.setIfInBounds j true) s' K Kp h') (λv _ h'=>Kp v h') h)))
def stripE (l:List Nat):Env->Env
 | []=>[]
 | (t,v)::r=>match memN t l with
  | true=>stripE l r
  | false=>(t,v)::stripE l r
def vF:Ann->Code->(Ex->St->HP)->St->HP
 | .leaf,.skip,K,s,h=>K .normal s h
 | .leaf,.label _,K,s,h=>K .normal s h
 | .leaf,.ret,K,s,h=>K .ret s h
 | .leaf,.exit id,K,s,h=>K (.exit id) s h
 | .leaf,.region _ ops false,K,s,h=>mS P C n ops.toList ops.toList s (K .normal) (λv s h=>K (.panic v) s h) h
 | .draw k,.region _ ops true,K,s,h=>match Nat.beq k ops.toList.length with
  | true=>match Region.lexB .any ops.toList.toArray with
   | true=>rU P C n ops.toList ops.toList s (λs=>K .normal s h) h
   | false=>False
  | false=>match Region.lexTailB .any ops.toList.toArray k with
   | true=>rU P C n ops.toList (ops.toList.take k) s (λs=>mS P C n ops.toList (ops.toList.drop k) s (K .normal) (λv s h=>K (.panic v) s h) h) h
   | false=>False
 | .drawS ord,.region _ ops true,K,s,h=>match Region.noSelect ops with
  | true=>dE P C n ops.toList ops.toList.length (λ_ _=>True) ord (Array.replicate ops.toList.length false) s (K .normal) (λv h=>K (.panic v) ⟨stripE (ops.toList.flatMap opDst) s.env,s.ds⟩ h) h
  | false=>False
 | .seq none a b,.seq x y,K,s,h=>vF a x (λe s h=>match e with
   | .normal=>vF b y K s h
   | e=>K e s h) s h
 | .seq (some J) a b,.seq x y,K,s,h=>match okJ J x with
  | true=>∃ R:yZ J.live HP,alJ J.live HP R (λe R'=>∀ h',R' h'->vF b y K ⟨e++keepE s.env J.keep,s.ds⟩ h')/\
    vF a x (λe s1 h1=>match e with
     | .normal=>uQ J.live HP R s1.env λR'=>R' h1
     | e=>K e s1 h1) s h
  | false=>False
 | .cond a b,.cond c x y,K,s,h=>wV s.env c λv=>match v with
  | .bool t=>bsel t (vF a x K s h) (vF b y K s h)
  | _=>False
 | .block a,.block id x,K,s,h=>vF a x (λe s h=>match e with
   | .exit id'=>match Nat.beq id' id with
    | true=>K .normal s h
    | false=>K (.exit id') s h
   | e=>K e s h) s h
 | .loop J a,.loop x,K,s,h=>match okJ J x with
  | true=>∃ I:yZ J.live (Nat->HP),uQ J.live (Nat->HP) I s.env (λI'=>∃ m,I' m h)/\
    alJ J.live (Nat->HP) I λe I'=>∀ m h',I' m h'->vF a x (λe s1 h1=>match e with
     | .normal=>uQ J.live (Nat->HP) I s1.env λI''=>∃ m',m'<m/\I'' m' h1
     | e=>K e s1 h1) ⟨e++keepE s.env J.keep,s.ds⟩ h'
  | false=>False
 | _,_,_,_,_=>False
end
end Go.Dn
