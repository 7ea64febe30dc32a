/- The reading over a part of the heap: code, its boxes kept apart. -/
import Derived.Test.YtfnkdpmbpgffbaaGreatDnP
import Derived.Test.YtfnkdpmbpgffbaaGreatDnH
namespace Go.Dn
abbrev Bvs:=List (Nat × (Nat × Nat))
abbrev Bxs:=List (Nat × (List Value × TypeId))
structure SA where
 env:Env
 bv:Bvs
 bx:Bxs
 ds:List Deferred
 pi:List Nat
 pr:List (Nat × Nat)
inductive Res | v (x:Value) | b (i o:Nat)
def lookB:Bvs->Nat->Option (Nat × Nat)
 | [],_=>none
 | (d,p)::r,t=>match Nat.beq d t with
  | true=>some p
  | false=>lookB r t
def lookX:Bxs->Nat->Option (List Value × TypeId)
 | [],_=>none
 | (d,p)::r,t=>match Nat.beq d t with
  | true=>some p
  | false=>lookX r t
def setX:Bxs->Nat->List Value->Bxs
 | [],_,_=>[]
 | (d,p)::r,t,cs=>match Nat.beq d t with
  | true=>(d,(cs,p.2))::r
  | false=>(d,p)::setX r t cs
def dropB (t:Nat):Bvs->Bvs
 | []=>[]
 | (d,p)::r=>match Nat.beq d t with
  | true=>dropB t r
  | false=>(d,p)::dropB t r
def mN (s:SA):Operand->Option (Nat × Nat)
 | .tmp t=>lookB s.bv t
 | _=>none
def fT (n:Nat) (s:SA) (dst:Option Tmp) (r:Res) (K:SA->Prop):Prop:=match dst with
 | none=>K s
 | some d=>match Nat.blt d n with
  | true=>match r with
   | .v x=>K { s with env:=(d,x)::s.env,bv:=dropB d s.bv }
   | .b i o=>K { s with env:=stripE [d] s.env,bv:=(d,(i,o))::s.bv }
  | false=>False
def ckV (c:CK) (v:Value):Bool:=match c,v with
 | .i k,.int k' _=>kEq k k'
 | .b,.bool _=>true
 | .p,.pointer _=>true
 | .s,.slice _ _ _=>true
 | .m,.map _=>true
 | .v,_=>true
 | _,_=>false
def aGr:List CK->List Value->Bool
 | [],[]=>true
 | c::r,v::vs=>match ckV c v with
  | true=>aGr r vs
  | false=>false
 | _,_=>false
def ldX (P:Program) (t:TypeId) (cells:List Value) (o:Nat) (K:Value->Prop):Prop:=
 match P.underlying t,szOf P t with
 | some d,some n=>match isAggD d with
  | true=>match cksT P 40 t with
   | some l=>match Nat.beq l.length n,aGr l ((cells.drop o).take n) with
    | true,true=>K (.agg ((cells.drop o).take n).toArray)
    | _,_=>False
   | none=>False
  | false=>match ckD d,cells.drop o with
   | some c,v::_=>match ckV c v with
    | true=>K v
    | false=>False
   | _,_=>False
 | _,_=>False
def putL:List Value->Nat->List Value->List Value
 | cs,_,[]=>cs
 | cs,o,v::vs=>putL (cs.set o v) (o+1) vs
def aBy:List Value->Bool
 | []=>true
 | v::vs=>match v.oneCell' with
  | true=>aBy vs
  | false=>false
def aJO (i o n:Nat):List (Nat × Nat)->Bool
 | []=>true
 | (i',j)::r=>match Nat.beq i i'&&(Nat.ble o j&&Nat.blt j (o+n)) with
  | true=>false
  | false=>aJO i o n r
def stX (P:Program) (t:TypeId) (s:SA) (i o:Nat) (v:Value) (K:SA->Prop):Prop:=
 match szOf P t,lookX s.bx i with
 | some n,some (cells,_)=>match Nat.beq v.cells.toList.length n,Nat.ble (o+n) cells.length,aBy v.cells.toList,aJO i o n s.pr with
  | true,true,true,true=>K { s with bx:=setX s.bx i (putL cells o v.cells.toList) }
  | _,_,_,_=>False
 | _,_=>False
def aDz (s:SA) (d:Nat) (cells:List Value) (t:TypeId) (K:SA->Prop):Prop:=
 match lookX s.bx d,memN d s.pi with
 | none,false=>K { s with bx:=(d,(cells,t))::s.bx }
 | _,_=>False
def aLw (P:Program) (s:TypeId) (f:Nat) (K:Nat->Prop):Prop:=
 match P.underlying s with
 | some (.struct fields)=>match fields.toList[f]? with
  | some fd=>match szOf P fd.type with
   | some n=>match Nat.beq n 0 with
    | false=>K fd.offset
    | true=>False
   | none=>False
  | none=>False
 | _=>False
def ixX (P:Program) (t:TypeId) (ix:Value) (K:Nat->Prop):Prop:=
 match ix,P.underlying t with
 | .int _ i,some (.array len e)=>match szOf P e with
  | some n=>bB i len (K (i.toNat*n))
  | none=>False
 | _,_=>False
def opA (P:Program) (C:CTA) (pm:List Nat) (s:SA) (o:Oper) (A:AH) (K:Res->SA->AP) (Kp:Value->AP) (Kd:Deferred->AP):Prop:=
 match o.op with
 | .move x=>match mN s x with
  | some (i,k)=>K (.b i k) s A
  | none=>wV s.env x λv=>K (.v v) s A
 | .assign x=>match mN s x with
  | some (i,k)=>K (.b i k) s A
  | none=>wV s.env x λv=>K (.v v) s A
 | .nilCheck x=>match mN s x with
  | some (i,k)=>K (.b i k) s A
  | none=>wV s.env x λv=>zC v λu=>K (.v u) s A
 | .alloc t=>match o.dst with
  | some d=>match memN d pm with
   | true=>eH P t λz=>aDz s d z.cells.toList t λs'=>K (.b d 0) s' A
   | false=>opV P C s.env o A (λv=>K (.v v) s) Kp Kd
  | none=>opV P C s.env o A (λv=>K (.v v) s) Kp Kd
 | .box t x=>match o.dst with
  | some d=>match memN d pm with
   | true=>wV s.env x λv=>aDz s d v.cells.toList t λs'=>K (.b d 0) s' A
   | false=>opV P C s.env o A (λv=>K (.v v) s) Kp Kd
  | none=>opV P C s.env o A (λv=>K (.v v) s) Kp Kd
 | .load t a=>match mN s a with
  | some (i,k)=>match lookX s.bx i with
   | some (cells,_)=>ldX P t cells k λv=>K (.v v) s A
   | none=>False
  | none=>opV P C s.env o A (λv=>K (.v v) s) Kp Kd
 | .store t a x=>match mN s a with
  | some (i,k)=>wV s.env x λv=>stX P t s i k v λs'=>K (.v undef) s' A
  | none=>opV P C s.env o A (λv=>K (.v v) s) Kp Kd
 | .fieldAddr st x f=>match mN s x with
  | some (i,k)=>aLw P st f λoff=>K (.b i (k+off)) s A
  | none=>opV P C s.env o A (λv=>K (.v v) s) Kp Kd
 | .indexAddr t x ix=>match mN s x with
  | some (i,k)=>wV s.env ix λvi=>ixX P t vi λoff=>K (.b i (k+off)) s A
  | none=>opV P C s.env o A (λv=>K (.v v) s) Kp Kd
 | _=>opV P C s.env o A (λv=>K (.v v) s) Kp Kd
def aJe (o:Oper):Bool:=match o.op with
 | .alloc _=>true
 | .box _ _=>true
 | _=>false
def isSt (s:SA) (o:Oper):Bool:=match o.op with
 | .store _ a _=>match mN s a with | some _=>true | none=>false
 | _=>false
section
variable (P:Program) (C:CTA) (n:Nat) (pm:List Nat)
def exA (o:Oper) (s:SA) (K:SA->AP) (Kp:Value->SA->AP) (A:AH):Prop:=
 opA P C pm s o A (λr s' A'=>fT n s' o.dst r λs2=>K s2 A') (λv A'=>Kp v s A') (λd A'=>fT n { s with ds:=d::s.ds } o.dst (.v undef) λs2=>K s2 A')
def aEg (ops:List Oper) (o:Oper) (s:SA) (run skip:SA->Prop):Prop:=match o.guard with
 | none=>run s
 | some (j,want)=>match ops[j]? with
  | some oj=>match oj.dst with
   | some d=>match look s.env d with
    | some (.bool b)=>match want with
     | true=>bsel b (run { s with env:=(d,.bool true)::s.env }) (skip { s with env:=(d,.bool false)::s.env })
     | false=>bsel b (skip { s with env:=(d,.bool true)::s.env }) (run { s with env:=(d,.bool false)::s.env })
    | some (.tuple _)=>skip s
    | _=>False
   | none=>False
  | none=>False
def lJ (ops:List Oper):List Oper->SA->(SA->AP)->(Value->SA->AP)->AP
 | [],s,K,_,A=>K s A
 | o::r,s,K,Kp,A=>aEg ops o s (λs=>exA P C n pm o s (λs' A'=>lJ ops r s' K Kp A') Kp A) (λs=>fT n s o.dst (.v undef) λs'=>lJ ops r s' K Kp A)
def pY (ops:List Oper):List Oper->SA->(SA->Prop)->AH->Prop
 | [],s,K,_=>K s
 | o::r,s,K,A=>match qF o.op with
  | true=>aEg ops o s (λs=>opA P C pm s o A (λx _ _=>fT n s o.dst x λs'=>pY ops r s' K A) (λ_ _=>False) (λ_ _=>False)) (λs=>fT n s o.dst (.v undef) λs'=>pY ops r s' K A)
  | false=>False
def aAA (r r':Res):Prop:=match r,r' with
 | .v a,.v b=>b=a
 | .b i o,.b j p=>match Nat.beq i j&&Nat.beq o p with | true=>True | false=>False
 | _,_=>False
def j9:List Nat->Array Bool->Array Bool
 | [],a=>a
 | i::r,a=>j9 r (a.setIfInBounds i true)
def cI (i:Nat):List Nat->List Nat
 | []=>[]
 | x::r=>match Nat.beq x i with
  | true=>cI i r
  | false=>x::cI i r
def aIm (ops:List Oper) (fl:List Nat) (listed:Array Bool) (i:Nat):Bool:=
 aKU (Region.ready .any ops.toArray (j9 (cI i fl) listed)) i&&(Region.ready .any ops.toArray listed).contains i
def isFl (o:Oper):Option Nat:=match o.guard,o.op,o.dst with
 | none,.alloc t,some d=>match Nat.blt d n,P.info? t with
  | true,some i=>match i.zero with
   | some _=>some d
   | none=>none
  | _,_=>none
 | _,_,_=>none
def oH (d j:Nat):List Oper->Nat->Bool
 | [],_=>true
 | o::r,k=>match o.dst with
  | some e=>match Nat.beq e d&&!Nat.beq k j with
   | true=>false
   | false=>oH d j r (k+1)
  | none=>oH d j r (k+1)
def aHO (ops:List Oper) (ord:List Nat) (s:SA) (j:Nat):Bool:=match ops[j]? with
 | some o=>match isFl P n o with
  | some d=>match look s.env d,lookB s.bv d with
   | none,none=>oH d j ops 0&&memN j ord
   | _,_=>false
  | none=>false
 | none=>false
def aB5 (ops:List Oper) (ord:List Nat) (s:SA):List Nat->Bool
 | []=>true
 | j::r=>aHO P n ops ord s j&&aB5 ops ord s r
def yI:List Nat->Bool
 | []=>true
 | x::r=>!memN x r&&yI r
def yN (n:Nat):List Nat->Bool
 | []=>true
 | x::r=>Nat.blt x n&&yN n r
def isBx (s:SA) (o:Oper):Bool:=match o.op with
 | .load _ a=>match mN s a with | some _=>true | none=>false
 | _=>false
def aEq (l:List Nat):List Nat->Bool
 | []=>true
 | x::r=>match memN x l with
  | true=>false
  | false=>aEq l r
abbrev Pins:=List (Nat × (Env × (Oper × Value)))
def iZ (ops:List Oper) (L:Array Bool):List Nat->Bool
 | []=>false
 | i::r=>match aliveD ops i L with
  | true=>true
  | false=>iZ ops L r
def oN (ops:List Oper) (L:Array Bool) (A:AH) (X:Prop):Pins->Prop
 | []=>X
 | p::r=>match aliveD ops p.1 L with
  | true=>opV P C p.2.1 p.2.2.1 A (λv _=>v=p.2.2.2) (λ_ _=>False) (λ_ _=>False)/\oN ops L A X r
  | false=>oN ops L A X r
def readyF (ops:List Oper) (fl:List Nat) (listed:Array Bool):List Nat:=Region.ready .any ops.toArray (j9 fl listed)
def aBW (ops:List Oper) (fl:List Nat) (listed:Array Bool):List Nat->Bool
 | []=>true
 | j::r=>match ops[j]? with
  | some o=>match o.guard with
   | none=>!qF o.op&&(!isDf o.op&&(!memN j fl&&((Region.ready .any ops.toArray listed).contains j&&aBW ops fl listed r)))
   | some _=>false
  | none=>false
def aKS:List Nat->(Nat->Prop)->Prop
 | [],_=>True
 | [j],X=>X j
 | j::k::r,X=>X j/\aKS (k::r) X
def cA (ops:List Oper) (fl:List Nat):Nat->List Nat->Array Bool->Pins->List Nat->SA->(SA->AP)->(Value->SA->AP)->AP
 | _,[],listed,_,_,s,K,_,A=>match Region.ready .any ops.toArray listed with
  | []=>K s A
  | _=>False
 | 0,_::_,_,_,_,_,_,_,_=>False
 | g+1,i::r,listed,pn,pb,s,K,Kp,A=>match ops[i]? with
  | some o=>match memN i fl with
   | true=>match aIm ops fl listed i with
    | true=>exA P C n pm o s (λs' A'=>cA ops fl g r (listed.setIfInBounds i true) pn pb s' K Kp A') Kp A
    | false=>False
   | false=>match qF o.op with
    | true=>match aIm ops fl listed i with
     | true=>aEg ops o s (λs=>opA P C pm s o A (λx _ _=>fT n s o.dst x λs'=>cA ops fl g r (listed.setIfInBounds i true) pn pb s' K Kp A) (λ_ _=>False) (λ_ _=>False))
      (λs=>fT n s o.dst (.v undef) λs'=>cA ops fl g r (listed.setIfInBounds i true) pn pb s' K Kp A)
     | false=>match (Region.ready .any ops.toArray listed).contains i&&q9 ops listed i o&&aEq fl (descG ops 0 [i]) with
      | true=>aEg ops o s (λs=>opA P C pm s o A (λx _ _=>match isL o.op with
        | true=>match isBx s o with
         | true=>fT n s o.dst x λs'=>cA ops fl g r (listed.setIfInBounds i true) pn (i::pb) s' K Kp A
         | false=>match x with
          | .v v=>fT n s o.dst (.v v) λs'=>cA ops fl g r (listed.setIfInBounds i true) ((i,(s.env,(o,v)))::pn) pb s' K Kp A
          | .b _ _=>False
        | false=>fT n s o.dst x λs'=>cA ops fl g r (listed.setIfInBounds i true) pn pb s' K Kp A) (λ_ _=>False) (λ_ _=>False))
       (λs=>fT n s o.dst (.v undef) λs'=>cA ops fl g r (listed.setIfInBounds i true) pn pb s' K Kp A)
      | false=>False
    | false=>match aIm ops fl listed i,isDf o.op with
     | true,false=>aEg ops o s (λs=>exA P C n pm o s (λs' A'=>match isSt s o&&iZ ops (listed.setIfInBounds i true) pb with
        | true=>False
        | false=>oN P C ops (listed.setIfInBounds i true) A' (cA ops fl g r (listed.setIfInBounds i true) pn pb s' K Kp A') pn) Kp A)
       (λs=>fT n s o.dst (.v undef) λs'=>cA ops fl g r (listed.setIfInBounds i true) pn pb s' K Kp A)
     | false,false=>match memN i (readyF ops fl listed)&&aBW ops fl listed (readyF ops fl listed) with
      | true=>aKS (readyF ops fl listed) λj=>match ops[j]?,memN j (i::r) with
       | some oj,true=>exA P C n pm oj s (λs' A'=>match isSt s oj&&iZ ops (listed.setIfInBounds j true) pb with
        | true=>False
        | false=>oN P C ops (listed.setIfInBounds j true) A' (cA ops fl g (cI j (i::r)) (listed.setIfInBounds j true) pn pb s' K Kp A') pn) Kp A
       | _,_=>False
      | false=>False
     | _,true=>False
  | none=>False
structure JoinA where
 keep:List Nat
 live:List (Nat × Sh)
 cells:List (Nat × (Nat × CK))
def JoinA.h (J:JoinA):Join:=⟨J.keep,J.live⟩
def aCA (keep:List Nat):List (Nat × Sh)->Bool
 | []=>true
 | p::r=>match memN p.1 keep with
  | true=>false
  | false=>aCA keep r
def aIW (J:JoinA) (c:Code):Bool:=okJ J.h c&&aCA J.keep J.live
def cksOf:List (Nat × (Nat × CK))->List CK
 | []=>[]
 | c::r=>c.2.2::cksOf r
inductive AnnA
 | leaf
 | draw (k:Nat)
 | drawS (ord fl:List Nat)
 | seq (j:Option JoinA) (a b:AnnA)
 | cond (a b:AnnA)
 | block (a:AnnA)
 | loop (j:JoinA) (a:AnnA)
def keepB (l:Bvs):List Nat->Bvs
 | []=>[]
 | t::r=>match lookB l t with
  | some p=>(t,p)::keepB l r
  | none=>keepB l r
def keptI (l:Bvs):List Nat->List Nat
 | []=>[]
 | t::r=>match lookB l t with
  | some p=>p.1::keptI l r
  | none=>keptI l r
def keepX (ids:List Nat):Bxs->Bxs
 | []=>[]
 | (d,p)::r=>match memN d ids with
  | true=>(d,p)::keepX ids r
  | false=>keepX ids r
def aHY (bx:Bxs):List Nat->Bool
 | []=>true
 | i::r=>match lookX bx i with
  | some _=>aHY bx r
  | none=>false
def gL (bx:Bxs):List (Nat × (Nat × CK))->Option (List Value)
 | []=>some []
 | c::r=>match lookX bx c.1,gL bx r with
  | some (cs,_),some l=>match cs[c.2.1]? with
   | some v=>some (v::l)
   | none=>none
  | _,_=>none
def putCells:Bxs->List (Nat × (Nat × CK))->List Value->Bxs
 | bx,c::r,v::vs=>match lookX bx c.1 with
  | some (cs,_)=>putCells (setX bx c.1 (cs.set c.2.1 v)) r vs
  | none=>putCells bx r vs
 | bx,_,_=>bx
def memC (i j:Nat):List (Nat × (Nat × CK))->Bool
 | []=>false
 | c::r=>match Nat.beq c.1 i&&Nat.beq c.2.1 j with
  | true=>true
  | false=>memC i j r
def aBL (i:Nat) (cl:List (Nat × (Nat × CK))):List Value->Nat->List (Nat × Nat)
 | [],_=>[]
 | _::r,j=>match memC i j cl with
  | true=>aBL i cl r (j+1)
  | false=>(i,j)::aBL i cl r (j+1)
def protX (cl:List (Nat × (Nat × CK))):Bxs->List (Nat × Nat)
 | []=>[]
 | (d,p)::r=>aBL d cl p.1 0++protX cl r
def gA (s:SA) (J:JoinA) (e:Env) (vs:List Value):SA:=
 { s with env:=e++keepE s.env J.keep,bv:=keepB s.bv J.keep,bx:=putCells (keepX (keptI s.bv J.keep) s.bx) J.cells vs }
def nQ (s:SA) (J:JoinA):SA:=
 { s with pi:=keptI s.bv J.keep++s.pi,pr:=protX J.cells (keepX (keptI s.bv J.keep) s.bx)++s.pr }
def aE4 (s0 s:SA):SA:={ s with pi:=s0.pi,pr:=s0.pr }
def apX (cl:List (Nat × (Nat × CK))) (T:Type) (R:ArC (cksOf cl) T) (bx:Bxs) (ids:List Nat) (G:T->Prop):Prop:=
 match aHY bx ids,gL bx cl with
 | true,some vs=>kS (cksOf cl) T R vs G
 | _,_=>False
def kD:AnnA->Code->(Ex->SA->AP)->SA->AP
 | .leaf,.skip,K,s,A=>K .normal s A
 | .leaf,.label _,K,s,A=>K .normal s A
 | .leaf,.ret,K,s,A=>K .ret s A
 | .leaf,.exit id,K,s,A=>K (.exit id) s A
 | .leaf,.region _ ops false,K,s,A=>lJ P C n pm ops.toList ops.toList s (K .normal) (λv s A=>K (.panic v) s A) A
 | .draw k,.region _ ops true,K,s,A=>match Nat.beq k ops.toList.length with
  | true=>match Region.lexB .any ops.toList.toArray with
   | true=>pY P C n pm ops.toList ops.toList s (λs=>K .normal s A) A
   | false=>False
  | false=>match Region.lexTailB .any ops.toList.toArray k with
   | true=>pY P C n pm ops.toList (ops.toList.take k) s (λs=>lJ P C n pm ops.toList (ops.toList.drop k) s (K .normal) (λv s A=>K (.panic v) s A) A) A
   | false=>False
 | .drawS ord fl,.region _ ops true,K,s,A=>match Region.noSelect ops&&(Nat.beq ord.length ops.toList.length&&(yI ord&&yN ops.toList.length ord))&&aB5 P n ops.toList ord s fl with
  | true=>cA P C n pm ops.toList fl ord.length ord (Array.replicate ops.toList.length false) [] [] s (K .normal) (λv s1 A=>K (.panic v) { s1 with env:=stripE (ops.toList.flatMap opDst) s.env,bv:=[],ds:=s.ds } A) A
  | _=>False
 | .seq none a b,.seq x y,K,s,A=>kD a x (λe s A=>match e with
   | .normal=>kD b y K s A
   | e=>K e s A) s A
 | .seq (some J) a b,.seq x y,K,s,A=>match aIW J x with
  | true=>∃ R:yZ J.live (ArC (cksOf J.cells) AP),alJ J.live (ArC (cksOf J.cells) AP) R (λe R1=>alC (cksOf J.cells) AP R1 λvs R2=>∀ A',R2 A'->kD b y K (gA s J e vs) A')/\
    kD a x (λe s1 A1=>match e with
     | .normal=>uQ J.live (ArC (cksOf J.cells) AP) R s1.env λR1=>apX J.cells AP R1 s1.bx (keptI s.bv J.keep) λR2=>R2 A1
     | e=>K e (aE4 s s1) A1) (nQ s J) A
  | false=>False
 | .cond a b,.cond c x y,K,s,A=>wV s.env c λv=>match v with
  | .bool t=>bsel t (kD a x K s A) (kD b y K s A)
  | _=>False
 | .block a,.block id x,K,s,A=>kD a x (λe s A=>match e with
   | .exit id'=>match Nat.beq id' id with
    | true=>K .normal s A
    | false=>K (.exit id') s A
   | e=>K e s A) s A
 | .loop J a,.loop x,K,s,A=>match aIW J x with
  | true=>∃ I:yZ J.live (ArC (cksOf J.cells) (Nat->AP)),uQ J.live (ArC (cksOf J.cells) (Nat->AP)) I s.env (λI1=>apX J.cells (Nat->AP) I1 s.bx (keptI s.bv J.keep) λI2=>∃ m,I2 m A)/\
    alJ J.live (ArC (cksOf J.cells) (Nat->AP)) I λe I1=>alC (cksOf J.cells) (Nat->AP) I1 λvs I2=>∀ m A',I2 m A'->kD a x (λe1 s1 A1=>match e1 with
     | .normal=>uQ J.live (ArC (cksOf J.cells) (Nat->AP)) I s1.env λI1=>apX J.cells (Nat->AP) I1 s1.bx (keptI s.bv J.keep) λI2=>∃ m',m'<m/\I2 m' A1
     | e1=>K e1 (aE4 s s1) A1) (nQ (gA s J e vs) J) A'
  | false=>False
 | _,_,_,_,_=>False
end
end Go.Dn
