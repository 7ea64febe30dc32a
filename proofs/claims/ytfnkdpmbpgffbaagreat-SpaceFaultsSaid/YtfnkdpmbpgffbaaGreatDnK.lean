/- Deferred calls that may recover. -/
import Derived.Test.YtfnkdpmbpgffbaaGreatDnJ
namespace Go.Dn
def aMB (P:Program) (C:CT) (fn:Func) (ann:Ann) (args:List Value) (rv:Value) (K:HP) (h:Hp):Prop:=
 match mC fn with
 | .seq (.region _ ops false) y=>match ops.toList with
  | o::r=>match o.guard,o.op,fn.results.toList with
   | none,.call { callee:=.builtin .recover,args:=_,argTypes:=_ },[]=>
    iD fn.ntmps ⟨y7 0 args,[]⟩ o.dst rv λs=>nQ P C fn.ntmps (o::r) r s (λs h=>vG P C fn.ntmps ann y (λe s h=>match e,s.ds with
     | .normal,[]=>K h
     | .ret,[]=>K h
     | _,_=>False) s h) (λ_ _ _=>False) h
   | _,_,_=>False
  | []=>False
 | _=>False
section
variable {P:Program} {C:CT}
def aNs (P:Program) (fn:Func) (g:FuncId) (Dn:List Value->HP->HP) (Dp:List Value->Value->HP->HP) (K Kp:Value->HP):Ex->St->HP
 | .normal,⟨e,[d]⟩,h=>match d.target with
  | .fn (.func g') cap=>match Nat.beq g' g with
   | true=>Dn (d.args.toList++cap.toList) (λh'=>gN P fn.results.toList e h' λvs=>K (gM vs) h') h
   | false=>False
  | _=>False
 | .ret,⟨e,[d]⟩,h=>match d.target with
  | .fn (.func g') cap=>match Nat.beq g' g with
   | true=>Dn (d.args.toList++cap.toList) (λh'=>gN P fn.results.toList e h' λvs=>K (gM vs) h') h
   | false=>False
  | _=>False
 | .panic v,⟨e,[d]⟩,h=>match d.target with
  | .fn (.func g') cap=>match Nat.beq g' g with
   | true=>Dp (d.args.toList++cap.toList) v (λh'=>gN P fn.results.toList e h' λvs=>K (gM vs) h') h
   | false=>False
  | _=>False
 | .normal,⟨e,[]⟩,h=>gN P fn.results.toList e h λvs=>K (gM vs) h
 | .ret,⟨e,[]⟩,h=>gN P fn.results.toList e h λvs=>K (gM vs) h
 | .panic v,⟨_,[]⟩,h=>Kp v h
 | _,_,_=>False
def aLV (P:Program) (C:CT) (fn:Func) (ann:Ann) (g:FuncId) (Dn:List Value->HP->HP) (Dp:List Value->Value->HP->HP) (args:List Value) (K Kp:Value->HP) (h:Hp):Prop:=
 vG P C fn.ntmps ann (mC fn) (aNs P fn g Dn Dp K Kp) ⟨y7 0 args,[]⟩ h
end
attribute [irreducible] aMB aLV
end Go.Dn
