/- Deferred calls that may recover. -/
import Derived.Test.YtfnkdpmbpgffbaaGreatDnJ
namespace Go.Dn
def aMH (P:Program) (C:CT) (fn:Func) (ann:Ann) (args:List Value) (rv:Value) (K:HP) (h:Hp):Prop:=
 match lV fn with
 | .seq (.region _ ops false) y=>match ops.toList with
  | o::r=>match o.guard,o.op,fn.results.toList with
   | none,.call { callee:=.builtin .recover,args:=_,argTypes:=_ },[]=>
    hZ fn.ntmps ⟨zG 0 args,[]⟩ o.dst rv λs=>mS P C fn.ntmps (o::r) r s (λs h=>vF P C fn.ntmps ann y (λe s h=>match e,s.ds with
     | .normal,[]=>K h
     | .ret,[]=>K h
     | _,_=>False) s h) (λ_ _ _=>False) h
   | _,_,_=>False
  | []=>False
 | _=>False
section
variable {P:Program} {C:CT}
def aNH (P:Program) (fn:Func) (g:FuncId) (Dn:List Value->HP->HP) (Dp:List Value->Value->HP->HP) (K Kp:Value->HP):Ex->St->HP
 | .normal,⟨e,[d]⟩,h=>match d.target with
  | .fn (.func g') cap=>match Nat.beq g' g with
   | true=>Dn (d.args.toList++cap.toList) (λh'=>gN P fn.results.toList e h' λvs=>K (gS vs) h') h
   | false=>False
  | _=>False
 | .ret,⟨e,[d]⟩,h=>match d.target with
  | .fn (.func g') cap=>match Nat.beq g' g with
   | true=>Dn (d.args.toList++cap.toList) (λh'=>gN P fn.results.toList e h' λvs=>K (gS vs) h') h
   | false=>False
  | _=>False
 | .panic v,⟨e,[d]⟩,h=>match d.target with
  | .fn (.func g') cap=>match Nat.beq g' g with
   | true=>Dp (d.args.toList++cap.toList) v (λh'=>gN P fn.results.toList e h' λvs=>K (gS vs) h') h
   | false=>False
  | _=>False
 | .normal,⟨e,[]⟩,h=>gN P fn.results.toList e h λvs=>K (gS vs) h
 | .ret,⟨e,[]⟩,h=>gN P fn.results.toList e h λvs=>K (gS vs) h
 | .panic v,⟨_,[]⟩,h=>Kp v h
 | _,_,_=>False
def aLh (P:Program) (C:CT) (fn:Func) (ann:Ann) (g:FuncId) (Dn:List Value->HP->HP) (Dp:List Value->Value->HP->HP) (args:List Value) (K Kp:Value->HP) (h:Hp):Prop:=
 vF P C fn.ntmps ann (lV fn) (aNH P fn g Dn Dp K Kp) ⟨zG 0 args,[]⟩ h
end
attribute [irreducible] aMH aLh
end Go.Dn
