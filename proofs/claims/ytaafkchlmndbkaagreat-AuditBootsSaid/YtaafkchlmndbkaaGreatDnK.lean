/- Deferred calls that may recover. -/
import Derived.Test.YtaafkchlmndbkaaGreatDnJ
namespace Go.Dn
def denDf (P : Program) (C : CT) (fn : Func) (ann : Ann) (args : List Value) (rv : Value) (K : HP) (h : Hp) : Prop :=
 match bodyOf fn with
 | .seq (.region _ ops false) y => match ops.toList with
  | o :: r => match o.guard,o.op,fn.results.toList with
   | none,.call { callee := .builtin .recover,args := _,argTypes := _ },[] =>
    putD fn.ntmps ⟨argE 0 args,[]⟩ o.dst rv fun s => denOps P C fn.ntmps (o :: r) r s (fun s h => den P C fn.ntmps ann y (fun e s h => match e,s.ds with
     | .normal,[] => K h
     | .ret,[] => K h
     | _,_ => False) s h) (fun _ _ _ => False) h
   | _,_,_ => False
  | [] => False
 | _ => False
section
variable {P : Program} {C : CT}
def endD (P : Program) (fn : Func) (g : FuncId) (Dn : List Value→HP→HP) (Dp : List Value→Value→HP→HP) (K Kp : Value→HP) : Ex→St→HP
 | .normal,⟨e,[d]⟩,h => match d.target with
  | .fn (.func g') cap => match Nat.beq g' g with
   | true => Dn (d.args.toList ++ cap.toList) (fun h' => rdRes P fn.results.toList e h' fun vs => K (packV vs) h') h
   | false => False
  | _ => False
 | .ret,⟨e,[d]⟩,h => match d.target with
  | .fn (.func g') cap => match Nat.beq g' g with
   | true => Dn (d.args.toList ++ cap.toList) (fun h' => rdRes P fn.results.toList e h' fun vs => K (packV vs) h') h
   | false => False
  | _ => False
 | .panic v,⟨e,[d]⟩,h => match d.target with
  | .fn (.func g') cap => match Nat.beq g' g with
   | true => Dp (d.args.toList ++ cap.toList) v (fun h' => rdRes P fn.results.toList e h' fun vs => K (packV vs) h') h
   | false => False
  | _ => False
 | .normal,⟨e,[]⟩,h => rdRes P fn.results.toList e h fun vs => K (packV vs) h
 | .ret,⟨e,[]⟩,h => rdRes P fn.results.toList e h fun vs => K (packV vs) h
 | .panic v,⟨_,[]⟩,h => Kp v h
 | _,_,_ => False
def denFnD (P : Program) (C : CT) (fn : Func) (ann : Ann) (g : FuncId) (Dn : List Value→HP→HP) (Dp : List Value→Value→HP→HP) (args : List Value) (K Kp : Value→HP) (h : Hp) : Prop :=
 den P C fn.ntmps ann (bodyOf fn) (endD P fn g Dn Dp K Kp) ⟨argE 0 args,[]⟩ h
end
attribute [irreducible] denDf denFnD
end Go.Dn
