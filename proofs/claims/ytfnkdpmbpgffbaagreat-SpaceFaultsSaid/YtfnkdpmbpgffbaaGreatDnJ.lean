/- Functions. -/
import Derived.Test.YtfnkdpmbpgffbaaGreatDnI
namespace Go.Dn
def gN (P:Program):List ResultVar->Env->Hp->(List Value->Prop)->Prop
 | [],_,_,K=>K []
 | .tmp t::r,e,h,K=>match look e t with
  | some v=>gN P r e h λvs=>K (v::vs)
  | none=>False
 | .cell a t::r,e,h,K=>match look e a with
  | some va=>lC va λad=>ldD P t ad h λv=>gN P r e h λvs=>K (v::vs)
  | none=>False
def gM:List Value->Value
 | [v]=>v
 | l=>.tuple l.toArray
def y7:Nat->List Value->Env
 | _,[]=>[]
 | i,v::r=>(i,v)::y7 (i+1) r
def aNz (P:Program) (fn:Func) (K Kp:Value->HP):Ex->St->HP
 | .normal,⟨e,[]⟩,h=>gN P fn.results.toList e h λvs=>K (gM vs) h
 | .ret,⟨e,[]⟩,h=>gN P fn.results.toList e h λvs=>K (gM vs) h
 | .panic v,⟨_,[]⟩,h=>Kp v h
 | _,_,_=>False
def mC (fn:Func):Code:=match fn.body with | some c=>c | none=>.skip
def aE5 (P:Program) (C:CT) (fn:Func) (ann:Ann) (args:List Value) (K Kp:Value->HP) (h:Hp):Prop:=
 vG P C fn.ntmps ann (mC fn) (aNz P fn K Kp) ⟨y7 0 args,[]⟩ h
def callQ (K Kp:Value->HP) (w:World):Ending->World->Prop:=λe w'=>Kin false w w'/\match e with
 | .returned v=>K v w'.heap
 | .panicked ch=>∃ v,ch=[{ v,recovered:=false }]/\Kp v w'.heap
 | .outgrown=>False
abbrev EnT:=List Value->(Value->HP)->(Value->HP)->HP
structure cK (P:Program) (f:FuncId) (E:EnT):Prop where
 enter:∀ (as:Array Value) (w:World),(callFunc f as).run P w = .ok (.enter f as) w
 call:∀ args K Kp w,E args K Kp w.heap->Calls P f args.toArray w (callQ K Kp w)
def tab:List (FuncId × EnT)->CT
 | [],_,_,_,_,_=>False
 | (f,E)::r,g,args,K,Kp,h=>match Nat.beq f g with
  | true=>E args K Kp h
  | false=>tab r g args K Kp h
section
variable {P:Program} {C:CT}
def aHO (a:Act) (x:ResultVar):Sem Value:=match x with
 | .tmp t=>pure (a.tmps.getD t undef)
 | .cell c t=>do loadVar t (<- asAddr (a.tmps.getD c undef))
theorem xG {w:World} {n:Nat} {s:St} {a:Act} (g:mJ n s a):∀ (l:List ResultVar) (K:List Value->Prop),gN P l s.env w.heap K->
  ∃ vs,K vs/\(l.mapM (aHO a)).run P w = .ok vs w
 | [],K,h=>⟨[],h,by simp⟩
 | .tmp t::r,K,h=>by
  unfold gN at h;split at h
  .rename_i v i;obtain ⟨vs,e,b⟩:=xG g r _ h;refine ⟨v::vs,e,?_⟩;have:=g.env t v i;rw [List.mapM_cons];simp only [aHO,Sem.run_bind,Sem.run_pure,Result.andThen_ok,b,this]
  .exact h.elim
 | .cell c t::r,K,h=>by
  unfold gN at h;split at h
  .rename_i v i;obtain ⟨ad,rfl,o⟩:=nV h;have j:cG P true (loadVar t ad) (λv h'=>h'=w.heap/\gN P r s.env w.heap λvs=>K (v::vs)) w.heap:=aHQ (by simp_all);obtain ⟨u,w',b,⟨k,e⟩,f⟩:=j w rfl;have m:=f.same k;subst m;obtain ⟨vs,e,d⟩:=xG g r _ e;refine ⟨u::vs,e,?_⟩;have:=g.env c _ i;rw [List.mapM_cons];simp only [aHO,Sem.run_bind,Sem.run_pure,Result.andThen_ok,this,asAddr,b,d]
  .exact h.elim
theorem yK {w:World} {n:Nat} {s:St} {a:Act} (hr:mJ n s a) (fn:Func) (K:Value->HP) (h:gN P fn.results.toList s.env w.heap λvs=>K (gM vs) w.heap) :
  ∃ v,(results fn a.tmps).run P w = .ok v w/\K v w.heap:=by
 obtain ⟨vs,hk,hrun⟩:=xG hr _ _ h;refine ⟨gM vs,?_,hk⟩;unfold results;rw [Array.mapM_eq_mapM_toList];simp only [Sem.run_bind,Sem.run_map];have hm:∀ g:ResultVar->Sem Value,(∀ x,g x=aHO a x)->(List.mapM g fn.results.toList).run P w = .ok vs w:=λg hg=>by rw [show g=aHO a from funext hg];exact hrun
 rw [hm _ (λx=>by cases x<;>rfl)];simp only [Result.andThen_ok,Sem.run_pure];congr 1
 match vs with
 | []=>rfl
 | [v]=>rfl
 | v::u::r=>simp [gM]
theorem zN:∀ (l:List Value) (i t:Nat) (v:Value),look (y7 i l) t=some v->i<=t/\l[t-i]? = some v
 | [],i,t,v,h=>by simp [y7,look] at h
 | x::r,i,t,v,h=>by
  simp only [y7,aO] at h;split at h
  .simp_all
  .obtain ⟨b,a⟩:=zN r (i+1) t v h;refine ⟨by omega,?_⟩;rw [show t-i=t-(i+1)+1 by omega];simpa using a
theorem mJ.start {args:List Value} {n:Nat} (a:args.length<=n):mJ n ⟨y7 0 args,[]⟩ { tmps:=args.toArray++Array.replicate (n-args.toArray.size) undef,defers:=[] }:=by
 refine ⟨by simp;omega,λt v h=>?_,rfl⟩;obtain ⟨_,h⟩:=zN _ _ _ _ h;simp only [Nat.sub_zero] at h;have:t<args.length:=by grind
 rw [Array.getD_eq_getD_getElem?,Array.getElem?_append_left (by omega)];simp [h]
theorem aBh (r:P.follows .mixedOrders=true) (s:eX P C) {f:FuncId} {g:Func} {ann:Ann} {args:List Value} {K Kp:Value->HP} {w:World}
  (t:P.funcs[f]? = some g) (u:g.body.isSome=true) (x:Nat.ble args.length g.ntmps=true) (h:aE5 P C g ann args K Kp w.heap):Calls P f args.toArray w (callQ K Kp w):=by
 obtain ⟨c,q⟩:=Option.isSome_iff_exists.1 u;have i:mC g=c:=by simp [mC,q]
 unfold aE5 at h;rw [i] at h;have y:=mJ.start (Nat.le_of_ble_eq_true x);refine calls_of_wp t q (wp_mono (eB r s c ann _ _ _ w y h) λe a' w' j=>?_);cases e with
 | normal=>
  obtain ⟨s',b,a,k,m⟩:=j;obtain ⟨n,ds⟩:=s';cases ds with
  | nil=>
   obtain ⟨v,o,p⟩:=yK b g K a;exact ⟨b.ds,v,o,k,p⟩
  | cons d ds=>exact a.elim
 | ret=>
  obtain ⟨s',b,a,k,m⟩:=j;obtain ⟨n,ds⟩:=s';cases ds with
  | nil=>
   obtain ⟨v,o,p⟩:=yK b g K a;exact ⟨b.ds,v,o,k,p⟩
  | cons d ds=>exact a.elim
 | panic ch=>
  obtain ⟨v,s',rfl,b,a,k,m⟩:=j;obtain ⟨n,ds⟩:=s';cases ds with
  | nil=>exact ⟨b.ds,k,v,rfl,a⟩
  | cons d ds=>exact a.elim
 | exit id=>
  obtain ⟨s',b,a,k,m⟩:=j;obtain ⟨n,ds⟩:=s';cases ds<;>exact a.elim
 | goto l=>exact j.elim
 | outgrown=>exact j.elim
end
attribute [irreducible] aE5
end Go.Dn
