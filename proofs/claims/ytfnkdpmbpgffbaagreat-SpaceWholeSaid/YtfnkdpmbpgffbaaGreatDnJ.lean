/- Functions. -/
import Derived.Test.YtfnkdpmbpgffbaaGreatDnI
namespace Go.Dn
def gN (P:Program):List ResultVar->Env->Hp->(List Value->Prop)->Prop
 | [],_,_,K=>K []
 | .tmp t::r,e,h,K=>match look e t with
  | some v=>gN P r e h λvs=>K (v::vs)
  | none=>False
 | .cell a t::r,e,h,K=>match look e a with
  | some va=>kV va λad=>ldD P t ad h λv=>gN P r e h λvs=>K (v::vs)
  | none=>False
def gS:List Value->Value
 | [v]=>v
 | l=>.tuple l.toArray
def zG:Nat->List Value->Env
 | _,[]=>[]
 | i,v::r=>(i,v)::zG (i+1) r
def aNR (P:Program) (fn:Func) (K Kp:Value->HP):Ex->St->HP
 | .normal,⟨e,[]⟩,h=>gN P fn.results.toList e h λvs=>K (gS vs) h
 | .ret,⟨e,[]⟩,h=>gN P fn.results.toList e h λvs=>K (gS vs) h
 | .panic v,⟨_,[]⟩,h=>Kp v h
 | _,_,_=>False
def lV (fn:Func):Code:=match fn.body with | some c=>c | none=>.skip
def aEG (P:Program) (C:CT) (fn:Func) (ann:Ann) (args:List Value) (K Kp:Value->HP) (h:Hp):Prop:=
 vF P C fn.ntmps ann (lV fn) (aNR P fn K Kp) ⟨zG 0 args,[]⟩ h
def callQ (K Kp:Value->HP) (w:World):Ending->World->Prop:=λe w'=>Kin false w w'/\match e with
 | .returned v=>K v w'.heap
 | .panicked ch=>∃ v,ch=[{ v,recovered:=false }]/\Kp v w'.heap
 | .outgrown=>False
abbrev EnT:=List Value->(Value->HP)->(Value->HP)->HP
structure cL (P:Program) (f:FuncId) (E:EnT):Prop where
 enter:∀ (as:Array Value) (w:World),(callFunc f as).run P w = .ok (.enter f as) w
 call:∀ args K Kp w,E args K Kp w.heap->Calls P f args.toArray w (callQ K Kp w)
def tab:List (FuncId × EnT)->CT
 | [],_,_,_,_,_=>False
 | (f,E)::r,g,args,K,Kp,h=>match Nat.beq f g with
  | true=>E args K Kp h
  | false=>tab r g args K Kp h
section
variable {P:Program} {C:CT}
def aHd (a:Act) (x:ResultVar):Sem Value:=match x with
 | .tmp t=>pure (a.tmps.getD t undef)
 | .cell c t=>do loadVar t (<- asAddr (a.tmps.getD c undef))
theorem xD {w:World} {n:Nat} {s:St} {a:Act} (g:mH n s a):∀ (l:List ResultVar) (K:List Value->Prop),gN P l s.env w.heap K->
  ∃ vs,K vs/\(l.mapM (aHd a)).run P w = .ok vs w
 | [],K,h=>⟨[],h,by simp⟩
 | .tmp t::r,K,h=>by
  unfold gN at h;split at h
  .rename_i v i;obtain ⟨vs,e,b⟩:=xD g r _ h;refine ⟨v::vs,e,?_⟩;have:=g.env t v i;rw [List.mapM_cons];simp only [aHd,Sem.run_bind,Sem.run_pure,Result.andThen_ok,b,this]
  .exact h.elim
 | .cell c t::r,K,h=>by
  unfold gN at h;split at h
  .rename_i v i;obtain ⟨ad,rfl,o⟩:=oP h;have j:cF P true (loadVar t ad) (λv h'=>h'=w.heap/\gN P r s.env w.heap λvs=>K (v::vs)) w.heap:=aHD (by simp_all);obtain ⟨u,w',b,⟨k,e⟩,f⟩:=j w rfl;have m:=f.same k;subst m;obtain ⟨vs,e,d⟩:=xD g r _ e;refine ⟨u::vs,e,?_⟩;have:=g.env c _ i;rw [List.mapM_cons];simp only [aHd,Sem.run_bind,Sem.run_pure,Result.andThen_ok,this,asAddr,b,d]
  .exact h.elim
theorem xV {w:World} {n:Nat} {s:St} {a:Act} (hr:mH n s a) (fn:Func) (K:Value->HP) (h:gN P fn.results.toList s.env w.heap λvs=>K (gS vs) w.heap) :
  ∃ v,(results fn a.tmps).run P w = .ok v w/\K v w.heap:=by
 obtain ⟨vs,hk,hrun⟩:=xD hr _ _ h;refine ⟨gS vs,?_,hk⟩;unfold results;rw [Array.mapM_eq_mapM_toList];simp only [Sem.run_bind,Sem.run_map];have hm:∀ g:ResultVar->Sem Value,(∀ x,g x=aHd a x)->(List.mapM g fn.results.toList).run P w = .ok vs w:=λg hg=>by rw [show g=aHd a from funext hg];exact hrun
 rw [hm _ (λx=>by cases x<;>rfl)];simp only [Result.andThen_ok,Sem.run_pure];congr 1
 match vs with
 | []=>rfl
 | [v]=>rfl
 | v::u::r=>simp [gS]
theorem aAg:∀ (l:List Value) (i t:Nat) (v:Value),look (zG i l) t=some v->i<=t/\l[t-i]? = some v
 | [],i,t,v,h=>by simp [zG,look] at h
 | x::r,i,t,v,h=>by
  simp only [zG,aO] at h;split at h
  .simp_all
  .obtain ⟨b,a⟩:=aAg r (i+1) t v h;refine ⟨by omega,?_⟩;rw [show t-i=t-(i+1)+1 by omega];simpa using a
theorem mH.start {args:List Value} {n:Nat} (a:args.length<=n):mH n ⟨zG 0 args,[]⟩ { tmps:=args.toArray++Array.replicate (n-args.toArray.size) undef,defers:=[] }:=by
 refine ⟨by simp;omega,λt v h=>?_,rfl⟩;obtain ⟨_,h⟩:=aAg _ _ _ _ h;simp only [Nat.sub_zero] at h;have:t<args.length:=by grind
 rw [Array.getD_eq_getD_getElem?,Array.getElem?_append_left (by omega)];simp [h]
theorem aBB (r:P.follows .mixedOrders=true) (s:eT P C) {f:FuncId} {g:Func} {ann:Ann} {args:List Value} {K Kp:Value->HP} {w:World}
  (t:P.funcs[f]? = some g) (u:g.body.isSome=true) (x:Nat.ble args.length g.ntmps=true) (h:aEG P C g ann args K Kp w.heap):Calls P f args.toArray w (callQ K Kp w):=by
 obtain ⟨c,q⟩:=Option.isSome_iff_exists.1 u;have i:lV g=c:=by simp [lV,q]
 unfold aEG at h;rw [i] at h;have y:=mH.start (Nat.le_of_ble_eq_true x);refine calls_of_wp t q (wp_mono (d9 r s c ann _ _ _ w y h) λe a' w' j=>?_);cases e with
 | normal=>
  obtain ⟨s',b,a,k,m⟩:=j;obtain ⟨n,ds⟩:=s';cases ds with
  | nil=>
   obtain ⟨v,o,p⟩:=xV b g K a;exact ⟨b.ds,v,o,k,p⟩
  | cons d ds=>exact a.elim
 | ret=>
  obtain ⟨s',b,a,k,m⟩:=j;obtain ⟨n,ds⟩:=s';cases ds with
  | nil=>
   obtain ⟨v,o,p⟩:=xV b g K a;exact ⟨b.ds,v,o,k,p⟩
  | cons d ds=>exact a.elim
 | panic ch=>
  obtain ⟨v,s',rfl,b,a,k,m⟩:=j;obtain ⟨n,ds⟩:=s';cases ds with
  | nil=>exact ⟨b.ds,k,v,rfl,a⟩
  | cons d ds=>exact a.elim
 | exit id=>
  obtain ⟨s',b,a,k,m⟩:=j;obtain ⟨n,ds⟩:=s';cases ds<;>exact a.elim
 | goto l=>exact j.elim
 | outgrown=>exact j.elim
end
attribute [irreducible] aEG
end Go.Dn
