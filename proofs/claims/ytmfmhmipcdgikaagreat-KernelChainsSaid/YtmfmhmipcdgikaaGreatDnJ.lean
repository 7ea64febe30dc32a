/- Functions. -/
import Derived.Test.YtmfmhmipcdgikaaGreatDnI
namespace Go.Dn
def eR (P:Program):List ResultVar->Env->Hp->(List Value->Prop)->Prop
 | [],_,_,K=>K []
 | .tmp t::r,e,h,K=>match look e t with
  | some v=>eR P r e h λvs=>K (v::vs)
  | none=>False
 | .cell a t::r,e,h,K=>match look e a with
  | some va=>jN va λad=>ldD P t ad h λv=>eR P r e h λvs=>K (v::vs)
  | none=>False
def dW:List Value->Value
 | [v]=>v
 | l=>.tuple l.toArray
def w8:Nat->List Value->Env
 | _,[]=>[]
 | i,v::r=>(i,v)::w8 (i+1) r
def aMN (P:Program) (fn:Func) (K Kp:Value->HP):Ex->St->HP
 | .normal,⟨e,[]⟩,h=>eR P fn.results.toList e h λvs=>K (dW vs) h
 | .ret,⟨e,[]⟩,h=>eR P fn.results.toList e h λvs=>K (dW vs) h
 | .panic v,⟨_,[]⟩,h=>Kp v h
 | _,_,_=>False
def eW (fn:Func):Code:=match fn.body with | some c=>c | none=>.skip
def aDE (P:Program) (C:CT) (fn:Func) (ann:Ann) (args:List Value) (K Kp:Value->HP) (h:Hp):Prop:=
 tI P C fn.ntmps ann (eW fn) (aMN P fn K Kp) ⟨w8 0 args,[]⟩ h
def callQ (K Kp:Value->HP) (w:World):Ending->World->Prop:=λe w'=>Kin false w w'/\match e with
 | .returned v=>K v w'.heap
 | .panicked ch=>∃ v,ch=[{ v,recovered:=false }]/\Kp v w'.heap
 | .outgrown=>False
abbrev EnT:=List Value->(Value->HP)->(Value->HP)->HP
structure bA (P:Program) (f:FuncId) (E:EnT):Prop where
 enter:∀ (as:Array Value) (w:World),(callFunc f as).run P w = .ok (.enter f as) w
 call:∀ args K Kp w,E args K Kp w.heap->Calls P f args.toArray w (callQ K Kp w)
def tab:List (FuncId × EnT)->CT
 | [],_,_,_,_,_=>False
 | (f,E)::r,g,args,K,Kp,h=>match Nat.beq f g with
  | true=>E args K Kp h
  | false=>tab r g args K Kp h
section
variable {P:Program} {C:CT}
def aG9 (a:Act) (x:ResultVar):Sem Value:=match x with
 | .tmp t=>pure (a.tmps.getD t undef)
 | .cell c t=>do loadVar t (<- asAddr (a.tmps.getD c undef))
theorem uP {w:World} {n:Nat} {s:St} {a:Act} (hr:iV n s a):∀ (l:List ResultVar) (K:List Value->Prop),eR P l s.env w.heap K->
  ∃ vs,K vs/\(l.mapM (aG9 a)).run P w = .ok vs w
 | [],K,h=>⟨[],h,by simp⟩
 | .tmp t::r,K,h=>by
  unfold eR at h;split at h
  ·rename_i v hv;obtain ⟨vs,hk,hrun⟩:=uP hr r _ h;refine ⟨v::vs,hk,?_⟩;have:=hr.env t v hv;rw [List.mapM_cons];simp only [aG9,Sem.run_bind,Sem.run_pure,Result.andThen_ok,hrun,this]
  ·exact h.elim
 | .cell c t::r,K,h=>by
  unfold eR at h;split at h
  ·rename_i v hv;obtain ⟨ad,rfl,h0⟩:=mF h;have hl:bZ P true (loadVar t ad) (λv h'=>h'=w.heap/\eR P r s.env w.heap λvs=>K (v::vs)) w.heap:=aGR (by simpa only [true_and] using h0);obtain ⟨u,w',hrun,⟨hh,hk⟩,hkin⟩:=hl w rfl;have hw:=hkin.same hh;subst hw;obtain ⟨vs,hk,hrun'⟩:=uP hr r _ hk;refine ⟨u::vs,hk,?_⟩;have:=hr.env c _ hv;rw [List.mapM_cons];simp only [aG9,Sem.run_bind,Sem.run_pure,Result.andThen_ok,this,asAddr,hrun,hrun']
  ·exact h.elim
theorem nR {w:World} {n:Nat} {s:St} {a:Act} (hr:iV n s a) (fn:Func) (K:Value->HP) (h:eR P fn.results.toList s.env w.heap λvs=>K (dW vs) w.heap) :
  ∃ v,(results fn a.tmps).run P w = .ok v w/\K v w.heap:=by
 obtain ⟨vs,hk,hrun⟩:=uP hr _ _ h;refine ⟨dW vs,?_,hk⟩;unfold results;rw [Array.mapM_eq_mapM_toList];simp only [Sem.run_bind,Sem.run_map];have hm:∀ g:ResultVar->Sem Value,(∀ x,g x=aG9 a x)->(List.mapM g fn.results.toList).run P w = .ok vs w:=λg hg=>by rw [show g=aG9 a from funext hg];exact hrun
 rw [hm _ (λx=>by cases x<;>rfl)];simp only [Result.andThen_ok,Sem.run_pure];congr 1
 match vs with
 | []=>rfl
 | [v]=>rfl
 | v::u::r=>simp [dW]
theorem xR:∀ (l:List Value) (i t:Nat) (v:Value),look (w8 i l) t=some v->i<=t/\l[t-i]? = some v
 | [],i,t,v,h=>by simp [w8,look] at h
 | x::r,i,t,v,h=>by
  simp only [w8,aQ] at h;split at h
  ·rename_i e;subst e;exact ⟨Nat.le_refl _,by simpa using h⟩
  ·obtain ⟨h1,h2⟩:=xR r (i+1) t v h;refine ⟨by omega,?_⟩;rw [show t-i=t-(i+1)+1 by omega];simpa using h2
theorem iV.start {args:List Value} {n:Nat} (hn:args.length<=n):iV n ⟨w8 0 args,[]⟩ { tmps:=args.toArray++Array.replicate (n-args.toArray.size) undef,defers:=[] }:=by
 refine ⟨by simp;omega,λt v h=>?_,rfl⟩;obtain ⟨_,h⟩:=xR _ _ _ _ h;simp only [Nat.sub_zero] at h
 have:t<args.length:=by
  rcases Nat.lt_or_ge t args.length with h' | h'
  ·exact h'
  ·rw [List.getElem?_eq_none h'] at h;cases h
 rw [Array.getD_eq_getD_getElem?,Array.getElem?_append_left (by simpa using this)];simp [h]
theorem zZ (hm:P.follows .mixedOrders=true) (hC:cG P C) {f:FuncId} {fn:Func} {ann:Ann} {args:List Value} {K Kp:Value->HP} {w:World}
  (hf:P.funcs[f]? = some fn) (hb:fn.body.isSome=true) (hn:Nat.ble args.length fn.ntmps=true) (h:aDE P C fn ann args K Kp w.heap):Calls P f args.toArray w (callQ K Kp w):=by
 obtain ⟨c,hc⟩:=Option.isSome_iff_exists.1 hb;have hbody:eW fn=c:=by simp [eW,hc]
 unfold aDE at h;rw [hbody] at h;have hr:=iV.start (Nat.le_of_ble_eq_true hn);refine calls_of_wp hf hc (wp_mono (cU hm hC c ann _ _ _ w hr h) λe a' w' hp=>?_);cases e with
 | normal=>
  obtain ⟨s',h1,h2,h3,h4⟩:=hp;obtain ⟨e',ds⟩:=s';cases ds with
  | nil=>
   obtain ⟨v,hv,hk⟩:=nR h1 fn K h2;exact ⟨h1.ds,v,hv,h3,hk⟩
  | cons d ds=>exact h2.elim
 | ret=>
  obtain ⟨s',h1,h2,h3,h4⟩:=hp;obtain ⟨e',ds⟩:=s';cases ds with
  | nil=>
   obtain ⟨v,hv,hk⟩:=nR h1 fn K h2;exact ⟨h1.ds,v,hv,h3,hk⟩
  | cons d ds=>exact h2.elim
 | panic ch=>
  obtain ⟨v,s',rfl,h1,h2,h3,h4⟩:=hp;obtain ⟨e',ds⟩:=s';cases ds with
  | nil=>exact ⟨h1.ds,h3,v,rfl,h2⟩
  | cons d ds=>exact h2.elim
 | exit id=>
  obtain ⟨s',h1,h2,h3,h4⟩:=hp;obtain ⟨e',ds⟩:=s';cases ds<;>exact h2.elim
 | goto l=>exact hp.elim
 | outgrown=>exact hp.elim
end
attribute [irreducible] aDE
end Go.Dn
