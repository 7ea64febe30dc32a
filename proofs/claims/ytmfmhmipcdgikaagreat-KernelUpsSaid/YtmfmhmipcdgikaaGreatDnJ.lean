/- Functions. -/
import Derived.Test.YtmfmhmipcdgikaaGreatDnI
namespace Go.Dn
def rdRes (P:Program):List ResultVar→Env→Hp→(List Value→Prop)→Prop
 | [],_,_,K=>K []
 | .tmp t::r,e,h,K=>match look e t with
  | some v=>rdRes P r e h fun vs=>K (v::vs)
  | none=>False
 | .cell a t::r,e,h,K=>match look e a with
  | some va=>asAd va fun ad=>ldD P t ad h fun v=>rdRes P r e h fun vs=>K (v::vs)
  | none=>False
def packV:List Value→Value
 | [v]=>v
 | l=>.tuple l.toArray
def argE:Nat→List Value→Env
 | _,[]=>[]
 | i,v::r=>(i,v)::argE (i+1) r
def endF (P:Program) (fn:Func) (K Kp:Value→HP):Ex→St→HP
 | .normal,⟨e,[]⟩,h=>rdRes P fn.results.toList e h fun vs=>K (packV vs) h
 | .ret,⟨e,[]⟩,h=>rdRes P fn.results.toList e h fun vs=>K (packV vs) h
 | .panic v,⟨_,[]⟩,h=>Kp v h
 | _,_,_=>False
def bodyOf (fn:Func):Code:=match fn.body with | some c=>c | none=>.skip
def denFn (P:Program) (C:CT) (fn:Func) (ann:Ann) (args:List Value) (K Kp:Value→HP) (h:Hp):Prop:=
 den P C fn.ntmps ann (bodyOf fn) (endF P fn K Kp) ⟨argE 0 args,[]⟩ h
def callQ (K Kp:Value→HP) (w:World):Ending→World→Prop:=fun e w'=>Kin false w w'∧match e with
 | .returned v=>K v w'.heap
 | .panicked ch=>∃ v,ch=[{ v,recovered:=false }]∧Kp v w'.heap
 | .outgrown=>False
abbrev EnT:=List Value→(Value→HP)→(Value→HP)→HP
structure EntryOK (P:Program) (f:FuncId) (E:EnT):Prop where
 enter:∀ (as:Array Value) (w:World),(callFunc f as).run P w = .ok (.enter f as) w
 call:∀ args K Kp w,E args K Kp w.heap→Calls P f args.toArray w (callQ K Kp w)
def tab:List (FuncId × EnT)→CT
 | [],_,_,_,_,_=>False
 | (f,E)::r,g,args,K,Kp,h=>match Nat.beq f g with
  | true=>E args K Kp h
  | false=>tab r g args K Kp h
section
variable {P:Program} {C:CT}
def res1 (a:Act) (x:ResultVar):Sem Value:=match x with
 | .tmp t=>pure (a.tmps.getD t undef)
 | .cell c t=>do loadVar t (← asAddr (a.tmps.getD c undef))
theorem rdRes_ok {w:World} {n:Nat} {s:St} {a:Act} (hr:Rel n s a):∀ (l:List ResultVar) (K:List Value→Prop),rdRes P l s.env w.heap K→
  ∃ vs,K vs∧(l.mapM (res1 a)).run P w = .ok vs w
 | [],K,h=>⟨[],h,by simp⟩
 | .tmp t::r,K,h=>by
  unfold rdRes at h
  split at h
  ·rename_i v hv
   obtain ⟨vs,hk,hrun⟩:=rdRes_ok hr r _ h
   refine ⟨v::vs,hk,?_⟩
   have:=hr.env t v hv
   rw [List.mapM_cons]
   simp only [res1,Sem.run_bind,Sem.run_pure,Result.andThen_ok,hrun,this]
  ·exact h.elim
 | .cell c t::r,K,h=>by
  unfold rdRes at h
  split at h
  ·rename_i v hv
   obtain ⟨ad,rfl,h0⟩:=asAd_mp h
   have hl:semH P true (loadVar t ad) (fun v h'=>h'=w.heap∧rdRes P r s.env w.heap fun vs=>K (v::vs)) w.heap:=ldD_ok (by simpa only [true_and] using h0)
   obtain ⟨u,w',hrun,⟨hh,hk⟩,hkin⟩:=hl w rfl
   have hw:=hkin.same hh
   subst hw
   obtain ⟨vs,hk,hrun'⟩:=rdRes_ok hr r _ hk
   refine ⟨u::vs,hk,?_⟩
   have:=hr.env c _ hv
   rw [List.mapM_cons]
   simp only [res1,Sem.run_bind,Sem.run_pure,Result.andThen_ok,this,asAddr,hrun,hrun']
  ·exact h.elim
theorem results_ok {w:World} {n:Nat} {s:St} {a:Act} (hr:Rel n s a) (fn:Func) (K:Value→HP) (h:rdRes P fn.results.toList s.env w.heap fun vs=>K (packV vs) w.heap) :
  ∃ v,(results fn a.tmps).run P w = .ok v w∧K v w.heap:=by
 obtain ⟨vs,hk,hrun⟩:=rdRes_ok hr _ _ h
 refine ⟨packV vs,?_,hk⟩
 unfold results
 rw [Array.mapM_eq_mapM_toList]
 simp only [Sem.run_bind,Sem.run_map]
 have hm:∀ g:ResultVar→Sem Value,(∀ x,g x=res1 a x)→(List.mapM g fn.results.toList).run P w = .ok vs w:=fun g hg=>by rw [show g=res1 a from funext hg];exact hrun
 rw [hm _ (fun x=>by cases x<;>rfl)]
 simp only [Result.andThen_ok,Sem.run_pure]
 congr 1
 match vs with
 | []=>rfl
 | [v]=>rfl
 | v::u::r=>simp [packV]
theorem look_argE:∀ (l:List Value) (i t:Nat) (v:Value),look (argE i l) t=some v→i≤t∧l[t-i]? = some v
 | [],i,t,v,h=>by simp [argE,look] at h
 | x::r,i,t,v,h=>by
  simp only [argE,look_cons] at h
  split at h
  ·rename_i e
   subst e
   exact ⟨Nat.le_refl _,by simpa using h⟩
  ·obtain ⟨h1,h2⟩:=look_argE r (i+1) t v h
   refine ⟨by omega,?_⟩
   rw [show t-i=t-(i+1)+1 by omega]
   simpa using h2
theorem Rel.start {args:List Value} {n:Nat} (hn:args.length≤n):Rel n ⟨argE 0 args,[]⟩ { tmps:=args.toArray++Array.replicate (n-args.toArray.size) undef,defers:=[] }:=by
 refine ⟨by simp;omega,fun t v h=>?_,rfl⟩
 obtain ⟨_,h⟩:=look_argE _ _ _ _ h
 simp only [Nat.sub_zero] at h
 have:t<args.length:=by
  rcases Nat.lt_or_ge t args.length with h' | h'
  ·exact h'
  ·rw [List.getElem?_eq_none h'] at h;cases h
 rw [Array.getD_eq_getD_getElem?,Array.getElem?_append_left (by simpa using this)]
 simp [h]
theorem calls_of_den (hm:P.follows .mixedOrders=true) (hC:Calling P C) {f:FuncId} {fn:Func} {ann:Ann} {args:List Value} {K Kp:Value→HP} {w:World}
  (hf:P.funcs[f]? = some fn) (hb:fn.body.isSome=true) (hn:Nat.ble args.length fn.ntmps=true) (h:denFn P C fn ann args K Kp w.heap):Calls P f args.toArray w (callQ K Kp w):=by
 obtain ⟨c,hc⟩:=Option.isSome_iff_exists.1 hb
 have hbody:bodyOf fn=c:=by simp [bodyOf,hc]
 unfold denFn at h
 rw [hbody] at h
 have hr:=Rel.start (Nat.le_of_ble_eq_true hn)
 refine calls_of_wp hf hc (wp_mono (den_sound hm hC c ann _ _ _ w hr h) fun e a' w' hp=>?_)
 cases e with
 | normal=>
  obtain ⟨s',h1,h2,h3,h4⟩:=hp
  obtain ⟨e',ds⟩:=s'
  cases ds with
  | nil=>
   obtain ⟨v,hv,hk⟩:=results_ok h1 fn K h2
   exact ⟨h1.ds,v,hv,h3,hk⟩
  | cons d ds=>exact h2.elim
 | ret=>
  obtain ⟨s',h1,h2,h3,h4⟩:=hp
  obtain ⟨e',ds⟩:=s'
  cases ds with
  | nil=>
   obtain ⟨v,hv,hk⟩:=results_ok h1 fn K h2
   exact ⟨h1.ds,v,hv,h3,hk⟩
  | cons d ds=>exact h2.elim
 | panic ch=>
  obtain ⟨v,s',rfl,h1,h2,h3,h4⟩:=hp
  obtain ⟨e',ds⟩:=s'
  cases ds with
  | nil=>exact ⟨h1.ds,h3,v,rfl,h2⟩
  | cons d ds=>exact h2.elim
 | exit id=>
  obtain ⟨s',h1,h2,h3,h4⟩:=hp
  obtain ⟨e',ds⟩:=s'
  cases ds<;>exact h2.elim
 | goto l=>exact hp.elim
 | outgrown=>exact hp.elim
end
attribute [irreducible] denFn
end Go.Dn
