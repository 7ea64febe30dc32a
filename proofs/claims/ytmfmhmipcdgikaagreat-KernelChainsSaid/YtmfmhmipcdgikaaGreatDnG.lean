/- Each operation of a region. -/
import Derived.Test.YtmfmhmipcdgikaaGreatDnF
import Derived.Laws.Build
namespace Go.Dn
abbrev Env:=List (Nat × Value)
def look:Env->Nat->Option Value
 | [],_=>none
 | (d,v)::r,t=>match Nat.beq d t with
  | true=>some v
  | false=>look r t
def evO (ρ:Env):Operand->Option Value
 | .tmp t=>look ρ t
 | .const v=>some v
 | .global g=>some (.pointer (some ⟨g,0,none⟩))
 | .func f=>some (.func (.func f) #[] #[])
def wV (ρ:Env) (x:Operand) (K:Value->Prop):Prop:=match evO ρ x with | some v=>K v | none=>False
def wL (ρ:Env):List Operand->(List Value->Prop)->Prop
 | [],K=>K []
 | x::r,K=>wV ρ x λv=>wL ρ r λvs=>K (v::vs)
def wP (ρ:Env):List (Nat × Operand)->(List (Nat × Value)->Prop)->Prop
 | [],K=>K []
 | (i,x)::r,K=>wV ρ x λv=>wP ρ r λvs=>K ((i,v)::vs)
def wO (ρ:Env) (x:Option Operand) (K:Option Value->Prop):Prop:=match x with | some x=>wV ρ x λv=>K (some v) | none=>K none
def ReE (ρ:Env) (f:Operand->Value):Prop:=∀ x v,evO ρ x=some v->f x=v
section
variable {ρ:Env} {f:Operand->Value}
theorem wV_mp (hr:ReE ρ f) {x:Operand} {K:Value->Prop} (h:wV ρ x K):K (f x):=by
 unfold wV at h;split at h
 ·rename_i v hv;rw [hr x v hv];exact h
 ·exact h.elim
theorem yO (hr:ReE ρ f):∀ (l:List Operand) (K:List Value->Prop),wL ρ l K->K (l.map f)
 | [],_,h=>h
 | x::r,K,h=>by have:=yO hr r _ (wV_mp hr h);exact this
theorem aF1 (hr:ReE ρ f):∀ (l:List (Nat × Operand)) (K:List (Nat × Value)->Prop),wP ρ l K->K (l.map λp=>(p.1,f p.2))
 | [],_,h=>h
 | (i,x)::r,K,h=>by have:=aF1 hr r _ (wV_mp hr h);exact this
theorem wO_mp (hr:ReE ρ f) {x:Option Operand} {K:Option Value->Prop} (h:wO ρ x K):K (x.map f):=by
 cases x with
 | none=>exact h
 | some x=>exact wV_mp hr h
end
abbrev CT:=FuncId->List Value->(Value->HP)->(Value->HP)->HP
def wZ (v:Value) (K:Value->Prop):Prop:=match v with
 | .pointer p=>aF p λa=>K (.pointer (some a))
 | .func (.func f) a b=>K (.func (.func f) a b)
 | _=>False
def unD (op:UnOp) (x:Value) (K:Value->Prop):Prop:=match op,x with
 | .neg,.int k n=>K (.int k (k.wrap (0-n)))
 | .xor,.int k n=>K (.int k (bits .xor k (if k.signed then -1 else k.max) n))
 | .not,.bool b=>K (.bool (!b))
 | _,_=>False
def cvD (P:Program) (s d:TypeId) (x:Value) (K:Value->Prop):Prop:=match P.underlying s,P.underlying d,x with
 | some _,some (.int k),.int _ n=>K (.int k (k.wrap n))
 | _,_,_=>False
def u5 (P:Program) (t:TypeId) (K:Prop):Prop:=match P.concrete t with | true=>K | false=>False
def taD (P:Program) (x:Value) (asserted:TypeId) (ok:Bool) (K:Value->Prop):Prop:=
 match P.concrete asserted,ok,x with
 | true,true,.nilIface=>eB P asserted λz=>K (.tuple #[z,.bool false])
 | true,true,.iface t v=>match Nat.beq t asserted with
  | true=>K (.tuple #[v,.bool true])
  | false=>eB P asserted λz=>K (.tuple #[z,.bool false])
 | _,_,_=>False
def aBq (x:Value) (i:Nat) (K:Value->Prop):Prop:=match x with
 | .tuple vs=>match vs.toList[i]? with
  | some v=>K v
  | none=>False
 | _=>False
def bsD (P:Program) (t:TypeId) (len:Nat) (parts:List (Nat × Value)) (h:Hp) (K:Value->HP):Prop:=
 match P.underlying t with
 | some (.slice e)=>match P.info? e with
  | some i=>match i.zero with
   | some z=>match Nat.ble (len*i.size) 16777216,Nat.beq (len*i.size) 0,parts with
    | true,false,_=>match Instr.fill (λj=>some (j*i.size,i.size)) (madeCells z.cells (len*i.size)) parts with
     | some cells=>K (.slice (some ⟨h.size,0,none⟩) len len) (h.push (.cells cells e))
     | none=>False
    | true,true,[]=>K (.slice (some ⟨h.size,0,none⟩) len len) (h.push (.cells #[] e))
    | _,_,_=>False
   | none=>False
  | none=>False
 | _=>False
def gD (max:Bool):Value->List Value->(Value->Prop)->Prop
 | x,[],K=>K x
 | x,y::r,K=>mxD max x y λz=>gD max z r K
def biD (P:Program) (b:Builtin) (ts:List TypeId) (args:List Value) (h:Hp) (K Kp:Value->HP):Prop:=
 match b,ts,args with
 | .append,[t,t2],[s,x]=>apD P t t2 s x h K
 | .len,[t],[x]=>lnD P t x h λv=>K v h
 | .copy,t::_,[d,s]=>cpD P t d s h K
 | .clear,t::_,[x]=>clD P t x h K
 | .cap,t::_,[x]=>caD P t x λv=>K v h
 | .delete,t::_,[m,k]=>mdD P t m k h (K (.tuple #[]))
 | .max,_,x::r=>gD true x r λv=>K v h
 | .min,_,x::r=>gD false x r λv=>K v h
 | .panic,_,[.iface t v]=>Kp (.iface t v) h
 | _,_,_=>False
def aAE (P:Program) (C:CT) (ρ:Env) (c:Call) (h:Hp) (K Kp:Value->HP):Prop:=
 match c.callee with
 | .value f=>wV ρ f λfv=>match fv with
  | .func (.func g) first cap=>wL ρ c.args.toList λvs=>C g (first.toList++vs++cap.toList) K Kp h
  | _=>False
 | .builtin b=>wL ρ c.args.toList λvs=>biD P b c.argTypes.toList vs h K Kp
 | .invoke _ _=>False
def bO (P:Program) (C:CT) (ρ:Env) (o:Oper) (h:Hp) (K Kp:Value->HP) (Kd:Deferred->HP):Prop:=
 match o.op with
 | .move x=>wV ρ x λv=>K v h
 | .assign x=>wV ρ x λv=>K v h
 | .pick c a b=>wV ρ c λvc=>match vc with
  | .bool t=>bsel t (wV ρ a λv=>K v h) (wV ρ b λv=>K v h)
  | _=>False
 | .alloc t=>eB P t λz=>K (.pointer (some ⟨h.size,0,none⟩)) (h.push (.cells z.cells t))
 | .box t x=>wV ρ x λv=>K (.pointer (some ⟨h.size,0,none⟩)) (h.push (.cells v.cells t))
 | .build t ps=>wP ρ ps.toList λvs=>match P.built t vs with
  | some cells=>K (.agg cells) h
  | none=>False
 | .buildSlice t len ps=>wP ρ ps.toList λvs=>bsD P t len vs h K
 | .load t a=>wV ρ a λva=>jN va λad=>ldD P t ad h λv=>K v h
 | .store t a x=>wV ρ a λva=>jN va λad=>wV ρ x λv=>stD P t ad v h (K undef)
 | .nilCheck x=>wV ρ x λv=>wZ v λu=>K u h
 | .binOp op t x y _=>wV ρ x λvx=>wV ρ y λvy=>aAm P op t vx vy λv=>K v h
 | .unOp op _ x=>wV ρ x λv=>unD op v λu=>K u h
 | .convert s d x=>wV ρ x λv=>cvD P s d v λu=>K u h
 | .makeInterface t x=>u5 P t (wV ρ x λv=>K (.iface t v) h)
 | .makeFunc fn first cap=>wL ρ first.toList λa=>wL ρ cap.toList λb=>K (.func fn a.toArray b.toArray) h
 | .makeMap _ none=>K (.map (some h.size)) (h.push (.map #[] 0))
 | .makeSlice t l c=>wV ρ l λvl=>wV ρ c λvc=>mkD P t vl vc h K
 | .slice t x lo hi mx=>wV ρ x λv=>wO ρ lo λl=>wO ρ hi λi=>wO ρ mx λm=>aAs P t v l i m λu=>K u h
 | .fieldAddr s x f=>wV ρ x λv=>uM P s v f λu=>K u h
 | .field t x f=>wV ρ x λv=>fvD P t v f λu=>K u h
 | .indexAddr t x i=>wV ρ x λv=>wV ρ i λvi=>u6 P t v vi λu=>K u h
 | .index t x i=>wV ρ x λv=>wV ρ i λvi=>z8 P t v vi λu=>K u h
 | .lookup t m k ok=>wV ρ m λvm=>wV ρ k λvk=>lkD P t vm vk ok h λv=>K v h
 | .mapUpdate t m k x=>wV ρ m λvm=>wV ρ k λvk=>wV ρ x λv=>muD P t vm vk v h (K undef)
 | .insert t m k x=>wV ρ m λvm=>wV ρ k λvk=>wV ρ x λv=>muD P t vm vk v h (K undef)
 | .mapEntry t m k=>wV ρ m λvm=>wV ρ k λvk=>meD P t vm vk h K
 | .entryStore _ m s x=>wV ρ m λvm=>wV ρ s λvs=>wV ρ x λv=>esD vm vs v h (K undef)
 | .range t x=>wV ρ x λv=>rgD P t v h K
 | .next it false=>wV ρ it λv=>match P.underlying o.type with
  | some (.tuple ts)=>match ts.toList with
   | [_,kt,et]=>nxD P v (some kt) (some et) h K
   | []=>nxD P v none none h K
   | _=>False
  | _=>False
 | .entry it=>wV ρ it λv=>eyD v h λu=>K u h
 | .typeAssert x _ t ok=>wV ρ x λv=>taD P v t ok λu=>K u h
 | .extract t i=>wV ρ t λv=>aBq v i λu=>K u h
 | .call c=>aAE P C ρ c h K Kp
 | .defer c=>match c.callee with
  | .value f=>wV ρ f λfv=>match fv with
   | .func fn first cap=>wL ρ c.args.toList λvs=>Kd { target:=.fn fn cap,args:=first++vs.toArray } h
   | _=>False
  | _=>False
 | .panic x=>wV ρ x λv=>match v with
  | .iface t u=>Kp (.iface t u) h
  | _=>False
 | _=>False
def nD (dr:Bool) (C:CT) (K Kp:Value->HP) (Kd:Deferred->HP) (w:World):Result Next->Prop
 | .ok (.value v) w'=>K v w'.heap/\Kin dr w w'
 | .ok .skip w'=>K undef w'.heap/\Kin dr w w'
 | .ok (.enter f args) w'=>C f args.toList K Kp w'.heap/\Kin dr w w'
 | .ok (.defer d) w'=>Kd d w'.heap/\Kin dr w w'
 | .halt (.panic v) w'=>Kp v w'.heap/\Kin dr w w'
 | _=>False
def aJe:Builtin->Bool | .len | .max | .min=>true | _=>false
def nZ:Op->Bool
 | .move _ | .assign _ | .pick _ _ _ | .build _ _ | .load _ _ | .nilCheck _ | .binOp _ _ _ _ _ | .unOp _ _ _ | .convert _ _ _ | .makeInterface _ _ | .makeFunc _ _ _
 | .slice _ _ _ _ _ | .fieldAddr _ _ _ | .field _ _ _ | .indexAddr _ _ _ | .index _ _ _ | .lookup _ _ _ _ | .typeAssert _ _ _ _ | .extract _ _=>true
 | .call c=>match c.callee with | .builtin b=>aJe b | _=>false
 | _=>false
def Ent (P:Program) (f:FuncId):Prop:=∀ (as:Array Value) (w:World),(callFunc f as).run P w = .ok (.enter f as) w
def Enters (P:Program) (C:CT):Prop:=∀ f args K Kp (w:World),C f args K Kp w.heap->Ent P f\/∃ v,(callFunc f args.toArray).run P w = .ok (.value v) w/\K v w.heap
def CE (P:Program) (C:CT):CT:=λf args K Kp h=>C f args K Kp h/\Ent P f
section
variable {P:Program} {dr:Bool} {C:CT} {K Kp:Value->HP} {Kd:Deferred->HP} {w:World}
theorem resOK_v {s:Sem Value} (h:bZ P dr s K w.heap):nD dr C K Kp Kd w (((do pure (.value (<- s))):Sem Next).run P w):=by
 obtain ⟨v,w',hr,hk,hn⟩:=h w rfl;simp only [Sem.run_bind,hr,Result.andThen_ok,Sem.run_pure];exact ⟨hk,hn⟩
theorem resOK_u {s:Sem Unit} (h:bZ P dr s (λ_=>K undef) w.heap):nD dr C K Kp Kd w (((do s;pure .skip):Sem Next).run P w):=by
 obtain ⟨v,w',hr,hk,hn⟩:=h w rfl;simp only [Sem.run_bind,hr,Result.andThen_ok,Sem.run_pure];exact ⟨hk,hn⟩
theorem resOK_pure {v:Value} (h:K v w.heap):nD dr C K Kp Kd w ((pure (.value v):Sem Next).run P w):=⟨h,Kin.refl dr w⟩
theorem aJQ {h:Hp} {t:TypeId} {len:Nat} {ps:Array (Nat × Value)} (hh:bsD P t len ps.toList h K):bZ P dr (Instr.buildSlice t len ps) K h:=by
 unfold bsD at hh;split at hh
 ·rename_i e hu;split at hh
  ·rename_i i hi;split at hh
   ·rename_i z hz;split at hh
    ·rename_i h1 h2;have h1:=Nat.le_of_ble_eq_true h1;have h2:¬ len*i.size=0:=λe=>by rw [e] at h2;simp at h2
     split at hh
     ·rename_i cells hc;intro w hw;subst hw;exact ⟨_,w.alloc _,run_buildSlice w t e len ps cells i z hu hi hz (by omega) h2 hc,hh,⟨rfl,rfl,rfl,λ_=>rfl⟩⟩
     ·exact hh.elim
    ·rename_i h1 h2 hp;have h2:=Nat.eq_of_beq_eq_true h2;have hp:ps = #[]:=by apply Array.ext';exact hp
     subst hp;intro w hw;subst hw;refine ⟨_,w.alloc (.cells #[] e),?_,hh,⟨rfl,rfl,rfl,λ_=>rfl⟩⟩;simp [Instr.buildSlice,run_underlying hu,sizeOf,typeInfo,hi,h2,newRow,Instr.fill,Array.range_zero']
    ·exact hh.elim
   ·exact hh.elim
  ·exact hh.elim
 ·exact hh.elim
theorem mE {h:Hp} (mx:Bool):∀ (l:List Value) (x:Value) (K:Value->HP),gD mx x l (λv=>K v h)->
  bZ P dr (l.foldlM (if mx then Builtin.max2 else Builtin.min2) x) K h
 | [],x,K,hh=>aR hh
 | y::r,x,K,hh=>by
  simp only [gD,mxD] at hh;split at hh
  ·rename_i k a k' b;cases mx
   ·exact aK (aL (λw=>by simp [Builtin.min2]) (mE false r _ K hh))
   ·exact aK (aL (λw=>by simp [Builtin.max2]) (mE true r _ K hh))
  ·exact hh.elim
theorem aKR {b:Builtin} {ts:Array TypeId} {ty:TypeId} {cs:Array Bool} {args:Array Value} (hq:dr=true->aJe b=true) (hh:biD P b ts.toList args.toList w.heap K Kp) :
  nD dr C K Kp Kd w ((builtin b ts ty cs args).run P w):=by
 have arr:∀ (xs:Array Value) (l:List Value),xs.toList=l->xs=l.toArray:=λxs l h=>by rw [<-h]
 unfold biD at hh;split at hh
 ·rename_i t t2 s x e1 e2;have e1:ts = #[t,t2]:=by rw [<-Array.toArray_toList (xs:=ts),e1]
  have e2:=arr _ _ e2;subst e1 e2;cases dr with
  | true=>cases hq rfl
  | false=>exact resOK_v (aJZ hh)
 ·rename_i t x e1 e2;have e1:ts = #[t]:=by rw [<-Array.toArray_toList (xs:=ts),e1]
  have e2:=arr _ _ e2;subst e1 e2;exact resOK_v (aKI rfl hh)
 ·rename_i t r d s e1 e2;have e2:=arr _ _ e2;subst e2;exact resOK_v (aJP (by rw [<-Array.toArray_toList (xs:=ts),e1];simp) hh)
 ·rename_i t r x e1 e2;have e2:=arr _ _ e2;subst e2;exact resOK_v (aK8 (by rw [<-Array.toArray_toList (xs:=ts),e1];simp) hh)
 ·rename_i t r x e1 e2;have e2:=arr _ _ e2;subst e2;exact resOK_v (aJR (by rw [<-Array.toArray_toList (xs:=ts),e1];simp) hh)
 ·rename_i t r d s e1 e2;have e2:=arr _ _ e2;subst e2;exact resOK_v (aJ2 (by rw [<-Array.toArray_toList (xs:=ts),e1];simp) hh)
 ·rename_i x r e2;have e2:=arr _ _ e2;subst e2;exact resOK_v (mE true r x K hh)
 ·rename_i x r e2;have e2:=arr _ _ e2;subst e2;exact resOK_v (mE false r x K hh)
 ·rename_i t v e2;have e2:=arr _ _ e2;subst e2;exact ⟨hh,Kin.refl dr w⟩
 ·exact hh.elim
theorem wR {ρ:Env} {f:Operand->Value} {o:Oper} (hq:dr=true->nZ o.op=true) (hE:Enters P C) (hr:ReE ρ f) (hh:bO P C ρ o w.heap K Kp Kd):nD dr (CE P C) K Kp Kd w ((execOp f o).run P w):=by
 obtain ⟨dst,op,ty,pos,after,guard⟩:=o;unfold bO at hh;unfold execOp
 dsimp only at hh hq ⊢
 cases op<;>dsimp only at hh ⊢<;>try exact hh.elim
 case move x=>exact resOK_pure (wV_mp hr hh)
 case assign x=>exact resOK_pure (wV_mp hr hh)
 case pick c a b=>
  have h1:=wV_mp hr hh;split at h1
  ·rename_i t ht;rw [ht];refine resOK_v (s:=do pure (if <- asBool (.bool t) then f a else f b)) ?_;refine aK (aR ?_);cases t
   ·exact aR (wV_mp hr (cX.1 h1 |>.2 rfl))
   ·exact aR (wV_mp hr (cX.1 h1 |>.1 rfl))
  ·exact h1.elim
 case alloc t=>
  obtain ⟨i,z,hi,hz,hk⟩:=mA hh;refine resOK_v ?_;unfold Instr.alloc;refine aK (aL (v:=z) (λw=>by simp [zeroValue,typeInfo,hi,hz]) ?_);exact hP (hP (qJ hk))
 case box t x=>
  refine resOK_v ?_;unfold Instr.box;exact hP (hP (qJ (wV_mp hr hh)))
 case build t ps=>
  have h1:=aF1 hr _ _ hh;split at h1
  ·rename_i cells hc;exact resOK_v (aL (λw=>run_build w t _ cells (by simpa using hc)) h1)
  ·exact h1.elim
 case buildSlice t len ps=>
  have h1:=aF1 hr _ _ hh;exact resOK_v (aJQ (by simpa using h1))
 case load t a=>
  obtain ⟨ad,ha,h1⟩:=mF (wV_mp hr hh);rw [ha];exact resOK_v (aGR h1)
 case store t a x=>
  obtain ⟨ad,ha,h1⟩:=mF (wV_mp hr hh);rw [ha];exact resOK_u (aJ7 (K:=λ_=>K undef) (wV_mp hr h1))
 case nilCheck x=>
  have h1:=wV_mp hr hh;unfold wZ at h1;split at h1
  ·rename_i p hp;obtain ⟨a,rfl,hk⟩:=mR h1;rw [hp];exact resOK_pure hk
  ·rename_i g a b hp;rw [hp];exact resOK_pure h1
  ·exact h1.elim
 case binOp op t x y _=>exact resOK_v (binD_ok (wV_mp hr (wV_mp hr hh)))
 case unOp op _ x=>
  have h1:=wV_mp hr hh;unfold unD at h1;split at h1
  ·rename_i k n hx;rw [hx];exact resOK_v (aL (λw=>by simp [Op.unary,Op.intArith]) h1)
  ·rename_i k n hx;rw [hx];exact resOK_v (aL (λw=>by simp [Op.unary,Op.intBits,bits]) h1)
  ·rename_i b hx;rw [hx];exact resOK_v (aL (λw=>by simp [Op.unary]) h1)
  ·exact h1.elim
 case convert s d x=>
  have h1:=wV_mp hr hh;unfold cvD at h1;split at h1
  ·rename_i ds k k' n hs hd hx;rw [hx];exact resOK_v (aL (λw=>by simp [convert,run_underlying hs,run_underlying hd,Conv.intToInt]) h1)
  ·exact h1.elim
 case makeInterface t x=>
  unfold u5 at hh;split at hh
  ·rename_i hc;exact resOK_v (aL (λw=>run_makeInterface w t _ hc) (wV_mp hr hh))
  ·exact hh.elim
 case makeFunc fn a b=>
  have h1:=yO hr _ _ (yO hr _ _ hh);have e1:∀ x:Array Operand,(x.toList.map f).toArray=x.map f:=λx=>by apply Array.ext';simp
  rw [e1,e1] at h1;exact resOK_v (aL (v:=.func fn (a.map f) (b.map f)) (λw=>rfl) h1)
 case makeMap t r=>
  cases r with
  | none=>exact resOK_v (aGD hh)
  | some r=>exact hh.elim
 case makeSlice t l c=>exact resOK_v (mkD_ok (wV_mp hr (wV_mp hr hh)))
 case slice t x lo hi mx=>exact resOK_v (slcD_ok (wO_mp hr (wO_mp hr (wO_mp hr (wV_mp hr hh)))))
 case fieldAddr s x g=>exact resOK_v (fldD_ok (wV_mp hr hh))
 case field t x g=>exact resOK_v (fvD_ok (wV_mp hr hh))
 case indexAddr t x i=>exact resOK_v (ixaD_ok (wV_mp hr (wV_mp hr hh)))
 case index t x i=>exact resOK_v (idxD_ok (wV_mp hr (wV_mp hr hh)))
 case lookup t m k ok=>exact resOK_v (lkD_ok (wV_mp hr (wV_mp hr hh)))
 case mapUpdate t m k x=>exact resOK_u (muD_ok (K:=λ_=>K undef) (wV_mp hr (wV_mp hr (wV_mp hr hh))))
 case insert t m k x=>exact resOK_u (muD_ok (K:=λ_=>K undef) (wV_mp hr (wV_mp hr (wV_mp hr hh))))
 case mapEntry t m k=>exact resOK_v (meD_ok (wV_mp hr (wV_mp hr hh)))
 case entryStore t m s x=>exact resOK_u (esD_ok (K:=λ_=>K undef) (wV_mp hr (wV_mp hr (wV_mp hr hh))))
 case range t x=>exact resOK_v (rgD_ok (wV_mp hr hh))
 case next it b=>
  cases b with
  | true=>exact hh.elim
  | false=>
   have h1:=wV_mp hr hh;split at h1
   ·split at h1
    ·cases dr with
     | true=>cases hq rfl
     | false=>exact resOK_v (aHr h1)
    ·cases dr with
     | true=>cases hq rfl
     | false=>exact resOK_v (aHr h1)
    ·exact h1.elim
   ·exact h1.elim
 case entry it=>exact resOK_v (eyD_ok (wV_mp hr hh))
 case typeAssert x _ t ok=>
  have h1:=wV_mp hr hh;unfold taD at h1;split at h1
  ·rename_i hc hx;obtain ⟨i,z,hi,hz,hk⟩:=mA h1;rw [hx];refine resOK_v (aL (λw=>?_) hk);unfold Program.concrete at hc;cases hu:P.underlying t with
   | none=>simp [hu] at hc
   | some d=>cases d<;>first | (simp [hu] at hc;done) | simp [Instr.typeAssert,run_underlying hu,zeroValue,typeInfo,hi,hz]
  ·rename_i t' v hc hx;rw [hx];unfold Program.concrete at hc;split at h1
   ·rename_i hb;have hb:=Nat.eq_of_beq_eq_true hb;subst hb;refine resOK_v (aL (λw=>?_) h1);cases hu:P.underlying t' with
    | none=>simp [hu] at hc
    | some d=>cases d<;>first | (simp [hu] at hc;done) | simp [Instr.typeAssert,run_underlying hu]
   ·rename_i hb;have hb:t'≠t:=λe=>by rw [e] at hb;simp at hb
    obtain ⟨i,z,hi,hz,hk⟩:=mA h1;refine resOK_v (aL (λw=>?_) hk);cases hu:P.underlying t with
    | none=>simp [hu] at hc
    | some d=>cases d<;>first | (simp [hu] at hc;done) | simp [Instr.typeAssert,run_underlying hu,hb,zeroValue,typeInfo,hi,hz]
  ·exact h1.elim
 case extract t i=>
  have h1:=wV_mp hr hh;unfold aBq at h1;split at h1
  ·rename_i vs hx;rw [hx];split at h1
   ·rename_i v hv;exact resOK_v (aL (λw=>by simp [Instr.extract,show vs[i]? = some v by simpa using hv]) h1)
   ·exact h1.elim
  ·exact h1.elim
 case call c=>
  unfold aAE at hh;obtain ⟨callee,args,ats⟩:=c;cases callee with
  | value fo=>
   have h1:=wV_mp hr hh;split at h1
   ·rename_i g first cap hx
    have h2:=yO hr _ _ h1;rcases hE _ _ _ _ w h2 with he | ⟨v,he,hv⟩
    ·have he':=he (first++args.map f++cap) w
     have hrun:(do let d <- resolve f { callee:=.value fo,args:=args,argTypes:=ats } ty;invoke d.target d.args:Sem Next).run P w = .ok (.enter g (first++args.map f++cap)) w:=by
      simp only [resolve,hx,Deferred.ofValue,Sem.run_bind,Sem.run_pure,Result.andThen_ok,invoke,he']
     rw [hrun];exact ⟨⟨by simpa using h2,he⟩,Kin.refl dr w⟩
    ·have e1:(first.toList++args.toList.map f++cap.toList).toArray=first++args.map f++cap:=by apply Array.ext';simp
     rw [e1] at he
     have hrun:(do let d <- resolve f { callee:=.value fo,args:=args,argTypes:=ats } ty;invoke d.target d.args:Sem Next).run P w = .ok (.value v) w:=by
      simp only [resolve,hx,Deferred.ofValue,Sem.run_bind,Sem.run_pure,Result.andThen_ok,invoke,he]
     rw [hrun];exact ⟨hv,Kin.refl dr w⟩
   ·exact h1.elim
  | invoke r n=>exact hh.elim
  | builtin b=>
   have h2:=yO hr _ _ hh;simp only [resolve,Sem.run_bind,Sem.run_pure,Result.andThen_ok,invoke];exact aKR hq (by simpa using h2)
 case defer c=>
  obtain ⟨callee,args,ats⟩:=c;cases callee with
  | value fo=>
   have h1:=wV_mp hr hh;split at h1
   ·rename_i fn first cap hx
    have h2:=yO hr _ _ h1;simp only [resolve,hx,Deferred.ofValue,Sem.run_bind,Sem.run_pure,Result.andThen_ok];have e1:∀ x:Array Operand,(x.toList.map f).toArray=x.map f:=λx=>by apply Array.ext';simp
    rw [e1] at h2;exact ⟨h2,Kin.refl dr w⟩
   ·exact h1.elim
  | invoke r n=>exact hh.elim
  | builtin b=>exact hh.elim
 case panic x=>
  have h1:=wV_mp hr hh;split at h1
  ·rename_i t u hx;rw [hx];exact ⟨h1,Kin.refl dr w⟩
  ·exact h1.elim
end
end Go.Dn
