/- Each operation of a region. -/
import Derived.Test.YtfnkdpmbpgffbaaGreatDnF
import Derived.Laws.Build
namespace Go.Dn
abbrev Env:=List (Nat × Value)
def look:Env->Nat->Option Value
 | [],_=>none
 | (d,v)::r,t=>match Nat.beq d t with
  | true=>some v
  | false=>look r t
def evO (ρ:Env):Operand->Option Value
 | .tmp t=>look ρ t
 | .const v=>some v
 | .global g=>some (.pointer (some ⟨g,0,none⟩))
 | .func f=>some (.func (.func f) #[] #[])
def wV (ρ:Env) (x:Operand) (K:Value->Prop):Prop:=match evO ρ x with | some v=>K v | none=>False
def wL (ρ:Env):List Operand->(List Value->Prop)->Prop
 | [],K=>K []
 | x::r,K=>wV ρ x λv=>wL ρ r λvs=>K (v::vs)
def wP (ρ:Env):List (Nat × Operand)->(List (Nat × Value)->Prop)->Prop
 | [],K=>K []
 | (i,x)::r,K=>wV ρ x λv=>wP ρ r λvs=>K ((i,v)::vs)
def wO (ρ:Env) (x:Option Operand) (K:Option Value->Prop):Prop:=match x with | some x=>wV ρ x λv=>K (some v) | none=>K none
def ReE (ρ:Env) (f:Operand->Value):Prop:=∀ x v,evO ρ x=some v->f x=v
section
variable {ρ:Env} {f:Operand->Value}
theorem wV_mp (a:ReE ρ f) {x:Operand} {K:Value->Prop} (h:wV ρ x K):K (f x):=by
 unfold wV at h;split at h
 .rename_i v b;rw [a x v b];exact h
 .exact h.elim
theorem aAi (a:ReE ρ f):∀ (l:List Operand) (K:List Value->Prop),wL ρ l K->K (l.map f)
 | [],_,h=>h
 | x::r,K,h=>by have:=aAi a r _ (wV_mp a h);exact this
theorem aHE (a:ReE ρ f):∀ (l:List (Nat × Operand)) (K:List (Nat × Value)->Prop),wP ρ l K->K (l.map λp=>(p.1,f p.2))
 | [],_,h=>h
 | (i,x)::r,K,h=>by have:=aHE a r _ (wV_mp a h);exact this
theorem wO_mp (a:ReE ρ f) {x:Option Operand} {K:Option Value->Prop} (h:wO ρ x K):K (x.map f):=by
 cases x with
 | none=>exact h
 | some x=>exact wV_mp a h
end
abbrev CT:=FuncId->List Value->(Value->HP)->(Value->HP)->HP
def zC (v:Value) (K:Value->Prop):Prop:=match v with
 | .pointer p=>aF p λa=>K (.pointer (some a))
 | .func (.func f) a b=>K (.func (.func f) a b)
 | _=>False
def unD (op:UnOp) (x:Value) (K:Value->Prop):Prop:=match op,x with
 | .neg,.int k n=>K (.int k (k.wrap (0-n)))
 | .xor,.int k n=>K (.int k (bits .xor k (if k.signed then -1 else k.max) n))
 | .not,.bool b=>K (.bool (!b))
 | _,_=>False
def cvD (P:Program) (s d:TypeId) (x:Value) (K:Value->Prop):Prop:=match P.underlying s,P.underlying d,x with
 | some _,some (.int k),.int _ n=>K (.int k (k.wrap n))
 | _,_,_=>False
def yD (P:Program) (t:TypeId) (K:Prop):Prop:=match P.concrete t with | true=>K | false=>False
def taD (P:Program) (x:Value) (asserted:TypeId) (ok:Bool) (K:Value->Prop):Prop:=
 match P.concrete asserted,ok,x with
 | true,true,.nilIface=>eH P asserted λz=>K (.tuple #[z,.bool false])
 | true,true,.iface t v=>match Nat.beq t asserted with
  | true=>K (.tuple #[v,.bool true])
  | false=>eH P asserted λz=>K (.tuple #[z,.bool false])
 | _,_,_=>False
def aCW (x:Value) (i:Nat) (K:Value->Prop):Prop:=match x with
 | .tuple vs=>match vs.toList[i]? with
  | some v=>K v
  | none=>False
 | _=>False
def bsD (P:Program) (t:TypeId) (len:Nat) (parts:List (Nat × Value)) (h:Hp) (K:Value->HP):Prop:=
 match P.underlying t with
 | some (.slice e)=>match P.info? e with
  | some i=>match i.zero with
   | some z=>match Nat.ble (len*i.size) 16777216,Nat.beq (len*i.size) 0,parts with
    | true,false,_=>match Instr.fill (λj=>some (j*i.size,i.size)) (madeCells z.cells (len*i.size)) parts with
     | some cells=>K (.slice (some ⟨h.size,0,none⟩) len len) (h.push (.cells cells e))
     | none=>False
    | true,true,[]=>K (.slice (some ⟨h.size,0,none⟩) len len) (h.push (.cells #[] e))
    | _,_,_=>False
   | none=>False
  | none=>False
 | _=>False
def gV (max:Bool):Value->List Value->(Value->Prop)->Prop
 | x,[],K=>K x
 | x,y::r,K=>mxD max x y λz=>gV max z r K
def biD (P:Program) (b:Builtin) (ts:List TypeId) (args:List Value) (h:Hp) (K Kp:Value->HP):Prop:=
 match b,ts,args with
 | .append,[t,t2],[s,x]=>apD P t t2 s x h K
 | .len,[t],[x]=>lnD P t x h λv=>K v h
 | .copy,t::_,[d,s]=>cpD P t d s h K
 | .clear,t::_,[x]=>clD P t x h K
 | .cap,t::_,[x]=>caD P t x λv=>K v h
 | .delete,t::_,[m,k]=>mdD P t m k h (K (.tuple #[]))
 | .max,_,x::r=>gV true x r λv=>K v h
 | .min,_,x::r=>gV false x r λv=>K v h
 | .panic,_,[.iface t v]=>Kp (.iface t v) h
 | _,_,_=>False
def aCz (P:Program) (C:CT) (ρ:Env) (c:Call) (h:Hp) (K Kp:Value->HP):Prop:=
 match c.callee with
 | .value f=>wV ρ f λfv=>match fv with
  | .func (.func g) first cap=>wL ρ c.args.toList λvs=>C g (first.toList++vs++cap.toList) K Kp h
  | _=>False
 | .builtin b=>wL ρ c.args.toList λvs=>biD P b c.argTypes.toList vs h K Kp
 | .invoke _ _=>False
def bT (P:Program) (C:CT) (ρ:Env) (o:Oper) (h:Hp) (K Kp:Value->HP) (Kd:Deferred->HP):Prop:=
 match o.op with
 | .move x=>wV ρ x λv=>K v h
 | .assign x=>wV ρ x λv=>K v h
 | .pick c a b=>wV ρ c λvc=>match vc with
  | .bool t=>bsel t (wV ρ a λv=>K v h) (wV ρ b λv=>K v h)
  | _=>False
 | .alloc t=>eH P t λz=>K (.pointer (some ⟨h.size,0,none⟩)) (h.push (.cells z.cells t))
 | .box t x=>wV ρ x λv=>K (.pointer (some ⟨h.size,0,none⟩)) (h.push (.cells v.cells t))
 | .build t ps=>wP ρ ps.toList λvs=>match P.built t vs with
  | some cells=>K (.agg cells) h
  | none=>False
 | .buildSlice t len ps=>wP ρ ps.toList λvs=>bsD P t len vs h K
 | .load t a=>wV ρ a λva=>kV va λad=>ldD P t ad h λv=>K v h
 | .store t a x=>wV ρ a λva=>kV va λad=>wV ρ x λv=>stD P t ad v h (K undef)
 | .nilCheck x=>wV ρ x λv=>zC v λu=>K u h
 | .binOp op t x y _=>wV ρ x λvx=>wV ρ y λvy=>aAY P op t vx vy λv=>K v h
 | .unOp op _ x=>wV ρ x λv=>unD op v λu=>K u h
 | .convert s d x=>wV ρ x λv=>cvD P s d v λu=>K u h
 | .makeInterface t x=>yD P t (wV ρ x λv=>K (.iface t v) h)
 | .makeFunc fn first cap=>wL ρ first.toList λa=>wL ρ cap.toList λb=>K (.func fn a.toArray b.toArray) h
 | .makeMap _ none=>K (.map (some h.size)) (h.push (.map #[] 0))
 | .makeSlice t l c=>wV ρ l λvl=>wV ρ c λvc=>mkD P t vl vc h K
 | .slice t x lo hi mx=>wV ρ x λv=>wO ρ lo λl=>wO ρ hi λi=>wO ρ mx λm=>aBq P t v l i m λu=>K u h
 | .fieldAddr s x f=>wV ρ x λv=>wW P s v f λu=>K u h
 | .field t x f=>wV ρ x λv=>fvD P t v f λu=>K u h
 | .indexAddr t x i=>wV ρ x λv=>wV ρ i λvi=>xY P t v vi λu=>K u h
 | .index t x i=>wV ρ x λv=>wV ρ i λvi=>aAL P t v vi λu=>K u h
 | .lookup t m k ok=>wV ρ m λvm=>wV ρ k λvk=>lkD P t vm vk ok h λv=>K v h
 | .mapUpdate t m k x=>wV ρ m λvm=>wV ρ k λvk=>wV ρ x λv=>muD P t vm vk v h (K undef)
 | .insert t m k x=>wV ρ m λvm=>wV ρ k λvk=>wV ρ x λv=>muD P t vm vk v h (K undef)
 | .mapEntry t m k=>wV ρ m λvm=>wV ρ k λvk=>meD P t vm vk h K
 | .entryStore _ m s x=>wV ρ m λvm=>wV ρ s λvs=>wV ρ x λv=>esD vm vs v h (K undef)
 | .range t x=>wV ρ x λv=>rgD P t v h K
 | .next it false=>wV ρ it λv=>match P.underlying o.type with
  | some (.tuple ts)=>match ts.toList with
   | [_,kt,et]=>nxD P v (some kt) (some et) h K
   | []=>nxD P v none none h K
   | _=>False
  | _=>False
 | .entry it=>wV ρ it λv=>eyD v h λu=>K u h
 | .typeAssert x _ t ok=>wV ρ x λv=>taD P v t ok λu=>K u h
 | .extract t i=>wV ρ t λv=>aCW v i λu=>K u h
 | .call c=>aCz P C ρ c h K Kp
 | .defer c=>match c.callee with
  | .value f=>wV ρ f λfv=>match fv with
   | .func fn first cap=>wL ρ c.args.toList λvs=>Kd { target:=.fn fn cap,args:=first++vs.toArray } h
   | _=>False
  | _=>False
 | .panic x=>wV ρ x λv=>match v with
  | .iface t u=>Kp (.iface t u) h
  | _=>False
 | _=>False
def oV (dr:Bool) (C:CT) (K Kp:Value->HP) (Kd:Deferred->HP) (w:World):Result Next->Prop
 | .ok (.value v) w'=>K v w'.heap/\Kin dr w w'
 | .ok .skip w'=>K undef w'.heap/\Kin dr w w'
 | .ok (.enter f args) w'=>C f args.toList K Kp w'.heap/\Kin dr w w'
 | .ok (.defer d) w'=>Kd d w'.heap/\Kin dr w w'
 | .halt (.panic v) w'=>Kp v w'.heap/\Kin dr w w'
 | _=>False
def aKv:Builtin->Bool | .len | .max | .min=>true | _=>false
def qF:Op->Bool
 | .move _ | .assign _ | .pick _ _ _ | .build _ _ | .load _ _ | .nilCheck _ | .binOp _ _ _ _ _ | .unOp _ _ _ | .convert _ _ _ | .makeInterface _ _ | .makeFunc _ _ _
 | .slice _ _ _ _ _ | .fieldAddr _ _ _ | .field _ _ _ | .indexAddr _ _ _ | .index _ _ _ | .lookup _ _ _ _ | .typeAssert _ _ _ _ | .extract _ _=>true
 | .call c=>match c.callee with | .builtin b=>aKv b | _=>false
 | _=>false
def Ent (P:Program) (f:FuncId):Prop:=∀ (as:Array Value) (w:World),(callFunc f as).run P w = .ok (.enter f as) w
def Enters (P:Program) (C:CT):Prop:=∀ f args K Kp (w:World),C f args K Kp w.heap->Ent P f\/∃ v,(callFunc f args.toArray).run P w = .ok (.value v) w/\K v w.heap
def CE (P:Program) (C:CT):CT:=λf args K Kp h=>C f args K Kp h/\Ent P f
section
variable {P:Program} {dr:Bool} {C:CT} {K Kp:Value->HP} {Kd:Deferred->HP} {w:World}
theorem resOK_v {s:Sem Value} (h:cF P dr s K w.heap):oV dr C K Kp Kd w (((do pure (.value (<- s))):Sem Next).run P w):=by
 obtain ⟨v,w',a,b,c⟩:=h w rfl;simp only [Sem.run_bind,a,Result.andThen_ok,Sem.run_pure];exact ⟨b,c⟩
theorem resOK_u {s:Sem Unit} (h:cF P dr s (λ_=>K undef) w.heap):oV dr C K Kp Kd w (((do s;pure .skip):Sem Next).run P w):=by
 obtain ⟨v,w',a,b,c⟩:=h w rfl;simp only [Sem.run_bind,a,Result.andThen_ok,Sem.run_pure];exact ⟨b,c⟩
theorem resOK_pure {v:Value} (h:K v w.heap):oV dr C K Kp Kd w ((pure (.value v):Sem Next).run P w):=⟨h,Kin.refl dr w⟩
theorem aKY {h:Hp} {t:TypeId} {len:Nat} {ps:Array (Nat × Value)} (a:bsD P t len ps.toList h K):cF P dr (Instr.buildSlice t len ps) K h:=by
 unfold bsD at a;split at a
 .rename_i e j;split at a
  .rename_i i hi;split at a
   .rename_i z k;split at a
    .rename_i c b;have c:=Nat.le_of_ble_eq_true c;have b:¬ len*i.size=0:=λe=>by rw [e] at b;simp at b
     split at a
     .rename_i cells l;intro w d;subst d;exact ⟨_,w.alloc _,run_buildSlice w t e len ps cells i z j hi k (by omega) b l,a,⟨rfl,rfl,rfl,λ_=>rfl⟩⟩
     .exact a.elim
    .rename_i c b g;have b:=Nat.eq_of_beq_eq_true b;have g:ps = #[]:=by apply Array.ext';exact g
     subst g;intro w d;subst d;refine ⟨_,w.alloc (.cells #[] e),?_,a,⟨rfl,rfl,rfl,λ_=>rfl⟩⟩;simp [Instr.buildSlice,run_underlying j,sizeOf,typeInfo,hi,b,newRow,Instr.fill,Array.range_zero']
    .exact a.elim
   .exact a.elim
  .exact a.elim
 .exact a.elim
theorem oR {h:Hp} (c:Bool):∀ (l:List Value) (x:Value) (K:Value->HP),gV c x l (λv=>K v h)->
  cF P dr (l.foldlM (if c then Builtin.max2 else Builtin.min2) x) K h
 | [],x,K,hh=>aQ hh
 | y::r,x,K,hh=>by
  simp only [gV,mxD] at hh;split at hh
  .rename_i k a k' b;cases c
   .exact aH (aK (λw=>by simp [Builtin.min2]) (oR false r _ K hh))
   .exact aH (aK (λw=>by simp [Builtin.max2]) (oR true r _ K hh))
  .exact hh.elim
theorem aKZ {b:Builtin} {g:Array TypeId} {ty:TypeId} {cs:Array Bool} {args:Array Value} (i:dr=true->aKv b=true) (e:biD P b g.toList args.toList w.heap K Kp) :
  oV dr C K Kp Kd w ((builtin b g ty cs args).run P w):=by
 have c:∀ (xs:Array Value) (l:List Value),xs.toList=l->xs=l.toArray:=λxs l h=>by rw [<-h]
 unfold biD at e;split at e
 .rename_i t t2 s x e1 a;have e1:g = #[t,t2]:=by rw [<-Array.toArray_toList (xs:=g),e1]
  have a:=c _ _ a;subst e1 a;cases dr with
  | true=>cases i rfl
  | false=>exact resOK_v (aK0 e)
 .rename_i t x e1 a;have e1:g = #[t]:=by rw [<-Array.toArray_toList (xs:=g),e1]
  have a:=c _ _ a;subst e1 a;exact resOK_v (aLQ rfl e)
 .rename_i t r d s e1 a;have a:=c _ _ a;subst a;exact resOK_v (aK1 (by rw [<-Array.toArray_toList (xs:=g),e1];simp) e)
 .rename_i t r x e1 a;have a:=c _ _ a;subst a;exact resOK_v (aLj (by rw [<-Array.toArray_toList (xs:=g),e1];simp) e)
 .rename_i t r x e1 a;have a:=c _ _ a;subst a;exact resOK_v (aLv (by rw [<-Array.toArray_toList (xs:=g),e1];simp) e)
 .rename_i t r d s e1 a;have a:=c _ _ a;subst a;exact resOK_v (aMd (by rw [<-Array.toArray_toList (xs:=g),e1];simp) e)
 .rename_i x r a;have a:=c _ _ a;subst a;exact resOK_v (oR true r x K e)
 .rename_i x r a;have a:=c _ _ a;subst a;exact resOK_v (oR false r x K e)
 .rename_i t v a;have a:=c _ _ a;subst a;exact ⟨e,Kin.refl dr w⟩
 .exact e.elim
theorem xP {ρ:Env} {f:Operand->Value} {o:Oper} (M:dr=true->qF o.op=true) (V:Enters P C) (j:ReE ρ f) (q:bT P C ρ o w.heap K Kp Kd):oV dr (CE P C) K Kp Kd w ((execOp f o).run P w):=by
 obtain ⟨W,N,ty,pos,O,guard⟩:=o;unfold bT at q;unfold execOp
 dsimp only at q M ⊢
 cases N<;>dsimp only at q ⊢<;>try exact q.elim
 case move x=>exact resOK_pure (wV_mp j q)
 case assign x=>exact resOK_pure (wV_mp j q)
 case pick c a b=>
  have h:=wV_mp j q;split at h
  .rename_i t X;rw [X];refine resOK_v (s:=do pure (if <- asBool (.bool t) then f a else f b)) ?_;refine aH (aQ ?_);cases t
   .exact aQ (wV_mp j (dA.1 h |>.2 rfl))
   .exact aQ (wV_mp j (dA.1 h |>.1 rfl))
  .exact h.elim
 case alloc t=>
  obtain ⟨i,z,hi,J,G⟩:=nB q;refine resOK_v ?_;unfold Instr.alloc;refine aH (aK (v:=z) (λw=>by simp [zeroValue,typeInfo,hi,J]) ?_);exact iL (iL (sF G))
 case box t x=>
  refine resOK_v ?_;unfold Instr.box;exact iL (iL (sF (wV_mp j q)))
 case build t ps=>
  have h:=aHE j _ _ q;split at h
  .rename_i cells B;exact resOK_v (aK (λw=>run_build w t _ cells (by simp_all)) h)
  .exact h.elim
 case buildSlice t len ps=>
  have h:=aHE j _ _ q;exact resOK_v (aKY (by simp_all))
 case load t a=>
  obtain ⟨ad,Q,h⟩:=oP (wV_mp j q);rw [Q];exact resOK_v (aHD h)
 case store t a x=>
  obtain ⟨ad,Q,h⟩:=oP (wV_mp j q);rw [Q];exact resOK_u (aL1 (K:=λ_=>K undef) (wV_mp j h))
 case nilCheck x=>
  have h:=wV_mp j q;unfold zC at h;split at h
  .rename_i p R;obtain ⟨a,rfl,G⟩:=oB h;rw [R];exact resOK_pure G
  .rename_i g a b R;rw [R];exact resOK_pure h
  .exact h.elim
 case binOp N t x y _=>exact resOK_v (binD_ok (wV_mp j (wV_mp j q)))
 case unOp N _ x=>
  have h:=wV_mp j q;unfold unD at h;split at h
  .rename_i k n A;rw [A];exact resOK_v (aK (λw=>by simp [Op.unary,Op.intArith]) h)
  .rename_i k n A;rw [A];exact resOK_v (aK (λw=>by simp [Op.unary,Op.intBits,bits]) h)
  .rename_i b A;rw [A];exact resOK_v (aK (λw=>by simp [Op.unary]) h)
  .exact h.elim
 case convert s d x=>
  have h:=wV_mp j q;unfold cvD at h;split at h
  .rename_i ds k k' n hs Y A;rw [A];exact resOK_v (aK (λw=>by simp [convert,run_underlying hs,run_underlying Y,Conv.intToInt]) h)
  .exact h.elim
 case makeInterface t x=>
  unfold yD at q;split at q
  .rename_i B;exact resOK_v (aK (λw=>run_makeInterface w t _ B) (wV_mp j q))
  .exact q.elim
 case makeFunc U a b=>
  have h:=aAi j _ _ (aAi j _ _ q);have e1:∀ x:Array Operand,(x.toList.map f).toArray=x.map f:=λx=>by apply Array.ext';simp
  rw [e1,e1] at h;exact resOK_v (aK (v:=.func U (a.map f) (b.map f)) (λw=>rfl) h)
 case makeMap t r=>
  cases r with
  | none=>exact resOK_v (aHg q)
  | some r=>exact q.elim
 case makeSlice t l c=>exact resOK_v (mkD_ok (wV_mp j (wV_mp j q)))
 case slice t x lo hi mx=>exact resOK_v (slcD_ok (wO_mp j (wO_mp j (wO_mp j (wV_mp j q)))))
 case fieldAddr s x g=>exact resOK_v (fldD_ok (wV_mp j q))
 case field t x g=>exact resOK_v (fvD_ok (wV_mp j q))
 case indexAddr t x i=>exact resOK_v (ixaD_ok (wV_mp j (wV_mp j q)))
 case index t x i=>exact resOK_v (idxD_ok (wV_mp j (wV_mp j q)))
 case lookup t m k ok=>exact resOK_v (lkD_ok (wV_mp j (wV_mp j q)))
 case mapUpdate t m k x=>exact resOK_u (muD_ok (K:=λ_=>K undef) (wV_mp j (wV_mp j (wV_mp j q))))
 case insert t m k x=>exact resOK_u (muD_ok (K:=λ_=>K undef) (wV_mp j (wV_mp j (wV_mp j q))))
 case mapEntry t m k=>exact resOK_v (meD_ok (wV_mp j (wV_mp j q)))
 case entryStore t m s x=>exact resOK_u (esD_ok (K:=λ_=>K undef) (wV_mp j (wV_mp j (wV_mp j q))))
 case range t x=>exact resOK_v (rgD_ok (wV_mp j q))
 case next it b=>
  cases b with
  | true=>exact q.elim
  | false=>
   have h:=wV_mp j q;split at h
   .split at h
    .cases dr with
     | true=>cases M rfl
     | false=>exact resOK_v (aIb h)
    .cases dr with
     | true=>cases M rfl
     | false=>exact resOK_v (aIb h)
    .exact h.elim
   .exact h.elim
 case entry it=>exact resOK_v (eyD_ok (wV_mp j q))
 case typeAssert x _ t ok=>
  have h:=wV_mp j q;unfold taD at h;split at h
  .rename_i B A;obtain ⟨i,z,hi,J,G⟩:=nB h;rw [A];refine resOK_v (aK (λw=>?_) G);unfold Program.concrete at B;cases D:P.underlying t with
   | none=>simp [D] at B
   | some d=>cases d<;>first | (simp [D] at B;done) | simp [Instr.typeAssert,run_underlying D,zeroValue,typeInfo,hi,J]
  .rename_i t' v B A;rw [A];unfold Program.concrete at B;split at h
   .rename_i F;have F:=Nat.eq_of_beq_eq_true F;subst F;refine resOK_v (aK (λw=>?_) h);cases D:P.underlying t' with
    | none=>simp [D] at B
    | some d=>cases d<;>first | (simp [D] at B;done) | simp [Instr.typeAssert,run_underlying D]
   .rename_i F;have F:t'≠t:=λe=>by rw [e] at F;simp at F
    obtain ⟨i,z,hi,J,G⟩:=nB h;refine resOK_v (aK (λw=>?_) G);cases D:P.underlying t with
    | none=>simp [D] at B
    | some d=>cases d<;>first | (simp [D] at B;done) | simp [Instr.typeAssert,run_underlying D,F,zeroValue,typeInfo,hi,J]
  .exact h.elim
 case extract t i=>
  have h:=wV_mp j q;unfold aCW at h;split at h
  .rename_i vs A;rw [A];split at h
   .rename_i v S;exact resOK_v (aK (λw=>by simp [Instr.extract,show vs[i]? = some v by simpa using S]) h)
   .exact h.elim
  .exact h.elim
 case call c=>
  unfold aCz at q;obtain ⟨callee,args,H⟩:=c;cases callee with
  | value fo=>
   have h:=wV_mp j q;split at h
   .rename_i g first cap A
    have I:=aAi j _ _ h;rcases V _ _ _ _ w I with L | ⟨v,L,S⟩
    .have T:=L (first++args.map f++cap) w
     have E:(do let d <- resolve f { callee:=.value fo,args:=args,argTypes:=H } ty;invoke d.target d.args:Sem Next).run P w = .ok (.enter g (first++args.map f++cap)) w:=by
      simp only [resolve,A,Deferred.ofValue,Sem.run_bind,Sem.run_pure,Result.andThen_ok,invoke,T]
     rw [E];exact ⟨⟨by simpa using I,L⟩,Kin.refl dr w⟩
    .have e1:(first.toList++args.toList.map f++cap.toList).toArray=first++args.map f++cap:=by apply Array.ext';simp
     rw [e1] at L
     have E:(do let d <- resolve f { callee:=.value fo,args:=args,argTypes:=H } ty;invoke d.target d.args:Sem Next).run P w = .ok (.value v) w:=by
      simp only [resolve,A,Deferred.ofValue,Sem.run_bind,Sem.run_pure,Result.andThen_ok,invoke,L]
     rw [E];exact ⟨S,Kin.refl dr w⟩
   .exact h.elim
  | invoke r n=>exact q.elim
  | builtin b=>
   have I:=aAi j _ _ q;simp only [resolve,Sem.run_bind,Sem.run_pure,Result.andThen_ok,invoke];exact aKZ M (by simp_all)
 case defer c=>
  obtain ⟨callee,args,H⟩:=c;cases callee with
  | value fo=>
   have h:=wV_mp j q;split at h
   .rename_i U first cap A
    have I:=aAi j _ _ h;simp only [resolve,A,Deferred.ofValue,Sem.run_bind,Sem.run_pure,Result.andThen_ok];have e1:∀ x:Array Operand,(x.toList.map f).toArray=x.map f:=λx=>by apply Array.ext';simp
    rw [e1] at I;exact ⟨I,Kin.refl dr w⟩
   .exact h.elim
  | invoke r n=>exact q.elim
  | builtin b=>exact q.elim
 case panic x=>
  have h:=wV_mp j q;split at h
  .rename_i t u A;rw [A];exact ⟨h,Kin.refl dr w⟩
  .exact h.elim
end
end Go.Dn
