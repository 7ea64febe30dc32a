/- What the proof stands on. -/
import Derived.Test.YtmfmhmipcdgikaaGreatG
import Derived.Test.YtmfmhmipcdgikaaGreatMaps
import Derived.Test.YtmfmhmipcdgikaaGreatRoot
import Derived.Test.YtmfmhmipcdgikaaGreatChild
namespace Go.Dn
variable {ns:List Nd} {d e:Nd} {i j:Nat} {q k:Int}
def sumZ {α:Type} (f:α->Int):List α->Int
 | []=>0
 | x::r=>f x+sumZ f r
theorem qK {α:Type} (f:α->Int):∀ a b:List α,sumZ f (a++b)=sumZ f a+sumZ f b
 | [],b=>by simp [sumZ]
 | x::a,b=>by simp only [List.cons_append,sumZ,qK f a b];omega
theorem fU {α:Type} (f:α->Int) {d d':α}:∀ {l:List α} {i:Nat},l[i]? = some d->sumZ f (l.set i d')=sumZ f l-f d+f d'
 | [],_,h=>by simp at h
 | x::r,0,h=>by simp at h;subst h;simp only [List.set_cons_zero,sumZ];omega
 | x::r,i+1,h=>by
  have:=fU f (d':=d') (l:=r) (i:=i) (by simpa using h);simp only [List.set_cons_succ,sumZ,this];omega
theorem tE {α:Type} {f:α->Int}:∀ {l:List α},(∀ x ∈ l,0<=f x)->0<=sumZ f l
 | [],_=>Int.le_refl _
 | x::r,h=>by
  have:=tE (l:=r) λy hy=>h y (List.mem_cons_of_mem _ hy);have:=h x List.mem_cons_self;simp only [sumZ];omega
theorem kS {α:Type} {f:α->Int}:∀ {l:List α},(∀ x ∈ l,0<=f x)->∀ x ∈ l,f x<=sumZ f l
 | [],_,_,h=>by simp at h
 | y::r,h,x,hx=>by
  have h1:=tE (l:=r) λz hz=>h z (List.mem_cons_of_mem _ hz);have h2:=h y List.mem_cons_self;rcases List.mem_cons.1 hx with rfl | hx
  ·simp only [sumZ];omega
  ·have:=kS (l:=r) (λz hz=>h z (List.mem_cons_of_mem _ hz)) x hx;simp only [sumZ];omega
theorem vB {α:Type} {f g:α->Int}:∀ {l:List α},(∀ x ∈ l,f x=g x)->sumZ f l=sumZ g l
 | [],_=>rfl
 | x::r,h=>by simp only [sumZ];rw [h x List.mem_cons_self,vB λy hy=>h y (List.mem_cons_of_mem _ hy)]
theorem rO {α:Type} {f:α->Int} {l:List α} (h:∀ x ∈ l,f x=0):sumZ f l=0:=by
 rw [vB (g:=λ_=>0) h]
 induction l with
 | nil=>rfl
 | cons x r ih=>simp only [sumZ];rw [ih λy hy=>h y (List.mem_cons_of_mem _ hy)];rfl
def Nd.room (d:Nd):Int:=d.quo-d.use-d.lent
def rmN (d:Nd):Int:=if d.live then d.room else 0
def kdN (i:Nat) (d:Nd):Int:=if d.live&&d.par==(i:Int) then d.quo else 0
def liveN (ns:List Nd) (i:Nat):Bool:=match ns[i]? with | some d=>d.live | none=>false
structure TreeOK (ns:List Nd):Prop where
 ok:∀ d ∈ ns,d.OK
 len:ns.length<=64
 root:∃ d,ns[0]? = some d/\d.live=true/\d.par = -1
 lent:∀ i d,ns[i]? = some d->d.live=true->d.lent=sumZ (kdN i) ns
 par:∀ i d,ns[i]? = some d->d.live=true->i≠0->∃ j:Nat,d.par=(j:Int)/\liveN ns j=true
theorem TreeOK.rm (h:TreeOK ns):∀ x ∈ ns,0<=rmN x:=λx hx=>by
 unfold rmN Nd.room;have:=(h.ok x hx).room;split<;>omega
theorem TreeOK.room (h:TreeOK ns) (hi:ns[i]? = some d) (hl:d.live=true):0<=d.room/\d.room<=sumZ rmN ns:=by
 have h1:=kS h.rm d (List.mem_of_getElem? hi);have h2:=h.rm d (List.mem_of_getElem? hi);unfold rmN at h1 h2;rw [if_pos hl] at h2;rw [if_pos hl] at h1;exact ⟨h2,h1⟩
def addU (ns:List Nd) (i:Nat) (k:Int):List Nd:=match ns[i]? with
 | some d=>useN ns i d (d.use+k)
 | none=>ns
theorem pV (hi:ns[i]? = some d):addU ns i k=useN ns i d (d.use+k):=by unfold addU;rw [hi]
theorem gH:(addU ns i k)[j]? = (ns[j]?).map λd=>if i=j then { d with use:=d.use+k } else d:=by
 unfold addU;cases e:ns[i]? with
 | none=>
  simp only;by_cases g:i=j
  ·subst g;rw [e];rfl
  ·simp only [if_neg g];cases ns[j]?<;>rfl
 | some d=>
  simp only [useN];rw [List.getElem?_set];by_cases g:i=j
  ·subst g;have:=(List.getElem?_eq_some_iff.1 e).1;rw [if_pos rfl,if_pos this,e];simp
  ·rw [if_neg g];simp only [if_neg g];cases ns[j]?<;>rfl
theorem addU_zero:addU ns i 0=ns:=by
 apply List.ext_getElem?;intro j;rw [gH];cases ns[j]? with
 | none=>rfl
 | some d=>simp only [Option.map_some,Option.some.injEq];split<;>simp
theorem aG4:(addU ns i k).length=ns.length:=by unfold addU useN;split<;>simp
theorem fH:liveN (addU ns i k) j=liveN ns j:=by
 unfold liveN;rw [gH];cases ns[j]? with
 | none=>rfl
 | some d=>simp only [Option.map_some];split<;>rfl
theorem oQ (hi:ns[i]? = some d) (hl:d.live=true):sumZ rmN (addU ns i k)=sumZ rmN ns-k:=by
 rw [pV hi];unfold useN;rw [fU rmN hi];unfold rmN Nd.room;simp only [hl,if_true];omega
theorem mem_addU {x:Nd} (h:x ∈ addU ns i k):x ∈ ns\/∃ d,ns[i]? = some d/\x = { d with use:=d.use+k }:=by
 obtain ⟨j,hj⟩:=List.mem_iff_getElem?.1 h;rw [gH] at hj;cases e:ns[j]? with
 | none=>rw [e] at hj;cases hj
 | some d=>
  rw [e] at hj;simp only [Option.map_some,Option.some.injEq] at hj;by_cases g:i=j
  ·subst g;rw [if_pos rfl] at hj;exact .inr ⟨d,e,hj.symm⟩
  ·rw [if_neg g] at hj;subst hj;exact .inl (List.mem_of_getElem? e)
theorem aHA (hi:ns[i]? = some d) {d':Nd} (h:∀ m,kdN m d'=kdN m d) (m:Nat):sumZ (kdN m) (ns.set i d')=sumZ (kdN m) ns:=by rw [fU _ hi,h];omega
theorem TreeOK.addU (h:TreeOK ns) (hi:ns[i]? = some d) (h0:0<=d.use+k) (h1:k<=d.room):TreeOK (addU ns i k):=by
 obtain ⟨r,hr,hr2,hr3⟩:=h.root
 have hk:∀ m,sumZ (kdN m) (Go.Dn.addU ns i k)=sumZ (kdN m) ns:=λm=>by
  rw [pV hi];exact aHA (d':={ d with use:=d.use+k }) hi (λ_=>rfl) m
 refine ⟨λx hx=>?_,by rw [aG4];exact h.len,?_,λj e hj hl=>?_,λj e hj hl hn=>?_⟩
 ·rcases mem_addU hx with hx | ⟨d',e,rfl⟩
  ·exact h.ok x hx
  ·rw [hi] at e;cases e;obtain ⟨o1,o2,o3,o4⟩:=h.ok d (List.mem_of_getElem? hi);unfold Nd.room at h1;exact ⟨h0,o2,by simp only;omega,o4⟩
 ·rw [gH,hr];refine ⟨_,rfl,?_⟩;split<;>exact ⟨hr2,hr3⟩
 ·rw [hk];rw [gH] at hj;cases e2:ns[j]? with
  | none=>rw [e2] at hj;cases hj
  | some x=>
   rw [e2] at hj;simp only [Option.map_some,Option.some.injEq] at hj;subst hj;rw [<-h.lent j x e2 (by split at hl<;>exact hl)];split<;>rfl
 ·rw [gH] at hj;cases e2:ns[j]? with
  | none=>rw [e2] at hj;cases hj
  | some x=>
   rw [e2] at hj;simp only [Option.map_some,Option.some.injEq] at hj;subst hj;obtain ⟨m,m1,m2⟩:=h.par j x e2 (by split at hl<;>exact hl) hn;exact ⟨m,by split<;>exact m1,by rw [fH];exact m2⟩
def kidN (ns:List Nd) (i:Nat) (d:Nd) (q:Int):List Nd × Nat:=match firstDead ns with
 | none=>(ns.set i { d with lent:=d.lent+q }++[⟨i,q,0,0,true⟩],ns.length)
 | some j=>((ns.set i { d with lent:=d.lent+q }).set j ⟨i,q,0,0,true⟩,j)
theorem xI {x:Nd} (h:x.live=false) (m:Nat):rmN x=0/\kdN m x=0:=by
 unfold rmN kdN;rw [h];simp
theorem pB (hi:ns[i]? = some d) (hl:d.live=true):∃ j,(kidN ns i d q).2=j/\j≠i/\liveN ns j=false/\(kidN ns i d q).1[j]? = some ⟨i,q,0,0,true⟩/\(kidN ns i d q).1[i]? = some { d with lent:=d.lent+q }/\∀ m,m≠i->m≠j->(kidN ns i d q).1[m]? = ns[m]?:=by
 have hil:=(List.getElem?_eq_some_iff.1 hi).1;unfold kidN;cases e:firstDead ns with
 | none=>
  refine ⟨ns.length,rfl,by omega,?_,?_,?_,λm h1 h2=>?_⟩
  ·unfold liveN;simp
  ·simp
  ·rw [List.getElem?_append_left (by simpa using hil)];simp [hil]
  ·rcases Nat.lt_or_ge m ns.length with z | z
   ·rw [List.getElem?_append_left (by simpa using z),List.getElem?_set,if_neg (λw=>h1 w.symm)]
   ·rw [List.getElem?_eq_none z,List.getElem?_eq_none (by simp;omega)]
 | some j=>
  obtain ⟨x,hx,hd⟩:=gL e;have hjl:=(List.getElem?_eq_some_iff.1 hx).1;have hne:j≠i:=λz=>by subst z;rw [hi] at hx;cases hx;rw [hl] at hd;cases hd
  refine ⟨j,rfl,hne,?_,?_,?_,λm h1 h2=>?_⟩
  ·unfold liveN;rw [hx];exact hd
  ·simp [hjl]
  ·rw [List.getElem?_set,if_neg hne];simp [hil]
  ·rw [List.getElem?_set,if_neg (λw=>h2 w.symm),List.getElem?_set,if_neg (λw=>h1 w.symm)]
theorem aBL (f:Nd->Int) (hi:ns[i]? = some d) (hf:∀ x ∈ ns,x.live=false->f x=0) (hl:d.live=true):sumZ f (kidN ns i d q).1=sumZ f ns-f d+f { d with lent:=d.lent+q } + f ⟨i,q,0,0,true⟩:=by
 unfold kidN;cases e:firstDead ns with
 | none=>simp only [qK,fU f hi,sumZ];omega
 | some j=>
  obtain ⟨x,hx,hd⟩:=gL e;have hne:j≠i:=λz=>by subst z;rw [hi] at hx;cases hx;rw [hl] at hd;cases hd
  have hx2:(ns.set i { d with lent:=d.lent+q })[j]? = some x:=by rw [List.getElem?_set,if_neg hne.symm];exact hx
  have:=hf x (List.mem_of_getElem? hx) hd;simp only [fU f hx2,fU f hi];omega
theorem aCA (hi:ns[i]? = some d) (hl:d.live=true):sumZ rmN (kidN ns i d q).1=sumZ rmN ns:=by
 rw [aBL rmN hi (λx _ hx=>(xI hx 0).1) hl];unfold rmN Nd.room;simp only [hl,if_true];omega
theorem aH9 (hi:ns[i]? = some d) (hl:d.live=true) (m:Nat):sumZ (kdN m) (kidN ns i d q).1=sumZ (kdN m) ns+if m=i then q else 0:=by
 rw [aBL (kdN m) hi (λx _ hx=>(xI hx m).2) hl];have e1:kdN m { d with lent:=d.lent+q } = kdN m d:=rfl
 have e2:kdN m ⟨(i:Int),q,0,0,true⟩=if m=i then q else 0:=by
  unfold kdN;simp only [Bool.true_and,beq_iff_eq];by_cases g:m=i
  ·subst g;simp
  ·rw [if_neg (by omega),if_neg g]
 rw [e1,e2];omega
theorem TreeOK.kid (h:TreeOK ns) (hi:ns[i]? = some d) (hl:d.live=true) (h0:0<=q) (h1:q<=d.room) (h2:firstDead ns=none->ns.length<64):TreeOK (kidN ns i d q).1:=by
 obtain ⟨j,_,k2,k3,k4,k5,k6⟩:=pB (q:=q) hi hl;obtain ⟨r,hr,hr2,hr3⟩:=h.root;obtain ⟨o1,o2,o3,o4⟩:=h.ok d (List.mem_of_getElem? hi);have hq:q<=1048576:=by unfold Nd.room at h1;omega
 have hkd:∀ m,liveN ns m=true->liveN (kidN ns i d q).1 m=true:=λm hm=>by
  by_cases e1:m=i
  ·subst e1;unfold liveN;rw [k5];exact hl
  ·by_cases e2:m=j
   ·subst e2;rw [k3] at hm;cases hm
   ·unfold liveN at hm ⊢;rw [k6 m e1 e2];exact hm
 have hj0:j≠0:=λz=>by subst z;unfold liveN at k3;rw [hr] at k3;simp only at k3;rw [hr2] at k3;cases k3
 refine ⟨λx hx=>?_,?_,?_,λm e hm hle=>?_,λm e hm hle hn=>?_⟩
 ·obtain ⟨m,hm⟩:=List.mem_iff_getElem?.1 hx;by_cases e1:m=i
  ·subst e1;rw [k5] at hm;cases hm;unfold Nd.room at h1;exact ⟨o1,by simp only;omega,by simp only;omega,o4⟩
  ·by_cases e2:m=j
   ·subst e2;rw [k4] at hm;cases hm;exact ⟨Int.le_refl _,Int.le_refl _,by simp only;omega,hq⟩
   ·rw [k6 m e1 e2] at hm;exact h.ok x (List.mem_of_getElem? hm)
 ·unfold kidN;cases e:firstDead ns with
  | none=>have:=h2 e;simp;omega
  | some j=>simp;exact h.len
 ·by_cases e1:0=i
  ·subst e1;rw [hi] at hr;cases hr;exact ⟨_,k5,hl,hr3⟩
  ·exact ⟨r,by rw [k6 0 e1 (λz=>hj0 z.symm)];exact hr,hr2,hr3⟩
 ·rw [aH9 hi hl];by_cases e1:m=i
  ·subst e1;rw [k5] at hm;cases hm;rw [if_pos rfl,<- h.lent m d hi hl]
  ·rw [if_neg e1];by_cases e2:m=j
   ·subst e2;rw [k4] at hm;cases hm;refine (Int.add_zero _).symm ▸ (rO λx hx=>?_).symm;unfold kdN;split
    ·rename_i g;rw [Bool.and_eq_true,beq_iff_eq] at g;obtain ⟨p,hp⟩:=List.mem_iff_getElem?.1 hx;by_cases p0:p=0
     ·subst p0;rw [hr] at hp;cases hp;rw [hr3] at g;omega
     ·obtain ⟨t,t1,t2⟩:=h.par p x hp g.1 p0;have:t=m:=by omega
      rw [this,k3] at t2;cases t2
    ·rfl
   ·rw [k6 m e1 e2] at hm;rw [Int.add_zero];exact h.lent m e hm hle
 ·by_cases e1:m=i
  ·subst e1;rw [k5] at hm;cases hm;obtain ⟨t,t1,t2⟩:=h.par m d hi hl hn;exact ⟨t,t1,hkd t t2⟩
  ·by_cases e2:m=j
   ·subst e2;rw [k4] at hm;cases hm;exact ⟨i,rfl,hkd i (by unfold liveN;rw [hi];exact hl)⟩
   ·rw [k6 m e1 e2] at hm;obtain ⟨t,t1,t2⟩:=h.par m e hm hle hn;exact ⟨t,t1,hkd t t2⟩
def nd0:Nd:=⟨0,0,0,0,false⟩
def pH (ns:List Nd) (i:Nat) (d:Nd):List Nd:=match ns[d.par.toNat]? with
 | some e=>(ns.set d.par.toNat { e with lent:=e.lent-d.quo }).set i nd0
 | none=>ns
def endE (ns:List Nd) (i:Nat):Int:=match ns[i]? with
 | none=>5
 | some d=>if d.live=false\/i=0 then 5 else if d.use > 0\/(ns.any λx=>x.live&&x.par==(i:Int))=true then 11 else 0
theorem zY (h:TreeOK ns) (hi:ns[i]? = some d) (he:endE ns i=0):d.live=true/\i≠0/\d.use=0/\(∀ x ∈ ns,x.live=true->x.par≠i)/\∃ (j:Nat) (e:Nd),d.par=(j:Int)/\j≠i/\ns[j]? = some e/\e.live=true/\pH ns i d=(ns.set j { e with lent:=e.lent-d.quo }).set i nd0:=by
 unfold endE at he;rw [hi] at he;simp only at he;split at he
 ·omega
 ·rename_i g
  have hl:d.live=true:=by cases e:d.live with
   | true=>rfl
   | false=>exact absurd (.inl e) g
  have h0:i≠0:=λz=>g (.inr z);split at he
  ·omega
  ·rename_i g2;obtain ⟨j,j1,j2⟩:=h.par i d hi hl h0;have hkid:∀ x ∈ ns,x.live=true->x.par≠i:=λx hx hxl e=>g2 (.inr (List.any_eq_true.2 ⟨x,hx,by simp [hxl,e]⟩));have hu:=(h.ok d (List.mem_of_getElem? hi)).use;have hu0:¬ d.use > 0:=λz=>g2 (.inl z);refine ⟨hl,h0,by omega,hkid,?_⟩;unfold liveN at j2;cases e2:ns[j]? with
   | none=>rw [e2] at j2;cases j2
   | some e=>
    rw [e2] at j2
    have hji:j≠i:=λz=>by
     subst z;rw [hi] at e2;cases e2;exact hkid d (List.mem_of_getElem? hi) hl j1
    refine ⟨j,e,j1,hji,e2,j2,?_⟩;unfold pH;rw [j1,Int.toNat_natCast,e2]
theorem TreeOK.fin (h:TreeOK ns) (hi:ns[i]? = some d) (he:endE ns i=0):TreeOK (pH ns i d)/\sumZ rmN (pH ns i d)=sumZ rmN ns/\∀ m,m≠i->liveN (pH ns i d) m=liveN ns m:=by
 obtain ⟨hl,h0,hu,hkid,j,e,hj,hji,hje,hel,heq⟩:=zY h hi he;obtain ⟨r,hr,hr2,hr3⟩:=h.root;have hil:=(List.getElem?_eq_some_iff.1 hi).1;have hjl:=(List.getElem?_eq_some_iff.1 hje).1;have hi2:(ns.set j { e with lent:=e.lent-d.quo })[i]? = some d:=by rw [List.getElem?_set,if_neg hji];exact hi
 have hlent:d.lent=0:=by
  rw [h.lent i d hi hl];refine rO λx hx=>?_;unfold kdN;split
  ·rename_i g;rw [Bool.and_eq_true,beq_iff_eq] at g;exact absurd g.2 (hkid x hx g.1)
  ·rfl
 have hat:∀ m,(pH ns i d)[m]? = if m=i then some nd0 else if m=j then some { e with lent:=e.lent-d.quo } else ns[m]?:=λm=>by
  rw [heq,List.getElem?_set,List.getElem?_set];by_cases e1:m=i
  ·subst e1;rw [if_pos rfl,if_pos rfl,if_pos (by simpa using hil)]
  ·rw [if_neg (λz=>e1 z.symm),if_neg e1];by_cases e2:m=j
   ·subst e2;rw [if_pos rfl,if_pos rfl,if_pos hjl]
   ·rw [if_neg (λz=>e2 z.symm),if_neg e2]
 have hsum:∀ f:Nd->Int,f nd0=0->sumZ f (pH ns i d)=sumZ f ns-f e+f { e with lent:=e.lent-d.quo } - f d:=λf hf=>by
  rw [heq,fU f hi2,fU f hje,hf];omega
 have hlive:∀ m,m≠i->liveN (pH ns i d) m=liveN ns m:=λm hm=>by
  unfold liveN;rw [hat,if_neg hm];by_cases e2:m=j
  ·subst e2;rw [if_pos rfl,hje]
  ·rw [if_neg e2]
 have hkd:∀ m:Nat,sumZ (kdN m) (pH ns i d)=sumZ (kdN m) ns-if m=j then d.quo else 0:=λm=>by
  rw [hsum (kdN m) rfl];have e1:kdN m { e with lent:=e.lent-d.quo } = kdN m e:=rfl
  have e2:kdN m d=if m=j then d.quo else 0:=by
   unfold kdN;rw [hl,hj,Bool.true_and];by_cases g:m=j
   ·subst g;simp
   ·rw [if_neg (by simp;omega),if_neg g]
  rw [e1,e2];omega
 have hq:d.quo<=e.lent:=by
  rw [h.lent j e hje hel]
  have:∀ x ∈ ns,0<=kdN j x:=λx hx=>by
   unfold kdN;have:=h.ok x hx;have:=this.use;have:=(h.ok x hx).lent;have:=(h.ok x hx).room;split<;>omega
  have:=kS this d (List.mem_of_getElem? hi);unfold kdN at this ⊢;rw [hl,hj] at this;simpa using this
 refine ⟨⟨λx hx=>?_,?_,?_,λm x hm hlx=>?_,λm x hm hlx hn=>?_⟩,?_,hlive⟩
 ·obtain ⟨m,hm⟩:=List.mem_iff_getElem?.1 hx;rw [hat] at hm;split at hm
  ·cases hm;exact ⟨Int.le_refl _,Int.le_refl _,Int.le_refl _,by show (0:Int)<=1048576;omega⟩
  ·split at hm
   ·cases hm;obtain ⟨o1,o2,o3,o4⟩:=h.ok e (List.mem_of_getElem? hje);obtain ⟨p1,p2,p3,p4⟩:=h.ok d (List.mem_of_getElem? hi);exact ⟨o1,by simp only;omega,by simp only;omega,o4⟩
   ·exact h.ok x (List.mem_of_getElem? hm)
 ·rw [heq];simp;exact h.len
 ·rw [hat,if_neg (λz=>h0 z.symm)];by_cases e2:0=j
  ·subst e2;rw [if_pos rfl];rw [hr] at hje;cases hje;exact ⟨_,rfl,hr2,hr3⟩
  ·rw [if_neg e2];exact ⟨r,hr,hr2,hr3⟩
 ·rw [hkd];rw [hat] at hm;split at hm
  ·cases hm;cases hlx
  ·split at hm
   ·rename_i g;cases hm;rw [if_pos g,g,<- h.lent j e hje hel]
   ·rename_i g;rw [if_neg g,Int.sub_zero];exact h.lent m x hm hlx
 ·have hm0:=hm;rw [hat] at hm
  have key:∀ y,ns[m]? = some y->y.live=true->∃ k:Nat,y.par=(k:Int)/\liveN (pH ns i d) k=true:=λy hy hly=>by
   obtain ⟨t,t1,t2⟩:=h.par m y hy hly hn;refine ⟨t,t1,?_⟩;rw [hlive t λz=>hkid y (List.mem_of_getElem? hy) hly (by rw [t1,z])];exact t2
  split at hm
  ·cases hm;cases hlx
  ·split at hm
   ·rename_i g;cases hm;exact key e (by rw [g];exact hje) hel
   ·exact key x hm hlx
 ·rw [hsum rmN rfl];unfold rmN Nd.room;simp only [hl,hel,if_true];omega
end Go.Dn
namespace Go.Dn
open Go.MapKept
variable {A:AH} {l:List SP}
def aKz (b:Nat) (k:IntKind) (m:List (Int × Value)) (key st:Int):SP:=λB=>∃ es c,B b=some (.map es c)/\aFO k es m/\Stamped es c/\∃ (j:Nat) (e:MapEntry),es[j]? = some e/\e.key = .int k key/\(e.born:Int)=st
theorem xS {key:Int} {v:Value}:∀ {m:List (Int × Value)},m.lookup key=some v->putM m key v=m
 | [],h=>by simp at h
 | p::m,h=>by
  unfold putM;by_cases e:p.1=key
  ·rw [if_pos e];have:(key==p.1)=true:=by simp [e]
   simp only [List.lookup,this,Option.some.injEq] at h;rw [<-h,<- e]
  ·rw [if_neg e];have:(key==p.1)=false:=by simpa using λg=>e g.symm
   simp only [List.lookup,this] at h;rw [xS h]
theorem yJ {key:Int} {v w:Value}:∀ {m:List (Int × Value)},putM (putM m key v) key w=putM m key w
 | []=>by simp [putM]
 | p::m=>by
  by_cases e:p.1=key
  ·simp [putM,e]
  ·simp [putM,e,yJ (m:=m)]
theorem aE3 {A:AH} {b:Nat} {o:Obj} (h:A b=some o):updA A b o=A:=by
 funext c;unfold updA;split
 ·rename_i e;rw [e,h]
 ·rfl
theorem aLC {i b:Nat} {k:IntKind} {key:Int} {z:Value} {m:List (Int × Value)} {K:Value->Int->AP} (h:Own l A) (e:l[i]? = some (MapI b k m))
  (hk:∀ st A',Own (l.set i (aKz b k (putM m key ((m.lookup key).getD z)) key st)) A'->K ((m.lookup key).getD z) st A'):aCz A (some b) k key z K:=by
 obtain ⟨es,c,h1,h2,hst⟩:=h.map e;obtain ⟨r,k1,k2,k3,k4⟩:=fS (k:=k) (key:=key) es.toList m 0 h2;refine ⟨b,es,c,rfl,h1,r,k1,?_⟩;cases r with
 | none=>
  have h5:m.lookup key=none:=by rw [<-k2];rfl
  rw [h5] at hk;refine hk c _ (h.upd e (λB ⟨_,_,hb,_⟩=>⟨_,hb⟩) λB _=>⟨_,_,cW,?_,stamped_push hst λx hx g=>?_,es.size,{ key:=.int k key,val:=z,born:=c },by simp,rfl,rfl⟩)
  ·show (es.push _).toList.map _=_;simp only [Array.toList_push,List.map_append,List.map_cons,List.map_nil,Option.getD_none];rw [k4 rfl z,List.map_append];rw [show es.toList.map (λe=>(e.key,e.val))=_ from h2];rfl
  ·have h6:(x.key,x.val) ∈ m.map λp=>((.int k p.1:Value),p.2):=by rw [<-h2];exact List.mem_map.2 ⟨x,hx,rfl⟩
   obtain ⟨p,hp,hpe⟩:=List.mem_map.1 h6;simp only [Prod.mk.injEq] at hpe;rw [g] at hpe;have hk:p.1=key:=by have:=hpe.1;injection this
   exact sA h5 (List.mem_map.2 ⟨p,hp,hk⟩)
 | some p=>
  obtain ⟨j,v0⟩:=p;obtain ⟨_,e',he',hek,hev⟩:=eQ _ _ _ _ k1;have he':es[j]? = some e':=by simpa using he'
  have h5:m.lookup key=some v0:=by rw [<-k2];rfl
  rw [h5] at hk;simp only [Option.getD_some] at hk;rw [xS h5] at hk;refine ⟨e',he',hk _ A ?_⟩;obtain ⟨bs,rest⟩:∃ o,A b=some o:=⟨_,h1⟩;have h7:=h.upd (P':=aKz b k m key e'.born) (o':=.map es c) e (λB ⟨_,_,hb,_⟩=>⟨_,hb⟩) λB _=>⟨es,c,cW,h2,hst,j,e',he',hek,rfl⟩;rwa [aE3 h1] at h7
theorem aMg {i b:Nat} {k:IntKind} {key st:Int} {v:Value} {m:List (Int × Value)} {K:AP} (h:Own l A) (e:l[i]? = some (aKz b k m key st))
  (hk:∀ A',Own (l.set i (MapI b k (putM m key v))) A'->K A'):aCZ A (some b) st v K:=by
 obtain ⟨B0,u0,es,c,h1,h2,hst,j,e',he',hek,hb⟩:=h.get e;have h1:=u0 _ _ h1;obtain ⟨r,k1,k2,k3,k4⟩:=fS (k:=k) (key:=key) es.toList m 0 h2;have hjl:=(Array.getElem?_eq_some_iff.1 he').1;have hjv:=(Array.getElem?_eq_some_iff.1 he').2
 have hfi:es.findIdx? (λe=>(e.born:Int)==st)=some j:=by
  rw [Array.findIdx?_eq_some_iff_getElem];refine ⟨hjl,by rw [hjv];simpa using hb,λt ht g=>?_⟩;have g:(es[t].born:Int)=st:=by simpa using g
  have hnd:=hst.2.1;rw [List.nodup_iff_pairwise_ne,List.pairwise_map,List.pairwise_iff_getElem] at hnd;refine hnd t j (by simpa using Nat.lt_trans ht hjl) (by simpa using hjl) ht ?_;simp only [Array.getElem_toList];rw [hjv];omega
 refine ⟨b,es,c,j,rfl,h1,hfi,hk _ ?_⟩;refine h.upd e (λB ⟨_,_,hb,_⟩=>⟨_,hb⟩) λB _=>⟨_,_,cW,?_,stamped_modify hst j _ (λ_ _=>rfl) (λ_ _ _=>rfl)⟩;cases r with
 | none=>
  exfalso;have h5:m.lookup key=none:=by rw [<-k2];rfl
  have h6:(e'.key,e'.val) ∈ m.map λp=>((.int k p.1:Value),p.2):=by rw [<-h2];exact List.mem_map.2 ⟨e',by rw [<-hjv];simp,rfl⟩
  obtain ⟨p,hp,hpe⟩:=List.mem_map.1 h6;simp only [Prod.mk.injEq] at hpe;rw [hek] at hpe;have hk:p.1=key:=by have:=hpe.1;injection this
  exact sA h5 (List.mem_map.2 ⟨p,hp,hk⟩)
 | some p=>
  obtain ⟨t,v0⟩:=p;obtain ⟨_,e2,he2,hek2,_⟩:=eQ _ _ _ _ k1;have he2:es[t]? = some e2:=by simpa using he2
  have htl:=(Array.getElem?_eq_some_iff.1 he2).1;have htv:=(Array.getElem?_eq_some_iff.1 he2).2
  have htj:t=j:=by
   have hnd:=hst.2.2;rw [List.nodup_iff_pairwise_ne,List.pairwise_map,List.pairwise_iff_getElem] at hnd;rcases Nat.lt_trichotomy t j with g | g | g
   ·exact absurd (by rw [Array.getElem_toList,Array.getElem_toList,htv,hjv,hek,hek2]) (hnd t j (by simpa using htl) (by simpa using hjl) g)
   ·exact g
   ·exact absurd (by rw [Array.getElem_toList,Array.getElem_toList,htv,hjv,hek,hek2]) (hnd j t (by simpa using hjl) (by simpa using htl) g)
  subst htj;obtain ⟨k5,k6⟩:=k3 t v0 rfl;show (es.modify t _).toList.map _=_;rw [Array.toList_modify,<- k6 v,Nat.sub_zero];congr 1;apply List.ext_getElem?;intro q;rw [List.getElem?_modify,List.getElem?_modify];by_cases g:t=q
  ·subst g;have:es.toList[t]? = some e':=by simpa using he'
   rw [this];simp [hek]
  ·simp [g]
end Go.Dn
namespace Go.Dn
def ivs (m:List (Int × Int)):List (Int × Value):=m.map λp=>(p.1,.int .i64 p.2)
def putZ (m:List (Int × Int)) (key v:Int):List (Int × Int):=match m with
 | []=>[(key,v)]
 | p::m=>if p.1=key then (key,v)::m else p::putZ m key v
theorem fP (k:Int):∀ m:List (Int × Int),(ivs m).lookup k=(m.lookup k).map λv=>(.int .i64 v:Value)
 | []=>rfl
 | p::m=>by
  have:=fP k m;unfold ivs at this ⊢;simp only [List.map_cons,List.lookup];cases h:k==p.1 with
  | true=>rfl
  | false=>exact this
theorem aBp (k v:Int):∀ m:List (Int × Int),putM (ivs m) k (.int .i64 v)=ivs (putZ m k v)
 | []=>rfl
 | p::m=>by
  have:=aBp k v m;unfold ivs at this ⊢;simp only [List.map_cons,putM,putZ];by_cases h:p.1=k
  ·rw [if_pos h,if_pos h];rfl
  ·rw [if_neg h,if_neg h,this];rfl
theorem fT (key key' v:Int):∀ m:List (Int × Int),(putZ m key v).lookup key'=if key'=key then some v else m.lookup key'
 | []=>by
  by_cases e:key'=key
  ·subst e;simp [putZ,List.lookup]
  ·have:(key'==key)=false:=by simpa using e
   simp [putZ,List.lookup,this,e]
 | p::m=>by
  have ih:=fT key key' v m;by_cases e:p.1=key
  ·by_cases e2:key'=key
   ·subst e2;simp [putZ,List.lookup,e]
   ·have h1:(key'==key)=false:=by simpa using e2
    have h2:(key'==p.1)=false:=by simpa using λg=>e2 (by rw [g,e])
    simp [putZ,List.lookup,e,e2,h1,h2]
  ·by_cases e2:key'=p.1
   ·have h1:(key'==p.1)=true:=by simpa using e2
    have h3:key'≠key:=λg=>e (by rw [<-e2,g]);simp [putZ,List.lookup,e,h1,h3]
   ·have h1:(key'==p.1)=false:=by simpa using e2
    simp [putZ,List.lookup,e,h1,ih]
theorem aH {a:Addr} {K:Addr->Prop}:aF (some a) K=K a:=rfl
structure PcZ where
 most:Int
 next:Int
 gen:Int
 own:List (Int × Int)
 tag:List (Int × Int)
def PcZ.OK (z:PcZ):Prop:=1<=z.most/\z.most<=4095/\1<=z.next/\z.next<=z.most+1
def jS (most:Int):PcZ:=⟨most,1,0,[],[]⟩
def pcL (p bo bt:Nat) (z:PcZ):List SP:=[At p [.int .i64 z.most,.int .i64 z.next,.int .i64 z.gen,.map (some bo),.map (some bt)],MapI bo .i64 (ivs z.own),MapI bt .i64 (ivs z.tag)]
def PcS (p:Nat) (z:PcZ):SP:=λB=>∃ bo bt,Own (pcL p bo bt z) B
def getZ (z:PcZ) (id:Int):PcZ × Int × Bool:=match z.tag.lookup id with
 | some n=>(z,n,false)
 | none=>if z.next > z.most then (⟨z.most,2,IntKind.wrap .i64 (z.gen+1),[(1,id)],[(id,1)]⟩,1,true)
  else (⟨z.most,z.next+1,z.gen,putZ z.own z.next id,putZ z.tag id z.next⟩,z.next,false)
theorem aHC {z:PcZ} (h:z.OK) (id:Int):(getZ z id).1.OK:=by
 obtain ⟨h1,h2,h3,h4⟩:=h;unfold getZ;split
 ·exact ⟨h1,h2,h3,h4⟩
 ·split
  ·exact ⟨h1,h2,by simp,by simp;omega⟩
  ·exact ⟨h1,h2,by simp;omega,by simp;omega⟩
variable {A:AH} {l R:List SP} {p bo bt:Nat} {z:PcZ}
theorem PcS.openH (h:Own (PcS p z::R) A):∃ bo bt,Own (pcL p bo bt z++R) A:=by
 obtain ⟨bo,h⟩:=Own.ex h;obtain ⟨bt,h⟩:=Own.ex h;exact ⟨bo,bt,Own.flat h⟩
theorem PcS.closeH (h:Own (pcL p bo bt z++R) A):Own (PcS p z::R) A:=h.app.imp λ_ hB=>⟨bo,bt,hB⟩
theorem vV {most x y:Int} {u v:Value} {Q:AH->Prop} (h:Own (At p [.int .i64 most,.int .i64 x,.int .i64 y,u,v]::R) A)
  (hk:∀ bo bt A',Own (pcL p bo bt ⟨most,1,y,[],[]⟩++R) A'->Q A'):qan_A (some ⟨p,0,none⟩) Q A:=by
 unfold qan_A;simp only [aH,add_at,Nat.zero_add];refine tD (k:=.i64) h λb1 A1 h1=>tD (k:=.i64) h1 λb2 A2 h2=>?_;refine aJ (i:=2) h2 rfl rfl rfl λA3 h3=>?_;refine aJ (i:=2) h3 rfl rfl rfl λA4 h4=>?_;refine aJ (i:=2) h4 rfl rfl rfl λA5 h5=>hk b1 b2 A5 ?_;have h5:Own (MapI b2 .i64 []::MapI b1 .i64 []::At p [.int .i64 most,.int .i64 1,.int .i64 y,.map (some b1),.map (some b2)]::R) A5:=h5;exact h5.perm (List.Perm.trans (List.Perm.cons _ (List.Perm.swap _ _ _)) (List.Perm.trans (List.Perm.swap _ _ _) (List.Perm.cons _ (List.Perm.swap _ _ _))))
theorem aEx {most:Int} {Q:Option Addr->Int->AH->Prop} (h:Own l A) (h1:1<=most) (h2:most<=4095) (hk:∀ p A',Own (PcS p (jS most)::l) A'->Q (some ⟨p,0,none⟩) 0 A'):qao_A most Q A:=by
 unfold qao_A qao_G;refine bsel_f (by simp;omega) (bsel_f (by simp;omega) ?_);refine aX (cs:=[.int .i64 most,.int .i64 0,.int .i64 0,.map none,.map none]) h λp A1 h3=>?_;exact vV h3 λbo bt A2 h4=>hk p A2 (PcS.closeH (z:=jS most) h4)
theorem aEC {id:Int} {Q:Int->Bool->AH->Prop} (h:Own (PcS p z::R) A) (hz:z.OK) (hk:∀ A',Own (PcS p (getZ z id).1::R) A'->Q (getZ z id).2.1 (getZ z id).2.2 A'):qcz_A (some ⟨p,0,none⟩) id Q A:=by
 obtain ⟨z1,z2,z3,z4⟩:=hz;obtain ⟨bo,bt,hh⟩:=PcS.openH h;unfold qcz_A qcz_G;simp only [aH,add_at,Nat.zero_add];refine dY (i:=0) hh rfl rfl (kD (i:=2) hh rfl ?_);rw [fP];unfold getZ at hk;cases hl:z.tag.lookup id with
 | some n=>
  rw [hl] at hk;exact ⟨n,rfl,hk A h⟩
 | none=>
  rw [hl] at hk;simp only at hk;refine ⟨0,rfl,?_⟩;refine ld_I (i:=0) hh rfl rfl ?_;refine ld_I (i:=0) hh rfl rfl ?_
  -- what follows once there is a tag to give
  have fin:∀ (y:PcZ) (bo bt:Nat) (A1:AH),Own (pcL p bo bt y++R) A1->1<=y.next->y.next<=4095->y.tag.lookup id=none->∀ (b:Bool),
    (∀ A',Own (PcS p ⟨y.most,y.next+1,y.gen,putZ y.own y.next id,putZ y.tag id y.next⟩::R) A'->Q y.next b A')->
    aI .i64 ⟨p,1,none⟩ A1 λn17=>aI .i64 ⟨p,1,none⟩ A1 λn19=>aC ⟨p,1,none⟩ (.int .i64 (IntKind.wrap .i64 (n19+(1:Int)))) A1 λh21=>
     aM ⟨p,4,none⟩ h21 λmp24=>aM ⟨p,3,none⟩ h21 λmp25=>aCz h21 mp24 .i64 id (.int .i64 (0:Int)) λv26 n27 h28=>(∃ n29:Int,(v26:Value)=(.int .i64 n29)/\
     aCZ h28 mp24 n27 (.int .i64 n17) λh30=>aCz h30 mp25 .i64 n17 (.int .i64 (0:Int)) λv31 n32 h33=>(∃ n34:Int,(v31:Value)=(.int .i64 n34)/\
     aCZ h33 mp25 n32 (.int .i64 id) λh35=>Q n17 b h35)):=λy bo bt A1 h1 y1 y2 hno b hq=>by
   refine ld_I (i:=0) h1 rfl rfl (ld_I (i:=0) h1 rfl rfl (aJ (i:=0) h1 rfl rfl rfl λA2 h2=>?_));refine dY (i:=0) h2 rfl rfl (dY (i:=0) h2 rfl rfl ?_);refine aLC (i:=2) h2 rfl λst A3 h3=>?_;rw [fP,hno];refine ⟨0,rfl,?_⟩;refine aMg (i:=2) (key:=id) h3 rfl λA4 h4=>?_;refine aLC (i:=1) h4 rfl λst2 A5 h5=>?_
   have hv:∃ w:Int,((ivs y.own).lookup y.next).getD (.int .i64 0)=(.int .i64 w:Value):=by
    rw [fP];cases y.own.lookup y.next with
    | none=>exact ⟨0,rfl⟩
    | some w=>exact ⟨w,rfl⟩
   obtain ⟨w,hw⟩:=hv;refine ⟨w,hw,?_⟩;refine aMg (i:=1) (key:=y.next) h5 rfl λA6 h6=>hq A6 ?_
   refine PcS.closeH (bo:=bo) (bt:=bt) (h6.perm (List.Perm.of_eq ?_));have e1:IntKind.wrap .i64 (y.next+1)=y.next+1:=by rw [bG]<;>omega
   rw [e1];simp only [pcL,List.cons_append,List.nil_append,List.set_cons_succ,List.set_cons_zero,yJ,aBp]
  by_cases g:z.next > z.most
  ·rw [if_pos g] at hk;refine ⟨λA1=>∃ bo bt,Own (pcL p bo bt ⟨z.most,1,IntKind.wrap .i64 (z.gen+1),[],[]⟩++R) A1,λA1 ⟨bo,bt,h1⟩=>?_,?_⟩
   ·have:=fin _ bo bt A1 h1 (by simp) (by simp) rfl (decide (z.next > z.most)) (λA' h'=>by
     rw [decide_eq_true g];exact hk A' h')
    exact this
   ·refine aN (by simpa using g) ?_;refine vV (hh.cons λC hC=>(hC.tail.tail)) λbo bt A1 h1=>?_;refine ld_I (i:=0) h1 rfl rfl ?_;exact aJ (i:=0) h1 rfl rfl rfl λA2 h2=>⟨bo,bt,h2⟩
  ·rw [if_neg g] at hk;refine ⟨λA1=>A1=A,λA1 e=>?_,?_⟩
   ·subst e
    have:=fin z bo bt A1 hh z3 (by omega) hl (decide (z.next > z.most)) (λA' h'=>by
     rw [decide_eq_false g];exact hk A' h')
    exact this
   ·exact bsel_f (by simpa using g) rfl
end Go.Dn
namespace Go.Dn
structure Ln where
 v:Bool
 tag:Int
 page:Int
 frame:Int
 w:Bool
 u:Bool
 x:Bool
 g:Bool
 d:Bool
def Ln.cells (l:Ln):List Value:=[.bool l.v,.int .i64 l.tag,.int .i64 l.page,.int .i64 l.frame,.bool l.w,.bool l.u,.bool l.x,.bool l.g,.bool l.d]
def ln0:Ln:=⟨false,0,0,0,false,false,false,false,false⟩
def mJ (ls:List Ln):List Value:=ls.flatMap Ln.cells
variable {A:AH} {l R:List SP} {p i k o:Nat} {ls:List Ln} {y m:Ln}
theorem rV:∀ {ls:List Ln} {k:Nat} {y:Ln},ls[k]? = some y->∃ pre post,mJ ls=pre++y.cells++post/\pre.length=k*9/\∀ m,mJ (ls.set k m)=pre++m.cells++post
 | [],k,y,h=>by simp at h
 | z::ls,0,y,h=>by
  simp at h;subst h;exact ⟨[],mJ ls,rfl,rfl,λm=>rfl⟩
 | z::ls,k+1,y,h=>by
  obtain ⟨pre,post,h1,h2,h3⟩:=rV (ls:=ls) (k:=k) (y:=y) (by simpa using h);refine ⟨z.cells++pre,post,?_,by simp [Ln.cells,h2];omega,λm=>?_⟩
  ·show z.cells++mJ ls=_;rw [h1];simp
  ·show z.cells++mJ (ls.set k m)=_;rw [h3];simp
theorem iG (hk:ls[k]? = some y) {c:Nat} (hc:c<9):(mJ ls)[k*9+c]? = y.cells[c]?:=by
 obtain ⟨pre,post,h1,h2,_⟩:=rV hk;rw [h1,<- h2,List.append_assoc,List.getElem?_append_right (by omega),List.getElem?_append_left (by simp [Ln.cells];omega)];congr 1;omega
theorem aBI {K:Bool->Int->Int->Int->Bool->Bool->Bool->Bool->Bool->Prop} (h:Own l A) (e:l[i]? = some (At p (mJ ls))) (hk:ls[k]? = some y) (ho:o=k*9) (hK:K y.v y.tag y.page y.frame y.w y.u y.x y.g y.d) :
  aB ⟨p,o,none⟩ A λb0=>aI .i64 ⟨p,o+1,none⟩ A λn1=>aI .i64 ⟨p,o+2,none⟩ A λn2=>aI .i64 ⟨p,o+3,none⟩ A λn3=>aB ⟨p,o+4,none⟩ A λb4=>aB ⟨p,o+5,none⟩ A λb5=>aB ⟨p,o+6,none⟩ A λb6=>aB ⟨p,o+7,none⟩ A λb7=>aB ⟨p,o+8,none⟩ A λb8=>K b0 n1 n2 n3 b4 b5 b6 b7 b8:=by
 subst ho;refine aY h e (by rw [<-Nat.add_zero (k*9)];exact iG hk (c:=0) (by omega)) ?_;refine ld_I h e (iG hk (c:=1) (by omega)) (ld_I h e (iG hk (c:=2) (by omega)) (ld_I h e (iG hk (c:=3) (by omega)) ?_));exact aY h e (iG hk (c:=4) (by omega)) (aY h e (iG hk (c:=5) (by omega)) (aY h e (iG hk (c:=6) (by omega)) (aY h e (iG hk (c:=7) (by omega)) (aY h e (iG hk (c:=8) (by omega)) hK))))
theorem aI1 {pre mid post:List Value} {c n:Nat} {v:Value} (hn:pre.length=n) (hc:c<mid.length):(pre++mid++post).set (n+c) v=pre++mid.set c v++post:=by
 subst hn;rw [List.append_assoc,List.set_append_right _ _ (by omega),show pre.length+c-pre.length=c by omega,List.set_append_left _ _ hc,List.append_assoc]
theorem aIi {pre mid post:List Value} {c n:Nat} (hn:pre.length=n) (hc:c<mid.length):((pre++mid++post)[n+c]?).isSome=true:=by
 subst hn;rw [List.append_assoc,List.getElem?_append_right (by omega),List.getElem?_append_left (by omega)];simp;omega
theorem aBr {K:AP} (h:Own (At p (mJ ls)::R) A) (hk:ls[k]? = some y) (ho:o=k*9) (hK:∀ A',Own (At p (mJ (ls.set k m))::R) A'->K A') :
  aC ⟨p,o,none⟩ (.bool m.v) A λh0=>aC ⟨p,o+1,none⟩ (.int .i64 m.tag) h0 λh1=>aC ⟨p,o+2,none⟩ (.int .i64 m.page) h1 λh2=>aC ⟨p,o+3,none⟩ (.int .i64 m.frame) h2 λh3=>aC ⟨p,o+4,none⟩ (.bool m.w) h3 λh4=>aC ⟨p,o+5,none⟩ (.bool m.u) h4 λh5=>aC ⟨p,o+6,none⟩ (.bool m.x) h5 λh6=>aC ⟨p,o+7,none⟩ (.bool m.g) h6 λh7=>aC ⟨p,o+8,none⟩ (.bool m.d) h7 K:=by
 subst ho;obtain ⟨pre,post,h1,h2,h3⟩:=rV hk;rw [h1] at h;have hK:=λA'=>hK A';simp only [h3 m] at hK
 have step:∀ {mid:List Value} {c:Nat} {v:Value} {A:AH} {K:AP},mid.length=9->c<9->v.oneCell'=true->Own (At p (pre++mid++post)::R) A->(∀ A',Own (At p (pre++mid.set c v++post)::R) A'->K A')->aC ⟨p,k*9+c,none⟩ v A K:=λ{mid c v A K} hm hc hv hA hq=>
  aJ (i:=0) hA rfl (aIi h2 (by omega)) hv λA' h'=>hq A' (by
   have h':Own (At p ((pre++mid++post).set (k*9+c) v)::R) A':=h';rwa [aI1 h2 (by omega)] at h')
 refine step (c:=0) rfl (by omega) rfl h λA0 h=>?_;refine step (c:=1) rfl (by omega) rfl h λA1 h=>?_;refine step (c:=2) rfl (by omega) rfl h λA2 h=>?_;refine step (c:=3) rfl (by omega) rfl h λA3 h=>?_;refine step (c:=4) rfl (by omega) rfl h λA4 h=>?_;refine step (c:=5) rfl (by omega) rfl h λA5 h=>?_;refine step (c:=6) rfl (by omega) rfl h λA6 h=>?_;refine step (c:=7) rfl (by omega) rfl h λA7 h=>?_;exact step (c:=8) rfl (by omega) rfl h λA8 h=>hK A8 h
def dZ (f:Ln->Ln) (k:Nat) (ls:List Ln):List Ln:=(ls.take k).map f++ls.drop k
theorem wF (f:Ln->Ln):dZ f 0 ls=ls:=by simp [dZ]
theorem yA (f:Ln->Ln) (h:ls.length<=k):dZ f k ls=ls.map f:=by simp [dZ,List.take_of_length_le h,List.drop_eq_nil_of_le h]
theorem lL {f:Ln->Ln} (hk:ls[k]? = some y):(dZ f k ls)[k]? = some y:=by
 have hlt:=(List.getElem?_eq_some_iff.1 hk).1;unfold dZ;rw [List.getElem?_append_right (by simp;omega)];simp only [List.length_map,List.length_take,Nat.min_eq_left (Nat.le_of_lt hlt),Nat.sub_self,List.getElem?_drop,Nat.add_zero];exact hk
theorem oA {f:Ln->Ln} (hk:ls[k]? = some y):(dZ f k ls).set k (f y)=dZ f (k+1) ls:=by
 have hlt:=(List.getElem?_eq_some_iff.1 hk).1;unfold dZ;rw [List.set_append_right _ _ (by simp;omega)]
 have e1:ls.drop k=y::ls.drop (k+1):=by
  rw [List.drop_eq_getElem_cons hlt];rw [List.getElem?_eq_getElem hlt] at hk;rw [Option.some.inj hk]
 have e2:ls.take (k+1)=ls.take k++[y]:=by
  rw [List.take_add_one,hk];rfl
 rw [e1,e2];simp [Nat.min_eq_left (Nat.le_of_lt hlt)]
theorem wH {f:Ln->Ln} (hk:ls[k]? = some y) (hf:f y=y):dZ f (k+1) ls=dZ f k ls:=by
 rw [<-oA hk,hf];have:=lL (f:=f) hk;apply List.ext_getElem?;intro j;rw [List.getElem?_set];split
 ·rename_i e;subst e;rw [if_pos (List.getElem?_eq_some_iff.1 this).1,this]
 ·rfl
def TlbS (p:Nat) (ls:List Ln):SP:=λB=>ls.length=16/\At p (mJ ls) B
theorem TlbS.openH (h:Own (TlbS p ls::R) A):ls.length=16/\Own (At p (mJ ls)::R) A:=Own.pure h
theorem TlbS.closeH (hl:ls.length=16) (h:Own (At p (mJ ls)::R) A):Own (TlbS p ls::R) A:=h.imp λ_ hB=>⟨hl,hB⟩
def allF (stay:Bool) (y:Ln):Ln:=if (!stay || !y.g)=true then ln0 else y
theorem aGC {stay:Bool} {Q:AH->Prop} (h:Own (TlbS p ls::R) A) (hk:∀ A',Own (TlbS p (ls.map (allF stay))::R) A'->Q A'):qdc_A (some ⟨p,0,none⟩) stay Q A:=by
 obtain ⟨hl,h⟩:=TlbS.openH h;unfold qdc_A qdc_G qdb_A qdb_G;refine aX (cs:=[.bool stay]) h λb A1 h1=>?_;have h1:=h1.swap;refine ⟨λx mm A'=>∃ i:Nat,x=i/\mm+i=8/\Own (At p (mJ (dZ (allF stay) (i*2) ls))::At b [.bool stay]::R) A',⟨8,0,rfl,rfl,by simpa [wF] using h1⟩,?_⟩;intro x mm A2 ⟨i,e1,e2,h2⟩;subst e1;refine aG (λc=>?_) λc=>?_
 ·have c:(i:Int)<8:=of_decide_eq_true c;refine ⟨λx m2 A'=>∃ j:Nat,x=j/\m2+j=2/\Own (At p (mJ (dZ (allF stay) (i*2+j) ls))::At b [.bool stay]::R) A',⟨2,0,rfl,rfl,h2⟩,?_⟩;intro x m2 A3 ⟨j,e3,e4,h3⟩;subst e3;refine aG (λc2=>?_) λc2=>?_
  ·have c2:(j:Int)<2:=of_decide_eq_true c2;obtain ⟨y,hy⟩:∃ y,ls[i*2+j]? = some y:=⟨ls[i*2+j]'(by omega),by simp⟩;refine ⟨λA'=>Own (At p (mJ (dZ (allF stay) (i*2+(j+1)) ls))::At b [.bool stay]::R) A',λA4 h4=>⟨m2-1,by omega,j+1,by rw [bG]<;>omega,by omega,h4⟩,?_⟩;simp only [aH,add_at,Nat.zero_add,Int.toNat_natCast];refine inB_in (by omega) c (inB_in (by omega) c2 ?_);refine aBI (i:=0) (k:=i*2+j) h3 rfl (lL hy) (by omega) ?_;unfold qda_A;simp only [aH];refine aY (i:=1) h3 rfl rfl ?_
   have keep:(!stay || !y.g)=false->Own (At p (mJ (dZ (allF stay) (i*2+(j+1)) ls))::At b [.bool stay]::R) A3:=λg=>by
    rw [<-Nat.add_assoc,wH hy (by unfold allF;rw [g];rfl)];exact h3
   have go:(!stay || !y.g)=true->_:=λg=>inB_in (by omega) c (inB_in (by omega) c2 (aBr (m:=ln0) (K:=λA'=>Own (At p (mJ (dZ (allF stay) (i*2+(j+1)) ls))::At b [.bool stay]::R) A') h3 (lL hy) (o:=i*18+j*9) (by omega) λA4 h4=>by
    have e:allF stay y=ln0:=by unfold allF;rw [if_pos g]
    rw [<-e,oA hy,Nat.add_assoc] at h4;exact h4))
   refine aG (λg=>aN rfl (go (by rw [g];rfl))) λg=>?_;cases hg:y.g with
   | false=>exact aN rfl (go (by rw [hg,g];rfl))
   | true=>exact bsel_f rfl (keep (by rw [hg,g];rfl))
  ·have c2:¬(j:Int)<2:=of_decide_eq_false c2;have hj:j=2:=by omega
   subst hj;exact ⟨mm-1,by omega,i+1,by rw [bG]<;>omega,by omega,by rw [show (i+1)*2=i*2+2 by omega];exact h3⟩
 ·have c:¬(i:Int)<8:=of_decide_eq_false c;have hi:i=8:=by omega
  subst hi;rw [yA _ (by omega)] at h2;exact hk A2 (TlbS.closeH (by simpa using hl) (h2.cons λC hC=>hC.tail))
end Go.Dn
namespace Go.Dn
variable {A:AH} {R:List SP} {p i k o:Nat} {ls:List Ln} {y m:Ln} {s:Sl}
theorem yQ {α:Type} {L:List α} {v:Nat} {z:α} (h:L[v]? = some z):L.take (v+1)=L.take v++[z]:=by rw [List.take_add_one,h];rfl
def fitsB (tag page:Int) (y:Ln):Bool:=y.v&&(y.page==page&&(y.tag==tag || y.g))
def clrF (tag page:Int) (g:Bool) (y:Ln):Ln:=if (fitsB tag page y || (g&&(y.v&&y.page==page)))=true then ln0 else y
def fillJ (s j:Nat) (f:Ln->Ln) (ls:List Ln):List Ln:=ls.mapIdx λt z=>if s*2<=t/\t<s*2+j then f z else z
def aA2 (ls:List Ln) (way:Nat) (m:Ln):List Ln:=(fillJ (m.page % 8).toNat 2 (clrF m.tag m.page m.g) ls).set ((m.page % 8).toNat*2+way) m
theorem aEA {s j:Nat} {f:Ln->Ln}:(fillJ s j f ls).length=ls.length:=by simp [fillJ]
theorem aCn {s:Nat} {f:Ln->Ln}:fillJ s 0 f ls=ls:=by
 apply List.ext_getElem?;intro t;unfold fillJ;rw [List.getElem?_mapIdx];cases ls[t]? with
 | none=>rfl
 | some z=>
  simp only [Option.map_some];rw [if_neg (by omega)]
theorem l0 {s j:Nat} {f:Ln->Ln} (hy:ls[s*2+j]? = some y):(fillJ s j f ls)[s*2+j]? = some y:=by
 unfold fillJ;rw [List.getElem?_mapIdx,hy];simp only [Option.map_some];rw [if_neg (by omega)]
theorem uN {s j:Nat} {f:Ln->Ln} (hy:ls[s*2+j]? = some y):(fillJ s j f ls).set (s*2+j) (f y)=fillJ s (j+1) f ls:=by
 have hlt:=(List.getElem?_eq_some_iff.1 hy).1;apply List.ext_getElem?;intro t;rw [List.getElem?_set];unfold fillJ;by_cases e:s*2+j=t
 ·subst e;rw [if_pos rfl,if_pos (by simp;omega),List.getElem?_mapIdx,hy];simp only [Option.map_some];rw [if_pos (by omega)]
 ·rw [if_neg e,List.getElem?_mapIdx,List.getElem?_mapIdx];cases ls[t]? with
  | none=>rfl
  | some z=>
   simp only [Option.map_some];by_cases q:s*2<=t/\t<s*2+j
   ·rw [if_pos q,if_pos (by omega)]
   ·rw [if_neg q,if_neg (by omega)]
theorem aC0 {s j:Nat} {f:Ln->Ln} (hy:ls[s*2+j]? = some y) (hf:f y=y):fillJ s (j+1) f ls=fillJ s j f ls:=by
 rw [<-uN hy,hf];have:=l0 (f:=f) hy;apply List.ext_getElem?;intro t;rw [List.getElem?_set];split
 ·rename_i e;subst e;rw [if_pos (List.getElem?_eq_some_iff.1 this).1,this]
 ·rfl
theorem aLm {x:Int} (h0:0<=x) (h1:x<9223372036854775808):bits .and .i64 x 7=x % 8:=by
 obtain ⟨n,rfl⟩:∃ n:Nat,x=n:=⟨x.toNat,by omega⟩;have h2:bits .and .i64 (n:Int) 7=IntKind.wrap .i64 ((BitVec.ofInt 64 n&&& BitVec.ofInt 64 7).toNat:Int):=rfl;have h3:n&&& 7=n % 8:=Nat.and_two_pow_sub_one_eq_mod n 3;rw [h2,BitVec.toNat_and,BitVec.ofInt_natCast,show BitVec.ofInt 64 7=BitVec.ofNat 64 7 from rfl,BitVec.toNat_ofNat,BitVec.toNat_ofNat,Nat.mod_eq_of_lt (by omega),Nat.mod_eq_of_lt (by omega),h3,bG]<;>omega
theorem aEu {way:Nat} {Q:Int->AH->Prop} (h:Own (TlbS p ls::R) A) (hw:way<2) (hv:m.v=true) (ht:0<=m.tag/\m.tag<4096) (hp:0<=m.page/\m.page<9223372036854775808) (hf:0<=m.frame) (hk:∀ A',Own (TlbS p (aA2 ls way m)::R) A'->Q 0 A') :
  qec_A (some ⟨p,0,none⟩) way m.v m.tag m.page m.frame m.w m.u m.x m.g m.d Q A:=by
 obtain ⟨hl,h⟩:=TlbS.openH h;unfold qec_A qec_G;refine ⟨λA'=>A'=A,λA1 e=>?_,?_⟩
 ·subst e;unfold qde_A qdf_A;simp only [aH,add_at,Nat.zero_add,aLm hp.1 hp.2];obtain ⟨s,hs⟩:∃ s:Nat,m.page % 8=s:=⟨(m.page % 8).toNat,by omega⟩;have hs8:s<8:=by omega
  have hfz:aA2 ls way m=(fillJ s 2 (clrF m.tag m.page m.g) ls).set (s*2+way) m:=by unfold aA2;rw [hs,Int.toNat_natCast]
  rw [hfz] at hk;rw [hs];simp only [Int.toNat_natCast];refine inB_in (by omega) (by omega) ?_;refine ⟨λx mm A'=>∃ j:Nat,x=j/\mm+j=2/\Own (At p (mJ (fillJ s j (clrF m.tag m.page m.g) ls))::R) A',⟨2,0,rfl,rfl,by rw [aCn];exact h⟩,?_⟩;intro x mm A2 ⟨j,e1,e2,h2⟩;subst e1;refine aG (λc=>?_) λc=>?_
  ·have c:(j:Int)<2:=of_decide_eq_true c;obtain ⟨y,hy⟩:∃ y,ls[s*2+j]? = some y:=⟨ls[s*2+j]'(by omega),by simp⟩;simp only [Int.toNat_natCast];refine ⟨λA'=>Own (At p (mJ (fillJ s (j+1) (clrF m.tag m.page m.g) ls))::R) A',λA3 h3=>⟨mm-1,by omega,j+1,by rw [bG]<;>omega,by omega,h3⟩,?_⟩;refine inB_in (by omega) c (aBI (i:=0) (k:=s*2+j) h2 rfl (l0 hy) (by omega) ?_)
   have keep:(fitsB m.tag m.page y || (m.g&&(y.v&&y.page==m.page)))=false->Own (At p (mJ (fillJ s (j+1) (clrF m.tag m.page m.g) ls))::R) A2:=λg=>by
    rw [aC0 hy (by unfold clrF;rw [g];rfl)];exact h2
   have go:(fitsB m.tag m.page y || (m.g&&(y.v&&y.page==m.page)))=true->_:=λg=>inB_in (by omega) c (aBr (m:=ln0) (K:=λA'=>Own (At p (mJ (fillJ s (j+1) (clrF m.tag m.page m.g) ls))::R) A') h2 (l0 hy) (o:=s*18+j*9) (by omega) λA4 h4=>by
    have e:clrF m.tag m.page m.g y=ln0:=by unfold clrF;rw [if_pos g]
    rw [<-e,uN hy] at h4;exact h4)
   have rest:fitsB m.tag m.page y=false->_:=λgf=>(aG (b:=m.g) (X:=bF (j:Int) 2 (aB ⟨p,s*18+j*9,none⟩ A2 λb32=>bsel b32 (bF (j:Int) 2 (aI .i64 ⟨p,s*18+j*9+2,none⟩ A2 λn33=>bsel (n33==m.page) (bF (j:Int) 2 (aC ⟨p,s*18+j*9,none⟩ (.bool false) A2 λh0=>aC ⟨p,s*18+j*9+1,none⟩ (.int .i64 0) h0 λh1=>aC ⟨p,s*18+j*9+2,none⟩ (.int .i64 0) h1 λh2=>aC ⟨p,s*18+j*9+3,none⟩ (.int .i64 0) h2 λh3=>aC ⟨p,s*18+j*9+4,none⟩ (.bool false) h3 λh4=>aC ⟨p,s*18+j*9+5,none⟩ (.bool false) h4 λh5=>aC ⟨p,s*18+j*9+6,none⟩ (.bool false) h5 λh6=>aC ⟨p,s*18+j*9+7,none⟩ (.bool false) h6 λh7=>aC ⟨p,s*18+j*9+8,none⟩ (.bool false) h7 λA'=>Own (At p (mJ (fillJ s (j+1) (clrF m.tag m.page m.g) ls))::R) A')) (Own (At p (mJ (fillJ s (j+1) (clrF m.tag m.page m.g) ls))::R) A2))) (Own (At p (mJ (fillJ s (j+1) (clrF m.tag m.page m.g) ls))::R) A2))) (Y:=Own (At p (mJ (fillJ s (j+1) (clrF m.tag m.page m.g) ls))::R) A2)
    (λg1=>inB_in (by omega) c (aY (i:=0) h2 rfl (by have:=iG (l0 (f:=clrF m.tag m.page m.g) hy) (c:=0) (by omega);rwa [show (s*2+j)*9+0=s*18+j*9 by omega] at this) (aG (λg2=>inB_in (by omega) c (ld_I (i:=0) h2 rfl (by have:=iG (l0 (f:=clrF m.tag m.page m.g) hy) (c:=2) (by omega);rwa [show (s*2+j)*9+2=s*18+j*9+2 by omega] at this) (aG (λg3=>go (by rw [gf,g1,g2,g3];rfl)) λg3=>keep (by rw [gf,g1,g2,g3];rfl)))) λg2=>keep (by rw [gf,g1,g2];rfl))))
    λg1=>keep (by rw [gf,g1];rfl))
   refine aG (λa1=>aG (λa2=>aG (λa3=>aN rfl (go (by unfold fitsB;rw [a1,a2,a3];rfl))) λa3=>?_) λa2=>bsel_f rfl (rest (by unfold fitsB;rw [a1,a2];rfl))) λa1=>bsel_f rfl (rest (by unfold fitsB;rw [a1];rfl));refine aG (λa4=>go (by unfold fitsB;rw [a1,a2,a3,a4];rfl)) λa4=>rest (by unfold fitsB;rw [a1,a2,a3,a4];rfl)
  ·have c:¬(j:Int)<2:=of_decide_eq_false c;have hj:j=2:=by omega
   subst hj;have hlen:(fillJ s 2 (clrF m.tag m.page m.g) ls).length=16:=by rw [aEA,hl]
   refine inB_in (by omega) (by omega) ?_;obtain ⟨y,hy⟩:∃ y,(fillJ s 2 (clrF m.tag m.page m.g) ls)[s*2+way]? = some y:=⟨(fillJ s 2 (clrF m.tag m.page m.g) ls)[s*2+way]'(by omega),by simp⟩;refine aBr (m:=m) h2 hy (o:=s*18+way*9) (by omega) λA3 h3=>hk A3 (TlbS.closeH (by simp [hlen]) h3)
 ·refine bsel_f (by simp) (bsel_f (by simp;omega) (bsel_f (by simp;omega) (bsel_f (by simp;omega) (bsel_f (by simp;omega) (bsel_f (by simp;omega) (bsel_f (by rw [hv];rfl) rfl))))))
end Go.Dn
namespace Go.Dn
structure Reg where
 a:Int
 b:Int
 w:Bool
 u:Bool
 x:Bool
 k:Int
def Reg.cells (r:Reg):List Value:=[.int .i64 r.a,.int .i64 r.b,.bool r.w,.bool r.u,.bool r.x,.int .i64 r.k]
def regC (L:List Reg):List Value:=L.flatMap Reg.cells
variable {A:AH} {l R:List SP} {P:SP} {i k v:Nat} {s:Sl} {L:List Reg} {y:Reg}
theorem bX:∀ L:List Reg,(regC L).length=L.length*6
 | []=>rfl
 | y::L=>by
  have:=bX L;unfold regC at this ⊢;rw [List.flatMap_cons,List.length_append,this,List.length_cons];simp [Reg.cells];omega
theorem gS (a b:List Reg):regC (a++b)=regC a++regC b:=List.flatMap_append
theorem aAb:∀ {L:List Reg} {v:Nat} {y:Reg} {c:Nat} {z:Value},L[v]? = some y->y.cells[c]? = some z->(regC L)[v*6+c]? = some z
 | [],v,a,c,x,h,_=>by simp at h
 | b::r,0,a,c,x,h,hc=>by
  simp at h;subst h;have hlt:c<6:=(List.getElem?_eq_some_iff.1 hc).1;unfold regC;rw [List.flatMap_cons,List.getElem?_append_left (by simp [Reg.cells];omega),Nat.zero_mul,Nat.zero_add];exact hc
 | b::r,v+1,a,c,x,h,hc=>by
  have h:r[v]? = some a:=by simpa using h
  unfold regC;rw [List.flatMap_cons,List.getElem?_append_right (by simp [Reg.cells];omega)];have:(v+1)*6+c-b.cells.length=v*6+c:=by simp [Reg.cells];omega
  rw [this];exact aAb h hc
theorem regC_one {v:Value} (h:v ∈ regC L):v.oneCell'=true:=by
 obtain ⟨d,_,hd⟩:=List.mem_flatMap.1 h;simp [Reg.cells] at hd;rcases hd with rfl | rfl | rfl | rfl | rfl | rfl<;>rfl
theorem aFM {L:List Reg} (h:regC L=[]):L=[]:=by
 have:=bX L;rw [h] at this;exact List.length_eq_zero_iff.1 (by simp at this;omega)
theorem dN (h:Own l A) (e:l[k]? = some P) (hr:bI P s 6 (regC L)):s.len=L.length:=by
 have:=eV h e hr;rw [bX] at this;omega
theorem nX (h:Own l A) (e:l[k]? = some P) (hr:bI P s 6 (regC L)) (hv:L[v]? = some y) :
  ∃ a,s.a=some a/\∀ K:Int->Int->Bool->Bool->Bool->Int->Prop,K y.a y.b y.w y.u y.x y.k->
   aI .i64 (Addr.add a (Int.toNat (v:Int)*6)) A λn0=>aI .i64 (Addr.add (Addr.add a (Int.toNat (v:Int)*6)) 1) A λn1=>aB (Addr.add (Addr.add a (Int.toNat (v:Int)*6)) 2) A λb2=>
    aB (Addr.add (Addr.add a (Int.toNat (v:Int)*6)) 3) A λb3=>aB (Addr.add (Addr.add a (Int.toNat (v:Int)*6)) 4) A λb4=>aI .i64 (Addr.add (Addr.add a (Int.toNat (v:Int)*6)) 5) A λn5=>K n0 n1 b2 b3 b4 n5:=by
 obtain ⟨bb,o,q0,c0⟩:=bW h e hr (j:=v*6+0) (aAb hv (c:=0) rfl);refine ⟨_,q0,λK hK=>?_⟩
 have hc:∀ c z,y.cells[c]? = some z->bM A ⟨bb,o+v*6+c,none⟩=some z:=λc z hz=>by
  obtain ⟨b2,o2,q1,c1⟩:=bW h e hr (j:=v*6+c) (aAb hv hz);rw [q0] at q1;cases q1;rw [Nat.add_assoc];exact c1
 simp only [add_at,Int.toNat_natCast];exact ⟨_,by simpa using hc 0 _ rfl,_,hc 1 _ rfl,_,hc 2 _ rfl,_,hc 3 _ rfl,_,hc 4 _ rfl,_,hc 5 _ rfl,hK⟩
theorem aAN {t:TypeId} {K:Sl->AP} (h:Own (SlO s 6 (regC L)::R) A) (hs:s.a=none->L=[]) (hb:L.length<=1000000)
  (hk:∀ s' A',s'.a≠none->Own (SlO s' 6 (regC (L++[y]))::R) A'->K s' A') :
  aT A (.cells #[.int .i64 y.a,.int .i64 y.b,.bool y.w,.bool y.u,.bool y.x,.int .i64 y.k] t) λb h2=>
   jZ 6 32 #[(.int .i64 (0:Int)),(.int .i64 (0:Int)),(.bool false),(.bool false),(.bool false),(.int .i64 (0:Int))] t s (Sl.mk (some (Addr.mk b 0 none)) 1 1) h2 K:=by
 have hl:s.len=L.length:=by
  obtain ⟨B,_,hB⟩:=h.sat;have:=hB.1.1;rw [bX] at this;omega
 refine aX (cs:=y.cells) h λb A1 h1=>?_;have h1:=h1.swap;refine cN (i:=0) h1 rfl (fD (n:=1) (sz:=6) (cs:=y.cells) (rest:=[]) rfl) (λg=>nomatch g) (λg=>by rw [hs g];rfl) rfl (λv hv=>?_) ⟨by simp only [hl];omega,by simp only [hl];omega⟩ λs' A2 j1 j2 h2=>?_
 ·exact regC_one (L:=[y]) (by simpa [regC] using hv)
 ·refine hk s' A2 (λg=>?_) ?_
  ·have:=j2 g;simp [Reg.cells] at this
  ·rw [gS];have:regC [y]=y.cells:=by simp [regC]
   rw [this];exact Own.cons (λC hC=>hC.tail) h2
def eH (p q:Reg):Bool:=p.b==q.a&&((p.w==q.w&&(p.u==q.u&&(p.x==q.x&&true)))&&p.k==q.k)
theorem wE {p q:Reg} {Q:Bool->AH->Prop} (hk:Q (eH p q) A):qej_A p.a p.b p.w p.u p.x p.k q.a q.b q.w q.u q.x q.k Q A:=by
 unfold qej_A;unfold eH at hk;refine aG (λg=>aG (λg2=>?_) λg2=>?_) λg=>?_
 ·rw [g,g2] at hk;exact hk
 ·rw [g,g2] at hk;exact hk
 ·rw [g] at hk;exact hk
def rightB (a b:Int):Bool:=decide (a>=0)&&(decide (b > a)&&(decide (b<=34359738368)&&decide (b-a<=65536)))
theorem aDa {a b:Int} {Q:Bool->AH->Prop} (hk:Q (rightB a b) A):qei_A a b Q A:=by
 unfold qei_A;unfold rightB at hk;refine aG (λg=>aG (λg2=>aG (λg3=>?_) λg3=>?_) λg2=>?_) λg=>?_
 ·have g':=of_decide_eq_true g;have g2':=of_decide_eq_true g2;have g3':=of_decide_eq_true g3;rw [bG (by omega) (by omega)];rw [g,g2,g3] at hk;exact hk
 ·rw [g,g2,g3] at hk;exact hk
 ·rw [g,g2] at hk;exact hk
 ·rw [g] at hk;exact hk
def kU (out:List Reg) (r:Reg):List Reg:=match out.getLast? with
 | some q=>if eH q r=true then out.dropLast++[{ q with b:=r.b }] else out++[r]
 | none=>[r]
def mergedR (L:List Reg):List Reg:=L.foldl kU []
theorem aGl (out:List Reg) (r:Reg):(kU out r).length<=out.length+1:=by
 unfold kU;split
 ·split<;>simp<;>omega
 ·simp
theorem aCQ {α β:Type} (f:β->α->β) (z:β) (L:List α) {v:Nat} {y:α} (h:L[v]? = some y):(L.take (v+1)).foldl f z=f ((L.take v).foldl f z) y:=by
 rw [yQ h,List.foldl_append];rfl
theorem zA:∀ (L:List Reg),(mergedR L).length<=L.length:=by
 intro L;unfold mergedR
 have:∀ (L:List Reg) (o:List Reg),(L.foldl kU o).length<=o.length+L.length:=by
  intro L
  induction L with
  | nil=>intro o;simp
  | cons y L ih=>
   intro o;have h1:=ih (kU o y);have h2:=aGl o y;simp only [List.foldl_cons,List.length_cons];omega
 simpa using this L []
theorem aEJ {o:List Reg} {q r:Reg} (n:Int):(regC (o++[q])).set (o.length*6+1) (.int .i64 n)=regC (o++[{ q with b:=n }]):=by
 rw [gS,gS,List.set_append_right _ _ (by rw [bX];omega),bX,show o.length*6+1-o.length*6=1 by omega];rfl
theorem aAz {Q:Sl->AH->Prop} (h:Own l A) (e:l[k]? = some P) (hr:bI P s 6 (regC L)) (hb:L.length<=100000)
  (hk:∀ s' A',(s'.a=none->mergedR L=[])->Own (SlO s' 6 (regC (mergedR L))::l) A'->Q s' A'):qep_A s Q A:=by
 have hl:=dN h e hr;unfold qep_A qep_G
 refine ⟨λo x m A'=>∃ v:Nat,x=v/\m+v=L.length/\(o.a=none->mergedR (L.take v)=[])/\Own (SlO o 6 (regC (mergedR (L.take v)))::l) A',⟨L.length,0,rfl,rfl,λ_=>rfl,
  ⟨λ_=>none,A,λ_=>.inl rfl,(λ_ _ e=>nomatch e),lA.refl A,SlO.nil,h⟩⟩,?_⟩
 intro o x m A1 ⟨v,e1,e2,ho,h1⟩;subst e1;refine aG (λc=>?_) λc=>?_
 ·have c:(v:Int)<s.len:=of_decide_eq_true c;obtain ⟨y,hy⟩:∃ y,L[v]? = some y:=⟨L[v]'(by omega),by simp⟩;have hst:mergedR (L.take (v+1))=kU (mergedR (L.take v)) y:=aCQ _ _ _ hy;have hml:(mergedR (L.take v)).length<=v:=Nat.le_trans (zA _) (by simp;omega);refine ⟨λo' A'=>(o'.a=none->mergedR (L.take (v+1))=[])/\Own (SlO o' 6 (regC (mergedR (L.take (v+1))))::l) A',λo' A2 ⟨f1,f2⟩=>⟨m-1,by omega,v+1,by rw [bG]<;>omega,by omega,f1,f2⟩,?_⟩;obtain ⟨a,q1,q2⟩:=nX (k:=k+1) h1 (by simpa using e) hr hy;rw [q1];refine inB_in (by omega) c (q2 _ ?_)
  have hol:o.len=(mergedR (L.take v)).length:=by
   obtain ⟨B,_,hB⟩:=h1.sat;have:=hB.1.1;rw [bX] at this;omega
  rw [hst];generalize mergedR (L.take v)=out at *;refine aG (λg=>?_) λg=>?_
  ·have g:(o.len:Int) > 0:=of_decide_eq_true g
   have e1:IntKind.wrap .i64 ((Int.ofNat o.len)-(1:Int))=((out.length-1:Nat):Int):=by
    show IntKind.wrap .i64 ((o.len:Int)-1)=_;rw [bG]<;>omega
   rw [e1];obtain ⟨q,hq⟩:∃ q,out[out.length-1]? = some q:=⟨out[out.length-1]'(by omega),by simp⟩;have hlast:out.getLast? = some q:=by rw [List.getLast?_eq_getElem?];exact hq
   have hdl:out=out.dropLast++[q]:=by
    have hne:out≠[]:=λz=>by rw [z] at hlast;simp at hlast
    have:=List.dropLast_concat_getLast hne;rw [List.getLast?_eq_some_getLast hne] at hlast;rw [<-Option.some.inj hlast];exact this.symm
   obtain ⟨a2,p1,p2⟩:=nX (k:=0) h1 rfl aU hq;rw [p1];refine inB_in (by omega) (by omega) (p2 _ (wE ?_));have hm:kU out y=if eH q y=true then out.dropLast++[{ q with b:=y.b }] else out++[y]:=by unfold kU;rw [hlast]
   refine aG (λj=>?_) λj=>?_
   ·rw [hm,if_pos j];refine inB_in (by omega) (by omega) ?_
    -- the last one's end is moved
    obtain ⟨B,C,d1,d2,d3,d4,d5⟩:=h1;have hne:¬ o.cap=0:=by have:=d4.1.2;omega
    have h1':Own ((λB=>∃ b rest,o.a=some ⟨b,0,none⟩/\((o.len*6=(regC out).length/\o.len<=o.cap)/\(regC out++rest).length=o.cap*6)/\At b (regC out++rest) B)::l) A1:=by
     rcases d4.2 with g0 | ⟨b,rest,g1,g2,g3⟩
     ·exact absurd g0 hne
     ·exact ⟨B,C,d1,d2,d3,⟨b,rest,g1,⟨d4.1,g2⟩,g3⟩,d5⟩
    obtain ⟨b,h1'⟩:=Own.ex h1';obtain ⟨rest,h1'⟩:=Own.ex h1';obtain ⟨ha,h1'⟩:=Own.pure h1';obtain ⟨⟨hlen,hroom⟩,h1'⟩:=Own.pure h1';rw [ha] at p1;cases p1;simp only [add_at,Nat.zero_add,Int.toNat_natCast];have hrl:=bX out;refine aJ (i:=0) h1' rfl (by rw [List.getElem?_append_left (by omega)];simp;omega) rfl λA2 h2=>?_;have h2:Own (At b ((regC out++rest).set ((out.length-1)*6+1) (.int .i64 y.b))::l) A2:=h2;rw [List.set_append_left _ _ (by omega)] at h2
    have hcl:(regC out).set ((out.length-1)*6+1) (.int .i64 y.b)=regC (out.dropLast++[{ q with b:=y.b }]):=by
     have hd:out.length-1=out.dropLast.length:=by simp
     conv=>lhs;rw [hdl]
     rw [show (out.dropLast++[q]).length-1=out.dropLast.length by simp];exact aEJ (r:=y) y.b
    rw [hcl] at h2
    have hl2:(regC (out.dropLast++[{ q with b:=y.b }])).length=(regC out).length:=by
     rw [bX,bX];have:=congrArg List.length hdl;simp at this ⊢;omega
    refine ⟨λz=>(by rw [ha] at z;cases z),Own.imp (λB hB=>⟨⟨by rw [hl2];exact hlen.1,hlen.2⟩,.inr ⟨b,rest,ha,by rw [List.length_append,hl2,<- List.length_append];exact hroom,hB⟩⟩) h2⟩
   ·have j:¬ eH q y=true:=by rw [j];simp
    rw [hm,if_neg j];exact aAN h1 ho (by omega) λs' A2 j1 h2=>⟨λz=>absurd z j1,h2⟩
  ·have g:¬ (o.len:Int) > 0:=of_decide_eq_false g;have h0:out=[]:=List.length_eq_zero_iff.1 (by omega);subst h0;exact aAN h1 ho (by simp) λs' A2 j1 h2=>⟨λz=>absurd z j1,h2⟩
 ·have c:¬(v:Int)<s.len:=of_decide_eq_false c;have hv:v=L.length:=by omega
  subst hv;rw [List.take_length] at ho h1;exact hk o A1 ho h1
end Go.Dn
namespace Go.Dn
variable {A:AH} {l:List SP} {P:SP} {k v:Nat} {s:Sl} {L:List Reg} {y:Reg}
def okP (o:Option Reg) (y:Reg):Bool:=!decide (y.a<0)&&(!decide (y.b<=y.a)&&(!decide (y.b > 34359738368)&&match o with
 | none=>true
 | some q=>!decide (q.b > y.a)&&!eH q y))
def okR6 (L:List Reg) (v:Nat):Bool:=match L[v]? with
 | none=>true
 | some y=>okP (if v=0 then none else L[v-1]?) y
theorem Own.nil6 {sz:Nat} (h:Own l A):Own (SlO Sl.nil sz []::l) A:=⟨λ_=>none,A,λ_=>.inl rfl,(λ_ _ e=>nomatch e),lA.refl A,SlO.nil,h⟩
def goodB (L:List Reg):Bool:=decide (L.length<=64)&&(List.range L.length).all (okR6 L)
theorem aJj {v:Nat} (hv:v<L.length) (h:okR6 L v=false):goodB L=false:=by
 unfold goodB;rw [Bool.and_eq_false_iff];right;rw [List.all_eq_false];exact ⟨v,by simpa using hv,by rw [h];simp⟩
theorem aEp {Q:Bool->AH->Prop} (h:Own l A) (e:l[k]? = some P) (hr:bI P s 6 (regC L)) (hk:Q (goodB L) A):qek_A s Q A:=by
 have hl:=dN h e hr;unfold qek_A qek_G;refine aG (λg=>?_) λg=>?_
 ·have g:(s.len:Int) > 64:=of_decide_eq_true g;have:goodB L=false:=by unfold goodB;rw [decide_eq_false (by omega)];rfl
  rwa [this] at hk
 have g:¬ (s.len:Int) > 64:=of_decide_eq_false g;refine ⟨λx m A'=>∃ v:Nat,x=v/\m+v=L.length/\A'=A/\∀ t,t<v->okR6 L t=true,⟨L.length,0,rfl,rfl,rfl,λt ht=>by omega⟩,?_⟩;intro x m A1 ⟨v,e1,e2,e3,e4⟩;subst e1 e3;refine aG (λc=>?_) λc=>?_
 ·have c:(v:Int)<s.len:=of_decide_eq_true c;obtain ⟨y,hy⟩:∃ y,L[v]? = some y:=⟨L[v]'(by omega),by simp⟩;obtain ⟨a,q1,q2⟩:=nX h e hr hy;rw [q1];refine inB_in (by omega) c (q2 _ ?_);have no:okR6 L v=false->Q false A1:=λz=>by rw [aJj (by omega) z] at hk;exact hk
  have next:okR6 L v=true->∃ m3,m3<m/\∃ v':Nat,IntKind.wrap .i64 ((v:Int)+1)=v'/\m3+v'=L.length/\A1=A1/\∀ t,t<v'->okR6 L t=true:=λz=>
   ⟨m-1,by omega,v+1,by rw [bG]<;>omega,by omega,rfl,λt ht=>by
    rcases Nat.lt_or_eq_of_le (Nat.le_of_lt_succ ht) with q | q
    ·exact e4 t q
    ·subst q;exact z⟩
  have hdef:okR6 L v=okP (if v=0 then none else L[v-1]?) y:=by unfold okR6;rw [hy]
  unfold okP at hdef;refine aG (λg1=>no (by rw [hdef,g1];rfl)) λg1=>aG (λg2=>no (by rw [hdef,g1,g2];rfl)) λg2=>aG (λg3=>no (by rw [hdef,g1,g2,g3];rfl)) λg3=>?_;refine aG (λg4=>?_) λg4=>?_
  ·have g4:(v:Int) > 0:=of_decide_eq_true g4;obtain ⟨u,rfl⟩:∃ u,v=u+1:=⟨v-1,by omega⟩;have ew:IntKind.wrap .i64 (((u+1:Nat):Int)-1)=(u:Int):=by rw [bG]<;>omega
   rw [ew];obtain ⟨q,hq⟩:∃ q,L[u]? = some q:=⟨L[u]'(by omega),by simp⟩;obtain ⟨a2,p1,p2⟩:=nX h e hr hq;have ea:a2=a:=by rw [p1] at q1;exact Option.some.inj q1
   subst ea;rw [if_neg (by omega),Nat.add_sub_cancel,hq] at hdef;simp only at hdef;refine inB_in (by omega) (by omega) ?_
   have hb1:aI .i64 (Addr.add (Addr.add a2 (Int.toNat (u:Int)*6)) 1) A1 λn=>n=q.b:=by
    have:=p2 (λ_ n _ _ _ _=>n=q.b) rfl;obtain ⟨_,_,n,h1,_,_,_,_,_,_,_,_,h2⟩:=this;exact ⟨n,h1,h2⟩
   obtain ⟨n,hb1,hb2⟩:=hb1;refine ⟨n,hb1,?_⟩;rw [hb2];refine aG (λg5=>no (by rw [hdef,g1,g2,g3,g5];rfl)) λg5=>?_;refine inB_in (by omega) (by omega) (p2 _ (wE ?_));refine aG (λg6=>no (by rw [hdef,g1,g2,g3,g5,g6];rfl)) λg6=>next (by rw [hdef,g1,g2,g3,g5,g6];rfl)
  ·have g4:¬ (v:Int) > 0:=of_decide_eq_false g4;have hv:v=0:=by omega
   subst hv;exact next (by rw [hdef,if_pos rfl,g1,g2,g3];rfl)
 ·have c:¬(v:Int)<s.len:=of_decide_eq_false c
  have:goodB L=true:=by
   unfold goodB;rw [decide_eq_true (by omega),Bool.true_and,List.all_eq_true];intro t ht
   exact e4 t (by have:t<L.length:=by simpa using ht
                  omega)
  rwa [this] at hk
def findR (L:List Reg) (p:Int):Option Reg:=L.find? λr=>decide (r.a<=p)&&decide (p<r.b)
theorem aFb {p:Int} {Q:Int->Int->Bool->Bool->Bool->Int->Bool->AH->Prop} (h:Own l A) (e:l[k]? = some P) (hr:bI P s 6 (regC L)) (hb:L.length<=100000)
  (h0:findR L p=none->Q 0 0 false false false 0 false A) (h1:∀ y,findR L p=some y->y ∈ L->y.a<=p->p<y.b->Q y.a y.b y.w y.u y.x y.k true A):qdk_A s p Q A:=by
 have hl:=dN h e hr;unfold qdk_A;refine ⟨λx c6 c7 c8 c9 c10 c11 m A'=>∃ v:Nat,x=v/\m+v=L.length/\A'=A/\findR L p=findR (L.drop v) p/\c6=0/\c7=0/\c8=false/\c9=false/\c10=false/\c11=0,⟨L.length,0,rfl,rfl,rfl,by simp,rfl,rfl,rfl,rfl,rfl,rfl⟩,?_⟩;intro x c6 c7 c8 c9 c10 c11 m A1 ⟨v,e1,e2,e3,e4,z1,z2,z3,z4,z5,z6⟩;subst e1 e3 z1 z2 z3 z4 z5 z6;refine aG (λc=>?_) λc=>?_
 ·have c:(v:Int)<s.len:=of_decide_eq_true c;obtain ⟨y,hy⟩:∃ y,L[v]? = some y:=⟨L[v]'(by omega),by simp⟩;obtain ⟨a,q1,q2⟩:=nX h e hr hy;rw [q1];refine inB_in (by omega) c (q2 _ ?_)
  have hd:L.drop v=y::L.drop (v+1):=by
   have hlt:=(List.getElem?_eq_some_iff.1 hy).1;rw [List.drop_eq_getElem_cons hlt];rw [List.getElem?_eq_getElem hlt] at hy;rw [Option.some.inj hy]
  have next:(decide (y.a<=p)&&decide (p<y.b))=false->∃ m3,m3<m/\∃ v':Nat,IntKind.wrap .i64 ((v:Int)+1)=v'/\m3+v'=L.length/\A1=A1/\findR L p=findR (L.drop v') p/\(0:Int)=0/\(0:Int)=0/\false=false/\false=false/\false=false/\(0:Int)=0:=λz=>
   ⟨m-1,by omega,v+1,by rw [bG]<;>omega,by omega,rfl,by rw [e4,hd];unfold findR;rw [List.find?_cons,z],rfl,rfl,rfl,rfl,rfl,rfl⟩
  refine aG (λg=>aG (λg2=>?_) λg2=>next (by rw [g,g2];rfl)) λg=>next (by rw [g];rfl)
  refine h1 y ?_ (List.mem_of_getElem? hy) (of_decide_eq_true g) (of_decide_eq_true g2);rw [e4,hd];unfold findR;rw [List.find?_cons,g,g2];rfl
 ·have c:¬(v:Int)<s.len:=of_decide_eq_false c;refine h0 ?_;rw [e4,List.drop_eq_nil_of_le (by omega)];rfl
end Go.Dn
namespace Go.Dn
variable {A:AH} {l:List SP} {P:SP} {i k v:Nat} {s:Sl} {L:List Reg}
def aM0:Reg:=⟨0,0,false,false,false,0⟩
theorem sV {Q:Sl->AH->Prop} (h:Own l A) (e:l[k]? = some P) (hr:bI P s 6 (regC L)) (hb:L.length<=1000) (hn:s.a=none->L=[])
  (hk:∀ s' A',s'.len=L.length->(s'.a=none->L=[])->Own (SlO s' 6 (regC L)::l) A'->Q s' A'):qel_A s Q A:=by
 have hl:=dN h e hr;unfold qel_A;refine aG (λg=>?_) λg=>?_
 ·have g:s.a=none:=by simpa using g
  have hL:=hn g;subst hL;exact hk Sl.nil A rfl (λ_=>rfl) h.nil6
 ·have g:s.a≠none:=λz=>by rw [z] at g;cases g
  refine aX (cs:=[]) h λb1 A1 h1=>?_;have h2:Own (SlO ⟨some ⟨b1,0,none⟩,0,0⟩ 6 []::l) A1:=h1.imp λB _=>⟨⟨by simp,Nat.le_refl _⟩,.inl rfl⟩;refine cN (i:=k) h2 e hr (λz=>absurd z g) (λz=>by cases z) rfl (λv hv=>regC_one hv) ⟨by simp only [hl];omega,by simp only [hl];omega⟩ λs' A3 j1 j2 h3=>?_;exact hk s' A3 (by simp [j1,hl]) (λz=>aFM (by simpa using j2 z)) (by simpa using h3)
end Go.Dn
