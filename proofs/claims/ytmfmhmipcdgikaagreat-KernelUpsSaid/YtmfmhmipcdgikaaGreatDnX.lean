/- Functions, read over a part of the heap. -/
import Derived.Test.YtmfmhmipcdgikaaGreatDnW
import Derived.Test.YtmfmhmipcdgikaaGreatDnK
namespace Go.Dn
abbrev EnA:=List Value→(Value→AP)→(Value→AP)→AP
def upE (E:EnA):EnT:=fun args K Kp h=>∃ A L KA KpA,Sim A L h∧E args KA KpA A∧(∀ v A' h',Sim A' L h'→KA v A'→K v h')∧∀ v A' h',Sim A' L h'→KpA v A'→Kp v h'
def tabA:List (FuncId × EnA)→CTA
 | [],_,_,_,_,_=>False
 | (f,E)::r,g,args,K,Kp,A=>match Nat.beq f g with
  | true=>E args K Kp A
  | false=>tabA r g args K Kp A
def rdResA (P:Program):List ResultVar→SA→AH→(List Value→Prop)→Prop
 | [],_,_,K=>K []
 | .tmp t::r,s,A,K=>match look s.env t with
  | some v=>rdResA P r s A fun vs=>K (v::vs)
  | none=>False
 | .cell a t::r,s,A,K=>match lookB s.bv a with
  | some (i,k)=>match lookX s.bx i with
   | some (cells,_)=>ldX P t cells k fun v=>rdResA P r s A fun vs=>K (v::vs)
   | none=>False
  | none=>match look s.env a with
   | some va=>asAd va fun ad=>ldDA P t ad A fun v=>rdResA P r s A fun vs=>K (v::vs)
   | none=>False
def endA (P:Program) (fn:Func) (K Kp:Value→AP):Ex→SA→AP
 | .normal,s,A=>match s.ds with | []=>rdResA P fn.results.toList s A fun vs=>K (packV vs) A | _=>False
 | .ret,s,A=>match s.ds with | []=>rdResA P fn.results.toList s A fun vs=>K (packV vs) A | _=>False
 | .panic v,s,A=>match s.ds with | []=>Kp v A | _=>False
 | _,_,_=>False
def startA (args:List Value):SA:=⟨argE 0 args,[],[],[],[],[]⟩
def denFnA (P:Program) (CA:CTA) (pm:List Nat) (fn:Func) (ann:AnnA) (args:List Value) (K Kp:Value→AP) (A:AH):Prop:=
 denA P CA fn.ntmps pm ann (bodyOf fn) (endA P fn K Kp) (startA args) A
def denDfA (P:Program) (CA:CTA) (pm:List Nat) (fn:Func) (ann:AnnA) (args:List Value) (rv:Value) (K:AP) (A:AH):Prop:=
 match bodyOf fn with
 | .seq (.region _ ops false) y=>match ops.toList with
  | o::r=>match o.guard,o.op,fn.results.toList with
   | none,.call { callee:=.builtin .recover,args:=_,argTypes:=_ },[]=>
    putA fn.ntmps (startA args) o.dst (.v rv) fun s=>denOpsA P CA fn.ntmps pm (o::r) r s (fun s A=>denA P CA fn.ntmps pm ann y (fun e s A=>match e,s.ds with
     | .normal,[]=>K A
     | .ret,[]=>K A
     | _,_=>False) s A) (fun _ _ _=>False) A
   | _,_,_=>False
  | []=>False
 | _=>False
abbrev DnT':=List Value→AP→AP
abbrev DpT':=List Value→Value→AP→AP
def endDA (P:Program) (fn:Func) (g:FuncId) (Dn:DnT') (Dp:DpT') (K Kp:Value→AP):Ex→SA→AP
 | .normal,s,A=>match s.ds with
  | []=>rdResA P fn.results.toList s A fun vs=>K (packV vs) A
  | [d]=>match d.target with
   | .fn (.func g') cap=>match Nat.beq g' g with
    | true=>Dn (d.args.toList++cap.toList) (fun A'=>rdResA P fn.results.toList s A' fun vs=>K (packV vs) A') A
    | false=>False
   | _=>False
  | _=>False
 | .ret,s,A=>match s.ds with
  | []=>rdResA P fn.results.toList s A fun vs=>K (packV vs) A
  | [d]=>match d.target with
   | .fn (.func g') cap=>match Nat.beq g' g with
    | true=>Dn (d.args.toList++cap.toList) (fun A'=>rdResA P fn.results.toList s A' fun vs=>K (packV vs) A') A
    | false=>False
   | _=>False
  | _=>False
 | .panic v,s,A=>match s.ds with
  | []=>Kp v A
  | [d]=>match d.target with
   | .fn (.func g') cap=>match Nat.beq g' g with
    | true=>Dp (d.args.toList++cap.toList) v (fun A'=>rdResA P fn.results.toList s A' fun vs=>K (packV vs) A') A
    | false=>False
   | _=>False
  | _=>False
 | _,_,_=>False
def denFnDA (P:Program) (CA:CTA) (pm:List Nat) (fn:Func) (ann:AnnA) (g:FuncId) (Dn:DnT') (Dp:DpT') (args:List Value) (K Kp:Value→AP) (A:AH):Prop:=
 denA P CA fn.ntmps pm ann (bodyOf fn) (endDA P fn g Dn Dp K Kp) (startA args) A
inductive PSh | c (k:CK) | agg (l:List CK) | fn (g:FuncId) (first cap:List CK)
def ArS:List PSh→Type→Type
 | .fn _ a b::r,T=>ArC a (ArC b (ArS r T))
 | [],T=>T
 | .c k::r,T=>CKT k→ArS r T
 | .agg l::r,T=>ArC l (ArS r T)
def apS:(l:List PSh)→(T:Type)→ArS l T→List Value→(T→Prop)→Prop
 | [],_,R,[],G=>G R
 | .c k::r,T,R,v::vs,G=>apK k v fun x=>apS r T (R x) vs G
 | .agg l::r,T,R,v::vs,G=>match v with
  | .agg cs=>apC l (ArS r T) R cs.toList fun R1=>apS r T R1 vs G
  | _=>False
 | .fn g a b::r,T,R,v::vs,G=>match v with
  | .func (.func g') x y=>match Nat.beq g' g with
   | true=>apC a (ArC b (ArS r T)) R x.toList fun R1=>apC b (ArS r T) R1 y.toList fun R2=>apS r T R2 vs G
   | false=>False
  | _=>False
 | _,_,_,_,_=>False
def curK (k:CK) {T:Type} (g:Value→T):CKT k→T:=match k with
 | .i kk=>fun n:Int=>g (.int kk n)
 | .b=>fun n:Bool=>g (.bool n)
 | .p=>fun n:Option Addr=>g (.pointer n)
 | .s=>fun n:Sl=>g (.slice n.a n.len n.cap)
 | .m=>fun n:Option Nat=>g (.map n)
 | .v=>fun n:Value=>g n
def curC:(l:List CK)→(T:Type)→(List Value→T)→ArC l T
 | [],_,g=>g []
 | k::r,T,g=>curK k fun v=>curC r T fun vs=>g (v::vs)
def curS:(l:List PSh)→(T:Type)→(List Value→T)→ArS l T
 | .fn f a b::r,T,g=>curC a (ArC b (ArS r T)) fun xs=>curC b (ArS r T) fun ys=>curS r T fun vs=>g (.func (.func f) xs.toArray ys.toArray::vs)
 | [],_,g=>g []
 | .c k::r,T,g=>curK k fun v=>curS r T fun vs=>g (v::vs)
 | .agg l::r,T,g=>curC l (ArS r T) fun cs=>curS r T fun vs=>g (.agg cs.toArray::vs)
def np (b:Bool) (Kp:Value→AP):Value→AP:=match b with | true=>Kp | false=>fun _ _=>False
theorem np_imp {b:Bool} {Kp:Value→AP} {v:Value} {A:AH} (h:np b Kp v A):Kp v A:=by
 cases b
 ·exact h.elim
 ·exact h
abbrev EnR:=(Value→AP)→(Value→AP)→AP
def enS (l:List PSh) (F:ArS l EnR):EnA:=fun args K Kp A=>apS l EnR F args fun f=>f K Kp A
def dnS (l:List PSh) (F:ArS l (AP→AP)):DnT':=fun args K A=>apS l (AP→AP) F args fun f=>f K A
def dpS (l:List PSh) (t:TypeId) (ks:List CK) (F:ArS l (ArC ks (AP→AP))):DpT':=fun args v K A=>match v with
 | .iface t' (.agg cs)=>match Nat.beq t' t with
  | true=>apS l (ArC ks (AP→AP)) F args fun R=>apC ks (AP→AP) R cs.toList fun f=>f K A
  | false=>False
 | _=>False
section
variable {P:Program} {CA:CTA} {A:AH} {h:Hp}
theorem apK_cur {T:Type} {k:CK} {g:Value→T} {v:Value} {G:T→Prop} (hh:apK k v fun x=>G (curK k g x)):G (g v):=by
 cases k<;>cases v<;>simp only [apK] at hh<;>first | exact hh.elim | exact hh | skip
 obtain ⟨h1,h2⟩:=bsel_true hh
 rename_i kk k' n
 have:kk=k':=by cases kk<;>cases k'<;>first | rfl | cases h1
 subst this
 exact h2
theorem apC_cur:∀ {l:List CK} {T:Type} {g:List Value→T} {vs:List Value} {G:T→Prop},apC l T (curC l T g) vs G→G (g vs)
 | [],_,_,[],_,h=>h
 | [],_,_,_::_,_,h=>h.elim
 | _::_,_,_,[],_,h=>h.elim
 | k::r,T,g,v::vs,G,h=>apC_cur (l:=r) (g:=fun vs=>g (v::vs)) (apK_cur (k:=k) (g:=fun v=>curC r T fun vs=>g (v::vs)) (G:=fun R=>apC r T R vs G) h)
theorem apS_cur:∀ {l:List PSh} {T:Type} {g:List Value→T} {vs:List Value} {G:T→Prop},apS l T (curS l T g) vs G→G (g vs)
 | [],_,_,[],_,h=>h
 | [],_,_,_::_,_,h=>h.elim
 | .c k::r,T,g,v::vs,G,h=>apS_cur (l:=r) (g:=fun vs=>g (v::vs)) (apK_cur (k:=k) (g:=fun v=>curS r T fun vs=>g (v::vs)) (G:=fun R=>apS r T R vs G) h)
 | .c _::_,_,_,[],_,h=>h.elim
 | .agg _::_,_,_,[],_,h=>h.elim
 | .agg l::r,T,g,v::vs,G,h=>by
  unfold apS at h
  split at h
  ·rename_i cs
   have:=apC_cur (l:=l) (g:=fun cs=>curS r T fun vs=>g (.agg cs.toArray::vs)) (G:=fun R=>apS r T R vs G) h
   rw [Array.toArray_toList] at this
   exact apS_cur (l:=r) (g:=fun vs=>g (.agg cs::vs)) this
  ·exact h.elim
 | .fn _ _ _::_,_,_,[],_,h=>h.elim
 | .fn f a b::r,T,g,v::vs,G,h=>by
  unfold apS at h
  split at h
  ·rename_i g' x y
   split at h
   ·rename_i hb
    have hb:=beqN.1 hb
    subst hb
    have h1:=apC_cur (l:=a) (T:=ArC b (ArS r T)) (g:=fun xs=>curC b (ArS r T) fun ys=>curS r T fun vs=>g (.func (.func g') xs.toArray ys.toArray::vs)) (G:=fun R1=>apC b (ArS r T) R1 y.toList fun R2=>apS r T R2 vs G) h
    have h2:=apC_cur (l:=b) (T:=ArS r T) (g:=fun ys=>curS r T fun vs=>g (.func (.func g') x.toList.toArray ys.toArray::vs)) (G:=fun R2=>apS r T R2 vs G) h1
    rw [Array.toArray_toList,Array.toArray_toList] at h2
    exact apS_cur (l:=r) (g:=fun vs=>g (.func (.func g') x y::vs)) h2
   ·exact h.elim
  ·exact h.elim
theorem callingA_nil:Calling P (upC (tabA [])):=⟨fun _ _ _ _ _ ⟨_,_,_,_,_,h,_⟩=>h.elim,fun _ _ _ _ _ ⟨_,_,_,_,_,h,_⟩ _=>h.elim⟩
theorem callingA_cons {f:FuncId} {E:EnA} {r:List (FuncId × EnA)} (he:EntryOK P f (upE E)) (hr:Calling P (upC (tabA r))):Calling P (upC (tabA ((f,E)::r))):=by
 constructor
 ·intro g args K Kp w ⟨A,L,KA,KpA,s,hh,h1,h2⟩
  unfold tabA at hh
  split at hh
  ·rename_i hb
   rw [←beqN.1 hb]
   exact .inl he.enter
  ·exact hr.enters g args K Kp w ⟨A,L,KA,KpA,s,hh,h1,h2⟩
 ·intro g args K Kp w ⟨A,L,KA,KpA,s,hh,h1,h2⟩ hent
  unfold tabA at hh
  split at hh
  ·rename_i hb
   rw [←beqN.1 hb]
   exact he.call args K Kp w ⟨A,L,KA,KpA,s,hh,h1,h2⟩
  ·exact hr.calls g args K Kp w ⟨A,L,KA,KpA,s,hh,h1,h2⟩ hent
def AtOnce (P:Program) (f:FuncId) (E:EnT):Prop:=∀ args K Kp (w:World),E args K Kp w.heap→∃ v,(callFunc f args.toArray).run P w = .ok (.value v) w∧K v w.heap
theorem callingA_at {f:FuncId} {E:EnA} {r:List (FuncId × EnA)} (he:AtOnce P f (upE E)) (hr:Calling P (upC (tabA r))):Calling P (upC (tabA ((f,E)::r))):=by
 constructor
 ·intro g args K Kp w ⟨A,L,KA,KpA,s,hh,h1,h2⟩
  unfold tabA at hh
  split at hh
  ·rename_i hb
   rw [←beqN.1 hb]
   exact .inr (he args K Kp w ⟨A,L,KA,KpA,s,hh,h1,h2⟩)
  ·exact hr.enters g args K Kp w ⟨A,L,KA,KpA,s,hh,h1,h2⟩
 ·intro g args K Kp w ⟨A,L,KA,KpA,s,hh,h1,h2⟩ hent
  unfold tabA at hh
  split at hh
  ·rename_i hb
   rw [←beqN.1 hb] at hent
   obtain ⟨v,hv,_⟩:=he args K Kp w ⟨A,L,KA,KpA,s,hh,h1,h2⟩
   have h3:=hent args.toArray w
   rw [hv] at h3
   cases h3
  ·exact hr.calls g args K Kp w ⟨A,L,KA,KpA,s,hh,h1,h2⟩ hent
theorem rdResA_up {E:Bx} {β:Nat→Nat} {s:SA} {t:St} (r:RB E β s t A h):∀ (l:List ResultVar) (K K':List Value→Prop),(∀ vs,K vs→K' vs)→rdResA P l s A K→rdRes P l t.env h K'
 | [],_,_,hx,hh=>hx _ hh
 | .tmp x::l,K,K',hx,hh=>by
  unfold rdResA at hh
  unfold rdRes
  split at hh
  ·rename_i v hv
   rw [r.env _ _ hv]
   exact rdResA_up r l _ _ (fun _=>hx _) hh
  ·exact hh.elim
 | .cell a ty::l,K,K',hx,hh=>by
  unfold rdResA at hh
  unfold rdRes
  split at hh
  ·rename_i i k hb
   obtain ⟨g1,g2⟩:=r.bv _ _ _ hb
   rw [g1]
   simp only [asAd,onSome]
   split at hh
   ·rename_i cs ty2 hl
    obtain ⟨l1,l2,q1,q2⟩:=r.box hl
    have sim:=r.sim
    rw [q1] at sim
    refine ldD_box sim ?_
    exact ldX_mono (fun v h1=>rdResA_up r l _ _ (fun _=>hx _) h1) hh
   ·exact hh.elim
  ·split at hh
   ·rename_i va hv
    rw [r.env _ _ hv]
    exact asAd_up (fun ad h1=>ldDA_up r.sim h1 fun v h2=>rdResA_up r l _ _ (fun _=>hx _) h2) hh
   ·exact hh.elim
where
 ldX_mono {t:TypeId} {cs:List Value} {o:Nat} {K K':Value→Prop} (hx:∀ v,K v→K' v) (h:ldX P t cs o K):ldX P t cs o K':=by
  unfold ldX at h ⊢
  split at h
  ·split at h
   ·split at h
    ·split at h
     ·exact hx _ h
     ·exact h.elim
    ·exact h.elim
   ·split at h
    ·split at h
     ·exact hx _ h
     ·exact h.elim
    ·exact h.elim
  ·exact h.elim
theorem RB.start {L:Bx} (s:Sim A L h) (args:List Value):RB L (fun _=>0) (startA args) ⟨argE 0 args,[]⟩ A h:=
 ⟨fun _ _ e=>e,fun _ _ _ e=>by simp [startA,lookB] at e,rfl,s,List.nodup_nil⟩
theorem apC_any:∀ {l:List CK} {T:Type} {R:ArC l T} {ws:List Value} {G:T→Prop},apC l T R ws G→∃ x,G x
 | [],_,_,[],_,h=>⟨_,h⟩
 | [],_,_,_::_,_,h=>h.elim
 | _::_,_,_,[],_,h=>h.elim
 | k::l,T,R,w::ws,G,h=>by
  have h:apK k w _:=h
  cases k<;>cases w<;>simp only [apK] at h<;>first | exact h.elim | exact apC_any h | skip
  obtain ⟨_,h2⟩:=bsel_true h
  exact apC_any h2
theorem apS_len:∀ {l:List PSh} {T:Type} {R:ArS l T} {vs:List Value} {G:T→Prop},apS l T R vs G→vs.length=l.length
 | [],_,_,[],_,_=>rfl
 | [],_,_,_::_,_,h=>h.elim
 | .c k::r,T,R,v::vs,G,h=>by
  have:∃ x:ArS r T,apS r T x vs G:=by
   have h:apK k v _:=h
   cases k<;>cases v<;>simp only [apK] at h<;>first | exact h.elim | exact ⟨_,h⟩ | skip
   obtain ⟨_,h2⟩:=bsel_true h
   exact ⟨_,h2⟩
  obtain ⟨x,hx⟩:=this
  simp [apS_len hx]
 | .c _::_,_,_,[],_,h=>h.elim
 | .agg _::_,_,_,[],_,h=>h.elim
 | .fn _ _ _::_,_,_,[],_,h=>h.elim
 | .agg l::r,T,R,v::vs,G,h=>by
  unfold apS at h
  split at h
  ·obtain ⟨x,hx⟩:=apC_any h
   simp [apS_len hx]
  ·exact h.elim
 | .fn f a b::r,T,R,v::vs,G,h=>by
  unfold apS at h
  split at h
  ·split at h
   ·obtain ⟨x,hx⟩:=apC_any h
    obtain ⟨y,hy⟩:=apC_any hx
    simp [apS_len hy]
   ·exact h.elim
  ·exact h.elim
theorem entA (hm:P.follows .mixedOrders=true) (hC:Calling P (upC CA)) {f:FuncId} {fn:Func} {pm:List Nat} {ann:AnnA} {l:List PSh} {F:ArS l EnR}
  (he:∀ (as:Array Value) (w:World),(callFunc f as).run P w = .ok (.enter f as) w) (hf:P.funcs[f]? = some fn) (hb:fn.body.isSome=true) (hn:Nat.ble l.length fn.ntmps=true)
  (b0:Bool) (hF:F=curS l EnR fun vs K Kp A=>denFnA P CA pm fn ann vs K (np b0 Kp) A):EntryOK P f (upE (enS l F)):=by
 refine ⟨he,fun args K Kp w ⟨A,L,KA,KpA,s,hh,h1,h2⟩=>?_⟩
 subst hF
 have hlen:args.length=l.length:=apS_len hh
 have hd:=apS_cur hh
 refine calls_of_den hm hC (ann:=ann.h) hf hb (by rw [hlen];exact hn) ?_
 have hd:denA P CA fn.ntmps pm ann (bodyOf fn) (endA P fn KA (np b0 KpA)) (startA args) A:=hd
 unfold denFn
 refine denA_up _ _ _ _ _ _ _ _ _ (RB.start s args) hd fun e β' s' t' A' h' r' sb hk=>?_
 obtain ⟨te,tds⟩:=t'
 have hds:tds=s'.ds:=r'.ds
 cases e with
 | normal=>
  unfold endA at hk
  simp only at hk
  split at hk
  ·rename_i e0
   rw [e0] at hds
   subst hds
   exact rdResA_up r' _ _ _ (fun vs hv=>h1 _ _ _ (r'.sim.keep (List.sublist_append_right _ _)) hv) hk
  ·exact hk.elim
 | ret=>
  unfold endA at hk
  simp only at hk
  split at hk
  ·rename_i e0
   rw [e0] at hds
   subst hds
   exact rdResA_up r' _ _ _ (fun vs hv=>h1 _ _ _ (r'.sim.keep (List.sublist_append_right _ _)) hv) hk
  ·exact hk.elim
 | panic v=>
  unfold endA at hk
  simp only at hk
  split at hk
  ·rename_i e0
   rw [e0] at hds
   subst hds
   exact h2 _ _ _ (r'.sim.keep (List.sublist_append_right _ _)) (np_imp hk)
  ·exact hk.elim
 | exit id=>exact hk.elim
theorem denDfA_up {fn:Func} {pm:List Nat} {ann:AnnA} {args:List Value} {rv:Value} {KA:AP} {K:HP} {L:Bx} (s:Sim A L h) (hh:denDfA P CA pm fn ann args rv KA A) (hk:∀ A' h',Sim A' L h'→KA A'→K h'):denDf P (upC CA) fn ann.h args rv K h:=by
 unfold denDfA at hh
 unfold denDf
 split at hh
 ·rename_i e0
  rw [e0]
  simp only
  split at hh
  ·rename_i o r e1
   rw [e1]
   simp only
   split at hh
   ·rename_i e2 e3 e4
    rw [e2,e3,e4]
    simp only
    refine putA_up (RB.start s args) (x:=.v rv) (y:=rv) rfl (fun _ _ e=>by cases e) hh fun s1 t1 r1 sb1 _ _ h1=>?_
    refine denOpsA_up _ _ s1 t1 A h r1 h1 (fun β2 s2 t2 A2 h2 r2 sb2 h3=>?_) fun _ _ _ _ _ _ _ _ q=>q.elim
    refine denA_up _ _ _ _ _ _ _ _ _ r2 h3 fun e β3 s3 t3 A3 h3 r3 sb3 h4=>?_
    obtain ⟨te,tds⟩:=t3
    have hds:tds=s3.ds:=r3.ds
    split at h4
    ·rename_i e5
     rw [e5] at hds
     subst hds
     exact hk _ _ (r3.sim.keep (List.sublist_append_right _ _)) h4
    ·rename_i e5
     rw [e5] at hds
     subst hds
     exact hk _ _ (r3.sim.keep (List.sublist_append_right _ _)) h4
    ·exact h4.elim
   ·exact hh.elim
  ·exact hh.elim
 ·exact hh.elim
def upDn (Dn:DnT'):List Value→HP→HP:=fun args K h=>∃ A L KA,Sim A L h∧Dn args KA A∧∀ A' h',Sim A' L h'→KA A'→K h'
def upDp (Dp:DpT'):List Value→Value→HP→HP:=fun args v K h=>∃ A L KA,Sim A L h∧Dp args v KA A∧∀ A' h',Sim A' L h'→KA A'→K h'
theorem defA (hm:P.follows .mixedOrders=true) (hC:Calling P (upC CA)) {g:FuncId} {fn:Func} {p1 p2:List Nat} {an ap:AnnA} {l:List PSh} {t:TypeId} {ks:List CK} {Fn:ArS l (AP→AP)} {Fp:ArS l (ArC ks (AP→AP))}
  (he:∀ (as:Array Value) (w:World),(callFunc g as).run P w = .ok (.enter g as) w) (hf:P.funcs[g]? = some fn) (hb:fn.body.isSome=true) (hn:Nat.ble l.length fn.ntmps=true)
  (h1:Fn=curS l (AP→AP) fun vs K A=>denDfA P CA p1 fn an vs .nilIface K A) (h2:Fp=curS l (ArC ks (AP→AP)) fun vs=>curC ks (AP→AP) fun ps K A=>denDfA P CA p2 fn ap vs (.iface t (.agg ps.toArray)) K A) :
  DefOK P g (upDn (dnS l Fn)) (upDp (dpS l t ks Fp)):=by
 subst h1 h2
 refine defOK_of hm hC (an:=an.h) (ap:=ap.h) he hf hb ?_ ?_
 ·intro args K h ⟨A,L,KA,s,hd,hk⟩
  exact ⟨by rw [apS_len hd];exact hn,denDfA_up s (apS_cur hd) hk⟩
 ·intro args v K h ⟨A,L,KA,s,hd,hk⟩
  unfold dpS at hd
  split at hd
  ·rename_i t' cs
   split at hd
   ·rename_i ht
    have ht:=beqN.1 ht
    subst ht
    refine ⟨by rw [apS_len hd];exact hn,?_⟩
    have h3:=apS_cur (G:=fun R=>apC ks (AP→AP) R cs.toList fun f=>f KA A) hd
    have h4:=apC_cur h3
    rw [Array.toArray_toList] at h4
    exact denDfA_up s h4 hk
   ·exact hd.elim
  ·exact hd.elim
theorem entDA (hm:P.follows .mixedOrders=true) (hC:Calling P (upC CA)) {f g:FuncId} {fn:Func} {pm:List Nat} {ann:AnnA} {l:List PSh} {F:ArS l EnR} {Dn:DnT'} {Dp:DpT'} (hD:DefOK P g (upDn Dn) (upDp Dp))
  (he:∀ (as:Array Value) (w:World),(callFunc f as).run P w = .ok (.enter f as) w) (hf:P.funcs[f]? = some fn) (hb:fn.body.isSome=true) (hn:Nat.ble l.length fn.ntmps=true)
  (b0:Bool) (hF:F=curS l EnR fun vs K Kp A=>denFnDA P CA pm fn ann g Dn Dp vs K (np b0 Kp) A):EntryOK P f (upE (enS l F)):=by
 refine ⟨he,fun args K Kp w ⟨A,L,KA,KpA,s,hh,h1,h2⟩=>?_⟩
 subst hF
 have hlen:args.length=l.length:=apS_len hh
 have hd:=apS_cur hh
 refine calls_of_denD hm hC (ann:=ann.h) hD hf hb (by rw [hlen];exact hn) ?_
 have hd:denA P CA fn.ntmps pm ann (bodyOf fn) (endDA P fn g Dn Dp KA (np b0 KpA)) (startA args) A:=hd
 unfold denFnD
 refine denA_up _ _ _ _ _ _ _ _ _ (RB.start s args) hd fun e β' s' t' A' h' r' sb hk=>?_
 obtain ⟨te,tds⟩:=t'
 have hds:tds=s'.ds:=r'.ds
 have sim2:=r'.sim
 have res:∀ {A2:AH} {h2':Hp},Sim A2 (bxL β' s'.bx++L) h2'→(rdResA P fn.results.toList s' A2 fun vs=>KA (packV vs) A2)→rdRes P fn.results.toList te h2' fun vs=>K (packV vs) h2':=fun q hr=>
  rdResA_up (β:=β') (t:=⟨te,tds⟩) ⟨r'.env,r'.bv,r'.ds,q,r'.nd⟩ _ _ _ (fun vs hv=>h1 _ _ _ (q.keep (List.sublist_append_right _ _)) hv) hr
 cases e with
 | normal=>
  unfold endDA at hk
  simp only at hk
  split at hk
  ·rename_i e0
   rw [e0] at hds
   subst hds
   exact res sim2 hk
  ·rename_i d e0
   rw [e0] at hds
   subst hds
   unfold endD
   simp only
   split at hk
   ·rename_i g' cap e1
    rw [e1]
    simp only
    split at hk
    ·rename_i e2
     rw [e2]
     exact ⟨A',_,_,sim2,hk,fun A2 h2' q=>res q⟩
    ·exact hk.elim
   ·exact hk.elim
  ·exact hk.elim
 | ret=>
  unfold endDA at hk
  simp only at hk
  split at hk
  ·rename_i e0
   rw [e0] at hds
   subst hds
   exact res sim2 hk
  ·rename_i d e0
   rw [e0] at hds
   subst hds
   unfold endD
   simp only
   split at hk
   ·rename_i g' cap e1
    rw [e1]
    simp only
    split at hk
    ·rename_i e2
     rw [e2]
     exact ⟨A',_,_,sim2,hk,fun A2 h2' q=>res q⟩
    ·exact hk.elim
   ·exact hk.elim
  ·exact hk.elim
 | panic v=>
  unfold endDA at hk
  simp only at hk
  split at hk
  ·rename_i e0
   rw [e0] at hds
   subst hds
   exact h2 _ _ _ (sim2.keep (List.sublist_append_right _ _)) (np_imp hk)
  ·rename_i d e0
   rw [e0] at hds
   subst hds
   unfold endD
   simp only
   split at hk
   ·rename_i g' cap e1
    rw [e1]
    simp only
    split at hk
    ·rename_i e2
     rw [e2]
     exact ⟨A',_,_,sim2,hk,fun A2 h2' q=>res q⟩
    ·exact hk.elim
   ·exact hk.elim
  ·exact hk.elim
 | exit id=>exact hk.elim
theorem callA {f:FuncId} {E:EnA} (he:EntryOK P f (upE E)) (args:List Value) (K:Value→HP) (w:World) {KA:Value→AP} (hh:E args KA (fun _ _=>False) (fun b=>w.heap[b]?))
  (hk:∀ v A' h',Sim A' [] h'→KA v A'→K v h'):Calls P f args.toArray w (callQ K (fun _ _=>False) w):=
 he.call args K _ w ⟨_,[],KA,_,⟨fun _ _ e=>e,fun _ m=>by simp at m,List.Pairwise.nil⟩,hh,hk,fun _ _ _ _ q=>q⟩
end
attribute [irreducible] denFnA denFnDA denDfA
end Go.Dn
