/- That what is read of code is what the model does. -/
import Derived.Test.YtmfmhmipcdgikaaGreatDnH
import Derived.OrdersHeld
namespace Go.Dn
structure iV (n:Nat) (s:St) (a:Act):Prop where
 size:a.tmps.size=n
 env:∀ t v,look s.env t=some v->a.tmps.getD t undef=v
 ds:a.defers=s.ds
structure nH (c:Code) (a a':Act):Prop where
 tmp:∀ t,memN t (wrs c)=false->a'.tmps.getD t undef=a.tmps.getD t undef
 df:noDf c=true->a'.defers=a.defers
structure cG (P:Program) (C:CT):Prop where
 enters:Enters P C
 calls:∀ f args K Kp w,C f args K Kp w.heap->Ent P f->Calls P f args.toArray w λe w'=>Kin false w w'/\match e with
  | .returned v=>K v w'.heap
  | .panicked ch=>∃ v,ch=[{ v,recovered:=false }]/\Kp v w'.heap
  | .outgrown=>False
section
variable {P:Program} {C:CT} {n:Nat}
theorem iV.ev {s:St} {a:Act} (hr:iV n s a):ReE s.env a.eval:=by
 intro x v h;cases x<;>simp only [evO,Option.some.injEq] at h
 ·exact hr.env _ _ h
 ·exact h
 ·exact h
 ·exact h
theorem aQ {d t:Nat} {v:Value} {e:Env}:look ((d,v)::e) t=if d=t then some v else look e t:=by
 simp only [look];cases h:Nat.beq d t with
 | true=>have:=Nat.eq_of_beq_eq_true h;simp [this]
 | false=>
  have:d≠t:=λe=>by rw [e] at h;simp at h
  simp [this]
theorem lH {e e':Env} {t:Nat}:look (e++e') t=(look e t).or (look e' t):=by
 induction e with
 | nil=>simp [look]
 | cons p e ih=>
  obtain ⟨d,v⟩:=p;rw [List.cons_append,aQ,aQ,ih];split<;>simp
theorem iV.put {s:St} {a:Act} (hr:iV n s a) {d:Nat} (hd:d<n) (v:Value):iV n { s with env:=(d,v)::s.env } (a.put (some d) v):=by
 refine ⟨by simp [Act.put,hr.size],λt u h=>?_,hr.ds⟩;rw [aQ] at h;have hs:=hr.size;split at h
 ·rename_i e;subst e;simp only [Option.some.injEq] at h;subst h;simp [Act.put,hs,hd]
 ·rename_i hne;have:=hr.env t u h;simp only [Act.put,Array.getD_eq_getD_getElem?,Array.getElem?_setIfInBounds_ne hne] at this ⊢;exact this
theorem dI {s:St} {dst:Option Tmp} {v:Value} {K:St->Prop} {a:Act} (h:gJ n s dst v K) (hr:iV n s a):∃ s',K s'/\iV n s' (a.put dst v):=by
 unfold gJ at h;split at h
 ·exact ⟨s,h,hr⟩
 ·split at h
  ·rename_i d _ hb;have hb:d<n:=by simpa [Nat.blt_eq] using hb
   exact ⟨_,h,hr.put hb v⟩
  ·exact h.elim
theorem cM {a:Act} {dst:Option Tmp} {v:Value} {t:Nat} (h:∀ d,dst=some d->d≠t):(a.put dst v).tmps.getD t undef=a.tmps.getD t undef:=by
 cases dst with
 | none=>rfl
 | some d=>simp only [Act.put,Array.getD_eq_getD_getElem?,Array.getElem?_setIfInBounds_ne (h d rfl)]
structure jL (l:List Oper) (a a':Act):Prop where
 tmp:∀ t,memN t (l.flatMap opDst)=false->a'.tmps.getD t undef=a.tmps.getD t undef
 df:(l.all λo=>!isDf o.op)=true->a'.defers=a.defers
theorem bH {t:Nat}:∀ {l m:List Nat},memN t (l++m)=(memN t l || memN t m)
 | [],m=>rfl
 | x::r,m=>by
  simp only [List.cons_append,memN];cases Nat.beq x t<;>simp [bH]
theorem aAR {t:Nat} {o:Oper} (h:memN t (opDst o)=false):∀ d,o.dst=some d->d≠t:=by
 intro d hd e;subst e;simp [opDst,hd,memN] at h
theorem jL.refl (a:Act):jL [] a a:=⟨λ_ _=>rfl,λ_=>rfl⟩
theorem jL.cons {o:Oper} {l:List Oper} {a a1 a2:Act} (h1:∀ t,(∀ d,o.dst=some d->d≠t)->a1.tmps.getD t undef=a.tmps.getD t undef) (h2:isDf o.op=false->a1.defers=a.defers)
  (h:jL l a1 a2):jL (o::l) a a2:=by
 refine ⟨λt ht=>?_,λhd=>?_⟩
 ·rw [List.flatMap_cons,bH,Bool.or_eq_false_iff] at ht;rw [h.tmp t ht.2];exact h1 t (aAR ht.1)
 ·simp only [List.all_cons,Bool.and_eq_true,Bool.not_eq_true'] at hd;rw [h.df (by simpa using hd.2)];exact h2 hd.1
theorem bT (a:Act) (dst:Option Tmp) (v:Value):(a.put dst v).defers=a.defers:=by cases dst<;>rfl
def PostN (n:Nat) (K:Ex->St->HP) (S:Act->Act->Prop) (a:Act) (w:World):Exit->Act->World->Prop
 | .normal,a',w'=>∃ s',iV n s' a'/\K .normal s' w'.heap/\Kin false w w'/\S a a'
 | .exit id,a',w'=>∃ s',iV n s' a'/\K (.exit id) s' w'.heap/\Kin false w w'/\S a a'
 | .ret,a',w'=>∃ s',iV n s' a'/\K .ret s' w'.heap/\Kin false w w'/\S a a'
 | .panic ch,a',w'=>∃ v s',ch=[{ v,recovered:=false }]/\iV n s' a'/\K (.panic v) s' w'.heap/\Kin false w w'/\S a a'
 | _,_,_=>False
theorem qQ {ops:Array Oper} {o:Oper} {s:St} {run skip:St->Prop} {a:Act} (h:grd ops.toList o s run skip) (hr:iV n s a) :
  ∃ s',iV n s' a/\((Region.wanted o (yielded ops a.tmps)=true/\run s')\/(Region.wanted o (yielded ops a.tmps)=false/\skip s')):=by
 unfold grd at h;split at h
 ·rename_i hg;exact ⟨s,hr,.inl ⟨by simp [Region.wanted,hg],h⟩⟩
 ·rename_i j want hg;split at h
  ·rename_i oj hj;split at h
   ·rename_i d hd;split at h
    ·rename_i b hl;have hj':ops[j]? = some oj:=by simpa using hj
     have hv:=hr.env d _ hl
     have hy:yielded ops a.tmps j=some b:=by
      unfold yielded;simp only [hj',Option.bind_some,hd];cases ht:a.tmps[d]? with
      | none=>simp [ht,undef] at hv
      | some v=>simp [ht] at hv;simp [hv]
     have hrs:∀ c,b=c->iV n { s with env:=(d,.bool c)::s.env } a:=by
      intro c hc;subst hc;refine ⟨hr.size,λt u h=>?_,hr.ds⟩;rw [aQ] at h;split at h
      ·rename_i e;subst e;simp only [Option.some.injEq] at h;subst h;exact hv
      ·exact hr.env t u h
     cases want<;>rcases bsel_mp h with ⟨hb,h⟩ | ⟨hb,h⟩<;>refine ⟨_,hrs _ hb,?_⟩<;>subst hb
     ·exact .inr ⟨by simp [Region.wanted,hg,hy],h⟩
     ·exact .inl ⟨by simp [Region.wanted,hg,hy],h⟩
     ·exact .inl ⟨by simp [Region.wanted,hg,hy],h⟩
     ·exact .inr ⟨by simp [Region.wanted,hg,hy],h⟩
    ·rename_i vs hl;have hj':ops[j]? = some oj:=by simpa using hj
     have hv:=hr.env d _ hl;refine ⟨s,hr,.inr ⟨?_,h⟩⟩
     have hy:yielded ops a.tmps j=none:=by
      unfold yielded;simp only [hj',Option.bind_some,hd];cases ht:a.tmps[d]? with
      | none=>rfl
      | some v=>simp [ht] at hv;simp [hv]
     simp [Region.wanted,hg,hy]
    ·exact h.elim
   ·exact h.elim
  ·exact h.elim
theorem aHm {ρ:Env} {o:Oper} {h:Hp} {K Kp:Value->HP} {Kd Kd':Deferred->HP} (hd:isDf o.op=false):bO P C ρ o h K Kp Kd=bO P C ρ o h K Kp Kd':=by
 obtain ⟨dst,op,ty,pos,after,guard⟩:=o;cases op<;>first | (cases hd;done) | rfl | skip
 case makeMap t r=>cases r<;>rfl
 case next t b=>cases b<;>rfl
theorem tL (hC:cG P C) {o:Oper} {s:St} {K:St->HP} {Kp:Value->St->HP} {a:Act} {w:World} (hr:iV n s a) (h:wM P C n o s K Kp w.heap) {next:Act->World->Prop} {Q:Exit->Act->World->Prop}
  (hn:∀ s' a' w',iV n s' a'->K s' w'.heap->Kin false w w'->(∀ t,(∀ d,o.dst=some d->d≠t)->a'.tmps.getD t undef=a.tmps.getD t undef)->(isDf o.op=false->a'.defers=a.defers)->next a' w')
  (hp:∀ v w',Kp v s w'.heap->Kin false w w'->Q (.panic [{ v,recovered:=false }]) a w'):o.wp P a w next Q:=by
 have h:bO P C s.env o w.heap (λv h'=>gJ n s o.dst v λs'=>K s' h') (λv h'=>Kp v s h')
   (λd h'=>isDf o.op=true/\gJ n { s with ds:=d::s.ds } o.dst undef λs'=>K s' h'):=by
  cases hd:isDf o.op with
  | false=>rw [aHm hd];exact h
  | true=>simp only [true_and];exact h
 have h1:=wR (dr:=false) (w:=w) (f:=a.eval) (λe=>by cases e) hC.enters hr.ev h;unfold Oper.wp;generalize hres:(execOp a.eval o).run P w=r at h1;unfold Oper.upon;cases r with
 | ok nx w'=>
  cases nx<;>simp only [nD] at h1<;>try exact h1.elim
  ·obtain ⟨hk,hkin⟩:=h1;obtain ⟨s',hk,hr'⟩:=dI hk hr;exact hn s' _ w' hr' hk hkin (λt ht=>cM ht) (λ_=>bT _ _ _)
  ·obtain ⟨hk,hkin⟩:=h1;obtain ⟨s',hk,hr'⟩:=dI hk hr;exact hn s' _ w' hr' hk hkin (λt ht=>cM ht) (λ_=>bT _ _ _)
  ·rename_i f args;obtain ⟨hk,hkin⟩:=h1;have hc:=hC.calls f args.toList _ _ w' hk.1 hk.2;rw [Array.toArray_toList] at hc;refine hc.mono λe w'' he=>?_;cases e with
   | returned v=>
    obtain ⟨hkin',hk⟩:=he;obtain ⟨s',hk,hr'⟩:=dI hk hr;exact hn s' _ w'' hr' hk (hkin.trans hkin') (λt ht=>cM ht) (λ_=>bT _ _ _)
   | panicked ch=>
    obtain ⟨hkin',v,rfl,hk⟩:=he;exact hp v w'' hk (hkin.trans hkin')
   | outgrown=>exact he.2.elim
  ·rename_i d;obtain ⟨⟨hdf,hk⟩,hkin⟩:=h1;have hr1:iV n { s with ds:=d::s.ds } { a with defers:=d::a.defers }:=⟨hr.size,hr.env,by simp [hr.ds]⟩;obtain ⟨s',hk,hr'⟩:=dI hk hr1;refine hn s' _ w' hr' hk hkin (λt ht=>?_) (λe=>by rw [hdf] at e;cases e);exact cM (a:={ a with defers:=d::a.defers }) ht
 | halt x w'=>
  cases x<;>simp only [nD] at h1<;>try exact h1.elim
  exact hp _ w' h1.1 h1.2
theorem mT (hC:cG P C) {ops:Array Oper} {K:Ex->St->HP}:∀ (l:List Oper) (s:St) (a:Act) (w:World),iV n s a->
  kT P C n ops.toList l s (K .normal) (λv s h=>K (.panic v) s h) w.heap->∀ (S:Act->Act->Prop) (a0:Act) (w0:World),Kin false w0 w->(∀ a',jL l a a'->S a0 a')->
  (∀ l1 l2 a',l=l1++l2->jL l1 a a'->S a0 a')->wpList P ops (PostN n K S a0 w0) l a w
 | [],s,a,w,hr,h,S,a0,w0,hk,hS,_=>⟨s,hr,h,hk,hS a (jL.refl a)⟩
 | o::r,s,a,w,hr,h,S,a0,w0,hk,hS,hS'=>by
  obtain ⟨s1,hr1,h1⟩:=qQ h hr;unfold wpList;rcases h1 with ⟨hw,h1⟩ | ⟨hw,h1⟩
  ·rw [if_pos hw];refine .inl (tL hC hr1 h1 (λs' a' w' hr' hk' hkin ht hd=>?_) (λv w' hv hkin=>?_))
   ·exact mT hC r s' a' w' hr' hk' S a0 w0 (hk.trans hkin) (λa2 h2=>hS a2 (h2.cons ht hd)) (λl1 l2 a2 e h2=>hS' (o::l1) l2 a2 (by rw [e];rfl) (h2.cons ht hd))
   ·exact ⟨v,s1,rfl,hr1,hv,hk.trans hkin,hS' [] (o::r) a rfl (jL.refl a)⟩
  ·rw [if_neg (by simp [hw])];obtain ⟨s',hk',hr'⟩:=dI h1 hr1
   exact mT hC r s' _ w hr' hk' S a0 w0 hk (λa2 h2=>hS a2 (h2.cons (λt ht=>cM ht) (λ_=>bT _ _ _)))
    (λl1 l2 a2 e h2=>hS' (o::l1) l2 a2 (by rw [e];rfl) (h2.cons (λt ht=>cM ht) (λ_=>bT _ _ _)))
theorem aEi {b:Builtin} {ts:List TypeId} {vs:List Value} {h:Hp} {Kq:Value->Prop} {Kp:Value->HP} (hq:aJe b=true) :
  biD P b ts vs h (λv _=>Kq v) Kp=biD P b ts vs h (λv h'=>h'=h/\Kq v) Kp:=by
 cases b<;>first | (cases hq;done) | skip
 all_goals
  unfold biD;split<;>first | (simp only [true_and];done) | rfl | skip
 all_goals contradiction
theorem zB {ρ:Env} {o:Oper} {h:Hp} {Kq:Value->Prop} {Kp:Value->HP} {Kd:Deferred->HP} (hq:nZ o.op=true) (hh:bO P C ρ o h (λv _=>Kq v) Kp Kd) :
  bO P C ρ o h (λv h'=>h'=h/\Kq v) Kp Kd:=by
 obtain ⟨dst,op,ty,pos,after,guard⟩:=o;unfold bO at hh ⊢;cases op<;>first | (cases hq;done) | (simpa only [true_and] using hh) | skip
 case call c=>
  obtain ⟨callee,args,ats⟩:=c;cases callee with
  | value f=>cases hq
  | invoke r m=>cases hq
  | builtin b=>
   dsimp only [aAE] at hh ⊢
   simp only [aEi (P:=P) (show aJe b=true from hq)] at hh;exact hh
def aLI:CT:=λ_ _ _ _ _=>False
theorem aD4 {C':CT} {ρ:Env} {o:Oper} {h:Hp} {K Kp:Value->HP} {Kd:Deferred->HP} (hq:nZ o.op=true) (hh:bO P C ρ o h K Kp Kd):bO P C' ρ o h K Kp Kd:=by
 obtain ⟨dst,op,ty,pos,after,guard⟩:=o;unfold bO at hh ⊢;cases op<;>first | (cases hq;done) | exact hh | skip
 case call c=>
  obtain ⟨callee,args,ats⟩:=c;cases callee with
  | value f=>cases hq
  | invoke r m=>cases hq
  | builtin b=>exact hh
theorem l6 {ops:Array Oper} {w:World} {Q:Act->Prop}:∀ (l:List Oper) (s:St) (a:Act) (K:St->Prop),iV n s a->oW P C n ops.toList l s K w.heap->
  (∀ s' a',iV n s' a'->K s'->jL l a a'->Q a')->wpStill P ops w Q l a
 | [],s,a,K,hr,h,hQ=>hQ s a hr h (jL.refl a)
 | o::r,s,a,K,hr,h,hQ=>by
  unfold oW at h;split at h
  ·rename_i hq;obtain ⟨s1,hr1,h1⟩:=qQ h hr;unfold wpStill;rcases h1 with ⟨hw,h1⟩ | ⟨hw,h1⟩
   ·rw [if_pos hw];have h2:=wR (dr:=true) (w:=w) (f:=a.eval) (C:=aLI) (λ_=>hq) (λ_ _ _ _ _ h=>h.elim) hr1.ev (aD4 hq (zB hq h1));unfold Oper.still;have hdf:isDf o.op=false:=by cases ho:o.op<;>simp_all [isDf,nZ]
    generalize (execOp a.eval o).run P w=res at h2;cases res with
    | ok nx w'=>
     cases nx<;>simp only [nD] at h2<;>try exact h2.elim
     ·obtain ⟨⟨hh,hk⟩,hkin⟩:=h2;have hw':=hkin.same hh;subst hw';obtain ⟨s',hk,hr'⟩:=dI hk hr1;exact ⟨rfl,l6 r s' _ K hr' hk λs2 a2 h2 hk2 hs=>hQ s2 a2 h2 hk2 (hs.cons (λt ht=>cM ht) (λ_=>bT _ _ _))⟩
     ·obtain ⟨⟨hh,hk⟩,hkin⟩:=h2;have hw':=hkin.same hh;subst hw';obtain ⟨s',hk,hr'⟩:=dI hk hr1;exact ⟨rfl,l6 r s' _ K hr' hk λs2 a2 h2 hk2 hs=>hQ s2 a2 h2 hk2 (hs.cons (λt ht=>cM ht) (λ_=>bT _ _ _))⟩
     ·exact h2.1.1.elim
     ·exact h2.1.elim
    | halt x w'=>
     cases x<;>simp only [nD] at h2<;>try exact h2.elim
     exact h2.1.elim
   ·rw [if_neg (by simp [hw])];obtain ⟨s',hk',hr'⟩:=dI h1 hr1;exact l6 r s' _ K hr' hk' λs2 a2 h2 hk2 hs=>hQ s2 a2 h2 hk2 (hs.cons (λt ht=>cM ht) (λ_=>bT _ _ _))
  ·exact h.elim
def eU (ops:Array Oper) (T:Array Bool->World->Prop) (j:Nat) (L:Array Bool) (w w':World):Prop:=
 match ops[j]? with
 | some o=>if nZ o.op=true then w'=w else T L w'
 | none=>w'=w
def gY (P:Program) (ops:Array Oper) (Q:Exit->Act->World->Prop) (T:Array Bool->World->Prop):Nat->Array Bool->Act->World->Prop
 | 0,listed,a,w=>Region.ready .any ops listed=[]/\Q .normal a w
 | f+1,listed,a,w=>(Region.ready .any ops listed=[]->Q .normal a w)/\
  ∀ i ∈ Region.ready .any ops listed,wpOp P ops Q i (λa' w'=>eU ops T i (listed.setIfInBounds i true) w w'/\gY P ops Q T f (listed.setIfInBounds i true) a' w') a w
theorem uH {ops:Array Oper} {Q:Exit->Act->World->Prop} {T:Array Bool->World->Prop}:∀ (f:Nat) (listed:Array Bool) (a:Act) (w:World),gY P ops Q T f listed a w->wpAny P .any ops Q f listed a w
 | 0,_,_,_,h=>h
 | f+1,_,_,_,h=>⟨h.1,λi hi=>wpOp_mono (λa' w' h'=>uH f _ a' w' h'.2) (h.2 i hi)⟩
theorem eU.mono {ops:Array Oper} {T T':Array Bool->World->Prop} {j:Nat} {L L':Array Bool} {w w':World} (hT:T' L' w'->T L w') (h:eU ops T' j L' w w'):eU ops T j L w w':=by
 unfold eU at *;split
 ·rename_i o ho;rw [ho] at h
  dsimp only at h
  split
  ·rename_i hq;rw [if_pos hq] at h;exact h
  ·rename_i hq;rw [if_neg hq] at h;exact hT h
 ·rename_i ho;rw [ho] at h;exact h
theorem lP {ops:Array Oper} {Q:Exit->Act->World->Prop} {T T':Array Bool->World->Prop} (hT:∀ L w,T' L w->T L w):∀ (f:Nat) (listed:Array Bool) (a:Act) (w:World),gY P ops Q T' f listed a w->gY P ops Q T f listed a w
 | 0,_,_,_,h=>h
 | f+1,_,_,_,h=>⟨h.1,λi hi=>wpOp_mono (λa' w' h'=>⟨h'.1.mono (hT _ _),lP hT f _ a' w' h'.2⟩) (h.2 i hi)⟩
theorem eU.refl {ops:Array Oper} {T:Array Bool->World->Prop} {i:Nat} {L:Array Bool} {o:Oper} (hi:ops[i]? = some o) (hq:nZ o.op=true) (w:World):eU ops T i L w w:=by
 unfold eU;rw [hi];simp [hq]
theorem aAp {x:Nat}:∀ {l:List Nat},memN x l=true->x ∈ l
 | [],h=>by cases h
 | y::l,h=>by
  unfold memN at h;split at h
  ·rename_i hb;rw [Nat.eq_of_beq_eq_true hb];exact List.mem_cons_self
  ·exact List.mem_cons_of_mem _ (aAp h)
theorem qV:∀ (l:List Oper) (k:Nat) (D:List Nat) {j:Nat},j ∈ D->j ∈ descG l k D
 | [],_,_,_,h=>h
 | o::r,k,D,j,h=>by
  unfold descG;split
  ·exact qV r _ _ (List.mem_cons_of_mem _ h)
  ·exact qV r _ _ h
theorem pU {ops:Array Oper} {Q:Exit->Act->World->Prop} {T T':Array Bool->World->Prop} {Ti:World->Prop} {i:Nat} {oi:Oper} {v:Value} (hi:ops[i]? = some oi) (hqi:nZ oi.op=true)
  (hsel:∀ (j:Nat) (o:Oper) cs b,ops[j]? = some o->o.op≠.select cs b) (hQ:∀ c a w,Q (.panic c) (a.put oi.dst v) w->Q (.panic c) a w)
  {D:List Nat} (hD:∀ j oj,j ∈ D->j≠i->ops[j]? = some oj->∃ e ∈ oj.after,Region.binds .any e=true/\e.on ∈ D)
  (t1:∀ L w,T' L w->T L w) (t2:∀ L w,T' (L.setIfInBounds i true) w->T L w) (t3:∀ L w,T' L w->(∀ k ∈ D,k≠i->L.getD k false=false)->Ti w) :
  ∀ (fuel:Nat) (listed:Array Bool) (a:Act) (w:World),
   (∀ j oj,ops[j]? = some oj->j≠i->listed.getD j true=false->j ∉ D->oi.apart ops oj=true)->(∀ k ∈ D,listed.getD k false=false)->
   i ∈ Region.ready .any ops listed->YieldsIf P ops Ti oi v a->Ti w->
   gY P ops Q T' fuel (listed.setIfInBounds i true) (a.put oi.dst v) w->gY P ops Q T (fuel+1) listed a w:=by
 intro fuel
 induction fuel with
 | zero=>
  intro listed a w _ _ hr hy hS H;refine ⟨λh=>(by rw [h] at hr;cases hr),λj hj=>?_⟩;by_cases hji:j=i
  ·subst hji;exact hy.wpOp hi hS ⟨eU.refl hi hqi w,lP t1 _ _ _ _ H⟩
  ·have:=ready_mono hj hji;rw [H.1] at this;cases this
 | succ fuel ih=>
  intro listed a w hfree hun0 hr hy hS H;refine ⟨λh=>(by rw [h] at hr;cases hr),λj hj=>?_⟩;by_cases hji:j=i
  ·subst hji;exact hy.wpOp hi hS ⟨eU.refl hi hqi w,lP t1 _ _ _ _ H⟩
  ·have h1:=H.2 j (ready_mono hj hji);obtain ⟨hjun,oj,hoj,hall⟩:=mem_ready.1 hj
   have hnot:j ∉ D:=λhjD=>by
    obtain ⟨e,he,hb,heD⟩:=hD j oj hjD hji hoj;have h1:=hall e he hb;have h0:=hun0 _ heD;rcases Nat.lt_or_ge e.on listed.size with h' | h'
    ·simp [h'] at h0 h1;rw [h0] at h1;cases h1
    ·simp [Array.getElem?_eq_none h'] at h1
   have hfj:=hfree j oj hoj hji hjun hnot;have h2:=wpOp_putIf hoj hfj (λcs b=>hsel i oi cs b hi) (λcs b=>hsel j oj cs b hoj) hQ hy h1
   have hfree':∀ k ok,ops[k]? = some ok->k≠i->(listed.setIfInBounds j true).getD k true=false->
     k ∉ D->oi.apart ops ok=true:=λk ok hk hki hun hno=>by
    refine hfree k ok hk hki ?_ hno;by_cases hjk:j=k
    ·subst hjk;exact hjun
    ·rw [getD_set_ne true hjk] at hun;exact hun
   have hTi:∀ w',eU ops T' j ((listed.setIfInBounds i true).setIfInBounds j true) w w'->Ti w':=λw' hA=>by
    unfold eU at hA;rw [hoj] at hA
    dsimp only at hA
    split at hA
    ·rw [hA];exact hS
    ·refine t3 _ _ hA λk hk hki=>?_;rw [getD_set_ne false (λg:j=k=>hnot (g ▸ hk)),getD_set_ne false (λg:i=k=>hki g.symm)];exact hun0 k hk
   refine wpOp_mono (λa' w' h3=>⟨h3.2.1.mono λhT=>t2 _ _ (by rw [Array.setIfInBounds_comm _ _ hji];exact hT),ih (listed.setIfInBounds j true) a' w' hfree' (λk hk=>?_) (ready_mono hr (Ne.symm hji)) h3.1 (hTi w' h3.2.1) ?_⟩) h2
   ·rw [getD_set_ne false (λg:j=k=>hnot (g ▸ hk))];exact hun0 k hk
   rw [Array.setIfInBounds_comm _ _ hji];exact h3.2.2
theorem descG_mp:∀ (l:List Oper) (k:Nat) (D:List Nat) (j:Nat),j ∈ descG l k D->j ∈ D\/(k<=j/\∃ o,l[j-k]? = some o/\∃ e ∈ o.after,Region.binds .any e=true/\e.on ∈ descG l k D)
 | [],_,_,_,h=>.inl h
 | o::r,k,D,j,h=>by
  unfold descG at h ⊢
  have step:∀ D',j ∈ descG r (k+1) D'->(j ∈ D'->j ∈ D\/(k<=j/\∃ o',(o::r)[j-k]? = some o'/\∃ e ∈ o'.after,Region.binds .any e=true/\e.on ∈ descG r (k+1) D'))->
    j ∈ D\/(k<=j/\∃ o',(o::r)[j-k]? = some o'/\∃ e ∈ o'.after,Region.binds .any e=true/\e.on ∈ descG r (k+1) D'):=λD' h1 h2=>by
   rcases descG_mp r (k+1) D' j h1 with h3 | ⟨h3,o',h4,h5⟩
   ·exact h2 h3
   ·refine .inr ⟨by omega,o',?_,h5⟩;rw [show j-k=j-(k+1)+1 by omega];exact h4
  split at h
  ·rename_i hb;refine step (k::D) h λh1=>?_;rcases List.mem_cons.1 h1 with rfl | h1
   ·refine .inr ⟨Nat.le_refl _,o,by simp,?_⟩;obtain ⟨e,he,hb⟩:=List.any_eq_true.1 hb;rw [Bool.and_eq_true] at hb;exact ⟨e,by simpa using he,hb.1,qV r _ _ (List.mem_cons_of_mem _ (aAp hb.2))⟩
   ·exact .inl h1
  ·exact step D h λh1=>.inl h1
theorem uR {ops:Array Oper} {i:Nat}:∀ j oj,j ∈ descG ops.toList 0 [i]->j≠i->ops[j]? = some oj->∃ e ∈ oj.after,Region.binds .any e=true/\e.on ∈ descG ops.toList 0 [i]:=by
 intro j oj hj hne ho;rcases descG_mp _ _ _ _ hj with h | ⟨_,o,h1,h2⟩
 ·exact absurd (by simpa using h) hne
 ·have:o=oj:=by
   have e1:ops.toList[j]? = some oj:=by simpa using ho
   rw [Nat.sub_zero,e1] at h1;exact (Option.some.inj h1).symm
  subst this;exact h2
theorem aAT {ops:Array Oper} {listed:Array Bool} {i:Nat} {oi:Oper} (h:qE ops.toList listed i oi=true):∀ k ∈ descG ops.toList 0 [i],listed.getD k false=false:=by
 unfold qE at h;rw [Bool.and_eq_true] at h;intro k hk;have:=List.all_eq_true.1 h.1 k hk;simpa using this
theorem aFs {ops:Array Oper} {listed:Array Bool} {i:Nat} {oi:Oper} (h:qE ops.toList listed i oi=true) :
  ∀ j oj,ops[j]? = some oj->j≠i->listed.getD j true=false->j ∉ descG ops.toList 0 [i]->oi.apart ops oj=true:=by
 intro j oj hj hne hun hno;unfold qE at h;rw [Bool.and_eq_true] at h;have hlt:j<ops.toList.length:=by simpa using (Array.getElem?_eq_some_iff.1 hj).1
 have h1:=List.all_eq_true.1 h.2 j (List.mem_range.2 hlt);have e1:ops.toList[j]? = some oj:=by simpa using hj
 rw [e1,hun] at h1
 have e2:Nat.beq j i=false:=by
  cases hb:Nat.beq j i with
  | false=>rfl
  | true=>exact absurd (Nat.eq_of_beq_eq_true hb) hne
 rw [e2] at h1;simp only [Bool.false_or,Array.toArray_toList,Bool.or_eq_true] at h1;rcases h1 with h1 | h1
 ·exact absurd (aAp h1) hno
 ·exact h1
theorem aB0 {ops:List Oper} {i j:Nat} {o:Oper} {L:Array Bool} (hj:ops[j]? = some o) (hq:nZ o.op=true) (h:aliveD ops i L=true):aliveD ops i (L.setIfInBounds j true)=true:=by
 unfold aliveD at *;rw [List.all_eq_true] at *;intro k hk;have:=h k hk;by_cases e:j=k
 ·subst e;rw [hj];simp [hq]
 ·rw [getD_set_ne false e];exact this
theorem aEz {ops:List Oper} {i:Nat} {o:Oper} {L:Array Bool} (hj:ops[i]? = some o) (hq:nZ o.op=true) (h:∀ k ∈ descG ops 0 [i],k≠i->L.getD k false=false):aliveD ops i L=true:=by
 unfold aliveD;rw [List.all_eq_true];intro k hk;by_cases e:k=i
 ·subst e;rw [hj];simp [hq]
 ·rw [h k hk e];rfl
def sG (n:Nat) (ops:Array Oper) (K:St->HP) (Kp:Value->HP) (a0:Act) (w0:World):Exit->Act->World->Prop
 | .normal,a',w'=>∃ s',iV n s' a'/\K s' w'.heap/\Kin false w0 w'/\jL ops.toList a0 a'
 | .panic ch,a',w'=>∃ v,ch=[{ v,recovered:=false }]/\a'.tmps.size=n/\(∀ t,memN t (ops.toList.flatMap opDst)=false->a'.tmps.getD t undef=a0.tmps.getD t undef)/\a'.defers=a0.defers/\Kp v w'.heap/\Kin false w0 w'
 | _,_,_=>False
structure aHQ (ops:Array Oper) (a a':Act):Prop where
 tmp:∀ t,memN t (ops.toList.flatMap opDst)=false->a'.tmps.getD t undef=a.tmps.getD t undef
 df:a'.defers=a.defers
theorem xZ {ops:List Oper} {o:Oper} {t:Nat} (ho:o ∈ ops) (ht:memN t (ops.flatMap opDst)=false):∀ d,o.dst=some d->d≠t:=by
 induction ops with
 | nil=>cases ho
 | cons x r ih=>
  rw [List.flatMap_cons,bH,Bool.or_eq_false_iff] at ht;cases ho with
  | head=>exact aAR ht.1
  | tail _ h=>exact ih h ht.2
theorem aHQ.step {ops:Array Oper} {a0 a a':Act} {o:Oper} {i:Nat} (h:aHQ ops a0 a) (hi:ops[i]? = some o) (ht:∀ t,(∀ d,o.dst=some d->d≠t)->a'.tmps.getD t undef=a.tmps.getD t undef) (hd:a'.defers=a.defers):aHQ ops a0 a':=
 ⟨λt hm=>by
  have hmem:o ∈ ops.toList:=by
   have:=Array.mem_of_getElem? hi;simpa using this
  rw [ht t (xZ hmem hm)];exact h.tmp t hm,hd.trans h.df⟩
theorem aJt {s:Sem Value} {w w':World} {nx:Next} (h:((do pure (.value (<- s))):Sem Next).run P w = .ok nx w'):∃ v,nx = .value v:=by
 rw [Sem.run_bind] at h;cases hs:s.run P w with
 | ok v w1=>rw [hs] at h;simp only [Result.andThen_ok,Sem.run_pure,Result.ok.injEq] at h;exact ⟨v,h.1.symm⟩
 | halt x w1=>rw [hs] at h;cases h
theorem aHN {f:Operand->Value} {o:Oper} (hq:nZ o.op=true) (hn:∀ x,o.op≠.nilCheck x) {w w':World} {nx:Next} (h:(execOp f o).run P w = .ok nx w'):∃ v,nx = .value v:=by
 obtain ⟨dst,op,ty,pos,after,guard⟩:=o;unfold execOp at h;cases op<;>first | (cases hq;done) | (dsimp only at h;exact aJt h) | skip
 case move x=>simp only [Sem.run_pure,Result.ok.injEq] at h;exact ⟨_,h.1.symm⟩
 case assign x=>simp only [Sem.run_pure,Result.ok.injEq] at h;exact ⟨_,h.1.symm⟩
 case nilCheck x=>exact absurd rfl (hn x)
 case pick c a b=>
  dsimp only at h
  rw [Sem.run_bind] at h;cases hs:(asBool (f c)).run P w with
  | ok v w1=>rw [hs] at h;simp only [Result.andThen_ok,Sem.run_pure,Result.ok.injEq] at h;exact ⟨_,h.1.symm⟩
  | halt x w1=>rw [hs] at h;cases h
 case call c=>
  obtain ⟨callee,args,ats⟩:=c;cases callee with
  | value g=>cases hq
  | invoke r m=>cases hq
  | builtin b=>
   simp only [resolve,Sem.run_bind,Sem.run_pure,Result.andThen_ok,invoke] at h;cases b<;>first | (cases hq;done) | exact aJt h
theorem rR {o:Oper} {s:St} {a:Act} {Kq:Value->Prop} {Kp:Value->HP} {Kd:Deferred->HP} {w:World} (hq:nZ o.op=true) (hr:iV n s a) (h:bO P C s.env o w.heap (λv _=>Kq v) Kp Kd) (hkp:∀ v h,¬ Kp v h) :
  ∃ v,((execOp a.eval o).run P w = .ok (.value v) w)/\Kq v:=by
 by_cases hn:∃ x,o.op = .nilCheck x
 ·obtain ⟨x,hx⟩:=hn;unfold bO at h;unfold execOp;rw [hx] at h ⊢;have h1:=wV_mp hr.ev h;unfold wZ at h1
  dsimp only
  split at h1
  ·rename_i p hp;obtain ⟨ad,rfl,hk⟩:=mR h1;rw [hp];exact ⟨_,rfl,hk⟩
  ·rename_i g u v hp;rw [hp];exact ⟨_,rfl,h1⟩
  ·exact h1.elim
 ·have hn:∀ x,o.op≠.nilCheck x:=λx e=>hn ⟨x,e⟩;have h2:=wR (dr:=true) (w:=w) (f:=a.eval) (C:=aLI) (λ_=>hq) (λ_ _ _ _ _ h=>h.elim) hr.ev (aD4 hq (zB hq h));have hv:=λnx w'=>aHN (P:=P) (f:=a.eval) (nx:=nx) (w:=w) (w':=w') hq hn;generalize (execOp a.eval o).run P w=res at h2 hv;cases res with
  | ok nx w'=>
   obtain ⟨v,rfl⟩:=hv nx w' rfl;obtain ⟨⟨hh,hk⟩,hkin⟩:=h2;have hw':=hkin.same hh;subst hw';exact ⟨_,rfl,hk⟩
  | halt x w'=>
   cases x<;>simp only [nD] at h2<;>try exact h2.elim
   exact absurd h2.1 (hkp _ _)
theorem aCH {ρ:Env} {o:Oper} {h h':Hp} {Kq:Value->Prop} {Kp:Value->HP} {Kd:Deferred->HP} (hq:nZ o.op=true) (hl:isL o.op=false) (hh:bO P C ρ o h (λv _=>Kq v) Kp Kd) :
  bO P C ρ o h' (λv _=>Kq v) Kp Kd:=by
 obtain ⟨dst,op,ty,pos,after,guard⟩:=o;unfold bO at hh ⊢;cases op<;>first | (cases hq;done) | (cases hl;done) | exact hh
def Fun1 (G:(Value->Prop)->Prop):Prop:=∀ K,G K->∃ v,K v/\G (λu=>u=v)
theorem Fun1.val (v:Value):Fun1 (λK=>K v):=λ_ h=>⟨v,h,rfl⟩
theorem Fun1.no:Fun1 (λ_=>False):=λ_ h=>h.elim
theorem Fun1.sel {b:Bool} {G H:(Value->Prop)->Prop} (hg:Fun1 G) (hh:Fun1 H):Fun1 (λK=>bsel b (G K) (H K)):=by
 intro K h;cases b
 ·exact hh K h
 ·exact hg K h
theorem Fun1.os {p:Option Addr} {G:Addr->(Value->Prop)->Prop} (hg:∀ a,Fun1 (G a)):Fun1 (λK=>aF p λa=>G a K):=by
 intro K h;cases p
 ·exact h.elim
 ·exact hg _ K h
theorem Fun1.ad {v:Value} {G:Addr->(Value->Prop)->Prop} (hg:∀ a,Fun1 (G a)):Fun1 (λK=>jN v λa=>G a K):=by
 unfold jN;cases v<;>first | exact Fun1.os hg | exact Fun1.no
theorem Fun1.ib {i:Int} {m:Nat} {G:(Value->Prop)->Prop} (hg:Fun1 G):Fun1 (λK=>bF i m (G K)):=Fun1.sel hg Fun1.no
theorem Fun1.wv {ρ:Env} {x:Operand} {G:Value->(Value->Prop)->Prop} (hg:∀ v,Fun1 (G v)):Fun1 (λK=>wV ρ x λv=>G v K):=by
 unfold wV;cases evO ρ x
 ·exact Fun1.no
 ·exact hg _
theorem Fun1.wo {ρ:Env} {x:Option Operand} {G:Option Value->(Value->Prop)->Prop} (hg:∀ v,Fun1 (G v)):Fun1 (λK=>wO ρ x λv=>G v K):=by
 cases x
 ·exact hg none
 ·exact Fun1.wv (λv=>hg (some v))
theorem Fun1.wl {ρ:Env}:∀ {l:List Operand} {G:List Value->(Value->Prop)->Prop} (_:∀ v,Fun1 (G v)),Fun1 (λK=>wL ρ l λv=>G v K)
 | [],_,hg=>hg []
 | _::_,_,hg=>Fun1.wv λv=>Fun1.wl λvs=>hg (v::vs)
theorem Fun1.wp {ρ:Env}:∀ {l:List (Nat × Operand)} {G:List (Nat × Value)->(Value->Prop)->Prop} (_:∀ v,Fun1 (G v)),Fun1 (λK=>wP ρ l λv=>G v K)
 | [],_,hg=>hg []
 | (i,_)::_,_,hg=>Fun1.wv λv=>Fun1.wp λvs=>hg ((i,v)::vs)
theorem Fun1.ze {t:TypeId} {G:Value->(Value->Prop)->Prop} (hg:∀ v,Fun1 (G v)):Fun1 (λK=>eB P t λv=>G v K):=by
 unfold eB;cases P.info? t with
 | none=>exact Fun1.no
 | some i=>cases h:i.zero with
  | none=>simp only [h];exact Fun1.no
  | some z=>simp only [h];exact hg z
theorem Fun1.eqd {op:BinOp} {b:Bool}:Fun1 (z7 op b):=by unfold z7;cases op<;>first | exact Fun1.no | exact Fun1.val _
theorem Fun1.bin {op:BinOp} {t:TypeId} {x y:Value}:Fun1 (aAm P op t x y):=by
 have har:∀ k a b,Fun1 (arD op k a b):=λk a b=>by
  unfold arD;cases op<;>first | exact Fun1.no | exact Fun1.val _ | exact Fun1.sel Fun1.no (Fun1.val _)
 have hsh:∀ k a b,Fun1 (shD op k a b):=λk a b=>by
  unfold shD;cases op<;>first | exact Fun1.no | exact Fun1.sel Fun1.no (Fun1.val _)
 unfold aAm;split
 ·split
  ·exact hsh _ _ _
  ·exact Fun1.sel (har _ _ _) Fun1.no
 all_goals first | exact Fun1.no | (split<;>first | exact Fun1.eqd | exact Fun1.no) | skip
 split
 ·split<;>first | exact Fun1.eqd | exact Fun1.no
 ·split
  ·intro K h;obtain ⟨as,bs,h1,h2,h3,h4,h⟩:=h;obtain ⟨v,hv,h5⟩:=Fun1.eqd K h;exact ⟨v,hv,as,bs,h1,h2,h3,h4,h5⟩
  ·split<;>first | exact Fun1.eqd | exact Fun1.no
  ·exact Fun1.no
 ·exact Fun1.no
theorem Fun1.bd {x:Option Value} {y d:Nat} {G:Nat->(Value->Prop)->Prop} (hg:∀ v,Fun1 (G v)):Fun1 (λK=>bdD x y d λm=>G m K):=by
 unfold bdD;split
 ·exact Fun1.ib (hg _)
 ·exact Fun1.no
 ·exact hg _
theorem Fun1.ge {c:CK} {cs:List Value} {i:Nat}:Fun1 (geC c cs i):=by
 intro K h;cases c<;>simp only [geC] at h ⊢<;>first | exact h.elim | (obtain ⟨x,h1,h2⟩:=h;exact ⟨_,h2,x,h1,rfl⟩)
theorem aDX:∀ {l:List CK} {cs:List Value} {o k:Nat} {K:List Value->Prop},geL l cs o k K->∃ vs,K vs/\geL l cs o k (λu=>u=vs)
 | [],_,_,_,_,h=>⟨[],h,rfl⟩
 | c::r,cs,o,k,K,h=>by
  obtain ⟨v,h1,h2⟩:=Fun1.ge _ h;obtain ⟨vs,h3,h4⟩:=aDX h1;exact ⟨v::vs,h3,aBv (λu e=>by subst e;exact qC (λus e=>by rw [e]) h4) h2⟩
theorem Fun1.geL {l:List CK} {cs:List Value} {o k:Nat}:Fun1 (λK=>geL l cs o k λvs=>K (.agg vs.toArray)):=λK h=>by
 obtain ⟨vs,h1,h2⟩:=aDX h;exact ⟨_,h1,qC (λu e=>by rw [e]) h2⟩
theorem aE7 {ρ:Env} {o:Oper} {h:Hp} {Kp:Value->HP} {Kd:Deferred->HP} (hq:nZ o.op=true) (hl:isL o.op=false):Fun1 λKq=>bO P C ρ o h (λv _=>Kq v) Kp Kd:=by
 obtain ⟨dst,op,ty,pos,after,guard⟩:=o;unfold bO;cases op<;>first | (cases hq;done) | (cases hl;done) | skip
 case move x=>exact Fun1.wv λv=>Fun1.val v
 case assign x=>exact Fun1.wv λv=>Fun1.val v
 case pick c a b=>
  refine Fun1.wv (G:=λvc K=>match vc with | .bool t=>bsel t (wV ρ a λv=>K v) (wV ρ b λv=>K v) | _=>False) λv=>?_
  cases v<;>first | exact Fun1.no | exact Fun1.sel (Fun1.wv λv=>Fun1.val v) (Fun1.wv λv=>Fun1.val v)
 case build t ps=>
  refine Fun1.wp (G:=λvs K=>match P.built t vs with | some cells=>K (.agg cells) | none=>False) λvs=>?_
  cases P.built t vs<;>first | exact Fun1.no | exact Fun1.val _
 case nilCheck x=>
  refine Fun1.wv (G:=λv K=>wZ v λu=>K u) λv=>?_;unfold wZ;split
  ·exact Fun1.os λa=>Fun1.val _
  ·exact Fun1.val _
  ·exact Fun1.no
 case binOp op t x y _=>exact Fun1.wv λvx=>Fun1.wv λvy=>Fun1.bin
 case unOp op _ x=>
  refine Fun1.wv (G:=λv K=>unD op v λu=>K u) λv=>?_;unfold unD;split<;>first | exact Fun1.no | exact Fun1.val _
 case convert s d x=>
  refine Fun1.wv (G:=λv K=>cvD P s d v λu=>K u) λv=>?_;unfold cvD;split<;>first | exact Fun1.no | exact Fun1.val _
 case makeInterface t x=>
  dsimp only [u5]
  split
  ·exact Fun1.wv λv=>Fun1.val _
  ·exact Fun1.no
 case makeFunc fn a b=>exact Fun1.wl λa=>Fun1.wl λb=>Fun1.val _
 case slice t x lo hi mx=>
  refine Fun1.wv λv=>Fun1.wo λl=>Fun1.wo λi=>Fun1.wo (G:=λm K=>aAs P t v l i m λu=>K u) λm=>?_;unfold aAs;split
  ·split
   ·exact Fun1.bd λm=>Fun1.bd λhh=>Fun1.bd λl=>Fun1.val _
   ·exact Fun1.no
  ·split
   ·exact Fun1.ad λa=>Fun1.bd λm=>Fun1.bd λhh=>Fun1.bd λl=>Fun1.val _
   ·exact Fun1.no
  ·exact Fun1.no
 case fieldAddr s x g=>
  refine Fun1.wv (G:=λv K=>uM P s v g λu=>K u) λv=>?_;unfold uM;split
  ·split
   ·split
    ·split
     ·exact Fun1.ad λa=>Fun1.val _
     ·exact Fun1.no
    ·exact Fun1.no
   ·exact Fun1.no
  ·exact Fun1.no
 case field t x g=>
  refine Fun1.wv (G:=λv K=>fvD P t v g λu=>K u) λv=>?_;unfold fvD;split
  ·split
   ·split
    ·split
     ·exact Fun1.val _
     ·split
      ·exact Fun1.val _
      ·exact Fun1.no
    ·exact Fun1.no
   ·exact Fun1.no
  ·exact Fun1.no
 case indexAddr t x i=>
  refine Fun1.wv λv=>Fun1.wv (G:=λvi K=>u6 P t v vi λu=>K u) λvi=>?_;unfold u6;split
  ·split
   ·exact Fun1.ad λa=>Fun1.ib (Fun1.val _)
   ·exact Fun1.no
  ·split
   ·exact Fun1.os λa=>Fun1.ib (Fun1.val _)
   ·exact Fun1.no
  ·exact Fun1.no
 case index t x i=>
  refine Fun1.wv λv=>Fun1.wv (G:=λvi K=>z8 P t v vi λu=>K u) λvi=>?_;unfold z8;split
  ·split
   ·split
    ·split
     ·exact Fun1.ib Fun1.ge
     ·exact Fun1.no
    ·split
     ·split
      ·exact Fun1.ib Fun1.geL
      ·exact Fun1.no
     ·exact Fun1.ib (Fun1.val _)
    ·exact Fun1.no
   ·exact Fun1.no
  ·exact Fun1.no
 case typeAssert x _ t ok=>
  refine Fun1.wv (G:=λv K=>taD P v t ok λu=>K u) λv=>?_;unfold taD;split
  ·exact Fun1.ze λz=>Fun1.val _
  ·split
   ·exact Fun1.val _
   ·exact Fun1.ze λz=>Fun1.val _
  ·exact Fun1.no
 case extract t i=>
  refine Fun1.wv (G:=λv K=>aBq v i λu=>K u) λv=>?_;unfold aBq;split
  ·split
   ·exact Fun1.val _
   ·exact Fun1.no
  ·exact Fun1.no
theorem wK {ops:Array Oper} {o:Oper} {a:Act} {i:Nat} {Q:Exit->Act->World->Prop} {K:Act->World->Prop} {w:World} (hi:ops[i]? = some o) (hw:Region.wanted o (yielded ops a.tmps)=false) (h:K (a.put o.dst undef) w):wpOp P ops Q i K a w:=by
 unfold wpOp;rw [hi];simp only [hw];exact h
theorem nQ {ops:Array Oper} {o:Oper} {a:Act} {i:Nat} {Q:Exit->Act->World->Prop} {K:Act->World->Prop} {w:World} (hi:ops[i]? = some o) (hw:Region.wanted o (yielded ops a.tmps)=true) (h:o.wp P a w K Q):wpOp P ops Q i K a w:=by
 unfold wpOp;rw [hi];simp only [hw,if_true];exact .inl h
theorem sG.hQ {ops:Array Oper} {K:St->HP} {Kp:Value->HP} {a0:Act} {w0:World} {i:Nat} {oi:Oper} (hi:ops[i]? = some oi) (v:Value) :
  ∀ c a w,sG n ops K Kp a0 w0 (.panic c) (a.put oi.dst v) w->sG n ops K Kp a0 w0 (.panic c) a w:=by
 rintro c a w ⟨u,rfl,hs,ht,hd,hk,hn⟩
 have hmem:oi ∈ ops.toList:=by
  have:=Array.mem_of_getElem? hi;simpa using this
 refine ⟨u,rfl,?_,λt hm=>?_,by rw [<-hd,bT],hk,hn⟩
 ·rw [<-hs];cases oi.dst<;>simp [Act.put]
 ·rw [<-ht t hm,cM (xZ hmem hm)]
theorem aHU {l:List Nat} {i:Nat} (h:aJ8 l i=true):l=[i]:=by
 unfold aJ8 at h;split at h
 ·rw [Nat.eq_of_beq_eq_true h]
 ·cases h
theorem aCy {ops:Array Oper} {Q:Exit->Act->World->Prop} {T:Array Bool->World->Prop} {f:Nat} {listed:Array Bool} {a:Act} {w:World} (hr:Region.ready .any ops listed≠[])
  (h:∀ i ∈ Region.ready .any ops listed,wpOp P ops Q i (λa' w'=>eU ops T i (listed.setIfInBounds i true) w w'/\gY P ops Q T f (listed.setIfInBounds i true) a' w') a w):gY P ops Q T (f+1) listed a w:=
 ⟨λh0=>absurd h0 hr,h⟩
theorem iH (hC:cG P C) {ops:Array Oper} {K:St->HP} {Kp:Value->HP} {a0:Act} {w0:World} (hsel:Region.noSelect ops=true):∀ (f:Nat) (T:Array Bool->HP) (l:List Nat) (listed:Array Bool) (s:St) (a:Act) (w:World),iV n s a->
  (∀ i o L h,ops[i]? = some o->nZ o.op=true->T (L.setIfInBounds i true) h->T L h)->
  cY P C n ops.toList f T l listed s K Kp w.heap->Kin false w0 w->aHQ ops a0 a->gY P ops (sG n ops K Kp a0 w0) (λL w=>T L w.heap) f listed a w
 | 0,T,l,listed,s,a,w,hr,ht,h,hk,hs=>by
  unfold cY at h;simp only [Array.toArray_toList] at h;exact ⟨h.1,s,hr,h.2,hk,⟨hs.tmp,λ_=>hs.df⟩⟩
 | f+1,T,[],listed,s,a,w,hr,ht,h,hk,hs=>by
  unfold cY at h;exact h.elim
 | f+1,T,i::r,listed,s,a,w,hr,ht,h,hk,hs=>by
  unfold cY at h;simp only [Array.toArray_toList] at h;obtain ⟨o,ho,h⟩:=h;have hi:ops[i]? = some o:=by simpa using ho
  have hskip:∀ {s1:St} {L:Array Bool},iV n s1 a->gJ n s1 o.dst undef (λs'=>cY P C n ops.toList f T r L s' K Kp w.heap)->gY P ops (sG n ops K Kp a0 w0) (λL w=>T L w.heap) f L (a.put o.dst undef) w:=by
   intro s1 L hr1 h1;obtain ⟨s',hk',hr'⟩:=dI h1 hr1;exact iH hC hsel f T r L s' _ w hr' ht hk' hk (hs.step hi (λt ht=>cM ht) (bT _ _ _))
  rcases h with ⟨hq,hready,hb,h⟩ | ⟨hne,hall⟩
  ·have hfree:=aFs hb;obtain ⟨s1,hr1,h1⟩:=qQ h hr;rcases h1 with ⟨hw,h1⟩ | ⟨hw,h1⟩
   ·have pin:∀ v,(∀ w',(bO P C s1.env o w'.heap (λv' _=>v'=v) (λ_ _=>False) (λ_ _=>False))->(execOp a.eval o).run P w' = .ok (.value v) w')->(isL o.op=false->∀ w',(execOp a.eval o).run P w' = .ok (.value v) w')->(execOp a.eval o).run P w = .ok (.value v) w->
      gJ n s1 o.dst v (λs'=>cY P C n ops.toList f (aFW P C T ops.toList i o s1 v) r (listed.setIfInBounds i true) s' K Kp w.heap)->
      gY P ops (sG n ops K Kp a0 w0) (λL w=>T L w.heap) (f+1) listed a w:=by
     intro v hv1 hv2 hrun hv;obtain ⟨s',hk',hr'⟩:=dI hv hr1
     have ht':∀ i' o' L h,ops[i']? = some o'->nZ o'.op=true->aFW P C T ops.toList i o s1 v (L.setIfInBounds i' true) h->aFW P C T ops.toList i o s1 v L h:=by
      intro i' o' L h ho' hq' ⟨g1,g2⟩;exact ⟨ht i' o' L h ho' hq' g1,λe1 e2=>g2 e1 (aB0 (by simpa using ho') hq' e2)⟩
     refine pU (T':=λL w=>aFW P C T ops.toList i o s1 v L w.heap) (Ti:=λw=>isL o.op=true->(execOp a.eval o).run P w = .ok (.value v) w) (v:=v) hi hq (Region.noSelect_spec hsel) (sG.hQ hi v) uR
      (λL w g=>g.1) (λL w g=>ht i o L w.heap hi hq g.1) (λL w g hun hl=>hv1 w (g.2 hl (aEz ho hq hun))) f listed a w hfree (aAT hb) hready (.inl ⟨hw,λw' hT=>?_⟩) (λ_=>hrun) ?_
     ·cases hl:isL o.op with
      | true=>exact hT hl
      | false=>exact hv2 hl w'
     ·exact iH hC hsel f _ r _ s' _ w hr' ht' hk' hk (hs.step hi (λt ht=>cM ht) (bT _ _ _))
    have hv1:∀ v w',(bO P C s1.env o w'.heap (λv' _=>v'=v) (λ_ _=>False) (λ_ _=>False))->(execOp a.eval o).run P w' = .ok (.value v) w':=λv w' hd=>by
     obtain ⟨v',hrun',rfl⟩:=rR hq hr1 hd (λ_ _ h=>h);exact hrun'
    cases hl:isL o.op with
    | true=>
     obtain ⟨v,hrun,hv⟩:=rR hq hr1 h1 (λ_ _ h=>h);exact pin v (hv1 v) (λe=>by rw [hl] at e;cases e) hrun hv
    | false=>
     obtain ⟨v,hv,hu⟩:=aE7 hq hl _ h1;exact pin v (hv1 v) (λ_ w'=>hv1 v w' (aCH (h':=w'.heap) hq hl hu)) (hv1 v w hu) hv
   ·exact pU (T':=λL w=>T L w.heap) (Ti:=λ_=>True) (v:=undef) hi hq (Region.noSelect_spec hsel) (sG.hQ hi undef) uR (λ_ _ g=>g) (λL w g=>ht i o L w.heap hi hq g) (λ_ _ _ _=>trivial) f listed a w hfree (aAT hb) hready (.inr ⟨hw,rfl⟩) trivial (hskip hr1 h1)
  ·refine aCy hne λj hj=>?_;rcases hall j hj with ⟨rfl,⟨hq,h⟩ | ⟨hq,hdf,h⟩⟩ | ⟨hne2,oj,hoj,hq,hdf,hg,h⟩
   ·obtain ⟨s1,hr1,h1⟩:=qQ h hr;rcases h1 with ⟨hw,h1⟩ | ⟨hw,h1⟩
    ·refine nQ hi hw ?_;obtain ⟨v,hrun,hv⟩:=rR hq hr1 h1 (λ_ _ h=>h);unfold Oper.wp;rw [hrun];obtain ⟨s',hk',hr'⟩:=dI hv hr1;exact ⟨eU.refl hi hq w,iH hC hsel f T r _ s' _ w hr' ht hk' hk (hs.step hi (λt ht=>cM ht) (bT _ _ _))⟩
    ·exact wK hi hw ⟨eU.refl hi hq w,hskip hr1 h1⟩
   ·obtain ⟨s1,hr1,h1⟩:=qQ h hr
    have hask:∀ w',T (listed.setIfInBounds j true) w'.heap->eU ops (λL w=>T L w.heap) j (listed.setIfInBounds j true) w w':=by
     intro w' hS;unfold eU;rw [hi];dsimp only;rw [if_neg (by simp [hq])];exact hS
    rcases h1 with ⟨hw,h1⟩ | ⟨hw,h1⟩
    ·refine nQ hi hw (tL hC hr1 h1 (λs' a' w' hr' hk' hkin ht' hd=>?_) (λv w' hv hkin=>?_))
     ·exact ⟨hask _ hk'.1,iH hC hsel f T r _ s' a' w' hr' ht hk'.2 (hk.trans hkin) (hs.step hi ht' (hd hdf))⟩
     ·exact ⟨v,rfl,hr1.size,hs.tmp,hs.df,hv,hk.trans hkin⟩
    ·obtain ⟨s',hk',hr'⟩:=dI h1 hr1;exact wK hi hw ⟨hask _ hk'.1,iH hC hsel f T r _ s' _ w hr' ht hk'.2 hk (hs.step hi (λt ht=>cM ht) (bT _ _ _))⟩
   ·have hj2:ops[j]? = some oj:=by simpa using hoj
    have hw:Region.wanted oj (yielded ops a.tmps)=true:=by simp [Region.wanted,hg]
    have hask:∀ w',T (listed.setIfInBounds j true) w'.heap->eU ops (λL w=>T L w.heap) j (listed.setIfInBounds j true) w w':=by
     intro w' hS;unfold eU;rw [hj2];dsimp only;rw [if_neg (by simp [hq])];exact hS
    refine nQ hj2 hw (tL hC hr h (λs' a' w' hr' hk' hkin ht' hd=>?_) (λv w' hv hkin=>?_))
    ·exact ⟨hask _ hk'.1,iH hC hsel f T _ _ s' a' w' hr' ht hk'.2 (hk.trans hkin) (hs.step hj2 ht' (hd hdf))⟩
    ·exact ⟨v,rfl,hr.size,hs.tmp,hs.df,hv,hk.trans hkin⟩
theorem eO {l:List Nat} {t:Nat} {v:Value}:∀ (e:Env),look (stripE l e) t=some v->look e t=some v/\memN t l=false
 | [],h=>by simp [stripE,look] at h
 | (d,u)::r,h=>by
  unfold stripE at h;split at h
  ·rename_i hm;obtain ⟨g1,g2⟩:=eO r h;refine ⟨?_,g2⟩;rw [aQ];split
   ·rename_i e;subst e;rw [hm] at g2;cases g2
   ·exact g1
  ·rename_i hm;rw [aQ] at h ⊢;split at h
   ·rename_i e;subst e;exact ⟨by rw [if_pos rfl];exact h,hm⟩
   ·rename_i hne;obtain ⟨g1,g2⟩:=eO r h;exact ⟨by rw [if_neg hne];exact g1,g2⟩
theorem vR {e:Env} {t:Nat} {v:Value}:∀ (l:List Nat),look (keepE e l) t=some v->look e t=some v/\memN t l=true
 | [],h=>by simp [keepE,look] at h
 | x::r,h=>by
  unfold keepE at h
  have step:look (keepE e r) t=some v->look e t=some v/\memN t (x::r)=true:=λh=>by
   obtain ⟨h1,h2⟩:=vR r h;refine ⟨h1,?_⟩;simp only [memN];cases Nat.beq x t<;>simp [h2]
  split at h
  ·rename_i u hu;rw [aQ] at h;split at h
   ·rename_i e1;subst e1;refine ⟨by rw [hu];exact h,?_⟩;have:Nat.beq x x=true:=by simp
    simp [memN]
   ·exact step h
  ·exact step h
theorem aFx {k:CK} {v:Value} {G:zS k->Prop} (h:gQ k v G):∀ (F:zS k->Value->Prop),alK k F->∃ x,F x v/\G x:=by
 intro F hF;cases k<;>cases v<;>simp only [gQ] at h<;>first | exact h.elim | skip
 case i.int kk k' n=>
  obtain ⟨h1,h2⟩:=bD h;have h1:=kEq_mp h1;subst h1;exact ⟨n,hF n,h2⟩
 case b.bool b=>exact ⟨b,hF b,h⟩
 case p.pointer p=>exact ⟨p,hF p,h⟩
 case s.slice a l c=>exact ⟨⟨a,l,c⟩,hF ⟨a,l,c⟩,h⟩
 case m.map m=>exact ⟨m,hF m,h⟩
 all_goals exact ⟨_,hF _,h⟩
theorem zO:∀ (l:List CK) (T:Type) (R:ArC l T) (vs:List Value) (G:T->Prop) (F:List Value->T->Prop),iI l T R vs G->alC l T R F->∃ R',F vs R'/\G R'
 | [],T,R,vs,G,F,h,hF=>by
  cases vs with
  | nil=>exact ⟨R,hF,h⟩
  | cons v vs=>exact h.elim
 | k::r,T,R,vs,G,F,h,hF=>by
  cases vs with
  | nil=>exact h.elim
  | cons v vs=>
   obtain ⟨x,hx,hg⟩:=aFx h _ hF;exact zO r T (R x) vs G (λvs R'=>F (v::vs) R') hg hx
theorem wA:∀ (l:List (Nat × Sh)) (T:Type) (R:wW l T) (e:Env) (G:T->Prop) (F:Env->T->Prop),sK l T R e G->alJ l T R F->
  ∃ e' R',F e' R'/\G R'/\∀ t v,look e' t=some v->look e t=some v
 | [],T,R,e,G,F,h,hF=>⟨[],R,hF,h,λt v h=>by simp [look] at h⟩
 | (t,.c k)::r,T,R,e,G,F,h,hF=>by
  simp only [sK] at h;split at h
  ·rename_i v hv;obtain ⟨x,hx,hg⟩:=aFx h _ hF;obtain ⟨e',R',h1,h2,h3⟩:=wA r T (R x) e G (λe R'=>F ((t,v)::e) R') hg hx;refine ⟨(t,v)::e',R',h1,h2,λt' u hu=>?_⟩;rw [aQ] at hu;split at hu
   ·rename_i e1;subst e1;rw [hv];exact hu
   ·exact h3 t' u hu
  ·exact h.elim
 | (t,.agg l)::r,T,R,e,G,F,h,hF=>by
  simp only [sK] at h;split at h
  ·rename_i vs hv;obtain ⟨R1,hx,hg⟩:=zO l (wW r T) R vs.toList _ _ h hF;obtain ⟨e',R',h1,h2,h3⟩:=wA r T R1 e G (λe R'=>F ((t,.agg vs.toList.toArray)::e) R') hg hx;refine ⟨(t,.agg vs.toList.toArray)::e',R',h1,h2,λt' u hu=>?_⟩;rw [aQ] at hu;split at hu
   ·rename_i e1;subst e1;rw [hv];simpa using hu
   ·exact h3 t' u hu
  ·exact h.elim
theorem iV.join {J:Join} {c:Code} {s s1:St} {a a1:Act} (hj:okJ J c=true) (hr:iV n s a) (hr1:iV n s1 a1) (hs:nH c a a1) {e:Env} (he:∀ t v,look e t=some v->look s1.env t=some v) :
  iV n ⟨e++keepE s.env J.keep,s.ds⟩ a1:=by
 unfold okJ at hj;simp only [Bool.and_eq_true] at hj;refine ⟨hr1.size,λt v h=>?_,by rw [hs.df hj.2];exact hr.ds⟩;rw [lH] at h;cases hl:look e t with
 | some u=>
  rw [hl] at h;simp only [Option.some_or,Option.some.injEq] at h;subst h;exact hr1.env t u (he t u hl)
 | none=>
  rw [hl,Option.none_or] at h;obtain ⟨h1,h2⟩:=vR _ h
  have hk:memN t (wrs c)=false:=by
   have key:∀ l:List Nat,(l.all λt=>!memN t (wrs c))=true->memN t l=true->memN t (wrs c)=false:=by
    intro l
    induction l with
    | nil=>intro _ h;cases h
    | cons x r ih=>
     intro k1 k2;simp only [List.all_cons,Bool.and_eq_true,Bool.not_eq_true'] at k1;simp only [memN] at k2;split at k2
     ·rename_i hb;have hb:=Nat.eq_of_beq_eq_true hb;rw [<-hb];exact k1.1
     ·exact ih k1.2 k2
   exact key _ hj.1 h2
  rw [hs.tmp t hk];exact hr.env t v h1
theorem nH.of_list {id:Nat} {ops:Array Oper} {dr:Bool} {a a':Act} (h:jL ops.toList a a'):nH (.region id ops dr) a a':=⟨h.tmp,h.df⟩
theorem jL.part {l1 l2:List Oper} {a a':Act} (h:jL l1 a a'):jL (l1++l2) a a':=
 ⟨λt ht=>h.tmp t (by rw [List.flatMap_append,bH,Bool.or_eq_false_iff] at ht;exact ht.1),
  λhd=>h.df (by rw [List.all_append,Bool.and_eq_true] at hd;exact hd.1)⟩
theorem jL.trans {l1 l2:List Oper} {a a1 a2:Act} (h:jL l1 a a1) (h2:jL l2 a1 a2):jL (l1++l2) a a2:=
 ⟨λt ht=>by
  rw [List.flatMap_append,bH,Bool.or_eq_false_iff] at ht;rw [h2.tmp t ht.2,h.tmp t ht.1],
  λhd=>by
  rw [List.all_append,Bool.and_eq_true] at hd;rw [h2.df hd.2,h.df hd.1]⟩
theorem nH.refl (c:Code) (a:Act):nH c a a:=⟨λ_ _=>rfl,λ_=>rfl⟩
theorem PostN.mono {K K':Ex->St->HP} {S S':Act->Act->Prop} {a a0:Act} {w w0:World} (hk:∀ e s h,K e s h->K' e s h) (hS:∀ a',S a a'->S' a0 a') (hkin:Kin false w0 w) :
  ∀ e a' w',PostN n K S a w e a' w'->PostN n K' S' a0 w0 e a' w'
 | .normal,_,_,⟨s',h1,h2,h3,h4⟩=>⟨s',h1,hk _ _ _ h2,hkin.trans h3,hS _ h4⟩
 | .exit _,_,_,⟨s',h1,h2,h3,h4⟩=>⟨s',h1,hk _ _ _ h2,hkin.trans h3,hS _ h4⟩
 | .ret,_,_,⟨s',h1,h2,h3,h4⟩=>⟨s',h1,hk _ _ _ h2,hkin.trans h3,hS _ h4⟩
 | .panic _,_,_,⟨v,s',e,h1,h2,h3,h4⟩=>⟨v,s',e,h1,hk _ _ _ h2,hkin.trans h3,hS _ h4⟩
 | .goto _,_,_,h=>h.elim
 | .outgrown,_,_,h=>h.elim
theorem kin_drew (w:World):Kin false w { w with drawn:=w.drawn+1 }:=⟨rfl,rfl,rfl,λe=>by cases e⟩
theorem aCX {c:Code} {a:Act} {w:World} {Q:Exit->Act->World->Prop} (I:Nat->Act->World->Prop) (m:Nat) (h₀:I m a w)
  (round:∀ m a w,I m a w->c.wp P (Exit.then (λa' w'=>∃ m',m'<m/\I m' a' w') Q) a w):(Code.loop c).wp P Q a w:=by
 intro b k cs
 have key:∀ m a w,I m a w->∃ e a' w',Q e a' w'/\Arrives P (lone (b.at a (.code c::.inLoop c::k)) cs w) b k cs e a' w':=by
  intro m
  induction m using Nat.strongRecOn with
  | _ m ih=>
   intro a w hI;obtain ⟨e,a₁,w₁,hq,harr⟩:=round m a w hI b (.inLoop c::k) cs;cases e with
   | normal=>
    obtain ⟨m',hlt,hI₁⟩:=hq;obtain ⟨e₂,a₂,w₂,hq₂,harr₂⟩:=ih m' hlt a₁ w₁ hI₁;exact ⟨e₂,a₂,w₂,hq₂,.of_steps (Steps.trans harr (.one step_inLoop)) harr₂⟩
   | exit id=>exact ⟨_,a₁,w₁,hq,.pass (x:=.inLoop c) rfl (λ_ _=>.inl (by simp)) harr⟩
   | goto l=>exact ⟨_,a₁,w₁,hq,.pass (x:=.inLoop c) rfl (λ_ _=>.inl (by simp)) harr⟩
   | ret=>exact ⟨_,a₁,w₁,hq,.pass (x:=.inLoop c) rfl (λ_ _=>.inl (by simp)) harr⟩
   | panic ch=>exact ⟨_,a₁,w₁,hq,.pass (x:=.inLoop c) rfl (λ_ _=>.inl (by simp)) harr⟩
   | outgrown=>exact ⟨_,a₁,w₁,hq,.pass (x:=.inLoop c) rfl (λ_ _=>.inl (by simp)) harr⟩
 obtain ⟨e,a',w',hq,harr⟩:=key m a w h₀;exact ⟨e,a',w',hq,.of_steps (.one step_loop) harr⟩
theorem aGw:∀ (l:List CK) (T:Type) (R:ArC l T) (vs:List Value) (G G':T->Prop),iI l T R vs G->(∀ x,G x->G' x)->iI l T R vs G':=by
 have hk:∀ (k:CK) (v:Value) (G G':zS k->Prop),gQ k v G->(∀ x,G x->G' x)->gQ k v G':=by
  intro k v G G' h hg;cases k<;>cases v<;>simp only [gQ] at h ⊢<;>first | exact h.elim | exact hg _ h | skip
  obtain ⟨h1,h2⟩:=bD h;exact cX.2 ⟨λ_=>hg _ h2,λe=>by rw [h1] at e;cases e⟩
 intro l
 induction l with
 | nil=>intro T R vs G G' h hg;cases vs with
  | nil=>exact hg _ h
  | cons v vs=>exact h.elim
 | cons k r ih=>intro T R vs G G' h hg;cases vs with
  | nil=>exact h.elim
  | cons v vs=>exact hk _ _ _ _ h λx hx=>ih T (R x) vs G G' hx hg
theorem aGV:∀ (l:List (Nat × Sh)) (T:Type) (R:wW l T) (e:Env) (G G':T->Prop),sK l T R e G->(∀ x,G x->G' x)->sK l T R e G':=by
 have hk:∀ (k:CK) (v:Value) (G G':zS k->Prop),gQ k v G->(∀ x,G x->G' x)->gQ k v G':=by
  intro k v G G' h hg;cases k<;>cases v<;>simp only [gQ] at h ⊢<;>first | exact h.elim | exact hg _ h | skip
  obtain ⟨h1,h2⟩:=bD h;exact cX.2 ⟨λ_=>hg _ h2,λe=>by rw [h1] at e;cases e⟩
 have hc:∀ (l:List CK) (T:Type) (R:ArC l T) (vs:List Value) (G G':T->Prop),iI l T R vs G->(∀ x,G x->G' x)->iI l T R vs G':=by
  intro l
  induction l with
  | nil=>intro T R vs G G' h hg;cases vs with
   | nil=>exact hg _ h
   | cons v vs=>exact h.elim
  | cons k r ih=>intro T R vs G G' h hg;cases vs with
   | nil=>exact h.elim
   | cons v vs=>exact hk _ _ _ _ h λx hx=>ih T (R x) vs G G' hx hg
 intro l
 induction l with
 | nil=>intro T R e G G' h hg;exact hg _ h
 | cons p r ih=>
  obtain ⟨t,sh⟩:=p;intro T R e G G' h hg;cases sh with
  | c k=>
   simp only [sK] at h ⊢;split at h
   ·exact hk _ _ _ _ h λx hx=>ih T (R x) e G G' hx hg
   ·exact h.elim
  | agg l=>
   simp only [sK] at h ⊢;split at h
   ·exact hc _ _ _ _ _ _ h λx hx=>ih T x e G G' hx hg
   ·exact h.elim
theorem aFE {M:Type}:∀ (l:List (Nat × Sh)) (T:Type) (R:wW l T) (e:Env) (G:M->T->Prop),(sK l T R e λx=>∃ m,G m x)->∃ m,sK l T R e (G m):=by
 have hk:∀ (k:CK) (v:Value) (G:M->zS k->Prop),(gQ k v λx=>∃ m,G m x)->∃ m,gQ k v (G m):=by
  intro k v G h;cases k<;>cases v<;>simp only [gQ] at h ⊢<;>first | exact h.elim | exact h | skip
  obtain ⟨h1,m,h2⟩:=bD h;exact ⟨m,cX.2 ⟨λ_=>h2,λe=>by rw [h1] at e;cases e⟩⟩
 have hc:∀ (l:List CK) (T:Type) (R:ArC l T) (vs:List Value) (G:M->T->Prop),(iI l T R vs λx=>∃ m,G m x)->∃ m,iI l T R vs (G m):=by
  intro l
  induction l with
  | nil=>intro T R vs G h;cases vs with
   | nil=>exact h
   | cons v vs=>exact h.elim
  | cons k r ih=>intro T R vs G h;cases vs with
   | nil=>exact h.elim
   | cons v vs=>
    refine hk k v (λm x=>iI r T (R x) vs (G m)) ?_
    have hkm:∀ (k:CK) (v:Value) (G G':zS k->Prop),gQ k v G->(∀ x,G x->G' x)->gQ k v G':=by
     intro k v G G' h hg;cases k<;>cases v<;>simp only [gQ] at h ⊢<;>first | exact h.elim | exact hg _ h | skip
     obtain ⟨h1,h2⟩:=bD h;exact cX.2 ⟨λ_=>hg _ h2,λe=>by rw [h1] at e;cases e⟩
    exact hkm k v _ _ h λx hx=>ih T (R x) vs G hx
 intro l
 induction l with
 | nil=>intro T R e G h;exact h
 | cons p r ih=>
  obtain ⟨t,sh⟩:=p;intro T R e G h;cases sh with
  | c k=>
   simp only [sK] at h ⊢;split at h
   ·rename_i v hv;refine hk k v (λm x=>sK r T (R x) e (G m)) ?_
    have hkm:∀ (k:CK) (v:Value) (G G':zS k->Prop),gQ k v G->(∀ x,G x->G' x)->gQ k v G':=by
     intro k v G G' h hg;cases k<;>cases v<;>simp only [gQ] at h ⊢<;>first | exact h.elim | exact hg _ h | skip
     obtain ⟨h1,h2⟩:=bD h;exact cX.2 ⟨λ_=>hg _ h2,λe=>by rw [h1] at e;cases e⟩
    exact hkm k v _ _ h λx hx=>ih T (R x) e G hx
   ·exact h.elim
  | agg l=>
   simp only [sK] at h ⊢;split at h
   ·rename_i vs hv;refine hc l (wW r T) R vs.toList (λm x=>sK r T x e (G m)) ?_;exact aGw l (wW r T) R vs.toList _ _ h λx hx=>ih T x e G hx
   ·exact h.elim
theorem cU (hm:P.follows .mixedOrders=true) (hC:cG P C):∀ (c:Code) (ann:Ann) (K:Ex->St->HP) (s:St) (a:Act) (w:World),iV n s a->tI P C n ann c K s w.heap->
  c.wp P (PostN n K (nH c) a w) a w
 | .skip,ann,K,s,a,w,hr,h=>by
  rcases ann with _ | k | od | ⟨_ | J,a1,b1⟩ | ⟨a1,b1⟩ | a1 | ⟨J,a1⟩<;>first | exact False.elim h | skip
  exact wp_skip ⟨s,hr,h,Kin.refl _ w,nH.refl _ a⟩
 | .label l,ann,K,s,a,w,hr,h=>by
  rcases ann with _ | k | od | ⟨_ | J,a1,b1⟩ | ⟨a1,b1⟩ | a1 | ⟨J,a1⟩<;>first | exact False.elim h | skip
  exact wp_label ⟨s,hr,h,Kin.refl _ w,nH.refl _ a⟩
 | .ret,ann,K,s,a,w,hr,h=>by
  rcases ann with _ | k | od | ⟨_ | J,a1,b1⟩ | ⟨a1,b1⟩ | a1 | ⟨J,a1⟩<;>first | exact False.elim h | skip
  exact wp_ret ⟨s,hr,h,Kin.refl _ w,nH.refl _ a⟩
 | .exit id,ann,K,s,a,w,hr,h=>by
  rcases ann with _ | k | od | ⟨_ | J,a1,b1⟩ | ⟨a1,b1⟩ | a1 | ⟨J,a1⟩<;>first | exact False.elim h | skip
  exact wp_exit ⟨s,hr,h,Kin.refl _ w,nH.refl _ a⟩
 | .region id ops dr,ann,K,s,a,w,hr,h=>by
  cases dr with
  | false=>
   rcases ann with _ | k | od | ⟨_ | J,a1,b1⟩ | ⟨a1,b1⟩ | a1 | ⟨J,a1⟩<;>first | exact False.elim h | skip
   exact wp_region_list (mT hC ops.toList s a w hr h (nH (.region id ops false)) a w (Kin.refl _ w) (λa' h=>nH.of_list h) (λl1 l2 a' e h=>nH.of_list (by rw [e];exact h.part)))
  | true=>
   rcases ann with _ | k | od | ⟨_ | J,a1,b1⟩ | ⟨a1,b1⟩ | a1 | ⟨J,a1⟩<;>first | exact False.elim h | skip
   have harr:ops.toList.toArray=ops:=Array.toArray_toList;unfold tI at h;split at h
   ·split at h
    ·rename_i hb;rw [harr] at hb;refine wp_region_still hm hb (l6 ops.toList s a _ hr h λs' a' hr' hk hs=>?_);exact ⟨s',hr',hk,kin_drew w,nH.of_list hs⟩
    ·exact h.elim
   ·split at h
    ·rename_i hb;rw [<-harr];refine wp_region_still_tail k hm hb (l6 (ops:=ops.toList.toArray) (ops.toList.take k) s a _ hr h λs' a' hr' hk hs=>?_);refine mT (ops:=ops.toList.toArray) hC (ops.toList.drop k) s' a' { w with drawn:=w.drawn+1 } hr' hk _ _ _ (kin_drew w) (λa2 h2=>nH.of_list ?_) (λl1 l2 a2 e h2=>nH.of_list ?_)
     ·have:=hs.trans h2;rwa [List.take_append_drop] at this
     ·have:=(hs.trans h2).part (l2:=l2);rw [List.append_assoc,<- e,List.take_append_drop] at this;exact this
    ·exact h.elim
   ·unfold tI at h
    have key:Region.noSelect ops=true->cY P C n ops.toList ops.toList.length (λ_ _=>True) od (Array.replicate ops.toList.length false) s (K .normal) (λv h=>K (.panic v) ⟨stripE (ops.toList.flatMap opDst) s.env,s.ds⟩ h) w.heap->
      (Code.region id ops true).wp P (PostN n K (nH (.region id ops true)) a w) a w:=by
     intro hsel h;have h0:=iH (a0:=a) (w0:=w) hC hsel ops.toList.length (λ_ _=>True) od (Array.replicate ops.toList.length false) s a { w with drawn:=w.drawn+1 } hr (λ_ _ _ _ _ _ g=>g) h (kin_drew w) ⟨λ_ _=>rfl,rfl⟩;rw [Array.length_toList] at h0;refine wp_mono (wp_region_any hm (uH _ _ _ _ h0)) λe a' w' hp=>?_;cases e with
     | normal=>
      obtain ⟨s',h1,h2,h3,h4⟩:=hp;exact ⟨s',h1,h2,h3,nH.of_list h4⟩
     | panic ch=>
      obtain ⟨v,rfl,hs,ht,hd,hk,hn⟩:=hp
      exact ⟨v,⟨stripE (ops.toList.flatMap opDst) s.env,s.ds⟩,rfl,⟨hs,λt u hl=>by
       obtain ⟨g1,g2⟩:=eO _ hl;rw [ht t g2];exact hr.env t u g1,hd.trans hr.ds⟩,hk,hn,nH.of_list ⟨ht,λ_=>hd⟩⟩
     | exit id=>exact hp.elim
     | ret=>exact hp.elim
     | goto l=>exact hp.elim
     | outgrown=>exact hp.elim
    split at h
    ·rename_i hsel;exact key hsel h
    ·exact h.elim
 | .seq x y,ann,K,s,a,w,hr,h=>by
  rcases ann with _ | k | od | ⟨_ | J,a1,b1⟩ | ⟨a1,b1⟩ | a1 | ⟨J,a1⟩<;>first | exact False.elim h | skip
  ·refine wp_seq (wp_mono (cU hm hC x a1 _ s a w hr h) λe a' w' hp=>?_);cases e with
   | normal=>
    obtain ⟨s',h1,h2,h3,h4⟩:=hp;refine wp_mono (cU hm hC y b1 K s' a' w' h1 h2) (PostN.mono (λ_ _ _ h=>h) (λa2 hs=>?_) h3)
    exact ⟨λt ht=>by
     simp only [wrs,bH,Bool.or_eq_false_iff] at ht;rw [hs.tmp t ht.2,h4.tmp t ht.1],λhd=>by
     simp only [noDf,Bool.and_eq_true] at hd;rw [hs.df hd.2,h4.df hd.1]⟩
   | exit id=>exact PostN.mono (n:=n) (K:=K) (S:=nH x) (λ_ _ _ h=>h) (λa' hs=>⟨λt ht=>hs.tmp t (by simp only [wrs,bH,Bool.or_eq_false_iff] at ht;exact ht.1),λhd=>hs.df (by simp only [noDf,Bool.and_eq_true] at hd;exact hd.1)⟩) (Kin.refl _ w) (.exit id) a' w' hp
   | ret=>exact PostN.mono (n:=n) (K:=K) (S:=nH x) (λ_ _ _ h=>h) (λa' hs=>⟨λt ht=>hs.tmp t (by simp only [wrs,bH,Bool.or_eq_false_iff] at ht;exact ht.1),λhd=>hs.df (by simp only [noDf,Bool.and_eq_true] at hd;exact hd.1)⟩) (Kin.refl _ w) .ret a' w' hp
   | panic ch=>exact PostN.mono (n:=n) (K:=K) (S:=nH x) (λ_ _ _ h=>h) (λa' hs=>⟨λt ht=>hs.tmp t (by simp only [wrs,bH,Bool.or_eq_false_iff] at ht;exact ht.1),λhd=>hs.df (by simp only [noDf,Bool.and_eq_true] at hd;exact hd.1)⟩) (Kin.refl _ w) (.panic ch) a' w' hp
   | goto l=>exact hp.elim
   | outgrown=>exact hp.elim
  ·unfold tI at h;split at h
   ·rename_i hj;obtain ⟨R,hall,hx⟩:=h;refine wp_seq (wp_mono (cU hm hC x a1 _ s a w hr hx) λe a' w' hp=>?_);cases e with
    | normal=>
     obtain ⟨s',h1,h2,h3,h4⟩:=hp;obtain ⟨e',R',g1,g2,g3⟩:=wA _ _ _ _ _ _ h2 hall;have hr':=iV.join hj hr h1 h4 g3;refine wp_mono (cU hm hC y b1 K _ a' w' hr' (g1 _ g2)) (PostN.mono (λ_ _ _ h=>h) (λa2 hs=>?_) h3)
     exact ⟨λt ht=>by
      simp only [wrs,bH,Bool.or_eq_false_iff] at ht;rw [hs.tmp t ht.2,h4.tmp t ht.1],λhd=>by
      simp only [noDf,Bool.and_eq_true] at hd;rw [hs.df hd.2,h4.df hd.1]⟩
    | exit id=>exact PostN.mono (n:=n) (K:=K) (S:=nH x) (λ_ _ _ h=>h) (λa' hs=>⟨λt ht=>hs.tmp t (by simp only [wrs,bH,Bool.or_eq_false_iff] at ht;exact ht.1),λhd=>hs.df (by simp only [noDf,Bool.and_eq_true] at hd;exact hd.1)⟩) (Kin.refl _ w) (.exit id) a' w' hp
    | ret=>exact PostN.mono (n:=n) (K:=K) (S:=nH x) (λ_ _ _ h=>h) (λa' hs=>⟨λt ht=>hs.tmp t (by simp only [wrs,bH,Bool.or_eq_false_iff] at ht;exact ht.1),λhd=>hs.df (by simp only [noDf,Bool.and_eq_true] at hd;exact hd.1)⟩) (Kin.refl _ w) .ret a' w' hp
    | panic ch=>exact PostN.mono (n:=n) (K:=K) (S:=nH x) (λ_ _ _ h=>h) (λa' hs=>⟨λt ht=>hs.tmp t (by simp only [wrs,bH,Bool.or_eq_false_iff] at ht;exact ht.1),λhd=>hs.df (by simp only [noDf,Bool.and_eq_true] at hd;exact hd.1)⟩) (Kin.refl _ w) (.panic ch) a' w' hp
    | goto l=>exact hp.elim
    | outgrown=>exact hp.elim
   ·exact False.elim h
 | .cond c x y,ann,K,s,a,w,hr,h=>by
  rcases ann with _ | k | od | ⟨_ | J,a1,b1⟩ | ⟨a1,b1⟩ | a1 | ⟨J,a1⟩<;>first | exact False.elim h | skip
  have h1:=wV_mp hr.ev h;split at h1
  ·rename_i t ht;refine wp_cond_split ht (λe=>?_) (λe=>?_)
   ·exact wp_mono (cU hm hC x a1 K s a w hr (cX.1 h1 |>.1 e)) (PostN.mono (λ_ _ _ h=>h) (λa' hs=>⟨λt ht=>hs.tmp t (by simp only [wrs,bH,Bool.or_eq_false_iff] at ht;exact ht.1),λhd=>hs.df (by simp only [noDf,Bool.and_eq_true] at hd;exact hd.1)⟩) (Kin.refl _ w))
   ·exact wp_mono (cU hm hC y b1 K s a w hr (cX.1 h1 |>.2 e)) (PostN.mono (λ_ _ _ h=>h) (λa' hs=>⟨λt ht=>hs.tmp t (by simp only [wrs,bH,Bool.or_eq_false_iff] at ht;exact ht.2),λhd=>hs.df (by simp only [noDf,Bool.and_eq_true] at hd;exact hd.2)⟩) (Kin.refl _ w))
  ·exact h1.elim
 | .block id x,ann,K,s,a,w,hr,h=>by
  rcases ann with _ | k | od | ⟨_ | J,a1,b1⟩ | ⟨a1,b1⟩ | a1 | ⟨J,a1⟩<;>first | exact False.elim h | skip
  refine wp_block (wp_mono (cU hm hC x a1 _ s a w hr h) λe a' w' hp=>?_);cases e with
  | normal=>
   obtain ⟨s',h1,h2,h3,h4⟩:=hp;exact ⟨s',h1,h2,h3,⟨h4.tmp,h4.df⟩⟩
  | exit id'=>
   obtain ⟨s',h1,h2,h3,h4⟩:=hp
   dsimp only at h2
   unfold Exit.inBlock
   dsimp only
   cases hb:Nat.beq id' id with
   | true=>
    rw [hb] at h2;rw [if_pos (Nat.eq_of_beq_eq_true hb)];exact ⟨s',h1,h2,h3,⟨h4.tmp,h4.df⟩⟩
   | false=>
    rw [hb] at h2;rw [if_neg (λe=>by rw [e] at hb;simp at hb)];exact ⟨s',h1,h2,h3,⟨h4.tmp,h4.df⟩⟩
  | ret=>
   obtain ⟨s',h1,h2,h3,h4⟩:=hp;exact ⟨s',h1,h2,h3,⟨h4.tmp,h4.df⟩⟩
  | panic ch=>
   obtain ⟨v,s',e,h1,h2,h3,h4⟩:=hp;exact ⟨v,s',e,h1,h2,h3,⟨h4.tmp,h4.df⟩⟩
  | goto l=>exact hp.elim
  | outgrown=>exact hp.elim
 | .loop x,ann,K,s,a,w,hr,h=>by
  rcases ann with _ | k | od | ⟨_ | J,a1,b1⟩ | ⟨a1,b1⟩ | a1 | ⟨J,a1⟩<;>first | exact False.elim h | skip
  unfold tI at h;split at h
  ·rename_i hj;obtain ⟨I,h0,hall⟩:=h;obtain ⟨m,hm0⟩:=aFE _ _ _ _ (λm (I':Nat->HP)=>I' m w.heap) h0;refine aCX (λm a' w'=>∃ s1,iV n s1 a'/\(sK J.live (Nat->HP) I s1.env λI'=>I' m w'.heap)/\Kin false w w'/\nH (.loop x) a a') m ⟨s,hr,hm0,Kin.refl _ w,nH.refl _ a⟩ ?_;rintro m a2 w2 ⟨s1,g1,g2,g3,g4⟩;obtain ⟨e',I',k1,k2,k3⟩:=wA _ _ _ _ _ _ g2 hall;have hr':=iV.join hj hr g1 ⟨g4.tmp,g4.df⟩ k3;refine wp_mono (cU hm hC x a1 _ _ a2 w2 hr' (k1 m _ k2)) λe a' w' hp=>?_;have tr:∀ a',nH x a2 a'->nH (.loop x) a a':=λa' hs=>⟨λt ht=>by rw [hs.tmp t ht];exact g4.tmp t ht,λhd=>by rw [hs.df hd];exact g4.df hd⟩;cases e with
   | normal=>
    obtain ⟨s',h1,h2,h3,h4⟩:=hp;obtain ⟨m',g5⟩:=aFE _ _ _ _ (λm' (I':Nat->HP)=>m'<m/\I' m' w'.heap) h2
    have hlt:m'<m:=by
     obtain ⟨_,_,_,h,_⟩:=wA _ _ _ _ _ _ g5 hall;exact h.1
    exact ⟨m',hlt,s',h1,aGV _ _ _ _ _ _ g5 λ_ h=>h.2,g3.trans h3,tr a' h4⟩
   | exit id=>exact PostN.mono (n:=n) (K:=K) (S:=nH x) (λ_ _ _ h=>h) tr g3 (.exit id) a' w' hp
   | ret=>exact PostN.mono (n:=n) (K:=K) (S:=nH x) (λ_ _ _ h=>h) tr g3 .ret a' w' hp
   | panic ch=>exact PostN.mono (n:=n) (K:=K) (S:=nH x) (λ_ _ _ h=>h) tr g3 (.panic ch) a' w' hp
   | goto l=>exact hp.elim
   | outgrown=>exact hp.elim
  ·exact False.elim h
 | .rangeFunc ..,ann,_,_,_,_,_,h=>by rcases ann with _ | k | od | ⟨_ | J,a1,b1⟩ | ⟨a1,b1⟩ | a1 | ⟨J,a1⟩<;>exact False.elim h
 | .scope _,ann,_,_,_,_,_,h=>by rcases ann with _ | k | od | ⟨_ | J,a1,b1⟩ | ⟨a1,b1⟩ | a1 | ⟨J,a1⟩<;>exact False.elim h
 | .goto _,ann,_,_,_,_,_,h=>by rcases ann with _ | k | od | ⟨_ | J,a1,b1⟩ | ⟨a1,b1⟩ | a1 | ⟨J,a1⟩<;>exact False.elim h
 | .refuse _,ann,_,_,_,_,_,h=>by rcases ann with _ | k | od | ⟨_ | J,a1,b1⟩ | ⟨a1,b1⟩ | a1 | ⟨J,a1⟩<;>exact False.elim h
end
end Go.Dn
