/- That what is read of code is what the model does. -/
import Derived.Test.YtfnkdpmbpgffbaaGreatDnH
import Derived.OrdersHeld
namespace Go.Dn
structure mH (n:Nat) (s:St) (a:Act):Prop where
 size:a.tmps.size=n
 env:∀ t v,look s.env t=some v->a.tmps.getD t undef=v
 ds:a.defers=s.ds
structure o5 (c:Code) (a a':Act):Prop where
 tmp:∀ t,memN t (wrs c)=false->a'.tmps.getD t undef=a.tmps.getD t undef
 df:noDf c=true->a'.defers=a.defers
structure eT (P:Program) (C:CT):Prop where
 enters:Enters P C
 calls:∀ f args K Kp w,C f args K Kp w.heap->Ent P f->Calls P f args.toArray w λe w'=>Kin false w w'/\match e with
  | .returned v=>K v w'.heap
  | .panicked ch=>∃ v,ch=[{ v,recovered:=false }]/\Kp v w'.heap
  | .outgrown=>False
section
variable {P:Program} {C:CT} {n:Nat}
theorem mH.ev {s:St} {a:Act} (b:mH n s a):ReE s.env a.eval:=by
 intro x v h;cases x<;>simp only [evO,Option.some.injEq] at h
 .exact b.env _ _ h
 .exact h
 .exact h
 .exact h
theorem aO {d t:Nat} {v:Value} {e:Env}:look ((d,v)::e) t=if d=t then some v else look e t:=by
 simp only [look];cases h:Nat.beq d t with
 | true=>have:=Nat.eq_of_beq_eq_true h;simp [this]
 | false=>
  have:d≠t:=λe=>by rw [e] at h;simp at h
  simp [this]
theorem mM {e a:Env} {t:Nat}:look (e++a) t=(look e t).or (look a t):=by
 induction e with
 | nil=>simp [look]
 | cons p e ih=>
  obtain ⟨d,v⟩:=p;rw [List.cons_append,aO,aO,ih];split<;>simp
theorem mH.put {s:St} {a:Act} (b:mH n s a) {d:Nat} (f:d<n) (v:Value):mH n { s with env:=(d,v)::s.env } (a.put (some d) v):=by
 refine ⟨by simp [Act.put,b.size],λt u h=>?_,b.ds⟩;rw [aO] at h;have hs:=b.size;split at h
 .rename_i e;subst e;simp only [Option.some.injEq] at h;subst h;simp [Act.put,hs,f]
 .rename_i c;have:=b.env t u h;simp only [Act.put,Array.getD_eq_getD_getElem?,Array.getElem?_setIfInBounds_ne c] at this ⊢;exact this
theorem eW {s:St} {b:Option Tmp} {v:Value} {K:St->Prop} {a:Act} (h:hZ n s b v K) (e:mH n s a):∃ s',K s'/\mH n s' (a.put b v):=by
 unfold hZ at h;split at h
 .exact ⟨s,h,e⟩
 .split at h
  .rename_i d _ c;have c:d<n:=by simpa [Nat.blt_eq] using c
   exact ⟨_,h,e.put c v⟩
  .exact h.elim
theorem cW {a:Act} {b:Option Tmp} {v:Value} {t:Nat} (h:∀ d,b=some d->d≠t):(a.put b v).tmps.getD t undef=a.tmps.getD t undef:=by
 cases b with
 | none=>rfl
 | some d=>simp only [Act.put,Array.getD_eq_getD_getElem?,Array.getElem?_setIfInBounds_ne (h d rfl)]
structure kQ (l:List Oper) (a a':Act):Prop where
 tmp:∀ t,memN t (l.flatMap opDst)=false->a'.tmps.getD t undef=a.tmps.getD t undef
 df:(l.all λo=>!isDf o.op)=true->a'.defers=a.defers
theorem bI {t:Nat}:∀ {l m:List Nat},memN t (l++m)=(memN t l || memN t m)
 | [],m=>rfl
 | x::r,m=>by
  simp only [List.cons_append,memN];cases Nat.beq x t<;>simp [bI]
theorem aCU {t:Nat} {o:Oper} (h:memN t (opDst o)=false):∀ d,o.dst=some d->d≠t:=by
 intro d a e;subst e;simp [opDst,a,memN] at h
theorem kQ.refl (a:Act):kQ [] a a:=⟨λ_ _=>rfl,λ_=>rfl⟩
theorem kQ.cons {o:Oper} {l:List Oper} {a b e:Act} (g:∀ t,(∀ d,o.dst=some d->d≠t)->b.tmps.getD t undef=a.tmps.getD t undef) (i:isDf o.op=false->b.defers=a.defers)
  (h:kQ l b e):kQ (o::l) a e:=by
 refine ⟨λt c=>?_,λf=>?_⟩
 .rw [List.flatMap_cons,bI,Bool.or_eq_false_iff] at c;rw [h.tmp t c.2];exact g t (aCU c.1)
 .simp only [List.all_cons,Bool.and_eq_true,Bool.not_eq_true'] at f;rw [h.df (by simp_all)];exact i f.1
theorem cB (a:Act) (b:Option Tmp) (v:Value):(a.put b v).defers=a.defers:=by cases b<;>rfl
def PostN (n:Nat) (K:Ex->St->HP) (S:Act->Act->Prop) (a:Act) (w:World):Exit->Act->World->Prop
 | .normal,a',w'=>∃ s',mH n s' a'/\K .normal s' w'.heap/\Kin false w w'/\S a a'
 | .exit id,a',w'=>∃ s',mH n s' a'/\K (.exit id) s' w'.heap/\Kin false w w'/\S a a'
 | .ret,a',w'=>∃ s',mH n s' a'/\K .ret s' w'.heap/\Kin false w w'/\S a a'
 | .panic ch,a',w'=>∃ v s',ch=[{ v,recovered:=false }]/\mH n s' a'/\K (.panic v) s' w'.heap/\Kin false w w'/\S a a'
 | _,_,_=>False
theorem xL {ops:Array Oper} {o:Oper} {s:St} {run skip:St->Prop} {a:Act} (h:grd ops.toList o s run skip) (hr:mH n s a) :
  ∃ s',mH n s' a/\((Region.wanted o (yielded ops a.tmps)=true/\run s')\/(Region.wanted o (yielded ops a.tmps)=false/\skip s')):=by
 unfold grd at h;split at h
 ·rename_i hg;exact ⟨s,hr,.inl ⟨by simp [Region.wanted,hg],h⟩⟩
 ·rename_i j want hg;split at h
  ·rename_i oj hj;split at h
   ·rename_i d hd;split at h
    ·rename_i b hl;have hj':ops[j]? = some oj:=by simpa using hj
     have hv:=hr.env d _ hl
     have hy:yielded ops a.tmps j=some b:=by
      unfold yielded;simp only [hj',Option.bind_some,hd];cases ht:a.tmps[d]? with
      | none=>simp [ht,undef] at hv
      | some v=>simp [ht] at hv;simp [hv]
     have hrs:∀ c,b=c->mH n { s with env:=(d,.bool c)::s.env } a:=by
      intro c hc;subst hc;refine ⟨hr.size,λt u h=>?_,hr.ds⟩;rw [aO] at h;split at h
      ·simp_all
      ·exact hr.env t u h
     cases want<;>rcases bsel_mp h with ⟨hb,h⟩ | ⟨hb,h⟩<;>refine ⟨_,hrs _ hb,?_⟩<;>subst hb
     ·exact .inr ⟨by simp [Region.wanted,hg,hy],h⟩
     ·exact .inl ⟨by simp [Region.wanted,hg,hy],h⟩
     ·exact .inl ⟨by simp [Region.wanted,hg,hy],h⟩
     ·exact .inr ⟨by simp [Region.wanted,hg,hy],h⟩
    ·rename_i vs hl;have hj':ops[j]? = some oj:=by simpa using hj
     have hv:=hr.env d _ hl;refine ⟨s,hr,.inr ⟨?_,h⟩⟩
     have hy:yielded ops a.tmps j=none:=by
      unfold yielded;simp only [hj',Option.bind_some,hd];cases ht:a.tmps[d]? with
      | none=>rfl
      | some v=>simp [ht] at hv;simp [hv]
     simp [Region.wanted,hg,hy]
    ·exact h.elim
   ·exact h.elim
  ·exact h.elim
theorem aH0 {ρ:Env} {o:Oper} {h:Hp} {K Kp:Value->HP} {Kd Kd':Deferred->HP} (c:isDf o.op=false):bT P C ρ o h K Kp Kd=bT P C ρ o h K Kp Kd':=by
 obtain ⟨d,e,ty,pos,a,guard⟩:=o;cases e<;>first | (cases c;done) | rfl | skip
 case makeMap t r=>cases r<;>rfl
 case next t b=>cases b<;>rfl
theorem aBf (y:eT P C) {o:Oper} {s:St} {K:St->HP} {Kp:Value->St->HP} {a:Act} {w:World} (k:mH n s a) (h:yL P C n o s K Kp w.heap) {next:Act->World->Prop} {Q:Exit->Act->World->Prop}
  (m:∀ s' a' w',mH n s' a'->K s' w'.heap->Kin false w w'->(∀ t,(∀ d,o.dst=some d->d≠t)->a'.tmps.getD t undef=a.tmps.getD t undef)->(isDf o.op=false->a'.defers=a.defers)->next a' w')
  (z:∀ v w',Kp v s w'.heap->Kin false w w'->Q (.panic [{ v,recovered:=false }]) a w'):o.wp P a w next Q:=by
 have h:bT P C s.env o w.heap (λv h'=>hZ n s o.dst v λs'=>K s' h') (λv h'=>Kp v s h')
   (λd h'=>isDf o.op=true/\hZ n { s with ds:=d::s.ds } o.dst undef λs'=>K s' h'):=by
  cases D:isDf o.op with
  | false=>rw [aH0 D];exact h
  | true=>simp only [true_and];exact h
 have j:=xP (dr:=false) (w:=w) (f:=a.eval) (λe=>by cases e) y.enters k.ev h;unfold Oper.wp;generalize A:(execOp a.eval o).run P w=r at j;unfold Oper.upon;cases r with
 | ok nx w'=>
  cases nx<;>simp only [oV] at j<;>try exact j.elim
  .obtain ⟨c,b⟩:=j;obtain ⟨s',c,g⟩:=eW c k;exact m s' _ w' g c b (λt l=>cW l) (λ_=>cB _ _ _)
  .obtain ⟨c,b⟩:=j;obtain ⟨s',c,g⟩:=eW c k;exact m s' _ w' g c b (λt l=>cW l) (λ_=>cB _ _ _)
  .rename_i f args;obtain ⟨c,b⟩:=j;have B:=y.calls f args.toList _ _ w' c.1 c.2;rw [Array.toArray_toList] at B;refine B.mono λe w'' p=>?_;cases e with
   | returned v=>
    obtain ⟨i,c⟩:=p;obtain ⟨s',c,g⟩:=eW c k;exact m s' _ w'' g c (b.trans i) (λt l=>cW l) (λ_=>cB _ _ _)
   | panicked ch=>
    obtain ⟨i,v,rfl,c⟩:=p;exact z v w'' c (b.trans i)
   | outgrown=>exact p.2.elim
  .rename_i d;obtain ⟨⟨q,c⟩,b⟩:=j;have u:mH n { s with ds:=d::s.ds } { a with defers:=d::a.defers }:=⟨k.size,k.env,by simp [k.ds]⟩;obtain ⟨s',c,g⟩:=eW c u;refine m s' _ w' g c b (λt l=>?_) (λe=>by rw [q] at e;cases e);exact cW (a:={ a with defers:=d::a.defers }) l
 | halt x w'=>
  cases x<;>simp only [oV] at j<;>try exact j.elim
  exact z _ w' j.1 j.2
theorem oA (hC:eT P C) {ops:Array Oper} {K:Ex->St->HP}:∀ (l:List Oper) (s:St) (a:Act) (w:World),mH n s a->
  mS P C n ops.toList l s (K .normal) (λv s h=>K (.panic v) s h) w.heap->∀ (S:Act->Act->Prop) (a0:Act) (w0:World),Kin false w0 w->(∀ a',kQ l a a'->S a0 a')->
  (∀ l1 l2 a',l=l1++l2->kQ l1 a a'->S a0 a')->wpList P ops (PostN n K S a0 w0) l a w
 | [],s,a,w,hr,h,S,a0,w0,hk,hS,_=>⟨s,hr,h,hk,hS a (kQ.refl a)⟩
 | o::r,s,a,w,hr,h,S,a0,w0,hk,hS,hS'=>by
  obtain ⟨s1,hr1,h1⟩:=xL h hr;unfold wpList;rcases h1 with ⟨hw,h1⟩ | ⟨hw,h1⟩
  ·rw [if_pos hw];refine .inl (aBf hC hr1 h1 (λs' a' w' hr' hk' hkin ht hd=>?_) (λv w' hv hkin=>?_))
   ·exact oA hC r s' a' w' hr' hk' S a0 w0 (hk.trans hkin) (λa2 h2=>hS a2 (h2.cons ht hd)) (λl1 l2 a2 e h2=>hS' (o::l1) l2 a2 (by rw [e];rfl) (h2.cons ht hd))
   ·exact ⟨v,s1,rfl,hr1,hv,hk.trans hkin,hS' [] (o::r) a rfl (kQ.refl a)⟩
  ·rw [if_neg (by simp [hw])];obtain ⟨s',hk',hr'⟩:=eW h1 hr1
   exact oA hC r s' _ w hr' hk' S a0 w0 hk (λa2 h2=>hS a2 (h2.cons (λt ht=>cW ht) (λ_=>cB _ _ _)))
    (λl1 l2 a2 e h2=>hS' (o::l1) l2 a2 (by rw [e];rfl) (h2.cons (λt ht=>cW ht) (λ_=>cB _ _ _)))
theorem aF3 {b:Builtin} {a:List TypeId} {vs:List Value} {h:Hp} {c:Value->Prop} {Kp:Value->HP} (d:aKv b=true) :
  biD P b a vs h (λv _=>c v) Kp=biD P b a vs h (λv h'=>h'=h/\c v) Kp:=by
 cases b<;>first | (cases d;done) | skip
 all_goals
  unfold biD;split<;>first | (simp only [true_and];done) | rfl | skip
 all_goals contradiction
theorem aAr {ρ:Env} {o:Oper} {h:Hp} {g:Value->Prop} {Kp:Value->HP} {Kd:Deferred->HP} (d:qF o.op=true) (a:bT P C ρ o h (λv _=>g v) Kp Kd) :
  bT P C ρ o h (λv h'=>h'=h/\g v) Kp Kd:=by
 obtain ⟨i,j,ty,pos,e,guard⟩:=o;unfold bT at a ⊢;cases j<;>first | (cases d;done) | (simpa only [true_and] using a) | skip
 case call c=>
  obtain ⟨callee,args,k⟩:=c;cases callee with
  | value f=>cases d
  | invoke r m=>cases d
  | builtin b=>
   dsimp only [aCz] at a ⊢
   simp only [aF3 (P:=P) (show aKv b=true from d)] at a;exact a
def aNd:CT:=λ_ _ _ _ _=>False
theorem aEX {g:CT} {ρ:Env} {o:Oper} {h:Hp} {K Kp:Value->HP} {Kd:Deferred->HP} (a:qF o.op=true) (d:bT P C ρ o h K Kp Kd):bT P g ρ o h K Kp Kd:=by
 obtain ⟨i,j,ty,pos,e,guard⟩:=o;unfold bT at d ⊢;cases j<;>first | (cases a;done) | exact d | skip
 case call c=>
  obtain ⟨callee,args,k⟩:=c;cases callee with
  | value f=>cases a
  | invoke r m=>cases a
  | builtin b=>exact d
theorem nA {ops:Array Oper} {w:World} {Q:Act->Prop}:∀ (l:List Oper) (s:St) (a:Act) (K:St->Prop),mH n s a->rU P C n ops.toList l s K w.heap->
  (∀ s' a',mH n s' a'->K s'->kQ l a a'->Q a')->wpStill P ops w Q l a
 | [],s,a,K,hr,h,hQ=>hQ s a hr h (kQ.refl a)
 | o::r,s,a,K,hr,h,hQ=>by
  unfold rU at h;split at h
  ·rename_i hq;obtain ⟨s1,hr1,h1⟩:=xL h hr;unfold wpStill;rcases h1 with ⟨hw,h1⟩ | ⟨hw,h1⟩
   ·rw [if_pos hw];have h2:=xP (dr:=true) (w:=w) (f:=a.eval) (C:=aNd) (λ_=>hq) (λ_ _ _ _ _ h=>h.elim) hr1.ev (aEX hq (aAr hq h1));unfold Oper.still;have hdf:isDf o.op=false:=by cases ho:o.op<;>simp_all [isDf,qF]
    generalize (execOp a.eval o).run P w=res at h2;cases res with
    | ok nx w'=>
     cases nx<;>simp only [oV] at h2<;>try exact h2.elim
     ·obtain ⟨⟨hh,hk⟩,hkin⟩:=h2;have hw':=hkin.same hh;subst hw';obtain ⟨s',hk,hr'⟩:=eW hk hr1;exact ⟨rfl,nA r s' _ K hr' hk λs2 a2 h2 hk2 hs=>hQ s2 a2 h2 hk2 (hs.cons (λt ht=>cW ht) (λ_=>cB _ _ _))⟩
     ·obtain ⟨⟨hh,hk⟩,hkin⟩:=h2;have hw':=hkin.same hh;subst hw';obtain ⟨s',hk,hr'⟩:=eW hk hr1;exact ⟨rfl,nA r s' _ K hr' hk λs2 a2 h2 hk2 hs=>hQ s2 a2 h2 hk2 (hs.cons (λt ht=>cW ht) (λ_=>cB _ _ _))⟩
     ·exact h2.1.1.elim
     ·simp_all
    | halt x w'=>
     cases x<;>simp only [oV] at h2<;>try exact h2.elim
     exact h2.1.elim
   ·rw [if_neg (by simp [hw])];obtain ⟨s',hk',hr'⟩:=eW h1 hr1;exact nA r s' _ K hr' hk' λs2 a2 h2 hk2 hs=>hQ s2 a2 h2 hk2 (hs.cons (λt ht=>cW ht) (λ_=>cB _ _ _))
  ·exact h.elim
def fQ (ops:Array Oper) (T:Array Bool->World->Prop) (j:Nat) (L:Array Bool) (w w':World):Prop:=
 match ops[j]? with
 | some o=>if qF o.op=true then w'=w else T L w'
 | none=>w'=w
def jA (P:Program) (ops:Array Oper) (Q:Exit->Act->World->Prop) (T:Array Bool->World->Prop):Nat->Array Bool->Act->World->Prop
 | 0,listed,a,w=>Region.ready .any ops listed=[]/\Q .normal a w
 | f+1,listed,a,w=>(Region.ready .any ops listed=[]->Q .normal a w)/\
  ∀ i ∈ Region.ready .any ops listed,wpOp P ops Q i (λa' w'=>fQ ops T i (listed.setIfInBounds i true) w w'/\jA P ops Q T f (listed.setIfInBounds i true) a' w') a w
theorem xI {ops:Array Oper} {Q:Exit->Act->World->Prop} {T:Array Bool->World->Prop}:∀ (f:Nat) (b:Array Bool) (a:Act) (w:World),jA P ops Q T f b a w->wpAny P .any ops Q f b a w
 | 0,_,_,_,h=>h
 | f+1,_,_,_,h=>⟨h.1,λi hi=>wpOp_mono (λa' w' h'=>xI f _ a' w' h'.2) (h.2 i hi)⟩
theorem fQ.mono {ops:Array Oper} {T T':Array Bool->World->Prop} {j:Nat} {L a:Array Bool} {w w':World} (b:T' a w'->T L w') (h:fQ ops T' j a w w'):fQ ops T j L w w':=by
 unfold fQ at *;split
 .grind
 .simp_all
theorem nE {ops:Array Oper} {Q:Exit->Act->World->Prop} {T T':Array Bool->World->Prop} (c:∀ L w,T' L w->T L w):∀ (f:Nat) (b:Array Bool) (a:Act) (w:World),jA P ops Q T' f b a w->jA P ops Q T f b a w
 | 0,_,_,_,h=>h
 | f+1,_,_,_,h=>⟨h.1,λi hi=>wpOp_mono (λa' w' h'=>⟨h'.1.mono (c _ _),nE c f _ a' w' h'.2⟩) (h.2 i hi)⟩
theorem fQ.refl {ops:Array Oper} {T:Array Bool->World->Prop} {i:Nat} {L:Array Bool} {o:Oper} (hi:ops[i]? = some o) (a:qF o.op=true) (w:World):fQ ops T i L w w:=by
 unfold fQ;rw [hi];simp [a]
theorem aAO {x:Nat}:∀ {l:List Nat},memN x l=true->x ∈ l
 | [],h=>by cases h
 | y::l,h=>by
  unfold memN at h;split at h
  .simp_all
  .exact List.mem_cons_of_mem _ (aAO h)
theorem uB:∀ (l:List Oper) (k:Nat) (D:List Nat) {j:Nat},j ∈ D->j ∈ descG l k D
 | [],_,_,_,h=>h
 | o::r,k,D,j,h=>by
  unfold descG;split
  .exact uB r _ _ (List.mem_cons_of_mem _ h)
  .exact uB r _ _ h
theorem qZ {ops:Array Oper} {Q:Exit->Act->World->Prop} {T T':Array Bool->World->Prop} {Ti:World->Prop} {i:Nat} {oi:Oper} {v:Value} (hi:ops[i]? = some oi) (hqi:qF oi.op=true)
  (hsel:∀ (j:Nat) (o:Oper) cs b,ops[j]? = some o->o.op≠.select cs b) (hQ:∀ c a w,Q (.panic c) (a.put oi.dst v) w->Q (.panic c) a w)
  {D:List Nat} (hD:∀ j oj,j ∈ D->j≠i->ops[j]? = some oj->∃ e ∈ oj.after,Region.binds .any e=true/\e.on ∈ D)
  (t1:∀ L w,T' L w->T L w) (t2:∀ L w,T' (L.setIfInBounds i true) w->T L w) (t3:∀ L w,T' L w->(∀ k ∈ D,k≠i->L.getD k false=false)->Ti w) :
  ∀ (fuel:Nat) (listed:Array Bool) (a:Act) (w:World),
   (∀ j oj,ops[j]? = some oj->j≠i->listed.getD j true=false->j ∉ D->oi.apart ops oj=true)->(∀ k ∈ D,listed.getD k false=false)->
   i ∈ Region.ready .any ops listed->YieldsIf P ops Ti oi v a->Ti w->
   jA P ops Q T' fuel (listed.setIfInBounds i true) (a.put oi.dst v) w->jA P ops Q T (fuel+1) listed a w:=by
 intro fuel
 induction fuel with
 | zero=>
  intro listed a w _ _ hr hy hS H;refine ⟨λh=>(by simp_all),λj hj=>?_⟩;by_cases hji:j=i
  ·subst hji;exact hy.wpOp hi hS ⟨fQ.refl hi hqi w,nE t1 _ _ _ _ H⟩
  ·have:=ready_mono hj hji;rw [H.1] at this;cases this
 | succ fuel ih=>
  intro listed a w hfree hun0 hr hy hS H;refine ⟨λh=>(by simp_all),λj hj=>?_⟩;by_cases hji:j=i
  ·subst hji;exact hy.wpOp hi hS ⟨fQ.refl hi hqi w,nE t1 _ _ _ _ H⟩
  ·have h1:=H.2 j (ready_mono hj hji);obtain ⟨hjun,oj,hoj,hall⟩:=mem_ready.1 hj;have hnot:j ∉ D:=λhjD=>by grind
   have hfj:=hfree j oj hoj hji hjun hnot;have h2:=wpOp_putIf hoj hfj (λcs b=>hsel i oi cs b hi) (λcs b=>hsel j oj cs b hoj) hQ hy h1
   have hfree':∀ k ok,ops[k]? = some ok->k≠i->(listed.setIfInBounds j true).getD k true=false->
     k ∉ D->oi.apart ops ok=true:=λk ok hk hki hun hno=>by
    refine hfree k ok hk hki ?_ hno;by_cases hjk:j=k
    ·simp_all
    ·simp_all
   have hTi:∀ w',fQ ops T' j ((listed.setIfInBounds i true).setIfInBounds j true) w w'->Ti w':=λw' hA=>by
    unfold fQ at hA;rw [hoj] at hA
    dsimp only at hA
    split at hA
    ·simp_all
    ·refine t3 _ _ hA λk hk hki=>?_;rw [getD_set_ne false (λg:j=k=>hnot (g ▸ hk)),getD_set_ne false (λg:i=k=>hki g.symm)];exact hun0 k hk
   refine wpOp_mono (λa' w' h3=>⟨h3.2.1.mono λhT=>t2 _ _ (by rw [Array.setIfInBounds_comm _ _ hji];exact hT),ih (listed.setIfInBounds j true) a' w' hfree' (λk hk=>?_) (ready_mono hr (Ne.symm hji)) h3.1 (hTi w' h3.2.1) ?_⟩) h2
   ·rw [getD_set_ne false (λg:j=k=>hnot (g ▸ hk))];exact hun0 k hk
   rw [Array.setIfInBounds_comm _ _ hji];exact h3.2.2
theorem descG_mp:∀ (l:List Oper) (k:Nat) (D:List Nat) (j:Nat),j ∈ descG l k D->j ∈ D\/(k<=j/\∃ o,l[j-k]? = some o/\∃ e ∈ o.after,Region.binds .any e=true/\e.on ∈ descG l k D)
 | [],_,_,_,h=>.inl h
 | o::r,k,D,j,h=>by
  unfold descG at h ⊢
  have step:∀ D',j ∈ descG r (k+1) D'->(j ∈ D'->j ∈ D\/(k<=j/\∃ o',(o::r)[j-k]? = some o'/\∃ e ∈ o'.after,Region.binds .any e=true/\e.on ∈ descG r (k+1) D'))->
    j ∈ D\/(k<=j/\∃ o',(o::r)[j-k]? = some o'/\∃ e ∈ o'.after,Region.binds .any e=true/\e.on ∈ descG r (k+1) D'):=λD' h1 h2=>by
   rcases descG_mp r (k+1) D' j h1 with h3 | ⟨h3,o',h4,h5⟩
   ·exact h2 h3
   ·grind
  split at h
  ·rename_i hb;refine step (k::D) h λh1=>?_;rcases List.mem_cons.1 h1 with rfl | h1
   ·refine .inr ⟨Nat.le_refl _,o,by simp,?_⟩;obtain ⟨e,he,hb⟩:=List.any_eq_true.1 hb;rw [Bool.and_eq_true] at hb;exact ⟨e,by simpa using he,hb.1,uB r _ _ (List.mem_cons_of_mem _ (aAO hb.2))⟩
   ·exact .inl h1
  ·simp_all
theorem xF {ops:Array Oper} {i:Nat}:∀ j oj,j ∈ descG ops.toList 0 [i]->j≠i->ops[j]? = some oj->∃ e ∈ oj.after,Region.binds .any e=true/\e.on ∈ descG ops.toList 0 [i]:=by
 intro j oj hj hne ho;rcases descG_mp _ _ _ _ hj with h | ⟨_,o,h1,h2⟩
 ·simp_all
 ·simp_all
theorem aCK {ops:Array Oper} {a:Array Bool} {i:Nat} {b:Oper} (h:q9 ops.toList a i b=true):∀ k ∈ descG ops.toList 0 [i],a.getD k false=false:=by
 unfold q9 at h;rw [Bool.and_eq_true] at h;intro k c;have:=List.all_eq_true.1 h.1 k c;simpa using this
theorem aIr {ops:Array Oper} {a:Array Bool} {i:Nat} {g:Oper} (h:q9 ops.toList a i g=true) :
  ∀ j c,ops[j]? = some c->j≠i->a.getD j true=false->j ∉ descG ops.toList 0 [i]->g.apart ops c=true:=by
 intro j c k d e hno;unfold q9 at h;rw [Bool.and_eq_true] at h;have f:j<ops.toList.length:=by simpa using (Array.getElem?_eq_some_iff.1 k).1
 have b:=List.all_eq_true.1 h.2 j (List.mem_range.2 f);have e1:ops.toList[j]? = some c:=by simpa using k
 rw [e1,e] at b
 have l:Nat.beq j i=false:=by
  cases m:Nat.beq j i with
  | false=>rfl
  | true=>exact absurd (Nat.eq_of_beq_eq_true m) d
 rw [l] at b;simp only [Bool.false_or,Array.toArray_toList,Bool.or_eq_true] at b;rcases b with b | b
 .exact absurd (aAO b) hno
 .exact b
theorem aEm {ops:List Oper} {i j:Nat} {o:Oper} {L:Array Bool} (b:ops[j]? = some o) (c:qF o.op=true) (h:aliveD ops i L=true):aliveD ops i (L.setIfInBounds j true)=true:=by
 unfold aliveD at *;rw [List.all_eq_true] at *;intro k a;have:=h k a;by_cases e:j=k
 .simp_all
 .simp_all
theorem aFG {ops:List Oper} {i:Nat} {o:Oper} {L:Array Bool} (a:ops[i]? = some o) (b:qF o.op=true) (h:∀ k ∈ descG ops 0 [i],k≠i->L.getD k false=false):aliveD ops i L=true:=by
 unfold aliveD;rw [List.all_eq_true];intro k c;by_cases e:k=i
 .simp_all
 .simp_all
def uP (n:Nat) (ops:Array Oper) (K:St->HP) (Kp:Value->HP) (a0:Act) (w0:World):Exit->Act->World->Prop
 | .normal,a',w'=>∃ s',mH n s' a'/\K s' w'.heap/\Kin false w0 w'/\kQ ops.toList a0 a'
 | .panic ch,a',w'=>∃ v,ch=[{ v,recovered:=false }]/\a'.tmps.size=n/\(∀ t,memN t (ops.toList.flatMap opDst)=false->a'.tmps.getD t undef=a0.tmps.getD t undef)/\a'.defers=a0.defers/\Kp v w'.heap/\Kin false w0 w'
 | _,_,_=>False
structure aJX (ops:Array Oper) (a a':Act):Prop where
 tmp:∀ t,memN t (ops.toList.flatMap opDst)=false->a'.tmps.getD t undef=a.tmps.getD t undef
 df:a'.defers=a.defers
theorem aAI {ops:List Oper} {o:Oper} {t:Nat} (b:o ∈ ops) (a:memN t (ops.flatMap opDst)=false):∀ d,o.dst=some d->d≠t:=by
 induction ops with
 | nil=>cases b
 | cons x r ih=>
  rw [List.flatMap_cons,bI,Bool.or_eq_false_iff] at a;cases b with
  | head=>exact aCU a.1
  | tail _ h=>exact ih h a.2
theorem aJX.step {ops:Array Oper} {a0 a a':Act} {o:Oper} {i:Nat} (h:aJX ops a0 a) (hi:ops[i]? = some o) (e:∀ t,(∀ d,o.dst=some d->d≠t)->a'.tmps.getD t undef=a.tmps.getD t undef) (f:a'.defers=a.defers):aJX ops a0 a':=
 ⟨λt c=>by
  have b:o ∈ ops.toList:=by grind
  rw [e t (aAI b c)];exact h.tmp t c,f.trans h.df⟩
theorem aKO {s:Sem Value} {w w':World} {nx:Next} (h:((do pure (.value (<- s))):Sem Next).run P w = .ok nx w'):∃ v,nx = .value v:=by
 rw [Sem.run_bind] at h;cases hs:s.run P w with
 | ok v w1=>rw [hs] at h;simp only [Result.andThen_ok,Sem.run_pure,Result.ok.injEq] at h;exact ⟨v,h.1.symm⟩
 | halt x w1=>rw [hs] at h;cases h
theorem aJY {f:Operand->Value} {o:Oper} (d:qF o.op=true) (i:∀ x,o.op≠.nilCheck x) {w w':World} {nx:Next} (h:(execOp f o).run P w = .ok nx w'):∃ v,nx = .value v:=by
 obtain ⟨j,k,ty,pos,e,guard⟩:=o;unfold execOp at h;cases k<;>first | (cases d;done) | (dsimp only at h;exact aKO h) | skip
 case move x=>simp only [Sem.run_pure,Result.ok.injEq] at h;exact ⟨_,h.1.symm⟩
 case assign x=>simp only [Sem.run_pure,Result.ok.injEq] at h;exact ⟨_,h.1.symm⟩
 case nilCheck x=>exact absurd rfl (i x)
 case pick c a b=>
  dsimp only at h
  rw [Sem.run_bind] at h;cases hs:(asBool (f c)).run P w with
  | ok v w1=>rw [hs] at h;simp only [Result.andThen_ok,Sem.run_pure,Result.ok.injEq] at h;exact ⟨_,h.1.symm⟩
  | halt x w1=>rw [hs] at h;cases h
 case call c=>
  obtain ⟨callee,args,l⟩:=c;cases callee with
  | value g=>cases d
  | invoke r m=>cases d
  | builtin b=>
   simp only [resolve,Sem.run_bind,Sem.run_pure,Result.andThen_ok,invoke] at h;cases b<;>first | (cases d;done) | exact aKO h
theorem tL {o:Oper} {s:St} {a:Act} {Kq:Value->Prop} {Kp:Value->HP} {Kd:Deferred->HP} {w:World} (hq:qF o.op=true) (hr:mH n s a) (h:bT P C s.env o w.heap (λv _=>Kq v) Kp Kd) (hkp:∀ v h,¬ Kp v h) :
  ∃ v,((execOp a.eval o).run P w = .ok (.value v) w)/\Kq v:=by
 by_cases hn:∃ x,o.op = .nilCheck x
 ·obtain ⟨x,hx⟩:=hn;unfold bT at h;unfold execOp;rw [hx] at h ⊢;have h1:=wV_mp hr.ev h;unfold zC at h1
  dsimp only
  split at h1
  ·rename_i p hp;obtain ⟨ad,rfl,hk⟩:=oB h1;rw [hp];exact ⟨_,rfl,hk⟩
  ·simp_all
  ·exact h1.elim
 ·have hn:∀ x,o.op≠.nilCheck x:=λx e=>hn ⟨x,e⟩;have h2:=xP (dr:=true) (w:=w) (f:=a.eval) (C:=aNd) (λ_=>hq) (λ_ _ _ _ _ h=>h.elim) hr.ev (aEX hq (aAr hq h));have hv:=λnx w'=>aJY (P:=P) (f:=a.eval) (nx:=nx) (w:=w) (w':=w') hq hn;generalize (execOp a.eval o).run P w=res at h2 hv;cases res with
  | ok nx w'=>
   obtain ⟨v,rfl⟩:=hv nx w' rfl;obtain ⟨⟨hh,hk⟩,hkin⟩:=h2;have hw':=hkin.same hh;subst hw';exact ⟨_,rfl,hk⟩
  | halt x w'=>
   cases x<;>simp only [oV] at h2<;>try exact h2.elim
   exact absurd h2.1 (hkp _ _)
theorem aDr {ρ:Env} {o:Oper} {h h':Hp} {b:Value->Prop} {Kp:Value->HP} {Kd:Deferred->HP} (d:qF o.op=true) (e:isL o.op=false) (c:bT P C ρ o h (λv _=>b v) Kp Kd) :
  bT P C ρ o h' (λv _=>b v) Kp Kd:=by
 obtain ⟨f,g,ty,pos,a,guard⟩:=o;unfold bT at c ⊢;cases g<;>first | (cases d;done) | (cases e;done) | exact c
def Fun1 (G:(Value->Prop)->Prop):Prop:=∀ K,G K->∃ v,K v/\G (λu=>u=v)
theorem Fun1.val (v:Value):Fun1 (λK=>K v):=λ_ h=>⟨v,h,rfl⟩
theorem Fun1.no:Fun1 (λ_=>False):=λ_ h=>h.elim
theorem Fun1.sel {b:Bool} {G H:(Value->Prop)->Prop} (a:Fun1 G) (c:Fun1 H):Fun1 (λK=>bsel b (G K) (H K)):=by
 intro K h;cases b
 .exact c K h
 .exact a K h
theorem Fun1.os {p:Option Addr} {G:Addr->(Value->Prop)->Prop} (b:∀ a,Fun1 (G a)):Fun1 (λK=>aF p λa=>G a K):=by
 intro K h;cases p
 .exact h.elim
 .exact b _ K h
theorem Fun1.ad {v:Value} {G:Addr->(Value->Prop)->Prop} (b:∀ a,Fun1 (G a)):Fun1 (λK=>kV v λa=>G a K):=by
 unfold kV;cases v<;>first | exact Fun1.os b | exact Fun1.no
theorem Fun1.ib {i:Int} {m:Nat} {G:(Value->Prop)->Prop} (a:Fun1 G):Fun1 (λK=>bB i m (G K)):=Fun1.sel a Fun1.no
theorem Fun1.wv {ρ:Env} {x:Operand} {G:Value->(Value->Prop)->Prop} (a:∀ v,Fun1 (G v)):Fun1 (λK=>wV ρ x λv=>G v K):=by
 unfold wV;cases evO ρ x
 .exact Fun1.no
 .exact a _
theorem Fun1.wo {ρ:Env} {x:Option Operand} {G:Option Value->(Value->Prop)->Prop} (a:∀ v,Fun1 (G v)):Fun1 (λK=>wO ρ x λv=>G v K):=by
 cases x
 .exact a none
 .exact Fun1.wv (λv=>a (some v))
theorem Fun1.wl {ρ:Env}:∀ {l:List Operand} {G:List Value->(Value->Prop)->Prop} (_:∀ v,Fun1 (G v)),Fun1 (λK=>wL ρ l λv=>G v K)
 | [],_,hg=>hg []
 | _::_,_,hg=>Fun1.wv λv=>Fun1.wl λvs=>hg (v::vs)
theorem Fun1.wp {ρ:Env}:∀ {l:List (Nat × Operand)} {G:List (Nat × Value)->(Value->Prop)->Prop} (_:∀ v,Fun1 (G v)),Fun1 (λK=>wP ρ l λv=>G v K)
 | [],_,hg=>hg []
 | (i,_)::_,_,hg=>Fun1.wv λv=>Fun1.wp λvs=>hg ((i,v)::vs)
theorem Fun1.ze {t:TypeId} {G:Value->(Value->Prop)->Prop} (a:∀ v,Fun1 (G v)):Fun1 (λK=>eH P t λv=>G v K):=by
 unfold eH;cases P.info? t with
 | none=>exact Fun1.no
 | some i=>cases h:i.zero with
  | none=>simp only [h];exact Fun1.no
  | some z=>simp only [h];exact a z
theorem Fun1.eqd {a:BinOp} {b:Bool}:Fun1 (eqD a b):=by unfold eqD;cases a<;>first | exact Fun1.no | exact Fun1.val _
theorem Fun1.bin {c:BinOp} {t:TypeId} {x y:Value}:Fun1 (aAY P c t x y):=by
 have d:∀ k a b,Fun1 (arD c k a b):=λk a b=>by
  unfold arD;cases c<;>first | exact Fun1.no | exact Fun1.val _ | exact Fun1.sel Fun1.no (Fun1.val _)
 have e:∀ k a b,Fun1 (shD c k a b):=λk a b=>by
  unfold shD;cases c<;>first | exact Fun1.no | exact Fun1.sel Fun1.no (Fun1.val _)
 unfold aAY;split
 .split
  .simp_all
  .exact Fun1.sel (d _ _ _) Fun1.no
 all_goals first | exact Fun1.no | (split<;>first | exact Fun1.eqd | exact Fun1.no) | skip
 split
 .split<;>first | exact Fun1.eqd | exact Fun1.no
 .split
  .intro K h;obtain ⟨as,f,g,i,j,l,h⟩:=h;obtain ⟨v,m,o⟩:=Fun1.eqd K h;exact ⟨v,m,as,f,g,i,j,l,o⟩
  .split<;>first | exact Fun1.eqd | exact Fun1.no
  .exact Fun1.no
 .exact Fun1.no
theorem Fun1.bd {x:Option Value} {y d:Nat} {G:Nat->(Value->Prop)->Prop} (a:∀ v,Fun1 (G v)):Fun1 (λK=>bdD x y d λm=>G m K):=by
 unfold bdD;split
 .exact Fun1.ib (a _)
 .exact Fun1.no
 .exact a _
theorem Fun1.ge {c:CK} {cs:List Value} {i:Nat}:Fun1 (geC c cs i):=by
 intro K h;cases c<;>simp only [geC] at h ⊢<;>first | exact h.elim | (obtain ⟨x,a,b⟩:=h;exact ⟨_,b,x,a,rfl⟩)
theorem aEO:∀ {l:List CK} {cs:List Value} {o k:Nat} {K:List Value->Prop},geL l cs o k K->∃ vs,K vs/\geL l cs o k (λu=>u=vs)
 | [],_,_,_,_,h=>⟨[],h,rfl⟩
 | c::r,cs,o,k,K,h=>by
  obtain ⟨v,a,b⟩:=Fun1.ge _ h;obtain ⟨vs,d,f⟩:=aEO a;exact ⟨v::vs,d,aCd (λu e=>by subst e;exact rI (λg e=>by rw [e]) f) b⟩
theorem Fun1.geL {l:List CK} {cs:List Value} {o k:Nat}:Fun1 (λK=>geL l cs o k λvs=>K (.agg vs.toArray)):=λK h=>by
 obtain ⟨vs,a,b⟩:=aEO h;exact ⟨_,a,rI (λu e=>by rw [e]) b⟩
theorem aF5 {ρ:Env} {o:Oper} {h:Hp} {Kp:Value->HP} {Kd:Deferred->HP} (k:qF o.op=true) (p:isL o.op=false):Fun1 λq=>bT P C ρ o h (λv _=>q v) Kp Kd:=by
 obtain ⟨r,f,ty,pos,j,guard⟩:=o;unfold bT;cases f<;>first | (cases k;done) | (cases p;done) | skip
 case move x=>exact Fun1.wv λv=>Fun1.val v
 case assign x=>exact Fun1.wv λv=>Fun1.val v
 case pick c a b=>
  refine Fun1.wv (G:=λw K=>match w with | .bool t=>bsel t (wV ρ a λv=>K v) (wV ρ b λv=>K v) | _=>False) λv=>?_
  cases v<;>first | exact Fun1.no | exact Fun1.sel (Fun1.wv λv=>Fun1.val v) (Fun1.wv λv=>Fun1.val v)
 case build t ps=>
  refine Fun1.wp (G:=λvs K=>match P.built t vs with | some cells=>K (.agg cells) | none=>False) λvs=>?_
  cases P.built t vs<;>first | exact Fun1.no | exact Fun1.val _
 case nilCheck x=>
  refine Fun1.wv (G:=λv K=>zC v λu=>K u) λv=>?_;unfold zC;split
  .exact Fun1.os λa=>Fun1.val _
  .exact Fun1.val _
  .exact Fun1.no
 case binOp f t x y _=>exact Fun1.wv λB=>Fun1.wv λD=>Fun1.bin
 case unOp f _ x=>
  refine Fun1.wv (G:=λv K=>unD f v λu=>K u) λv=>?_;unfold unD;split<;>first | exact Fun1.no | exact Fun1.val _
 case convert s d x=>
  refine Fun1.wv (G:=λv K=>cvD P s d v λu=>K u) λv=>?_;unfold cvD;split<;>first | exact Fun1.no | exact Fun1.val _
 case makeInterface t x=>
  dsimp only [yD]
  split
  .exact Fun1.wv λv=>Fun1.val _
  .exact Fun1.no
 case makeFunc fn a b=>exact Fun1.wl λa=>Fun1.wl λb=>Fun1.val _
 case slice t x lo hi mx=>
  refine Fun1.wv λv=>Fun1.wo λl=>Fun1.wo λi=>Fun1.wo (G:=λm K=>aBq P t v l i m λu=>K u) λm=>?_;unfold aBq;split
  .split
   .exact Fun1.bd λm=>Fun1.bd λA=>Fun1.bd λl=>Fun1.val _
   .exact Fun1.no
  .split
   .exact Fun1.ad λa=>Fun1.bd λm=>Fun1.bd λA=>Fun1.bd λl=>Fun1.val _
   .exact Fun1.no
  .exact Fun1.no
 case fieldAddr s x g=>
  refine Fun1.wv (G:=λv K=>wW P s v g λu=>K u) λv=>?_;unfold wW;split
  .split
   .split
    .split
     .exact Fun1.ad λa=>Fun1.val _
     .exact Fun1.no
    .exact Fun1.no
   .exact Fun1.no
  .exact Fun1.no
 case field t x g=>
  refine Fun1.wv (G:=λv K=>fvD P t v g λu=>K u) λv=>?_;unfold fvD;split
  .split
   .split
    .split
     .exact Fun1.val _
     .split
      .exact Fun1.val _
      .exact Fun1.no
    .exact Fun1.no
   .exact Fun1.no
  .exact Fun1.no
 case indexAddr t x i=>
  refine Fun1.wv λv=>Fun1.wv (G:=λe K=>xY P t v e λu=>K u) λe=>?_;unfold xY;split
  .split
   .exact Fun1.ad λa=>Fun1.ib (Fun1.val _)
   .exact Fun1.no
  .split
   .exact Fun1.os λa=>Fun1.ib (Fun1.val _)
   .exact Fun1.no
  .exact Fun1.no
 case index t x i=>
  refine Fun1.wv λv=>Fun1.wv (G:=λe K=>aAL P t v e λu=>K u) λe=>?_;unfold aAL;split
  .split
   .split
    .split
     .exact Fun1.ib Fun1.ge
     .exact Fun1.no
    .split
     .split
      .exact Fun1.ib Fun1.geL
      .exact Fun1.no
     .exact Fun1.ib (Fun1.val _)
    .exact Fun1.no
   .exact Fun1.no
  .exact Fun1.no
 case typeAssert x _ t ok=>
  refine Fun1.wv (G:=λv K=>taD P v t ok λu=>K u) λv=>?_;unfold taD;split
  .exact Fun1.ze λz=>Fun1.val _
  .split
   .exact Fun1.val _
   .exact Fun1.ze λz=>Fun1.val _
  .exact Fun1.no
 case extract t i=>
  refine Fun1.wv (G:=λv K=>aCW v i λu=>K u) λv=>?_;unfold aCW;split
  .split
   .exact Fun1.val _
   .exact Fun1.no
  .exact Fun1.no
theorem yO {ops:Array Oper} {o:Oper} {a:Act} {i:Nat} {Q:Exit->Act->World->Prop} {K:Act->World->Prop} {w:World} (hi:ops[i]? = some o) (b:Region.wanted o (yielded ops a.tmps)=false) (h:K (a.put o.dst undef) w):wpOp P ops Q i K a w:=by
 unfold wpOp;rw [hi];simp only [b];exact h
theorem pH {ops:Array Oper} {o:Oper} {a:Act} {i:Nat} {Q:Exit->Act->World->Prop} {K:Act->World->Prop} {w:World} (hi:ops[i]? = some o) (b:Region.wanted o (yielded ops a.tmps)=true) (h:o.wp P a w K Q):wpOp P ops Q i K a w:=by
 unfold wpOp;rw [hi];simp only [b,if_true];exact .inl h
theorem uP.hQ {ops:Array Oper} {K:St->HP} {Kp:Value->HP} {a0:Act} {w0:World} {i:Nat} {d:Oper} (hi:ops[i]? = some d) (v:Value) :
  ∀ c a w,uP n ops K Kp a0 w0 (.panic c) (a.put d.dst v) w->uP n ops K Kp a0 w0 (.panic c) a w:=by
 rintro c a w ⟨u,rfl,hs,f,g,h,j⟩;have b:d ∈ ops.toList:=by grind
 refine ⟨u,rfl,?_,λt e=>?_,by rw [<-g,cB],h,j⟩
 .rw [<-hs];cases d.dst<;>simp [Act.put]
 .rw [<-f t e,cW (aAI b e)]
theorem aJp {l:List Nat} {i:Nat} (h:aKU l i=true):l=[i]:=by
 unfold aKU at h;split at h
 .simp_all
 .cases h
theorem aD4 {ops:Array Oper} {Q:Exit->Act->World->Prop} {T:Array Bool->World->Prop} {f:Nat} {listed:Array Bool} {a:Act} {w:World} (hr:Region.ready .any ops listed≠[])
  (h:∀ i ∈ Region.ready .any ops listed,wpOp P ops Q i (λa' w'=>fQ ops T i (listed.setIfInBounds i true) w w'/\jA P ops Q T f (listed.setIfInBounds i true) a' w') a w):jA P ops Q T (f+1) listed a w:=
 ⟨λh0=>absurd h0 hr,h⟩
theorem jC (hC:eT P C) {ops:Array Oper} {K:St->HP} {Kp:Value->HP} {a0:Act} {w0:World} (hsel:Region.noSelect ops=true):∀ (f:Nat) (T:Array Bool->HP) (l:List Nat) (listed:Array Bool) (s:St) (a:Act) (w:World),mH n s a->
  (∀ i o L h,ops[i]? = some o->qF o.op=true->T (L.setIfInBounds i true) h->T L h)->
  dE P C n ops.toList f T l listed s K Kp w.heap->Kin false w0 w->aJX ops a0 a->jA P ops (uP n ops K Kp a0 w0) (λL w=>T L w.heap) f listed a w
 | 0,T,l,listed,s,a,w,hr,ht,h,hk,hs=>by
  unfold dE at h;simp only [Array.toArray_toList] at h;exact ⟨h.1,s,hr,h.2,hk,⟨hs.tmp,λ_=>hs.df⟩⟩
 | f+1,T,[],listed,s,a,w,hr,ht,h,hk,hs=>by
  unfold dE at h;exact h.elim
 | f+1,T,i::r,listed,s,a,w,hr,ht,h,hk,hs=>by
  unfold dE at h;simp only [Array.toArray_toList] at h;obtain ⟨o,ho,h⟩:=h;have hi:ops[i]? = some o:=by simpa using ho
  have hskip:∀ {s1:St} {L:Array Bool},mH n s1 a->hZ n s1 o.dst undef (λs'=>dE P C n ops.toList f T r L s' K Kp w.heap)->jA P ops (uP n ops K Kp a0 w0) (λL w=>T L w.heap) f L (a.put o.dst undef) w:=by
   intro s1 L hr1 h1;obtain ⟨s',hk',hr'⟩:=eW h1 hr1;exact jC hC hsel f T r L s' _ w hr' ht hk' hk (hs.step hi (λt ht=>cW ht) (cB _ _ _))
  rcases h with ⟨hq,hready,hb,h⟩ | ⟨hne,hall⟩
  ·have hfree:=aIr hb;obtain ⟨s1,hr1,h1⟩:=xL h hr;rcases h1 with ⟨hw,h1⟩ | ⟨hw,h1⟩
   ·have pin:∀ v,(∀ w',(bT P C s1.env o w'.heap (λv' _=>v'=v) (λ_ _=>False) (λ_ _=>False))->(execOp a.eval o).run P w' = .ok (.value v) w')->(isL o.op=false->∀ w',(execOp a.eval o).run P w' = .ok (.value v) w')->(execOp a.eval o).run P w = .ok (.value v) w->
      hZ n s1 o.dst v (λs'=>dE P C n ops.toList f (aHK P C T ops.toList i o s1 v) r (listed.setIfInBounds i true) s' K Kp w.heap)->
      jA P ops (uP n ops K Kp a0 w0) (λL w=>T L w.heap) (f+1) listed a w:=by
     intro v hv1 hv2 hrun hv;obtain ⟨s',hk',hr'⟩:=eW hv hr1
     have ht':∀ i' o' L h,ops[i']? = some o'->qF o'.op=true->aHK P C T ops.toList i o s1 v (L.setIfInBounds i' true) h->aHK P C T ops.toList i o s1 v L h:=by
      intro i' o' L h ho' hq' ⟨g1,g2⟩;exact ⟨ht i' o' L h ho' hq' g1,λe1 e2=>g2 e1 (aEm (by simp_all) hq' e2)⟩
     refine qZ (T':=λL w=>aHK P C T ops.toList i o s1 v L w.heap) (Ti:=λw=>isL o.op=true->(execOp a.eval o).run P w = .ok (.value v) w) (v:=v) hi hq (Region.noSelect_spec hsel) (uP.hQ hi v) xF
      (λL w g=>g.1) (λL w g=>ht i o L w.heap hi hq g.1) (λL w g hun hl=>hv1 w (g.2 hl (aFG ho hq hun))) f listed a w hfree (aCK hb) hready (.inl ⟨hw,λw' hT=>?_⟩) (λ_=>hrun) ?_
     ·grind
     ·exact jC hC hsel f _ r _ s' _ w hr' ht' hk' hk (hs.step hi (λt ht=>cW ht) (cB _ _ _))
    have hv1:∀ v w',(bT P C s1.env o w'.heap (λv' _=>v'=v) (λ_ _=>False) (λ_ _=>False))->(execOp a.eval o).run P w' = .ok (.value v) w':=λv w' hd=>by
     obtain ⟨v',hrun',rfl⟩:=tL hq hr1 hd (λ_ _ h=>h);exact hrun'
    cases hl:isL o.op with
    | true=>
     obtain ⟨v,hrun,hv⟩:=tL hq hr1 h1 (λ_ _ h=>h);exact pin v (hv1 v) (λe=>by rw [hl] at e;cases e) hrun hv
    | false=>
     obtain ⟨v,hv,hu⟩:=aF5 hq hl _ h1;exact pin v (hv1 v) (λ_ w'=>hv1 v w' (aDr (h':=w'.heap) hq hl hu)) (hv1 v w hu) hv
   ·exact qZ (T':=λL w=>T L w.heap) (Ti:=λ_=>True) (v:=undef) hi hq (Region.noSelect_spec hsel) (uP.hQ hi undef) xF (λ_ _ g=>g) (λL w g=>ht i o L w.heap hi hq g) (λ_ _ _ _=>trivial) f listed a w hfree (aCK hb) hready (.inr ⟨hw,rfl⟩) trivial (hskip hr1 h1)
  ·refine aD4 hne λj hj=>?_;rcases hall j hj with ⟨rfl,⟨hq,h⟩ | ⟨hq,hdf,h⟩⟩ | ⟨hne2,oj,hoj,hq,hdf,hg,h⟩
   ·obtain ⟨s1,hr1,h1⟩:=xL h hr;rcases h1 with ⟨hw,h1⟩ | ⟨hw,h1⟩
    ·refine pH hi hw ?_;obtain ⟨v,hrun,hv⟩:=tL hq hr1 h1 (λ_ _ h=>h);unfold Oper.wp;rw [hrun];obtain ⟨s',hk',hr'⟩:=eW hv hr1;exact ⟨fQ.refl hi hq w,jC hC hsel f T r _ s' _ w hr' ht hk' hk (hs.step hi (λt ht=>cW ht) (cB _ _ _))⟩
    ·exact yO hi hw ⟨fQ.refl hi hq w,hskip hr1 h1⟩
   ·obtain ⟨s1,hr1,h1⟩:=xL h hr
    have hask:∀ w',T (listed.setIfInBounds j true) w'.heap->fQ ops (λL w=>T L w.heap) j (listed.setIfInBounds j true) w w':=by
     intro w' hS;unfold fQ;rw [hi];dsimp only;rw [if_neg (by simp [hq])];exact hS
    rcases h1 with ⟨hw,h1⟩ | ⟨hw,h1⟩
    ·refine pH hi hw (aBf hC hr1 h1 (λs' a' w' hr' hk' hkin ht' hd=>?_) (λv w' hv hkin=>?_))
     ·exact ⟨hask _ hk'.1,jC hC hsel f T r _ s' a' w' hr' ht hk'.2 (hk.trans hkin) (hs.step hi ht' (hd hdf))⟩
     ·exact ⟨v,rfl,hr1.size,hs.tmp,hs.df,hv,hk.trans hkin⟩
    ·obtain ⟨s',hk',hr'⟩:=eW h1 hr1;exact yO hi hw ⟨hask _ hk'.1,jC hC hsel f T r _ s' _ w hr' ht hk'.2 hk (hs.step hi (λt ht=>cW ht) (cB _ _ _))⟩
   ·have hj2:ops[j]? = some oj:=by simpa using hoj
    have hw:Region.wanted oj (yielded ops a.tmps)=true:=by simp [Region.wanted,hg]
    have hask:∀ w',T (listed.setIfInBounds j true) w'.heap->fQ ops (λL w=>T L w.heap) j (listed.setIfInBounds j true) w w':=by
     intro w' hS;unfold fQ;rw [hj2];dsimp only;rw [if_neg (by simp [hq])];exact hS
    refine pH hj2 hw (aBf hC hr h (λs' a' w' hr' hk' hkin ht' hd=>?_) (λv w' hv hkin=>?_))
    ·exact ⟨hask _ hk'.1,jC hC hsel f T _ _ s' a' w' hr' ht hk'.2 (hk.trans hkin) (hs.step hj2 ht' (hd hdf))⟩
    ·exact ⟨v,rfl,hr.size,hs.tmp,hs.df,hv,hk.trans hkin⟩
theorem fI {l:List Nat} {t:Nat} {v:Value}:∀ (e:Env),look (stripE l e) t=some v->look e t=some v/\memN t l=false
 | [],h=>by simp [stripE,look] at h
 | (d,u)::r,h=>by
  unfold stripE at h;split at h
  .rename_i f;obtain ⟨a,b⟩:=fI r h;refine ⟨?_,b⟩;rw [aO];split
   .simp_all
   .exact a
  .rename_i f;rw [aO] at h ⊢;split at h
   .simp_all
   .rename_i c;obtain ⟨a,b⟩:=fI r h;exact ⟨by rw [if_neg c];exact a,b⟩
theorem xX {e:Env} {t:Nat} {v:Value}:∀ (l:List Nat),look (keepE e l) t=some v->look e t=some v/\memN t l=true
 | [],h=>by simp [keepE,look] at h
 | x::r,h=>by
  unfold keepE at h
  have step:look (keepE e r) t=some v->look e t=some v/\memN t (x::r)=true:=λh=>by
   obtain ⟨a,b⟩:=xX r h;refine ⟨a,?_⟩;simp only [memN];cases Nat.beq x t<;>simp [b]
  split at h
  .rename_i u c;rw [aO] at h;split at h
   .rename_i e1;subst e1;refine ⟨by rw [c];exact h,?_⟩;have:Nat.beq x x=true:=by simp
    simp [memN]
   .exact step h
  .exact step h
theorem aHs {k:CK} {v:Value} {G:CKT k->Prop} (h:jF k v G):∀ (F:CKT k->Value->Prop),alK k F->∃ x,F x v/\G x:=by
 intro F d;cases k<;>cases v<;>simp only [jF] at h<;>first | exact h.elim | skip
 case i.int kk k' n=>
  obtain ⟨e,f⟩:=bG h;have e:=kEq_mp e;subst e;exact ⟨n,d n,f⟩
 case b.bool b=>exact ⟨b,d b,h⟩
 case p.pointer p=>exact ⟨p,d p,h⟩
 case s.slice a l c=>exact ⟨⟨a,l,c⟩,d ⟨a,l,c⟩,h⟩
 case m.map m=>exact ⟨m,d m,h⟩
 all_goals exact ⟨_,d _,h⟩
theorem aBG:∀ (l:List CK) (T:Type) (R:ArC l T) (vs:List Value) (G:T->Prop) (F:List Value->T->Prop),kS l T R vs G->alC l T R F->∃ R',F vs R'/\G R'
 | [],T,R,vs,G,F,h,hF=>by
  cases vs with
  | nil=>exact ⟨R,hF,h⟩
  | cons v vs=>exact h.elim
 | k::r,T,R,vs,G,F,h,hF=>by
  cases vs with
  | nil=>exact h.elim
  | cons v vs=>
   obtain ⟨x,a,b⟩:=aHs h _ hF;exact aBG r T (R x) vs G (λvs R'=>F (v::vs) R') b a
theorem xM:∀ (l:List (Nat × Sh)) (T:Type) (R:yZ l T) (e:Env) (G:T->Prop) (F:Env->T->Prop),uQ l T R e G->alJ l T R F->
  ∃ a R',F a R'/\G R'/\∀ t v,look a t=some v->look e t=some v
 | [],T,R,e,G,F,h,hF=>⟨[],R,hF,h,λt v h=>by simp [look] at h⟩
 | (t,.c k)::r,T,R,e,G,F,h,hF=>by
  simp only [uQ] at h;split at h
  .rename_i v i;obtain ⟨x,c,d⟩:=aHs h _ hF;obtain ⟨a,R',f,g,j⟩:=xM r T (R x) e G (λe R'=>F ((t,v)::e) R') d c;refine ⟨(t,v)::a,R',f,g,λt' u b=>?_⟩;rw [aO] at b;split at b
   .simp_all
   .simp_all
  .exact h.elim
 | (t,.agg l)::r,T,R,e,G,F,h,hF=>by
  simp only [uQ] at h;split at h
  .rename_i vs i;obtain ⟨m,c,d⟩:=aBG l (yZ r T) R vs.toList _ _ h hF;obtain ⟨a,R',f,g,j⟩:=xM r T m e G (λe R'=>F ((t,.agg vs.toList.toArray)::e) R') d c;refine ⟨(t,.agg vs.toList.toArray)::a,R',f,g,λt' u b=>?_⟩;rw [aO] at b;split at b
   .simp_all
   .simp_all
  .exact h.elim
theorem mH.join {J:Join} {c:Code} {s s1:St} {a f:Act} (d:okJ J c=true) (i:mH n s a) (b:mH n s1 f) (hs:o5 c a f) {e:Env} (j:∀ t v,look e t=some v->look s1.env t=some v) :
  mH n ⟨e++keepE s.env J.keep,s.ds⟩ f:=by
 unfold okJ at d;simp only [Bool.and_eq_true] at d;refine ⟨b.size,λt v h=>?_,by rw [hs.df d.2];exact i.ds⟩;rw [mM] at h;cases g:look e t with
 | some u=>
  rw [g] at h;simp only [Option.some_or,Option.some.injEq] at h;subst h;exact b.env t u (j t u g)
 | none=>
  rw [g,Option.none_or] at h;obtain ⟨k,m⟩:=xX _ h
  have o:memN t (wrs c)=false:=by
   have key:∀ l:List Nat,(l.all λt=>!memN t (wrs c))=true->memN t l=true->memN t (wrs c)=false:=by
    intro l
    induction l with
    | nil=>intro _ h;cases h
    | cons x r ih=>
     intro k1 k2;simp only [List.all_cons,Bool.and_eq_true,Bool.not_eq_true'] at k1;simp only [memN] at k2;split at k2
     .simp_all
     .simp_all
   exact key _ d.1 m
  rw [hs.tmp t o];exact i.env t v k
theorem o5.of_list {id:Nat} {ops:Array Oper} {dr:Bool} {a a':Act} (h:kQ ops.toList a a'):o5 (.region id ops dr) a a':=⟨h.tmp,h.df⟩
theorem kQ.part {b l2:List Oper} {a a':Act} (h:kQ b a a'):kQ (b++l2) a a':=
 ⟨λt c=>h.tmp t (by rw [List.flatMap_append,bI,Bool.or_eq_false_iff] at c;exact c.1),
  λd=>h.df (by simp_all)⟩
theorem kQ.trans {d l2:List Oper} {a e f:Act} (h:kQ d a e) (g:kQ l2 e f):kQ (d++l2) a f:=
 ⟨λt b=>by
  rw [List.flatMap_append,bI,Bool.or_eq_false_iff] at b;rw [g.tmp t b.2,h.tmp t b.1],
  λc=>by
  rw [List.all_append,Bool.and_eq_true] at c;rw [g.df c.2,h.df c.1]⟩
theorem o5.refl (c:Code) (a:Act):o5 c a a:=⟨λ_ _=>rfl,λ_=>rfl⟩
theorem PostN.mono {K K':Ex->St->HP} {S f:Act->Act->Prop} {a a0:Act} {w w0:World} (c:∀ e s h,K e s h->K' e s h) (d:∀ a',S a a'->f a0 a') (b:Kin false w0 w) :
  ∀ e a' w',PostN n K S a w e a' w'->PostN n K' f a0 w0 e a' w'
 | .normal,_,_,⟨s',h1,h2,h3,h4⟩=>⟨s',h1,c _ _ _ h2,b.trans h3,d _ h4⟩
 | .exit _,_,_,⟨s',h1,h2,h3,h4⟩=>⟨s',h1,c _ _ _ h2,b.trans h3,d _ h4⟩
 | .ret,_,_,⟨s',h1,h2,h3,h4⟩=>⟨s',h1,c _ _ _ h2,b.trans h3,d _ h4⟩
 | .panic _,_,_,⟨v,s',e,h1,h2,h3,h4⟩=>⟨v,s',e,h1,c _ _ _ h2,b.trans h3,d _ h4⟩
 | .goto _,_,_,h=>h.elim
 | .outgrown,_,_,h=>h.elim
theorem kin_drew (w:World):Kin false w { w with drawn:=w.drawn+1 }:=⟨rfl,rfl,rfl,λe=>by cases e⟩
theorem aEl {c:Code} {a:Act} {w:World} {Q:Exit->Act->World->Prop} (I:Nat->Act->World->Prop) (m:Nat) (h₀:I m a w)
  (round:∀ m a w,I m a w->c.wp P (Exit.then (λa' w'=>∃ m',m'<m/\I m' a' w') Q) a w):(Code.loop c).wp P Q a w:=by
 intro b k cs
 have key:∀ m a w,I m a w->∃ e a' w',Q e a' w'/\Arrives P (lone (b.at a (.code c::.inLoop c::k)) cs w) b k cs e a' w':=by
  intro m
  induction m using Nat.strongRecOn with
  | _ m ih=>
   intro a w hI;obtain ⟨e,a₁,w₁,hq,harr⟩:=round m a w hI b (.inLoop c::k) cs;cases e with
   | normal=>
    obtain ⟨m',hlt,hI₁⟩:=hq;obtain ⟨e₂,a₂,w₂,hq₂,harr₂⟩:=ih m' hlt a₁ w₁ hI₁;exact ⟨e₂,a₂,w₂,hq₂,.of_steps (Steps.trans harr (.one step_inLoop)) harr₂⟩
   | exit id=>exact ⟨_,a₁,w₁,hq,.pass (x:=.inLoop c) rfl (λ_ _=>.inl (by simp)) harr⟩
   | goto l=>exact ⟨_,a₁,w₁,hq,.pass (x:=.inLoop c) rfl (λ_ _=>.inl (by simp)) harr⟩
   | ret=>exact ⟨_,a₁,w₁,hq,.pass (x:=.inLoop c) rfl (λ_ _=>.inl (by simp)) harr⟩
   | panic ch=>exact ⟨_,a₁,w₁,hq,.pass (x:=.inLoop c) rfl (λ_ _=>.inl (by simp)) harr⟩
   | outgrown=>exact ⟨_,a₁,w₁,hq,.pass (x:=.inLoop c) rfl (λ_ _=>.inl (by simp)) harr⟩
 obtain ⟨e,a',w',hq,harr⟩:=key m a w h₀;exact ⟨e,a',w',hq,.of_steps (.one step_loop) harr⟩
theorem aHR:∀ (l:List CK) (T:Type) (R:ArC l T) (vs:List Value) (G a:T->Prop),kS l T R vs G->(∀ x,G x->a x)->kS l T R vs a:=by
 have c:∀ (k:CK) (v:Value) (G a:CKT k->Prop),jF k v G->(∀ x,G x->a x)->jF k v a:=by
  intro k v G a h b;cases k<;>cases v<;>simp only [jF] at h ⊢<;>first | exact h.elim | exact b _ h | skip
  obtain ⟨d,f⟩:=bG h;exact dA.2 ⟨λ_=>b _ f,λe=>by rw [d] at e;cases e⟩
 intro l
 induction l with
 | nil=>intro T R vs G a h b;cases vs with
  | nil=>exact b _ h
  | cons v vs=>exact h.elim
 | cons k r ih=>intro T R vs G a h b;cases vs with
  | nil=>exact h.elim
  | cons v vs=>exact c _ _ _ _ h λx g=>ih T (R x) vs G a g b
theorem aHI:∀ (l:List (Nat × Sh)) (T:Type) (R:yZ l T) (e:Env) (G a:T->Prop),uQ l T R e G->(∀ x,G x->a x)->uQ l T R e a:=by
 have d:∀ (k:CK) (v:Value) (G a:CKT k->Prop),jF k v G->(∀ x,G x->a x)->jF k v a:=by
  intro k v G a h b;cases k<;>cases v<;>simp only [jF] at h ⊢<;>first | exact h.elim | exact b _ h | skip
  obtain ⟨f,g⟩:=bG h;exact dA.2 ⟨λ_=>b _ g,λe=>by rw [f] at e;cases e⟩
 have m:∀ (l:List CK) (T:Type) (R:ArC l T) (vs:List Value) (G a:T->Prop),kS l T R vs G->(∀ x,G x->a x)->kS l T R vs a:=by
  intro l
  induction l with
  | nil=>intro T R vs G a h b;cases vs with
   | nil=>exact b _ h
   | cons v vs=>exact h.elim
  | cons k r ih=>intro T R vs G a h b;cases vs with
   | nil=>exact h.elim
   | cons v vs=>exact d _ _ _ _ h λx i=>ih T (R x) vs G a i b
 intro l
 induction l with
 | nil=>intro T R e G a h b;exact b _ h
 | cons p r ih=>
  obtain ⟨t,j⟩:=p;intro T R e G a h b;cases j with
  | c k=>
   simp only [uQ] at h ⊢;split at h
   .grind
   .exact h.elim
  | agg l=>
   simp only [uQ] at h ⊢;split at h
   .grind
   .exact h.elim
theorem aH8 {M:Type}:∀ (l:List (Nat × Sh)) (T:Type) (R:yZ l T) (e:Env) (G:M->T->Prop),(uQ l T R e λx=>∃ m,G m x)->∃ m,uQ l T R e (G m):=by
 have j:∀ (k:CK) (v:Value) (G:M->CKT k->Prop),(jF k v λx=>∃ m,G m x)->∃ m,jF k v (G m):=by
  intro k v G h;cases k<;>cases v<;>simp only [jF] at h ⊢<;>first | exact h.elim | exact h | skip
  obtain ⟨d,m,f⟩:=bG h;exact ⟨m,dA.2 ⟨λ_=>f,λe=>by rw [d] at e;cases e⟩⟩
 have o:∀ (l:List CK) (T:Type) (R:ArC l T) (vs:List Value) (G:M->T->Prop),(kS l T R vs λx=>∃ m,G m x)->∃ m,kS l T R vs (G m):=by
  intro l
  induction l with
  | nil=>intro T R vs G h;cases vs with
   | nil=>exact h
   | cons v vs=>exact h.elim
  | cons k r ih=>intro T R vs G h;cases vs with
   | nil=>exact h.elim
   | cons v vs=>
    refine j k v (λm x=>kS r T (R x) vs (G m)) ?_
    have a:∀ (k:CK) (v:Value) (G b:CKT k->Prop),jF k v G->(∀ x,G x->b x)->jF k v b:=by
     intro k v G b h g;cases k<;>cases v<;>simp only [jF] at h ⊢<;>first | exact h.elim | exact g _ h | skip
     obtain ⟨d,f⟩:=bG h;exact dA.2 ⟨λ_=>g _ f,λe=>by rw [d] at e;cases e⟩
    exact a k v _ _ h λx i=>ih T (R x) vs G i
 intro l
 induction l with
 | nil=>intro T R e G h;exact h
 | cons p r ih=>
  obtain ⟨t,q⟩:=p;intro T R e G h;cases q with
  | c k=>
   simp only [uQ] at h ⊢;split at h
   .rename_i v s;refine j k v (λm x=>uQ r T (R x) e (G m)) ?_
    have a:∀ (k:CK) (v:Value) (G b:CKT k->Prop),jF k v G->(∀ x,G x->b x)->jF k v b:=by
     intro k v G b h g;cases k<;>cases v<;>simp only [jF] at h ⊢<;>first | exact h.elim | exact g _ h | skip
     obtain ⟨d,f⟩:=bG h;exact dA.2 ⟨λ_=>g _ f,λe=>by rw [d] at e;cases e⟩
    exact a k v _ _ h λx i=>ih T (R x) e G i
   .exact h.elim
  | agg l=>
   simp only [uQ] at h ⊢;split at h
   .rename_i vs s;refine o l (yZ r T) R vs.toList (λm x=>uQ r T x e (G m)) ?_;exact aHR l (yZ r T) R vs.toList _ _ h λx i=>ih T x e G i
   .exact h.elim
theorem d9 (hm:P.follows .mixedOrders=true) (hC:eT P C):∀ (c:Code) (ann:Ann) (K:Ex->St->HP) (s:St) (a:Act) (w:World),mH n s a->vF P C n ann c K s w.heap->
  c.wp P (PostN n K (o5 c) a w) a w
 | .skip,ann,K,s,a,w,hr,h=>by
  rcases ann with _ | k | od | ⟨_ | J,a1,b1⟩ | ⟨a1,b1⟩ | a1 | ⟨J,a1⟩<;>first | exact False.elim h | skip
  exact wp_skip ⟨s,hr,h,Kin.refl _ w,o5.refl _ a⟩
 | .label l,ann,K,s,a,w,hr,h=>by
  rcases ann with _ | k | od | ⟨_ | J,a1,b1⟩ | ⟨a1,b1⟩ | a1 | ⟨J,a1⟩<;>first | exact False.elim h | skip
  exact wp_label ⟨s,hr,h,Kin.refl _ w,o5.refl _ a⟩
 | .ret,ann,K,s,a,w,hr,h=>by
  rcases ann with _ | k | od | ⟨_ | J,a1,b1⟩ | ⟨a1,b1⟩ | a1 | ⟨J,a1⟩<;>first | exact False.elim h | skip
  exact wp_ret ⟨s,hr,h,Kin.refl _ w,o5.refl _ a⟩
 | .exit id,ann,K,s,a,w,hr,h=>by
  rcases ann with _ | k | od | ⟨_ | J,a1,b1⟩ | ⟨a1,b1⟩ | a1 | ⟨J,a1⟩<;>first | exact False.elim h | skip
  exact wp_exit ⟨s,hr,h,Kin.refl _ w,o5.refl _ a⟩
 | .region id ops dr,ann,K,s,a,w,hr,h=>by
  cases dr with
  | false=>
   rcases ann with _ | k | od | ⟨_ | J,a1,b1⟩ | ⟨a1,b1⟩ | a1 | ⟨J,a1⟩<;>first | exact False.elim h | skip
   exact wp_region_list (oA hC ops.toList s a w hr h (o5 (.region id ops false)) a w (Kin.refl _ w) (λa' h=>o5.of_list h) (λl1 l2 a' e h=>o5.of_list (by rw [e];exact h.part)))
  | true=>
   rcases ann with _ | k | od | ⟨_ | J,a1,b1⟩ | ⟨a1,b1⟩ | a1 | ⟨J,a1⟩<;>first | exact False.elim h | skip
   have harr:ops.toList.toArray=ops:=Array.toArray_toList;unfold vF at h;split at h
   ·split at h
    ·rename_i hb;rw [harr] at hb;refine wp_region_still hm hb (nA ops.toList s a _ hr h λs' a' hr' hk hs=>?_);exact ⟨s',hr',hk,kin_drew w,o5.of_list hs⟩
    ·exact h.elim
   ·split at h
    ·rename_i hb;rw [<-harr];refine wp_region_still_tail k hm hb (nA (ops:=ops.toList.toArray) (ops.toList.take k) s a _ hr h λs' a' hr' hk hs=>?_);refine oA (ops:=ops.toList.toArray) hC (ops.toList.drop k) s' a' { w with drawn:=w.drawn+1 } hr' hk _ _ _ (kin_drew w) (λa2 h2=>o5.of_list ?_) (λl1 l2 a2 e h2=>o5.of_list ?_)
     ·have:=hs.trans h2;rwa [List.take_append_drop] at this
     ·have:=(hs.trans h2).part (l2:=l2);rw [List.append_assoc,<- e,List.take_append_drop] at this;exact this
    ·exact h.elim
   ·unfold vF at h
    have key:Region.noSelect ops=true->dE P C n ops.toList ops.toList.length (λ_ _=>True) od (Array.replicate ops.toList.length false) s (K .normal) (λv h=>K (.panic v) ⟨stripE (ops.toList.flatMap opDst) s.env,s.ds⟩ h) w.heap->
      (Code.region id ops true).wp P (PostN n K (o5 (.region id ops true)) a w) a w:=by
     intro hsel h;have h0:=jC (a0:=a) (w0:=w) hC hsel ops.toList.length (λ_ _=>True) od (Array.replicate ops.toList.length false) s a { w with drawn:=w.drawn+1 } hr (λ_ _ _ _ _ _ g=>g) h (kin_drew w) ⟨λ_ _=>rfl,rfl⟩;rw [Array.length_toList] at h0;refine wp_mono (wp_region_any hm (xI _ _ _ _ h0)) λe a' w' hp=>?_;cases e with
     | normal=>
      obtain ⟨s',h1,h2,h3,h4⟩:=hp;exact ⟨s',h1,h2,h3,o5.of_list h4⟩
     | panic ch=>
      obtain ⟨v,rfl,hs,ht,hd,hk,hn⟩:=hp
      exact ⟨v,⟨stripE (ops.toList.flatMap opDst) s.env,s.ds⟩,rfl,⟨hs,λt u hl=>by
       obtain ⟨g1,g2⟩:=fI _ hl;rw [ht t g2];exact hr.env t u g1,hd.trans hr.ds⟩,hk,hn,o5.of_list ⟨ht,λ_=>hd⟩⟩
     | exit id=>exact hp.elim
     | ret=>exact hp.elim
     | goto l=>exact hp.elim
     | outgrown=>exact hp.elim
    split at h
    ·simp_all
    ·exact h.elim
 | .seq x y,ann,K,s,a,w,hr,h=>by
  rcases ann with _ | k | od | ⟨_ | J,a1,b1⟩ | ⟨a1,b1⟩ | a1 | ⟨J,a1⟩<;>first | exact False.elim h | skip
  ·refine wp_seq (wp_mono (d9 hm hC x a1 _ s a w hr h) λe a' w' hp=>?_);cases e with
   | normal=>
    obtain ⟨s',h1,h2,h3,h4⟩:=hp;refine wp_mono (d9 hm hC y b1 K s' a' w' h1 h2) (PostN.mono (λ_ _ _ h=>h) (λa2 hs=>?_) h3)
    exact ⟨λt ht=>by
     simp only [wrs,bI,Bool.or_eq_false_iff] at ht;rw [hs.tmp t ht.2,h4.tmp t ht.1],λhd=>by
     simp only [noDf,Bool.and_eq_true] at hd;rw [hs.df hd.2,h4.df hd.1]⟩
   | exit id=>exact PostN.mono (n:=n) (K:=K) (S:=o5 x) (λ_ _ _ h=>h) (λa' hs=>⟨λt ht=>hs.tmp t (by simp only [wrs,bI,Bool.or_eq_false_iff] at ht;exact ht.1),λhd=>hs.df (by simp only [noDf,Bool.and_eq_true] at hd;exact hd.1)⟩) (Kin.refl _ w) (.exit id) a' w' hp
   | ret=>exact PostN.mono (n:=n) (K:=K) (S:=o5 x) (λ_ _ _ h=>h) (λa' hs=>⟨λt ht=>hs.tmp t (by simp only [wrs,bI,Bool.or_eq_false_iff] at ht;exact ht.1),λhd=>hs.df (by simp only [noDf,Bool.and_eq_true] at hd;exact hd.1)⟩) (Kin.refl _ w) .ret a' w' hp
   | panic ch=>exact PostN.mono (n:=n) (K:=K) (S:=o5 x) (λ_ _ _ h=>h) (λa' hs=>⟨λt ht=>hs.tmp t (by simp only [wrs,bI,Bool.or_eq_false_iff] at ht;exact ht.1),λhd=>hs.df (by simp only [noDf,Bool.and_eq_true] at hd;exact hd.1)⟩) (Kin.refl _ w) (.panic ch) a' w' hp
   | goto l=>exact hp.elim
   | outgrown=>exact hp.elim
  ·unfold vF at h;split at h
   ·rename_i hj;obtain ⟨R,hall,hx⟩:=h;refine wp_seq (wp_mono (d9 hm hC x a1 _ s a w hr hx) λe a' w' hp=>?_);cases e with
    | normal=>
     obtain ⟨s',h1,h2,h3,h4⟩:=hp;obtain ⟨e',R',g1,g2,g3⟩:=xM _ _ _ _ _ _ h2 hall;have hr':=mH.join hj hr h1 h4 g3;refine wp_mono (d9 hm hC y b1 K _ a' w' hr' (g1 _ g2)) (PostN.mono (λ_ _ _ h=>h) (λa2 hs=>?_) h3)
     exact ⟨λt ht=>by
      simp only [wrs,bI,Bool.or_eq_false_iff] at ht;rw [hs.tmp t ht.2,h4.tmp t ht.1],λhd=>by
      simp only [noDf,Bool.and_eq_true] at hd;rw [hs.df hd.2,h4.df hd.1]⟩
    | exit id=>exact PostN.mono (n:=n) (K:=K) (S:=o5 x) (λ_ _ _ h=>h) (λa' hs=>⟨λt ht=>hs.tmp t (by simp only [wrs,bI,Bool.or_eq_false_iff] at ht;exact ht.1),λhd=>hs.df (by simp only [noDf,Bool.and_eq_true] at hd;exact hd.1)⟩) (Kin.refl _ w) (.exit id) a' w' hp
    | ret=>exact PostN.mono (n:=n) (K:=K) (S:=o5 x) (λ_ _ _ h=>h) (λa' hs=>⟨λt ht=>hs.tmp t (by simp only [wrs,bI,Bool.or_eq_false_iff] at ht;exact ht.1),λhd=>hs.df (by simp only [noDf,Bool.and_eq_true] at hd;exact hd.1)⟩) (Kin.refl _ w) .ret a' w' hp
    | panic ch=>exact PostN.mono (n:=n) (K:=K) (S:=o5 x) (λ_ _ _ h=>h) (λa' hs=>⟨λt ht=>hs.tmp t (by simp only [wrs,bI,Bool.or_eq_false_iff] at ht;exact ht.1),λhd=>hs.df (by simp only [noDf,Bool.and_eq_true] at hd;exact hd.1)⟩) (Kin.refl _ w) (.panic ch) a' w' hp
    | goto l=>exact hp.elim
    | outgrown=>exact hp.elim
   ·simp_all
 | .cond c x y,ann,K,s,a,w,hr,h=>by
  rcases ann with _ | k | od | ⟨_ | J,a1,b1⟩ | ⟨a1,b1⟩ | a1 | ⟨J,a1⟩<;>first | exact False.elim h | skip
  have h1:=wV_mp hr.ev h;split at h1
  ·rename_i t ht;refine wp_cond_split ht (λe=>?_) (λe=>?_)
   ·exact wp_mono (d9 hm hC x a1 K s a w hr (dA.1 h1 |>.1 e)) (PostN.mono (λ_ _ _ h=>h) (λa' hs=>⟨λt ht=>hs.tmp t (by simp only [wrs,bI,Bool.or_eq_false_iff] at ht;exact ht.1),λhd=>hs.df (by simp only [noDf,Bool.and_eq_true] at hd;exact hd.1)⟩) (Kin.refl _ w))
   ·exact wp_mono (d9 hm hC y b1 K s a w hr (dA.1 h1 |>.2 e)) (PostN.mono (λ_ _ _ h=>h) (λa' hs=>⟨λt ht=>hs.tmp t (by simp only [wrs,bI,Bool.or_eq_false_iff] at ht;exact ht.2),λhd=>hs.df (by simp only [noDf,Bool.and_eq_true] at hd;exact hd.2)⟩) (Kin.refl _ w))
  ·exact h1.elim
 | .block id x,ann,K,s,a,w,hr,h=>by
  rcases ann with _ | k | od | ⟨_ | J,a1,b1⟩ | ⟨a1,b1⟩ | a1 | ⟨J,a1⟩<;>first | exact False.elim h | skip
  refine wp_block (wp_mono (d9 hm hC x a1 _ s a w hr h) λe a' w' hp=>?_);cases e with
  | normal=>
   obtain ⟨s',h1,h2,h3,h4⟩:=hp;exact ⟨s',h1,h2,h3,⟨h4.tmp,h4.df⟩⟩
  | exit id'=>
   obtain ⟨s',h1,h2,h3,h4⟩:=hp
   dsimp only at h2
   unfold Exit.inBlock
   dsimp only
   cases hb:Nat.beq id' id with
   | true=>
    rw [hb] at h2;rw [if_pos (Nat.eq_of_beq_eq_true hb)];exact ⟨s',h1,h2,h3,⟨h4.tmp,h4.df⟩⟩
   | false=>
    rw [hb] at h2;rw [if_neg (λe=>by rw [e] at hb;simp at hb)];exact ⟨s',h1,h2,h3,⟨h4.tmp,h4.df⟩⟩
  | ret=>
   obtain ⟨s',h1,h2,h3,h4⟩:=hp;exact ⟨s',h1,h2,h3,⟨h4.tmp,h4.df⟩⟩
  | panic ch=>
   obtain ⟨v,s',e,h1,h2,h3,h4⟩:=hp;exact ⟨v,s',e,h1,h2,h3,⟨h4.tmp,h4.df⟩⟩
  | goto l=>exact hp.elim
  | outgrown=>exact hp.elim
 | .loop x,ann,K,s,a,w,hr,h=>by
  rcases ann with _ | k | od | ⟨_ | J,a1,b1⟩ | ⟨a1,b1⟩ | a1 | ⟨J,a1⟩<;>first | exact False.elim h | skip
  unfold vF at h;split at h
  ·rename_i hj;obtain ⟨I,h0,hall⟩:=h;obtain ⟨m,hm0⟩:=aH8 _ _ _ _ (λm (I':Nat->HP)=>I' m w.heap) h0;refine aEl (λm a' w'=>∃ s1,mH n s1 a'/\(uQ J.live (Nat->HP) I s1.env λI'=>I' m w'.heap)/\Kin false w w'/\o5 (.loop x) a a') m ⟨s,hr,hm0,Kin.refl _ w,o5.refl _ a⟩ ?_;rintro m a2 w2 ⟨s1,g1,g2,g3,g4⟩;obtain ⟨e',I',k1,k2,k3⟩:=xM _ _ _ _ _ _ g2 hall;have hr':=mH.join hj hr g1 ⟨g4.tmp,g4.df⟩ k3;refine wp_mono (d9 hm hC x a1 _ _ a2 w2 hr' (k1 m _ k2)) λe a' w' hp=>?_;have tr:∀ a',o5 x a2 a'->o5 (.loop x) a a':=λa' hs=>⟨λt ht=>by rw [hs.tmp t ht];exact g4.tmp t ht,λhd=>by rw [hs.df hd];exact g4.df hd⟩;cases e with
   | normal=>
    obtain ⟨s',h1,h2,h3,h4⟩:=hp;obtain ⟨m',g5⟩:=aH8 _ _ _ _ (λm' (I':Nat->HP)=>m'<m/\I' m' w'.heap) h2
    have hlt:m'<m:=by
     obtain ⟨_,_,_,h,_⟩:=xM _ _ _ _ _ _ g5 hall;exact h.1
    exact ⟨m',hlt,s',h1,aHI _ _ _ _ _ _ g5 λ_ h=>h.2,g3.trans h3,tr a' h4⟩
   | exit id=>exact PostN.mono (n:=n) (K:=K) (S:=o5 x) (λ_ _ _ h=>h) tr g3 (.exit id) a' w' hp
   | ret=>exact PostN.mono (n:=n) (K:=K) (S:=o5 x) (λ_ _ _ h=>h) tr g3 .ret a' w' hp
   | panic ch=>exact PostN.mono (n:=n) (K:=K) (S:=o5 x) (λ_ _ _ h=>h) tr g3 (.panic ch) a' w' hp
   | goto l=>exact hp.elim
   | outgrown=>exact hp.elim
  ·simp_all
 | .rangeFunc ..,ann,_,_,_,_,_,h=>by rcases ann with _ | k | od | ⟨_ | J,a1,b1⟩ | ⟨a1,b1⟩ | a1 | ⟨J,a1⟩<;>exact False.elim h
 | .scope _,ann,_,_,_,_,_,h=>by rcases ann with _ | k | od | ⟨_ | J,a1,b1⟩ | ⟨a1,b1⟩ | a1 | ⟨J,a1⟩<;>exact False.elim h
 | .goto _,ann,_,_,_,_,_,h=>by rcases ann with _ | k | od | ⟨_ | J,a1,b1⟩ | ⟨a1,b1⟩ | a1 | ⟨J,a1⟩<;>exact False.elim h
 | .refuse _,ann,_,_,_,_,_,h=>by rcases ann with _ | k | od | ⟨_ | J,a1,b1⟩ | ⟨a1,b1⟩ | a1 | ⟨J,a1⟩<;>exact False.elim h
end
end Go.Dn
