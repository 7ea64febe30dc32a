/- What the proof stands on. -/
import Derived.Test.YtfnkdpmbpgffbaaGreatDnL
import Derived.MapKept
namespace Go.Dn
abbrev SP:=AH->Prop
def eU (B A:AH):Prop:=∀ b o,B b=some o->A b=some o
def Dis (B C:AH):Prop:=∀ b,B b=none\/C b=none
def iU (B C:AH):AH:=λb=>match B b with | some o=>some o | none=>C b
def Own:List SP->AH->Prop
 | [],_=>True
 | P::l,A=>∃ B C,Dis B C/\eU B A/\eU C A/\P B/\Own l C
theorem eU.refl (A:AH):eU A A:=λ_ _ e=>e
theorem eU.trans {A B C:AH} (h:eU A B) (k:eU B C):eU A C:=λb o e=>k b o (h b o e)
theorem Dis.symm {B C:AH} (h:Dis B C):Dis C B:=λb=>(h b).symm
theorem Dis.sub {B C D:AH} (h:Dis B C) (s:eU D C):Dis B D:=λb=>by
 rcases h b with h | h
 .exact .inl h
 .refine .inr ?_;cases e:D b with
  | none=>rfl
  | some o=>have:=s b o e;rw [h] at this;cases this
theorem Dis.some {B C:AH} (h:Dis B C) {b:Nat} {o:Obj} (e:B b=some o):C b=none:=by
 rcases h b with h | h
 .simp_all
 .exact h
theorem tZ {A B C:AH} (h:eU B A) (k:eU C A):eU (iU B C) A:=λb o e=>by
 unfold iU at e;split at e
 .rename_i c a;cases e;exact h b _ a
 .exact k b o e
theorem pK (B C:AH):eU B (iU B C):=λb o e=>by simp [iU,e]
theorem mP {B C:AH} (h:Dis B C):eU C (iU B C):=λb o e=>by
 have:=h.symm.some e;simp [iU,this,e]
theorem tP {A B C:AH} (h:Dis A B) (k:Dis A C):Dis A (iU B C):=λb=>by
 rcases h b with h | h
 .exact .inl h
 .rcases k b with k | k
  .exact .inl k
  .exact .inr (by simp [iU,h,k])
theorem Own.mono {A a:AH} (s:eU A a):∀ {l:List SP},Own l A->Own l a
 | [],_=>True.intro
 | _::_,⟨B,C,h1,h2,h3,h4,h5⟩=>⟨B,C,h1,h2.trans s,h3.trans s,h4,h5⟩
theorem Own.tail {P:SP} {l:List SP} {A:AH}:Own (P::l) A->Own l A
 | ⟨_,_,_,_,h3,_,h5⟩=>h5.mono h3
theorem Own.cons {P:SP} {l l':List SP} {A:AH} (f:∀ C,Own l C->Own l' C):Own (P::l) A->Own (P::l') A
 | ⟨B,C,h1,h2,h3,h4,h5⟩=>⟨B,C,h1,h2,h3,h4,f C h5⟩
theorem Own.imp {P P':SP} {l:List SP} {A:AH} (f:∀ B,P B->P' B):Own (P::l) A->Own (P'::l) A
 | ⟨B,C,h1,h2,h3,h4,h5⟩=>⟨B,C,h1,h2,h3,f B h4,h5⟩
theorem Own.swap {P P':SP} {l:List SP} {A:AH}:Own (P::P'::l) A->Own (P'::P::l) A
 | ⟨B,C,h1,h2,h3,h4,⟨D,E,k1,k2,k3,k4,k5⟩⟩=>by
  have a:Dis B E:=h1.sub k3;have c:Dis B D:=h1.sub k2;exact ⟨D,iU B E,tP c.symm k1,k2.trans h3,tZ h2 (k3.trans h3),k4,B,E,a,pK B E,mP a,h4,k5⟩
theorem Own.perm {l l':List SP} (p:l.Perm l'):∀ {A:AH},Own l A->Own l' A:=by
 induction p with
 | nil=>exact λh=>h
 | cons x _ ih=>exact λh=>h.cons λ_=>ih
 | swap x y l=>exact λh=>h.swap
 | trans _ _ ih1 ih2=>exact λh=>ih2 (ih1 h)
theorem Own.sub {l l':List SP} (p:l'.Sublist l):∀ {A:AH},Own l A->Own l' A:=by
 induction p with
 | slnil=>exact λh=>h
 | cons x _ ih=>exact λh=>ih h.tail
 | cons_cons x _ ih=>exact λh=>h.cons λ_=>ih
theorem t8 {α:Type}:∀ {l:List α} {i:Nat} {x:α},l[i]? = some x->l.Perm (x::l.eraseIdx i)
 | [],_,_,e=>by simp at e
 | y::l,0,x,e=>by simp at e;subst e;simp
 | y::l,i+1,x,e=>by
  simp at e;exact ((t8 e).cons y).trans (List.Perm.swap x y _)
theorem Own.pick {l:List SP} {A:AH} {P:SP} (i:Nat) (e:l[i]? = some P) (h:Own l A):Own (P::l.eraseIdx i) A:=h.perm (t8 e)
theorem Own.back {l:List SP} {A:AH} {P P':SP} (i:Nat) (e:l[i]? = some P) (h:Own (P'::l.eraseIdx i) A):Own (l.set i P') A:=by
 obtain ⟨hi,c⟩:=List.getElem?_eq_some_iff.1 e;have a:(l.set i P')[i]? = some P':=by simp [hi]
 have:=t8 a;rw [List.eraseIdx_set_eq] at this;exact h.perm this.symm
theorem Own.ex {α:Type} {P:α->SP} {l:List SP} {A:AH}:Own ((λB=>∃ x,P x B)::l) A->∃ x,Own (P x::l) A
 | ⟨B,C,h1,h2,h3,⟨x,h4⟩,h5⟩=>⟨x,B,C,h1,h2,h3,h4,h5⟩
theorem Own.pure {p:Prop} {P:SP} {l:List SP} {A:AH}:Own ((λB=>p/\P B)::l) A->p/\Own (P::l) A
 | ⟨B,C,h1,h2,h3,⟨hp,h4⟩,h5⟩=>⟨hp,B,C,h1,h2,h3,h4,h5⟩
theorem Own.app:∀ {l r:List SP} {A:AH},Own (l++r) A->Own (Own l::r) A
 | [],r,A,h=>⟨λ_=>none,A,λ_=>.inl rfl,(λb o e=>nomatch e),eU.refl A,True.intro,h⟩
 | P::l,r,A,⟨B,C,h1,h2,h3,h4,h5⟩=>by
  obtain ⟨D,E,k1,k2,a,d,f⟩:=Own.app (l:=l) (r:=r) h5;have c:Dis B D:=h1.sub k2;have g:Dis B E:=h1.sub a;exact ⟨iU B D,E,(tP g.symm k1.symm).symm,tZ h2 (k2.trans h3),a.trans h3,⟨B,D,c,pK B D,mP c,h4,d⟩,f⟩
theorem Own.flat:∀ {l r:List SP} {A:AH},Own (Own l::r) A->Own (l++r) A
 | [],r,A,h=>h.tail
 | P::l,r,A,⟨D,E,k1,k2,k3,⟨B,C,h1,h2,h3,h4,h5⟩,k5⟩=>by
  have a:Dis C E:=(k1.symm.sub h3).symm;have c:Dis B E:=(k1.symm.sub h2).symm;refine ⟨B,iU C E,tP h1 c,h2.trans k2,tZ (h3.trans k2) k3,h4,?_⟩;exact Own.flat (l:=l) (r:=r) ⟨C,E,a,pK C E,mP a,h5,k5⟩
def At (b:Nat) (cs:List Value):SP:=λB=>∃ t,B b=some (.cells cs.toArray t)
def aJc (k:IntKind) (es:Array MapEntry) (m:List (Int × Value)):Prop:=es.toList.map (λe=>(e.key,e.val))=m.map λp=>(.int k p.1,p.2)
def MapI (b:Nat) (k:IntKind) (m:List (Int × Value)):SP:=λB=>∃ es c,B b=some (.map es c)/\aJc k es m/\Go.MapKept.Stamped es c
def putM (m:List (Int × Value)) (key:Int) (v:Value):List (Int × Value):=match m with
 | []=>[(key,v)]
 | p::m=>if p.1=key then (key,v)::m else p::putM m key v
theorem jQ (key a:Int) (v:Value):∀ (m:List (Int × Value)),(putM m key v).lookup a=if a=key then some v else m.lookup a
 | []=>by
  simp only [putM,List.lookup];by_cases e:a=key
  .simp [e]
  .grind
 | p::m=>by
  unfold putM;by_cases e:p.1=key
  .grind
  .rw [if_neg e];simp only [List.lookup];by_cases c:a=p.1
   .simp_all
   .have d:(a==p.1)=false:=by simpa using c
    simp only [d];exact jQ key a v m
variable {A:AH} {l:List SP} {b o:Nat} {cs:List Value}
theorem Own.sat {P:SP} (h:Own (P::l) A):∃ B,eU B A/\P B:=by
 obtain ⟨B,C,d,a,e,c,f⟩:=h;exact ⟨B,a,c⟩
theorem Own.get {P:SP} {i:Nat} (e:l[i]? = some P) (h:Own l A):∃ B,eU B A/\P B:=(h.pick i e).sat
theorem Own.at {i:Nat} (e:l[i]? = some (At b cs)) (h:Own l A):∃ t,A b=some (.cells cs.toArray t):=by
 obtain ⟨B,a,t,c⟩:=h.get e;exact ⟨t,a _ _ c⟩
theorem Own.map {i:Nat} {k:IntKind} {m:List (Int × Value)} (e:l[i]? = some (MapI b k m)) (h:Own l A):∃ a c,A b=some (.map a c)/\aJc k a m/\Go.MapKept.Stamped a c:=by
 obtain ⟨B,d,a,c,f,g⟩:=h.get e;exact ⟨a,c,d _ _ f,g⟩
theorem Own.upd0 {P P':SP} {b:Nat} {o a:Obj} (h:Own (P::l) A) (g:∀ B,P B->B b=some o) (i:∀ B,P B->P' (updA B b a)):Own (P'::l) (updA A b a):=by
 obtain ⟨B,C,d,j,k,f,m⟩:=h;have n:C b=none:=d.some (g B f);refine ⟨updA B b a,C,?_,?_,?_,i B f,m⟩
 .intro c;by_cases e:c=b
  .simp_all
  .unfold updA;rw [if_neg e];exact d c
 .intro c p e;unfold updA at e ⊢;split at e
  .simp_all
  .rename_i q;rw [if_neg q];exact j _ _ e
 .intro c p e;have:c≠b:=λq=>by subst q;rw [n] at e;cases e
  unfold updA;rw [if_neg this];exact k _ _ e
theorem fG {B:AH} {b:Nat} {o:Obj}:updA B b o b=some o:=by simp [updA]
theorem Own.upd {P':SP} {b:Nat} {c:Obj} {P:SP} {i:Nat} (e:l[i]? = some P) (h:Own l A) (f:∀ B,P B->∃ o,B b=some o) (g:∀ B,P B->P' (updA B b c)):Own (l.set i P') (updA A b c):=by
 refine Own.back i e ?_;obtain ⟨B,C,j,k,m,d,n⟩:=h.pick i e;obtain ⟨o,p⟩:=f B d;refine Own.upd0 (P:=λa=>a=B) (o:=o) ⟨B,C,j,k,m,rfl,n⟩ (λa q=>by subst q;exact p) (λa q=>by subst q;exact g _ d)
theorem Own.new {b:Nat} {o:Obj} {P:SP} (h:Own l A) (a:A b=none) (d:∀ B,B b=some o->P B):Own (P::l) (updA A b o):=by
 have hs:eU A (updA A b o):=λc f e=>by
  have:c≠b:=λq=>by subst q;rw [a] at e;cases e
  unfold updA;rw [if_neg this];exact e
 refine ⟨updA (λ_=>none) b o,A,?_,?_,hs,d _ fG,h⟩
 .intro c;by_cases e:c=b
  .simp_all
  .unfold updA;rw [if_neg e];exact .inl rfl
 .intro c f e;unfold updA at e ⊢;split at e
  .simp_all
  .cases e
theorem dW {i:Nat} {v:Value} (e:l[i]? = some (At b cs)) (h:Own l A) (a:cs[o]? = some v):bM A ⟨b,o,none⟩=some v:=by
 obtain ⟨t,c⟩:=h.at e;simp [bM,c,a]
theorem bQ {i:Nat} {k:IntKind} {n:Int} {K:Int->Prop} (h:Own l A) (e:l[i]? = some (At b cs)) (a:cs[o]? = some (.int k n)) (c:K n):aI k ⟨b,o,none⟩ A K:=⟨n,dW e h a,c⟩
theorem nL {i:Nat} {n:Bool} {K:Bool->Prop} (h:Own l A) (e:l[i]? = some (At b cs)) (a:cs[o]? = some (.bool n)) (c:K n):aB ⟨b,o,none⟩ A K:=⟨n,dW e h a,c⟩
theorem mE {i:Nat} {n:Option Addr} {K:Option Addr->Prop} (h:Own l A) (e:l[i]? = some (At b cs)) (a:cs[o]? = some (.pointer n)) (c:K n):aP ⟨b,o,none⟩ A K:=⟨n,dW e h a,c⟩
theorem ld_S {i:Nat} {x:Option Addr} {n c:Nat} {K:Sl->Prop} (h:Own l A) (e:l[i]? = some (At b cs)) (a:cs[o]? = some (.slice x n c)) (d:K ⟨x,n,c⟩):aS ⟨b,o,none⟩ A K:=⟨⟨x,n,c⟩,dW e h a,d⟩
theorem fC {i:Nat} {n:Option Nat} {K:Option Nat->Prop} (h:Own l A) (e:l[i]? = some (At b cs)) (a:cs[o]? = some (.map n)) (c:K n):aM ⟨b,o,none⟩ A K:=⟨n,dW e h a,c⟩
theorem aLR {i:Nat} {v:Value} (e:l[i]? = some (At b cs)) (h:Own l A):Own (l.set i (At b (cs.set o v))) (aDN A ⟨b,o,none⟩ v):=by
 obtain ⟨t,a⟩:=h.at e
 have:aDN A ⟨b,o,none⟩ v=updA A b (.cells (cs.set o v).toArray t):=by
  funext c;unfold aDN updA;by_cases q:c=b
  .subst q;simp [a,aBd]
  .simp [q]
 rw [this];exact h.upd e (λB ⟨t,d⟩=>⟨_,d⟩) λB f=>⟨t,fG⟩
theorem bU {i:Nat} {v:Value} {K:AP} (h:Own l A) (e:l[i]? = some (At b cs)) (d:(cs[o]?).isSome=true) (f:v.oneCell'=true) (g:∀ a,Own (l.set i (At b (cs.set o v))) a->K a):aC ⟨b,o,none⟩ v A K:=by
 obtain ⟨t,c⟩:=h.at e;unfold aC;rw [f];refine ⟨?_,?_,g _ (aLR e h)⟩
 .simpa [bM,c] using d
 .simp [uX,c]
theorem aT {t:TypeId} {K:Nat->AP} (h:Own l A) (c:∀ b a,Own (At b cs::l) a->K b a):aN A (.cells cs.toArray t) K:=λb d=>c b _ (h.new d λ_ q=>⟨t,q⟩)
theorem uT {k:IntKind} {K:Nat->AP} (h:Own l A) (c:∀ b a,Own (MapI b k []::l) a->K b a):aN A (.map #[] 0) K:=λb d=>c b _ (h.new d λ_ q=>⟨_,_,q,rfl,Go.MapKept.stamped_empty 0⟩)
theorem jN {k:IntKind} {key:Int}:∀ (es:List MapEntry) (m:List (Int × Value)) (j:Nat),es.map (λe=>(e.key,e.val))=m.map (λp=>(.int k p.1,p.2))->
  ∃ r,Instr.findNow (.int k) (.int k key) es j=some r/\r.map (·.2)=m.lookup key/\
   (∀ i v,r=some (i,v)->j<=i/\∀ v',(es.modify (i-j) λe=>{ e with key:=.int k key,val:=v' }).map (λe=>(e.key,e.val))=(putM m key v').map (λp=>(.int k p.1,p.2)))/\
   (r=none->∀ v',putM m key v'=m++[(key,v')])
 | [],[],j,_=>⟨none,rfl,rfl,(λ_ _ e=>nomatch e),λ_ _=>rfl⟩
 | [],_::_,_,e=>by simp at e
 | _::_,[],_,e=>by simp at e
 | e::es,p::m,j,h=>by
  simp only [List.map_cons,List.cons.injEq,Prod.mk.injEq] at h;obtain ⟨⟨h1,h2⟩,h3⟩:=h;simp only [Instr.findNow,h1,Instr.sameNow];by_cases q:p.1=key
  ·refine ⟨some (j,e.val),?_,?_,?_,?_⟩
   ·simp [q]
   ·grind
   ·intro i v hv;simp only [Option.some.injEq,Prod.mk.injEq] at hv;obtain ⟨rfl,rfl⟩:=hv;refine ⟨Nat.le_refl _,λv'=>?_⟩;simp [putM,q,h3]
   ·simp_all
  ·obtain ⟨r,k1,k2,k3,k4⟩:=jN (k:=k) (key:=key) es m (j+1) h3;refine ⟨r,?_,?_,?_,?_⟩
   ·grind
   ·grind
   ·intro i v hv;obtain ⟨k5,k6⟩:=k3 i v hv;refine ⟨by omega,λv'=>?_⟩;rw [show i-j=(i-(j+1))+1 by omega];simp only [List.modify_succ_cons,List.map_cons,k6 v'];simp [putM,q,h1,h2]
   ·intro hn v';simp [putM,q,k4 hn v']
theorem aGn {m:List (Int × Value)} {key:Int} (h:m.lookup key=none):key ∉ m.map (·.1):=by grind
theorem iD {i:Nat} {k:IntKind} {key:Int} {m:List (Int × Value)} {K:Option Value->Prop} (h:Own l A) (e:l[i]? = some (MapI b k m)) (d:K (m.lookup key)):lG A (some b) k key K:=by
 obtain ⟨a,c,f,g,j⟩:=h.map e;obtain ⟨r,k1,k2,n,p⟩:=jN (k:=k) (key:=key) a.toList m 0 g;exact ⟨a.toList,by simp [wR,f],r,k1,by rw [k2];exact d⟩
theorem aDs {i:Nat} {k:IntKind} {key:Int} {v:Value} {m:List (Int × Value)} {K:AP} (h:Own l A) (e:l[i]? = some (MapI b k m)) (hk:∀ A',Own (l.set i (MapI b k (putM m key v))) A'->K A'):mK A (some b) k key v K:=by
 obtain ⟨es,c,h1,h2,hst⟩:=h.map e;obtain ⟨r,k1,k2,k3,k4⟩:=jN (k:=k) (key:=key) es.toList m 0 h2;refine ⟨b,es,c,rfl,h1,r,k1,hk _ ?_⟩;refine h.upd e (λB ⟨_,_,hb,_⟩=>⟨_,hb⟩) λB _=>?_;cases r with
 | none=>
  refine ⟨_,_,fG,?_,Go.MapKept.stamped_push hst λx hx g=>?_⟩
  ·show (es.push _).toList.map _=_;simp only [Array.toList_push,List.map_append,List.map_cons,List.map_nil];rw [k4 rfl v,List.map_append];rw [show es.toList.map (λe=>(e.key,e.val))=_ from h2];rfl
  ·have h5:m.lookup key=none:=by rw [<-k2];rfl
   have h6:(x.key,x.val) ∈ m.map λp=>((.int k p.1:Value),p.2):=by rw [<-h2];exact List.mem_map.2 ⟨x,hx,rfl⟩
   obtain ⟨p,hp,hpe⟩:=List.mem_map.1 h6;simp only [Prod.mk.injEq] at hpe;rw [g] at hpe;have hk:p.1=key:=by have:=hpe.1;injection this
   exact aGn h5 (List.mem_map.2 ⟨p,hp,hk⟩)
 | some p=>
  obtain ⟨i,v0⟩:=p;obtain ⟨k5,k6⟩:=k3 i v0 rfl;refine ⟨_,_,fG,?_,?_⟩
  ·show (es.modify i _).toList.map _=_;rw [Array.toList_modify];exact k6 v
  ·have h7:∃ e',es.toList[i]? = some e'/\e'.key = .int k key:=by
    have:=jW _ _ _ _ k1;obtain ⟨_,e',h8,h9,_⟩:=this;exact ⟨e',by simpa using h8,h9⟩
   obtain ⟨e',h8,h9⟩:=h7;refine Go.MapKept.stamped_modify hst i _ (λ_ _=>rfl) λe _ he=>?_;have:es[i]? = some e':=by simpa using h8
   rw [this] at he;cases he;exact h9.symm
end Go.Dn
namespace Go.Dn
theorem w64 {n:Int} (a : -9223372036854775808<=n) (b:n<9223372036854775808):IntKind.wrap .i64 n=n:=by
 simp only [IntKind.wrap,IntKind.bits,IntKind.signed];simp only [Bool.true_and,decide_eq_true_eq,ge_iff_le];split<;>omega
theorem aHy (n:Int):IntKind.wrap .u64 n=n % 18446744073709551616:=by
 simp [IntKind.wrap,IntKind.bits,IntKind.signed]
theorem dO {n:Int} (a:0<=n) (b:n<18446744073709551616):IntKind.wrap .u64 n=n:=by
 rw [aHy];omega
theorem wu8 (n:Int):IntKind.wrap .u8 n=n % 256:=by
 simp [IntKind.wrap,IntKind.bits,IntKind.signed]
theorem kM {n:Int} (h:0<=n):Int.tdiv n 4096=n / 4096:=Int.tdiv_eq_ediv_of_nonneg h
theorem rL {n:Int} (h:0<=n):Int.tmod n 4096=n % 4096:=Int.tmod_eq_emod_of_nonneg h
theorem inB_in {i:Int} {n:Nat} {K:Prop} (a:0<=i) (b:i<n) (c:K):bB i n K:=by
 unfold bB;simp [bsel,a,b,c]
theorem bsel_in {b:Bool} {X Y:Prop} (a:b=true->X) (c:b=false->Y):bsel b X Y:=dA.2 ⟨a,c⟩
theorem aG {b:Bool} {X Y:Prop} (a:b=true) (c:X):bsel b X Y:=by subst a;exact c
theorem bsel_f {b:Bool} {X Y:Prop} (a:b=false) (c:Y):bsel b X Y:=by subst a;exact c
theorem add_at {b o n:Nat}:Addr.add ⟨b,o,none⟩ n=⟨b,o+n,none⟩:=by
 unfold Addr.add;split
 .subst_vars;rfl
 .rfl
def SlAt (s:Sl) (sz:Nat) (cs:List Value):SP:=λB=>s.len*sz=cs.length/\s.len<=s.cap/\
 (cs≠[]->∃ b pre rest,s.a=some ⟨b,pre.length,none⟩/\At b (pre++cs++rest) B)
theorem SlAt.cell {A B:AH} {s:Sl} {sz:Nat} {cs:List Value} {j:Nat} {v:Value} (h:SlAt s sz cs B) (u:eU B A) (a:cs[j]? = some v):∃ b o,s.a=some ⟨b,o,none⟩/\bM A ⟨b,o+j,none⟩=some v:=by
 obtain ⟨g,i,c⟩:=h;have d:=(List.getElem?_eq_some_iff.1 a).1;obtain ⟨b,pre,rest,e,t,f⟩:=c (by intro q;subst q;simp at d);refine ⟨b,pre.length,e,?_⟩;have:=u _ _ f;simp only [bM,this];simp only [Option.isSome_none,Bool.false_eq_true,if_false,List.getElem?_toArray];rw [List.append_assoc,List.getElem?_append_right (by omega),List.getElem?_append_left (by omega)];rw [show pre.length+j-pre.length=j by omega];exact a
theorem aDL {A:AH} {l:List SP} {i:Nat} {s:Sl} {sz:Nat} {cs:List Value} (h:Own l A) (e:l[i]? = some (SlAt s sz cs)):s.len*sz=cs.length:=by
 obtain ⟨B,_,a⟩:=h.get e;exact a.1
theorem rZ {A:AH} {l:List SP} {i:Nat} {s:Sl} {sz:Nat} {cs:List Value} {j:Nat} {v:Value} (h:Own l A) (e:l[i]? = some (SlAt s sz cs)) (a:cs[j]? = some v):∃ b o,s.a=some ⟨b,o,none⟩/\bM A ⟨b,o+j,none⟩=some v:=by
 obtain ⟨B,u,c⟩:=h.get e;exact c.cell u a
def Reads (P:SP) (s:Sl) (sz:Nat) (cs:List Value):Prop:=∀ B A,P B->eU B A->s.len*sz=cs.length/\
 ∀ j v,cs[j]? = some v->∃ b o,s.a=some ⟨b,o,none⟩/\bM A ⟨b,o+j,none⟩=some v
theorem pP {s:Sl} {sz:Nat} {cs:List Value}:Reads (SlAt s sz cs) s sz cs:=λ_ _ h u=>⟨h.1,λ_ _ a=>h.cell u a⟩
theorem dV {A:AH} {l:List SP} {P:SP} {i:Nat} {s:Sl} {sz:Nat} {cs:List Value} (h:Own l A) (e:l[i]? = some P) (r:Reads P s sz cs):s.len*sz=cs.length:=by
 obtain ⟨B,u,a⟩:=h.get e;exact (r B A a u).1
theorem bK {A:AH} {l:List SP} {P:SP} {i:Nat} {s:Sl} {sz:Nat} {cs:List Value} {j:Nat} {v:Value} (h:Own l A) (e:l[i]? = some P) (r:Reads P s sz cs) (a:cs[j]? = some v):∃ b o,s.a=some ⟨b,o,none⟩/\bM A ⟨b,o+j,none⟩=some v:=by
 obtain ⟨B,u,c⟩:=h.get e;exact (r B A c u).2 j v a
theorem aFd {x y:Nat} (a:x<2 ^ 64) (b:y<2 ^ 64):bits .or .u64 x y=((x ||| y:Nat):Int):=by
 have d:x ||| y<2 ^ 64:=Nat.or_lt_two_pow a b
 have c:bits .or .u64 x y=IntKind.wrap .u64 ((BitVec.ofInt 64 x ||| BitVec.ofInt 64 y).toNat:Int):=rfl
 rw [c,BitVec.toNat_or,BitVec.ofInt_natCast,BitVec.ofInt_natCast,BitVec.toNat_ofNat,BitVec.toNat_ofNat,Nat.mod_eq_of_lt a,Nat.mod_eq_of_lt b];exact dO (by omega) (by omega)
theorem aHl {x y:Nat} (b:x<2 ^ 64) (a:y<2 ^ 64):bits .and .u64 x y=((x&&& y:Nat):Int):=by
 have d:x&&& y<2 ^ 64:=Nat.and_lt_two_pow _ a;have c:bits .and .u64 x y=IntKind.wrap .u64 ((BitVec.ofInt 64 x&&& BitVec.ofInt 64 y).toNat:Int):=rfl;rw [c,BitVec.toNat_and,BitVec.ofInt_natCast,BitVec.ofInt_natCast,BitVec.toNat_ofNat,BitVec.toNat_ofNat,Nat.mod_eq_of_lt b,Nat.mod_eq_of_lt a];exact dO (by omega) (by omega)
theorem sD {x b:Int} (a:0<=x) (d:x<72057594037927936) (c:0<=b) (e:b<256) :
  bits .or .u64 (IntKind.wrap .u64 (x*2 ^ (8:Nat))) (IntKind.wrap .u64 b)=b+256*x:=by
 obtain ⟨x,rfl⟩:=Int.eq_ofNat_of_zero_le a;obtain ⟨b,rfl⟩:=Int.eq_ofNat_of_zero_le c;rw [dO (by omega) (by omega),dO (by omega) (by omega)];rw [show ((x:Int)*2 ^ (8:Nat))=((x*256:Nat):Int) by simp];rw [aFd (by omega) (by omega)];have:=Nat.shiftLeft_add_eq_or_of_lt (b:=b) (i:=8) (by omega) x;rw [Nat.shiftLeft_eq] at this;rw [<-show x*2 ^ 8=x*256 by rfl,<- this];omega
def le (M:Int->Int) (a:Int):Nat->Int
 | 0=>0
 | n+1=>M a+256*le M (a+1) n
theorem rC {M:Int->Int} (h:∀ a,0<=M a/\M a<256):∀ (n:Nat) (a:Int),0<=le M a n/\le M a n<256 ^ n
 | 0,_=>⟨Int.le_refl _,by simp [le]⟩
 | n+1,a=>by
  obtain ⟨b,c⟩:=rC h n (a+1);obtain ⟨d,e⟩:=h a;rw [Int.pow_succ];simp only [le];omega
theorem rP {x:Int} (k:Nat) (m:Int) (a:m=((2 ^ k-1:Nat):Int)) (b:k<=63) (c:0<=x) (d:x<18446744073709551616):bits .and .u64 x m=x % ((2 ^ k:Nat):Int):=by
 obtain ⟨x,rfl⟩:=Int.eq_ofNat_of_zero_le c;have e:(2:Nat) ^ k<=2 ^ 63:=Nat.pow_le_pow_right (by omega) b;have f:0<(2:Nat) ^ k:=Nat.two_pow_pos k;subst a;rw [aHl (by omega) (by omega),Nat.and_two_pow_sub_one_eq_mod];omega
theorem aNC {x:Int} (a:0<=x) (b:x<18446744073709551616):bits .and .u64 x 1=x % 2:=rP 1 1 rfl (by omega) a b
theorem aL0 {x:Int} (a:0<=x) (b:x<18446744073709551616):bits .and .u64 x 511=x % 512:=rP 9 511 rfl (by omega) a b
theorem aJ6 {x:Int} (a:0<=x) (b:x<18446744073709551616):bits .and .u64 x 4095=x % 4096:=rP 12 4095 rfl (by omega) a b
theorem aMV {x:Int} (a:0<=x) (b:x<18446744073709551616):bits .and .u64 x 1048575=x % 1048576:=rP 20 1048575 rfl (by omega) a b
theorem qC {x:Int} {n:Nat}:Int.fdiv x (2 ^ n)=x / 2 ^ n:=Int.fdiv_eq_ediv_of_nonneg _ (Int.pow_nonneg (by omega))
theorem tF {x:Int} (n:Nat) (a:0<=x) (b:x<18446744073709551616):0<=x / 2 ^ n/\x / 2 ^ n<18446744073709551616:=by
 have c:(0:Int)<2 ^ n:=Int.pow_pos (by omega);refine ⟨Int.ediv_nonneg a (by omega),?_⟩;exact Int.lt_of_le_of_lt (Int.ediv_le_self _ a) b
def dD (x:Int) (k:Nat):Bool:=x / 2 ^ k % 2==1
theorem aI6 {x:Int} (k:Nat) (m:Int) (f:m=((2 ^ k:Nat):Int)) (g:k<=63) (j:0<=x) (s:x<18446744073709551616):bits .or .u64 x m=if dD x k then x else x+m:=by
 obtain ⟨x,rfl⟩:=Int.eq_ofNat_of_zero_le j;have t:(2:Nat) ^ k<=2 ^ 63:=Nat.pow_le_pow_right (by omega) g;subst f;rw [aFd (by omega) (by omega)]
 have l:dD (x:Int) k=x.testBit k:=by
  unfold dD;rw [Nat.testBit_eq_decide_div_mod_eq];have:(x:Int) / 2 ^ k % 2=((x / 2 ^ k % 2:Nat):Int):=by simp
  rw [this];by_cases h:x / 2 ^ k % 2=1
  .simp [h]
  .simp [h];omega
 rw [l];cases h:x.testBit k with
 | true=>
  simp only [if_true];congr 1;apply Nat.eq_of_testBit_eq;intro i;rw [Nat.testBit_or,Nat.testBit_two_pow];by_cases e:k=i
  .subst e;simp [h]
  .simp [e]
 | false=>
  simp only [Bool.false_eq_true,if_false];rw [Nat.testBit_eq_decide_div_mod_eq] at h
  have h:x / 2 ^ k % 2=0:=by
   have:=of_decide_eq_false h;omega
  have n:x % 2 ^ k<2 ^ k:=Nat.mod_lt _ (Nat.two_pow_pos k)
  have o:2 ^ (k+1)*(x / 2 ^ k / 2)+x % 2 ^ k=x:=by
   have p:=Nat.div_add_mod x (2 ^ k);have d:=Nat.div_add_mod (x / 2 ^ k) 2;rw [Nat.pow_succ,Nat.mul_assoc];rw [h,Nat.add_zero] at d;rw [d];exact p
  have q:=Nat.two_pow_add_eq_or_of_lt (i:=k+1) (b:=x % 2 ^ k) (by rw [Nat.pow_succ];omega) (x / 2 ^ k / 2);have a:=Nat.two_pow_add_eq_or_of_lt (i:=k) (b:=x % 2 ^ k) n 1;have c:=Nat.two_pow_add_eq_or_of_lt (i:=k+1) (b:=2 ^ k*1+x % 2 ^ k) (by rw [Nat.pow_succ];omega) (x / 2 ^ k / 2)
  have r:x ||| 2 ^ k=x+2 ^ k:=by
   have e1:x ||| 2 ^ k=2 ^ (k+1)*(x / 2 ^ k / 2) ||| (2 ^ k*1+x % 2 ^ k):=by
    rw [a,Nat.mul_one,Nat.or_comm (2 ^ k),<- Nat.or_assoc,<- q,o]
   rw [e1,<- c];omega
  omega
end Go.Dn
