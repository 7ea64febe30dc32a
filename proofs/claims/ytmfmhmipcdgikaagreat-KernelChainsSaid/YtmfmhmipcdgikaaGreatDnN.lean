/- What the proof stands on. -/
import Derived.Test.YtmfmhmipcdgikaaGreatDnL
import Derived.MapKept
namespace Go.Dn
abbrev SP:=AH->Prop
def lA (B A:AH):Prop:=∀ b o,B b=some o->A b=some o
def zU (B C:AH):Prop:=∀ b,B b=none\/C b=none
def gV (B C:AH):AH:=λb=>match B b with | some o=>some o | none=>C b
def Own:List SP->AH->Prop
 | [],_=>True
 | P::l,A=>∃ B C,zU B C/\lA B A/\lA C A/\P B/\Own l C
theorem lA.refl (A:AH):lA A A:=λ_ _ e=>e
theorem lA.trans {A B C:AH} (h:lA A B) (k:lA B C):lA A C:=λb o e=>k b o (h b o e)
theorem zU.symm {B C:AH} (h:zU B C):zU C B:=λb=>(h b).symm
theorem zU.sub {B C D:AH} (h:zU B C) (s:lA D C):zU B D:=λb=>by
 rcases h b with h | h
 ·exact .inl h
 ·refine .inr ?_;cases e:D b with
  | none=>rfl
  | some o=>have:=s b o e;rw [h] at this;cases this
theorem zU.some {B C:AH} (h:zU B C) {b:Nat} {o:Obj} (e:B b=some o):C b=none:=by
 rcases h b with h | h
 ·rw [e] at h;cases h
 ·exact h
theorem sC {A B C:AH} (h:lA B A) (k:lA C A):lA (gV B C) A:=λb o e=>by
 unfold gV at e;split at e
 ·rename_i o' ho;cases e;exact h b _ ho
 ·exact k b o e
theorem oI (B C:AH):lA B (gV B C):=λb o e=>by simp [gV,e]
theorem lR {B C:AH} (h:zU B C):lA C (gV B C):=λb o e=>by
 have:=h.symm.some e;simp [gV,this,e]
theorem rX {A B C:AH} (h:zU A B) (k:zU A C):zU A (gV B C):=λb=>by
 rcases h b with h | h
 ·exact .inl h
 ·rcases k b with k | k
  ·exact .inl k
  ·exact .inr (by simp [gV,h,k])
theorem Own.mono {A A':AH} (s:lA A A'):∀ {l:List SP},Own l A->Own l A'
 | [],_=>True.intro
 | _::_,⟨B,C,h1,h2,h3,h4,h5⟩=>⟨B,C,h1,h2.trans s,h3.trans s,h4,h5⟩
theorem Own.tail {P:SP} {l:List SP} {A:AH}:Own (P::l) A->Own l A
 | ⟨_,_,_,_,h3,_,h5⟩=>h5.mono h3
theorem Own.cons {P:SP} {l l':List SP} {A:AH} (f:∀ C,Own l C->Own l' C):Own (P::l) A->Own (P::l') A
 | ⟨B,C,h1,h2,h3,h4,h5⟩=>⟨B,C,h1,h2,h3,h4,f C h5⟩
theorem Own.imp {P P':SP} {l:List SP} {A:AH} (f:∀ B,P B->P' B):Own (P::l) A->Own (P'::l) A
 | ⟨B,C,h1,h2,h3,h4,h5⟩=>⟨B,C,h1,h2,h3,f B h4,h5⟩
theorem Own.swap {P P':SP} {l:List SP} {A:AH}:Own (P::P'::l) A->Own (P'::P::l) A
 | ⟨B,C,h1,h2,h3,h4,⟨D,E,k1,k2,k3,k4,k5⟩⟩=>by
  have d1:zU B E:=h1.sub k3;have d2:zU B D:=h1.sub k2;exact ⟨D,gV B E,rX d2.symm k1,k2.trans h3,sC h2 (k3.trans h3),k4,B,E,d1,oI B E,lR d1,h4,k5⟩
theorem Own.perm {l l':List SP} (p:l.Perm l'):∀ {A:AH},Own l A->Own l' A:=by
 induction p with
 | nil=>exact λh=>h
 | cons x _ ih=>exact λh=>h.cons λ_=>ih
 | swap x y l=>exact λh=>h.swap
 | trans _ _ ih1 ih2=>exact λh=>ih2 (ih1 h)
theorem Own.sub {l l':List SP} (p:l'.Sublist l):∀ {A:AH},Own l A->Own l' A:=by
 induction p with
 | slnil=>exact λh=>h
 | cons x _ ih=>exact λh=>ih h.tail
 | cons_cons x _ ih=>exact λh=>h.cons λ_=>ih
theorem rW {α:Type}:∀ {l:List α} {i:Nat} {x:α},l[i]? = some x->l.Perm (x::l.eraseIdx i)
 | [],_,_,e=>by simp at e
 | y::l,0,x,e=>by simp at e;subst e;simp
 | y::l,i+1,x,e=>by
  simp at e;exact ((rW e).cons y).trans (List.Perm.swap x y _)
theorem Own.pick {l:List SP} {A:AH} {P:SP} (i:Nat) (e:l[i]? = some P) (h:Own l A):Own (P::l.eraseIdx i) A:=h.perm (rW e)
theorem Own.back {l:List SP} {A:AH} {P P':SP} (i:Nat) (e:l[i]? = some P) (h:Own (P'::l.eraseIdx i) A):Own (l.set i P') A:=by
 obtain ⟨hi,he⟩:=List.getElem?_eq_some_iff.1 e;have h1:(l.set i P')[i]? = some P':=by simp [hi]
 have:=rW h1;rw [List.eraseIdx_set_eq] at this;exact h.perm this.symm
theorem Own.ex {α:Type} {P:α->SP} {l:List SP} {A:AH}:Own ((λB=>∃ x,P x B)::l) A->∃ x,Own (P x::l) A
 | ⟨B,C,h1,h2,h3,⟨x,h4⟩,h5⟩=>⟨x,B,C,h1,h2,h3,h4,h5⟩
theorem Own.pure {p:Prop} {P:SP} {l:List SP} {A:AH}:Own ((λB=>p/\P B)::l) A->p/\Own (P::l) A
 | ⟨B,C,h1,h2,h3,⟨hp,h4⟩,h5⟩=>⟨hp,B,C,h1,h2,h3,h4,h5⟩
theorem Own.app:∀ {l r:List SP} {A:AH},Own (l++r) A->Own (Own l::r) A
 | [],r,A,h=>⟨λ_=>none,A,λ_=>.inl rfl,(λb o e=>nomatch e),lA.refl A,True.intro,h⟩
 | P::l,r,A,⟨B,C,h1,h2,h3,h4,h5⟩=>by
  obtain ⟨D,E,k1,k2,k3,k4,k5⟩:=Own.app (l:=l) (r:=r) h5;have d1:zU B D:=h1.sub k2;have d2:zU B E:=h1.sub k3;exact ⟨gV B D,E,(rX d2.symm k1.symm).symm,sC h2 (k2.trans h3),k3.trans h3,⟨B,D,d1,oI B D,lR d1,h4,k4⟩,k5⟩
theorem Own.flat:∀ {l r:List SP} {A:AH},Own (Own l::r) A->Own (l++r) A
 | [],r,A,h=>h.tail
 | P::l,r,A,⟨D,E,k1,k2,k3,⟨B,C,h1,h2,h3,h4,h5⟩,k5⟩=>by
  have d1:zU C E:=(k1.symm.sub h3).symm;have d2:zU B E:=(k1.symm.sub h2).symm;refine ⟨B,gV C E,rX h1 d2,h2.trans k2,sC (h3.trans k2) k3,h4,?_⟩;exact Own.flat (l:=l) (r:=r) ⟨C,E,d1,oI C E,lR d1,h5,k5⟩
def At (b:Nat) (cs:List Value):SP:=λB=>∃ t,B b=some (.cells cs.toArray t)
def aFO (k:IntKind) (es:Array MapEntry) (m:List (Int × Value)):Prop:=es.toList.map (λe=>(e.key,e.val))=m.map λp=>(.int k p.1,p.2)
def MapI (b:Nat) (k:IntKind) (m:List (Int × Value)):SP:=λB=>∃ es c,B b=some (.map es c)/\aFO k es m/\Go.MapKept.Stamped es c
def putM (m:List (Int × Value)) (key:Int) (v:Value):List (Int × Value):=match m with
 | []=>[(key,v)]
 | p::m=>if p.1=key then (key,v)::m else p::putM m key v
variable {A:AH} {l:List SP} {b o:Nat} {cs:List Value}
theorem Own.sat {P:SP} (h:Own (P::l) A):∃ B,lA B A/\P B:=by
 obtain ⟨B,C,h1,h2,h3,h4,h5⟩:=h;exact ⟨B,h2,h4⟩
theorem Own.get {P:SP} {i:Nat} (e:l[i]? = some P) (h:Own l A):∃ B,lA B A/\P B:=(h.pick i e).sat
theorem Own.at {i:Nat} (e:l[i]? = some (At b cs)) (h:Own l A):∃ t,A b=some (.cells cs.toArray t):=by
 obtain ⟨B,h1,t,h2⟩:=h.get e;exact ⟨t,h1 _ _ h2⟩
theorem Own.map {i:Nat} {k:IntKind} {m:List (Int × Value)} (e:l[i]? = some (MapI b k m)) (h:Own l A):∃ es c,A b=some (.map es c)/\aFO k es m/\Go.MapKept.Stamped es c:=by
 obtain ⟨B,h1,es,c,h2,h3⟩:=h.get e;exact ⟨es,c,h1 _ _ h2,h3⟩
theorem Own.upd0 {P P':SP} {b:Nat} {o o':Obj} (h:Own (P::l) A) (hb:∀ B,P B->B b=some o) (hp:∀ B,P B->P' (updA B b o')):Own (P'::l) (updA A b o'):=by
 obtain ⟨B,C,h1,h2,h3,h4,h5⟩:=h;have hc:C b=none:=h1.some (hb B h4);refine ⟨updA B b o',C,?_,?_,?_,hp B h4,h5⟩
 ·intro c;by_cases e:c=b
  ·subst e;exact .inr hc
  ·unfold updA;rw [if_neg e];exact h1 c
 ·intro c o2 e;unfold updA at e ⊢;split at e
  ·rename_i q;rw [if_pos q];exact e
  ·rename_i q;rw [if_neg q];exact h2 _ _ e
 ·intro c o2 e;have:c≠b:=λq=>by subst q;rw [hc] at e;cases e
  unfold updA;rw [if_neg this];exact h3 _ _ e
theorem cW {B:AH} {b:Nat} {o:Obj}:updA B b o b=some o:=by simp [updA]
theorem Own.upd {P':SP} {b:Nat} {o':Obj} {P:SP} {i:Nat} (e:l[i]? = some P) (h:Own l A) (hb:∀ B,P B->∃ o,B b=some o) (hp:∀ B,P B->P' (updA B b o')):Own (l.set i P') (updA A b o'):=by
 refine Own.back i e ?_;obtain ⟨B,C,h1,h2,h3,h4,h5⟩:=h.pick i e;obtain ⟨o,ho⟩:=hb B h4;refine Own.upd0 (P:=λB'=>B'=B) (o:=o) ⟨B,C,h1,h2,h3,rfl,h5⟩ (λB' q=>by subst q;exact ho) (λB' q=>by subst q;exact hp _ h4)
theorem Own.new {b:Nat} {o:Obj} {P:SP} (h:Own l A) (hb:A b=none) (hp:∀ B,B b=some o->P B):Own (P::l) (updA A b o):=by
 have hs:lA A (updA A b o):=λc o2 e=>by
  have:c≠b:=λq=>by subst q;rw [hb] at e;cases e
  unfold updA;rw [if_neg this];exact e
 refine ⟨updA (λ_=>none) b o,A,?_,?_,hs,hp _ cW,h⟩
 ·intro c;by_cases e:c=b
  ·subst e;exact .inr hb
  ·unfold updA;rw [if_neg e];exact .inl rfl
 ·intro c o2 e;unfold updA at e ⊢;split at e
  ·rename_i q;rw [if_pos q];exact e
  ·cases e
theorem dH {i:Nat} {v:Value} (e:l[i]? = some (At b cs)) (h:Own l A) (ho:cs[o]? = some v):bM A ⟨b,o,none⟩=some v:=by
 obtain ⟨t,ht⟩:=h.at e;simp [bM,ht,ho]
theorem ld_I {i:Nat} {k:IntKind} {n:Int} {K:Int->Prop} (h:Own l A) (e:l[i]? = some (At b cs)) (ho:cs[o]? = some (.int k n)) (hk:K n):aI k ⟨b,o,none⟩ A K:=⟨n,dH e h ho,hk⟩
theorem aY {i:Nat} {n:Bool} {K:Bool->Prop} (h:Own l A) (e:l[i]? = some (At b cs)) (ho:cs[o]? = some (.bool n)) (hk:K n):aB ⟨b,o,none⟩ A K:=⟨n,dH e h ho,hk⟩
theorem cO {i:Nat} {n:Option Addr} {K:Option Addr->Prop} (h:Own l A) (e:l[i]? = some (At b cs)) (ho:cs[o]? = some (.pointer n)) (hk:K n):aP ⟨b,o,none⟩ A K:=⟨n,dH e h ho,hk⟩
theorem ld_S {i:Nat} {x:Option Addr} {n c:Nat} {K:Sl->Prop} (h:Own l A) (e:l[i]? = some (At b cs)) (ho:cs[o]? = some (.slice x n c)) (hk:K ⟨x,n,c⟩):aS ⟨b,o,none⟩ A K:=⟨⟨x,n,c⟩,dH e h ho,hk⟩
theorem dY {i:Nat} {n:Option Nat} {K:Option Nat->Prop} (h:Own l A) (e:l[i]? = some (At b cs)) (ho:cs[o]? = some (.map n)) (hk:K n):aM ⟨b,o,none⟩ A K:=⟨n,dH e h ho,hk⟩
theorem aJ4 {i:Nat} {v:Value} (e:l[i]? = some (At b cs)) (h:Own l A):Own (l.set i (At b (cs.set o v))) (aCJ A ⟨b,o,none⟩ v):=by
 obtain ⟨t,ht⟩:=h.at e
 have:aCJ A ⟨b,o,none⟩ v=updA A b (.cells (cs.set o v).toArray t):=by
  funext c;unfold aCJ updA;by_cases q:c=b
  ·subst q;simp [ht,aAe]
  ·simp [q]
 rw [this];exact h.upd e (λB ⟨t,hb⟩=>⟨_,hb⟩) λB hB=>⟨t,cW⟩
theorem aJ {i:Nat} {v:Value} {K:AP} (h:Own l A) (e:l[i]? = some (At b cs)) (ho:(cs[o]?).isSome=true) (hv:v.oneCell'=true) (hk:∀ A',Own (l.set i (At b (cs.set o v))) A'->K A'):aC ⟨b,o,none⟩ v A K:=by
 obtain ⟨t,ht⟩:=h.at e;unfold aC;rw [hv];refine ⟨?_,?_,hk _ (aJ4 e h)⟩
 ·simpa [bM,ht] using ho
 ·simp [vX,ht]
theorem aX {t:TypeId} {K:Nat->AP} (h:Own l A) (hk:∀ b A',Own (At b cs::l) A'->K b A'):aT A (.cells cs.toArray t) K:=λb hb=>hk b _ (h.new hb λ_ q=>⟨t,q⟩)
theorem tD {k:IntKind} {K:Nat->AP} (h:Own l A) (hk:∀ b A',Own (MapI b k []::l) A'->K b A'):aT A (.map #[] 0) K:=λb hb=>hk b _ (h.new hb λ_ q=>⟨_,_,q,rfl,Go.MapKept.stamped_empty 0⟩)
theorem fS {k:IntKind} {key:Int}:∀ (es:List MapEntry) (m:List (Int × Value)) (j:Nat),es.map (λe=>(e.key,e.val))=m.map (λp=>(.int k p.1,p.2))->
  ∃ r,Instr.findNow (.int k) (.int k key) es j=some r/\r.map (·.2)=m.lookup key/\
   (∀ i v,r=some (i,v)->j<=i/\∀ v',(es.modify (i-j) λe=>{ e with key:=.int k key,val:=v' }).map (λe=>(e.key,e.val))=(putM m key v').map (λp=>(.int k p.1,p.2)))/\
   (r=none->∀ v',putM m key v'=m++[(key,v')])
 | [],[],j,_=>⟨none,rfl,rfl,(λ_ _ e=>nomatch e),λ_ _=>rfl⟩
 | [],_::_,_,e=>by simp at e
 | _::_,[],_,e=>by simp at e
 | e::es,p::m,j,h=>by
  simp only [List.map_cons,List.cons.injEq,Prod.mk.injEq] at h;obtain ⟨⟨h1,h2⟩,h3⟩:=h;simp only [Instr.findNow,h1,Instr.sameNow];by_cases q:p.1=key
  ·refine ⟨some (j,e.val),?_,?_,?_,?_⟩
   ·simp [q]
   ·simp [List.lookup,q,h2]
   ·intro i v hv;simp only [Option.some.injEq,Prod.mk.injEq] at hv;obtain ⟨rfl,rfl⟩:=hv;refine ⟨Nat.le_refl _,λv'=>?_⟩;simp [putM,q,h3]
   ·intro hn;cases hn
  ·obtain ⟨r,k1,k2,k3,k4⟩:=fS (k:=k) (key:=key) es m (j+1) h3;refine ⟨r,?_,?_,?_,?_⟩
   ·have g:(key==p.1)=false:=by simpa using λg=>q g.symm
    rw [g];exact k1
   ·have:(key==p.1)=false:=by simpa using λg=>q g.symm
    simp [List.lookup,this,k2]
   ·intro i v hv;obtain ⟨k5,k6⟩:=k3 i v hv;refine ⟨by omega,λv'=>?_⟩;rw [show i-j=(i-(j+1))+1 by omega];simp only [List.modify_succ_cons,List.map_cons,k6 v'];simp [putM,q,h1,h2]
   ·intro hn v';simp [putM,q,k4 hn v']
theorem sA {m:List (Int × Value)} {key:Int} (h:m.lookup key=none):key ∉ m.map (·.1):=by
 induction m with
 | nil=>simp
 | cons p m ih=>
  simp only [List.lookup] at h;split at h
  ·cases h
  ·rename_i g;simp only [List.map_cons,List.mem_cons,not_or];exact ⟨by simpa using g,ih h⟩
theorem kD {i:Nat} {k:IntKind} {key:Int} {m:List (Int × Value)} {K:Option Value->Prop} (h:Own l A) (e:l[i]? = some (MapI b k m)) (hk:K (m.lookup key)):qP A (some b) k key K:=by
 obtain ⟨es,c,h1,h2,hst⟩:=h.map e;obtain ⟨r,k1,k2,k3,k4⟩:=fS (k:=k) (key:=key) es.toList m 0 h2;exact ⟨es.toList,by simp [xN,h1],r,k1,by rw [k2];exact hk⟩
theorem aGQ {i:Nat} {k:IntKind} {key:Int} {v:Value} {m:List (Int × Value)} {K:AP} (h:Own l A) (e:l[i]? = some (MapI b k m)) (hk:∀ A',Own (l.set i (MapI b k (putM m key v))) A'->K A'):tH A (some b) k key v K:=by
 obtain ⟨es,c,h1,h2,hst⟩:=h.map e;obtain ⟨r,k1,k2,k3,k4⟩:=fS (k:=k) (key:=key) es.toList m 0 h2;refine ⟨b,es,c,rfl,h1,r,k1,hk _ ?_⟩;refine h.upd e (λB ⟨_,_,hb,_⟩=>⟨_,hb⟩) λB _=>?_;cases r with
 | none=>
  refine ⟨_,_,cW,?_,Go.MapKept.stamped_push hst λx hx g=>?_⟩
  ·show (es.push _).toList.map _=_;simp only [Array.toList_push,List.map_append,List.map_cons,List.map_nil];rw [k4 rfl v,List.map_append];rw [show es.toList.map (λe=>(e.key,e.val))=_ from h2];rfl
  ·have h5:m.lookup key=none:=by rw [<-k2];rfl
   have h6:(x.key,x.val) ∈ m.map λp=>((.int k p.1:Value),p.2):=by rw [<-h2];exact List.mem_map.2 ⟨x,hx,rfl⟩
   obtain ⟨p,hp,hpe⟩:=List.mem_map.1 h6;simp only [Prod.mk.injEq] at hpe;rw [g] at hpe;have hk:p.1=key:=by have:=hpe.1;injection this
   exact sA h5 (List.mem_map.2 ⟨p,hp,hk⟩)
 | some p=>
  obtain ⟨i,v0⟩:=p;obtain ⟨k5,k6⟩:=k3 i v0 rfl;refine ⟨_,_,cW,?_,?_⟩
  ·show (es.modify i _).toList.map _=_;rw [Array.toList_modify];exact k6 v
  ·have h7:∃ e',es.toList[i]? = some e'/\e'.key = .int k key:=by
    have:=eQ _ _ _ _ k1;obtain ⟨_,e',h8,h9,_⟩:=this;exact ⟨e',by simpa using h8,h9⟩
   obtain ⟨e',h8,h9⟩:=h7;refine Go.MapKept.stamped_modify hst i _ (λ_ _=>rfl) λe _ he=>?_;have:es[i]? = some e':=by simpa using h8
   rw [this] at he;cases he;exact h9.symm
end Go.Dn
namespace Go.Dn
theorem bG {n:Int} (h0 : -9223372036854775808<=n) (h1:n<9223372036854775808):IntKind.wrap .i64 n=n:=by
 simp only [IntKind.wrap,IntKind.bits,IntKind.signed];simp only [Bool.true_and,decide_eq_true_eq,ge_iff_le];split<;>omega
theorem aDs (n:Int):IntKind.wrap .u64 n=n % 18446744073709551616:=by
 simp [IntKind.wrap,IntKind.bits,IntKind.signed]
theorem cQ {n:Int} (h0:0<=n) (h1:n<18446744073709551616):IntKind.wrap .u64 n=n:=by
 rw [aDs];omega
theorem wu8 (n:Int):IntKind.wrap .u8 n=n % 256:=by
 simp [IntKind.wrap,IntKind.bits,IntKind.signed]
theorem jE {n:Int} (h:0<=n):Int.tdiv n 4096=n / 4096:=Int.tdiv_eq_ediv_of_nonneg h
theorem oU {n:Int} (h:0<=n):Int.tmod n 4096=n % 4096:=Int.tmod_eq_emod_of_nonneg h
theorem inB_in {i:Int} {n:Nat} {K:Prop} (h0:0<=i) (h1:i<n) (hk:K):bF i n K:=by
 unfold bF;simp [bsel,h0,h1,hk]
theorem aG {b:Bool} {X Y:Prop} (hx:b=true->X) (hy:b=false->Y):bsel b X Y:=cX.2 ⟨hx,hy⟩
theorem aN {b:Bool} {X Y:Prop} (hb:b=true) (hx:X):bsel b X Y:=by subst hb;exact hx
theorem bsel_f {b:Bool} {X Y:Prop} (hb:b=false) (hy:Y):bsel b X Y:=by subst hb;exact hy
theorem add_at {b o n:Nat}:Addr.add ⟨b,o,none⟩ n=⟨b,o+n,none⟩:=by
 unfold Addr.add;split
 ·subst_vars;rfl
 ·rfl
def dK (s:Sl) (sz:Nat) (cs:List Value):SP:=λB=>s.len*sz=cs.length/\s.len<=s.cap/\
 (cs≠[]->∃ b pre rest,s.a=some ⟨b,pre.length,none⟩/\At b (pre++cs++rest) B)
theorem dK.cell {A B:AH} {s:Sl} {sz:Nat} {cs:List Value} {j:Nat} {v:Value} (h:dK s sz cs B) (u:lA B A) (hv:cs[j]? = some v):∃ b o,s.a=some ⟨b,o,none⟩/\bM A ⟨b,o+j,none⟩=some v:=by
 obtain ⟨h1,h2,h3⟩:=h;have hj:=(List.getElem?_eq_some_iff.1 hv).1;obtain ⟨b,pre,rest,h4,t,h5⟩:=h3 (by intro q;subst q;simp at hj);refine ⟨b,pre.length,h4,?_⟩;have:=u _ _ h5;simp only [bM,this];simp only [Option.isSome_none,Bool.false_eq_true,if_false,List.getElem?_toArray];rw [List.append_assoc,List.getElem?_append_right (by omega),List.getElem?_append_left (by omega)];rw [show pre.length+j-pre.length=j by omega];exact hv
theorem zT {A:AH} {l:List SP} {i:Nat} {s:Sl} {sz:Nat} {cs:List Value} (h:Own l A) (e:l[i]? = some (dK s sz cs)):s.len*sz=cs.length:=by
 obtain ⟨B,_,h1⟩:=h.get e;exact h1.1
theorem mG {A:AH} {l:List SP} {i:Nat} {s:Sl} {sz:Nat} {cs:List Value} {j:Nat} {v:Value} (h:Own l A) (e:l[i]? = some (dK s sz cs)) (hv:cs[j]? = some v):∃ b o,s.a=some ⟨b,o,none⟩/\bM A ⟨b,o+j,none⟩=some v:=by
 obtain ⟨B,u,h1⟩:=h.get e;exact h1.cell u hv
def bI (P:SP) (s:Sl) (sz:Nat) (cs:List Value):Prop:=∀ B A,P B->lA B A->s.len*sz=cs.length/\
 ∀ j v,cs[j]? = some v->∃ b o,s.a=some ⟨b,o,none⟩/\bM A ⟨b,o+j,none⟩=some v
theorem nT {s:Sl} {sz:Nat} {cs:List Value}:bI (dK s sz cs) s sz cs:=λ_ _ h u=>⟨h.1,λ_ _ hv=>h.cell u hv⟩
theorem eV {A:AH} {l:List SP} {P:SP} {i:Nat} {s:Sl} {sz:Nat} {cs:List Value} (h:Own l A) (e:l[i]? = some P) (r:bI P s sz cs):s.len*sz=cs.length:=by
 obtain ⟨B,u,h1⟩:=h.get e;exact (r B A h1 u).1
theorem bW {A:AH} {l:List SP} {P:SP} {i:Nat} {s:Sl} {sz:Nat} {cs:List Value} {j:Nat} {v:Value} (h:Own l A) (e:l[i]? = some P) (r:bI P s sz cs) (hv:cs[j]? = some v):∃ b o,s.a=some ⟨b,o,none⟩/\bM A ⟨b,o+j,none⟩=some v:=by
 obtain ⟨B,u,h1⟩:=h.get e;exact (r B A h1 u).2 j v hv
theorem aDv {x y:Nat} (hx:x<2 ^ 64) (hy:y<2 ^ 64):bits .or .u64 x y=((x ||| y:Nat):Int):=by
 have h1:x ||| y<2 ^ 64:=Nat.or_lt_two_pow hx hy
 have h2:bits .or .u64 x y=IntKind.wrap .u64 ((BitVec.ofInt 64 x ||| BitVec.ofInt 64 y).toNat:Int):=rfl
 rw [h2,BitVec.toNat_or,BitVec.ofInt_natCast,BitVec.ofInt_natCast,BitVec.toNat_ofNat,BitVec.toNat_ofNat,Nat.mod_eq_of_lt hx,Nat.mod_eq_of_lt hy];exact cQ (by omega) (by omega)
theorem aFD {x y:Nat} (hx:x<2 ^ 64) (hy:y<2 ^ 64):bits .and .u64 x y=((x&&& y:Nat):Int):=by
 have h1:x&&& y<2 ^ 64:=Nat.and_lt_two_pow _ hy;have h2:bits .and .u64 x y=IntKind.wrap .u64 ((BitVec.ofInt 64 x&&& BitVec.ofInt 64 y).toNat:Int):=rfl;rw [h2,BitVec.toNat_and,BitVec.ofInt_natCast,BitVec.ofInt_natCast,BitVec.toNat_ofNat,BitVec.toNat_ofNat,Nat.mod_eq_of_lt hx,Nat.mod_eq_of_lt hy];exact cQ (by omega) (by omega)
theorem pK {x b:Int} (h0:0<=x) (h1:x<72057594037927936) (h2:0<=b) (h3:b<256) :
  bits .or .u64 (IntKind.wrap .u64 (x*2 ^ (8:Nat))) (IntKind.wrap .u64 b)=b+256*x:=by
 obtain ⟨x,rfl⟩:=Int.eq_ofNat_of_zero_le h0;obtain ⟨b,rfl⟩:=Int.eq_ofNat_of_zero_le h2;rw [cQ (by omega) (by omega),cQ (by omega) (by omega)];rw [show ((x:Int)*2 ^ (8:Nat))=((x*256:Nat):Int) by simp];rw [aDv (by omega) (by omega)];have:=Nat.shiftLeft_add_eq_or_of_lt (b:=b) (i:=8) (by omega) x;rw [Nat.shiftLeft_eq] at this;rw [<-show x*2 ^ 8=x*256 by rfl,<- this];omega
def le (M:Int->Int) (a:Int):Nat->Int
 | 0=>0
 | n+1=>M a+256*le M (a+1) n
theorem lG {M:Int->Int} (h:∀ a,0<=M a/\M a<256):∀ (n:Nat) (a:Int),0<=le M a n/\le M a n<256 ^ n
 | 0,_=>⟨Int.le_refl _,by simp [le]⟩
 | n+1,a=>by
  obtain ⟨h1,h2⟩:=lG h n (a+1);obtain ⟨h3,h4⟩:=h a;rw [Int.pow_succ];simp only [le];omega
theorem pN {x:Int} (k:Nat) (m:Int) (hm:m=((2 ^ k-1:Nat):Int)) (hk:k<=63) (h0:0<=x) (h1:x<18446744073709551616):bits .and .u64 x m=x % ((2 ^ k:Nat):Int):=by
 obtain ⟨x,rfl⟩:=Int.eq_ofNat_of_zero_le h0;have h2:(2:Nat) ^ k<=2 ^ 63:=Nat.pow_le_pow_right (by omega) hk;have h3:0<(2:Nat) ^ k:=Nat.two_pow_pos k;subst hm;rw [aFD (by omega) (by omega),Nat.and_two_pow_sub_one_eq_mod];omega
theorem aLW {x:Int} (h0:0<=x) (h1:x<18446744073709551616):bits .and .u64 x 1=x % 2:=pN 1 1 rfl (by omega) h0 h1
theorem aFU {x:Int} (h0:0<=x) (h1:x<18446744073709551616):bits .and .u64 x 511=x % 512:=pN 9 511 rfl (by omega) h0 h1
theorem aIw {x:Int} (h0:0<=x) (h1:x<18446744073709551616):bits .and .u64 x 4095=x % 4096:=pN 12 4095 rfl (by omega) h0 h1
theorem aJo {x:Int} (h0:0<=x) (h1:x<18446744073709551616):bits .and .u64 x 1048575=x % 1048576:=pN 20 1048575 rfl (by omega) h0 h1
theorem lE {x:Int} {n:Nat}:Int.fdiv x (2 ^ n)=x / 2 ^ n:=Int.fdiv_eq_ediv_of_nonneg _ (Int.pow_nonneg (by omega))
theorem jH {x:Int} (n:Nat) (h0:0<=x) (h1:x<18446744073709551616):0<=x / 2 ^ n/\x / 2 ^ n<18446744073709551616:=by
 have hp:(0:Int)<2 ^ n:=Int.pow_pos (by omega);refine ⟨Int.ediv_nonneg h0 (by omega),?_⟩;exact Int.lt_of_le_of_lt (Int.ediv_le_self _ h0) h1
def bitZ (x:Int) (k:Nat):Bool:=x / 2 ^ k % 2==1
theorem aAg {x:Int} (k:Nat) (m:Int) (hm:m=((2 ^ k:Nat):Int)) (hk:k<=63) (h0:0<=x) (h1:x<18446744073709551616):bits .or .u64 x m=if bitZ x k then x else x+m:=by
 obtain ⟨x,rfl⟩:=Int.eq_ofNat_of_zero_le h0;have h2:(2:Nat) ^ k<=2 ^ 63:=Nat.pow_le_pow_right (by omega) hk;subst hm;rw [aDv (by omega) (by omega)]
 have hb:bitZ (x:Int) k=x.testBit k:=by
  unfold bitZ;rw [Nat.testBit_eq_decide_div_mod_eq];have:(x:Int) / 2 ^ k % 2=((x / 2 ^ k % 2:Nat):Int):=by simp
  rw [this];by_cases h:x / 2 ^ k % 2=1
  ·simp [h]
  ·simp [h];omega
 rw [hb];cases h:x.testBit k with
 | true=>
  simp only [if_true];congr 1;apply Nat.eq_of_testBit_eq;intro i;rw [Nat.testBit_or,Nat.testBit_two_pow];by_cases e:k=i
  ·subst e;simp [h]
  ·simp [e]
 | false=>
  simp only [Bool.false_eq_true,if_false];rw [Nat.testBit_eq_decide_div_mod_eq] at h
  have h:x / 2 ^ k % 2=0:=by
   have:=of_decide_eq_false h;omega
  have hr:x % 2 ^ k<2 ^ k:=Nat.mod_lt _ (Nat.two_pow_pos k)
  have hx:2 ^ (k+1)*(x / 2 ^ k / 2)+x % 2 ^ k=x:=by
   have h7:=Nat.div_add_mod x (2 ^ k);have h8:=Nat.div_add_mod (x / 2 ^ k) 2;rw [Nat.pow_succ,Nat.mul_assoc];rw [h,Nat.add_zero] at h8;rw [h8];exact h7
  have h9:=Nat.two_pow_add_eq_or_of_lt (i:=k+1) (b:=x % 2 ^ k) (by rw [Nat.pow_succ];omega) (x / 2 ^ k / 2);have h10:=Nat.two_pow_add_eq_or_of_lt (i:=k) (b:=x % 2 ^ k) hr 1;have h11:=Nat.two_pow_add_eq_or_of_lt (i:=k+1) (b:=2 ^ k*1+x % 2 ^ k) (by rw [Nat.pow_succ];omega) (x / 2 ^ k / 2)
  have h12:x ||| 2 ^ k=x+2 ^ k:=by
   have e1:x ||| 2 ^ k=2 ^ (k+1)*(x / 2 ^ k / 2) ||| (2 ^ k*1+x % 2 ^ k):=by
    rw [h10,Nat.mul_one,Nat.or_comm (2 ^ k),<- Nat.or_assoc,<- h9,hx]
   rw [e1,<- h11];omega
  omega
end Go.Dn
