/- The heap as a part of what is there: the operations again, over such parts, with the boxes of a function kept beside them. -/
import Derived.Test.YtmfmhmipcdgikaaGreatDnG
namespace Go.Dn
def aMO (h:Hp) (o:Obj) (K:Nat->HP):Prop:=K h.size (h.push o)
abbrev AH:=Nat->Option Obj
abbrev AP:=AH->Prop
def bM (A:AH) (a:Addr):Option Value:=
 match A a.block with
 | some (.cells c _ _)=>if a.spot.isSome then none else c[a.off]?
 | _=>none
def vX (A:AH) (a:Addr):Bool:=
 match A a.block with
 | some (.cells _ _ (lo,hi))=>lo<=a.off&&a.off<hi
 | _=>false
def updA (A:AH) (b:Nat) (o:Obj):AH:=λc=>if c=b then some o else A c
def aAe (a:Addr) (v:Value):Obj->Obj
 | .cells c elem frozen=>.cells (if a.spot.isSome then c else c.setIfInBounds a.off v) elem frozen
 | o=>o
def aCJ (A:AH) (a:Addr) (v:Value):AH:=λb=>if b=a.block then (A b).map (aAe a v) else A b
def aT (A:AH) (o:Obj) (K:Nat->AP):Prop:=∀ b,A b=none->K b (updA A b o)
def aI (k:IntKind) (a:Addr) (A:AH) (K:Int->Prop):Prop:=∃ n,bM A a=some (.int k n)/\K n
def aB (a:Addr) (A:AH) (K:Bool->Prop):Prop:=∃ b,bM A a=some (.bool b)/\K b
def aP (a:Addr) (A:AH) (K:Option Addr->Prop):Prop:=∃ p,bM A a=some (.pointer p)/\K p
def aS (a:Addr) (A:AH) (K:Sl->Prop):Prop:=∃ s:Sl,bM A a=some (.slice s.a s.len s.cap)/\K s
def aM (a:Addr) (A:AH) (K:Option Nat->Prop):Prop:=∃ m,bM A a=some (.map m)/\K m
def aV (a:Addr) (A:AH) (K:Value->Prop):Prop:=∃ v,bM A a=some v/\K v
def aMf (n:Nat) (a:Addr) (A:AH) (K:Array Value->Prop):Prop:=∃ cs:Array Value,cs.size=n/\(∀ i,i<n->∃ v,cs[i]? = some v/\bM A (a.add i)=some v)/\K cs
def aC (a:Addr) (v:Value) (A:AH) (K:AP):Prop:=bsel v.oneCell' ((bM A a).isSome=true/\vX A a=false/\K (aCJ A a v)) False
def qU:List Value->Addr->Nat->AH->AP->Prop
 | [],_,_,A,K=>K A
 | v::vs,a,n,A,K=>aC (a.add n) v A λA'=>qU vs a (n+1) A' K
def xN (A:AH) (m:Option Nat):Option (List MapEntry):=match m with
 | none=>some []
 | some r=>match A r with
  | some (.map es _)=>some es.toList
  | _=>none
def qP (A:AH) (m:Option Nat) (k:IntKind) (key:Int) (K:Option Value->Prop):Prop:=
 ∃ es,xN A m=some es/\∃ r,Instr.findNow (.int k) (.int k key) es 0=some r/\K (r.map (·.2))
def tH (A:AH) (m:Option Nat) (k:IntKind) (key:Int) (v:Value) (K:AP):Prop:=
 ∃ r es c,m=some r/\A r=some (.map es c)/\∃ o,Instr.findNow (.int k) (.int k key) es.toList 0=some o/\K (updA A r (mPut es c (.int k key) v o))
def aCz (A:AH) (m:Option Nat) (k:IntKind) (key:Int) (z:Value) (K:Value->Int->AP):Prop:=
 ∃ r es c,m=some r/\A r=some (.map es c)/\∃ o,Instr.findNow (.int k) (.int k key) es.toList 0=some o/\match o with
  | some (i,v)=>∃ e,es[i]? = some e/\K v (e.born:Int) A
  | none=>K z (c:Int) (updA A r (.map (es.push { key:=.int k key,val:=z,born:=c }) (c+1)))
def aCZ (A:AH) (m:Option Nat) (born:Int) (v:Value) (K:AP):Prop:=
 ∃ r es c i,m=some r/\A r=some (.map es c)/\es.findIdx? (λe=>(e.born:Int)==born)=some i/\K (updA A r (.map (es.modify i λe=>{ e with val:=v }) c))
def o5 (A:AH) (m:Option Nat) (k:IntKind) (key:Int) (K:AP):Prop:=match m with
 | none=>K A
 | some r=>∃ es c,A r=some (.map es c)/\∃ o,Instr.findNow (.int k) (.int k key) es.toList 0=some o/\K (updA A r (mCut es c o))
def aHR (A:AH) (m:Option Nat) (K:Int->Prop):Prop:=∃ es,xN A m=some es/\K (es.length:Int)
def aNx (A:AH) (a:Addr) (K0:AP) (K1:Value->Value->AP):Prop:=
 ∃ m since seen last,a.off=0/\A a.block=some (.mapIter m since seen last)/\match m with
  | none=>K0 A
  | some m=>∃ es clock,A m=some (.map es clock)/\(!seen.isEmpty&&!es.isEmpty&&es.all (·.born>=last))=false/\
    (((es.filter λe=>!seen.contains e.born).filter (·.born<since)).isEmpty=true->K0 A)/\
    (∀ e ∈ es,seen.contains e.born=false->K1 e.key e.val (updA A a.block (.mapIter (some m) since (seen.push e.born) clock)))
def aEy (A:AH) (a:Addr) (K:Int->Value->Prop):Prop:=
 ∃ m since seen stepped stamp es clock e n,a.off=0/\A a.block=some (.mapIter (some m) since seen stepped)/\seen.back? = some stamp/\A m=some (.map es clock)/\clock=stepped/\
  es.find? (λe=>e.born==stamp)=some e/\e.key = .int .i64 n/\K n e.val
def lC (A:AH) (a:Option Addr) (n:Nat) (vs:List Value):Prop:=match a with
 | some a=>vs.length=n/\∀ i,i<n->∃ v,vs[i]? = some v/\bM A (a.add i)=some v
 | none=>vs=[]
def wX (a:Option Addr) (o:Nat) (vs:List Value) (A:AH) (K:AP):Prop:=match a with
 | some a=>qU vs (a.add o) 0 A K
 | none=>K A
def jZ (sz bytes:Nat) (zc:Array Value) (e:TypeId) (s x:Sl) (A:AH) (K:Sl->AP):Prop:=
 ∃ news,lC A x.a (x.len*sz) news/\
  (s.len+x.len<=s.cap->wX s.a (s.len*sz) news A (K ⟨s.a,s.len+x.len,s.cap⟩))/\
  (s.cap<s.len+x.len->∃ olds,lC A s.a (s.len*sz) olds/\s.len+x.len<=9223372036854775807/\
   Builtin.nextslicecap (s.len+x.len) s.cap*bytes<=281474976710656/\
   ∀ cap,s.len+x.len<=cap->aT A (.cells (olds.toArray++news.toArray++Builtin.zeroCells zc (cap-(s.len+x.len))) e) λb=>K ⟨some ⟨b,0,none⟩,s.len+x.len,cap⟩)
def apZ (sz bytes:Nat) (zc:Array Value) (e:TypeId) (s:Sl) (n:Int) (A:AH) (K:Sl->AP):Prop:=
 (0<=n/\n<=9223372036854775807/\n*(bytes:Int)<=281474976710656)/\
  (s.len+n.toNat<=s.cap->wX s.a (s.len*sz) (zNews sz zc n) A (K ⟨s.a,s.len+n.toNat,s.cap⟩))/\
  (s.cap<s.len+n.toNat->∃ olds,lC A s.a (s.len*sz) olds/\s.len+n.toNat<=9223372036854775807/\
   Builtin.nextslicecap (s.len+n.toNat) s.cap*bytes<=281474976710656/\
   ∀ cap,s.len+n.toNat<=cap->aT A (.cells (olds.toArray++(zNews sz zc n).toArray++Builtin.zeroCells zc (cap-(s.len+n.toNat))) e) λb=>K ⟨some ⟨b,0,none⟩,s.len+n.toNat,cap⟩)
def cpA (sz:Nat) (d s:Sl) (A:AH) (K:Int->AP):Prop:=
 ∃ vs,lC A s.a (Nat.min s.len d.len*sz) vs/\wX d.a 0 vs A (K (Nat.min s.len d.len:Nat))
def aIe (zc:Array Value) (s:Sl) (A:AH) (K:AP):Prop:=wX s.a 0 (Builtin.zeroCells zc s.len).toList A K
def rgA (A:AH) (m:Option Nat) (K:Addr->AP):Prop:=match m with
 | none=>aT A (.mapIter none 0 #[] 0) λb=>K ⟨b,0,none⟩
 | some r=>∃ es c,A r=some (.map es c)/\aT A (.mapIter (some r) c #[] c) λb=>K ⟨b,0,none⟩
abbrev Bx:=List (Nat × List Value × TypeId)
structure Sim (A:AH) (L:Bx) (h:Hp):Prop where
 sub:∀ b o,A b=some o->h[b]? = some o
 box:∀ e ∈ L,A e.1=none/\h[e.1]? = some (.cells e.2.1.toArray e.2.2)
 apart:L.Pairwise λx y=>x.1≠y.1
variable {A:AH} {L:Bx} {h:Hp}
theorem Sim.lt (s:Sim A L h) {b:Nat} {o:Obj} (e:A b=some o):b<h.size:=by
 have:=s.sub b o e;rcases Nat.lt_or_ge b h.size with g | g
 ·exact g
 ·simp [Array.getElem?_eq_none g] at this
theorem Sim.top (s:Sim A L h):A h.size=none:=by
 cases e:A h.size with
 | none=>rfl
 | some o=>exact absurd (s.lt e) (by omega)
theorem Sim.boxLt (s:Sim A L h) {e} (m:e ∈ L):e.1<h.size:=by
 have:=(s.box e m).2;rcases Nat.lt_or_ge e.1 h.size with g | g
 ·exact g
 ·simp [Array.getElem?_eq_none g] at this
theorem Sim.cell (s:Sim A L h) {a:Addr} {v:Value} (e:bM A a=some v):dS h a=some v:=by
 unfold bM at e;unfold dS;split at e
 ·rename_i c _ _ hc;rw [s.sub _ _ hc];exact e
 ·cases e
theorem Sim.isS (s:Sim A L h) {a:Addr} (e:(bM A a).isSome=true):(dS h a).isSome=true:=by
 obtain ⟨v,hv⟩:=Option.isSome_iff_exists.1 e;simp [s.cell hv]
theorem Sim.obj (s:Sim A L h) {a:Addr} (e:(bM A a).isSome=true):∃ o,A a.block=some o:=by
 unfold bM at e;split at e
 ·exact ⟨_,by assumption⟩
 ·cases e
theorem Sim.froz (s:Sim A L h) {a:Addr} (e:(bM A a).isSome=true):sM h a=vX A a:=by
 obtain ⟨o,ho⟩:=s.obj e;unfold sM vX;rw [ho,s.sub _ _ ho];cases o<;>rfl
theorem Sim.new (s:Sim A L h) (o:Obj):Sim (updA A h.size o) L (h.push o) where
 sub b o' e:=by
  unfold updA at e;split at e
  ·subst b;simp at e;simp [e]
  ·have:=s.lt e;rw [Array.getElem?_push_lt this,<- Array.getElem?_eq_getElem];exact s.sub b o' e
 box e m:=by
  have h1:=s.boxLt m;obtain ⟨h2,h3⟩:=s.box e m;refine ⟨?_,?_⟩
  ·unfold updA;rw [if_neg (by omega)];exact h2
  ·rw [Array.getElem?_push_lt h1,<- Array.getElem?_eq_getElem];exact h3
 apart:=s.apart
theorem Sim.boxNew (s:Sim A L h) (cs:List Value) (t:TypeId):Sim A ((h.size,cs,t)::L) (h.push (.cells cs.toArray t)) where
 sub b o e:=by
  have:=s.lt e;rw [Array.getElem?_push_lt this,<- Array.getElem?_eq_getElem];exact s.sub b o e
 box e m:=by
  rcases List.mem_cons.1 m with rfl | m
  ·exact ⟨s.top,by simp⟩
  ·have h1:=s.boxLt m;obtain ⟨h2,h3⟩:=s.box e m;exact ⟨h2,by rw [Array.getElem?_push_lt h1,<- Array.getElem?_eq_getElem];exact h3⟩
 apart:=List.pairwise_cons.2 ⟨λe m=>by have:=s.boxLt m;show h.size≠e.1;omega,s.apart⟩
theorem pA {h:Hp} {a:Addr} {v:Value} {b:Nat}:(aEt h a v)[b]? = if b=a.block then (h[b]?).map (aAe a v) else h[b]?:=by
 unfold aEt;rw [Array.getElem?_modify];by_cases e:a.block=b
 ·subst e;simp only [if_true];rfl
 ·rw [if_neg e,if_neg (λg=>e g.symm)]
theorem Sim.set (s:Sim A L h) {a:Addr} (v:Value) (e:(bM A a).isSome=true):Sim (aCJ A a v) L (aEt h a v) where
 sub b o g:=by
  unfold aCJ at g;rw [pA];split at g
  ·rename_i hb;rw [if_pos hb];obtain ⟨o',h1,h2⟩:=Option.map_eq_some_iff.1 g;rw [s.sub _ _ h1];simp [h2]
  ·rename_i hb;rw [if_neg hb];exact s.sub b o g
 box e' m:=by
  obtain ⟨h2,h3⟩:=s.box e' m;obtain ⟨o,ho⟩:=s.obj e;have hb:e'.1≠a.block:=λg=>by rw [g,ho] at h2;cases h2
  refine ⟨?_,?_⟩
  ·unfold aCJ;rw [if_neg hb];exact h2
  ·rw [pA,if_neg hb];exact h3
 apart:=s.apart
theorem Sim.put (s:Sim A L h) {r:Nat} {o:Obj} (e:A r=some o) (o':Obj):Sim (updA A r o') L (h.setIfInBounds r o') where
 sub b o2 g:=by
  unfold updA at g;rw [Array.getElem?_setIfInBounds];split at g
  ·rename_i hb;subst hb;simp at g;simp [s.lt e,g]
  ·rename_i hb;rw [if_neg (λq=>hb q.symm)];exact s.sub b o2 g
 box e' m:=by
  obtain ⟨h2,h3⟩:=s.box e' m;have hb:e'.1≠r:=λg=>by rw [g,e] at h2;cases h2
  refine ⟨?_,?_⟩
  ·unfold updA;rw [if_neg hb];exact h2
  ·rw [Array.getElem?_setIfInBounds,if_neg (λq=>hb q.symm)];exact h3
 apart:=s.apart
theorem Sim.boxAt (s:Sim A L h) {i:Nat} {b:Nat} {cs:List Value} {t:TypeId} (e:L[i]? = some (b,cs,t)):h[b]? = some (.cells cs.toArray t):=
 (s.box _ (List.mem_of_getElem? e)).2
theorem Sim.boxSet (s:Sim A L h) {i:Nat} {b o:Nat} {cs:List Value} {t:TypeId} (e:L[i]? = some (b,cs,t)) (v:Value) :
  Sim A (L.set i (b,cs.set o v,t)) (aEt h ⟨b,o,none⟩ v) where
 sub c o' g:=by
  rw [pA]
  have hb:c≠b:=λq=>by
   have:=(s.box _ (List.mem_of_getElem? e)).1;subst q;rw [this] at g;cases g
  rw [if_neg hb];exact s.sub c o' g
 box e' m:=by
  obtain ⟨j,hj⟩:=List.mem_iff_getElem?.1 m;rw [List.getElem?_set] at hj;split at hj
  ·split at hj
   ·simp at hj;subst hj;refine ⟨(s.box _ (List.mem_of_getElem? e)).1,?_⟩;rw [pA,if_pos rfl,s.boxAt e];simp [aAe]
   ·cases hj
  ·rename_i hij;have hm:=List.mem_of_getElem? hj;refine ⟨(s.box _ hm).1,?_⟩;rw [pA,if_neg ?_]
   ·exact (s.box _ hm).2
   ·intro q;obtain ⟨i1,e1⟩:=List.getElem?_eq_some_iff.1 e;obtain ⟨j1,e2⟩:=List.getElem?_eq_some_iff.1 hj;have hp:=List.pairwise_iff_getElem.1 s.apart;rcases Nat.lt_trichotomy i j with g | g | g
    ·have:=hp i j i1 j1 g;rw [e1,e2] at this;exact this q.symm
    ·exact hij g
    ·have:=hp j i j1 i1 g;rw [e1,e2] at this;exact this q
 apart:=by
  obtain ⟨i1,e1⟩:=List.getElem?_eq_some_iff.1 e
  have:(L.set i (b,cs.set o v,t)).map (·.1)=L.map (·.1):=by
   rw [List.map_set];apply List.ext_getElem?;intro j;rw [List.getElem?_set];split
   ·rename_i hij;subst hij;simp [i1,e1]
   ·rfl
  have h2:=(List.pairwise_map (f:=λx:Nat × List Value × TypeId=>x.1) (R:=λa b=>a≠b)).2 s.apart;rw [<-this] at h2;exact List.pairwise_map.1 h2
theorem Sim.keep {M:Bx} (s:Sim A L h) (m:M.Sublist L):Sim A M h:=⟨s.sub,λe q=>s.box e (m.subset q),s.apart.sublist m⟩
theorem Sim.unbox {b:Nat} {cs:List Value} {t:TypeId} (s:Sim A ((b,cs,t)::L) h):A b=none/\Sim (updA A b (.cells cs.toArray t)) L h:=by
 obtain ⟨h1,h2⟩:=s.box (b,cs,t) List.mem_cons_self;have h3:=List.pairwise_cons.1 s.apart;refine ⟨h1,λb' o e=>?_,λe m=>?_,h3.2⟩
 ·unfold updA at e;split at e
  ·rename_i g;cases e;subst g;exact h2
  ·exact s.sub _ _ e
 ·obtain ⟨g1,g2⟩:=s.box e (List.mem_cons_of_mem _ m);refine ⟨?_,g2⟩;unfold updA;rw [if_neg (λg=>h3.1 e m g.symm)];exact g1
section
variable {k:IntKind} {a:Addr} {K2:Int->Prop}
theorem f7 {b:Bool} {X Y X2 Y2:Prop} (hh:bsel b X2 Y2) (hx:X2->X) (hy:Y2->Y):bsel b X Y:=by
 cases b
 ·exact hy hh
 ·exact hx hh
theorem aCC {p:Option Addr} {K K2:Addr->Prop} (hh:aF p K2) (hx:∀ a,K2 a->K a):aF p K:=by
 cases p
 ·exact hh
 ·exact hx _ hh
theorem aIA {i:Int} {n:Nat} {X X2:Prop} (hh:bF i n X2) (hx:X2->X):bF i n X:=f7 hh hx id
theorem aIh {k:IntKind} {cs:List Value} {i:Nat} {K K2:Int->Prop} (hh:geI k cs i K2) (hx:∀ a,K2 a->K a):geI k cs i K:=by obtain ⟨n,h1,h2⟩:=hh;exact ⟨n,h1,hx _ h2⟩
theorem aIm {cs:List Value} {i:Nat} {K K2:Bool->Prop} (hh:geB cs i K2) (hx:∀ a,K2 a->K a):geB cs i K:=by obtain ⟨n,h1,h2⟩:=hh;exact ⟨n,h1,hx _ h2⟩
theorem aI4 {cs:List Value} {i:Nat} {K K2:Option Addr->Prop} (hh:geP cs i K2) (hx:∀ a,K2 a->K a):geP cs i K:=by obtain ⟨n,h1,h2⟩:=hh;exact ⟨n,h1,hx _ h2⟩
theorem aIX {cs:List Value} {i:Nat} {K K2:Option Nat->Prop} (hh:geM cs i K2) (hx:∀ a,K2 a->K a):geM cs i K:=by obtain ⟨n,h1,h2⟩:=hh;exact ⟨n,h1,hx _ h2⟩
theorem aI8 {y:Nat} {l c:Int} {X X2:Prop} (hh:mkS y l c X2) (hx:X2->X):mkS y l c X:=f7 hh hx id
theorem aKi {K K2:Int->Prop} (s:Sim A L h) (hh:aI k a A K2) (hx:∀ n,K2 n->K n):ldI k a h K:=by obtain ⟨n,h1,h2⟩:=hh;exact ⟨n,s.cell h1,hx _ h2⟩
theorem aK7 {K K2:Bool->Prop} (s:Sim A L h) (hh:aB a A K2) (hx:∀ n,K2 n->K n):ldB a h K:=by obtain ⟨n,h1,h2⟩:=hh;exact ⟨n,s.cell h1,hx _ h2⟩
theorem aKO {K K2:Option Addr->Prop} (s:Sim A L h) (hh:aP a A K2) (hx:∀ n,K2 n->K n):ldP a h K:=by obtain ⟨n,h1,h2⟩:=hh;exact ⟨n,s.cell h1,hx _ h2⟩
theorem aJS {K K2:Sl->Prop} (s:Sim A L h) (hh:aS a A K2) (hx:∀ n,K2 n->K n):ldS a h K:=by obtain ⟨n,h1,h2⟩:=hh;exact ⟨n,s.cell h1,hx _ h2⟩
theorem aK5 {K K2:Option Nat->Prop} (s:Sim A L h) (hh:aM a A K2) (hx:∀ n,K2 n->K n):ldM a h K:=by obtain ⟨n,h1,h2⟩:=hh;exact ⟨n,s.cell h1,hx _ h2⟩
theorem aK3 {K K2:Value->Prop} (s:Sim A L h) (hh:aV a A K2) (hx:∀ n,K2 n->K n):ldV a h K:=by obtain ⟨n,h1,h2⟩:=hh;exact ⟨n,s.cell h1,hx _ h2⟩
theorem aFA {n:Nat} {K K2:Array Value->Prop} (s:Sim A L h) (hh:aMf n a A K2) (hx:∀ n,K2 n->K n):aJk n a h K:=by
 obtain ⟨cs,h1,h2,h3⟩:=hh;exact ⟨cs,h1,λi hi=>by obtain ⟨v,q,r⟩:=h2 i hi;exact ⟨v,q,s.cell r⟩,hx _ h3⟩
theorem aKl {v:Value} {K:HP} {K2:AP} (s:Sim A L h) (hh:aC a v A K2) (hx:∀ A' h',Sim A' L h'->K2 A'->K h'):stC a v h K:=
 f7 hh (λ⟨h1,h2,h3⟩=>⟨s.isS h1,(s.froz h1).trans h2,hx _ _ (s.set v h1) h3⟩) id
theorem l8 {o:Obj} {K:Nat->HP} {K2:Nat->AP} (s:Sim A L h) (hh:aT A o K2) (hx:∀ b A' h',Sim A' L h'->K2 b A'->K b h'):aMO h o K:=
 hx _ _ _ (s.new o) (hh _ s.top)
theorem l9:∀ (vs:List Value) (a:Addr) (n:Nat) (A:AH) (h:Hp) (K:HP) (K2:AP),Sim A L h->qU vs a n A K2->(∀ A' h',Sim A' L h'->K2 A'->K h')->stL vs a n h K
 | [],_,_,A,h,K,K2,s,hh,hx=>hx A h s hh
 | v::vs,a,n,A,h,K,K2,s,hh,hx=>aKl s hh λA' h' s' hh'=>l9 vs a (n+1) A' h' K K2 s' hh' hx
theorem oV {p:Option Addr} {n:Nat} {vs:List Value} (s:Sim A L h) (hh:lC A p n vs):aC9 h p n vs:=by
 cases p with
 | none=>exact hh
 | some a=>exact ⟨hh.1,λi hi=>by obtain ⟨v,h1,h2⟩:=hh.2 i hi;exact ⟨v,h1,s.cell h2⟩⟩
theorem qD {p:Option Addr} {o:Nat} {vs:List Value} {K:HP} {K2:AP} (s:Sim A L h) (hh:wX p o vs A K2) (hx:∀ A' h',Sim A' L h'->K2 A'->K h'):stR p o vs h K:=by
 cases p with
 | none=>exact hx _ _ s hh
 | some a=>exact l9 _ _ _ _ _ _ _ s hh hx
theorem aHY {sz bytes:Nat} {zc:Array Value} {e:TypeId} {x y:Sl} {K:Sl->HP} {K2:Sl->AP} (s:Sim A L h) (hh:jZ sz bytes zc e x y A K2) (hx:∀ r A' h',Sim A' L h'->K2 r A'->K r h'):apH sz bytes zc e x y h K:=by
 obtain ⟨news,h1,h2,h3⟩:=hh;refine ⟨news,oV s h1,λg=>qD s (h2 g) (hx _),λg=>?_⟩;obtain ⟨olds,h4,h5,h6,h7⟩:=h3 g;exact ⟨olds,oV s h4,h5,h6,λcap hc=>l8 s (h7 cap hc) λb=>hx _⟩
theorem aIK {sz bytes:Nat} {zc:Array Value} {e:TypeId} {x:Sl} {n:Int} {K:Sl->HP} {K2:Sl->AP} (s:Sim A L h) (hh:apZ sz bytes zc e x n A K2) (hx:∀ r A' h',Sim A' L h'->K2 r A'->K r h'):aMi sz bytes zc e x n h K:=by
 obtain ⟨h1,h2,h3⟩:=hh;refine ⟨h1,λg=>qD s (h2 g) (hx _),λg=>?_⟩;obtain ⟨olds,h4,h5,h6,h7⟩:=h3 g;exact ⟨olds,oV s h4,h5,h6,λcap hc=>l8 s (h7 cap hc) λb=>hx _⟩
theorem aIl {sz:Nat} {x y:Sl} {K:Int->HP} {K2:Int->AP} (s:Sim A L h) (hh:cpA sz x y A K2) (hx:∀ r A' h',Sim A' L h'->K2 r A'->K r h'):cpH sz x y h K:=by
 obtain ⟨vs,h1,h2⟩:=hh;exact ⟨vs,oV s h1,qD s h2 (hx _)⟩
theorem Sim.map (s:Sim A L h) {m:Option Nat} {es:List MapEntry} (e:xN A m=some es):tA h m=some es:=by
 cases m with
 | none=>exact e
 | some r=>
  simp only [xN] at e;simp only [tA];split at e
  ·rename_i hr;rw [s.sub _ _ hr];exact e
  ·cases e
theorem aI5 {m:Option Nat} {key:Int} {K K2:Option Value->Prop} (s:Sim A L h) (hh:qP A m k key K2) (hx:∀ o,K2 o->K o):mLk h m k key K:=by
 obtain ⟨es,h1,r,h2,h3⟩:=hh;exact ⟨es,s.map h1,r,h2,hx _ h3⟩
theorem aGu {m:Option Nat} {key:Int} {v:Value} {K:HP} {K2:AP} (s:Sim A L h) (hh:tH A m k key v K2) (hx:∀ A' h',Sim A' L h'->K2 A'->K h'):mSt h m k key v K:=by
 obtain ⟨r,es,c,h1,h2,o,h3,h4⟩:=hh;exact ⟨r,es,c,h1,s.sub _ _ h2,o,h3,hx _ _ (s.put h2 _) h4⟩
theorem aFH {m:Option Nat} {key:Int} {z:Value} {K:Value->Int->HP} {K2:Value->Int->AP} (s:Sim A L h) (hh:aCz A m k key z K2) (hx:∀ v b A' h',Sim A' L h'->K2 v b A'->K v b h'):mEn h m k key z K:=by
 obtain ⟨r,es,c,h1,h2,o,h3,h4⟩:=hh;refine ⟨r,es,c,h1,s.sub _ _ h2,o,h3,?_⟩;cases o with
 | none=>exact hx _ _ _ _ (s.put h2 _) h4
 | some iv=>
  obtain ⟨e,h5,h6⟩:=h4;exact ⟨e,h5,hx _ _ _ _ s h6⟩
theorem aF7 {m:Option Nat} {b:Int} {v:Value} {K:HP} {K2:AP} (s:Sim A L h) (hh:aCZ A m b v K2) (hx:∀ A' h',Sim A' L h'->K2 A'->K h'):mES h m b v K:=by
 obtain ⟨r,es,c,i,h1,h2,h3,h4⟩:=hh;exact ⟨r,es,c,i,h1,s.sub _ _ h2,h3,hx _ _ (s.put h2 _) h4⟩
theorem aGa {m:Option Nat} {key:Int} {K:HP} {K2:AP} (s:Sim A L h) (hh:o5 A m k key K2) (hx:∀ A' h',Sim A' L h'->K2 A'->K h'):mDl h m k key K:=by
 cases m with
 | none=>exact hx _ _ s hh
 | some r=>
  obtain ⟨es,c,h2,o,h3,h4⟩:=hh;exact ⟨es,c,s.sub _ _ h2,o,h3,hx _ _ (s.put h2 _) h4⟩
theorem aFv {m:Option Nat} {K K2:Int->Prop} (s:Sim A L h) (hh:aHR A m K2) (hx:∀ n,K2 n->K n):mLn h m K:=by
 obtain ⟨es,h1,h2⟩:=hh;exact ⟨es,s.map h1,hx _ h2⟩
theorem aHK {m:Option Nat} {K:Addr->HP} {K2:Addr->AP} (s:Sim A L h) (hh:rgA A m K2) (hx:∀ r A' h',Sim A' L h'->K2 r A'->K r h'):rgH h m K:=by
 cases m with
 | none=>exact l8 (K:=λb=>K ⟨b,0,none⟩) s hh λb=>hx _
 | some r=>
  obtain ⟨es,c,h1,h2⟩:=hh;exact ⟨es,c,s.sub _ _ h1,l8 (K:=λb=>K ⟨b,0,none⟩) s h2 λb=>hx _⟩
theorem aIc {K K2:Int->Value->Prop} (s:Sim A L h) (hh:aEy A a K2) (hx:∀ n v,K2 n v->K n v):mEy h a K:=by
 obtain ⟨m,since,seen,stepped,stamp,es,clock,e,n,ha,hb,hs,hm,hc,hf,hk,hh⟩:=hh;exact ⟨m,since,seen,stepped,stamp,es,clock,e,n,ha,s.sub _ _ hb,hs,s.sub _ _ hm,hc,hf,hk,hx _ _ hh⟩
theorem aID {K0:HP} {K1:Value->Value->HP} {J0:AP} {J1:Value->Value->AP} (s:Sim A L h) (hh:aNx A a J0 J1) (h0:∀ A' h',Sim A' L h'->J0 A'->K0 h') (h1:∀ x y A' h',Sim A' L h'->J1 x y A'->K1 x y h'):mNx h a K0 K1:=by
 obtain ⟨m,since,seen,last,q1,q2,q3⟩:=hh;refine ⟨m,since,seen,last,q1,s.sub _ _ q2,?_⟩;cases m with
 | none=>exact h0 _ _ s q3
 | some m=>
  obtain ⟨es,clock,r1,r2,r3,r4⟩:=q3;exact ⟨es,clock,s.sub _ _ r1,r2,λg=>h0 _ _ s (r3 g),λe he g=>h1 _ _ _ _ (s.put q2 _) (r4 e he g)⟩
theorem aI2 {i b o:Nat} {cs:List Value} {t:TypeId} {v:Value} {K:HP} (s:Sim A L h) (e:L[i]? = some (b,cs,t)) (ho:(cs[o]?).isSome=true) (hv:v.oneCell'=true) (hx:∀ h',Sim A (L.set i (b,cs.set o v,t)) h'->K h'):stC ⟨b,o,none⟩ v h K:=by
 have hb:=s.boxAt e;unfold stC;rw [hv];refine ⟨?_,?_,hx _ (s.boxSet e v)⟩
 ·simpa [dS,hb] using ho
 ·simp [sM,hb]
theorem jO {i b o:Nat} {cs:List Value} {t:TypeId} {v:Value} (s:Sim A L h) (e:L[i]? = some (b,cs,t)) (ho:cs[o]? = some v):dS h ⟨b,o,none⟩=some v:=by
 simp [dS,s.boxAt e,ho]
theorem aL6 {i b o:Nat} {cs:List Value} {t:TypeId} {n:Int} {K:Int->Prop} (s:Sim A L h) (e:L[i]? = some (b,cs,t)) (ho:cs[o]? = some (.int k n)) (hx:K n):ldI k ⟨b,o,none⟩ h K:=⟨n,jO s e ho,hx⟩
theorem aLF {i b o:Nat} {cs:List Value} {t:TypeId} {n:Bool} {K:Bool->Prop} (s:Sim A L h) (e:L[i]? = some (b,cs,t)) (ho:cs[o]? = some (.bool n)) (hx:K n):ldB ⟨b,o,none⟩ h K:=⟨n,jO s e ho,hx⟩
theorem aLN {i b o:Nat} {cs:List Value} {t:TypeId} {n:Option Addr} {K:Option Addr->Prop} (s:Sim A L h) (e:L[i]? = some (b,cs,t)) (ho:cs[o]? = some (.pointer n)) (hx:K n):ldP ⟨b,o,none⟩ h K:=⟨n,jO s e ho,hx⟩
theorem aL8 {i b o:Nat} {cs:List Value} {t:TypeId} {x:Option Addr} {l c:Nat} {K:Sl->Prop} (s:Sim A L h) (e:L[i]? = some (b,cs,t)) (ho:cs[o]? = some (.slice x l c)) (hx:K ⟨x,l,c⟩):ldS ⟨b,o,none⟩ h K:=⟨⟨x,l,c⟩,jO s e ho,hx⟩
theorem aLJ {i b o:Nat} {cs:List Value} {t:TypeId} {n:Option Nat} {K:Option Nat->Prop} (s:Sim A L h) (e:L[i]? = some (b,cs,t)) (ho:cs[o]? = some (.map n)) (hx:K n):ldM ⟨b,o,none⟩ h K:=⟨n,jO s e ho,hx⟩
theorem aLD {i b o:Nat} {cs:List Value} {t:TypeId} {n:Value} {K:Value->Prop} (s:Sim A L h) (e:L[i]? = some (b,cs,t)) (ho:cs[o]? = some n) (hx:K n):ldV ⟨b,o,none⟩ h K:=⟨n,jO s e ho,hx⟩
end
end Go.Dn
