/- The heap as a part of what is there: the operations again, over such parts, with the boxes of a function kept beside them. -/
import Derived.Test.YtfnkdpmbpgffbaaGreatDnG
namespace Go.Dn
def aNv (h:Hp) (o:Obj) (K:Nat->HP):Prop:=K h.size (h.push o)
abbrev AH:=Nat->Option Obj
abbrev AP:=AH->Prop
def bM (A:AH) (a:Addr):Option Value:=
 match A a.block with
 | some (.cells c _ _)=>if a.spot.isSome then none else c[a.off]?
 | _=>none
def uX (A:AH) (a:Addr):Bool:=
 match A a.block with
 | some (.cells _ _ (lo,hi))=>lo<=a.off&&a.off<hi
 | _=>false
def updA (A:AH) (b:Nat) (o:Obj):AH:=λc=>if c=b then some o else A c
def aBd (a:Addr) (v:Value):Obj->Obj
 | .cells c elem frozen=>.cells (if a.spot.isSome then c else c.setIfInBounds a.off v) elem frozen
 | o=>o
def aDN (A:AH) (a:Addr) (v:Value):AH:=λb=>if b=a.block then (A b).map (aBd a v) else A b
def aN (A:AH) (o:Obj) (K:Nat->AP):Prop:=∀ b,A b=none->K b (updA A b o)
def aI (k:IntKind) (a:Addr) (A:AH) (K:Int->Prop):Prop:=∃ n,bM A a=some (.int k n)/\K n
def aB (a:Addr) (A:AH) (K:Bool->Prop):Prop:=∃ b,bM A a=some (.bool b)/\K b
def aP (a:Addr) (A:AH) (K:Option Addr->Prop):Prop:=∃ p,bM A a=some (.pointer p)/\K p
def aS (a:Addr) (A:AH) (K:Sl->Prop):Prop:=∃ s:Sl,bM A a=some (.slice s.a s.len s.cap)/\K s
def aM (a:Addr) (A:AH) (K:Option Nat->Prop):Prop:=∃ m,bM A a=some (.map m)/\K m
def aV (a:Addr) (A:AH) (K:Value->Prop):Prop:=∃ v,bM A a=some v/\K v
def aJP (n:Nat) (a:Addr) (A:AH) (K:Array Value->Prop):Prop:=∃ cs:Array Value,cs.size=n/\(∀ i,i<n->∃ v,cs[i]? = some v/\bM A (a.add i)=some v)/\K cs
def aC (a:Addr) (v:Value) (A:AH) (K:AP):Prop:=bsel v.oneCell' ((bM A a).isSome=true/\uX A a=false/\K (aDN A a v)) False
def vB:List Value->Addr->Nat->AH->AP->Prop
 | [],_,_,A,K=>K A
 | v::vs,a,n,A,K=>aC (a.add n) v A λA'=>vB vs a (n+1) A' K
def wR (A:AH) (m:Option Nat):Option (List MapEntry):=match m with
 | none=>some []
 | some r=>match A r with
  | some (.map es _)=>some es.toList
  | _=>none
def lG (A:AH) (m:Option Nat) (k:IntKind) (key:Int) (K:Option Value->Prop):Prop:=
 ∃ es,wR A m=some es/\∃ r,Instr.findNow (.int k) (.int k key) es 0=some r/\K (r.map (·.2))
def mK (A:AH) (m:Option Nat) (k:IntKind) (key:Int) (v:Value) (K:AP):Prop:=
 ∃ r es c,m=some r/\A r=some (.map es c)/\∃ o,Instr.findNow (.int k) (.int k key) es.toList 0=some o/\K (updA A r (mPut es c (.int k key) v o))
def aMT (A:AH) (m:Option Nat) (k:IntKind) (key:Int) (z:Value) (K:Value->Int->AP):Prop:=
 ∃ r es c,m=some r/\A r=some (.map es c)/\∃ o,Instr.findNow (.int k) (.int k key) es.toList 0=some o/\match o with
  | some (i,v)=>∃ e,es[i]? = some e/\K v (e.born:Int) A
  | none=>K z (c:Int) (updA A r (.map (es.push { key:=.int k key,val:=z,born:=c }) (c+1)))
def aMK (A:AH) (m:Option Nat) (born:Int) (v:Value) (K:AP):Prop:=
 ∃ r es c i,m=some r/\A r=some (.map es c)/\es.findIdx? (λe=>(e.born:Int)==born)=some i/\K (updA A r (.map (es.modify i λe=>{ e with val:=v }) c))
def qW (A:AH) (m:Option Nat) (k:IntKind) (key:Int) (K:AP):Prop:=match m with
 | none=>K A
 | some r=>∃ es c,A r=some (.map es c)/\∃ o,Instr.findNow (.int k) (.int k key) es.toList 0=some o/\K (updA A r (mCut es c o))
def aIz (A:AH) (m:Option Nat) (K:Int->Prop):Prop:=∃ es,wR A m=some es/\K (es.length:Int)
def aNx (A:AH) (a:Addr) (K0:AP) (K1:Value->Value->AP):Prop:=
 ∃ m since seen last,a.off=0/\A a.block=some (.mapIter m since seen last)/\match m with
  | none=>K0 A
  | some m=>∃ es clock,A m=some (.map es clock)/\(!seen.isEmpty&&!es.isEmpty&&es.all (·.born>=last))=false/\
    (((es.filter λe=>!seen.contains e.born).filter (·.born<since)).isEmpty=true->K0 A)/\
    (∀ e ∈ es,seen.contains e.born=false->K1 e.key e.val (updA A a.block (.mapIter (some m) since (seen.push e.born) clock)))
def aEy (A:AH) (a:Addr) (K:Int->Value->Prop):Prop:=
 ∃ m since seen stepped stamp es clock e n,a.off=0/\A a.block=some (.mapIter (some m) since seen stepped)/\seen.back? = some stamp/\A m=some (.map es clock)/\clock=stepped/\
  es.find? (λe=>e.born==stamp)=some e/\e.key = .int .i64 n/\K n e.val
def oU (A:AH) (a:Option Addr) (n:Nat) (vs:List Value):Prop:=match a with
 | some a=>vs.length=n/\∀ i,i<n->∃ v,vs[i]? = some v/\bM A (a.add i)=some v
 | none=>vs=[]
def zB (a:Option Addr) (o:Nat) (vs:List Value) (A:AH) (K:AP):Prop:=match a with
 | some a=>vB vs (a.add o) 0 A K
 | none=>K A
def dM (sz bytes:Nat) (zc:Array Value) (e:TypeId) (s x:Sl) (A:AH) (K:Sl->AP):Prop:=
 ∃ news,oU A x.a (x.len*sz) news/\
  (s.len+x.len<=s.cap->zB s.a (s.len*sz) news A (K ⟨s.a,s.len+x.len,s.cap⟩))/\
  (s.cap<s.len+x.len->∃ olds,oU A s.a (s.len*sz) olds/\s.len+x.len<=9223372036854775807/\
   Builtin.nextslicecap (s.len+x.len) s.cap*bytes<=281474976710656/\
   ∀ cap,s.len+x.len<=cap->aN A (.cells (olds.toArray++news.toArray++Builtin.zeroCells zc (cap-(s.len+x.len))) e) λb=>K ⟨some ⟨b,0,none⟩,s.len+x.len,cap⟩)
def apZ (sz bytes:Nat) (zc:Array Value) (e:TypeId) (s:Sl) (n:Int) (A:AH) (K:Sl->AP):Prop:=
 (0<=n/\n<=9223372036854775807/\n*(bytes:Int)<=281474976710656)/\
  (s.len+n.toNat<=s.cap->zB s.a (s.len*sz) (zNews sz zc n) A (K ⟨s.a,s.len+n.toNat,s.cap⟩))/\
  (s.cap<s.len+n.toNat->∃ olds,oU A s.a (s.len*sz) olds/\s.len+n.toNat<=9223372036854775807/\
   Builtin.nextslicecap (s.len+n.toNat) s.cap*bytes<=281474976710656/\
   ∀ cap,s.len+n.toNat<=cap->aN A (.cells (olds.toArray++(zNews sz zc n).toArray++Builtin.zeroCells zc (cap-(s.len+n.toNat))) e) λb=>K ⟨some ⟨b,0,none⟩,s.len+n.toNat,cap⟩)
def cpA (sz:Nat) (d s:Sl) (A:AH) (K:Int->AP):Prop:=
 ∃ vs,oU A s.a (Nat.min s.len d.len*sz) vs/\zB d.a 0 vs A (K (Nat.min s.len d.len:Nat))
def aG0 (zc:Array Value) (s:Sl) (A:AH) (K:AP):Prop:=zB s.a 0 (Builtin.zeroCells zc s.len).toList A K
def rgA (A:AH) (m:Option Nat) (K:Addr->AP):Prop:=match m with
 | none=>aN A (.mapIter none 0 #[] 0) λb=>K ⟨b,0,none⟩
 | some r=>∃ es c,A r=some (.map es c)/\aN A (.mapIter (some r) c #[] c) λb=>K ⟨b,0,none⟩
abbrev Bx:=List (Nat × List Value × TypeId)
structure Sim (A:AH) (L:Bx) (h:Hp):Prop where
 sub:∀ b o,A b=some o->h[b]? = some o
 box:∀ e ∈ L,A e.1=none/\h[e.1]? = some (.cells e.2.1.toArray e.2.2)
 apart:L.Pairwise λx y=>x.1≠y.1
variable {A:AH} {L:Bx} {h:Hp}
theorem Sim.lt (s:Sim A L h) {b:Nat} {o:Obj} (e:A b=some o):b<h.size:=by
 have:=s.sub b o e;rcases Nat.lt_or_ge b h.size with g | g
 .exact g
 .simp_all
theorem Sim.top (s:Sim A L h):A h.size=none:=by
 cases e:A h.size with
 | none=>rfl
 | some o=>exact absurd (s.lt e) (by omega)
theorem Sim.boxLt (s:Sim A L h) {e} (m:e ∈ L):e.1<h.size:=by
 have:=(s.box e m).2;rcases Nat.lt_or_ge e.1 h.size with g | g
 .exact g
 .simp_all
theorem Sim.cell (s:Sim A L h) {a:Addr} {v:Value} (e:bM A a=some v):dI h a=some v:=by
 unfold bM at e;unfold dI;split at e
 .rename_i c _ _ b;rw [s.sub _ _ b];exact e
 .cases e
theorem Sim.isS (s:Sim A L h) {a:Addr} (e:(bM A a).isSome=true):(dI h a).isSome=true:=by
 obtain ⟨v,b⟩:=Option.isSome_iff_exists.1 e;simp [s.cell b]
theorem Sim.obj (s:Sim A L h) {a:Addr} (e:(bM A a).isSome=true):∃ o,A a.block=some o:=by
 unfold bM at e;split at e
 .simp_all
 .cases e
theorem Sim.froz (s:Sim A L h) {a:Addr} (e:(bM A a).isSome=true):uN h a=uX A a:=by
 obtain ⟨o,b⟩:=s.obj e;unfold uN uX;rw [b,s.sub _ _ b];cases o<;>rfl
theorem Sim.new (s:Sim A L h) (o:Obj):Sim (updA A h.size o) L (h.push o) where
 sub b o' e:=by
  unfold updA at e;split at e
  .simp_all
  .have:=s.lt e;rw [Array.getElem?_push_lt this,<- Array.getElem?_eq_getElem];exact s.sub b o' e
 box e m:=by
  have d:=s.boxLt m;obtain ⟨c,f⟩:=s.box e m;refine ⟨?_,?_⟩
  .unfold updA;rw [if_neg (by omega)];exact c
  .grind
 apart:=s.apart
theorem Sim.boxNew (s:Sim A L h) (cs:List Value) (t:TypeId):Sim A ((h.size,cs,t)::L) (h.push (.cells cs.toArray t)) where
 sub b o e:=by
  have:=s.lt e;rw [Array.getElem?_push_lt this,<- Array.getElem?_eq_getElem];exact s.sub b o e
 box e m:=by
  rcases List.mem_cons.1 m with rfl | m
  .exact ⟨s.top,by simp⟩
  .have c:=s.boxLt m;obtain ⟨d,f⟩:=s.box e m;exact ⟨d,by rw [Array.getElem?_push_lt c,<- Array.getElem?_eq_getElem];exact f⟩
 apart:=List.pairwise_cons.2 ⟨λe m=>by have:=s.boxLt m;show h.size≠e.1;omega,s.apart⟩
theorem rX {h:Hp} {a:Addr} {v:Value} {b:Nat}:(aFI h a v)[b]? = if b=a.block then (h[b]?).map (aBd a v) else h[b]?:=by
 unfold aFI;rw [Array.getElem?_modify];by_cases e:a.block=b
 .subst e;simp only [if_true];rfl
 .grind
theorem Sim.set (s:Sim A L h) {a:Addr} (v:Value) (e:(bM A a).isSome=true):Sim (aDN A a v) L (aFI h a v) where
 sub b o g:=by
  unfold aDN at g;rw [rX];split at g
  .rename_i c;rw [if_pos c];obtain ⟨l,f,d⟩:=Option.map_eq_some_iff.1 g;rw [s.sub _ _ f];simp [d]
  .rename_i c;rw [if_neg c];exact s.sub b o g
 box e' m:=by
  obtain ⟨d,i⟩:=s.box e' m;obtain ⟨o,j⟩:=s.obj e;have c:e'.1≠a.block:=λg=>by rw [g,j] at d;cases d
  refine ⟨?_,?_⟩
  .unfold aDN;rw [if_neg c];exact d
  .rw [rX,if_neg c];exact i
 apart:=s.apart
theorem Sim.put (s:Sim A L h) {r:Nat} {o:Obj} (e:A r=some o) (f:Obj):Sim (updA A r f) L (h.setIfInBounds r f) where
 sub b o2 g:=by
  unfold updA at g;rw [Array.getElem?_setIfInBounds];split at g
  .rename_i c;subst c;simp at g;simp [s.lt e,g]
  .rename_i c;rw [if_neg (λq=>c q.symm)];exact s.sub b o2 g
 box e' m:=by
  obtain ⟨d,i⟩:=s.box e' m;have c:e'.1≠r:=λg=>by rw [g,e] at d;cases d
  refine ⟨?_,?_⟩
  .unfold updA;rw [if_neg c];exact d
  .grind
 apart:=s.apart
theorem Sim.boxAt (s:Sim A L h) {i:Nat} {b:Nat} {cs:List Value} {t:TypeId} (e:L[i]? = some (b,cs,t)):h[b]? = some (.cells cs.toArray t):=
 (s.box _ (List.mem_of_getElem? e)).2
theorem Sim.boxSet (s:Sim A L h) {i:Nat} {b o:Nat} {cs:List Value} {t:TypeId} (e:L[i]? = some (b,cs,t)) (v:Value) :
  Sim A (L.set i (b,cs.set o v,t)) (aFI h ⟨b,o,none⟩ v) where
 sub c o' g:=by
  rw [rX]
  have hb:c≠b:=λq=>by
   have:=(s.box _ (List.mem_of_getElem? e)).1;subst q;rw [this] at g;cases g
  rw [if_neg hb];exact s.sub c o' g
 box e' m:=by
  obtain ⟨j,hj⟩:=List.mem_iff_getElem?.1 m;rw [List.getElem?_set] at hj;split at hj
  ·split at hj
   ·simp at hj;subst hj;refine ⟨(s.box _ (List.mem_of_getElem? e)).1,?_⟩;rw [rX,if_pos rfl,s.boxAt e];simp [aBd]
   ·cases hj
  ·rename_i hij;have hm:=List.mem_of_getElem? hj;refine ⟨(s.box _ hm).1,?_⟩;rw [rX,if_neg ?_]
   ·exact (s.box _ hm).2
   ·intro q;obtain ⟨i1,e1⟩:=List.getElem?_eq_some_iff.1 e;obtain ⟨j1,e2⟩:=List.getElem?_eq_some_iff.1 hj;have hp:=List.pairwise_iff_getElem.1 s.apart;rcases Nat.lt_trichotomy i j with g | g | g
    ·grind
    ·exact hij g
    ·grind
 apart:=by
  obtain ⟨i1,e1⟩:=List.getElem?_eq_some_iff.1 e
  have:(L.set i (b,cs.set o v,t)).map (·.1)=L.map (·.1):=by
   rw [List.map_set];apply List.ext_getElem?;intro j;rw [List.getElem?_set];split
   ·grind
   ·rfl
  have h2:=(List.pairwise_map (f:=λx:Nat × List Value × TypeId=>x.1) (R:=λa b=>a≠b)).2 s.apart;rw [<-this] at h2;exact List.pairwise_map.1 h2
theorem Sim.keep {M:Bx} (s:Sim A L h) (m:M.Sublist L):Sim A M h:=⟨s.sub,λe q=>s.box e (m.subset q),s.apart.sublist m⟩
theorem Sim.unbox {b:Nat} {cs:List Value} {t:TypeId} (s:Sim A ((b,cs,t)::L) h):A b=none/\Sim (updA A b (.cells cs.toArray t)) L h:=by
 obtain ⟨d,j⟩:=s.box (b,cs,t) List.mem_cons_self;have c:=List.pairwise_cons.1 s.apart;refine ⟨d,λl o e=>?_,λe m=>?_,c.2⟩
 .unfold updA at e;split at e
  .simp_all
  .exact s.sub _ _ e
 .obtain ⟨f,i⟩:=s.box e (List.mem_cons_of_mem _ m);refine ⟨?_,i⟩;unfold updA;rw [if_neg (λg=>c.1 e m g.symm)];exact f
section
variable {k:IntKind} {a:Addr} {K2:Int->Prop}
theorem gM {b:Bool} {X Y c d:Prop} (e:bsel b c d) (f:c->X) (g:d->Y):bsel b X Y:=by
 cases b
 .exact g e
 .exact f e
theorem aEh {p:Option Addr} {K K2:Addr->Prop} (b:aF p K2) (c:∀ a,K2 a->K a):aF p K:=by
 cases p
 .exact b
 .exact c _ b
theorem aJA {i:Int} {n:Nat} {X b:Prop} (c:bB i n b) (d:b->X):bB i n X:=gM c d id
theorem aJy {k:IntKind} {cs:List Value} {i:Nat} {K K2:Int->Prop} (b:geI k cs i K2) (c:∀ a,K2 a->K a):geI k cs i K:=by obtain ⟨n,d,e⟩:=b;exact ⟨n,d,c _ e⟩
theorem aJw {cs:List Value} {i:Nat} {K K2:Bool->Prop} (b:tN cs i K2) (c:∀ a,K2 a->K a):tN cs i K:=by obtain ⟨n,d,e⟩:=b;exact ⟨n,d,c _ e⟩
theorem aJs {cs:List Value} {i:Nat} {K K2:Option Addr->Prop} (b:geP cs i K2) (c:∀ a,K2 a->K a):geP cs i K:=by obtain ⟨n,d,e⟩:=b;exact ⟨n,d,c _ e⟩
theorem aJk {cs:List Value} {i:Nat} {K K2:Option Nat->Prop} (b:geM cs i K2) (c:∀ a,K2 a->K a):geM cs i K:=by obtain ⟨n,d,e⟩:=b;exact ⟨n,d,c _ e⟩
theorem aJ7 {y:Nat} {l c:Int} {X b:Prop} (d:mkS y l c b) (e:b->X):mkS y l c X:=gM d e id
theorem aL7 {K K2:Int->Prop} (s:Sim A L h) (b:aI k a A K2) (c:∀ n,K2 n->K n):ldI k a h K:=by obtain ⟨n,d,e⟩:=b;exact ⟨n,s.cell d,c _ e⟩
theorem aLp {K K2:Bool->Prop} (s:Sim A L h) (b:aB a A K2) (c:∀ n,K2 n->K n):ldB a h K:=by obtain ⟨n,d,e⟩:=b;exact ⟨n,s.cell d,c _ e⟩
theorem aMe {K K2:Option Addr->Prop} (s:Sim A L h) (b:aP a A K2) (c:∀ n,K2 n->K n):ldP a h K:=by obtain ⟨n,d,e⟩:=b;exact ⟨n,s.cell d,c _ e⟩
theorem aMk {K K2:Sl->Prop} (s:Sim A L h) (b:aS a A K2) (c:∀ n,K2 n->K n):ldS a h K:=by obtain ⟨n,d,e⟩:=b;exact ⟨n,s.cell d,c _ e⟩
theorem aLB {K K2:Option Nat->Prop} (s:Sim A L h) (b:aM a A K2) (c:∀ n,K2 n->K n):ldM a h K:=by obtain ⟨n,d,e⟩:=b;exact ⟨n,s.cell d,c _ e⟩
theorem aLe {K K2:Value->Prop} (s:Sim A L h) (b:aV a A K2) (c:∀ n,K2 n->K n):ldV a h K:=by obtain ⟨n,d,e⟩:=b;exact ⟨n,s.cell d,c _ e⟩
theorem aHk {n:Nat} {K K2:Array Value->Prop} (s:Sim A L h) (b:aJP n a A K2) (c:∀ n,K2 n->K n):aKH n a h K:=by
 obtain ⟨cs,d,e,f⟩:=b;exact ⟨cs,d,λi hi=>by obtain ⟨v,q,r⟩:=e i hi;exact ⟨v,q,s.cell r⟩,c _ f⟩
theorem aLF {v:Value} {K:HP} {K2:AP} (s:Sim A L h) (d:aC a v A K2) (e:∀ c h',Sim c L h'->K2 c->K h'):stC a v h K:=
 gM d (λ⟨b,f,g⟩=>⟨s.isS b,(s.froz b).trans f,e _ _ (s.set v b) g⟩) id
theorem nO {o:Obj} {K:Nat->HP} {K2:Nat->AP} (s:Sim A L h) (d:aN A o K2) (e:∀ b c h',Sim c L h'->K2 b c->K b h'):aNv h o K:=
 e _ _ _ (s.new o) (d _ s.top)
theorem nF:∀ (vs:List Value) (a:Addr) (n:Nat) (A:AH) (h:Hp) (K:HP) (K2:AP),Sim A L h->vB vs a n A K2->(∀ b h',Sim b L h'->K2 b->K h')->stL vs a n h K
 | [],_,_,A,h,K,K2,s,hh,hx=>hx A h s hh
 | v::vs,a,n,A,h,K,K2,s,hh,hx=>aLF s hh λb h' s' c=>nF vs a (n+1) b h' K K2 s' c hx
theorem rR {p:Option Addr} {n:Nat} {vs:List Value} (s:Sim A L h) (b:oU A p n vs):aEd h p n vs:=by
 cases p with
 | none=>exact b
 | some a=>exact ⟨b.1,λi hi=>by obtain ⟨v,c,d⟩:=b.2 i hi;exact ⟨v,c,s.cell d⟩⟩
theorem qN {p:Option Addr} {o:Nat} {vs:List Value} {K:HP} {K2:AP} (s:Sim A L h) (b:zB p o vs A K2) (c:∀ d h',Sim d L h'->K2 d->K h'):stR p o vs h K:=by
 cases p with
 | none=>exact c _ _ s b
 | some a=>exact nF _ _ _ _ _ _ _ s b c
theorem aIG {sz bytes:Nat} {zc:Array Value} {e:TypeId} {x y:Sl} {K:Sl->HP} {K2:Sl->AP} (s:Sim A L h) (j:dM sz bytes zc e x y A K2) (f:∀ r i h',Sim i L h'->K2 r i->K r h'):apH sz bytes zc e x y h K:=by
 obtain ⟨c,l,m,n⟩:=j;refine ⟨c,rR s l,λg=>qN s (m g) (f _),λg=>?_⟩;obtain ⟨d,o,p,q,t⟩:=n g;exact ⟨d,rR s o,p,q,λcap u=>nO s (t cap u) λb=>f _⟩
theorem aJS {sz bytes:Nat} {zc:Array Value} {e:TypeId} {x:Sl} {n:Int} {K:Sl->HP} {K2:Sl->AP} (s:Sim A L h) (i:apZ sz bytes zc e x n A K2) (d:∀ r f h',Sim f L h'->K2 r f->K r h'):aMU sz bytes zc e x n h K:=by
 obtain ⟨j,l,m⟩:=i;refine ⟨j,λg=>qN s (l g) (d _),λg=>?_⟩;obtain ⟨c,o,p,q,t⟩:=m g;exact ⟨c,rR s o,p,q,λcap u=>nO s (t cap u) λb=>d _⟩
theorem aJH {sz:Nat} {x y:Sl} {K:Int->HP} {K2:Int->AP} (s:Sim A L h) (c:cpA sz x y A K2) (d:∀ r b h',Sim b L h'->K2 r b->K r h'):cpH sz x y h K:=by
 obtain ⟨vs,e,f⟩:=c;exact ⟨vs,rR s e,qN s f (d _)⟩
theorem Sim.map (s:Sim A L h) {m:Option Nat} {b:List MapEntry} (e:wR A m=some b):uZ h m=some b:=by
 cases m with
 | none=>exact e
 | some r=>
  simp only [wR] at e;simp only [uZ];split at e
  .rename_i c;rw [s.sub _ _ c];exact e
  .cases e
theorem aIR {m:Option Nat} {key:Int} {K K2:Option Value->Prop} (s:Sim A L h) (b:lG A m k key K2) (c:∀ o,K2 o->K o):mLk h m k key K:=by
 obtain ⟨d,e,r,f,g⟩:=b;exact ⟨d,s.map e,r,f,c _ g⟩
theorem aH4 {m:Option Nat} {key:Int} {v:Value} {K:HP} {K2:AP} (s:Sim A L h) (e:mK A m k key v K2) (f:∀ b h',Sim b L h'->K2 b->K h'):mSt h m k key v K:=by
 obtain ⟨r,g,c,i,d,o,j,l⟩:=e;exact ⟨r,g,c,i,s.sub _ _ d,o,j,f _ _ (s.put d _) l⟩
theorem aHx {m:Option Nat} {key:Int} {z:Value} {K:Value->Int->HP} {K2:Value->Int->AP} (s:Sim A L h) (j:aMT A m k key z K2) (d:∀ v b f h',Sim f L h'->K2 v b f->K v b h'):mEn h m k key z K:=by
 obtain ⟨r,l,c,n,g,o,p,i⟩:=j;refine ⟨r,l,c,n,s.sub _ _ g,o,p,?_⟩;cases o with
 | none=>exact d _ _ _ _ (s.put g _) i
 | some iv=>
  obtain ⟨e,q,t⟩:=i;exact ⟨e,q,d _ _ _ _ s t⟩
theorem aGB {m:Option Nat} {b:Int} {v:Value} {K:HP} {K2:AP} (s:Sim A L h) (f:aMK A m b v K2) (g:∀ d h',Sim d L h'->K2 d->K h'):mES h m b v K:=by
 obtain ⟨r,j,c,i,l,e,n,o⟩:=f;exact ⟨r,j,c,i,l,s.sub _ _ e,n,g _ _ (s.put e _) o⟩
theorem aG6 {m:Option Nat} {key:Int} {K:HP} {K2:AP} (s:Sim A L h) (b:qW A m k key K2) (d:∀ e h',Sim e L h'->K2 e->K h'):mDl h m k key K:=by
 cases m with
 | none=>exact d _ _ s b
 | some r=>
  obtain ⟨g,c,f,o,i,j⟩:=b;exact ⟨g,c,s.sub _ _ f,o,i,d _ _ (s.put f _) j⟩
theorem aHm {m:Option Nat} {K K2:Int->Prop} (s:Sim A L h) (b:aIz A m K2) (c:∀ n,K2 n->K n):mLn h m K:=by
 obtain ⟨d,e,f⟩:=b;exact ⟨d,s.map e,c _ f⟩
theorem aIE {m:Option Nat} {K:Addr->HP} {K2:Addr->AP} (s:Sim A L h) (d:rgA A m K2) (e:∀ r f h',Sim f L h'->K2 r f->K r h'):rgH h m K:=by
 cases m with
 | none=>exact nO (K:=λb=>K ⟨b,0,none⟩) s d λb=>e _
 | some r=>
  obtain ⟨g,c,i,j⟩:=d;exact ⟨g,c,s.sub _ _ i,nO (K:=λb=>K ⟨b,0,none⟩) s j λb=>e _⟩
theorem aKr {K K2:Int->Value->Prop} (s:Sim A L h) (i:aEy A a K2) (j:∀ n v,K2 n v->K n v):mEy h a K:=by
 obtain ⟨m,c,g,b,d,l,f,e,n,o,p,hs,q,r,t,u,i⟩:=i;exact ⟨m,c,g,b,d,l,f,e,n,o,s.sub _ _ p,hs,s.sub _ _ q,r,t,u,j _ _ i⟩
theorem aIX {i:HP} {j:Value->Value->HP} {l:AP} {n:Value->Value->AP} (s:Sim A L h) (r:aNx A a l n) (o:∀ d h',Sim d L h'->l d->i h') (t:∀ x y d h',Sim d L h'->n x y d->j x y h'):mNx h a i j:=by
 obtain ⟨m,b,f,last,u,p,q⟩:=r;refine ⟨m,b,f,last,u,s.sub _ _ p,?_⟩;cases m with
 | none=>exact o _ _ s q
 | some m=>
  obtain ⟨v,c,w,z,B,C⟩:=q;exact ⟨v,c,s.sub _ _ w,z,λg=>o _ _ s (B g),λe D g=>t _ _ _ _ (s.put p _) (C e D g)⟩
theorem aJu {i b o:Nat} {cs:List Value} {t:TypeId} {v:Value} {K:HP} (s:Sim A L h) (e:L[i]? = some (b,cs,t)) (d:(cs[o]?).isSome=true) (f:v.oneCell'=true) (g:∀ h',Sim A (L.set i (b,cs.set o v,t)) h'->K h'):stC ⟨b,o,none⟩ v h K:=by
 have c:=s.boxAt e;unfold stC;rw [f];refine ⟨?_,?_,g _ (s.boxSet e v)⟩
 .simpa [dI,c] using d
 .simp [uN,c]
theorem kP {i b o:Nat} {cs:List Value} {t:TypeId} {v:Value} (s:Sim A L h) (e:L[i]? = some (b,cs,t)) (c:cs[o]? = some v):dI h ⟨b,o,none⟩=some v:=by
 simp [dI,s.boxAt e,c]
theorem aMY {i b o:Nat} {cs:List Value} {t:TypeId} {n:Int} {K:Int->Prop} (s:Sim A L h) (e:L[i]? = some (b,cs,t)) (c:cs[o]? = some (.int k n)) (d:K n):ldI k ⟨b,o,none⟩ h K:=⟨n,kP s e c,d⟩
theorem aNe {i b o:Nat} {cs:List Value} {t:TypeId} {n:Bool} {K:Bool->Prop} (s:Sim A L h) (e:L[i]? = some (b,cs,t)) (c:cs[o]? = some (.bool n)) (d:K n):ldB ⟨b,o,none⟩ h K:=⟨n,kP s e c,d⟩
theorem aNa {i b o:Nat} {cs:List Value} {t:TypeId} {n:Option Addr} {K:Option Addr->Prop} (s:Sim A L h) (e:L[i]? = some (b,cs,t)) (c:cs[o]? = some (.pointer n)) (d:K n):ldP ⟨b,o,none⟩ h K:=⟨n,kP s e c,d⟩
theorem aMW {i b o:Nat} {cs:List Value} {t:TypeId} {x:Option Addr} {l c:Nat} {K:Sl->Prop} (s:Sim A L h) (e:L[i]? = some (b,cs,t)) (d:cs[o]? = some (.slice x l c)) (f:K ⟨x,l,c⟩):ldS ⟨b,o,none⟩ h K:=⟨⟨x,l,c⟩,kP s e d,f⟩
theorem aME {i b o:Nat} {cs:List Value} {t:TypeId} {n:Option Nat} {K:Option Nat->Prop} (s:Sim A L h) (e:L[i]? = some (b,cs,t)) (c:cs[o]? = some (.map n)) (d:K n):ldM ⟨b,o,none⟩ h K:=⟨n,kP s e c,d⟩
theorem aML {i b o:Nat} {cs:List Value} {t:TypeId} {n:Value} {K:Value->Prop} (s:Sim A L h) (e:L[i]? = some (b,cs,t)) (c:cs[o]? = some n) (d:K n):ldV ⟨b,o,none⟩ h K:=⟨n,kP s e c,d⟩
end
end Go.Dn
