/- Addresses, fields, slices, appends. -/
import Derived.Test.YtfnkdpmbpgffbaaGreatDnC
import Derived.Laws.Append
import Derived.Laws.MakeOwn
namespace Go.Dn
def kV (v:Value) (K:Addr->Prop):Prop:=match v with | .pointer p=>aF p K | _=>False
theorem oP {v:Value} {K:Addr->Prop} (h:kV v K):∃ a,v = .pointer (some a)/\K a:=by
 unfold kV at h;split at h
 .obtain ⟨a,rfl,b⟩:=oB h;exact ⟨a,rfl,b⟩
 .exact h.elim
def bB (i:Int) (n:Nat) (K:Prop):Prop:=bsel (decide (0<=i)&&decide (i<(n:Int))) K False
theorem sO {i:Int} {n:Nat} {K:Prop} (h:bB i n K):0<=i/\i<(n:Int)/\K:=by
 obtain ⟨a,b⟩:=bG h;simp only [Bool.and_eq_true,decide_eq_true_eq] at a;exact ⟨a.1,a.2,b⟩
theorem aLK {i:Int} {n:Nat} {K:Prop} (a:0<=i) (b:i<(n:Int)) (h:K):bB i n K:=by simp [bB,bsel,a,b,h]
def wW (P:Program) (s:TypeId) (x:Value) (f:Nat) (K:Value->Prop):Prop:=
 match P.underlying s with
 | some (.struct fields)=>match fields.toList[f]? with
  | some fd=>match szOf P fd.type with
   | some n=>match Nat.beq n 0 with
    | false=>kV x λa=>K (.pointer (some (a.add fd.offset)))
    | true=>False
   | none=>False
  | none=>False
 | _=>False
def xY (P:Program) (t:TypeId) (x ix:Value) (K:Value->Prop):Prop:=
 match ix,P.underlying t with
 | .int _ i,some (.array len e)=>match szOf P e with
  | some n=>kV x λa=>bB i len (K (.pointer (some (a.add (i.toNat*n)))))
  | none=>False
 | .int _ i,some (.slice e)=>match szOf P e,x with
  | some n,.slice base len _=>aF base λa=>bB i len (K (.pointer (some (a.add (i.toNat*n)))))
  | _,_=>False
 | _,_=>False
def geI (k:IntKind) (cs:List Value) (i:Nat) (K:Int->Prop):Prop:=∃ n,cs[i]? = some (.int k n)/\K n
def tN (cs:List Value) (i:Nat) (K:Bool->Prop):Prop:=∃ n,cs[i]? = some (.bool n)/\K n
def geP (cs:List Value) (i:Nat) (K:Option Addr->Prop):Prop:=∃ n,cs[i]? = some (.pointer n)/\K n
def geM (cs:List Value) (i:Nat) (K:Option Nat->Prop):Prop:=∃ n,cs[i]? = some (.map n)/\K n
def geC (c:CK) (cs:List Value) (i:Nat) (K:Value->Prop):Prop:=
 match c with
 | .i k=>geI k cs i λn=>K (.int k n)
 | .b=>tN cs i λn=>K (.bool n)
 | .p=>geP cs i λn=>K (.pointer n)
 | .m=>geM cs i λn=>K (.map n)
 | _=>False
theorem aH2 {c:CK} {cs:List Value} {i:Nat} {K:Value->Prop} (h:geC c cs i K):∃ v,cs[i]? = some v/\K v:=by
 cases c<;>simp only [geC] at h<;>first | (obtain ⟨n,a,b⟩:=h;exact ⟨_,a,b⟩) | exact h.elim
def geL:List CK->List Value->Nat->Nat->(List Value->Prop)->Prop
 | [],_,_,_,K=>K []
 | c::r,cs,o,k,K=>geC c cs (o+k) λv=>geL r cs o (k+1) λvs=>K (v::vs)
theorem aGJ:∀ {l:List CK} {cs:List Value} {o k:Nat} {K:List Value->Prop},geL l cs o k K->K ((cs.drop (o+k)).take l.length)
 | [],cs,o,k,K,h=>by simpa [geL] using h
 | c::r,cs,o,k,K,h=>by
  obtain ⟨v,b,h⟩:=aH2 h;have h:=aGJ h;have a:=(List.getElem?_eq_some_iff.1 b).1
  have:(cs.drop (o+k))=v::cs.drop (o+(k+1)):=by
   rw [List.drop_eq_getElem_cons a,show o+k+1=o+(k+1) by omega];rw [List.getElem?_eq_getElem a] at b;rw [Option.some.inj b]
  rw [this,List.length_cons,List.take_succ_cons];exact h
theorem aCd {c:CK} {cs:List Value} {i:Nat} {K K':Value->Prop} (b:∀ a,K a->K' a) (h:geC c cs i K):geC c cs i K':=by
 cases c<;>simp only [geC] at h ⊢<;>first | (obtain ⟨n,d,e⟩:=h;exact ⟨n,d,b _ e⟩) | exact h
theorem rI:∀ {l:List CK} {cs:List Value} {o k:Nat} {K K':List Value->Prop},(∀ a,K a->K' a)->geL l cs o k K->geL l cs o k K'
 | [],_,_,_,_,_,hx,h=>hx _ h
 | _::_,_,_,_,_,_,hx,h=>aCd (λ_ b=>rI (λ_=>hx _) b) h
def aAL (P:Program) (t:TypeId) (x ix:Value) (K:Value->Prop):Prop:=
 match ix,x,P.underlying t with
 | .int _ i,.agg cs,some (.array len e)=>match P.underlying e with
  | some d=>match isAggD d,ckD d,szOf P e with
   | false,some c,some n=>match Nat.beq n 1 with
    | true=>bB i len (geC c cs.toList i.toNat K)
    | false=>False
   | true,_,some n=>match cksT P 40 e with
    | some l=>match Nat.beq l.length n with
     | true=>bB i len (geL l cs.toList (i.toNat*n) 0 λvs=>K (.agg vs.toArray))
     | false=>False
    | none=>bB i len (K (.agg ((cs.toList.drop (i.toNat*n)).take n).toArray))
   | _,_,_=>False
  | none=>False
 | _,_,_=>False
def fvD (P:Program) (t:TypeId) (x:Value) (f:Nat) (K:Value->Prop):Prop:=
 match x,P.underlying t with
 | .agg cs,some (.struct fields)=>match fields.toList[f]? with
  | some fd=>match P.underlying fd.type,szOf P fd.type with
   | some d,some n=>match isAggD d with
    | true=>K (.agg ((cs.toList.drop fd.offset).take n).toArray)
    | false=>match cs.toList[fd.offset]? with
     | some v=>K v
     | none=>False
   | _,_=>False
  | none=>False
 | _,_=>False
section
variable {P:Program} {dr:Bool} {h:Hp}
theorem fldD_ok {s:TypeId} {x:Value} {f:Nat} {K:Value->HP} (b:wW P s x f λv=>K v h):cF P dr (Instr.fieldAt s x f) K h:=by
 unfold wW at b;split at b
 .rename_i c j;split at b
  .rename_i k l;split at b
   .rename_i n hs;split at b
    .rename_i d;obtain ⟨a,rfl,m⟩:=oP b;obtain ⟨i,hi,rfl⟩:=dY hs;have d:i.size≠0:=λe=>by rw [e] at d;simp at d
     refine aK (λw=>?_) m;have g:c[f]? = some k:=by simpa using l
     simp [Instr.fieldAt,run_underlying j,g,Instr.sureAddr,fieldPlace,sizeOf,typeInfo,hi,d]
    .exact b.elim
   .exact b.elim
  .exact b.elim
 .exact b.elim
theorem ixaD_ok {t:TypeId} {x j:Value} {K:Value->HP} (b:xY P t x j λv=>K v h):cF P dr (Instr.indexAt t x j) K h:=by
 unfold xY at b;split at b
 .rename_i k i len e d;split at b
  .rename_i n hs;obtain ⟨a,rfl,c⟩:=oP b;obtain ⟨f,g,c⟩:=sO c;obtain ⟨m,hi,rfl⟩:=dY hs;refine aK (λw=>?_) c;simp [Instr.indexAt,asIntOf,run_underlying d,Instr.sureAddr,f,g,sizeOf,typeInfo,hi]
  .exact b.elim
 .rename_i k i e d;split at b
  .rename_i n l len cap hs;obtain ⟨a,rfl,c⟩:=oB b;obtain ⟨f,g,c⟩:=sO c;obtain ⟨m,hi,rfl⟩:=dY hs;refine aK (λw=>?_) c;simp [Instr.indexAt,asIntOf,run_underlying d,f,g,sizeOf,typeInfo,hi]
  .exact b.elim
 .exact b.elim
theorem qT (cs:Array Value) (o n:Nat):cs.extract o (o+n)=((cs.toList.drop o).take n).toArray:=by grind
theorem idxD_ok {t:TypeId} {x q:Value} {K:Value->HP} (a:aAL P t x q λv=>K v h):cF P dr (Instr.index t x q) K h:=by
 unfold aAL at a;split at a
 .rename_i k i cs len e r;split at a
  .rename_i d s;split at a
   .rename_i c n m u hs;split at a
    .rename_i f;have f:=Nat.eq_of_beq_eq_true f;subst f;obtain ⟨g,j,b⟩:=sO a;obtain ⟨v,y,b⟩:=aH2 b;obtain ⟨o,hi,p⟩:=dY hs;refine aK (λw=>?_) b;have:=lW (P:=P) w s m cs (i.toNat*o.size) v (by simp_all);simp [Instr.index,asIntOf,run_underlying r,g,j,sizeOf,typeInfo,hi,this]
    .exact a.elim
   .rename_i n m hs
    have key:bB i len (K (.agg ((cs.toList.drop (i.toNat*n)).take n).toArray) h)->cF P dr (Instr.index t (.agg cs) (.int k i)) K h:=λa=>by
     obtain ⟨g,j,b⟩:=sO a;obtain ⟨o,hi,p⟩:=dY hs;refine aK (λw=>?_) b;have:=g9 (P:=P) w s hs m cs (i.toNat*o.size);rw [p] at this;simp [Instr.index,asIntOf,run_underlying r,g,j,sizeOf,typeInfo,hi,p,this,qT]
    split at a
    .split at a
     .rename_i l _ f;have f:=Nat.eq_of_beq_eq_true f;obtain ⟨g,j,b⟩:=sO a;have b:=aGJ b;rw [f,Nat.add_zero] at b;exact key (aLK g j b)
     .exact a.elim
    .exact key a
   .exact a.elim
  .exact a.elim
 .exact a.elim
theorem fvD_ok {t:TypeId} {x:Value} {f:Nat} {K:Value->HP} (a:fvD P t x f λv=>K v h):cF P dr (Instr.field t x f) K h:=by
 unfold fvD at a;split at a
 .rename_i cs b g;split at a
  .rename_i i k;have c:b[f]? = some i:=by simpa using k
   split at a
   .rename_i d n j hs;split at a
    .rename_i e;refine aK (λw=>?_) a;simp [Instr.field,run_underlying g,c,asAgg,g9 (P:=P) w j hs e,qT]
    .rename_i e;split at a
     .rename_i v l;refine aK (λw=>?_) a;simp [Instr.field,run_underlying g,c,asAgg,lW (P:=P) w j e cs i.offset v (by simp_all)]
     .exact a.elim
   .exact a.elim
  .exact a.elim
 .exact a.elim
end
def bdD (x:Option Value) (y:Nat) (dflt:Nat) (K:Nat->Prop):Prop:=
 match x with
 | some (.int _ i)=>bB i (y+1) (K i.toNat)
 | some _=>False
 | none=>K dflt
def okB (hi mx:Option Value):Bool:=match hi,mx with | none,some _=>false | _,_=>true
def aBq (P:Program) (t:TypeId) (x:Value) (lo hi mx:Option Value) (K:Value->Prop):Prop:=
 match P.underlying t,x,okB hi mx with
 | some (.slice e),.slice a len cap,true=>match szOf P e with
  | some n=>bdD mx cap cap λm=>bdD hi m len λhh=>bdD lo hh 0 λl=>
    K (.slice (if m=l then a else a.map (·.add (l*n))) (hh-l) (m-l))
  | none=>False
 | some (.array len e),x,true=>match szOf P e with
  | some n=>kV x λa=>bdD mx len len λm=>bdD hi m len λhh=>bdD lo hh 0 λl=>
    K (.slice (some (if m=l then a else a.add (l*n))) (hh-l) (m-l))
  | none=>False
 | _,_,_=>False
theorem lE {P:Program} (x:Value) (y:Nat) (c:BoundsCode) (d:Nat) (K:Nat->Prop) (h:bdD (some x) y d K):∃ n,K n/\∀ w,(Instr.sliceBound x y c).run P w = .ok n w:=by
 cases x<;>simp only [bdD] at h<;>first | exact h.elim | skip
 rename_i k i;obtain ⟨h0,h1,hk⟩:=sO h;refine ⟨_,hk,λw=>?_⟩;have h2:i<=(y:Int):=by omega
 simp [Instr.sliceBound,asIntOf,h0,h2]
theorem zU {P:Program} (b:Bool) (len cap:Nat) (lo hi mx:Option Value) (K:Nat->Nat->Nat->Prop) (hn:okB hi mx=true)
  (h:bdD mx cap cap λm=>bdD hi m len λhh=>bdD lo hh 0 λl=>K l hh m) :
  ∃ l hh m,K l hh m/\∀ w,(Instr.sliceBounds b len cap lo hi mx).run P w = .ok (l,hh,m) w:=by
 cases mx with
 | none=>
  cases hi with
  | none=>
   cases lo with
   | none=>exact ⟨_,_,_,h,λw=>by simp [Instr.sliceBounds]⟩
   | some l=>
    change bdD (some l) len 0 (λl=>K l len cap) at h
    obtain ⟨n,hk,hr⟩:=lE (P:=P) l len .sliceB 0 _ h;exact ⟨_,_,_,hk,λw=>by simp [Instr.sliceBounds,hr]⟩
  | some hv=>
   change bdD (some hv) cap len (λhh=>bdD lo hh 0 λl=>K l hh cap) at h
   obtain ⟨n,hk,hr⟩:=lE (P:=P) hv cap (if b=true then .sliceAcap else .sliceAlen) len _ h;cases lo with
   | none=>exact ⟨_,_,_,hk,λw=>by simp [Instr.sliceBounds,hr]⟩
   | some l=>
    obtain ⟨n',hk,hr'⟩:=lE (P:=P) l n .sliceB 0 _ hk;exact ⟨_,_,_,hk,λw=>by simp [Instr.sliceBounds,hr,hr']⟩
 | some mv=>
  obtain ⟨m,hk,hr0⟩:=lE (P:=P) mv cap (if b=true then .slice3Acap else .slice3Alen) cap _ h;cases hi with
  | none=>cases hn
  | some hv=>
   obtain ⟨n,hk,hr⟩:=lE (P:=P) hv m .slice3B len _ hk;cases lo with
   | none=>exact ⟨_,_,_,hk,λw=>by simp [Instr.sliceBounds,hr,hr0]⟩
   | some l=>
    obtain ⟨n',hk,hr'⟩:=lE (P:=P) l n .slice3C 0 _ hk;exact ⟨_,_,_,hk,λw=>by simp [Instr.sliceBounds,hr,hr',hr0]⟩
theorem slcD_ok {P:Program} {dr:Bool} {h:Hp} {t:TypeId} {x:Value} {lo hi mx:Option Value} {K:Value->HP} (hh:aBq P t x lo hi mx λv=>K v h) :
  cF P dr (Instr.sliceAt t x lo hi mx) K h:=by
 unfold aBq at hh;split at hh
 ·rename_i e a len cap hu hb;split at hh
  ·rename_i n hs;obtain ⟨l,h1,m,hk,hr⟩:=zU (P:=P) true len cap lo hi mx (λl h1 m=>K (.slice (if m=l then a else a.map (·.add (l*n))) (h1-l) (m-l)) h) hb hh;obtain ⟨it,hi',rfl⟩:=dY hs;refine aK (λw=>?_) hk;simp [Instr.sliceAt,Instr.slice,run_underlying hu,hr,sizeOf,typeInfo,hi']
  ·exact hh.elim
 ·rename_i len e hu hb;split at hh
  ·rename_i n hs;obtain ⟨a,rfl,hh⟩:=oP hh;obtain ⟨l,h1,m,hk,hr⟩:=zU (P:=P) false len len lo hi mx (λl h1 m=>K (.slice (some (if m=l then a else a.add (l*n))) (h1-l) (m-l)) h) hb hh;obtain ⟨it,hi',rfl⟩:=dY hs;refine aK (λw=>?_) hk;simp [Instr.sliceAt,Instr.sureAddr,run_underlying hu,hr,sizeOf,typeInfo,hi']
  ·exact hh.elim
 ·exact hh.elim
end Go.Dn
