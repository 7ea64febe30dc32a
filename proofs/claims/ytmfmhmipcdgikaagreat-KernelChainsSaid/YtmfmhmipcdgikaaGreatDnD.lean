/- Addresses, fields, slices, appends. -/
import Derived.Test.YtmfmhmipcdgikaaGreatDnC
import Derived.Laws.Append
import Derived.Laws.MakeOwn
namespace Go.Dn
def jN (v:Value) (K:Addr->Prop):Prop:=match v with | .pointer p=>aF p K | _=>False
theorem mF {v:Value} {K:Addr->Prop} (h:jN v K):∃ a,v = .pointer (some a)/\K a:=by
 unfold jN at h;split at h
 ·obtain ⟨a,rfl,hk⟩:=mR h;exact ⟨a,rfl,hk⟩
 ·exact h.elim
def bF (i:Int) (n:Nat) (K:Prop):Prop:=bsel (decide (0<=i)&&decide (i<(n:Int))) K False
theorem qX {i:Int} {n:Nat} {K:Prop} (h:bF i n K):0<=i/\i<(n:Int)/\K:=by
 obtain ⟨h1,h2⟩:=bD h;simp only [Bool.and_eq_true,decide_eq_true_eq] at h1;exact ⟨h1.1,h1.2,h2⟩
theorem aKf {i:Int} {n:Nat} {K:Prop} (h0:0<=i) (h1:i<(n:Int)) (h:K):bF i n K:=by simp [bF,bsel,h0,h1,h]
def uM (P:Program) (s:TypeId) (x:Value) (f:Nat) (K:Value->Prop):Prop:=
 match P.underlying s with
 | some (.struct fields)=>match fields.toList[f]? with
  | some fd=>match szOf P fd.type with
   | some n=>match Nat.beq n 0 with
    | false=>jN x λa=>K (.pointer (some (a.add fd.offset)))
    | true=>False
   | none=>False
  | none=>False
 | _=>False
def u6 (P:Program) (t:TypeId) (x ix:Value) (K:Value->Prop):Prop:=
 match ix,P.underlying t with
 | .int _ i,some (.array len e)=>match szOf P e with
  | some n=>jN x λa=>bF i len (K (.pointer (some (a.add (i.toNat*n)))))
  | none=>False
 | .int _ i,some (.slice e)=>match szOf P e,x with
  | some n,.slice base len _=>aF base λa=>bF i len (K (.pointer (some (a.add (i.toNat*n)))))
  | _,_=>False
 | _,_=>False
def geI (k:IntKind) (cs:List Value) (i:Nat) (K:Int->Prop):Prop:=∃ n,cs[i]? = some (.int k n)/\K n
def geB (cs:List Value) (i:Nat) (K:Bool->Prop):Prop:=∃ n,cs[i]? = some (.bool n)/\K n
def geP (cs:List Value) (i:Nat) (K:Option Addr->Prop):Prop:=∃ n,cs[i]? = some (.pointer n)/\K n
def geM (cs:List Value) (i:Nat) (K:Option Nat->Prop):Prop:=∃ n,cs[i]? = some (.map n)/\K n
def geC (c:CK) (cs:List Value) (i:Nat) (K:Value->Prop):Prop:=
 match c with
 | .i k=>geI k cs i λn=>K (.int k n)
 | .b=>geB cs i λn=>K (.bool n)
 | .p=>geP cs i λn=>K (.pointer n)
 | .m=>geM cs i λn=>K (.map n)
 | _=>False
theorem aHi {c:CK} {cs:List Value} {i:Nat} {K:Value->Prop} (h:geC c cs i K):∃ v,cs[i]? = some v/\K v:=by
 cases c<;>simp only [geC] at h<;>first | (obtain ⟨n,h1,h2⟩:=h;exact ⟨_,h1,h2⟩) | exact h.elim
def geL:List CK->List Value->Nat->Nat->(List Value->Prop)->Prop
 | [],_,_,_,K=>K []
 | c::r,cs,o,k,K=>geC c cs (o+k) λv=>geL r cs o (k+1) λvs=>K (v::vs)
theorem aFu:∀ {l:List CK} {cs:List Value} {o k:Nat} {K:List Value->Prop},geL l cs o k K->K ((cs.drop (o+k)).take l.length)
 | [],cs,o,k,K,h=>by simpa [geL] using h
 | c::r,cs,o,k,K,h=>by
  obtain ⟨v,hv,h⟩:=aHi h;have h:=aFu h;have hlt:=(List.getElem?_eq_some_iff.1 hv).1
  have:(cs.drop (o+k))=v::cs.drop (o+(k+1)):=by
   rw [List.drop_eq_getElem_cons hlt,show o+k+1=o+(k+1) by omega];rw [List.getElem?_eq_getElem hlt] at hv;rw [Option.some.inj hv]
  rw [this,List.length_cons,List.take_succ_cons];exact h
theorem aBv {c:CK} {cs:List Value} {i:Nat} {K K':Value->Prop} (hx:∀ a,K a->K' a) (h:geC c cs i K):geC c cs i K':=by
 cases c<;>simp only [geC] at h ⊢<;>first | (obtain ⟨n,h1,h2⟩:=h;exact ⟨n,h1,hx _ h2⟩) | exact h
theorem qC:∀ {l:List CK} {cs:List Value} {o k:Nat} {K K':List Value->Prop},(∀ a,K a->K' a)->geL l cs o k K->geL l cs o k K'
 | [],_,_,_,_,_,hx,h=>hx _ h
 | _::_,_,_,_,_,_,hx,h=>aBv (λ_ h2=>qC (λ_=>hx _) h2) h
def z8 (P:Program) (t:TypeId) (x ix:Value) (K:Value->Prop):Prop:=
 match ix,x,P.underlying t with
 | .int _ i,.agg cs,some (.array len e)=>match P.underlying e with
  | some d=>match isAggD d,ckD d,szOf P e with
   | false,some c,some n=>match Nat.beq n 1 with
    | true=>bF i len (geC c cs.toList i.toNat K)
    | false=>False
   | true,_,some n=>match cksT P 40 e with
    | some l=>match Nat.beq l.length n with
     | true=>bF i len (geL l cs.toList (i.toNat*n) 0 λvs=>K (.agg vs.toArray))
     | false=>False
    | none=>bF i len (K (.agg ((cs.toList.drop (i.toNat*n)).take n).toArray))
   | _,_,_=>False
  | none=>False
 | _,_,_=>False
def fvD (P:Program) (t:TypeId) (x:Value) (f:Nat) (K:Value->Prop):Prop:=
 match x,P.underlying t with
 | .agg cs,some (.struct fields)=>match fields.toList[f]? with
  | some fd=>match P.underlying fd.type,szOf P fd.type with
   | some d,some n=>match isAggD d with
    | true=>K (.agg ((cs.toList.drop fd.offset).take n).toArray)
    | false=>match cs.toList[fd.offset]? with
     | some v=>K v
     | none=>False
   | _,_=>False
  | none=>False
 | _,_=>False
section
variable {P:Program} {dr:Bool} {h:Hp}
theorem fldD_ok {s:TypeId} {x:Value} {f:Nat} {K:Value->HP} (hh:uM P s x f λv=>K v h):bZ P dr (Instr.fieldAt s x f) K h:=by
 unfold uM at hh;split at hh
 ·rename_i fields hu;split at hh
  ·rename_i fd hf;split at hh
   ·rename_i n hs;split at hh
    ·rename_i hb;obtain ⟨a,rfl,hk⟩:=mF hh;obtain ⟨i,hi,rfl⟩:=dQ hs;have hb:i.size≠0:=λe=>by rw [e] at hb;simp at hb
     refine aL (λw=>?_) hk;have hf':fields[f]? = some fd:=by simpa using hf
     simp [Instr.fieldAt,run_underlying hu,hf',Instr.sureAddr,fieldPlace,sizeOf,typeInfo,hi,hb]
    ·exact hh.elim
   ·exact hh.elim
  ·exact hh.elim
 ·exact hh.elim
theorem ixaD_ok {t:TypeId} {x ix:Value} {K:Value->HP} (hh:u6 P t x ix λv=>K v h):bZ P dr (Instr.indexAt t x ix) K h:=by
 unfold u6 at hh;split at hh
 ·rename_i k i len e hu;split at hh
  ·rename_i n hs;obtain ⟨a,rfl,hk⟩:=mF hh;obtain ⟨h0,h1,hk⟩:=qX hk;obtain ⟨it,hi,rfl⟩:=dQ hs;refine aL (λw=>?_) hk;simp [Instr.indexAt,asIntOf,run_underlying hu,Instr.sureAddr,h0,h1,sizeOf,typeInfo,hi]
  ·exact hh.elim
 ·rename_i k i e hu;split at hh
  ·rename_i n base len cap hs;obtain ⟨a,rfl,hk⟩:=mR hh;obtain ⟨h0,h1,hk⟩:=qX hk;obtain ⟨it,hi,rfl⟩:=dQ hs;refine aL (λw=>?_) hk;simp [Instr.indexAt,asIntOf,run_underlying hu,h0,h1,sizeOf,typeInfo,hi]
  ·exact hh.elim
 ·exact hh.elim
theorem pP (cs:Array Value) (o n:Nat):cs.extract o (o+n)=((cs.toList.drop o).take n).toArray:=by
 apply Array.ext';simp
theorem idxD_ok {t:TypeId} {x ix:Value} {K:Value->HP} (hh:z8 P t x ix λv=>K v h):bZ P dr (Instr.index t x ix) K h:=by
 unfold z8 at hh;split at hh
 ·rename_i k i cs len e hu;split at hh
  ·rename_i d hd;split at hh
   ·rename_i c n ha hc hs;split at hh
    ·rename_i hb;have hb:=Nat.eq_of_beq_eq_true hb;subst hb;obtain ⟨h0,h1,hk⟩:=qX hh;obtain ⟨v,hv,hk⟩:=aHi hk;obtain ⟨it,hi,hn⟩:=dQ hs;refine aL (λw=>?_) hk;have:=kI (P:=P) w hd ha cs (i.toNat*it.size) v (by rw [hn];simpa using hv);simp [Instr.index,asIntOf,run_underlying hu,h0,h1,sizeOf,typeInfo,hi,this]
    ·exact hh.elim
   ·rename_i n ha hs
    have key:bF i len (K (.agg ((cs.toList.drop (i.toNat*n)).take n).toArray) h)->bZ P dr (Instr.index t (.agg cs) (.int k i)) K h:=λhh=>by
     obtain ⟨h0,h1,hk⟩:=qX hh;obtain ⟨it,hi,hn⟩:=dQ hs;refine aL (λw=>?_) hk;have:=gM (P:=P) w hd hs ha cs (i.toNat*it.size);rw [hn] at this;simp [Instr.index,asIntOf,run_underlying hu,h0,h1,sizeOf,typeInfo,hi,hn,this,pP]
    split at hh
    ·split at hh
     ·rename_i l _ hb;have hb:=Nat.eq_of_beq_eq_true hb;obtain ⟨h0,h1,hk⟩:=qX hh;have hk:=aFu hk;rw [hb,Nat.add_zero] at hk;exact key (aKf h0 h1 hk)
     ·exact hh.elim
    ·exact key hh
   ·exact hh.elim
  ·exact hh.elim
 ·exact hh.elim
theorem fvD_ok {t:TypeId} {x:Value} {f:Nat} {K:Value->HP} (hh:fvD P t x f λv=>K v h):bZ P dr (Instr.field t x f) K h:=by
 unfold fvD at hh;split at hh
 ·rename_i cs fields hu;split at hh
  ·rename_i fd hf;have hf':fields[f]? = some fd:=by simpa using hf
   split at hh
   ·rename_i d n hd hs;split at hh
    ·rename_i ha;refine aL (λw=>?_) hh;simp [Instr.field,run_underlying hu,hf',asAgg,gM (P:=P) w hd hs ha,pP]
    ·rename_i ha;split at hh
     ·rename_i v hv;refine aL (λw=>?_) hh;simp [Instr.field,run_underlying hu,hf',asAgg,kI (P:=P) w hd ha cs fd.offset v (by simpa using hv)]
     ·exact hh.elim
   ·exact hh.elim
  ·exact hh.elim
 ·exact hh.elim
end
def bdD (x:Option Value) (y:Nat) (dflt:Nat) (K:Nat->Prop):Prop:=
 match x with
 | some (.int _ i)=>bF i (y+1) (K i.toNat)
 | some _=>False
 | none=>K dflt
def okB (hi mx:Option Value):Bool:=match hi,mx with | none,some _=>false | _,_=>true
def aAs (P:Program) (t:TypeId) (x:Value) (lo hi mx:Option Value) (K:Value->Prop):Prop:=
 match P.underlying t,x,okB hi mx with
 | some (.slice e),.slice a len cap,true=>match szOf P e with
  | some n=>bdD mx cap cap λm=>bdD hi m len λhh=>bdD lo hh 0 λl=>
    K (.slice (if m=l then a else a.map (·.add (l*n))) (hh-l) (m-l))
  | none=>False
 | some (.array len e),x,true=>match szOf P e with
  | some n=>jN x λa=>bdD mx len len λm=>bdD hi m len λhh=>bdD lo hh 0 λl=>
    K (.slice (some (if m=l then a else a.add (l*n))) (hh-l) (m-l))
  | none=>False
 | _,_,_=>False
theorem jV {P:Program} (x:Value) (y:Nat) (c:BoundsCode) (d:Nat) (K:Nat->Prop) (h:bdD (some x) y d K):∃ n,K n/\∀ w,(Instr.sliceBound x y c).run P w = .ok n w:=by
 cases x<;>simp only [bdD] at h<;>first | exact h.elim | skip
 rename_i k i;obtain ⟨h0,h1,hk⟩:=qX h;refine ⟨_,hk,λw=>?_⟩;have h2:i<=(y:Int):=by omega
 simp [Instr.sliceBound,asIntOf,h0,h2]
theorem xX {P:Program} (b:Bool) (len cap:Nat) (lo hi mx:Option Value) (K:Nat->Nat->Nat->Prop) (hn:okB hi mx=true)
  (h:bdD mx cap cap λm=>bdD hi m len λhh=>bdD lo hh 0 λl=>K l hh m) :
  ∃ l hh m,K l hh m/\∀ w,(Instr.sliceBounds b len cap lo hi mx).run P w = .ok (l,hh,m) w:=by
 cases mx with
 | none=>
  cases hi with
  | none=>
   cases lo with
   | none=>exact ⟨_,_,_,h,λw=>by simp [Instr.sliceBounds]⟩
   | some l=>
    change bdD (some l) len 0 (λl=>K l len cap) at h
    obtain ⟨n,hk,hr⟩:=jV (P:=P) l len .sliceB 0 _ h;exact ⟨_,_,_,hk,λw=>by simp [Instr.sliceBounds,hr]⟩
  | some hv=>
   change bdD (some hv) cap len (λhh=>bdD lo hh 0 λl=>K l hh cap) at h
   obtain ⟨n,hk,hr⟩:=jV (P:=P) hv cap (if b=true then .sliceAcap else .sliceAlen) len _ h;cases lo with
   | none=>exact ⟨_,_,_,hk,λw=>by simp [Instr.sliceBounds,hr]⟩
   | some l=>
    obtain ⟨n',hk,hr'⟩:=jV (P:=P) l n .sliceB 0 _ hk;exact ⟨_,_,_,hk,λw=>by simp [Instr.sliceBounds,hr,hr']⟩
 | some mv=>
  obtain ⟨m,hk,hr0⟩:=jV (P:=P) mv cap (if b=true then .slice3Acap else .slice3Alen) cap _ h;cases hi with
  | none=>cases hn
  | some hv=>
   obtain ⟨n,hk,hr⟩:=jV (P:=P) hv m .slice3B len _ hk;cases lo with
   | none=>exact ⟨_,_,_,hk,λw=>by simp [Instr.sliceBounds,hr,hr0]⟩
   | some l=>
    obtain ⟨n',hk,hr'⟩:=jV (P:=P) l n .slice3C 0 _ hk;exact ⟨_,_,_,hk,λw=>by simp [Instr.sliceBounds,hr,hr',hr0]⟩
theorem slcD_ok {P:Program} {dr:Bool} {h:Hp} {t:TypeId} {x:Value} {lo hi mx:Option Value} {K:Value->HP} (hh:aAs P t x lo hi mx λv=>K v h) :
  bZ P dr (Instr.sliceAt t x lo hi mx) K h:=by
 unfold aAs at hh;split at hh
 ·rename_i e a len cap hu hb;split at hh
  ·rename_i n hs;obtain ⟨l,h1,m,hk,hr⟩:=xX (P:=P) true len cap lo hi mx (λl h1 m=>K (.slice (if m=l then a else a.map (·.add (l*n))) (h1-l) (m-l)) h) hb hh;obtain ⟨it,hi',rfl⟩:=dQ hs;refine aL (λw=>?_) hk;simp [Instr.sliceAt,Instr.slice,run_underlying hu,hr,sizeOf,typeInfo,hi']
  ·exact hh.elim
 ·rename_i len e hu hb;split at hh
  ·rename_i n hs;obtain ⟨a,rfl,hh⟩:=mF hh;obtain ⟨l,h1,m,hk,hr⟩:=xX (P:=P) false len len lo hi mx (λl h1 m=>K (.slice (some (if m=l then a else a.add (l*n))) (h1-l) (m-l)) h) hb hh;obtain ⟨it,hi',rfl⟩:=dQ hs;refine aL (λw=>?_) hk;simp [Instr.sliceAt,Instr.sureAddr,run_underlying hu,hr,sizeOf,typeInfo,hi']
  ·exact hh.elim
 ·exact hh.elim
end Go.Dn
