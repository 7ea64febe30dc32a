/- The operations of the model, each as a predicate over the heap; that each is what the model does. -/
import Derived.Test.YtmfmhmipcdgikaaGreatDnA
namespace Go.Dn
def bsel (b:Bool) (A B:Prop):Prop:=match b with | true=>A | false=>B
def aF (p:Option Addr) (K:Addr->Prop):Prop:=match p with | some a=>K a | none=>False
structure Sl where
 a:Option Addr
 len:Nat
 cap:Nat
def Sl.nil:Sl:=⟨none,0,0⟩
theorem cX {b:Bool} {A B:Prop}:bsel b A B↔(b=true->A)/\(b=false->B):=by cases b<;>simp [bsel]
theorem bsel_mp {b:Bool} {A B:Prop} (h:bsel b A B):(b=true/\A)\/(b=false/\B):=by cases b<;>simp_all [bsel]
theorem vQ {b:Bool} {A:Prop} (h:bsel b False A):b=false/\A:=by cases b<;>simp_all [bsel]
theorem bD {b:Bool} {A:Prop} (h:bsel b A False):b=true/\A:=by cases b<;>simp_all [bsel]
theorem mR {p:Option Addr} {K:Addr->Prop} (h:aF p K):∃ a,p=some a/\K a:=by cases p<;>simp_all [aF]
def ldI (k:IntKind) (a:Addr) (h:Hp) (K:Int->Prop):Prop:=∃ n,dS h a=some (.int k n)/\K n
def ldB (a:Addr) (h:Hp) (K:Bool->Prop):Prop:=∃ b,dS h a=some (.bool b)/\K b
def ldP (a:Addr) (h:Hp) (K:Option Addr->Prop):Prop:=∃ p,dS h a=some (.pointer p)/\K p
def ldS (a:Addr) (h:Hp) (K:Sl->Prop):Prop:=∃ s:Sl,dS h a=some (.slice s.a s.len s.cap)/\K s
def ldM (a:Addr) (h:Hp) (K:Option Nat->Prop):Prop:=∃ m,dS h a=some (.map m)/\K m
def ldV (a:Addr) (h:Hp) (K:Value->Prop):Prop:=∃ v,dS h a=some v/\K v
def stC (a:Addr) (v:Value) (h:Hp) (K:HP):Prop:=bsel v.oneCell' ((dS h a).isSome=true/\sM h a=false/\K (aEt h a v)) False
inductive CK | i (k:IntKind) | b | p | s | m | v
def ckD:TypeDesc->Option CK
 | .int k=>some (.i k)
 | .bool=>some .b
 | .pointer _=>some .p
 | .slice _=>some .s
 | .map _ _=>some .m
 | .struct _ | .array _ _ | .named _ _ | .tuple _ | .invalid=>none
 | _=>some .v
def ldC (c:CK) (a:Addr) (h:Hp) (K:Value->Prop):Prop:=
 match c with
 | .i k=>ldI k a h λn=>K (.int k n)
 | .b=>ldB a h λb=>K (.bool b)
 | .p=>ldP a h λp=>K (.pointer p)
 | .s=>ldS a h λs=>K (.slice s.a s.len s.cap)
 | .m=>ldM a h λm=>K (.map m)
 | .v=>ldV a h K
theorem aF6 {c:CK} {a:Addr} {h:Hp} {K:Value->Prop} (hh:ldC c a h K):∃ v,dS h a=some v/\K v:=by
 cases c<;>obtain ⟨x,h1,h2⟩:=hh<;>exact ⟨_,h1,h2⟩
mutual
def cksT (P:Program):Nat->TypeId->Option (List CK)
 | 0,_=>none
 | n+1,t=>match P.underlying t with
  | some (.struct fs)=>aLA P n fs.toList
  | some (.array len e)=>match Nat.ble len 64,cksT P n e with
   | true,some l=>match Nat.ble (len*l.length) 100 with
    | true=>some (List.replicate len l).flatten
    | false=>none
   | _,_=>none
  | some d=>(ckD d).map λc=>[c]
  | none=>none
def aLA (P:Program):Nat->List Field->Option (List CK)
 | 0,_=>none
 | _+1,[]=>some []
 | n+1,f::fs=>match cksT P n f.type,aLA P n fs with
  | some a,some b=>some (a++b)
  | _,_=>none
end
def ldL:List CK->Addr->Nat->Hp->(List Value->Prop)->Prop
 | [],_,_,_,K=>K []
 | c::r,a,n,h,K=>ldC c (a.add n) h λv=>ldL r a (n+1) h λvs=>K (v::vs)
theorem aFJ:∀ (l:List CK) (a:Addr) (n:Nat) (h:Hp) (K:List Value->Prop),ldL l a n h K->
  ∃ vs:List Value,vs.length=l.length/\(∀ i,i<l.length->∃ v,vs[i]? = some v/\dS h (a.add (n+i))=some v)/\K vs
 | [],_,_,_,_,hh=>⟨[],rfl,λi hi=>absurd hi (by simp),hh⟩
 | c::r,a,n,h,K,hh=>by
  obtain ⟨v,hv,hk⟩:=aF6 hh;obtain ⟨vs,hl,hc,hk⟩:=aFJ r a (n+1) h _ hk;refine ⟨v::vs,by simp [hl],λi hi=>?_,hk⟩;cases i with
  | zero=>exact ⟨v,rfl,hv⟩
  | succ i=>
   obtain ⟨u,hu,hc⟩:=hc i (by simpa using hi);exact ⟨u,by simpa using hu,by rw [show n+(i+1)=n+1+i by omega];exact hc⟩
def aJk (n:Nat) (a:Addr) (h:Hp) (K:Array Value->Prop):Prop:=∃ cs:Array Value,cs.size=n/\(∀ i,i<n->∃ v,cs[i]? = some v/\dS h (a.add i)=some v)/\K cs
def szOf (P:Program) (t:TypeId):Option Nat:=match P.info? t with | some i=>some i.size | none=>none
def isAggD:TypeDesc->Bool | .struct _ | .array _ _=>true | _=>false
def ldD (P:Program) (t:TypeId) (a:Addr) (h:Hp) (K:Value->Prop):Prop:=
 match P.underlying t,szOf P t with
 | some d,some n=>match isAggD d with
  | true=>match cksT P 40 t with
   | some l=>match Nat.beq l.length n with
    | true=>ldL l a 0 h λvs=>K (.agg vs.toArray)
    | false=>False
   | none=>aJk n a h λcs=>K (.agg cs)
  | false=>match ckD d with
   | some c=>ldC c a h K
   | none=>False
 | _,_=>False
theorem kN {P:Program} {dr:Bool} (a:Addr) (h:Hp) (vs:List Value):∀ (n i:Nat) (acc:Array Value) (K:Array Value->HP),
  (∀ j,j<n->∃ v,vs[j]? = some v/\dS h (a.add (i+j))=some v)->vs.length=n->K (acc++vs.toArray) h->bZ P dr (loadCellsFrom a i n acc) K h:=by
 induction vs with
 | nil=>intro n i acc K _ hn hk;simp at hn;subst hn;exact aR (by simpa using hk)
 | cons v vs ih=>
  intro n i acc K hc hn hk;simp only [List.length_cons] at hn;subst hn;refine aK (yX (v:=v) ?_ ?_)
  ·obtain ⟨u,hu,hh⟩:=hc 0 (by omega);simp at hu;subst hu;exact hh
  ·refine ih vs.length (i+1) (acc.push v) K (λj hj=>?_) rfl (by simpa using hk);obtain ⟨u,hu,hh⟩:=hc (j+1) (by omega);exact ⟨u,by simpa using hu,by rw [show i+1+j=i+(j+1) by omega];exact hh⟩
theorem cJ {P:Program} {dr:Bool} {t:TypeId} {d:TypeDesc} {K:TypeDesc->HP} {h:Hp} (hu:P.underlying t=some d) (hk:K d h):bZ P dr (underlying t) K h:=
 aL (λw=>run_underlying hu w) hk
theorem cE {P:Program} {dr:Bool} {t:TypeId} {i:TypeInfo} {K:TypeInfo->HP} {h:Hp} (hu:P.info? t=some i) (hk:K i h):bZ P dr (typeInfo t) K h:=
 aL (λw=>by simp [typeInfo,hu]) hk
theorem dQ {P:Program} {t:TypeId} {n:Nat} (h:szOf P t=some n):∃ i,P.info? t=some i/\i.size=n:=by
 unfold szOf at h;split at h<;>simp_all
theorem fZ {P:Program} {dr:Bool} {t:TypeId} {n:Nat} {K:Nat->HP} {h:Hp} (hu:szOf P t=some n) (hk:K n h):bZ P dr (sizeOf t) K h:=by
 obtain ⟨i,hi,rfl⟩:=dQ hu;exact aL (λw=>by simp [sizeOf,typeInfo,hi]) hk
theorem aC5 {P:Program} {dr:Bool} {t:TypeId} {d:TypeDesc} {K:Bool->HP} {h:Hp} (hu:P.underlying t=some d) (hk:K (isAggD d) h):bZ P dr (isAgg t) K h:=
 aL (λw=>by cases d<;>simp [isAgg,run_underlying hu,isAggD]) hk
theorem aGR {P:Program} {dr:Bool} {t:TypeId} {a:Addr} {h:Hp} {K:Value->HP} (hh:ldD P t a h λv=>K v h):bZ P dr (loadVar t a) K h:=by
 unfold ldD at hh;split at hh
 ·rename_i d n hu hs;unfold loadVar;refine aK (aC5 hu ?_);split at hh
  ·rename_i hd;rw [hd];simp only [if_true];refine aK (fZ hs ?_);refine hP ?_;split at hh
   ·rename_i l hl;split at hh
    ·rename_i hb;have hb:=Nat.eq_of_beq_eq_true hb;obtain ⟨vs,h1,h2,h3⟩:=aFJ _ _ _ _ _ hh;refine kN a h vs n 0 #[] _ (λj hj=>?_) (by omega) (by simpa using h3);exact h2 j (by omega)
    ·exact hh.elim
   ·obtain ⟨cs,h1,h2,h3⟩:=hh;refine kN a h cs.toList n 0 #[] _ (λj hj=>?_) (by simpa using h1) (by simpa using h3);obtain ⟨v,hv,hc⟩:=h2 j hj;exact ⟨v,by simpa using hv,by simpa using hc⟩
  ·rename_i hd;rw [hd];simp only [Bool.false_eq_true,if_false];split at hh
   ·obtain ⟨v,h1,h2⟩:=aF6 hh;exact yX h1 h2
   ·exact hh.elim
 ·exact hh.elim
def stL:List Value->Addr->Nat->Hp->HP->Prop
 | [],_,_,h,K=>K h
 | v::vs,a,n,h,K=>stC (a.add n) v h λh'=>stL vs a (n+1) h' K
theorem rB {P:Program} {dr:Bool} (a:Addr):∀ (vs:List Value) (i:Nat) (h:Hp) (K:Unit->HP),stL vs a i h (K ())->bZ P dr (storeCells a vs i) K h
 | [],_,_,_,hh=>aR hh
 | v::vs,i,h,K,hh=>by
  obtain ⟨h1,h2,h3,h4⟩:=bD hh;unfold storeCells;exact aK (aB8 h1 h2 h3 (rB a vs (i+1) _ K h4))
def stD (P:Program) (t:TypeId) (a:Addr) (v:Value) (h:Hp) (K:HP):Prop:=
 match szOf P t with
 | some n=>match Nat.beq v.cells.toList.length n with
  | true=>stL v.cells.toList a 0 h K
  | false=>False
 | none=>False
theorem aJ7 {P:Program} {dr:Bool} {t:TypeId} {a:Addr} {v:Value} {h:Hp} {K:Unit->HP} (hh:stD P t a v h (K ())):bZ P dr (storeVar t a v) K h:=by
 unfold stD at hh;split at hh
 ·rename_i n hs;split at hh
  ·rename_i hb;have hb:=Nat.eq_of_beq_eq_true hb;unfold storeVar;refine aK (fZ hs ?_);rw [if_neg (by simpa using hb)];exact rB a _ 0 h K hh
  ·exact hh.elim
 ·exact hh.elim
end Go.Dn
