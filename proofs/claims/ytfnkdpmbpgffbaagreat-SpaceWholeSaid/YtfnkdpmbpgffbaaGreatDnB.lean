/- The operations of the model, each as a predicate over the heap; that each is what the model does. -/
import Derived.Test.YtfnkdpmbpgffbaaGreatDnA
namespace Go.Dn
def bsel (b:Bool) (A B:Prop):Prop:=match b with | true=>A | false=>B
def aF (p:Option Addr) (K:Addr->Prop):Prop:=match p with | some a=>K a | none=>False
structure Sl where
 a:Option Addr
 len:Nat
 cap:Nat
def Sl.nil:Sl:=⟨none,0,0⟩
theorem dA {b:Bool} {A B:Prop}:bsel b A B↔(b=true->A)/\(b=false->B):=by cases b<;>simp [bsel]
theorem bsel_mp {b:Bool} {A B:Prop} (h:bsel b A B):(b=true/\A)\/(b=false/\B):=by cases b<;>simp_all [bsel]
theorem yH {b:Bool} {A:Prop} (h:bsel b False A):b=false/\A:=by cases b<;>simp_all [bsel]
theorem bG {b:Bool} {A:Prop} (h:bsel b A False):b=true/\A:=by cases b<;>simp_all [bsel]
theorem oB {p:Option Addr} {K:Addr->Prop} (h:aF p K):∃ a,p=some a/\K a:=by cases p<;>simp_all [aF]
def ldI (k:IntKind) (a:Addr) (h:Hp) (K:Int->Prop):Prop:=∃ n,dI h a=some (.int k n)/\K n
def ldB (a:Addr) (h:Hp) (K:Bool->Prop):Prop:=∃ b,dI h a=some (.bool b)/\K b
def ldP (a:Addr) (h:Hp) (K:Option Addr->Prop):Prop:=∃ p,dI h a=some (.pointer p)/\K p
def ldS (a:Addr) (h:Hp) (K:Sl->Prop):Prop:=∃ s:Sl,dI h a=some (.slice s.a s.len s.cap)/\K s
def ldM (a:Addr) (h:Hp) (K:Option Nat->Prop):Prop:=∃ m,dI h a=some (.map m)/\K m
def ldV (a:Addr) (h:Hp) (K:Value->Prop):Prop:=∃ v,dI h a=some v/\K v
def stC (a:Addr) (v:Value) (h:Hp) (K:HP):Prop:=bsel v.oneCell' ((dI h a).isSome=true/\uN h a=false/\K (aFI h a v)) False
inductive CK | i (k:IntKind) | b | p | s | m | v
def ckD:TypeDesc->Option CK
 | .int k=>some (.i k)
 | .bool=>some .b
 | .pointer _=>some .p
 | .slice _=>some .s
 | .map _ _=>some .m
 | .struct _ | .array _ _ | .named _ _ | .tuple _ | .invalid=>none
 | _=>some .v
def ldC (c:CK) (a:Addr) (h:Hp) (K:Value->Prop):Prop:=
 match c with
 | .i k=>ldI k a h λn=>K (.int k n)
 | .b=>ldB a h λb=>K (.bool b)
 | .p=>ldP a h λp=>K (.pointer p)
 | .s=>ldS a h λs=>K (.slice s.a s.len s.cap)
 | .m=>ldM a h λm=>K (.map m)
 | .v=>ldV a h K
theorem aGS {c:CK} {a:Addr} {h:Hp} {K:Value->Prop} (b:ldC c a h K):∃ v,dI h a=some v/\K v:=by
 cases c<;>obtain ⟨x,d,e⟩:=b<;>exact ⟨_,d,e⟩
mutual
def cksT (P:Program):Nat->TypeId->Option (List CK)
 | 0,_=>none
 | n+1,t=>match P.underlying t with
  | some (.struct fs)=>aNf P n fs.toList
  | some (.array len e)=>match Nat.ble len 64,cksT P n e with
   | true,some l=>match Nat.ble (len*l.length) 100 with
    | true=>some (List.replicate len l).flatten
    | false=>none
   | _,_=>none
  | some d=>(ckD d).map λc=>[c]
  | none=>none
def aNf (P:Program):Nat->List Field->Option (List CK)
 | 0,_=>none
 | _+1,[]=>some []
 | n+1,f::fs=>match cksT P n f.type,aNf P n fs with
  | some a,some b=>some (a++b)
  | _,_=>none
end
def ldL:List CK->Addr->Nat->Hp->(List Value->Prop)->Prop
 | [],_,_,_,K=>K []
 | c::r,a,n,h,K=>ldC c (a.add n) h λv=>ldL r a (n+1) h λvs=>K (v::vs)
theorem aGC:∀ (l:List CK) (a:Addr) (n:Nat) (h:Hp) (K:List Value->Prop),ldL l a n h K->
  ∃ vs:List Value,vs.length=l.length/\(∀ i,i<l.length->∃ v,vs[i]? = some v/\dI h (a.add (n+i))=some v)/\K vs
 | [],_,_,_,_,hh=>⟨[],rfl,λi hi=>absurd hi (by simp),hh⟩
 | c::r,a,n,h,K,hh=>by
  obtain ⟨v,e,b⟩:=aGS hh;obtain ⟨vs,f,d,b⟩:=aGC r a (n+1) h _ b;refine ⟨v::vs,by simp [f],λi hi=>?_,b⟩;cases i with
  | zero=>exact ⟨v,rfl,e⟩
  | succ i=>
   obtain ⟨u,g,d⟩:=d i (by simp_all);exact ⟨u,by simpa using g,by rw [show n+(i+1)=n+1+i by omega];exact d⟩
def aKH (n:Nat) (a:Addr) (h:Hp) (K:Array Value->Prop):Prop:=∃ cs:Array Value,cs.size=n/\(∀ i,i<n->∃ v,cs[i]? = some v/\dI h (a.add i)=some v)/\K cs
def szOf (P:Program) (t:TypeId):Option Nat:=match P.info? t with | some i=>some i.size | none=>none
def isAggD:TypeDesc->Bool | .struct _ | .array _ _=>true | _=>false
def ldD (P:Program) (t:TypeId) (a:Addr) (h:Hp) (K:Value->Prop):Prop:=
 match P.underlying t,szOf P t with
 | some d,some n=>match isAggD d with
  | true=>match cksT P 40 t with
   | some l=>match Nat.beq l.length n with
    | true=>ldL l a 0 h λvs=>K (.agg vs.toArray)
    | false=>False
   | none=>aKH n a h λcs=>K (.agg cs)
  | false=>match ckD d with
   | some c=>ldC c a h K
   | none=>False
 | _,_=>False
theorem lU {P:Program} {dr:Bool} (a:Addr) (h:Hp) (vs:List Value):∀ (n i:Nat) (b:Array Value) (K:Array Value->HP),
  (∀ j,j<n->∃ v,vs[j]? = some v/\dI h (a.add (i+j))=some v)->vs.length=n->K (b++vs.toArray) h->cF P dr (loadCellsFrom a i n b) K h:=by
 induction vs with
 | nil=>intro n i b K _ c g;simp at c;subst c;exact aQ (by simp_all)
 | cons v vs ih=>
  intro n i b K f c g;simp only [List.length_cons] at c;subst c;refine aH (aAK (v:=v) ?_ ?_)
  .obtain ⟨u,d,e⟩:=f 0 (by omega);simp at d;subst d;exact e
  .refine ih vs.length (i+1) (b.push v) K (λj k=>?_) rfl (by simp_all);obtain ⟨u,d,e⟩:=f (j+1) (by omega);exact ⟨u,by simpa using d,by rw [show i+1+j=i+(j+1) by omega];exact e⟩
theorem cR {P:Program} {dr:Bool} {t:TypeId} {d:TypeDesc} {K:TypeDesc->HP} {h:Hp} (a:P.underlying t=some d) (b:K d h):cF P dr (underlying t) K h:=
 aK (λw=>run_underlying a w) b
theorem cM {P:Program} {dr:Bool} {t:TypeId} {i:TypeInfo} {K:TypeInfo->HP} {h:Hp} (a:P.info? t=some i) (b:K i h):cF P dr (typeInfo t) K h:=
 aK (λw=>by simp [typeInfo,a]) b
theorem dY {P:Program} {t:TypeId} {n:Nat} (h:szOf P t=some n):∃ i,P.info? t=some i/\i.size=n:=by
 unfold szOf at h;split at h<;>simp_all
theorem gR {P:Program} {dr:Bool} {t:TypeId} {n:Nat} {K:Nat->HP} {h:Hp} (a:szOf P t=some n) (b:K n h):cF P dr (sizeOf t) K h:=by
 obtain ⟨i,hi,rfl⟩:=dY a;exact aK (λw=>by simp [sizeOf,typeInfo,hi]) b
theorem aDC {P:Program} {dr:Bool} {t:TypeId} {d:TypeDesc} {K:Bool->HP} {h:Hp} (a:P.underlying t=some d) (b:K (isAggD d) h):cF P dr (isAgg t) K h:=
 aK (λw=>by cases d<;>simp [isAgg,run_underlying a,isAggD]) b
theorem aHD {P:Program} {dr:Bool} {t:TypeId} {a:Addr} {h:Hp} {K:Value->HP} (b:ldD P t a h λv=>K v h):cF P dr (loadVar t a) K h:=by
 unfold ldD at b;split at b
 .rename_i d n k hs;unfold loadVar;refine aH (aDC k ?_);split at b
  .rename_i e;rw [e];simp only [if_true];refine aH (gR hs ?_);refine iL ?_;split at b
   .rename_i l q;split at b
    .rename_i g;have g:=Nat.eq_of_beq_eq_true g;obtain ⟨vs,f,c,m⟩:=aGC _ _ _ _ _ b;refine lU a h vs n 0 #[] _ (λj i=>?_) (by omega) (by simp_all);exact c j (by omega)
    .exact b.elim
   .obtain ⟨cs,f,c,m⟩:=b;refine lU a h cs.toList n 0 #[] _ (λj i=>?_) (by omega) (by simp_all);obtain ⟨v,o,p⟩:=c j i;exact ⟨v,by simpa using o,by simpa using p⟩
  .rename_i e;rw [e];simp only [Bool.false_eq_true,if_false];split at b
   .obtain ⟨v,f,c⟩:=aGS b;exact aAK f c
   .exact b.elim
 .exact b.elim
def stL:List Value->Addr->Nat->Hp->HP->Prop
 | [],_,_,h,K=>K h
 | v::vs,a,n,h,K=>stC (a.add n) v h λh'=>stL vs a (n+1) h' K
theorem t7 {P:Program} {dr:Bool} (a:Addr):∀ (vs:List Value) (i:Nat) (h:Hp) (K:Unit->HP),stL vs a i h (K ())->cF P dr (storeCells a vs i) K h
 | [],_,_,_,hh=>aQ hh
 | v::vs,i,h,K,hh=>by
  obtain ⟨b,c,d,e⟩:=bG hh;unfold storeCells;exact aH (aEf b c d (t7 a vs (i+1) _ K e))
def stD (P:Program) (t:TypeId) (a:Addr) (v:Value) (h:Hp) (K:HP):Prop:=
 match szOf P t with
 | some n=>match Nat.beq v.cells.toList.length n with
  | true=>stL v.cells.toList a 0 h K
  | false=>False
 | none=>False
theorem aL1 {P:Program} {dr:Bool} {t:TypeId} {a:Addr} {v:Value} {h:Hp} {K:Unit->HP} (b:stD P t a v h (K ())):cF P dr (storeVar t a v) K h:=by
 unfold stD at b;split at b
 .rename_i n hs;split at b
  .rename_i c;have c:=Nat.eq_of_beq_eq_true c;unfold storeVar;refine aH (gR hs ?_);rw [if_neg (by simp_all)];exact t7 a _ 0 h K b
  .exact b.elim
 .exact b.elim
end Go.Dn
