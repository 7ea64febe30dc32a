/- Appends and copies; maps that are ranged over. -/
import Derived.Test.YtfnkdpmbpgffbaaGreatDnE
namespace Go.Dn
def aEd (h:Hp) (a:Option Addr) (n:Nat) (vs:List Value):Prop:=match a with
 | some a=>vs.length=n/\∀ i,i<n->∃ v,vs[i]? = some v/\dI h (a.add i)=some v
 | none=>vs=[]
def stR (a:Option Addr) (o:Nat) (vs:List Value) (h:Hp) (K:HP):Prop:=match a with
 | some a=>stL vs (a.add o) 0 h K
 | none=>K h
def apH (sz bytes:Nat) (zc:Array Value) (e:TypeId) (s x:Sl) (h:Hp) (K:Sl->HP):Prop:=
 ∃ news,aEd h x.a (x.len*sz) news/\
  (s.len+x.len<=s.cap->stR s.a (s.len*sz) news h (K ⟨s.a,s.len+x.len,s.cap⟩))/\
  (s.cap<s.len+x.len->∃ olds,aEd h s.a (s.len*sz) olds/\s.len+x.len<=9223372036854775807/\
   Builtin.nextslicecap (s.len+x.len) s.cap*bytes<=281474976710656/\
   ∀ cap,s.len+x.len<=cap->K ⟨some ⟨h.size,0,none⟩,s.len+x.len,cap⟩
    (h.push (.cells (olds.toArray++news.toArray++Builtin.zeroCells zc (cap-(s.len+x.len))) e)))
def zNews (sz:Nat) (zc:Array Value) (n:Int):List Value:=if n.toNat*sz=0 then [] else (Builtin.zeroCells zc n.toNat).toList
def aMU (sz bytes:Nat) (zc:Array Value) (e:TypeId) (s:Sl) (n:Int) (h:Hp) (K:Sl->HP):Prop:=
 (0<=n/\n<=9223372036854775807/\n*(bytes:Int)<=281474976710656)/\
  (s.len+n.toNat<=s.cap->stR s.a (s.len*sz) (zNews sz zc n) h (K ⟨s.a,s.len+n.toNat,s.cap⟩))/\
  (s.cap<s.len+n.toNat->∃ olds,aEd h s.a (s.len*sz) olds/\s.len+n.toNat<=9223372036854775807/\
   Builtin.nextslicecap (s.len+n.toNat) s.cap*bytes<=281474976710656/\
   ∀ cap,s.len+n.toNat<=cap->K ⟨some ⟨h.size,0,none⟩,s.len+n.toNat,cap⟩
    (h.push (.cells (olds.toArray++(zNews sz zc n).toArray++Builtin.zeroCells zc (cap-(s.len+n.toNat))) e)))
def apD (P:Program) (t t2:TypeId) (s x:Value) (h:Hp) (K:Value->HP):Prop:=
 match P.underlying t,P.underlying t2,s,x with
 | some (.slice e),some (.slice _),.slice sa sl sc,.slice xa xl xc=>match P.info? e with
  | some i=>match i.zero with
   | some z=>apH i.size i.bytes z.cells e ⟨sa,sl,sc⟩ ⟨xa,xl,xc⟩ h λr=>K (.slice r.a r.len r.cap)
   | none=>False
  | none=>False
 | some (.slice e),some (.int _),.slice sa sl sc,.int _ n=>match P.info? e with
  | some i=>match i.zero with
   | some z=>aMU i.size i.bytes z.cells e ⟨sa,sl,sc⟩ n h λr=>K (.slice r.a r.len r.cap)
   | none=>False
  | none=>False
 | _,_,_,_=>False
def cpH (sz:Nat) (d s:Sl) (h:Hp) (K:Int->HP):Prop:=
 ∃ vs,aEd h s.a (Nat.min s.len d.len*sz) vs/\stR d.a 0 vs h (K (Nat.min s.len d.len:Nat))
def cpD (P:Program) (t:TypeId) (d s:Value) (h:Hp) (K:Value->HP):Prop:=
 match P.underlying t,d,s with
 | some (.slice e),.slice da dl dc,.slice sa sl sc=>match szOf P e with
  | some n=>cpH n ⟨da,dl,dc⟩ ⟨sa,sl,sc⟩ h λr=>K (.int .i64 r)
  | none=>False
 | _,_,_=>False
theorem mT:∀ (vs:List Value) (a:Addr) (n:Nat) (h:Hp) (K K':HP),stL vs a n h K->(∀ h',K h'->K' h')->stL vs a n h K'
 | [],_,_,_,_,_,hh,hk=>hk _ hh
 | v::vs,a,n,h,K,K',hh,hk=>by
  obtain ⟨b,c,d,f⟩:=bG hh;exact dA.2 ⟨λ_=>⟨c,d,mT vs a (n+1) _ K K' f hk⟩,λe=>by rw [b] at e;cases e⟩
section
variable {P:Program} {dr:Bool} {h:Hp}
theorem eQ {sz n:Nat} {a:Option Addr} {l c:Nat} {vs:List Value} {K:Array Value->HP} (b:aEd h a (n*sz) vs) (d:K vs.toArray h) :
  cF P dr (Builtin.firstCells sz n (.slice a l c)) K h:=by
 cases a with
 | none=>simp only [aEd] at b;subst b;exact aQ d
 | some a=>
  obtain ⟨e,f⟩:=b;refine lU a h vs (n*sz) 0 #[] _ (λj g=>?_) e (by simp_all);simpa using f j g
theorem aK0 {t t2:TypeId} {s x:Value} {ty:TypeId} {K:Value->HP} (b:apD P t t2 s x h K):cF P false (Builtin.append_ #[t,t2] ty #[s,x]) K h:=by
 unfold apD at b;split at b
 .rename_i e M p sl m N D O q f;split at b
  .rename_i i hi;split at b
   .rename_i z o;obtain ⟨B,C,r,u⟩:=b;unfold Builtin.append_;refine aH (cR q ?_);refine aH (gR (n:=i.size) (by simp [szOf,hi]) ?_);refine aH (cR f ?_);refine aH (aQ ?_)
    dsimp only
    rw [if_neg (by simp)];refine aH (aQ ?_);by_cases j:sl+D<=m
    .rw [if_pos j,if_pos (by simp)];refine aH (eQ C ?_)
     dsimp only
     have:=r j;cases p with
     | none=>exact aQ this
     | some a=>exact aH (t7 _ _ 0 h _ (mT _ _ _ _ _ _ this λh' b=>aQ b))
    .rw [if_neg j];obtain ⟨l,y,E,F,c⟩:=u (by simp_all);refine aH (cM hi ?_);have G:IntKind.i64.max=9223372036854775807:=by decide
     rw [if_neg (by grind)];refine aH (cM hi ?_);rw [if_neg (by simp_all)];refine aH (mU (λA=>by cases A) (λ_ tk=>?_));refine aH (cM hi ?_);refine aH (aK (v:=()) (λw=>by simp) ?_);refine aH (eQ y ?_);rw [if_pos (by simp)];refine aH (eQ C ?_);refine aH (aK (v:=z) (λw=>by simp [zeroValue,typeInfo,hi,o]) ?_);refine aH (iL (sF (aQ ?_)));refine c _ ?_;exact Nat.le_add_right _ _
   .exact b.elim
  .exact b.elim
 .rename_i e k2 p sl m k n q f;split at b
  .rename_i i hi;split at b
   .rename_i z o;obtain ⟨⟨H,I,J⟩,r,u⟩:=b
    have L:IntKind.i64.wrap n=n:=by
     simp only [IntKind.wrap,IntKind.bits,IntKind.signed];simp only [Bool.true_and,decide_eq_true_eq,ge_iff_le];split<;>omega
    have d:∀ {K:Array Value->HP} {h:Hp},K (zNews i.size z.cells n).toArray h->cF P false ((if !true then Builtin.firstCells i.size n.toNat (.int k n)
      else if n.toNat*i.size=0 then pure #[] else do pure (Builtin.zeroCells (<- zeroValue e).cells n.toNat)):Sem (Array Value)) K h:=λ{K h} c=>by
     rw [if_neg (by simp)];unfold zNews at c;by_cases g:n.toNat*i.size=0
     .rw [if_pos g] at c ⊢;exact aQ c
     .rw [if_neg g] at c ⊢;refine aH (aK (v:=z) (λw=>by simp [zeroValue,typeInfo,hi,o]) (aQ ?_));simpa using c
    unfold Builtin.append_;refine aH (cR q ?_);refine aH (gR (n:=i.size) (by simp [szOf,hi]) ?_);refine aH (cR f ?_);refine aH (aQ ?_)
    dsimp only
    rw [if_pos rfl];refine aH (aK (s:=asInt (.int k n)) (v:=n) (λw=>by simp [asInt,asIntOf]) ?_);rw [L,if_neg (by omega)];refine aH (cM hi ?_);rw [if_neg (by omega)];refine aH (aQ ?_);by_cases j:sl+n.toNat<=m
    .rw [if_pos j];refine aH (d ?_)
     dsimp only
     have:=r j;cases p with
     | none=>exact aQ this
     | some a=>
      have this:stL (zNews i.size z.cells n) (a.add (sl*i.size)) 0 h (K (.slice (some a) (sl+n.toNat) m)):=this;exact aH (t7 _ _ 0 h _ (mT _ _ _ _ _ _ (by omega) λh' b=>aQ b))
    .rw [if_neg j];obtain ⟨l,y,E,F,c⟩:=u (by simp_all);have G:IntKind.i64.max=9223372036854775807:=by decide
     refine aH (cM hi ?_);rw [if_neg (by grind)];refine aH (cM hi ?_);rw [if_neg (by simp_all)];refine aH (mU (λA=>by cases A) (λ_ tk=>?_));refine aH (cM hi ?_);refine aH (aK (v:=()) (λw=>by simp) ?_);refine aH (eQ y ?_);refine aH (d ?_);refine aH (aK (v:=z) (λw=>by simp [zeroValue,typeInfo,hi,o]) ?_);refine aH (iL (sF (aQ ?_)));refine c _ ?_;exact Nat.le_add_right _ _
   .exact b.elim
  .exact b.elim
 .exact b.elim
theorem aK1 {t:TypeId} {d s:Value} {c:Array TypeId} {ty:TypeId} (g:c[0]? = some t) {K:Value->HP} (b:cpD P t d s h K):cF P dr (Builtin.copy_ c ty #[d,s]) K h:=by
 unfold cpD at b;split at b
 .rename_i e i l m o sl p j;split at b
  .rename_i n hs;obtain ⟨vs,k,f⟩:=b;unfold Builtin.copy_;simp only [g];refine aH (cR j ?_);refine aH (aQ ?_);refine aH (gR hs ?_);refine aH (eQ k ?_);cases i with
   | none=>exact aQ f
   | some a=>exact aH (t7 _ _ 0 h _ (mT _ _ _ _ _ _ (show stL vs (a.add 0) 0 h _ from f) λh' b=>aQ b))
  .exact b.elim
 .exact b.elim
def clD (P:Program) (t:TypeId) (x:Value) (h:Hp) (K:Value->HP):Prop:=
 match P.underlying t,x with
 | some (.slice e),.slice a n _=>match P.info? e with
  | some i=>match i.zero with
   | some z=>stR a 0 (Builtin.zeroCells z.cells n).toList h (K (.tuple #[]))
   | none=>False
  | none=>False
 | _,_=>False
theorem aLj {t:TypeId} {x:Value} {d:Array TypeId} {ty:TypeId} (g:d[0]? = some t) {K:Value->HP} (b:clD P t x h K):cF P dr (Builtin.clear_ d ty #[x]) K h:=by
 unfold clD at b;split at b
 .rename_i e a n c j;split at b
  .rename_i i hi;split at b
   .rename_i z k;unfold Builtin.clear_;simp only [g];refine aH (cR j ?_);cases a with
    | none=>exact aH (aQ (aQ b))
    | some a=>
     cases n with
     | zero=>
      have f:stL (Builtin.zeroCells z.cells 0).toList a 0 h (K (.tuple #[])):=b;have l:Builtin.zeroCells z.cells 0 = #[]:=by simp [Builtin.zeroCells]
      rw [l] at f;exact aH (aQ (aQ f))
     | succ n=>
      refine aH (aH (cM hi ?_));rw [k];refine aQ ?_;exact aH (t7 _ _ 0 h _ (mT _ _ _ _ _ _ (show stL (Builtin.zeroCells z.cells (n+1)).toList (a.add 0) 0 h _ from b) λh' b=>aQ b))
   .exact b.elim
  .exact b.elim
 .exact b.elim
def caD (P:Program) (t:TypeId) (x:Value) (K:Value->Prop):Prop:=
 match P.underlying t,x with
 | some (.slice _),.slice _ _ c=>K (.int .i64 c)
 | _,_=>False
theorem aLv {t:TypeId} {x:Value} {d:Array TypeId} {ty:TypeId} (f:d[0]? = some t) {K:Value->HP} (b:caD P t x λv=>K v h):cF P dr (Builtin.cap_ d ty #[x]) K h:=by
 unfold caD at b;split at b
 .rename_i e a n c g;refine aK (λw=>?_) b;simp [Builtin.cap_,f,run_underlying g,goInt]
 .exact b.elim
def rgH (h:Hp) (m:Option Nat) (K:Addr->HP):Prop:=match m with
 | none=>K ⟨h.size,0,none⟩ (h.push (.mapIter none 0 #[] 0))
 | some r=>∃ es c,h[r]? = some (.map es c)/\K ⟨h.size,0,none⟩ (h.push (.mapIter (some r) c #[] c))
def rgD (P:Program) (t:TypeId) (x:Value) (h:Hp) (K:Value->HP):Prop:=
 match P.underlying t,x with
 | some (.map _ _),.map m=>rgH h m λa=>K (.pointer (some a))
 | _,_=>False
theorem rgD_ok {t:TypeId} {x:Value} {K:Value->HP} (a:rgD P t x h K):cF P dr (Instr.range t x) K h:=by
 unfold rgD at a;split at a
 .rename_i k e m b;intro w d;subst d;cases m with
  | none=>exact ⟨_,{ w with heap:=w.heap.push (.mapIter none 0 #[] 0) },by simp [Instr.range,run_underlying b],a,⟨rfl,rfl,rfl,λ_=>rfl⟩⟩
  | some r=>
   obtain ⟨f,c,g,i⟩:=a;have j:(getObj r).run P w = .ok (.map f c) w:=by simp [getObj,Sem.run,g]
   exact ⟨_,{ w with heap:=w.heap.push (.mapIter (some r) c #[] c) },by simp [Instr.range,run_underlying b,j],i,⟨rfl,rfl,rfl,λ_=>rfl⟩⟩
 .exact a.elim
def eyD (it:Value) (h:Hp) (K:Value->Prop):Prop:=
 match it with
 | .pointer (some a)=>mEy h a λn v=>K (.tuple #[.int .i64 n,v])
 | _=>False
theorem eyD_ok {p:Value} {K:Value->HP} (f:eyD p h λv=>K v h):cF P dr (Instr.entry p) K h:=by
 unfold eyD at f;split at f
 .rename_i a;obtain ⟨m,d,g,i,j,t,c,e,n,q,r,hs,u,x,y,z,f⟩:=f;obtain ⟨b,o,s⟩:=a;simp only [] at q r;subst q x;intro w A;subst A;have k:(getObj b).run P w = .ok (.mapIter (some m) d g c) w:=by simp [getObj,Sem.run,r]
  have l:(getObj m).run P w = .ok (.map t c) w:=by simp [getObj,Sem.run,u]
  refine ⟨.tuple #[.int .i64 n,e.val],w,?_,f,Kin.refl dr w⟩;simp [Instr.entry,k,l,hs,y,z]
 .exact f.elim
def nxD (P:Program) (it:Value) (kt et:Option TypeId) (h:Hp) (K:Value->HP):Prop:=
 match it with
 | .pointer (some a)=>mNx h a (K (.tuple #[.bool false])) λk v h'=>aHp P kt k λk=>aIc P et v λv=>K (.tuple #[.bool true,k,v]) h'
 | _=>False
theorem aIb {z:Value} {D E:Option TypeId} {ty:TypeId} {K:Value->HP} (l:nxD P z D E h K):cF P false (Instr.next z false ty) K h:=by
 unfold nxD at l;split at l
 .rename_i a;obtain ⟨m,d,g,last,A,x,l⟩:=l;obtain ⟨b,o,s⟩:=a;simp only [] at A x l;subst A;unfold Instr.next
  refine aH (u6 x (by simp) ?_);cases m with
  | none=>exact aQ l
  | some m=>
   obtain ⟨B,q,F,hs,G,H⟩:=l;refine aH (u6 F (by simp) ?_)
   dsimp only
   rw [if_neg (by simp_all)];refine aH ?_;generalize i:B.filter (λe=>!g.contains e.born)=left
   have j:∀ (n:Nat) (c:Option MapEntry),((if (left.filter (λe=>e.born<d)).isEmpty=true then #[none] else #[])++(left.filter (λe=>e.born<d)++left.filter (λe=>e.born>=d)).map some)[n]? = some c->
     (c=none/\(left.filter (λe=>e.born<d)).isEmpty=true)\/∃ e ∈ B,g.contains e.born=false/\c=some e:=by
    intro n c u;have f:=Array.mem_of_getElem? u;rw [Array.mem_append] at f;rcases f with f | f
    .simp_all
    .obtain ⟨e,k,rfl⟩:=Array.mem_map.1 f
     have v:e ∈ left:=by
      rw [Array.mem_append] at k;rcases k with k | k<;>exact (Array.mem_filter.1 k).1
     rw [<-i] at v;have:=Array.mem_filter.1 v;exact .inr ⟨e,this.1,by simpa using this.2,rfl⟩
   generalize y:((if (left.filter (λe=>e.born<d)).isEmpty=true then #[none] else #[])++(left.filter (λe=>e.born<d)++left.filter (λe=>e.born>=d)).map some)=cs at j
   have p:0<cs.size:=by
    rw [<-y];cases C:(left.filter (λe=>decide (e.born<d))).isEmpty with
    | true=>simp only [ite_true,Array.size_append];simp;omega
    | false=>
     have:(left.filter (λe=>decide (e.born<d))).size≠0:=λe=>by
      rw [Array.isEmpty_eq_false_iff] at C;exact C (Array.eq_empty_of_size_eq_zero e)
     simp only [Array.size_append,Array.size_map];omega
   have w:∀ n,n<cs.size->cF P false (match cs[n]? with
     | some (some e)=>do
      setObj b (.mapIter (some m) d (g.push e.born) q)
      pure (.tuple #[.bool true,e.key,e.val])
     | some none=>pure (.tuple #[.bool false])
     | none => stuck "Next: no such candidate") K h := by
    intro n I;cases u:cs[n]? with
    | none=>rw [Array.getElem?_eq_getElem I] at u;cases u
    | some c=>
     rcases j n c u with ⟨rfl,k⟩ | ⟨e,k,r,rfl⟩
     .exact aQ (G (by rw [i];exact k))
     .have J:=aJ8 (aKj (H e k r));exact aH (aB3 x (by simp) (aQ J))
   exact mU (λ_=>w 0 p) (λ_ t=>w _ (Nat.mod_lt _ p))
 .exact l.elim
end
end Go.Dn
