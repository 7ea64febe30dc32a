/- Appends and copies; maps that are ranged over. -/
import Derived.Test.YtmfmhmipcdgikaaGreatDnE
namespace Go.Dn
def aC9 (h:Hp) (a:Option Addr) (n:Nat) (vs:List Value):Prop:=match a with
 | some a=>vs.length=n/\∀ i,i<n->∃ v,vs[i]? = some v/\dS h (a.add i)=some v
 | none=>vs=[]
def stR (a:Option Addr) (o:Nat) (vs:List Value) (h:Hp) (K:HP):Prop:=match a with
 | some a=>stL vs (a.add o) 0 h K
 | none=>K h
def apH (sz bytes:Nat) (zc:Array Value) (e:TypeId) (s x:Sl) (h:Hp) (K:Sl->HP):Prop:=
 ∃ news,aC9 h x.a (x.len*sz) news/\
  (s.len+x.len<=s.cap->stR s.a (s.len*sz) news h (K ⟨s.a,s.len+x.len,s.cap⟩))/\
  (s.cap<s.len+x.len->∃ olds,aC9 h s.a (s.len*sz) olds/\s.len+x.len<=9223372036854775807/\
   Builtin.nextslicecap (s.len+x.len) s.cap*bytes<=281474976710656/\
   ∀ cap,s.len+x.len<=cap->K ⟨some ⟨h.size,0,none⟩,s.len+x.len,cap⟩
    (h.push (.cells (olds.toArray++news.toArray++Builtin.zeroCells zc (cap-(s.len+x.len))) e)))
def zNews (sz:Nat) (zc:Array Value) (n:Int):List Value:=if n.toNat*sz=0 then [] else (Builtin.zeroCells zc n.toNat).toList
def aMi (sz bytes:Nat) (zc:Array Value) (e:TypeId) (s:Sl) (n:Int) (h:Hp) (K:Sl->HP):Prop:=
 (0<=n/\n<=9223372036854775807/\n*(bytes:Int)<=281474976710656)/\
  (s.len+n.toNat<=s.cap->stR s.a (s.len*sz) (zNews sz zc n) h (K ⟨s.a,s.len+n.toNat,s.cap⟩))/\
  (s.cap<s.len+n.toNat->∃ olds,aC9 h s.a (s.len*sz) olds/\s.len+n.toNat<=9223372036854775807/\
   Builtin.nextslicecap (s.len+n.toNat) s.cap*bytes<=281474976710656/\
   ∀ cap,s.len+n.toNat<=cap->K ⟨some ⟨h.size,0,none⟩,s.len+n.toNat,cap⟩
    (h.push (.cells (olds.toArray++(zNews sz zc n).toArray++Builtin.zeroCells zc (cap-(s.len+n.toNat))) e)))
def apD (P:Program) (t t2:TypeId) (s x:Value) (h:Hp) (K:Value->HP):Prop:=
 match P.underlying t,P.underlying t2,s,x with
 | some (.slice e),some (.slice _),.slice sa sl sc,.slice xa xl xc=>match P.info? e with
  | some i=>match i.zero with
   | some z=>apH i.size i.bytes z.cells e ⟨sa,sl,sc⟩ ⟨xa,xl,xc⟩ h λr=>K (.slice r.a r.len r.cap)
   | none=>False
  | none=>False
 | some (.slice e),some (.int _),.slice sa sl sc,.int _ n=>match P.info? e with
  | some i=>match i.zero with
   | some z=>aMi i.size i.bytes z.cells e ⟨sa,sl,sc⟩ n h λr=>K (.slice r.a r.len r.cap)
   | none=>False
  | none=>False
 | _,_,_,_=>False
def cpH (sz:Nat) (d s:Sl) (h:Hp) (K:Int->HP):Prop:=
 ∃ vs,aC9 h s.a (Nat.min s.len d.len*sz) vs/\stR d.a 0 vs h (K (Nat.min s.len d.len:Nat))
def cpD (P:Program) (t:TypeId) (d s:Value) (h:Hp) (K:Value->HP):Prop:=
 match P.underlying t,d,s with
 | some (.slice e),.slice da dl dc,.slice sa sl sc=>match szOf P e with
  | some n=>cpH n ⟨da,dl,dc⟩ ⟨sa,sl,sc⟩ h λr=>K (.int .i64 r)
  | none=>False
 | _,_,_=>False
theorem lW:∀ (vs:List Value) (a:Addr) (n:Nat) (h:Hp) (K K':HP),stL vs a n h K->(∀ h',K h'->K' h')->stL vs a n h K'
 | [],_,_,_,_,_,hh,hk=>hk _ hh
 | v::vs,a,n,h,K,K',hh,hk=>by
  obtain ⟨h1,h2,h3,h4⟩:=bD hh;exact cX.2 ⟨λ_=>⟨h2,h3,lW vs a (n+1) _ K K' h4 hk⟩,λe=>by rw [h1] at e;cases e⟩
section
variable {P:Program} {dr:Bool} {h:Hp}
theorem d9 {sz n:Nat} {a:Option Addr} {l c:Nat} {vs:List Value} {K:Array Value->HP} (hr:aC9 h a (n*sz) vs) (hk:K vs.toArray h) :
  bZ P dr (Builtin.firstCells sz n (.slice a l c)) K h:=by
 cases a with
 | none=>simp only [aC9] at hr;subst hr;exact aR hk
 | some a=>
  obtain ⟨h1,h2⟩:=hr;refine kN a h vs (n*sz) 0 #[] _ (λj hj=>?_) h1 (by simpa using hk);simpa using h2 j hj
theorem aJZ {t t2:TypeId} {s x:Value} {ty:TypeId} {K:Value->HP} (hh:apD P t t2 s x h K):bZ P false (Builtin.append_ #[t,t2] ty #[s,x]) K h:=by
 unfold apD at hh;split at hh
 ·rename_i e e2 sa sl sc xa xl xc hu hu2;split at hh
  ·rename_i i hi;split at hh
   ·rename_i z hz;obtain ⟨news,hn,h1,h2⟩:=hh;unfold Builtin.append_;refine aK (cJ hu ?_);refine aK (fZ (n:=i.size) (by simp [szOf,hi]) ?_);refine aK (cJ hu2 ?_);refine aK (aR ?_)
    dsimp only
    rw [if_neg (by simp)];refine aK (aR ?_);by_cases hc:sl+xl<=sc
    ·rw [if_pos hc,if_pos (by simp)];refine aK (d9 hn ?_)
     dsimp only
     have:=h1 hc;cases sa with
     | none=>exact aR this
     | some a=>exact aK (rB _ _ 0 h _ (lW _ _ _ _ _ _ this λh' hh=>aR hh))
    ·rw [if_neg hc];obtain ⟨olds,ho,hb,hf,hk⟩:=h2 (by simpa using Nat.lt_of_not_le hc);refine aK (cE hi ?_);have e0:IntKind.i64.max=9223372036854775807:=by decide
     rw [if_neg (by rw [e0];dsimp only at hb;omega)];refine aK (cE hi ?_);rw [if_neg (by simpa using hf)];refine aK (lB (λhq=>by cases hq) (λ_ tk=>?_));refine aK (cE hi ?_);refine aK (aL (v:=()) (λw=>by simp) ?_);refine aK (d9 ho ?_);rw [if_pos (by simp)];refine aK (d9 hn ?_);refine aK (aL (v:=z) (λw=>by simp [zeroValue,typeInfo,hi,hz]) ?_);refine aK (hP (qJ (aR ?_)));refine hk _ ?_;exact Nat.le_add_right _ _
   ·exact hh.elim
  ·exact hh.elim
 ·rename_i e k2 sa sl sc k n hu hu2;split at hh
  ·rename_i i hi;split at hh
   ·rename_i z hz;obtain ⟨⟨hn0,hn1,hn2⟩,h1,h2⟩:=hh
    have hw:IntKind.i64.wrap n=n:=by
     simp only [IntKind.wrap,IntKind.bits,IntKind.signed];simp only [Bool.true_and,decide_eq_true_eq,ge_iff_le];split<;>omega
    have happ:∀ {K:Array Value->HP} {h:Hp},K (zNews i.size z.cells n).toArray h->bZ P false ((if !true then Builtin.firstCells i.size n.toNat (.int k n)
      else if n.toNat*i.size=0 then pure #[] else do pure (Builtin.zeroCells (<- zeroValue e).cells n.toNat)):Sem (Array Value)) K h:=λ{K h} hk=>by
     rw [if_neg (by simp)];unfold zNews at hk;by_cases g:n.toNat*i.size=0
     ·rw [if_pos g] at hk ⊢;exact aR hk
     ·rw [if_neg g] at hk ⊢;refine aK (aL (v:=z) (λw=>by simp [zeroValue,typeInfo,hi,hz]) (aR ?_));simpa using hk
    unfold Builtin.append_;refine aK (cJ hu ?_);refine aK (fZ (n:=i.size) (by simp [szOf,hi]) ?_);refine aK (cJ hu2 ?_);refine aK (aR ?_)
    dsimp only
    rw [if_pos rfl];refine aK (aL (s:=asInt (.int k n)) (v:=n) (λw=>by simp [asInt,asIntOf]) ?_);rw [hw,if_neg (by omega)];refine aK (cE hi ?_);rw [if_neg (by simpa using hn2)];refine aK (aR ?_);by_cases hc:sl+n.toNat<=sc
    ·rw [if_pos hc];refine aK (happ ?_)
     dsimp only
     have:=h1 hc;cases sa with
     | none=>exact aR this
     | some a=>
      have this:stL (zNews i.size z.cells n) (a.add (sl*i.size)) 0 h (K (.slice (some a) (sl+n.toNat) sc)):=this;exact aK (rB _ _ 0 h _ (lW _ _ _ _ _ _ (by simpa using this) λh' hh=>aR hh))
    ·rw [if_neg hc];obtain ⟨olds,ho,hb,hf,hk⟩:=h2 (by simpa using Nat.lt_of_not_le hc);have e0:IntKind.i64.max=9223372036854775807:=by decide
     refine aK (cE hi ?_);rw [if_neg (by rw [e0];dsimp only at hb;omega)];refine aK (cE hi ?_);rw [if_neg (by simpa using hf)];refine aK (lB (λhq=>by cases hq) (λ_ tk=>?_));refine aK (cE hi ?_);refine aK (aL (v:=()) (λw=>by simp) ?_);refine aK (d9 ho ?_);refine aK (happ ?_);refine aK (aL (v:=z) (λw=>by simp [zeroValue,typeInfo,hi,hz]) ?_);refine aK (hP (qJ (aR ?_)));refine hk _ ?_;exact Nat.le_add_right _ _
   ·exact hh.elim
  ·exact hh.elim
 ·exact hh.elim
theorem aJP {t:TypeId} {d s:Value} {ts:Array TypeId} {ty:TypeId} (ht:ts[0]? = some t) {K:Value->HP} (hh:cpD P t d s h K):bZ P dr (Builtin.copy_ ts ty #[d,s]) K h:=by
 unfold cpD at hh;split at hh
 ·rename_i e da dl dc sa sl sc hu;split at hh
  ·rename_i n hs;obtain ⟨vs,h1,h2⟩:=hh;unfold Builtin.copy_;simp only [ht];refine aK (cJ hu ?_);refine aK (aR ?_);refine aK (fZ hs ?_);refine aK (d9 h1 ?_);cases da with
   | none=>exact aR h2
   | some a=>exact aK (rB _ _ 0 h _ (lW _ _ _ _ _ _ (show stL vs (a.add 0) 0 h _ from h2) λh' hh=>aR hh))
  ·exact hh.elim
 ·exact hh.elim
def clD (P:Program) (t:TypeId) (x:Value) (h:Hp) (K:Value->HP):Prop:=
 match P.underlying t,x with
 | some (.slice e),.slice a n _=>match P.info? e with
  | some i=>match i.zero with
   | some z=>stR a 0 (Builtin.zeroCells z.cells n).toList h (K (.tuple #[]))
   | none=>False
  | none=>False
 | _,_=>False
theorem aK8 {t:TypeId} {x:Value} {ts:Array TypeId} {ty:TypeId} (ht:ts[0]? = some t) {K:Value->HP} (hh:clD P t x h K):bZ P dr (Builtin.clear_ ts ty #[x]) K h:=by
 unfold clD at hh;split at hh
 ·rename_i e a n c hu;split at hh
  ·rename_i i hi;split at hh
   ·rename_i z hz;unfold Builtin.clear_;simp only [ht];refine aK (cJ hu ?_);cases a with
    | none=>exact aK (aR (aR hh))
    | some a=>
     cases n with
     | zero=>
      have h2:stL (Builtin.zeroCells z.cells 0).toList a 0 h (K (.tuple #[])):=hh;have h3:Builtin.zeroCells z.cells 0 = #[]:=by simp [Builtin.zeroCells]
      rw [h3] at h2;exact aK (aR (aR h2))
     | succ n=>
      refine aK (aK (cE hi ?_));rw [hz];refine aR ?_;exact aK (rB _ _ 0 h _ (lW _ _ _ _ _ _ (show stL (Builtin.zeroCells z.cells (n+1)).toList (a.add 0) 0 h _ from hh) λh' hh=>aR hh))
   ·exact hh.elim
  ·exact hh.elim
 ·exact hh.elim
def caD (P:Program) (t:TypeId) (x:Value) (K:Value->Prop):Prop:=
 match P.underlying t,x with
 | some (.slice _),.slice _ _ c=>K (.int .i64 c)
 | _,_=>False
theorem aJR {t:TypeId} {x:Value} {ts:Array TypeId} {ty:TypeId} (ht:ts[0]? = some t) {K:Value->HP} (hh:caD P t x λv=>K v h):bZ P dr (Builtin.cap_ ts ty #[x]) K h:=by
 unfold caD at hh;split at hh
 ·rename_i e a n c hu;refine aL (λw=>?_) hh;simp [Builtin.cap_,ht,run_underlying hu,goInt]
 ·exact hh.elim
def rgH (h:Hp) (m:Option Nat) (K:Addr->HP):Prop:=match m with
 | none=>K ⟨h.size,0,none⟩ (h.push (.mapIter none 0 #[] 0))
 | some r=>∃ es c,h[r]? = some (.map es c)/\K ⟨h.size,0,none⟩ (h.push (.mapIter (some r) c #[] c))
def rgD (P:Program) (t:TypeId) (x:Value) (h:Hp) (K:Value->HP):Prop:=
 match P.underlying t,x with
 | some (.map _ _),.map m=>rgH h m λa=>K (.pointer (some a))
 | _,_=>False
theorem rgD_ok {t:TypeId} {x:Value} {K:Value->HP} (hh:rgD P t x h K):bZ P dr (Instr.range t x) K h:=by
 unfold rgD at hh;split at hh
 ·rename_i k e m hu;intro w hw;subst hw;cases m with
  | none=>exact ⟨_,{ w with heap:=w.heap.push (.mapIter none 0 #[] 0) },by simp [Instr.range,run_underlying hu],hh,⟨rfl,rfl,rfl,λ_=>rfl⟩⟩
  | some r=>
   obtain ⟨es,c,hb,hk⟩:=hh;have hg:(getObj r).run P w = .ok (.map es c) w:=by simp [getObj,Sem.run,hb]
   exact ⟨_,{ w with heap:=w.heap.push (.mapIter (some r) c #[] c) },by simp [Instr.range,run_underlying hu,hg],hk,⟨rfl,rfl,rfl,λ_=>rfl⟩⟩
 ·exact hh.elim
def eyD (it:Value) (h:Hp) (K:Value->Prop):Prop:=
 match it with
 | .pointer (some a)=>mEy h a λn v=>K (.tuple #[.int .i64 n,v])
 | _=>False
theorem eyD_ok {it:Value} {K:Value->HP} (hh:eyD it h λv=>K v h):bZ P dr (Instr.entry it) K h:=by
 unfold eyD at hh;split at hh
 ·rename_i a;obtain ⟨m,since,seen,stepped,stamp,es,clock,e,n,ha,hb,hs,hm,hc,hf,hk,hh⟩:=hh;obtain ⟨b,o,s⟩:=a;simp only [] at ha hb;subst ha hc;intro w hw;subst hw;have hg1:(getObj b).run P w = .ok (.mapIter (some m) since seen clock) w:=by simp [getObj,Sem.run,hb]
  have hg2:(getObj m).run P w = .ok (.map es clock) w:=by simp [getObj,Sem.run,hm]
  refine ⟨.tuple #[.int .i64 n,e.val],w,?_,hh,Kin.refl dr w⟩;simp [Instr.entry,hg1,hg2,hs,hf,hk]
 ·exact hh.elim
def nxD (P:Program) (it:Value) (kt et:Option TypeId) (h:Hp) (K:Value->HP):Prop:=
 match it with
 | .pointer (some a)=>mNx h a (K (.tuple #[.bool false])) λk v h'=>aGk P kt k λk=>aGT P et v λv=>K (.tuple #[.bool true,k,v]) h'
 | _=>False
theorem aHr {it:Value} {kt et:Option TypeId} {ty:TypeId} {K:Value->HP} (hh:nxD P it kt et h K):bZ P false (Instr.next it false ty) K h:=by
 unfold nxD at hh;split at hh
 ·rename_i a;obtain ⟨m,since,seen,last,ha,hb,hh⟩:=hh;obtain ⟨b,o,s⟩:=a;simp only [] at ha hb hh;subst ha;unfold Instr.next
  refine aK (sX hb (by simp) ?_);cases m with
  | none=>exact aR hh
  | some m=>
   obtain ⟨es,clock,hm,hs,h0,h1⟩:=hh;refine aK (sX hm (by simp) ?_)
   dsimp only
   rw [if_neg (by simpa using hs)];refine aK ?_;generalize hleft:es.filter (λe=>!seen.contains e.born)=left
   have hcand:∀ (n:Nat) (c:Option MapEntry),((if (left.filter (λe=>e.born<since)).isEmpty=true then #[none] else #[])++(left.filter (λe=>e.born<since)++left.filter (λe=>e.born>=since)).map some)[n]? = some c->
     (c=none/\(left.filter (λe=>e.born<since)).isEmpty=true)\/∃ e ∈ es,seen.contains e.born=false/\c=some e:=by
    intro n c hc;have hmem:=Array.mem_of_getElem? hc;rw [Array.mem_append] at hmem;rcases hmem with hmem | hmem
    ·split at hmem
     ·rename_i he;simp at hmem;exact .inl ⟨hmem,he⟩
     ·simp at hmem
    ·obtain ⟨e,he,rfl⟩:=Array.mem_map.1 hmem
     have hel:e ∈ left:=by
      rw [Array.mem_append] at he;rcases he with he | he<;>exact (Array.mem_filter.1 he).1
     rw [<-hleft] at hel;have:=Array.mem_filter.1 hel;exact .inr ⟨e,this.1,by simpa using this.2,rfl⟩
   generalize hcs:((if (left.filter (λe=>e.born<since)).isEmpty=true then #[none] else #[])++(left.filter (λe=>e.born<since)++left.filter (λe=>e.born>=since)).map some)=cs at hcand
   have hpos:0<cs.size:=by
    rw [<-hcs];cases ho:(left.filter (λe=>decide (e.born<since))).isEmpty with
    | true=>simp only [ite_true,Array.size_append];simp;omega
    | false=>
     have:(left.filter (λe=>decide (e.born<since))).size≠0:=λe=>by
      rw [Array.isEmpty_eq_false_iff] at ho;exact ho (Array.eq_empty_of_size_eq_zero e)
     simp only [Array.size_append,Array.size_map];omega
   have fin:∀ n,n<cs.size->bZ P false (match cs[n]? with
     | some (some e)=>do
      setObj b (.mapIter (some m) since (seen.push e.born) clock)
      pure (.tuple #[.bool true,e.key,e.val])
     | some none=>pure (.tuple #[.bool false])
     | none => stuck "Next: no such candidate") K h := by
    intro n hn;cases hc:cs[n]? with
    | none=>rw [Array.getElem?_eq_getElem hn] at hc;cases hc
    | some c=>
     rcases hcand n c hc with ⟨rfl,he⟩ | ⟨e,he,hseen,rfl⟩
     ·exact aR (h0 (by rw [hleft];exact he))
     ·have hk:=aI9 (aIN (h1 e he hseen));exact aK (aAZ hb (by simp) (aR hk))
   exact lB (λ_=>fin 0 hpos) (λ_ t=>fin _ (Nat.mod_lt _ hpos))
 ·exact hh.elim
end
end Go.Dn
