/- Maps, appends, lengths. -/
import Derived.Test.YtfnkdpmbpgffbaaGreatDnD
namespace Go.Dn
def exL:List CK->(List Value->Prop)->Prop
 | [],K=>K []
 | .i k::r,K=>∃ n:Int,exL r λvs=>K (.int k n::vs)
 | .b::r,K=>∃ n:Bool,exL r λvs=>K (.bool n::vs)
 | .p::r,K=>∃ n:Option Addr,exL r λvs=>K (.pointer n::vs)
 | .s::r,K=>∃ n:Sl,exL r λvs=>K (.slice n.a n.len n.cap::vs)
 | .m::r,K=>∃ n:Option Nat,exL r λvs=>K (.map n::vs)
 | .v::r,K=>∃ n:Value,exL r λvs=>K (n::vs)
theorem aDy:∀ (l:List CK) (K:List Value->Prop),exL l K->∃ vs,vs.length=l.length/\K vs
 | [],_,h=>⟨[],rfl,h⟩
 | c::r,K,h=>by
  cases c<;>(obtain ⟨n,h⟩:=h;obtain ⟨vs,a,b⟩:=aDy r _ h;exact ⟨_,by simp [a],b⟩)
def elD (P:Program) (t:TypeId) (v:Value) (K:Value->Prop):Prop:=
 match P.underlying t with
 | some d=>match isAggD d with
  | true=>match cksT P 40 t with
   | some l=>exL l λvs=>v = .agg vs.toArray/\K (.agg vs.toArray)
   | none=>False
  | false=>match ckD d with
   | some c=>exL [c] λvs=>match vs with | [u]=>v=u/\K u | _=>False
   | none=>False
 | none=>False
def aIc (P:Program) (t:Option TypeId) (v:Value) (K:Value->Prop):Prop:=match t with | some t=>elD P t v K | none=>K v
def aHp (P:Program) (t:Option TypeId) (v:Value) (K:Value->Prop):Prop:=match t with | some t=>elD P t v K | none=>∃ n:Int,v = .int .i64 n/\K (.int .i64 n)
theorem elD_mp {P:Program} {t:TypeId} {v:Value} {K:Value->Prop} (h:elD P t v K):K v:=by
 unfold elD at h;split at h
 .split at h
  .split at h
   .obtain ⟨vs,_,a,b⟩:=aDy _ _ h;exact a ▸ b
   .exact h.elim
  .split at h
   .obtain ⟨vs,c,h⟩:=aDy _ _ h
    match vs,c with
    | [u],_=>exact h.1 ▸ h.2
   .exact h.elim
 .exact h.elim
theorem aKj {P:Program} {t:Option TypeId} {v:Value} {K:Value->Prop} (h:aHp P t v K):K v:=by
 cases t with
 | none=>
  obtain ⟨n,rfl,h⟩:=h;exact h
 | some t=>exact elD_mp h
theorem aJ8 {P:Program} {t:Option TypeId} {v:Value} {K:Value->Prop} (h:aIc P t v K):K v:=by
 cases t with
 | none=>exact h
 | some t=>exact elD_mp h
def eH (P:Program) (t:TypeId) (K:Value->Prop):Prop:=match P.info? t with
 | some i=>match i.zero with
  | some z=>K z
  | none=>False
 | none=>False
theorem nB {P:Program} {t:TypeId} {K:Value->Prop} (h:eH P t K):∃ i z,P.info? t=some i/\i.zero=some z/\K z:=by
 unfold eH at h;split at h
 .grind
 .exact h.elim
def uZ (h:Hp) (m:Option Nat):Option (List MapEntry):=match m with
 | none=>some []
 | some r=>match h[r]? with
  | some (.map es _)=>some es.toList
  | _=>none
def mLk (h:Hp) (m:Option Nat) (k:IntKind) (key:Int) (K:Option Value->Prop):Prop:=
 ∃ es,uZ h m=some es/\∃ r,Instr.findNow (.int k) (.int k key) es 0=some r/\K (r.map (·.2))
def mPut (es:Array MapEntry) (c:Nat) (key v:Value) (o:Option (Nat × Value)):Obj:=match o with
 | some (i,_)=>.map (es.modify i λe=>{ e with key,val:=v }) c
 | none=>.map (es.push { key,val:=v,born:=c }) (c+1)
def mSt (h:Hp) (m:Option Nat) (k:IntKind) (key:Int) (v:Value) (K:HP):Prop:=
 ∃ r es c,m=some r/\h[r]? = some (.map es c)/\∃ o,Instr.findNow (.int k) (.int k key) es.toList 0=some o/\K (h.setIfInBounds r (mPut es c (.int k key) v o))
def mEn (h:Hp) (m:Option Nat) (k:IntKind) (key:Int) (z:Value) (K:Value->Int->HP):Prop:=
 ∃ r es c,m=some r/\h[r]? = some (.map es c)/\∃ o,Instr.findNow (.int k) (.int k key) es.toList 0=some o/\match o with
  | some (i,v)=>∃ e,es[i]? = some e/\K v (e.born:Int) h
  | none=>K z (c:Int) (h.setIfInBounds r (.map (es.push { key:=.int k key,val:=z,born:=c }) (c+1)))
def mES (h:Hp) (m:Option Nat) (born:Int) (v:Value) (K:HP):Prop:=
 ∃ r es c i,m=some r/\h[r]? = some (.map es c)/\es.findIdx? (λe=>(e.born:Int)==born)=some i/\K (h.setIfInBounds r (.map (es.modify i λe=>{ e with val:=v }) c))
def mCut (es:Array MapEntry) (c:Nat) (o:Option (Nat × Value)):Obj:=match o with
 | some (i,_)=>.map (es.eraseIdxIfInBounds i) c
 | none=>.map es c
def mDl (h:Hp) (m:Option Nat) (k:IntKind) (key:Int) (K:HP):Prop:=match m with
 | none=>K h
 | some r=>∃ es c,h[r]? = some (.map es c)/\∃ o,Instr.findNow (.int k) (.int k key) es.toList 0=some o/\K (h.setIfInBounds r (mCut es c o))
def mLn (h:Hp) (m:Option Nat) (K:Int->Prop):Prop:=∃ es,uZ h m=some es/\K (es.length:Int)
def mNx (h:Hp) (a:Addr) (K0:HP) (K1:Value->Value->HP):Prop:=
 ∃ m since seen last,a.off=0/\h[a.block]? = some (.mapIter m since seen last)/\match m with
  | none=>K0 h
  | some m=>∃ es clock,h[m]? = some (.map es clock)/\(!seen.isEmpty&&!es.isEmpty&&es.all (·.born>=last))=false/\
    (((es.filter λe=>!seen.contains e.born).filter (·.born<since)).isEmpty=true->K0 h)/\
    (∀ e ∈ es,seen.contains e.born=false->K1 e.key e.val (h.setIfInBounds a.block (.mapIter (some m) since (seen.push e.born) clock)))
def mEy (h:Hp) (a:Addr) (K:Int->Value->Prop):Prop:=
 ∃ m since seen stepped stamp es clock e n,a.off=0/\h[a.block]? = some (.mapIter (some m) since seen stepped)/\seen.back? = some stamp/\h[m]? = some (.map es clock)/\clock=stepped/\
  es.find? (λe=>e.born==stamp)=some e/\e.key = .int .i64 n/\K n e.val
section
variable {P:Program} {dr:Bool} {h:Hp}
theorem bL (w:World) (b:Bool) {t:TypeId} {k:IntKind} (a:P.underlying t=some (.int k)) (v:Value):(Instr.checkKey b 10000 t v).run P w = .ok () w:=by
 show (Instr.checkKey b (9999+1) t v).run P w=_;unfold Instr.checkKey;simp only [Sem.run_bind,run_underlying a,Result.andThen_ok];cases v<;>rfl
theorem bV (w:World) {t:TypeId} {k:IntKind} (b:P.underlying t=some (.int k)) (v:Value) (a:List MapEntry) (r:Option (Nat × Value)) (c:Instr.findNow (.int k) v a 0=some r) :
  (Instr.findKey t v a).run P w = .ok r w:=by
 unfold Instr.findKey;simp only [Sem.run_bind,run_underlying b,Result.andThen_ok,c,Sem.run_pure]
theorem jW {k:IntKind} {key:Int}:∀ (a:List MapEntry) (j i:Nat) (v:Value),Instr.findNow (.int k) (.int k key) a j=some (some (i,v))->
  j<=i/\∃ e,a[i-j]? = some e/\e.key = .int k key/\e.val=v
 | [],j,i,v,h=>by simp [Instr.findNow] at h
 | e::a,j,i,v,h=>by
  simp only [Instr.findNow] at h;split at h
  .rename_i hs;simp only [Option.some.injEq,Prod.mk.injEq] at h;obtain ⟨rfl,rfl⟩:=h;refine ⟨Nat.le_refl _,e,by simp,?_,rfl⟩;cases b:e.key<;>simp [b,Instr.sameNow] at hs;obtain ⟨rfl,rfl⟩:=hs;rfl
  .obtain ⟨l,c,d,f,g⟩:=jW a (j+1) i v h;refine ⟨by omega,c,?_,f,g⟩;rw [show i-j=i-(j+1)+1 by omega];simpa using d
  .cases h
def lkD (P:Program) (t:TypeId) (m ix:Value) (ok:Bool) (h:Hp) (K:Value->Prop):Prop:=
 match P.underlying t,m,ix with
 | some (.map kt et),.map m,.int k key=>match P.underlying kt with
  | some (.int k')=>bsel (kEq k k') (mLk h m k key λo=>eH P et λz=>elD P et (o.getD z) λv=>match ok with
    | true=>K (.tuple #[v,.bool o.isSome])
    | false=>K v) False
  | _=>False
 | _,_,_=>False
theorem lkD_ok {t:TypeId} {m ix:Value} {ok:Bool} {K:Value->HP} (hh:lkD P t m ix ok h λv=>K v h):cF P dr (Instr.lookup t m ix ok) K h:=by
 unfold lkD at hh;split at hh
 ·rename_i kt et m k key hu;split at hh
  ·rename_i k' hk;obtain ⟨h1,es,h2,r,h3,h4⟩:=bG hh;have h1:=kEq_mp h1;subst h1;obtain ⟨i,z,hi,hz,h4⟩:=nB h4;have h4:=elD_mp h4;intro w hw;subst hw
   have key:∃ v,(Instr.lookup t (.map m) (.int k key) ok).run P w = .ok v w/\K v w.heap:=by
    cases m with
    | none=>
     simp only [uZ,Option.some.injEq] at h2;subst h2;simp only [Instr.findNow,Option.some.injEq] at h3;subst h3
     cases ok<;>refine ⟨_,?_,h4⟩ <;>
      simp [Instr.lookup,run_underlying hu,bL (P:=P) w _ hk,bV (P:=P) w hk _ [] none rfl,zeroValue,typeInfo,hi,hz]
    | some m=>
     simp only [uZ] at h2;cases hb:w.heap[m]? with
     | none=>simp [hb] at h2
     | some o=>
      cases o<;>simp [hb] at h2;rename_i es' c;subst h2;have hg:(getObj m).run P w = .ok (.map es' c) w:=by simp [getObj,Sem.run,hb]
      cases ok<;>cases r<;>refine ⟨_,?_,h4⟩ <;>
       simp [Instr.lookup,run_underlying hu,hg,bL (P:=P) w _ hk,bV (P:=P) w hk _ _ _ h3,zeroValue,typeInfo,hi,hz]
   obtain ⟨v,hr,hk⟩:=key;exact ⟨v,w,hr,hk,Kin.refl dr w⟩
  ·exact hh.elim
 ·exact hh.elim
def muD (P:Program) (t:TypeId) (m ix v:Value) (h:Hp) (K:HP):Prop:=
 match P.underlying t,m,ix with
 | some (.map kt _),.map m,.int k key=>match P.underlying kt with
  | some (.int k')=>bsel (kEq k k') (mSt h m k key v K) False
  | _=>False
 | _,_,_=>False
theorem rM (n:Nat) (k:IntKind) (a:Int):Instr.sameBits n (.int k a) (.int k a)=true:=by
 cases n<;>simp [Instr.sameBits]
theorem muD_ok {t:TypeId} {m ix v:Value} {K:Unit->HP} (hh:muD P t m ix v h (K ())):cF P dr (Instr.mapUpdate t m ix v) K h:=by
 unfold muD at hh;split at hh
 ·rename_i kt et m k key hu;split at hh
  ·rename_i k' hk;obtain ⟨h1,r,es,c,rfl,hb,o,hf,h4⟩:=bG hh;have h1:=kEq_mp h1;subst h1;intro w hw;subst hw;have hg:(getObj r).run P w = .ok (.map es c) w:=by simp [getObj,Sem.run,hb]
   have hs:∀ x,(setObj r x).run P w = .ok () { w with heap:=w.heap.setIfInBounds r x }:=λx=>by simp [setObj,Sem.run,hb]
   refine ⟨(),{ w with heap:=w.heap.setIfInBounds r (mPut es c (.int k key) v o) },?_,h4,⟨rfl,rfl,rfl,λ_=>rfl⟩⟩;cases o with
   | none=>simp [Instr.mapUpdate,run_underlying hu,hg,bL (P:=P) w _ hk,bV (P:=P) w hk _ _ _ hf,hs,mPut]
   | some iv=>
    obtain ⟨i,ov⟩:=iv;obtain ⟨_,e,he,hek,_⟩:=jW _ _ _ _ hf;have he':es[i]? = some e:=by simpa using he
    simp [Instr.mapUpdate,run_underlying hu,hg,bL (P:=P) w _ hk,bV (P:=P) w hk _ _ _ hf,hs,mPut,he',hek,Instr.keyThatStays,rM]
  ·exact hh.elim
 ·exact hh.elim
def meD (P:Program) (t:TypeId) (m ix:Value) (h:Hp) (K:Value->HP):Prop:=
 match P.underlying t,m,ix with
 | some (.map kt et),.map m,.int k key=>match P.underlying kt with
  | some (.int k')=>bsel (kEq k k') (eH P et λz=>mEn h m k key z λv s h'=>elD P et v λv=>K (.tuple #[v,.int .i64 s]) h') False
  | _=>False
 | _,_,_=>False
theorem meD_ok {t:TypeId} {m ix:Value} {K:Value->HP} (hh:meD P t m ix h K):cF P dr (Instr.mapEntry t m ix) K h:=by
 unfold meD at hh;split at hh
 ·rename_i kt et m k key hu;split at hh
  ·rename_i k' hk;obtain ⟨h1,h3⟩:=bG hh;have h1:=kEq_mp h1;subst h1;obtain ⟨it,z,hi,hz,r,es,c,rfl,hb,o,hf,h4⟩:=nB h3;intro w hw;subst hw;have hg:(getObj r).run P w = .ok (.map es c) w:=by simp [getObj,Sem.run,hb]
   have hs:∀ x,(setObj r x).run P w = .ok () { w with heap:=w.heap.setIfInBounds r x }:=λx=>by simp [setObj,Sem.run,hb]
   cases o with
   | none=>
    refine ⟨.tuple #[z,.int .i64 c],{ w with heap:=w.heap.setIfInBounds r (.map (es.push { key:=.int k key,val:=z,born:=c }) (c+1)) },?_,elD_mp h4,⟨rfl,rfl,rfl,λ_=>rfl⟩⟩;simp [Instr.mapEntry,run_underlying hu,hg,bL (P:=P) w _ hk,bV (P:=P) w hk _ _ _ hf,hs,zeroValue,typeInfo,hi,hz,goInt]
   | some iv=>
    obtain ⟨i,ov⟩:=iv;obtain ⟨_,e,he,hek,hev⟩:=jW _ _ _ _ hf;obtain ⟨e',he',h4⟩:=h4;have he2:es[i]? = some e:=by simpa using he
    rw [he2] at he';cases he';refine ⟨.tuple #[ov,.int .i64 e.born],w,?_,elD_mp h4,Kin.refl dr w⟩
    have hsame:es.modify i (λe=>{ e with key:=.int k key })=es:=by
     apply Array.ext (by simp);intro j h1 h2;rw [Array.getElem_modify];split
     ·rename_i q;subst q;have:es[i]=e:=by rw [Array.getElem?_eq_getElem h2] at he2;exact Option.some.inj he2
      rw [this,<- hek]
     ·rfl
    have hs2:(setObj r (.map es c)).run P w = .ok () w:=by
     rw [hs];congr 1;have:w.heap.setIfInBounds r (.map es c)=w.heap:=by grind
     rw [this]
    simp [Instr.mapEntry,run_underlying hu,hg,bL (P:=P) w _ hk,bV (P:=P) w hk _ _ _ hf,he2,hek,Instr.keyThatStays,rM,hsame,hs2,goInt]
  ·exact hh.elim
 ·exact hh.elim
def esD (m st v:Value) (h:Hp) (K:HP):Prop:=
 match m,st with
 | .map m,.int _ s=>mES h m s v K
 | _,_=>False
theorem esD_ok {t:TypeId} {m st v:Value} {K:Unit->HP} (hh:esD m st v h (K ())):cF P dr (Instr.entryStore t m st v) K h:=by
 unfold esD at hh;split at hh
 ·rename_i m k s;obtain ⟨r,es,c,i,rfl,hb,hf,h4⟩:=hh;intro w hw;subst hw;have hg:(getObj r).run P w = .ok (.map es c) w:=by simp [getObj,Sem.run,hb]
  have hs:∀ x,(setObj r x).run P w = .ok () { w with heap:=w.heap.setIfInBounds r x }:=λx=>by simp [setObj,Sem.run,hb]
  refine ⟨(),{ w with heap:=w.heap.setIfInBounds r (.map (es.modify i λe=>{ e with val:=v }) c) },?_,h4,⟨rfl,rfl,rfl,λ_=>rfl⟩⟩;simp [Instr.entryStore,hg,asInt,asIntOf,hf,hs]
 ·exact hh.elim
def mdD (P:Program) (t:TypeId) (m ix:Value) (h:Hp) (K:HP):Prop:=
 match P.underlying t,m,ix with
 | some (.map kt _),.map m,.int k key=>match P.underlying kt with
  | some (.int k')=>bsel (kEq k k') (mDl h m k key K) False
  | _=>False
 | _,_,_=>False
theorem aMd {t:TypeId} {m ix:Value} {ts:Array TypeId} {ty:TypeId} (ht:ts[0]? = some t) {K:Value->HP} (hh:mdD P t m ix h (K (.tuple #[]))):cF P dr (Builtin.delete_ ts ty #[m,ix]) K h:=by
 unfold mdD at hh;split at hh
 ·rename_i kt et m k key hu;split at hh
  ·rename_i k' hk;obtain ⟨h1,h4⟩:=bG hh;have h1:=kEq_mp h1;subst h1;intro w hw;subst hw;cases m with
   | none=>
    refine ⟨_,w,?_,h4,Kin.refl dr w⟩;simp [Builtin.delete_,ht,run_underlying hu,bL (P:=P) w _ hk]
   | some r=>
    obtain ⟨es,c,hb,o,hf,h4⟩:=h4;have hg:(getObj r).run P w = .ok (.map es c) w:=by simp [getObj,Sem.run,hb]
    have hs:∀ x,(setObj r x).run P w = .ok () { w with heap:=w.heap.setIfInBounds r x }:=λx=>by simp [setObj,Sem.run,hb]
    refine ⟨_,{ w with heap:=w.heap.setIfInBounds r (mCut es c o) },?_,h4,⟨rfl,rfl,rfl,λ_=>rfl⟩⟩;cases o with
    | none=>simp [Builtin.delete_,ht,run_underlying hu,hg,bL (P:=P) w _ hk,bV (P:=P) w hk _ _ _ hf,hs,mCut]
    | some iv=>simp [Builtin.delete_,ht,run_underlying hu,hg,bL (P:=P) w _ hk,bV (P:=P) w hk _ _ _ hf,hs,mCut]
  ·exact hh.elim
 ·exact hh.elim
theorem aHg {t:TypeId} {K:Value->HP} (a:K (.map (some h.size)) (h.push (.map #[] 0))):cF P dr (Instr.makeMap t none) K h:=by
 intro w b;subst b;exact ⟨_,{ w with heap:=w.heap.push (.map #[] 0) },by simp [Instr.makeMap],a,⟨rfl,rfl,rfl,λ_=>rfl⟩⟩
def mkS (bytes:Nat) (l c:Int) (K:Prop):Prop:=bsel (decide (0<=l)&&decide (l<=c)&&decide ((bytes:Int)*c<=281474976710656)&&decide (c<=9223372036854775807)) K False
def mkD (P:Program) (t:TypeId) (l c:Value) (h:Hp) (K:Value->HP):Prop:=
 match P.underlying t,l,c with
 | some (.slice e),.int _ l,.int _ c=>match P.info? e with
  | some i=>match i.zero with
   | some z=>mkS i.bytes l c (K (.slice (some ⟨h.size,0,none⟩) l.toNat c.toNat) (h.push (.cells (madeCells z.cells (c.toNat*i.size)) e)))
   | none=>False
  | none=>False
 | _,_,_=>False
theorem mkD_ok {t:TypeId} {l c:Value} {K:Value->HP} (a:mkD P t l c h K):cF P dr (Instr.makeSlice t l c) K h:=by
 unfold mkD at a;split at a
 .rename_i e d l f c g;split at a
  .rename_i i hi;split at a
   .rename_i z j;obtain ⟨b,k⟩:=bG a;simp only [Bool.and_eq_true,decide_eq_true_eq] at b;intro w m;subst m;exact ⟨_,w.alloc _,run_make w t e i z g hi j d f l c b.1.1.1 b.1.1.2 b.1.2 b.2,k,⟨rfl,rfl,rfl,λ_=>rfl⟩⟩
   .exact a.elim
  .exact a.elim
 .exact a.elim
def lnD (P:Program) (t:TypeId) (x:Value) (h:Hp) (K:Value->Prop):Prop:=
 match P.underlying t,x with
 | some (.array n _),_=>K (.int .i64 n)
 | some (.slice _),.slice _ n _=>K (.int .i64 n)
 | some (.map _ _),.map m=>mLn h m λn=>K (.int .i64 n)
 | _,_=>False
theorem aLQ {t:TypeId} {x:Value} {l:Array TypeId} {ty:TypeId} (g:l[0]? = some t) {K:Value->HP} (b:lnD P t x h λv=>K v h):cF P dr (Builtin.len_ l ty #[x]) K h:=by
 unfold lnD at b;split at b
 .rename_i n e d;refine aK (λw=>?_) b;simp [Builtin.len_,g,run_underlying d,goInt]
 .rename_i e a n c d;refine aK (λw=>?_) b;simp [Builtin.len_,g,run_underlying d,goInt]
 .rename_i k e m d;obtain ⟨s,f,p⟩:=b;intro w q;subst q;cases m with
  | none=>
   simp only [uZ,Option.some.injEq] at f;subst f;exact ⟨_,w,by simp [Builtin.len_,g,run_underlying d,goInt],p,Kin.refl dr w⟩
  | some m=>
   simp only [uZ] at f;cases i:w.heap[m]? with
   | none=>simp [i] at f
   | some o=>
    cases o<;>simp [i] at f;rename_i j c;subst f;have r:(getObj m).run P w = .ok (.map j c) w:=by simp [getObj,Sem.run,i]
    exact ⟨_,w,by simp [Builtin.len_,g,run_underlying d,goInt,r],p,Kin.refl dr w⟩
 .exact b.elim
def mxD (max:Bool) (x y:Value) (K:Value->Prop):Prop:=
 match x,y with
 | .int k a,.int _ b=>match max with
  | true=>K (.int k (if b > a then b else a))
  | false=>K (.int k (if b<a then b else a))
 | _,_=>False
end
end Go.Dn
