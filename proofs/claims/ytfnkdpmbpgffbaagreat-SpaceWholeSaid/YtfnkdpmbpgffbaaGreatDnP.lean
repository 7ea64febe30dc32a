/- The reading over a part of the heap: what an operation asks. -/
import Derived.Test.YtfnkdpmbpgffbaaGreatDnL
namespace Go.Dn
def aGh (c:CK) (a:Addr) (A:AH) (K:Value->Prop):Prop:=
 match c with
 | .i k=>aI k a A λn=>K (.int k n)
 | .b=>aB a A λb=>K (.bool b)
 | .p=>aP a A λp=>K (.pointer p)
 | .s=>aS a A λs=>K (.slice s.a s.len s.cap)
 | .m=>aM a A λm=>K (.map m)
 | .v=>aV a A K
def aEk:List CK->Addr->Nat->AH->(List Value->Prop)->Prop
 | [],_,_,_,K=>K []
 | c::r,a,n,A,K=>aGh c (a.add n) A λv=>aEk r a (n+1) A λvs=>K (v::vs)
def aFx (P:Program) (t:TypeId) (a:Addr) (A:AH) (K:Value->Prop):Prop:=
 match P.underlying t,szOf P t with
 | some d,some n=>match isAggD d with
  | true=>match cksT P 40 t with
   | some l=>match Nat.beq l.length n with
    | true=>aEk l a 0 A λvs=>K (.agg vs.toArray)
    | false=>False
   | none=>aJP n a A λcs=>K (.agg cs)
  | false=>match ckD d with
   | some c=>aGh c a A K
   | none=>False
 | _,_=>False
def aLd (P:Program) (t:TypeId) (a:Addr) (v:Value) (A:AH) (K:AP):Prop:=
 match szOf P t with
 | some n=>match Nat.beq v.cells.toList.length n with
  | true=>vB v.cells.toList a 0 A K
  | false=>False
 | none=>False
def aIj (P:Program) (t:TypeId) (m ix:Value) (ok:Bool) (A:AH) (K:Value->Prop):Prop:=
 match P.underlying t,m,ix with
 | some (.map kt et),.map m,.int k key=>match P.underlying kt with
  | some (.int k')=>bsel (kEq k k') (lG A m k key λo=>eH P et λz=>elD P et (o.getD z) λv=>match ok with
    | true=>K (.tuple #[v,.bool o.isSome])
    | false=>K v) False
  | _=>False
 | _,_,_=>False
def aIY (P:Program) (t:TypeId) (m ix v:Value) (A:AH) (K:AP):Prop:=
 match P.underlying t,m,ix with
 | some (.map kt _),.map m,.int k key=>match P.underlying kt with
  | some (.int k')=>bsel (kEq k k') (mK A m k key v K) False
  | _=>False
 | _,_,_=>False
def aLD (P:Program) (t:TypeId) (m ix:Value) (A:AH) (K:Value->AP):Prop:=
 match P.underlying t,m,ix with
 | some (.map kt et),.map m,.int k key=>match P.underlying kt with
  | some (.int k')=>bsel (kEq k k') (eH P et λz=>aMT A m k key z λv s A'=>elD P et v λv=>K (.tuple #[v,.int .i64 s]) A') False
  | _=>False
 | _,_,_=>False
def aLI (m st v:Value) (A:AH) (K:AP):Prop:=
 match m,st with
 | .map m,.int _ s=>aMK A m s v K
 | _,_=>False
def aL4 (P:Program) (t:TypeId) (m ix:Value) (A:AH) (K:AP):Prop:=
 match P.underlying t,m,ix with
 | some (.map kt _),.map m,.int k key=>match P.underlying kt with
  | some (.int k')=>bsel (kEq k k') (qW A m k key K) False
  | _=>False
 | _,_,_=>False
def aLV (P:Program) (t:TypeId) (l c:Value) (A:AH) (K:Value->AP):Prop:=
 match P.underlying t,l,c with
 | some (.slice e),.int _ l,.int _ c=>match P.info? e with
  | some i=>match i.zero with
   | some z=>mkS i.bytes l c (aN A (.cells (madeCells z.cells (c.toNat*i.size)) e) λb=>K (.slice (some ⟨b,0,none⟩) l.toNat c.toNat))
   | none=>False
  | none=>False
 | _,_,_=>False
def aH1 (P:Program) (t:TypeId) (x:Value) (A:AH) (K:Value->Prop):Prop:=
 match P.underlying t,x with
 | some (.array n _),_=>K (.int .i64 n)
 | some (.slice _),.slice _ n _=>K (.int .i64 n)
 | some (.map _ _),.map m=>aIz A m λn=>K (.int .i64 n)
 | _,_=>False
def aLu (P:Program) (t t2:TypeId) (s x:Value) (A:AH) (K:Value->AP):Prop:=
 match P.underlying t,P.underlying t2,s,x with
 | some (.slice e),some (.slice _),.slice sa sl sc,.slice xa xl xc=>match P.info? e with
  | some i=>match i.zero with
   | some z=>dM i.size i.bytes z.cells e ⟨sa,sl,sc⟩ ⟨xa,xl,xc⟩ A λr=>K (.slice r.a r.len r.cap)
   | none=>False
  | none=>False
 | some (.slice e),some (.int _),.slice sa sl sc,.int _ n=>match P.info? e with
  | some i=>match i.zero with
   | some z=>apZ i.size i.bytes z.cells e ⟨sa,sl,sc⟩ n A λr=>K (.slice r.a r.len r.cap)
   | none=>False
  | none=>False
 | _,_,_,_=>False
def aL2 (P:Program) (t:TypeId) (d s:Value) (A:AH) (K:Value->AP):Prop:=
 match P.underlying t,d,s with
 | some (.slice e),.slice da dl dc,.slice sa sl sc=>match szOf P e with
  | some n=>cpA n ⟨da,dl,dc⟩ ⟨sa,sl,sc⟩ A λr=>K (.int .i64 r)
  | none=>False
 | _,_,_=>False
def aLM (P:Program) (t:TypeId) (x:Value) (A:AH) (K:Value->AP):Prop:=
 match P.underlying t,x with
 | some (.slice e),.slice a n c=>match P.info? e with
  | some i=>match i.zero with
   | some z=>aG0 z.cells ⟨a,n,c⟩ A (K (.tuple #[]))
   | none=>False
  | none=>False
 | _,_=>False
def aLf (P:Program) (t:TypeId) (x:Value) (A:AH) (K:Value->AP):Prop:=
 match P.underlying t,x with
 | some (.map _ _),.map m=>rgA A m λa=>K (.pointer (some a))
 | _,_=>False
def aK8 (it:Value) (A:AH) (K:Value->Prop):Prop:=
 match it with
 | .pointer (some a)=>aEy A a λn v=>K (.tuple #[.int .i64 n,v])
 | _=>False
def aI8 (P:Program) (it:Value) (kt et:Option TypeId) (A:AH) (K:Value->AP):Prop:=
 match it with
 | .pointer (some a)=>aNx A a (K (.tuple #[.bool false])) λk v A'=>aHp P kt k λk=>aIc P et v λv=>K (.tuple #[.bool true,k,v]) A'
 | _=>False
def aK2 (P:Program) (t:TypeId) (len:Nat) (parts:List (Nat × Value)) (A:AH) (K:Value->AP):Prop:=
 match P.underlying t with
 | some (.slice e)=>match P.info? e with
  | some i=>match i.zero with
   | some z=>match Nat.ble (len*i.size) 16777216,Nat.beq (len*i.size) 0,parts with
    | true,false,_=>match Instr.fill (λj=>some (j*i.size,i.size)) (madeCells z.cells (len*i.size)) parts with
     | some cells=>aN A (.cells cells e) λb=>K (.slice (some ⟨b,0,none⟩) len len)
     | none=>False
    | true,true,[]=>aN A (.cells #[] e) λb=>K (.slice (some ⟨b,0,none⟩) len len)
    | _,_,_=>False
   | none=>False
  | none=>False
 | _=>False
def aJ9 (P:Program) (b:Builtin) (ts:List TypeId) (args:List Value) (A:AH) (K Kp:Value->AP):Prop:=
 match b,ts,args with
 | .append,[t,t2],[s,x]=>aLu P t t2 s x A K
 | .len,[t],[x]=>aH1 P t x A λv=>K v A
 | .copy,t::_,[d,s]=>aL2 P t d s A K
 | .clear,t::_,[x]=>aLM P t x A K
 | .cap,t::_,[x]=>caD P t x λv=>K v A
 | .delete,t::_,[m,k]=>aL4 P t m k A (K (.tuple #[]))
 | .max,_,x::r=>gV true x r λv=>K v A
 | .min,_,x::r=>gV false x r λv=>K v A
 | .panic,_,[.iface t v]=>Kp (.iface t v) A
 | _,_,_=>False
abbrev CTA:=FuncId->List Value->(Value->AP)->(Value->AP)->AP
def aA2 (P:Program) (C:CTA) (ρ:Env) (c:Call) (A:AH) (K Kp:Value->AP):Prop:=
 match c.callee with
 | .value f=>wV ρ f λfv=>match fv with
  | .func (.func g) first cap=>wL ρ c.args.toList λvs=>C g (first.toList++vs++cap.toList) K Kp A
  | _=>False
 | .builtin b=>wL ρ c.args.toList λvs=>aJ9 P b c.argTypes.toList vs A K Kp
 | .invoke _ _=>False
def opV (P:Program) (C:CTA) (ρ:Env) (o:Oper) (A:AH) (K Kp:Value->AP) (Kd:Deferred->AP):Prop:=
 match o.op with
 | .move x=>wV ρ x λv=>K v A
 | .assign x=>wV ρ x λv=>K v A
 | .pick c a b=>wV ρ c λvc=>match vc with
  | .bool t=>bsel t (wV ρ a λv=>K v A) (wV ρ b λv=>K v A)
  | _=>False
 | .alloc t=>eH P t λz=>aN A (.cells z.cells t) λb=>K (.pointer (some ⟨b,0,none⟩))
 | .box t x=>wV ρ x λv=>aN A (.cells v.cells t) λb=>K (.pointer (some ⟨b,0,none⟩))
 | .build t ps=>wP ρ ps.toList λvs=>match P.built t vs with
  | some cells=>K (.agg cells) A
  | none=>False
 | .buildSlice t len ps=>wP ρ ps.toList λvs=>aK2 P t len vs A K
 | .load t a=>wV ρ a λva=>kV va λad=>aFx P t ad A λv=>K v A
 | .store t a x=>wV ρ a λva=>kV va λad=>wV ρ x λv=>aLd P t ad v A (K undef)
 | .nilCheck x=>wV ρ x λv=>zC v λu=>K u A
 | .binOp op t x y _=>wV ρ x λvx=>wV ρ y λvy=>aAY P op t vx vy λv=>K v A
 | .unOp op _ x=>wV ρ x λv=>unD op v λu=>K u A
 | .convert s d x=>wV ρ x λv=>cvD P s d v λu=>K u A
 | .makeInterface t x=>yD P t (wV ρ x λv=>K (.iface t v) A)
 | .makeFunc fn first cap=>wL ρ first.toList λa=>wL ρ cap.toList λb=>K (.func fn a.toArray b.toArray) A
 | .makeMap _ none=>aN A (.map #[] 0) λb=>K (.map (some b))
 | .makeSlice t l c=>wV ρ l λvl=>wV ρ c λvc=>aLV P t vl vc A K
 | .slice t x lo hi mx=>wV ρ x λv=>wO ρ lo λl=>wO ρ hi λi=>wO ρ mx λm=>aBq P t v l i m λu=>K u A
 | .fieldAddr s x f=>wV ρ x λv=>wW P s v f λu=>K u A
 | .field t x f=>wV ρ x λv=>fvD P t v f λu=>K u A
 | .indexAddr t x i=>wV ρ x λv=>wV ρ i λvi=>xY P t v vi λu=>K u A
 | .index t x i=>wV ρ x λv=>wV ρ i λvi=>aAL P t v vi λu=>K u A
 | .lookup t m k ok=>wV ρ m λvm=>wV ρ k λvk=>aIj P t vm vk ok A λv=>K v A
 | .mapUpdate t m k x=>wV ρ m λvm=>wV ρ k λvk=>wV ρ x λv=>aIY P t vm vk v A (K undef)
 | .insert t m k x=>wV ρ m λvm=>wV ρ k λvk=>wV ρ x λv=>aIY P t vm vk v A (K undef)
 | .mapEntry t m k=>wV ρ m λvm=>wV ρ k λvk=>aLD P t vm vk A K
 | .entryStore _ m s x=>wV ρ m λvm=>wV ρ s λvs=>wV ρ x λv=>aLI vm vs v A (K undef)
 | .range t x=>wV ρ x λv=>aLf P t v A K
 | .next it false=>wV ρ it λv=>match P.underlying o.type with
  | some (.tuple ts)=>match ts.toList with
   | [_,kt,et]=>aI8 P v (some kt) (some et) A K
   | []=>aI8 P v none none A K
   | _=>False
  | _=>False
 | .entry it=>wV ρ it λv=>aK8 v A λu=>K u A
 | .typeAssert x _ t ok=>wV ρ x λv=>taD P v t ok λu=>K u A
 | .extract t i=>wV ρ t λv=>aCW v i λu=>K u A
 | .call c=>aA2 P C ρ c A K Kp
 | .defer c=>match c.callee with
  | .value f=>wV ρ f λfv=>match fv with
   | .func fn first cap=>wL ρ c.args.toList λvs=>Kd { target:=.fn fn cap,args:=first++vs.toArray } A
   | _=>False
  | _=>False
 | .panic x=>wV ρ x λv=>match v with
  | .iface t u=>Kp (.iface t u) A
  | _=>False
 | _=>False
section
variable {A:AH} {L:Bx} {h:Hp} {P:Program} {ρ ρ':Env}
theorem aFo {c:CK} {a:Addr} {K K':Value->Prop} (s:Sim A L h) (b:aGh c a A K) (d:∀ v,K v->K' v):ldC c a h K':=by
 cases c
 .exact aL7 s b λ_=>d _
 .exact aLp s b λ_=>d _
 .exact aMe s b λ_=>d _
 .exact aMk s b λ_=>d _
 .exact aLB s b λ_=>d _
 .exact aLe s b λ_=>d _
theorem aEt (s:Sim A L h) {a:Addr}:∀ (l:List CK) (n:Nat) (K K':List Value->Prop),aEk l a n A K->(∀ v,K v->K' v)->ldL l a n h K'
 | [],_,_,_,hh,hx=>hx _ hh
 | _::r,n,_,_,hh,hx=>aFo s hh λ_ b=>aEt s r (n+1) _ _ b λ_=>hx _
theorem aEH {t:TypeId} {a:Addr} {K K':Value->Prop} (s:Sim A L h) (b:aFx P t a A K) (e:∀ v,K v->K' v):ldD P t a h K':=by
 unfold aFx at b;unfold ldD;split at b
 .rename_i d n e1 g;split at b
  .rename_i f;simp only [e1,g,f];split at b
   .rename_i l c;split at b
    .rename_i i;simp only [c,i];exact aEt s _ _ _ _ b λ_=>e _
    .exact b.elim
   .rename_i c;simp only [c];exact aHk s b λ_=>e _
  .rename_i f;simp only [e1,g,f];split at b
   .rename_i c;simp only [c];exact aFo s b e
   .exact b.elim
 .exact b.elim
theorem aIB {t:TypeId} {a:Addr} {v:Value} {K:AP} {K':HP} (s:Sim A L h) (b:aLd P t a v A K) (d:∀ c h',Sim c L h'->K c->K' h'):stD P t a v h K':=by
 unfold aLd at b;unfold stD;split at b
 .rename_i n e1;split at b
  .rename_i e;simp only [e1,e];exact nF _ _ _ _ _ _ _ s b d
  .exact b.elim
 .exact b.elim
theorem xA:∀ (l:List CK) (K K':List Value->Prop),(∀ v,K v->K' v)->exL l K->exL l K'
 | [],_,_,hx,h=>hx _ h
 | c::r,K,K',hx,h=>by
  cases c<;>(obtain ⟨n,h⟩:=h;exact ⟨n,xA r _ _ (λ_=>hx _) h⟩)
theorem q6 {t:TypeId} {v:Value} {K K':Value->Prop} (e:∀ v,K v->K' v) (h:elD P t v K):elD P t v K':=by
 unfold elD at h ⊢;cases e1:P.underlying t with
 | none=>rw [e1] at h;exact h.elim
 | some d=>
  rw [e1] at h;simp only at h ⊢;cases b:isAggD d with
  | true=>
   rw [b] at h;simp only at h ⊢;cases a:cksT P 40 t with
   | none=>rw [a] at h;exact h.elim
   | some l=>
    rw [a] at h;exact xA _ _ _ (λ_ q=>⟨q.1,e _ q.2⟩) h
  | false=>
   rw [b] at h;simp only at h ⊢;cases a:ckD d with
   | none=>rw [a] at h;exact h.elim
   | some c=>
    rw [a] at h;refine xA _ _ _ (λvs q=>?_) h;split at q
    .simp_all
    .exact q.elim
theorem aGv {t:Option TypeId} {v:Value} {K K':Value->Prop} (a:∀ v,K v->K' v) (h:aHp P t v K):aHp P t v K':=by
 cases t with
 | none=>
  obtain ⟨n,e,h⟩:=h;exact ⟨n,e,a _ h⟩
 | some t=>exact q6 a h
theorem aGm {t:Option TypeId} {v:Value} {K K':Value->Prop} (a:∀ v,K v->K' v) (h:aIc P t v K):aIc P t v K':=by
 cases t with
 | none=>exact a _ h
 | some t=>exact q6 a h
theorem fZ {t:TypeId} {K K':Value->Prop} (b:∀ v,K v->K' v) (h:eH P t K):eH P t K':=by
 unfold eH at h ⊢;cases e1:P.info? t with
 | none=>rw [e1] at h;exact h.elim
 | some i=>
  rw [e1] at h;simp only at h ⊢;cases a:i.zero with
  | none=>rw [a] at h;exact h.elim
  | some z=>rw [a] at h;exact b _ h
theorem aIS {t:TypeId} {m b:Value} {ok:Bool} {K K':Value->Prop} (s:Sim A L h) (a:aIj P t m b ok A K) (c:∀ v,K v->K' v):lkD P t m b ok h K':=by
 unfold aIj at a;unfold lkD;split at a
 .rename_i e1;simp only [e1];split at a
  .rename_i d;simp only [d];refine gM a (λa=>aIR s a λo e=>fZ (λz f=>q6 (λv g=>?_) f) e) id;cases ok<;>exact c _ g
  .exact a.elim
 .exact a.elim
theorem aED {t:TypeId} {m b v:Value} {K:AP} {K':HP} (s:Sim A L h) (a:aIY P t m b v A K) (d:∀ c h',Sim c L h'->K c->K' h'):muD P t m b v h K':=by
 unfold aIY at a;unfold muD;split at a
 .rename_i e1;simp only [e1];split at a
  .rename_i e;simp only [e];exact gM a (λa=>aH4 s a d) id
  .exact a.elim
 .exact a.elim
theorem aJq {t:TypeId} {m d:Value} {K:Value->AP} {K':Value->HP} (s:Sim A L h) (a:aLD P t m d A K) (e:∀ v c h',Sim c L h'->K v c->K' v h'):meD P t m d h K':=by
 unfold aLD at a;unfold meD;split at a
 .rename_i e1;simp only [e1];split at a
  .rename_i f;simp only [f];exact gM a (λa=>fZ (λz g=>aHx s g λv b c h' s' i=>q6 (λv j=>e _ _ _ s' j) i) a) id
  .exact a.elim
 .exact a.elim
theorem aJ0 {m st v:Value} {K:AP} {K':HP} (s:Sim A L h) (a:aLI m st v A K) (c:∀ b h',Sim b L h'->K b->K' h'):esD m st v h K':=by
 unfold aLI at a;unfold esD;split at a
 .exact aGB s a c
 .exact a.elim
theorem aI2 {t:TypeId} {m b:Value} {K:AP} {K':HP} (s:Sim A L h) (a:aL4 P t m b A K) (d:∀ c h',Sim c L h'->K c->K' h'):mdD P t m b h K':=by
 unfold aL4 at a;unfold mdD;split at a
 .rename_i e1;simp only [e1];split at a
  .rename_i e;simp only [e];exact gM a (λa=>aG6 s a d) id
  .exact a.elim
 .exact a.elim
theorem nV {o:Obj} {K:Nat->AP} {K':Nat->HP} (s:Sim A L h) (c:aN A o K) (d:∀ b a h',Sim a L h'->K b a->K' b h'):K' h.size (h.push o):=nO s c d
theorem aID {t:TypeId} {l c:Value} {K:Value->AP} {K':Value->HP} (s:Sim A L h) (a:aLV P t l c A K) (e:∀ v d h',Sim d L h'->K v d->K' v h'):mkD P t l c h K':=by
 unfold aLV at a;unfold mkD;split at a
 .rename_i e1;simp only [e1];split at a
  .rename_i f;simp only [f];split at a
   .rename_i g;simp only [g];exact aJ7 a λa=>nV (K':=λb=>K' (.slice (some ⟨b,0,none⟩) _ _)) s a λb=>e _
   .exact a.elim
  .exact a.elim
 .exact a.elim
theorem aIN {t:TypeId} {x:Value} {K K':Value->Prop} (s:Sim A L h) (a:aH1 P t x A K) (b:∀ v,K v->K' v):lnD P t x h K':=by
 unfold aH1 at a;unfold lnD;split at a
 .simp_all
 .simp_all
 .rename_i e1;simp only [e1];exact aHm s a λ_=>b _
 .exact a.elim
theorem aKq {t t2:TypeId} {x y:Value} {K:Value->AP} {K':Value->HP} (s:Sim A L h) (a:aLu P t t2 x y A K) (e:∀ v f h',Sim f L h'->K v f->K' v h'):apD P t t2 x y h K':=by
 unfold aLu at a;unfold apD;split at a
 .rename_i e1 b;simp only [e1,b];split at a
  .rename_i c;simp only [c];split at a
   .rename_i d;simp only [d];exact aIG s a λ_=>e _
   .exact a.elim
  .exact a.elim
 .rename_i e1 b;simp only [e1,b];split at a
  .rename_i c;simp only [c];split at a
   .rename_i d;simp only [d];exact aJS s a λ_=>e _
   .exact a.elim
  .exact a.elim
 .exact a.elim
theorem aJU {t:TypeId} {x y:Value} {K:Value->AP} {K':Value->HP} (s:Sim A L h) (a:aL2 P t x y A K) (c:∀ v b h',Sim b L h'->K v b->K' v h'):cpD P t x y h K':=by
 unfold aL2 at a;unfold cpD;split at a
 .rename_i e1;simp only [e1];split at a
  .rename_i d;simp only [d];exact aJH s a λ_=>c _
  .exact a.elim
 .exact a.elim
theorem aJh {t:TypeId} {x:Value} {K:Value->AP} {K':Value->HP} (s:Sim A L h) (a:aLM P t x A K) (c:∀ v b h',Sim b L h'->K v b->K' v h'):clD P t x h K':=by
 unfold aLM at a;unfold clD;split at a
 .rename_i e1;simp only [e1];split at a
  .rename_i d;simp only [d];split at a
   .rename_i e;simp only [e];exact qN s a (c _)
   .exact a.elim
  .exact a.elim
 .exact a.elim
theorem aGD {t:TypeId} {x:Value} {K K':Value->Prop} (b:∀ v,K v->K' v) (a:caD P t x K):caD P t x K':=by
 unfold caD at a ⊢;split at a
 .exact b _ a
 .exact a.elim
theorem aKc {t:TypeId} {x:Value} {K:Value->AP} {K':Value->HP} (s:Sim A L h) (a:aLf P t x A K) (c:∀ v b h',Sim b L h'->K v b->K' v h'):rgD P t x h K':=by
 unfold aLf at a;unfold rgD;split at a
 .rename_i e1;simp only [e1];exact aIE s a λ_=>c _
 .exact a.elim
theorem aJo {x:Value} {K K':Value->Prop} (s:Sim A L h) (a:aK8 x A K) (b:∀ v,K v->K' v):eyD x h K':=by
 unfold aK8 at a;unfold eyD;split at a
 .exact aKr s a λ_ _=>b _
 .exact a.elim
theorem aEE {c d:Option TypeId} {x:Value} {K:Value->AP} {K':Value->HP} (s:Sim A L h) (a:aI8 P x c d A K) (e:∀ v b h',Sim b L h'->K v b->K' v h'):nxD P x c d h K':=by
 unfold aI8 at a;unfold nxD;split at a
 .exact aIX s a (λ_ _=>e _ _ _) λk v b h' s' f=>aGv (λ_ g=>aGm (λ_ i=>e _ _ _ s' i) g) f
 .exact a.elim
theorem aJ4 {t:TypeId} {n:Nat} {ps:List (Nat × Value)} {K:Value->AP} {K':Value->HP} (s:Sim A L h) (a:aK2 P t n ps A K) (e:∀ v f h',Sim f L h'->K v f->K' v h'):bsD P t n ps h K':=by
 unfold aK2 at a;unfold bsD;split at a
 .rename_i e1;simp only [e1];split at a
  .rename_i g;simp only [g];split at a
   .rename_i i;simp only [i];split at a
    .rename_i c d;simp only [c,d];split at a
     .rename_i j;simp only [j];exact nV (K':=λb=>K' (.slice (some ⟨b,0,none⟩) _ _)) s a λb=>e _
     .exact a.elim
    .rename_i c d;simp only [c,d];exact nV (K':=λb=>K' (.slice (some ⟨b,0,none⟩) _ _)) s a λb=>e _
    .exact a.elim
   .exact a.elim
  .exact a.elim
 .exact a.elim
theorem mO {a:Bool}:∀ (r:List Value) (x:Value) (K K':Value->Prop),(∀ v,K v->K' v)->gV a x r K->gV a x r K'
 | [],_,_,_,hx,h=>hx _ h
 | y::r,x,K,K',hx,h=>by
  simp only [gV,mxD] at h ⊢;split at h
  .cases a<;>exact mO r _ _ _ hx h
  .exact h.elim
theorem aJB {b:Builtin} {e:List TypeId} {vs:List Value} {K Kp:Value->AP} {K' Kp':Value->HP} (s:Sim A L h) (a:aJ9 P b e vs A K Kp) (c:∀ v d h',Sim d L h'->K v d->K' v h') (f:∀ v d h',Sim d L h'->Kp v d->Kp' v h'):biD P b e vs h K' Kp':=by
 unfold aJ9 at a;unfold biD;split at a
 .exact aKq s a c
 .exact aIN s a λ_=>c _ _ _ s
 .exact aJU s a c
 .exact aJh s a c
 .exact aGD (λ_=>c _ _ _ s) a
 .exact aI2 s a (c _)
 .exact mO _ _ _ _ (λ_=>c _ _ _ s) a
 .exact mO _ _ _ _ (λ_=>c _ _ _ s) a
 .grind
 .exact a.elim
def EnvLe (ρ ρ':Env):Prop:=∀ t v,look ρ t=some v->look ρ' t=some v
theorem bD (hρ:EnvLe ρ ρ') {x:Operand} {K K':Value->Prop} (b:∀ v,K v->K' v) (a:wV ρ x K):wV ρ' x K':=by
 unfold wV at a ⊢;cases x<;>simp only [evO] at a ⊢
 .split at a
  .rename_i e;rw [hρ _ _ e];exact b _ a
  .exact a.elim
 .exact b _ a
 .exact b _ a
 .exact b _ a
theorem aAf (hρ:EnvLe ρ ρ'):∀ {l:List Operand} {K K':List Value->Prop} (_:∀ v,K v->K' v) (_:wL ρ l K),wL ρ' l K'
 | [],_,_,hx,hh=>hx _ hh
 | _::_,_,_,hx,hh=>bD hρ (λ_ a=>aAf hρ (λ_=>hx _) a) hh
theorem aGX (hρ:EnvLe ρ ρ'):∀ {l:List (Nat × Operand)} {K K':List (Nat × Value)->Prop} (_:∀ v,K v->K' v) (_:wP ρ l K),wP ρ' l K'
 | [],_,_,hx,hh=>hx _ hh
 | _::_,_,_,hx,hh=>bD hρ (λ_ a=>aGX hρ (λ_=>hx _) a) hh
theorem aHP (hρ:EnvLe ρ ρ') {x:Option Operand} {K K':Option Value->Prop} (a:∀ v,K v->K' v) (b:wO ρ x K):wO ρ' x K':=by
 cases x
 .exact a _ b
 .exact bD hρ (λ_=>a _) b
end
end Go.Dn
