/- The reading over a part of the heap: what an operation asks. -/
import Derived.Test.YtmfmhmipcdgikaaGreatDnL
namespace Go.Dn
def aEg (c:CK) (a:Addr) (A:AH) (K:Value->Prop):Prop:=
 match c with
 | .i k=>aI k a A λn=>K (.int k n)
 | .b=>aB a A λb=>K (.bool b)
 | .p=>aP a A λp=>K (.pointer p)
 | .s=>aS a A λs=>K (.slice s.a s.len s.cap)
 | .m=>aM a A λm=>K (.map m)
 | .v=>aV a A K
def aBG:List CK->Addr->Nat->AH->(List Value->Prop)->Prop
 | [],_,_,_,K=>K []
 | c::r,a,n,A,K=>aEg c (a.add n) A λv=>aBG r a (n+1) A λvs=>K (v::vs)
def aDK (P:Program) (t:TypeId) (a:Addr) (A:AH) (K:Value->Prop):Prop:=
 match P.underlying t,szOf P t with
 | some d,some n=>match isAggD d with
  | true=>match cksT P 40 t with
   | some l=>match Nat.beq l.length n with
    | true=>aBG l a 0 A λvs=>K (.agg vs.toArray)
    | false=>False
   | none=>aKt n a A λcs=>K (.agg cs)
  | false=>match ckD d with
   | some c=>aEg c a A K
   | none=>False
 | _,_=>False
def aJl (P:Program) (t:TypeId) (a:Addr) (v:Value) (A:AH) (K:AP):Prop:=
 match szOf P t with
 | some n=>match Nat.beq v.cells.toList.length n with
  | true=>vG v.cells.toList a 0 A K
  | false=>False
 | none=>False
def aE2 (P:Program) (t:TypeId) (m ix:Value) (ok:Bool) (A:AH) (K:Value->Prop):Prop:=
 match P.underlying t,m,ix with
 | some (.map kt et),.map m,.int k key=>match P.underlying kt with
  | some (.int k')=>bsel (kEq k k') (vL A m k key λo=>dQ P et λz=>elD P et (o.getD z) λv=>match ok with
    | true=>K (.tuple #[v,.bool o.isSome])
    | false=>K v) False
  | _=>False
 | _,_,_=>False
def aGM (P:Program) (t:TypeId) (m ix v:Value) (A:AH) (K:AP):Prop:=
 match P.underlying t,m,ix with
 | some (.map kt _),.map m,.int k key=>match P.underlying kt with
  | some (.int k')=>bsel (kEq k k') (rZ A m k key v K) False
  | _=>False
 | _,_,_=>False
def aIV (P:Program) (t:TypeId) (m ix:Value) (A:AH) (K:Value->AP):Prop:=
 match P.underlying t,m,ix with
 | some (.map kt et),.map m,.int k key=>match P.underlying kt with
  | some (.int k')=>bsel (kEq k k') (dQ P et λz=>aBe A m k key z λv s A'=>elD P et v λv=>K (.tuple #[v,.int .i64 s]) A') False
  | _=>False
 | _,_,_=>False
def aI1 (m st v:Value) (A:AH) (K:AP):Prop:=
 match m,st with
 | .map m,.int _ s=>aBs A m s v K
 | _,_=>False
def aI4 (P:Program) (t:TypeId) (m ix:Value) (A:AH) (K:AP):Prop:=
 match P.underlying t,m,ix with
 | some (.map kt _),.map m,.int k key=>match P.underlying kt with
  | some (.int k')=>bsel (kEq k k') (aAI A m k key K) False
  | _=>False
 | _,_,_=>False
def aJN (P:Program) (t:TypeId) (l c:Value) (A:AH) (K:Value->AP):Prop:=
 match P.underlying t,l,c with
 | some (.slice e),.int _ l,.int _ c=>match P.info? e with
  | some i=>match i.zero with
   | some z=>mkS i.bytes l c (aT A (.cells (madeCells z.cells (c.toNat*i.size)) e) λb=>K (.slice (some ⟨b,0,none⟩) l.toNat c.toNat))
   | none=>False
  | none=>False
 | _,_,_=>False
def aFR (P:Program) (t:TypeId) (x:Value) (A:AH) (K:Value->Prop):Prop:=
 match P.underlying t,x with
 | some (.array n _),_=>K (.int .i64 n)
 | some (.slice _),.slice _ n _=>K (.int .i64 n)
 | some (.map _ _),.map m=>aG1 A m λn=>K (.int .i64 n)
 | _,_=>False
def aIB (P:Program) (t t2:TypeId) (s x:Value) (A:AH) (K:Value->AP):Prop:=
 match P.underlying t,P.underlying t2,s,x with
 | some (.slice e),some (.slice _),.slice sa sl sc,.slice xa xl xc=>match P.info? e with
  | some i=>match i.zero with
   | some z=>mK i.size i.bytes z.cells e ⟨sa,sl,sc⟩ ⟨xa,xl,xc⟩ A λr=>K (.slice r.a r.len r.cap)
   | none=>False
  | none=>False
 | some (.slice e),some (.int _),.slice sa sl sc,.int _ n=>match P.info? e with
  | some i=>match i.zero with
   | some z=>apZ i.size i.bytes z.cells e ⟨sa,sl,sc⟩ n A λr=>K (.slice r.a r.len r.cap)
   | none=>False
  | none=>False
 | _,_,_,_=>False
def aIY (P:Program) (t:TypeId) (d s:Value) (A:AH) (K:Value->AP):Prop:=
 match P.underlying t,d,s with
 | some (.slice e),.slice da dl dc,.slice sa sl sc=>match szOf P e with
  | some n=>cpA n ⟨da,dl,dc⟩ ⟨sa,sl,sc⟩ A λr=>K (.int .i64 r)
  | none=>False
 | _,_,_=>False
def aJz (P:Program) (t:TypeId) (x:Value) (A:AH) (K:Value->AP):Prop:=
 match P.underlying t,x with
 | some (.slice e),.slice a n c=>match P.info? e with
  | some i=>match i.zero with
   | some z=>aKG z.cells ⟨a,n,c⟩ A (K (.tuple #[]))
   | none=>False
  | none=>False
 | _,_=>False
def aJm (P:Program) (t:TypeId) (x:Value) (A:AH) (K:Value->AP):Prop:=
 match P.underlying t,x with
 | some (.map _ _),.map m=>rgA A m λa=>K (.pointer (some a))
 | _,_=>False
def aJE (it:Value) (A:AH) (K:Value->Prop):Prop:=
 match it with
 | .pointer (some a)=>aEy A a λn v=>K (.tuple #[.int .i64 n,v])
 | _=>False
def aH1 (P:Program) (it:Value) (kt et:Option TypeId) (A:AH) (K:Value->AP):Prop:=
 match it with
 | .pointer (some a)=>aNx A a (K (.tuple #[.bool false])) λk v A'=>aFB P kt k λk=>aFv P et v λv=>K (.tuple #[.bool true,k,v]) A'
 | _=>False
def aI2 (P:Program) (t:TypeId) (len:Nat) (parts:List (Nat × Value)) (A:AH) (K:Value->AP):Prop:=
 match P.underlying t with
 | some (.slice e)=>match P.info? e with
  | some i=>match i.zero with
   | some z=>match Nat.ble (len*i.size) 16777216,Nat.beq (len*i.size) 0,parts with
    | true,false,_=>match Instr.fill (λj=>some (j*i.size,i.size)) (madeCells z.cells (len*i.size)) parts with
     | some cells=>aT A (.cells cells e) λb=>K (.slice (some ⟨b,0,none⟩) len len)
     | none=>False
    | true,true,[]=>aT A (.cells #[] e) λb=>K (.slice (some ⟨b,0,none⟩) len len)
    | _,_,_=>False
   | none=>False
  | none=>False
 | _=>False
def aHu (P:Program) (b:Builtin) (ts:List TypeId) (args:List Value) (A:AH) (K Kp:Value->AP):Prop:=
 match b,ts,args with
 | .append,[t,t2],[s,x]=>aIB P t t2 s x A K
 | .len,[t],[x]=>aFR P t x A λv=>K v A
 | .copy,t::_,[d,s]=>aIY P t d s A K
 | .clear,t::_,[x]=>aJz P t x A K
 | .cap,t::_,[x]=>caD P t x λv=>K v A
 | .delete,t::_,[m,k]=>aI4 P t m k A (K (.tuple #[]))
 | .max,_,x::r=>fT true x r λv=>K v A
 | .min,_,x::r=>fT false x r λv=>K v A
 | .panic,_,[.iface t v]=>Kp (.iface t v) A
 | _,_,_=>False
abbrev CTA:=FuncId->List Value->(Value->AP)->(Value->AP)->AP
def xU (P:Program) (C:CTA) (ρ:Env) (c:Call) (A:AH) (K Kp:Value->AP):Prop:=
 match c.callee with
 | .value f=>wV ρ f λfv=>match fv with
  | .func (.func g) first cap=>wL ρ c.args.toList λvs=>C g (first.toList++vs++cap.toList) K Kp A
  | _=>False
 | .builtin b=>wL ρ c.args.toList λvs=>aHu P b c.argTypes.toList vs A K Kp
 | .invoke _ _=>False
def opV (P:Program) (C:CTA) (ρ:Env) (o:Oper) (A:AH) (K Kp:Value->AP) (Kd:Deferred->AP):Prop:=
 match o.op with
 | .move x=>wV ρ x λv=>K v A
 | .assign x=>wV ρ x λv=>K v A
 | .pick c a b=>wV ρ c λvc=>match vc with
  | .bool t=>bsel t (wV ρ a λv=>K v A) (wV ρ b λv=>K v A)
  | _=>False
 | .alloc t=>dQ P t λz=>aT A (.cells z.cells t) λb=>K (.pointer (some ⟨b,0,none⟩))
 | .box t x=>wV ρ x λv=>aT A (.cells v.cells t) λb=>K (.pointer (some ⟨b,0,none⟩))
 | .build t ps=>wP ρ ps.toList λvs=>match P.built t vs with
  | some cells=>K (.agg cells) A
  | none=>False
 | .buildSlice t len ps=>wP ρ ps.toList λvs=>aI2 P t len vs A K
 | .load t a=>wV ρ a λva=>iS va λad=>aDK P t ad A λv=>K v A
 | .store t a x=>wV ρ a λva=>iS va λad=>wV ρ x λv=>aJl P t ad v A (K undef)
 | .nilCheck x=>wV ρ x λv=>vJ v λu=>K u A
 | .binOp op t x y _=>wV ρ x λvx=>wV ρ y λvy=>y6 P op t vx vy λv=>K v A
 | .unOp op _ x=>wV ρ x λv=>unD op v λu=>K u A
 | .convert s d x=>wV ρ x λv=>cvD P s d v λu=>K u A
 | .makeInterface t x=>uR P t (wV ρ x λv=>K (.iface t v) A)
 | .makeFunc fn first cap=>wL ρ first.toList λa=>wL ρ cap.toList λb=>K (.func fn a.toArray b.toArray) A
 | .makeMap _ none=>aT A (.map #[] 0) λb=>K (.map (some b))
 | .makeSlice t l c=>wV ρ l λvl=>wV ρ c λvc=>aJN P t vl vc A K
 | .slice t x lo hi mx=>wV ρ x λv=>wO ρ lo λl=>wO ρ hi λi=>wO ρ mx λm=>yO P t v l i m λu=>K u A
 | .fieldAddr s x f=>wV ρ x λv=>uD P s v f λu=>K u A
 | .field t x f=>wV ρ x λv=>fvD P t v f λu=>K u A
 | .indexAddr t x i=>wV ρ x λv=>wV ρ i λvi=>uT P t v vi λu=>K u A
 | .index t x i=>wV ρ x λv=>wV ρ i λvi=>yA P t v vi λu=>K u A
 | .lookup t m k ok=>wV ρ m λvm=>wV ρ k λvk=>aE2 P t vm vk ok A λv=>K v A
 | .mapUpdate t m k x=>wV ρ m λvm=>wV ρ k λvk=>wV ρ x λv=>aGM P t vm vk v A (K undef)
 | .insert t m k x=>wV ρ m λvm=>wV ρ k λvk=>wV ρ x λv=>aGM P t vm vk v A (K undef)
 | .mapEntry t m k=>wV ρ m λvm=>wV ρ k λvk=>aIV P t vm vk A K
 | .entryStore _ m s x=>wV ρ m λvm=>wV ρ s λvs=>wV ρ x λv=>aI1 vm vs v A (K undef)
 | .range t x=>wV ρ x λv=>aJm P t v A K
 | .next it false=>wV ρ it λv=>match P.underlying o.type with
  | some (.tuple ts)=>match ts.toList with
   | [_,kt,et]=>aH1 P v (some kt) (some et) A K
   | []=>aH1 P v none none A K
   | _=>False
  | _=>False
 | .entry it=>wV ρ it λv=>aJE v A λu=>K u A
 | .typeAssert x _ t ok=>wV ρ x λv=>taD P v t ok λu=>K u A
 | .extract t i=>wV ρ t λv=>aBc v i λu=>K u A
 | .call c=>xU P C ρ c A K Kp
 | .defer c=>match c.callee with
  | .value f=>wV ρ f λfv=>match fv with
   | .func fn first cap=>wL ρ c.args.toList λvs=>Kd { target:=.fn fn cap,args:=first++vs.toArray } A
   | _=>False
  | _=>False
 | .panic x=>wV ρ x λv=>match v with
  | .iface t u=>Kp (.iface t u) A
  | _=>False
 | _=>False
section
variable {A:AH} {L:Bx} {h:Hp} {P:Program} {ρ ρ':Env}
theorem aC9 {c:CK} {a:Addr} {K K':Value->Prop} (s:Sim A L h) (hh:aEg c a A K) (hx:∀ v,K v->K' v):ldC c a h K':=by
 cases c
 ·exact aJe s hh λ_=>hx _
 ·exact aJD s hh λ_=>hx _
 ·exact aIX s hh λ_=>hx _
 ·exact aJW s hh λ_=>hx _
 ·exact aIE s hh λ_=>hx _
 ·exact aI0 s hh λ_=>hx _
theorem aDa (s:Sim A L h) {a:Addr}:∀ (l:List CK) (n:Nat) (K K':List Value->Prop),aBG l a n A K->(∀ v,K v->K' v)->ldL l a n h K'
 | [],_,_,_,hh,hx=>hx _ hh
 | _::r,n,_,_,hh,hx=>aC9 s hh λ_ h1=>aDa s r (n+1) _ _ h1 λ_=>hx _
theorem aCs {t:TypeId} {a:Addr} {K K':Value->Prop} (s:Sim A L h) (hh:aDK P t a A K) (hx:∀ v,K v->K' v):ldD P t a h K':=by
 unfold aDK at hh;unfold ldD;split at hh
 ·rename_i d n e1 e2;split at hh
  ·rename_i e3;simp only [e1,e2,e3];split at hh
   ·rename_i l e4;split at hh
    ·rename_i e5;simp only [e4,e5];exact aDa s _ _ _ _ hh λ_=>hx _
    ·exact hh.elim
   ·rename_i e4;simp only [e4];exact aFU s hh λ_=>hx _
  ·rename_i e3;simp only [e1,e2,e3];split at hh
   ·rename_i e4;simp only [e4];exact aC9 s hh hx
   ·exact hh.elim
 ·exact hh.elim
theorem aHT {t:TypeId} {a:Addr} {v:Value} {K:AP} {K':HP} (s:Sim A L h) (hh:aJl P t a v A K) (hx:∀ A' h',Sim A' L h'->K A'->K' h'):stD P t a v h K':=by
 unfold aJl at hh;unfold stD;split at hh
 ·rename_i n e1;split at hh
  ·rename_i e2;simp only [e1,e2];exact oE _ _ _ _ _ _ _ s hh hx
  ·exact hh.elim
 ·exact hh.elim
theorem t8:∀ (l:List CK) (K K':List Value->Prop),(∀ v,K v->K' v)->zH l K->zH l K'
 | [],_,_,hx,h=>hx _ h
 | c::r,K,K',hx,h=>by
  cases c<;>(obtain ⟨n,h⟩:=h;exact ⟨n,t8 r _ _ (λ_=>hx _) h⟩)
theorem oN {t:TypeId} {v:Value} {K K':Value->Prop} (hx:∀ v,K v->K' v) (h:elD P t v K):elD P t v K':=by
 unfold elD at h ⊢;cases e1:P.underlying t with
 | none=>rw [e1] at h;exact h.elim
 | some d=>
  rw [e1] at h;simp only at h ⊢;cases e2:isAggD d with
  | true=>
   rw [e2] at h;simp only at h ⊢;cases e3:cksT P 40 t with
   | none=>rw [e3] at h;exact h.elim
   | some l=>
    rw [e3] at h;exact t8 _ _ _ (λ_ q=>⟨q.1,hx _ q.2⟩) h
  | false=>
   rw [e2] at h;simp only at h ⊢;cases e3:ckD d with
   | none=>rw [e3] at h;exact h.elim
   | some c=>
    rw [e3] at h;refine t8 _ _ _ (λvs q=>?_) h;split at q
    ·exact ⟨q.1,hx _ q.2⟩
    ·exact q.elim
theorem aEe {t:Option TypeId} {v:Value} {K K':Value->Prop} (hx:∀ v,K v->K' v) (h:aFB P t v K):aFB P t v K':=by
 cases t with
 | none=>
  obtain ⟨n,e,h⟩:=h;exact ⟨n,e,hx _ h⟩
 | some t=>exact oN hx h
theorem aD0 {t:Option TypeId} {v:Value} {K K':Value->Prop} (hx:∀ v,K v->K' v) (h:aFv P t v K):aFv P t v K':=by
 cases t with
 | none=>exact hx _ h
 | some t=>exact oN hx h
theorem eY {t:TypeId} {K K':Value->Prop} (hx:∀ v,K v->K' v) (h:dQ P t K):dQ P t K':=by
 unfold dQ at h ⊢;cases e1:P.info? t with
 | none=>rw [e1] at h;exact h.elim
 | some i=>
  rw [e1] at h;simp only at h ⊢;cases e2:i.zero with
  | none=>rw [e2] at h;exact h.elim
  | some z=>rw [e2] at h;exact hx _ h
theorem aGI {t:TypeId} {m ix:Value} {ok:Bool} {K K':Value->Prop} (s:Sim A L h) (hh:aE2 P t m ix ok A K) (hx:∀ v,K v->K' v):lkD P t m ix ok h K':=by
 unfold aE2 at hh;unfold lkD;split at hh
 ·rename_i e1;simp only [e1];split at hh
  ·rename_i e2;simp only [e2];refine fP hh (λhh=>aGF s hh λo h1=>eY (λz h2=>oN (λv h3=>?_) h2) h1) id;cases ok<;>exact hx _ h3
  ·exact hh.elim
 ·exact hh.elim
theorem aCx {t:TypeId} {m ix v:Value} {K:AP} {K':HP} (s:Sim A L h) (hh:aGM P t m ix v A K) (hx:∀ A' h',Sim A' L h'->K A'->K' h'):muD P t m ix v h K':=by
 unfold aGM at hh;unfold muD;split at hh
 ·rename_i e1;simp only [e1];split at hh
  ·rename_i e2;simp only [e2];exact fP hh (λhh=>aF2 s hh hx) id
  ·exact hh.elim
 ·exact hh.elim
theorem aGV {t:TypeId} {m ix:Value} {K:Value->AP} {K':Value->HP} (s:Sim A L h) (hh:aIV P t m ix A K) (hx:∀ v A' h',Sim A' L h'->K v A'->K' v h'):meD P t m ix h K':=by
 unfold aIV at hh;unfold meD;split at hh
 ·rename_i e1;simp only [e1];split at hh
  ·rename_i e2;simp only [e2];exact fP hh (λhh=>eY (λz h2=>aGr s h2 λv b A' h' s' h3=>oN (λv h4=>hx _ _ _ s' h4) h3) hh) id
  ·exact hh.elim
 ·exact hh.elim
theorem aHg {m st v:Value} {K:AP} {K':HP} (s:Sim A L h) (hh:aI1 m st v A K) (hx:∀ A' h',Sim A' L h'->K A'->K' h'):esD m st v h K':=by
 unfold aI1 at hh;unfold esD;split at hh
 ·exact aFt s hh hx
 ·exact hh.elim
theorem aHt {t:TypeId} {m ix:Value} {K:AP} {K':HP} (s:Sim A L h) (hh:aI4 P t m ix A K) (hx:∀ A' h',Sim A' L h'->K A'->K' h'):mdD P t m ix h K':=by
 unfold aI4 at hh;unfold mdD;split at hh
 ·rename_i e1;simp only [e1];split at hh
  ·rename_i e2;simp only [e2];exact fP hh (λhh=>aE7 s hh hx) id
  ·exact hh.elim
 ·exact hh.elim
theorem lY {o:Obj} {K:Nat->AP} {K':Nat->HP} (s:Sim A L h) (hh:aT A o K) (hx:∀ b A' h',Sim A' L h'->K b A'->K' b h'):K' h.size (h.push o):=kZ s hh hx
theorem aHn {t:TypeId} {l c:Value} {K:Value->AP} {K':Value->HP} (s:Sim A L h) (hh:aJN P t l c A K) (hx:∀ v A' h',Sim A' L h'->K v A'->K' v h'):mkD P t l c h K':=by
 unfold aJN at hh;unfold mkD;split at hh
 ·rename_i e1;simp only [e1];split at hh
  ·rename_i e2;simp only [e2];split at hh
   ·rename_i e3;simp only [e3];exact aGW hh λhh=>lY (K':=λb=>K' (.slice (some ⟨b,0,none⟩) _ _)) s hh λb=>hx _
   ·exact hh.elim
  ·exact hh.elim
 ·exact hh.elim
theorem aH9 {t:TypeId} {x:Value} {K K':Value->Prop} (s:Sim A L h) (hh:aFR P t x A K) (hx:∀ v,K v->K' v):lnD P t x h K':=by
 unfold aFR at hh;unfold lnD;split at hh
 ·rename_i e1;simp only [e1];exact hx _ hh
 ·rename_i e1;simp only [e1];exact hx _ hh
 ·rename_i e1;simp only [e1];exact aFk s hh λ_=>hx _
 ·exact hh.elim
theorem aHJ {t t2:TypeId} {x y:Value} {K:Value->AP} {K':Value->HP} (s:Sim A L h) (hh:aIB P t t2 x y A K) (hx:∀ v A' h',Sim A' L h'->K v A'->K' v h'):apD P t t2 x y h K':=by
 unfold aIB at hh;unfold apD;split at hh
 ·rename_i e1 e2;simp only [e1,e2];split at hh
  ·rename_i e3;simp only [e3];split at hh
   ·rename_i e4;simp only [e4];exact aG0 s hh λ_=>hx _
   ·exact hh.elim
  ·exact hh.elim
 ·rename_i e1 e2;simp only [e1,e2];split at hh
  ·rename_i e3;simp only [e3];split at hh
   ·rename_i e4;simp only [e4];exact aGT s hh λ_=>hx _
   ·exact hh.elim
  ·exact hh.elim
 ·exact hh.elim
theorem aHI {t:TypeId} {x y:Value} {K:Value->AP} {K':Value->HP} (s:Sim A L h) (hh:aIY P t x y A K) (hx:∀ v A' h',Sim A' L h'->K v A'->K' v h'):cpD P t x y h K':=by
 unfold aIY at hh;unfold cpD;split at hh
 ·rename_i e1;simp only [e1];split at hh
  ·rename_i e3;simp only [e3];exact aHk s hh λ_=>hx _
  ·exact hh.elim
 ·exact hh.elim
theorem aHW {t:TypeId} {x:Value} {K:Value->AP} {K':Value->HP} (s:Sim A L h) (hh:aJz P t x A K) (hx:∀ v A' h',Sim A' L h'->K v A'->K' v h'):clD P t x h K':=by
 unfold aJz at hh;unfold clD;split at hh
 ·rename_i e1;simp only [e1];split at hh
  ·rename_i e3;simp only [e3];split at hh
   ·rename_i e4;simp only [e4];exact oO s hh (hx _)
   ·exact hh.elim
  ·exact hh.elim
 ·exact hh.elim
theorem aFC {t:TypeId} {x:Value} {K K':Value->Prop} (hx:∀ v,K v->K' v) (hh:caD P t x K):caD P t x K':=by
 unfold caD at hh ⊢;split at hh
 ·exact hx _ hh
 ·exact hh.elim
theorem aHf {t:TypeId} {x:Value} {K:Value->AP} {K':Value->HP} (s:Sim A L h) (hh:aJm P t x A K) (hx:∀ v A' h',Sim A' L h'->K v A'->K' v h'):rgD P t x h K':=by
 unfold aJm at hh;unfold rgD;split at hh
 ·rename_i e1;simp only [e1];exact aGN s hh λ_=>hx _
 ·exact hh.elim
theorem aG7 {x:Value} {K K':Value->Prop} (s:Sim A L h) (hh:aJE x A K) (hx:∀ v,K v->K' v):eyD x h K':=by
 unfold aJE at hh;unfold eyD;split at hh
 ·exact aHH s hh λ_ _=>hx _
 ·exact hh.elim
theorem aCH {kt et:Option TypeId} {x:Value} {K:Value->AP} {K':Value->HP} (s:Sim A L h) (hh:aH1 P x kt et A K) (hx:∀ v A' h',Sim A' L h'->K v A'->K' v h'):nxD P x kt et h K':=by
 unfold aH1 at hh;unfold nxD;split at hh
 ·exact aH3 s hh (λ_ _=>hx _ _ _) λk v A' h' s' h1=>aEe (λ_ h2=>aD0 (λ_ h3=>hx _ _ _ s' h3) h2) h1
 ·exact hh.elim
theorem aIa {t:TypeId} {n:Nat} {ps:List (Nat × Value)} {K:Value->AP} {K':Value->HP} (s:Sim A L h) (hh:aI2 P t n ps A K) (hx:∀ v A' h',Sim A' L h'->K v A'->K' v h'):bsD P t n ps h K':=by
 unfold aI2 at hh;unfold bsD;split at hh
 ·rename_i e1;simp only [e1];split at hh
  ·rename_i e2;simp only [e2];split at hh
   ·rename_i e3;simp only [e3];split at hh
    ·rename_i e4 e5;simp only [e4,e5];split at hh
     ·rename_i e6;simp only [e6];exact lY (K':=λb=>K' (.slice (some ⟨b,0,none⟩) _ _)) s hh λb=>hx _
     ·exact hh.elim
    ·rename_i e4 e5;simp only [e4,e5];exact lY (K':=λb=>K' (.slice (some ⟨b,0,none⟩) _ _)) s hh λb=>hx _
    ·exact hh.elim
   ·exact hh.elim
  ·exact hh.elim
 ·exact hh.elim
theorem kT {mx:Bool}:∀ (r:List Value) (x:Value) (K K':Value->Prop),(∀ v,K v->K' v)->fT mx x r K->fT mx x r K'
 | [],_,_,_,hx,h=>hx _ h
 | y::r,x,K,K',hx,h=>by
  simp only [fT,mxD] at h ⊢;split at h
  ·cases mx<;>exact kT r _ _ _ hx h
  ·exact h.elim
theorem aGD {b:Builtin} {ts:List TypeId} {vs:List Value} {K Kp:Value->AP} {K' Kp':Value->HP} (s:Sim A L h) (hh:aHu P b ts vs A K Kp) (hx:∀ v A' h',Sim A' L h'->K v A'->K' v h') (hp:∀ v A' h',Sim A' L h'->Kp v A'->Kp' v h'):biD P b ts vs h K' Kp':=by
 unfold aHu at hh;unfold biD;split at hh
 ·exact aHJ s hh hx
 ·exact aH9 s hh λ_=>hx _ _ _ s
 ·exact aHI s hh hx
 ·exact aHW s hh hx
 ·exact aFC (λ_=>hx _ _ _ s) hh
 ·exact aHt s hh (hx _)
 ·exact kT _ _ _ _ (λ_=>hx _ _ _ s) hh
 ·exact kT _ _ _ _ (λ_=>hx _ _ _ s) hh
 ·exact hp _ _ _ s hh
 ·exact hh.elim
def EnvLe (ρ ρ':Env):Prop:=∀ t v,look ρ t=some v->look ρ' t=some v
theorem aZ (hρ:EnvLe ρ ρ') {x:Operand} {K K':Value->Prop} (hx:∀ v,K v->K' v) (hh:wV ρ x K):wV ρ' x K':=by
 unfold wV at hh ⊢;cases x<;>simp only [evO] at hh ⊢
 ·split at hh
  ·rename_i e;rw [hρ _ _ e];exact hx _ hh
  ·exact hh.elim
 ·exact hx _ hh
 ·exact hx _ hh
 ·exact hx _ hh
theorem vZ (hρ:EnvLe ρ ρ'):∀ {l:List Operand} {K K':List Value->Prop} (_:∀ v,K v->K' v) (_:wL ρ l K),wL ρ' l K'
 | [],_,_,hx,hh=>hx _ hh
 | _::_,_,_,hx,hh=>aZ hρ (λ_ h1=>vZ hρ (λ_=>hx _) h1) hh
theorem aFD (hρ:EnvLe ρ ρ'):∀ {l:List (Nat × Operand)} {K K':List (Nat × Value)->Prop} (_:∀ v,K v->K' v) (_:wP ρ l K),wP ρ' l K'
 | [],_,_,hx,hh=>hx _ hh
 | _::_,_,_,hx,hh=>aZ hρ (λ_ h1=>aFD hρ (λ_=>hx _) h1) hh
theorem aEG (hρ:EnvLe ρ ρ') {x:Option Operand} {K K':Option Value->Prop} (hx:∀ v,K v->K' v) (hh:wO ρ x K):wO ρ' x K':=by
 cases x
 ·exact hx _ hh
 ·exact aZ hρ (λ_=>hx _) hh
end
end Go.Dn
