/- The reading over a part of the heap: what an operation asks. -/
import Derived.Test.YtmfmhmipcdgikaaGreatDnL
namespace Go.Dn
def aE8 (c:CK) (a:Addr) (A:AH) (K:Value->Prop):Prop:=
 match c with
 | .i k=>aI k a A λn=>K (.int k n)
 | .b=>aB a A λb=>K (.bool b)
 | .p=>aP a A λp=>K (.pointer p)
 | .s=>aS a A λs=>K (.slice s.a s.len s.cap)
 | .m=>aM a A λm=>K (.map m)
 | .v=>aV a A K
def aC7:List CK->Addr->Nat->AH->(List Value->Prop)->Prop
 | [],_,_,_,K=>K []
 | c::r,a,n,A,K=>aE8 c (a.add n) A λv=>aC7 r a (n+1) A λvs=>K (v::vs)
def aE9 (P:Program) (t:TypeId) (a:Addr) (A:AH) (K:Value->Prop):Prop:=
 match P.underlying t,szOf P t with
 | some d,some n=>match isAggD d with
  | true=>match cksT P 40 t with
   | some l=>match Nat.beq l.length n with
    | true=>aC7 l a 0 A λvs=>K (.agg vs.toArray)
    | false=>False
   | none=>aMf n a A λcs=>K (.agg cs)
  | false=>match ckD d with
   | some c=>aE8 c a A K
   | none=>False
 | _,_=>False
def aKF (P:Program) (t:TypeId) (a:Addr) (v:Value) (A:AH) (K:AP):Prop:=
 match szOf P t with
 | some n=>match Nat.beq v.cells.toList.length n with
  | true=>qU v.cells.toList a 0 A K
  | false=>False
 | none=>False
def aFz (P:Program) (t:TypeId) (m ix:Value) (ok:Bool) (A:AH) (K:Value->Prop):Prop:=
 match P.underlying t,m,ix with
 | some (.map kt et),.map m,.int k key=>match P.underlying kt with
  | some (.int k')=>bsel (kEq k k') (qP A m k key λo=>eB P et λz=>elD P et (o.getD z) λv=>match ok with
    | true=>K (.tuple #[v,.bool o.isSome])
    | false=>K v) False
  | _=>False
 | _,_,_=>False
def aIT (P:Program) (t:TypeId) (m ix v:Value) (A:AH) (K:AP):Prop:=
 match P.underlying t,m,ix with
 | some (.map kt _),.map m,.int k key=>match P.underlying kt with
  | some (.int k')=>bsel (kEq k k') (tH A m k key v K) False
  | _=>False
 | _,_,_=>False
def aKu (P:Program) (t:TypeId) (m ix:Value) (A:AH) (K:Value->AP):Prop:=
 match P.underlying t,m,ix with
 | some (.map kt et),.map m,.int k key=>match P.underlying kt with
  | some (.int k')=>bsel (kEq k k') (eB P et λz=>aCz A m k key z λv s A'=>elD P et v λv=>K (.tuple #[v,.int .i64 s]) A') False
  | _=>False
 | _,_,_=>False
def aKa (m st v:Value) (A:AH) (K:AP):Prop:=
 match m,st with
 | .map m,.int _ s=>aCZ A m s v K
 | _,_=>False
def aKA (P:Program) (t:TypeId) (m ix:Value) (A:AH) (K:AP):Prop:=
 match P.underlying t,m,ix with
 | some (.map kt _),.map m,.int k key=>match P.underlying kt with
  | some (.int k')=>bsel (kEq k k') (o5 A m k key K) False
  | _=>False
 | _,_,_=>False
def aKM (P:Program) (t:TypeId) (l c:Value) (A:AH) (K:Value->AP):Prop:=
 match P.underlying t,l,c with
 | some (.slice e),.int _ l,.int _ c=>match P.info? e with
  | some i=>match i.zero with
   | some z=>mkS i.bytes l c (aT A (.cells (madeCells z.cells (c.toNat*i.size)) e) λb=>K (.slice (some ⟨b,0,none⟩) l.toNat c.toNat))
   | none=>False
  | none=>False
 | _,_,_=>False
def aGE (P:Program) (t:TypeId) (x:Value) (A:AH) (K:Value->Prop):Prop:=
 match P.underlying t,x with
 | some (.array n _),_=>K (.int .i64 n)
 | some (.slice _),.slice _ n _=>K (.int .i64 n)
 | some (.map _ _),.map m=>aHR A m λn=>K (.int .i64 n)
 | _,_=>False
def aKD (P:Program) (t t2:TypeId) (s x:Value) (A:AH) (K:Value->AP):Prop:=
 match P.underlying t,P.underlying t2,s,x with
 | some (.slice e),some (.slice _),.slice sa sl sc,.slice xa xl xc=>match P.info? e with
  | some i=>match i.zero with
   | some z=>jZ i.size i.bytes z.cells e ⟨sa,sl,sc⟩ ⟨xa,xl,xc⟩ A λr=>K (.slice r.a r.len r.cap)
   | none=>False
  | none=>False
 | some (.slice e),some (.int _),.slice sa sl sc,.int _ n=>match P.info? e with
  | some i=>match i.zero with
   | some z=>apZ i.size i.bytes z.cells e ⟨sa,sl,sc⟩ n A λr=>K (.slice r.a r.len r.cap)
   | none=>False
  | none=>False
 | _,_,_,_=>False
def aKk (P:Program) (t:TypeId) (d s:Value) (A:AH) (K:Value->AP):Prop:=
 match P.underlying t,d,s with
 | some (.slice e),.slice da dl dc,.slice sa sl sc=>match szOf P e with
  | some n=>cpA n ⟨da,dl,dc⟩ ⟨sa,sl,sc⟩ A λr=>K (.int .i64 r)
  | none=>False
 | _,_,_=>False
def aKq (P:Program) (t:TypeId) (x:Value) (A:AH) (K:Value->AP):Prop:=
 match P.underlying t,x with
 | some (.slice e),.slice a n c=>match P.info? e with
  | some i=>match i.zero with
   | some z=>aIe z.cells ⟨a,n,c⟩ A (K (.tuple #[]))
   | none=>False
  | none=>False
 | _,_=>False
def aKJ (P:Program) (t:TypeId) (x:Value) (A:AH) (K:Value->AP):Prop:=
 match P.underlying t,x with
 | some (.map _ _),.map m=>rgA A m λa=>K (.pointer (some a))
 | _,_=>False
def aJL (it:Value) (A:AH) (K:Value->Prop):Prop:=
 match it with
 | .pointer (some a)=>aEy A a λn v=>K (.tuple #[.int .i64 n,v])
 | _=>False
def aHE (P:Program) (it:Value) (kt et:Option TypeId) (A:AH) (K:Value->AP):Prop:=
 match it with
 | .pointer (some a)=>aNx A a (K (.tuple #[.bool false])) λk v A'=>aGk P kt k λk=>aGT P et v λv=>K (.tuple #[.bool true,k,v]) A'
 | _=>False
def aJF (P:Program) (t:TypeId) (len:Nat) (parts:List (Nat × Value)) (A:AH) (K:Value->AP):Prop:=
 match P.underlying t with
 | some (.slice e)=>match P.info? e with
  | some i=>match i.zero with
   | some z=>match Nat.ble (len*i.size) 16777216,Nat.beq (len*i.size) 0,parts with
    | true,false,_=>match Instr.fill (λj=>some (j*i.size,i.size)) (madeCells z.cells (len*i.size)) parts with
     | some cells=>aT A (.cells cells e) λb=>K (.slice (some ⟨b,0,none⟩) len len)
     | none=>False
    | true,true,[]=>aT A (.cells #[] e) λb=>K (.slice (some ⟨b,0,none⟩) len len)
    | _,_,_=>False
   | none=>False
  | none=>False
 | _=>False
def aH0 (P:Program) (b:Builtin) (ts:List TypeId) (args:List Value) (A:AH) (K Kp:Value->AP):Prop:=
 match b,ts,args with
 | .append,[t,t2],[s,x]=>aKD P t t2 s x A K
 | .len,[t],[x]=>aGE P t x A λv=>K v A
 | .copy,t::_,[d,s]=>aKk P t d s A K
 | .clear,t::_,[x]=>aKq P t x A K
 | .cap,t::_,[x]=>caD P t x λv=>K v A
 | .delete,t::_,[m,k]=>aKA P t m k A (K (.tuple #[]))
 | .max,_,x::r=>gD true x r λv=>K v A
 | .min,_,x::r=>gD false x r λv=>K v A
 | .panic,_,[.iface t v]=>Kp (.iface t v) A
 | _,_,_=>False
abbrev CTA:=FuncId->List Value->(Value->AP)->(Value->AP)->AP
def aAr (P:Program) (C:CTA) (ρ:Env) (c:Call) (A:AH) (K Kp:Value->AP):Prop:=
 match c.callee with
 | .value f=>wV ρ f λfv=>match fv with
  | .func (.func g) first cap=>wL ρ c.args.toList λvs=>C g (first.toList++vs++cap.toList) K Kp A
  | _=>False
 | .builtin b=>wL ρ c.args.toList λvs=>aH0 P b c.argTypes.toList vs A K Kp
 | .invoke _ _=>False
def opV (P:Program) (C:CTA) (ρ:Env) (o:Oper) (A:AH) (K Kp:Value->AP) (Kd:Deferred->AP):Prop:=
 match o.op with
 | .move x=>wV ρ x λv=>K v A
 | .assign x=>wV ρ x λv=>K v A
 | .pick c a b=>wV ρ c λvc=>match vc with
  | .bool t=>bsel t (wV ρ a λv=>K v A) (wV ρ b λv=>K v A)
  | _=>False
 | .alloc t=>eB P t λz=>aT A (.cells z.cells t) λb=>K (.pointer (some ⟨b,0,none⟩))
 | .box t x=>wV ρ x λv=>aT A (.cells v.cells t) λb=>K (.pointer (some ⟨b,0,none⟩))
 | .build t ps=>wP ρ ps.toList λvs=>match P.built t vs with
  | some cells=>K (.agg cells) A
  | none=>False
 | .buildSlice t len ps=>wP ρ ps.toList λvs=>aJF P t len vs A K
 | .load t a=>wV ρ a λva=>jN va λad=>aE9 P t ad A λv=>K v A
 | .store t a x=>wV ρ a λva=>jN va λad=>wV ρ x λv=>aKF P t ad v A (K undef)
 | .nilCheck x=>wV ρ x λv=>wZ v λu=>K u A
 | .binOp op t x y _=>wV ρ x λvx=>wV ρ y λvy=>aAm P op t vx vy λv=>K v A
 | .unOp op _ x=>wV ρ x λv=>unD op v λu=>K u A
 | .convert s d x=>wV ρ x λv=>cvD P s d v λu=>K u A
 | .makeInterface t x=>u5 P t (wV ρ x λv=>K (.iface t v) A)
 | .makeFunc fn first cap=>wL ρ first.toList λa=>wL ρ cap.toList λb=>K (.func fn a.toArray b.toArray) A
 | .makeMap _ none=>aT A (.map #[] 0) λb=>K (.map (some b))
 | .makeSlice t l c=>wV ρ l λvl=>wV ρ c λvc=>aKM P t vl vc A K
 | .slice t x lo hi mx=>wV ρ x λv=>wO ρ lo λl=>wO ρ hi λi=>wO ρ mx λm=>aAs P t v l i m λu=>K u A
 | .fieldAddr s x f=>wV ρ x λv=>uM P s v f λu=>K u A
 | .field t x f=>wV ρ x λv=>fvD P t v f λu=>K u A
 | .indexAddr t x i=>wV ρ x λv=>wV ρ i λvi=>u6 P t v vi λu=>K u A
 | .index t x i=>wV ρ x λv=>wV ρ i λvi=>z8 P t v vi λu=>K u A
 | .lookup t m k ok=>wV ρ m λvm=>wV ρ k λvk=>aFz P t vm vk ok A λv=>K v A
 | .mapUpdate t m k x=>wV ρ m λvm=>wV ρ k λvk=>wV ρ x λv=>aIT P t vm vk v A (K undef)
 | .insert t m k x=>wV ρ m λvm=>wV ρ k λvk=>wV ρ x λv=>aIT P t vm vk v A (K undef)
 | .mapEntry t m k=>wV ρ m λvm=>wV ρ k λvk=>aKu P t vm vk A K
 | .entryStore _ m s x=>wV ρ m λvm=>wV ρ s λvs=>wV ρ x λv=>aKa vm vs v A (K undef)
 | .range t x=>wV ρ x λv=>aKJ P t v A K
 | .next it false=>wV ρ it λv=>match P.underlying o.type with
  | some (.tuple ts)=>match ts.toList with
   | [_,kt,et]=>aHE P v (some kt) (some et) A K
   | []=>aHE P v none none A K
   | _=>False
  | _=>False
 | .entry it=>wV ρ it λv=>aJL v A λu=>K u A
 | .typeAssert x _ t ok=>wV ρ x λv=>taD P v t ok λu=>K u A
 | .extract t i=>wV ρ t λv=>aBq v i λu=>K u A
 | .call c=>aAr P C ρ c A K Kp
 | .defer c=>match c.callee with
  | .value f=>wV ρ f λfv=>match fv with
   | .func fn first cap=>wL ρ c.args.toList λvs=>Kd { target:=.fn fn cap,args:=first++vs.toArray } A
   | _=>False
  | _=>False
 | .panic x=>wV ρ x λv=>match v with
  | .iface t u=>Kp (.iface t u) A
  | _=>False
 | _=>False
section
variable {A:AH} {L:Bx} {h:Hp} {P:Program} {ρ ρ':Env}
theorem aDe {c:CK} {a:Addr} {K K':Value->Prop} (s:Sim A L h) (hh:aE8 c a A K) (hx:∀ v,K v->K' v):ldC c a h K':=by
 cases c
 ·exact aKi s hh λ_=>hx _
 ·exact aK7 s hh λ_=>hx _
 ·exact aKO s hh λ_=>hx _
 ·exact aJS s hh λ_=>hx _
 ·exact aK5 s hh λ_=>hx _
 ·exact aK3 s hh λ_=>hx _
theorem aDF (s:Sim A L h) {a:Addr}:∀ (l:List CK) (n:Nat) (K K':List Value->Prop),aC7 l a n A K->(∀ v,K v->K' v)->ldL l a n h K'
 | [],_,_,_,hh,hx=>hx _ hh
 | _::r,n,_,_,hh,hx=>aDe s hh λ_ h1=>aDF s r (n+1) _ _ h1 λ_=>hx _
theorem aDG {t:TypeId} {a:Addr} {K K':Value->Prop} (s:Sim A L h) (hh:aE9 P t a A K) (hx:∀ v,K v->K' v):ldD P t a h K':=by
 unfold aE9 at hh;unfold ldD;split at hh
 ·rename_i d n e1 e2;split at hh
  ·rename_i e3;simp only [e1,e2,e3];split at hh
   ·rename_i l e4;split at hh
    ·rename_i e5;simp only [e4,e5];exact aDF s _ _ _ _ hh λ_=>hx _
    ·exact hh.elim
   ·rename_i e4;simp only [e4];exact aFA s hh λ_=>hx _
  ·rename_i e3;simp only [e1,e2,e3];split at hh
   ·rename_i e4;simp only [e4];exact aDe s hh hx
   ·exact hh.elim
 ·exact hh.elim
theorem aIq {t:TypeId} {a:Addr} {v:Value} {K:AP} {K':HP} (s:Sim A L h) (hh:aKF P t a v A K) (hx:∀ A' h',Sim A' L h'->K A'->K' h'):stD P t a v h K':=by
 unfold aKF at hh;unfold stD;split at hh
 ·rename_i n e1;split at hh
  ·rename_i e2;simp only [e1,e2];exact l9 _ _ _ _ _ _ _ s hh hx
  ·exact hh.elim
 ·exact hh.elim
theorem wD:∀ (l:List CK) (K K':List Value->Prop),(∀ v,K v->K' v)->exL l K->exL l K'
 | [],_,_,hx,h=>hx _ h
 | c::r,K,K',hx,h=>by
  cases c<;>(obtain ⟨n,h⟩:=h;exact ⟨n,wD r _ _ (λ_=>hx _) h⟩)
theorem qB {t:TypeId} {v:Value} {K K':Value->Prop} (hx:∀ v,K v->K' v) (h:elD P t v K):elD P t v K':=by
 unfold elD at h ⊢;cases e1:P.underlying t with
 | none=>rw [e1] at h;exact h.elim
 | some d=>
  rw [e1] at h;simp only at h ⊢;cases e2:isAggD d with
  | true=>
   rw [e2] at h;simp only at h ⊢;cases e3:cksT P 40 t with
   | none=>rw [e3] at h;exact h.elim
   | some l=>
    rw [e3] at h;exact wD _ _ _ (λ_ q=>⟨q.1,hx _ q.2⟩) h
  | false=>
   rw [e2] at h;simp only at h ⊢;cases e3:ckD d with
   | none=>rw [e3] at h;exact h.elim
   | some c=>
    rw [e3] at h;refine wD _ _ _ (λvs q=>?_) h;split at q
    ·exact ⟨q.1,hx _ q.2⟩
    ·exact q.elim
theorem aE2 {t:Option TypeId} {v:Value} {K K':Value->Prop} (hx:∀ v,K v->K' v) (h:aGk P t v K):aGk P t v K':=by
 cases t with
 | none=>
  obtain ⟨n,e,h⟩:=h;exact ⟨n,e,hx _ h⟩
 | some t=>exact qB hx h
theorem aEh {t:Option TypeId} {v:Value} {K K':Value->Prop} (hx:∀ v,K v->K' v) (h:aGT P t v K):aGT P t v K':=by
 cases t with
 | none=>exact hx _ h
 | some t=>exact qB hx h
theorem fG {t:TypeId} {K K':Value->Prop} (hx:∀ v,K v->K' v) (h:eB P t K):eB P t K':=by
 unfold eB at h ⊢;cases e1:P.info? t with
 | none=>rw [e1] at h;exact h.elim
 | some i=>
  rw [e1] at h;simp only at h ⊢;cases e2:i.zero with
  | none=>rw [e2] at h;exact h.elim
  | some z=>rw [e2] at h;exact hx _ h
theorem aHy {t:TypeId} {m ix:Value} {ok:Bool} {K K':Value->Prop} (s:Sim A L h) (hh:aFz P t m ix ok A K) (hx:∀ v,K v->K' v):lkD P t m ix ok h K':=by
 unfold aFz at hh;unfold lkD;split at hh
 ·rename_i e1;simp only [e1];split at hh
  ·rename_i e2;simp only [e2];refine f7 hh (λhh=>aI5 s hh λo h1=>fG (λz h2=>qB (λv h3=>?_) h2) h1) id;cases ok<;>exact hx _ h3
  ·exact hh.elim
 ·exact hh.elim
theorem aDV {t:TypeId} {m ix v:Value} {K:AP} {K':HP} (s:Sim A L h) (hh:aIT P t m ix v A K) (hx:∀ A' h',Sim A' L h'->K A'->K' h'):muD P t m ix v h K':=by
 unfold aIT at hh;unfold muD;split at hh
 ·rename_i e1;simp only [e1];split at hh
  ·rename_i e2;simp only [e2];exact f7 hh (λhh=>aGu s hh hx) id
  ·exact hh.elim
 ·exact hh.elim
theorem aJa {t:TypeId} {m ix:Value} {K:Value->AP} {K':Value->HP} (s:Sim A L h) (hh:aKu P t m ix A K) (hx:∀ v A' h',Sim A' L h'->K v A'->K' v h'):meD P t m ix h K':=by
 unfold aKu at hh;unfold meD;split at hh
 ·rename_i e1;simp only [e1];split at hh
  ·rename_i e2;simp only [e2];exact f7 hh (λhh=>fG (λz h2=>aFH s h2 λv b A' h' s' h3=>qB (λv h4=>hx _ _ _ s' h4) h3) hh) id
  ·exact hh.elim
 ·exact hh.elim
theorem aIF {m st v:Value} {K:AP} {K':HP} (s:Sim A L h) (hh:aKa m st v A K) (hx:∀ A' h',Sim A' L h'->K A'->K' h'):esD m st v h K':=by
 unfold aKa at hh;unfold esD;split at hh
 ·exact aF7 s hh hx
 ·exact hh.elim
theorem aHx {t:TypeId} {m ix:Value} {K:AP} {K':HP} (s:Sim A L h) (hh:aKA P t m ix A K) (hx:∀ A' h',Sim A' L h'->K A'->K' h'):mdD P t m ix h K':=by
 unfold aKA at hh;unfold mdD;split at hh
 ·rename_i e1;simp only [e1];split at hh
  ·rename_i e2;simp only [e2];exact f7 hh (λhh=>aGa s hh hx) id
  ·exact hh.elim
 ·exact hh.elim
theorem mM {o:Obj} {K:Nat->AP} {K':Nat->HP} (s:Sim A L h) (hh:aT A o K) (hx:∀ b A' h',Sim A' L h'->K b A'->K' b h'):K' h.size (h.push o):=l8 s hh hx
theorem aIs {t:TypeId} {l c:Value} {K:Value->AP} {K':Value->HP} (s:Sim A L h) (hh:aKM P t l c A K) (hx:∀ v A' h',Sim A' L h'->K v A'->K' v h'):mkD P t l c h K':=by
 unfold aKM at hh;unfold mkD;split at hh
 ·rename_i e1;simp only [e1];split at hh
  ·rename_i e2;simp only [e2];split at hh
   ·rename_i e3;simp only [e3];exact aI8 hh λhh=>mM (K':=λb=>K' (.slice (some ⟨b,0,none⟩) _ _)) s hh λb=>hx _
   ·exact hh.elim
  ·exact hh.elim
 ·exact hh.elim
theorem aIv {t:TypeId} {x:Value} {K K':Value->Prop} (s:Sim A L h) (hh:aGE P t x A K) (hx:∀ v,K v->K' v):lnD P t x h K':=by
 unfold aGE at hh;unfold lnD;split at hh
 ·rename_i e1;simp only [e1];exact hx _ hh
 ·rename_i e1;simp only [e1];exact hx _ hh
 ·rename_i e1;simp only [e1];exact aFv s hh λ_=>hx _
 ·exact hh.elim
theorem aH2 {t t2:TypeId} {x y:Value} {K:Value->AP} {K':Value->HP} (s:Sim A L h) (hh:aKD P t t2 x y A K) (hx:∀ v A' h',Sim A' L h'->K v A'->K' v h'):apD P t t2 x y h K':=by
 unfold aKD at hh;unfold apD;split at hh
 ·rename_i e1 e2;simp only [e1,e2];split at hh
  ·rename_i e3;simp only [e3];split at hh
   ·rename_i e4;simp only [e4];exact aHY s hh λ_=>hx _
   ·exact hh.elim
  ·exact hh.elim
 ·rename_i e1 e2;simp only [e1,e2];split at hh
  ·rename_i e3;simp only [e3];split at hh
   ·rename_i e4;simp only [e4];exact aIK s hh λ_=>hx _
   ·exact hh.elim
  ·exact hh.elim
 ·exact hh.elim
theorem aHD {t:TypeId} {x y:Value} {K:Value->AP} {K':Value->HP} (s:Sim A L h) (hh:aKk P t x y A K) (hx:∀ v A' h',Sim A' L h'->K v A'->K' v h'):cpD P t x y h K':=by
 unfold aKk at hh;unfold cpD;split at hh
 ·rename_i e1;simp only [e1];split at hh
  ·rename_i e3;simp only [e3];exact aIl s hh λ_=>hx _
  ·exact hh.elim
 ·exact hh.elim
theorem aIj {t:TypeId} {x:Value} {K:Value->AP} {K':Value->HP} (s:Sim A L h) (hh:aKq P t x A K) (hx:∀ v A' h',Sim A' L h'->K v A'->K' v h'):clD P t x h K':=by
 unfold aKq at hh;unfold clD;split at hh
 ·rename_i e1;simp only [e1];split at hh
  ·rename_i e3;simp only [e3];split at hh
   ·rename_i e4;simp only [e4];exact qD s hh (hx _)
   ·exact hh.elim
  ·exact hh.elim
 ·exact hh.elim
theorem aFP {t:TypeId} {x:Value} {K K':Value->Prop} (hx:∀ v,K v->K' v) (hh:caD P t x K):caD P t x K':=by
 unfold caD at hh ⊢;split at hh
 ·exact hx _ hh
 ·exact hh.elim
theorem aIQ {t:TypeId} {x:Value} {K:Value->AP} {K':Value->HP} (s:Sim A L h) (hh:aKJ P t x A K) (hx:∀ v A' h',Sim A' L h'->K v A'->K' v h'):rgD P t x h K':=by
 unfold aKJ at hh;unfold rgD;split at hh
 ·rename_i e1;simp only [e1];exact aHK s hh λ_=>hx _
 ·exact hh.elim
theorem aId {x:Value} {K K':Value->Prop} (s:Sim A L h) (hh:aJL x A K) (hx:∀ v,K v->K' v):eyD x h K':=by
 unfold aJL at hh;unfold eyD;split at hh
 ·exact aIc s hh λ_ _=>hx _
 ·exact hh.elim
theorem aDx {kt et:Option TypeId} {x:Value} {K:Value->AP} {K':Value->HP} (s:Sim A L h) (hh:aHE P x kt et A K) (hx:∀ v A' h',Sim A' L h'->K v A'->K' v h'):nxD P x kt et h K':=by
 unfold aHE at hh;unfold nxD;split at hh
 ·exact aID s hh (λ_ _=>hx _ _ _) λk v A' h' s' h1=>aE2 (λ_ h2=>aEh (λ_ h3=>hx _ _ _ s' h3) h2) h1
 ·exact hh.elim
theorem aHP {t:TypeId} {n:Nat} {ps:List (Nat × Value)} {K:Value->AP} {K':Value->HP} (s:Sim A L h) (hh:aJF P t n ps A K) (hx:∀ v A' h',Sim A' L h'->K v A'->K' v h'):bsD P t n ps h K':=by
 unfold aJF at hh;unfold bsD;split at hh
 ·rename_i e1;simp only [e1];split at hh
  ·rename_i e2;simp only [e2];split at hh
   ·rename_i e3;simp only [e3];split at hh
    ·rename_i e4 e5;simp only [e4,e5];split at hh
     ·rename_i e6;simp only [e6];exact mM (K':=λb=>K' (.slice (some ⟨b,0,none⟩) _ _)) s hh λb=>hx _
     ·exact hh.elim
    ·rename_i e4 e5;simp only [e4,e5];exact mM (K':=λb=>K' (.slice (some ⟨b,0,none⟩) _ _)) s hh λb=>hx _
    ·exact hh.elim
   ·exact hh.elim
  ·exact hh.elim
 ·exact hh.elim
theorem lS {mx:Bool}:∀ (r:List Value) (x:Value) (K K':Value->Prop),(∀ v,K v->K' v)->gD mx x r K->gD mx x r K'
 | [],_,_,_,hx,h=>hx _ h
 | y::r,x,K,K',hx,h=>by
  simp only [gD,mxD] at h ⊢;split at h
  ·cases mx<;>exact lS r _ _ _ hx h
  ·exact h.elim
theorem aHV {b:Builtin} {ts:List TypeId} {vs:List Value} {K Kp:Value->AP} {K' Kp':Value->HP} (s:Sim A L h) (hh:aH0 P b ts vs A K Kp) (hx:∀ v A' h',Sim A' L h'->K v A'->K' v h') (hp:∀ v A' h',Sim A' L h'->Kp v A'->Kp' v h'):biD P b ts vs h K' Kp':=by
 unfold aH0 at hh;unfold biD;split at hh
 ·exact aH2 s hh hx
 ·exact aIv s hh λ_=>hx _ _ _ s
 ·exact aHD s hh hx
 ·exact aIj s hh hx
 ·exact aFP (λ_=>hx _ _ _ s) hh
 ·exact aHx s hh (hx _)
 ·exact lS _ _ _ _ (λ_=>hx _ _ _ s) hh
 ·exact lS _ _ _ _ (λ_=>hx _ _ _ s) hh
 ·exact hp _ _ _ s hh
 ·exact hh.elim
def EnvLe (ρ ρ':Env):Prop:=∀ t v,look ρ t=some v->look ρ' t=some v
theorem bC (hρ:EnvLe ρ ρ') {x:Operand} {K K':Value->Prop} (hx:∀ v,K v->K' v) (hh:wV ρ x K):wV ρ' x K':=by
 unfold wV at hh ⊢;cases x<;>simp only [evO] at hh ⊢
 ·split at hh
  ·rename_i e;rw [hρ _ _ e];exact hx _ hh
  ·exact hh.elim
 ·exact hx _ hh
 ·exact hx _ hh
 ·exact hx _ hh
theorem y7 (hρ:EnvLe ρ ρ'):∀ {l:List Operand} {K K':List Value->Prop} (_:∀ v,K v->K' v) (_:wL ρ l K),wL ρ' l K'
 | [],_,_,hx,hh=>hx _ hh
 | _::_,_,_,hx,hh=>bC hρ (λ_ h1=>y7 hρ (λ_=>hx _) h1) hh
theorem aHk (hρ:EnvLe ρ ρ'):∀ {l:List (Nat × Operand)} {K K':List (Nat × Value)->Prop} (_:∀ v,K v->K' v) (_:wP ρ l K),wP ρ' l K'
 | [],_,_,hx,hh=>hx _ hh
 | _::_,_,_,hx,hh=>bC hρ (λ_ h1=>aHk hρ (λ_=>hx _) h1) hh
theorem aG6 (hρ:EnvLe ρ ρ') {x:Option Operand} {K K':Option Value->Prop} (hx:∀ v,K v->K' v) (hh:wO ρ x K):wO ρ' x K':=by
 cases x
 ·exact hx _ hh
 ·exact bC hρ (λ_=>hx _) hh
end
end Go.Dn
