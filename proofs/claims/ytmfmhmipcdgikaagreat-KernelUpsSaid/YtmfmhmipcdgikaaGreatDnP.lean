/- The reading over a part of the heap: what an operation asks. -/
import Derived.Test.YtmfmhmipcdgikaaGreatDnL
namespace Go.Dn
def ldCA (c:CK) (a:Addr) (A:AH) (K:Value→Prop):Prop:=
 match c with
 | .i k=>aI k a A fun n=>K (.int k n)
 | .b=>aB a A fun b=>K (.bool b)
 | .p=>aP a A fun p=>K (.pointer p)
 | .s=>aS a A fun s=>K (.slice s.a s.len s.cap)
 | .m=>aM a A fun m=>K (.map m)
 | .v=>aV a A K
def ldLA:List CK→Addr→Nat→AH→(List Value→Prop)→Prop
 | [],_,_,_,K=>K []
 | c::r,a,n,A,K=>ldCA c (a.add n) A fun v=>ldLA r a (n+1) A fun vs=>K (v::vs)
def ldDA (P:Program) (t:TypeId) (a:Addr) (A:AH) (K:Value→Prop):Prop:=
 match P.underlying t,szOf P t with
 | some d,some n=>match isAggD d with
  | true=>match cksT P 40 t with
   | some l=>match Nat.beq l.length n with
    | true=>ldLA l a 0 A fun vs=>K (.agg vs.toArray)
    | false=>False
   | none=>aRow n a A fun cs=>K (.agg cs)
  | false=>match ckD d with
   | some c=>ldCA c a A K
   | none=>False
 | _,_=>False
def stDA (P:Program) (t:TypeId) (a:Addr) (v:Value) (A:AH) (K:AP):Prop:=
 match szOf P t with
 | some n=>match Nat.beq v.cells.toList.length n with
  | true=>aStL v.cells.toList a 0 A K
  | false=>False
 | none=>False
def lkDA (P:Program) (t:TypeId) (m ix:Value) (ok:Bool) (A:AH) (K:Value→Prop):Prop:=
 match P.underlying t,m,ix with
 | some (.map kt et),.map m,.int k key=>match P.underlying kt with
  | some (.int k')=>bsel (kEq k k') (aLk A m k key fun o=>zeroD P et fun z=>elD P et (o.getD z) fun v=>match ok with
    | true=>K (.tuple #[v,.bool o.isSome])
    | false=>K v) False
  | _=>False
 | _,_,_=>False
def muDA (P:Program) (t:TypeId) (m ix v:Value) (A:AH) (K:AP):Prop:=
 match P.underlying t,m,ix with
 | some (.map kt _),.map m,.int k key=>match P.underlying kt with
  | some (.int k')=>bsel (kEq k k') (aMSt A m k key v K) False
  | _=>False
 | _,_,_=>False
def meDA (P:Program) (t:TypeId) (m ix:Value) (A:AH) (K:Value→AP):Prop:=
 match P.underlying t,m,ix with
 | some (.map kt et),.map m,.int k key=>match P.underlying kt with
  | some (.int k')=>bsel (kEq k k') (zeroD P et fun z=>aMEn A m k key z fun v s A'=>elD P et v fun v=>K (.tuple #[v,.int .i64 s]) A') False
  | _=>False
 | _,_,_=>False
def esDA (m st v:Value) (A:AH) (K:AP):Prop:=
 match m,st with
 | .map m,.int _ s=>aMES A m s v K
 | _,_=>False
def mdDA (P:Program) (t:TypeId) (m ix:Value) (A:AH) (K:AP):Prop:=
 match P.underlying t,m,ix with
 | some (.map kt _),.map m,.int k key=>match P.underlying kt with
  | some (.int k')=>bsel (kEq k k') (aMDl A m k key K) False
  | _=>False
 | _,_,_=>False
def mkDA (P:Program) (t:TypeId) (l c:Value) (A:AH) (K:Value→AP):Prop:=
 match P.underlying t,l,c with
 | some (.slice e),.int _ l,.int _ c=>match P.info? e with
  | some i=>match i.zero with
   | some z=>mkS i.bytes l c (newA A (.cells (madeCells z.cells (c.toNat*i.size)) e) fun b=>K (.slice (some ⟨b,0,none⟩) l.toNat c.toNat))
   | none=>False
  | none=>False
 | _,_,_=>False
def lnDA (P:Program) (t:TypeId) (x:Value) (A:AH) (K:Value→Prop):Prop:=
 match P.underlying t,x with
 | some (.array n _),_=>K (.int .i64 n)
 | some (.slice _),.slice _ n _=>K (.int .i64 n)
 | some (.map _ _),.map m=>aMLn A m fun n=>K (.int .i64 n)
 | _,_=>False
def apDA (P:Program) (t t2:TypeId) (s x:Value) (A:AH) (K:Value→AP):Prop:=
 match P.underlying t,P.underlying t2,s,x with
 | some (.slice e),some (.slice _),.slice sa sl sc,.slice xa xl xc=>match P.info? e with
  | some i=>match i.zero with
   | some z=>apA i.size i.bytes z.cells e ⟨sa,sl,sc⟩ ⟨xa,xl,xc⟩ A fun r=>K (.slice r.a r.len r.cap)
   | none=>False
  | none=>False
 | some (.slice e),some (.int _),.slice sa sl sc,.int _ n=>match P.info? e with
  | some i=>match i.zero with
   | some z=>apZ i.size i.bytes z.cells e ⟨sa,sl,sc⟩ n A fun r=>K (.slice r.a r.len r.cap)
   | none=>False
  | none=>False
 | _,_,_,_=>False
def cpDA (P:Program) (t:TypeId) (d s:Value) (A:AH) (K:Value→AP):Prop:=
 match P.underlying t,d,s with
 | some (.slice e),.slice da dl dc,.slice sa sl sc=>match szOf P e with
  | some n=>cpA n ⟨da,dl,dc⟩ ⟨sa,sl,sc⟩ A fun r=>K (.int .i64 r)
  | none=>False
 | _,_,_=>False
def clDA (P:Program) (t:TypeId) (x:Value) (A:AH) (K:Value→AP):Prop:=
 match P.underlying t,x with
 | some (.slice e),.slice a n c=>match P.info? e with
  | some i=>match i.zero with
   | some z=>clrA z.cells ⟨a,n,c⟩ A (K (.tuple #[]))
   | none=>False
  | none=>False
 | _,_=>False
def rgDA (P:Program) (t:TypeId) (x:Value) (A:AH) (K:Value→AP):Prop:=
 match P.underlying t,x with
 | some (.map _ _),.map m=>rgA A m fun a=>K (.pointer (some a))
 | _,_=>False
def eyDA (it:Value) (A:AH) (K:Value→Prop):Prop:=
 match it with
 | .pointer (some a)=>aEy A a fun n v=>K (.tuple #[.int .i64 n,v])
 | _=>False
def nxDA (P:Program) (it:Value) (kt et:Option TypeId) (A:AH) (K:Value→AP):Prop:=
 match it with
 | .pointer (some a)=>aNx A a (K (.tuple #[.bool false])) fun k v A'=>keOD P kt k fun k=>elOD P et v fun v=>K (.tuple #[.bool true,k,v]) A'
 | _=>False
def bsDA (P:Program) (t:TypeId) (len:Nat) (parts:List (Nat × Value)) (A:AH) (K:Value→AP):Prop:=
 match P.underlying t with
 | some (.slice e)=>match P.info? e with
  | some i=>match i.zero with
   | some z=>match Nat.ble (len*i.size) 16777216,Nat.beq (len*i.size) 0,parts with
    | true,false,_=>match Instr.fill (fun j=>some (j*i.size,i.size)) (madeCells z.cells (len*i.size)) parts with
     | some cells=>newA A (.cells cells e) fun b=>K (.slice (some ⟨b,0,none⟩) len len)
     | none=>False
    | true,true,[]=>newA A (.cells #[] e) fun b=>K (.slice (some ⟨b,0,none⟩) len len)
    | _,_,_=>False
   | none=>False
  | none=>False
 | _=>False
def biDA (P:Program) (b:Builtin) (ts:List TypeId) (args:List Value) (A:AH) (K Kp:Value→AP):Prop:=
 match b,ts,args with
 | .append,[t,t2],[s,x]=>apDA P t t2 s x A K
 | .len,[t],[x]=>lnDA P t x A fun v=>K v A
 | .copy,t::_,[d,s]=>cpDA P t d s A K
 | .clear,t::_,[x]=>clDA P t x A K
 | .cap,t::_,[x]=>caD P t x fun v=>K v A
 | .delete,t::_,[m,k]=>mdDA P t m k A (K (.tuple #[]))
 | .max,_,x::r=>foldMx true x r fun v=>K v A
 | .min,_,x::r=>foldMx false x r fun v=>K v A
 | .panic,_,[.iface t v]=>Kp (.iface t v) A
 | _,_,_=>False
abbrev CTA:=FuncId→List Value→(Value→AP)→(Value→AP)→AP
def callDA (P:Program) (C:CTA) (ρ:Env) (c:Call) (A:AH) (K Kp:Value→AP):Prop:=
 match c.callee with
 | .value f=>wV ρ f fun fv=>match fv with
  | .func (.func g) first cap=>wL ρ c.args.toList fun vs=>C g (first.toList++vs++cap.toList) K Kp A
  | _=>False
 | .builtin b=>wL ρ c.args.toList fun vs=>biDA P b c.argTypes.toList vs A K Kp
 | .invoke _ _=>False
def opV (P:Program) (C:CTA) (ρ:Env) (o:Oper) (A:AH) (K Kp:Value→AP) (Kd:Deferred→AP):Prop:=
 match o.op with
 | .move x=>wV ρ x fun v=>K v A
 | .assign x=>wV ρ x fun v=>K v A
 | .pick c a b=>wV ρ c fun vc=>match vc with
  | .bool t=>bsel t (wV ρ a fun v=>K v A) (wV ρ b fun v=>K v A)
  | _=>False
 | .alloc t=>zeroD P t fun z=>newA A (.cells z.cells t) fun b=>K (.pointer (some ⟨b,0,none⟩))
 | .box t x=>wV ρ x fun v=>newA A (.cells v.cells t) fun b=>K (.pointer (some ⟨b,0,none⟩))
 | .build t ps=>wP ρ ps.toList fun vs=>match P.built t vs with
  | some cells=>K (.agg cells) A
  | none=>False
 | .buildSlice t len ps=>wP ρ ps.toList fun vs=>bsDA P t len vs A K
 | .load t a=>wV ρ a fun va=>asAd va fun ad=>ldDA P t ad A fun v=>K v A
 | .store t a x=>wV ρ a fun va=>asAd va fun ad=>wV ρ x fun v=>stDA P t ad v A (K undef)
 | .nilCheck x=>wV ρ x fun v=>nilD v fun u=>K u A
 | .binOp op t x y _=>wV ρ x fun vx=>wV ρ y fun vy=>binD P op t vx vy fun v=>K v A
 | .unOp op _ x=>wV ρ x fun v=>unD op v fun u=>K u A
 | .convert s d x=>wV ρ x fun v=>cvD P s d v fun u=>K u A
 | .makeInterface t x=>concD P t (wV ρ x fun v=>K (.iface t v) A)
 | .makeFunc fn first cap=>wL ρ first.toList fun a=>wL ρ cap.toList fun b=>K (.func fn a.toArray b.toArray) A
 | .makeMap _ none=>newA A (.map #[] 0) fun b=>K (.map (some b))
 | .makeSlice t l c=>wV ρ l fun vl=>wV ρ c fun vc=>mkDA P t vl vc A K
 | .slice t x lo hi mx=>wV ρ x fun v=>wO ρ lo fun l=>wO ρ hi fun i=>wO ρ mx fun m=>slcD P t v l i m fun u=>K u A
 | .fieldAddr s x f=>wV ρ x fun v=>fldD P s v f fun u=>K u A
 | .field t x f=>wV ρ x fun v=>fvD P t v f fun u=>K u A
 | .indexAddr t x i=>wV ρ x fun v=>wV ρ i fun vi=>ixaD P t v vi fun u=>K u A
 | .index t x i=>wV ρ x fun v=>wV ρ i fun vi=>idxD P t v vi fun u=>K u A
 | .lookup t m k ok=>wV ρ m fun vm=>wV ρ k fun vk=>lkDA P t vm vk ok A fun v=>K v A
 | .mapUpdate t m k x=>wV ρ m fun vm=>wV ρ k fun vk=>wV ρ x fun v=>muDA P t vm vk v A (K undef)
 | .insert t m k x=>wV ρ m fun vm=>wV ρ k fun vk=>wV ρ x fun v=>muDA P t vm vk v A (K undef)
 | .mapEntry t m k=>wV ρ m fun vm=>wV ρ k fun vk=>meDA P t vm vk A K
 | .entryStore _ m s x=>wV ρ m fun vm=>wV ρ s fun vs=>wV ρ x fun v=>esDA vm vs v A (K undef)
 | .range t x=>wV ρ x fun v=>rgDA P t v A K
 | .next it false=>wV ρ it fun v=>match P.underlying o.type with
  | some (.tuple ts)=>match ts.toList with
   | [_,kt,et]=>nxDA P v (some kt) (some et) A K
   | []=>nxDA P v none none A K
   | _=>False
  | _=>False
 | .entry it=>wV ρ it fun v=>eyDA v A fun u=>K u A
 | .typeAssert x _ t ok=>wV ρ x fun v=>taD P v t ok fun u=>K u A
 | .extract t i=>wV ρ t fun v=>extD v i fun u=>K u A
 | .call c=>callDA P C ρ c A K Kp
 | .defer c=>match c.callee with
  | .value f=>wV ρ f fun fv=>match fv with
   | .func fn first cap=>wL ρ c.args.toList fun vs=>Kd { target:=.fn fn cap,args:=first++vs.toArray } A
   | _=>False
  | _=>False
 | .panic x=>wV ρ x fun v=>match v with
  | .iface t u=>Kp (.iface t u) A
  | _=>False
 | _=>False
section
variable {A:AH} {L:Bx} {h:Hp} {P:Program} {ρ ρ':Env}
theorem ldCA_up {c:CK} {a:Addr} {K K':Value→Prop} (s:Sim A L h) (hh:ldCA c a A K) (hx:∀ v,K v→K' v):ldC c a h K':=by
 cases c
 ·exact aI_pro s hh fun _=>hx _
 ·exact aB_pro s hh fun _=>hx _
 ·exact aP_pro s hh fun _=>hx _
 ·exact aS_pro s hh fun _=>hx _
 ·exact aM_pro s hh fun _=>hx _
 ·exact aV_pro s hh fun _=>hx _
theorem ldLA_up (s:Sim A L h) {a:Addr}:∀ (l:List CK) (n:Nat) (K K':List Value→Prop),ldLA l a n A K→(∀ v,K v→K' v)→ldL l a n h K'
 | [],_,_,_,hh,hx=>hx _ hh
 | _::r,n,_,_,hh,hx=>ldCA_up s hh fun _ h1=>ldLA_up s r (n+1) _ _ h1 fun _=>hx _
theorem ldDA_up {t:TypeId} {a:Addr} {K K':Value→Prop} (s:Sim A L h) (hh:ldDA P t a A K) (hx:∀ v,K v→K' v):ldD P t a h K':=by
 unfold ldDA at hh
 unfold ldD
 split at hh
 ·rename_i d n e1 e2
  split at hh
  ·rename_i e3
   simp only [e1,e2,e3]
   split at hh
   ·rename_i l e4
    split at hh
    ·rename_i e5
     simp only [e4,e5]
     exact ldLA_up s _ _ _ _ hh fun _=>hx _
    ·exact hh.elim
   ·rename_i e4
    simp only [e4]
    exact aRow_pro s hh fun _=>hx _
  ·rename_i e3
   simp only [e1,e2,e3]
   split at hh
   ·rename_i e4
    simp only [e4]
    exact ldCA_up s hh hx
   ·exact hh.elim
 ·exact hh.elim
theorem stDA_up {t:TypeId} {a:Addr} {v:Value} {K:AP} {K':HP} (s:Sim A L h) (hh:stDA P t a v A K) (hx:∀ A' h',Sim A' L h'→K A'→K' h'):stD P t a v h K':=by
 unfold stDA at hh
 unfold stD
 split at hh
 ·rename_i n e1
  split at hh
  ·rename_i e2
   simp only [e1,e2]
   exact aStL_pro _ _ _ _ _ _ _ s hh hx
  ·exact hh.elim
 ·exact hh.elim
theorem exL_mono:∀ (l:List CK) (K K':List Value→Prop),(∀ v,K v→K' v)→exL l K→exL l K'
 | [],_,_,hx,h=>hx _ h
 | c::r,K,K',hx,h=>by
  cases c<;>(obtain ⟨n,h⟩:=h;exact ⟨n,exL_mono r _ _ (fun _=>hx _) h⟩)
theorem elD_mono {t:TypeId} {v:Value} {K K':Value→Prop} (hx:∀ v,K v→K' v) (h:elD P t v K):elD P t v K':=by
 unfold elD at h ⊢
 cases e1:P.underlying t with
 | none=>rw [e1] at h;exact h.elim
 | some d=>
  rw [e1] at h
  simp only at h ⊢
  cases e2:isAggD d with
  | true=>
   rw [e2] at h
   simp only at h ⊢
   cases e3:cksT P 40 t with
   | none=>rw [e3] at h;exact h.elim
   | some l=>
    rw [e3] at h
    exact exL_mono _ _ _ (fun _ q=>⟨q.1,hx _ q.2⟩) h
  | false=>
   rw [e2] at h
   simp only at h ⊢
   cases e3:ckD d with
   | none=>rw [e3] at h;exact h.elim
   | some c=>
    rw [e3] at h
    refine exL_mono _ _ _ (fun vs q=>?_) h
    split at q
    ·exact ⟨q.1,hx _ q.2⟩
    ·exact q.elim
theorem keOD_mono {t:Option TypeId} {v:Value} {K K':Value→Prop} (hx:∀ v,K v→K' v) (h:keOD P t v K):keOD P t v K':=by
 cases t with
 | none=>
  obtain ⟨n,e,h⟩:=h
  exact ⟨n,e,hx _ h⟩
 | some t=>exact elD_mono hx h
theorem elOD_mono {t:Option TypeId} {v:Value} {K K':Value→Prop} (hx:∀ v,K v→K' v) (h:elOD P t v K):elOD P t v K':=by
 cases t with
 | none=>exact hx _ h
 | some t=>exact elD_mono hx h
theorem zeroD_mono {t:TypeId} {K K':Value→Prop} (hx:∀ v,K v→K' v) (h:zeroD P t K):zeroD P t K':=by
 unfold zeroD at h ⊢
 cases e1:P.info? t with
 | none=>rw [e1] at h;exact h.elim
 | some i=>
  rw [e1] at h
  simp only at h ⊢
  cases e2:i.zero with
  | none=>rw [e2] at h;exact h.elim
  | some z=>rw [e2] at h;exact hx _ h
theorem lkDA_up {t:TypeId} {m ix:Value} {ok:Bool} {K K':Value→Prop} (s:Sim A L h) (hh:lkDA P t m ix ok A K) (hx:∀ v,K v→K' v):lkD P t m ix ok h K':=by
 unfold lkDA at hh
 unfold lkD
 split at hh
 ·rename_i e1
  simp only [e1]
  split at hh
  ·rename_i e2
   simp only [e2]
   refine bsel_pro hh (fun hh=>aLk_pro s hh fun o h1=>zeroD_mono (fun z h2=>elD_mono (fun v h3=>?_) h2) h1) id
   cases ok<;>exact hx _ h3
  ·exact hh.elim
 ·exact hh.elim
theorem muDA_up {t:TypeId} {m ix v:Value} {K:AP} {K':HP} (s:Sim A L h) (hh:muDA P t m ix v A K) (hx:∀ A' h',Sim A' L h'→K A'→K' h'):muD P t m ix v h K':=by
 unfold muDA at hh
 unfold muD
 split at hh
 ·rename_i e1
  simp only [e1]
  split at hh
  ·rename_i e2
   simp only [e2]
   exact bsel_pro hh (fun hh=>aMSt_pro s hh hx) id
  ·exact hh.elim
 ·exact hh.elim
theorem meDA_up {t:TypeId} {m ix:Value} {K:Value→AP} {K':Value→HP} (s:Sim A L h) (hh:meDA P t m ix A K) (hx:∀ v A' h',Sim A' L h'→K v A'→K' v h'):meD P t m ix h K':=by
 unfold meDA at hh
 unfold meD
 split at hh
 ·rename_i e1
  simp only [e1]
  split at hh
  ·rename_i e2
   simp only [e2]
   exact bsel_pro hh (fun hh=>zeroD_mono (fun z h2=>aMEn_pro s h2 fun v b A' h' s' h3=>elD_mono (fun v h4=>hx _ _ _ s' h4) h3) hh) id
  ·exact hh.elim
 ·exact hh.elim
theorem esDA_up {m st v:Value} {K:AP} {K':HP} (s:Sim A L h) (hh:esDA m st v A K) (hx:∀ A' h',Sim A' L h'→K A'→K' h'):esD m st v h K':=by
 unfold esDA at hh
 unfold esD
 split at hh
 ·exact aMES_pro s hh hx
 ·exact hh.elim
theorem mdDA_up {t:TypeId} {m ix:Value} {K:AP} {K':HP} (s:Sim A L h) (hh:mdDA P t m ix A K) (hx:∀ A' h',Sim A' L h'→K A'→K' h'):mdD P t m ix h K':=by
 unfold mdDA at hh
 unfold mdD
 split at hh
 ·rename_i e1
  simp only [e1]
  split at hh
  ·rename_i e2
   simp only [e2]
   exact bsel_pro hh (fun hh=>aMDl_pro s hh hx) id
  ·exact hh.elim
 ·exact hh.elim
theorem newA_up {o:Obj} {K:Nat→AP} {K':Nat→HP} (s:Sim A L h) (hh:newA A o K) (hx:∀ b A' h',Sim A' L h'→K b A'→K' b h'):K' h.size (h.push o):=newA_pro s hh hx
theorem mkDA_up {t:TypeId} {l c:Value} {K:Value→AP} {K':Value→HP} (s:Sim A L h) (hh:mkDA P t l c A K) (hx:∀ v A' h',Sim A' L h'→K v A'→K' v h'):mkD P t l c h K':=by
 unfold mkDA at hh
 unfold mkD
 split at hh
 ·rename_i e1
  simp only [e1]
  split at hh
  ·rename_i e2
   simp only [e2]
   split at hh
   ·rename_i e3
    simp only [e3]
    exact mkS_pro hh fun hh=>newA_up (K':=fun b=>K' (.slice (some ⟨b,0,none⟩) _ _)) s hh fun b=>hx _
   ·exact hh.elim
  ·exact hh.elim
 ·exact hh.elim
theorem lnDA_up {t:TypeId} {x:Value} {K K':Value→Prop} (s:Sim A L h) (hh:lnDA P t x A K) (hx:∀ v,K v→K' v):lnD P t x h K':=by
 unfold lnDA at hh
 unfold lnD
 split at hh
 ·rename_i e1;simp only [e1];exact hx _ hh
 ·rename_i e1;simp only [e1];exact hx _ hh
 ·rename_i e1;simp only [e1];exact aMLn_pro s hh fun _=>hx _
 ·exact hh.elim
theorem apDA_up {t t2:TypeId} {x y:Value} {K:Value→AP} {K':Value→HP} (s:Sim A L h) (hh:apDA P t t2 x y A K) (hx:∀ v A' h',Sim A' L h'→K v A'→K' v h'):apD P t t2 x y h K':=by
 unfold apDA at hh
 unfold apD
 split at hh
 ·rename_i e1 e2
  simp only [e1,e2]
  split at hh
  ·rename_i e3
   simp only [e3]
   split at hh
   ·rename_i e4
    simp only [e4]
    exact apA_pro s hh fun _=>hx _
   ·exact hh.elim
  ·exact hh.elim
 ·rename_i e1 e2
  simp only [e1,e2]
  split at hh
  ·rename_i e3
   simp only [e3]
   split at hh
   ·rename_i e4
    simp only [e4]
    exact apZ_pro s hh fun _=>hx _
   ·exact hh.elim
  ·exact hh.elim
 ·exact hh.elim
theorem cpDA_up {t:TypeId} {x y:Value} {K:Value→AP} {K':Value→HP} (s:Sim A L h) (hh:cpDA P t x y A K) (hx:∀ v A' h',Sim A' L h'→K v A'→K' v h'):cpD P t x y h K':=by
 unfold cpDA at hh
 unfold cpD
 split at hh
 ·rename_i e1
  simp only [e1]
  split at hh
  ·rename_i e3
   simp only [e3]
   exact cpA_pro s hh fun _=>hx _
  ·exact hh.elim
 ·exact hh.elim
theorem clDA_up {t:TypeId} {x:Value} {K:Value→AP} {K':Value→HP} (s:Sim A L h) (hh:clDA P t x A K) (hx:∀ v A' h',Sim A' L h'→K v A'→K' v h'):clD P t x h K':=by
 unfold clDA at hh
 unfold clD
 split at hh
 ·rename_i e1
  simp only [e1]
  split at hh
  ·rename_i e3
   simp only [e3]
   split at hh
   ·rename_i e4
    simp only [e4]
    exact aStR_pro s hh (hx _)
   ·exact hh.elim
  ·exact hh.elim
 ·exact hh.elim
theorem caD_mono {t:TypeId} {x:Value} {K K':Value→Prop} (hx:∀ v,K v→K' v) (hh:caD P t x K):caD P t x K':=by
 unfold caD at hh ⊢
 split at hh
 ·exact hx _ hh
 ·exact hh.elim
theorem rgDA_up {t:TypeId} {x:Value} {K:Value→AP} {K':Value→HP} (s:Sim A L h) (hh:rgDA P t x A K) (hx:∀ v A' h',Sim A' L h'→K v A'→K' v h'):rgD P t x h K':=by
 unfold rgDA at hh
 unfold rgD
 split at hh
 ·rename_i e1
  simp only [e1]
  exact rgA_pro s hh fun _=>hx _
 ·exact hh.elim
theorem eyDA_up {x:Value} {K K':Value→Prop} (s:Sim A L h) (hh:eyDA x A K) (hx:∀ v,K v→K' v):eyD x h K':=by
 unfold eyDA at hh
 unfold eyD
 split at hh
 ·exact aEy_pro s hh fun _ _=>hx _
 ·exact hh.elim
theorem nxDA_up {kt et:Option TypeId} {x:Value} {K:Value→AP} {K':Value→HP} (s:Sim A L h) (hh:nxDA P x kt et A K) (hx:∀ v A' h',Sim A' L h'→K v A'→K' v h'):nxD P x kt et h K':=by
 unfold nxDA at hh
 unfold nxD
 split at hh
 ·exact aNx_pro s hh (fun _ _=>hx _ _ _) fun k v A' h' s' h1=>keOD_mono (fun _ h2=>elOD_mono (fun _ h3=>hx _ _ _ s' h3) h2) h1
 ·exact hh.elim
theorem bsDA_up {t:TypeId} {n:Nat} {ps:List (Nat × Value)} {K:Value→AP} {K':Value→HP} (s:Sim A L h) (hh:bsDA P t n ps A K) (hx:∀ v A' h',Sim A' L h'→K v A'→K' v h'):bsD P t n ps h K':=by
 unfold bsDA at hh
 unfold bsD
 split at hh
 ·rename_i e1
  simp only [e1]
  split at hh
  ·rename_i e2
   simp only [e2]
   split at hh
   ·rename_i e3
    simp only [e3]
    split at hh
    ·rename_i e4 e5
     simp only [e4,e5]
     split at hh
     ·rename_i e6
      simp only [e6]
      exact newA_up (K':=fun b=>K' (.slice (some ⟨b,0,none⟩) _ _)) s hh fun b=>hx _
     ·exact hh.elim
    ·rename_i e4 e5
     simp only [e4,e5]
     exact newA_up (K':=fun b=>K' (.slice (some ⟨b,0,none⟩) _ _)) s hh fun b=>hx _
    ·exact hh.elim
   ·exact hh.elim
  ·exact hh.elim
 ·exact hh.elim
theorem foldMx_mono {mx:Bool}:∀ (r:List Value) (x:Value) (K K':Value→Prop),(∀ v,K v→K' v)→foldMx mx x r K→foldMx mx x r K'
 | [],_,_,_,hx,h=>hx _ h
 | y::r,x,K,K',hx,h=>by
  simp only [foldMx,mxD] at h ⊢
  split at h
  ·cases mx<;>exact foldMx_mono r _ _ _ hx h
  ·exact h.elim
theorem biDA_up {b:Builtin} {ts:List TypeId} {vs:List Value} {K Kp:Value→AP} {K' Kp':Value→HP} (s:Sim A L h) (hh:biDA P b ts vs A K Kp) (hx:∀ v A' h',Sim A' L h'→K v A'→K' v h') (hp:∀ v A' h',Sim A' L h'→Kp v A'→Kp' v h'):biD P b ts vs h K' Kp':=by
 unfold biDA at hh
 unfold biD
 split at hh
 ·exact apDA_up s hh hx
 ·exact lnDA_up s hh fun _=>hx _ _ _ s
 ·exact cpDA_up s hh hx
 ·exact clDA_up s hh hx
 ·exact caD_mono (fun _=>hx _ _ _ s) hh
 ·exact mdDA_up s hh (hx _)
 ·exact foldMx_mono _ _ _ _ (fun _=>hx _ _ _ s) hh
 ·exact foldMx_mono _ _ _ _ (fun _=>hx _ _ _ s) hh
 ·exact hp _ _ _ s hh
 ·exact hh.elim
def EnvLe (ρ ρ':Env):Prop:=∀ t v,look ρ t=some v→look ρ' t=some v
theorem wV_up (hρ:EnvLe ρ ρ') {x:Operand} {K K':Value→Prop} (hx:∀ v,K v→K' v) (hh:wV ρ x K):wV ρ' x K':=by
 unfold wV at hh ⊢
 cases x<;>simp only [evO] at hh ⊢
 ·split at hh
  ·rename_i e;rw [hρ _ _ e];exact hx _ hh
  ·exact hh.elim
 ·exact hx _ hh
 ·exact hx _ hh
 ·exact hx _ hh
theorem wL_up (hρ:EnvLe ρ ρ'):∀ {l:List Operand} {K K':List Value→Prop} (_:∀ v,K v→K' v) (_:wL ρ l K),wL ρ' l K'
 | [],_,_,hx,hh=>hx _ hh
 | _::_,_,_,hx,hh=>wV_up hρ (fun _ h1=>wL_up hρ (fun _=>hx _) h1) hh
theorem wP_up (hρ:EnvLe ρ ρ'):∀ {l:List (Nat × Operand)} {K K':List (Nat × Value)→Prop} (_:∀ v,K v→K' v) (_:wP ρ l K),wP ρ' l K'
 | [],_,_,hx,hh=>hx _ hh
 | _::_,_,_,hx,hh=>wV_up hρ (fun _ h1=>wP_up hρ (fun _=>hx _) h1) hh
theorem wO_up (hρ:EnvLe ρ ρ') {x:Option Operand} {K K':Option Value→Prop} (hx:∀ v,K v→K' v) (hh:wO ρ x K):wO ρ' x K':=by
 cases x
 ·exact hx _ hh
 ·exact wV_up hρ (fun _=>hx _) hh
end
end Go.Dn
