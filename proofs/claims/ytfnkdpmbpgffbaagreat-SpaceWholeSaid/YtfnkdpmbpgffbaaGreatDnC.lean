/- Operators, addresses, slices, maps. -/
import Derived.Test.YtfnkdpmbpgffbaaGreatDnB
import Derived.Laws.Entries
import Derived.Stop.BytesEq
namespace Go.Dn
def kEq (a b:IntKind):Bool:=match a,b with
 | .i8,.i8 | .i16,.i16 | .i32,.i32 | .i64,.i64 | .u8,.u8 | .u16,.u16 | .u32,.u32 | .u64,.u64=>true
 | _,_=>false
theorem kEq_mp {a b:IntKind} (h:kEq a b=true):a=b:=by cases a<;>cases b<;>simp_all [kEq]
def aDG (a b:Option Bool):Option Bool:=match a,b with | some x,some y=>some (x&&y) | _,_=>none
def eqI (k:IntKind):Nat->List Value->List Value->Option Bool
 | 0,[],[]=>some true
 | n+1,.int k1 a::xs,.int k2 b::ys=>match kEq k k1,kEq k k2 with
  | true,true=>aDG (some (a==b)) (eqI k n xs ys)
  | _,_=>none
 | _,_,_=>none
mutual
def eqT (P:Program):Nat->TypeId->List Value->List Value->Option Bool
 | 0,_,_,_=>none
 | n+1,t,xs,ys=>match P.underlying t with
  | some (.int k)=>match xs,ys with
   | [.int k1 a],[.int k2 b]=>match kEq k k1,kEq k k2 with
    | true,true=>some (a==b)
    | _,_=>none
   | _,_=>none
  | some .bool=>match xs,ys with
   | [.bool a],[.bool b]=>some (a==b)
   | _,_=>none
  | some (.struct fs)=>match P.stoodInHeld t with
   | true=>none
   | false=>eqF P n fs.toList xs ys
  | some (.array l e)=>match n,P.underlying e,szOf P e with
   | _+1,some (.int k),some 1=>eqI k l xs ys
   | _,_,_=>none
  | _=>none
def eqF (P:Program):Nat->List Field->List Value->List Value->Option Bool
 | 0,_,_,_=>none
 | _+1,[],_,_=>some true
 | n + 1, f :: fs, xs, ys => match szOf P f.type, f.name == "_" with
  | some m,false=>aDG (eqT P n f.type ((xs.drop f.offset).take m) ((ys.drop f.offset).take m)) (eqF P n fs xs ys)
  | _,_=>none
end
def arD (op:BinOp) (k:IntKind) (a b:Int) (K:Value->Prop):Prop:=
 match op with
 | .add=>K (.int k (k.wrap (a+b)))
 | .sub=>K (.int k (k.wrap (a-b)))
 | .mul=>K (.int k (k.wrap (a*b)))
 | .quo=>bsel (b==0) False (K (.int k (k.wrap (a.tdiv b))))
 | .rem=>bsel (b==0) False (K (.int k (a.tmod b)))
 | .and | .or | .xor | .andNot=>K (.int k (bits op k a b))
 | .eql=>K (.bool (a==b))
 | .neq=>K (.bool (a != b))
 | .lss=>K (.bool (decide (a<b)))
 | .leq=>K (.bool (decide (a<=b)))
 | .gtr=>K (.bool (decide (a > b)))
 | .geq=>K (.bool (decide (a>=b)))
 | _=>False
def shD (op:BinOp) (k:IntKind) (a b:Int) (K:Value->Prop):Prop:=
 match op with
 | .shl=>bsel (decide (b<0)) False (K (.int k (k.wrap (a*2 ^ (min b.toNat k.bits)))))
 | .shr=>bsel (decide (b<0)) False (K (.int k (a.fdiv (2 ^ (min b.toNat k.bits)))))
 | _=>False
def isSh:BinOp->Bool | .shl | .shr=>true | _=>false
def eqD (op:BinOp) (b:Bool) (K:Value->Prop):Prop:=
 match op with
 | .eql=>K (.bool b)
 | .neq=>K (.bool (!b))
 | _=>False
def aMC (xs ys:Array Value) (n:Nat) (K:Bool->Prop):Prop:=
 ∃ as bs:List UInt8,xs=(as.map Go.Extern.Stop.cell).toArray/\ys=(bs.map Go.Extern.Stop.cell).toArray/\as.length=n/\bs.length=n/\K (as==bs)
def aAY (P:Program) (op:BinOp) (t:TypeId) (x y:Value) (K:Value->Prop):Prop:=
 match x,y with
 | .int k a,.int k' b=>match isSh op with
  | true=>shD op k a b K
  | false=>bsel (kEq k k') (arD op k a b K) False
 | .bool a,.bool b=>match P.underlying t with
  | some .bool=>eqD op (a==b) K
  | _=>False
 | .pointer p,.pointer none=>match P.underlying t with
  | some (.pointer _)=>eqD op p.isNone K
  | _=>False
 | .slice p _ _,.slice none _ _=>match P.underlying t with
  | some (.slice _)=>eqD op p.isNone K
  | _=>False
 | .map p,.map none=>match P.underlying t with
  | some (.map _ _)=>eqD op p.isNone K
  | _=>False
 | .agg xs,.agg ys=>match P.underlying t with
  | some (.struct _)=>match P.eqGuardType P.depth t,eqT P 40 t xs.toList ys.toList with
   | false,some b=>eqD op b K
   | _,_=>False
  | some (.array n e)=>match P.underlying e,szOf P e,P.eqGuardType P.depth t with
   | some (.int .u8),some 1,false=>aMC xs ys n λb=>eqD op b K
   | some (.int k),some 1,false=>match eqI k n xs.toList ys.toList with
    | some b=>eqD op b K
    | none=>False
   | _,_,_=>False
  | _=>False
 | _,_=>False
section
variable {P:Program} {dr:Bool}
theorem g9 (w:World) {t:TypeId} {d:TypeDesc} {n:Nat} (a:P.underlying t=some d) (hs:szOf P t=some n) (b:isAggD d=true) (cs:Array Value) (off:Nat) :
  (part t cs off).run P w = .ok (.agg (cs.extract off (off+n))) w:=by
 obtain ⟨i,hi,rfl⟩:=dY hs;cases d<;>simp [isAggD] at b<;>simp [part,isAgg,run_underlying a,sizeOf,typeInfo,hi]
theorem lW (w:World) {t:TypeId} {d:TypeDesc} (a:P.underlying t=some d) (b:isAggD d=false) (cs:Array Value) (off:Nat) (v:Value) (c:cs[off]? = some v) :
  (part t cs off).run P w = .ok v w:=by
 cases d<;>simp [isAggD] at b<;>simp [part,isAgg,run_underlying a,c]
theorem aHB {l:List Value} {off m:Nat} {v:Value} (h:(l.drop off).take m=[v]):l[off]? = some v:=by
 have:=congrArg (λl:List Value=>l[0]?) h;simp only [List.getElem?_take,List.getElem?_drop,Nat.add_zero,List.getElem?_cons_zero] at this;split at this
 ·exact this
 ·cases this
theorem aDl {k:IntKind}:∀ (n:Nat) (xs d:List Value) (b:Bool),eqI k n xs d=some b->∃ as f:List Int,xs=as.map (.int k)/\d=f.map (.int k)/\as.length=n/\f.length=n/\b=(as==f)
 | 0,xs,d,b,h=>by
  cases xs with
  | nil=>cases d with
   | nil=>simp [eqI] at h;exact ⟨[],[],rfl,rfl,rfl,rfl,by simpa using h.symm⟩
   | cons _ _=>simp [eqI] at h
  | cons _ _=>simp [eqI] at h
 | n+1,xs,d,b,h=>by
  unfold eqI at h;split at h
  .omega
  .rename_i m k1 a xs k2 c d e;cases e;split at h
   rotate_left
   .cases h
   rename_i i j;cases kEq_mp i;cases kEq_mp j;cases g:eqI k n xs d with
   | none=>simp [g,aDG] at h
   | some r=>
    simp only [g,aDG,Option.some.injEq] at h;obtain ⟨as,f,l,o,p,q,s⟩:=aDl n xs d r g;refine ⟨a::as,c::f,by simp [l],by simp [o],by simp [p],by simp [q],?_⟩;rw [<-h,s];simp [List.cons_beq_cons]
  .cases h
theorem pC:∀ (xs a:List Int),xs.length=a.length->((List.range xs.length).all λi=>xs.getD i 0==a.getD i 0)=(xs==a)
 | [],[],_=>rfl
 | x::xs,y::a,h=>by
  have b:=pC xs a (by simp_all);rw [List.length_cons,List.range_succ_eq_map,List.all_cons,List.all_map];simp only [List.getD_cons_zero,Function.comp_def,List.getD_cons_succ,b];simp [List.cons_beq_cons]
 | [],_::_,h=>by simp at h
 | _::_,[],h=>by simp at h
theorem lC {k:IntKind} (w:World) (d:Nat) (t e:TypeId) (n:Nat) (ht:P.underlying t=some (.array n e)) (he:P.underlying e=some (.int k)) (hsz:∀ w,(sizeOf e).run P w = .ok 1 w)
  (xs ys:List Int) (hx:xs.length=n) (hy:ys.length=n) :
  (Op.equalIn (d+2) t (.agg (xs.map (Value.int k)).toArray) (.agg (ys.map (Value.int k)).toArray)).run P w = .ok (xs==ys) w:=by
 rw [<-pC xs ys (hx.trans hy.symm),hx,List.range_eq_range',Op.equalIn];simp only [Sem.run_bind,run_underlying ht,Result.andThen_ok,hsz,Std.Legacy.Range.forIn_eq_forIn_range',Std.Legacy.Range.size,Nat.sub_zero,Nat.add_sub_cancel,Nat.div_one];have hl:∀ i ∈ List.range' 0 n 1,i<n:=λi hi=>by simpa using (List.mem_range'_1.1 hi).2
 generalize List.range' 0 n 1=l at hl ⊢
 induction l with
 | nil=>simp
 | cons i l ih=>
  have hi:i<n:=hl i (by simp)
  have px:(part e (xs.map (Value.int k)).toArray (i*1)).run P w = .ok (Value.int k (xs.getD i 0)) w:=by
   simp [part,isAgg,run_underlying he,List.getD,List.getElem?_eq_getElem (show i<xs.length by omega)]
  have py:(part e (ys.map (Value.int k)).toArray (i*1)).run P w = .ok (Value.int k (ys.getD i 0)) w:=by
   simp [part,isAgg,run_underlying he,List.getD,List.getElem?_eq_getElem (show i<ys.length by omega)]
  have pe:(Op.equalIn (d+1) e (Value.int k (xs.getD i 0)) (Value.int k (ys.getD i 0))).run P w = .ok (xs.getD i 0==ys.getD i 0) w:=run_equalIn_int w d e k k _ _ he;simp only [List.forIn_cons,Sem.run_bind,px,py,pe,Result.andThen_ok,List.all_cons];cases hb:(xs.getD i 0==ys.getD i 0)
  ·simp
  ·simp_all
def mkV (d:TypeDesc) (xs:List Value) (v:Value):Prop:=match isAggD d with
 | true=>v = .agg xs.toArray
 | false=>xs=[v]
mutual
theorem aIq:∀ (n:Nat) (t:TypeId) (d:TypeDesc) (xs ys:List Value) (b:Bool),eqT P n t xs ys=some b->P.underlying t=some d->∀ x y,mkV d xs x->mkV d ys y->
  ∀ m,n<=m->∀ w,(Op.equalIn m t x y).run P w = .ok b w
 | 0,_,_,_,_,_,h,_,_,_,_,_,_,_,_=>by simp [eqT] at h
 | n+1,t,d,xs,ys,b,h,hu,x,y,hx,hy,m,hm,w=>by
  obtain ⟨m,rfl⟩:∃ k,m=k+1:=⟨m-1,by omega⟩;simp only [eqT,hu] at h;cases d<;>simp only [reduceCtorEq] at h
  case int k=>
   simp only [mkV,isAggD] at hx hy;subst hx hy;split at h
   ·rename_i k1 a k2 b' e1 e2;simp only [List.cons.injEq,and_true] at e1 e2;subst e1 e2;split at h
    ·rename_i h1 h2;have h1:=kEq_mp h1;have h2:=kEq_mp h2;subst h1 h2;simp only [Option.some.injEq] at h;subst h;exact run_equalIn_int w m t k k a b' hu
    ·cases h
   ·cases h
  case bool=>
   simp only [mkV,isAggD] at hx hy;subst hx hy;split at h
   ·rename_i a b' e1 e2;simp only [List.cons.injEq,and_true] at e1 e2;subst e1 e2;simp only [Option.some.injEq] at h;subst h;exact run_equalIn_bool' w m t a b' hu
   ·cases h
  case struct fs=>
   simp only [mkV,isAggD] at hx hy;subst hx hy;cases hsi:P.stoodInHeld t with
   | true=>simp [hsi] at h
   | false=>
    simp only [hsi] at h;have hf:P.fieldsOf t=fs:=by simp [Program.fieldsOf,hu]
    rw [run_equalIn_struct w m t _ _ (by simp_all) hsi,hf];exact aIi n fs.toList xs ys b h m (by omega) w
  case array l e=>
   simp only [mkV,isAggD] at hx hy;subst hx hy;split at h
   ·rename_i n' k he hs;obtain ⟨as,bs,e1,e2,h1,h2,rfl⟩:=aDl _ _ _ _ h;subst e1 e2
    have hsz:∀ w,(sizeOf e).run P w = .ok 1 w:=λw=>by
     obtain ⟨i,hi,h3⟩:=dY hs;simp [sizeOf,typeInfo,hi,h3]
    obtain ⟨m,rfl⟩:∃ j,m=j+1:=⟨m-1,by omega⟩;exact lC w m t e l hu he hsz as bs h1 h2
   ·cases h
theorem aIi:∀ (n:Nat) (i:List Field) (xs a:List Value) (b:Bool),eqF P n i xs a=some b->∀ m,n<=m->∀ w,
  (Op.eqFields m xs.toArray a.toArray i).run P w = .ok b w
 | 0,_,_,_,_,h,_,_,_=>by simp [eqF] at h
 | n+1,[],xs,a,b,h,m,hm,w=>by simp only [eqF,Option.some.injEq] at h;subst h;simp [Op.eqFields]
 | n+1,f::i,xs,a,b,h,m,hm,w=>by
  simp only [eqF] at h;split at h
  .rename_i k C o
   have p : f.name ≠ "_" := by simpa using o
   cases c:eqT P n f.type ((xs.drop f.offset).take k) ((a.drop f.offset).take k) with
   | none=>simp [c,aDG] at h
   | some r=>
    cases q:eqF P n i xs a with
    | none=>simp [c,q,aDG] at h
    | some r'=>
     simp only [c,q,aDG,Option.some.injEq] at h;subst h;have s:=aIi n i xs a r' q m (by omega);cases e:P.underlying f.type with
     | none=>cases n<;>simp [eqT,e] at c
     | some d=>
      have key:∃ x y,mkV d ((xs.drop f.offset).take k) x/\mkV d ((a.drop f.offset).take k) y/\(∀ w,(part f.type xs.toArray f.offset).run P w = .ok x w)/\(∀ w,(part f.type a.toArray f.offset).run P w = .ok y w):=by
       cases g:isAggD d with
       | true=>
        refine ⟨.agg (xs.toArray.extract f.offset (f.offset+k)),.agg (a.toArray.extract f.offset (f.offset+k)),?_,?_,λw=>g9 w e C g _ _,λw=>g9 w e C g _ _⟩ <;>
         simp [mkV,g]
       | false=>
        have D:∀ l:List Value,(∃ z,((l.drop f.offset).take k)=[z])->∃ z,mkV d ((l.drop f.offset).take k) z/\∀ w,(part f.type l.toArray f.offset).run P w = .ok z w:=by
         rintro l ⟨z,E⟩;exact ⟨z,by simp [mkV,g,E],λw=>lW w e g _ _ z (by simpa using aHB E)⟩
        have j:(∃ z,((xs.drop f.offset).take k)=[z])/\(∃ z,((a.drop f.offset).take k)=[z]):=by
         cases n with
         | zero=>simp [eqT] at c
         | succ n=>
          simp only [eqT,e] at c;cases d<;>simp only [reduceCtorEq] at c<;>simp [isAggD] at g
          all_goals
           split at c
           .simp_all
           .cases c
        obtain ⟨x,t,u⟩:=D xs j.1;obtain ⟨y,v,A⟩:=D a j.2;exact ⟨x,y,t,v,u,A⟩
      obtain ⟨x,y,j,F,G,H⟩:=key;have B:=aIq n f.type d _ _ r c e x y j F m (by omega);simp only [Op.eqFields,p,ne_eq,not_false_eq_true,if_true,Sem.run_bind,G,H,Result.andThen_ok,B];cases r<;>simp [s]
  .cases h
end
theorem cX (w:World) (c:BinOp) (t:TypeId) (x y:Operand) (a b:Value) (h:∀ xs d,¬ (a = .agg xs/\b = .agg d)) (h':¬ (a = .nilIface/\b = .nilIface)) :
  (eqGuard c t x y a b).run P w = .ok () w:=by
 unfold eqGuard;cases c<;>simp<;>(cases a<;>first | rfl | (cases b<;>first | rfl | simp_all))
theorem vK {t:TypeId} {x y:Value} {b:Bool} (h:∀ d w,(Op.equalIn (d+1) t x y).run P w = .ok b w) (w:World):(Op.equal t x y).run P w = .ok b w:=h 9999 w
theorem aJl (t:TypeId) {e:TypeId} (a:P.underlying t=some (.pointer e)) (p:Option Addr) (d:Nat) (w:World):(Op.equalIn (d+1) t (.pointer p) (.pointer none)).run P w = .ok p.isNone w:=by
 cases p<;>simp [Op.equalIn,run_underlying a]
theorem aJ1 (t:TypeId) {e:TypeId} (f:P.underlying t=some (.slice e)) (p:Option Addr) (a b c d':Nat) (d:Nat) (w:World):(Op.equalIn (d+1) t (.slice p a b) (.slice none c d')).run P w = .ok p.isNone w:=by
 cases p<;>simp [Op.equalIn,run_underlying f]
theorem aKl (t:TypeId) {k e:TypeId} (a:P.underlying t=some (.map k e)) (p:Option Nat) (d:Nat) (w:World):(Op.equalIn (d+1) t (.map p) (.map none)).run P w = .ok p.isNone w:=by
 cases p<;>simp [Op.equalIn,run_underlying a]
theorem binD_ok {op:BinOp} {t:TypeId} {ox oy:Operand} {x y:Value} {K:Value->HP} {h:Hp} (hh:aAY P op t x y λv=>K v h) :
  cF P dr (do eqGuard op t ox oy x y;binOp op t x y) K h:=by
 unfold aAY at hh;split at hh
 ·rename_i k a k' b;refine aH (aK (λw=>cX w op t ox oy _ _ (by simp) (by simp)) ?_);split at hh
  ·rename_i hs;cases op<;>simp [isSh] at hs<;>simp only [shD] at hh
   all_goals
    obtain ⟨h1,h2⟩:=yH hh;simp only [decide_eq_false_iff_not] at h1;refine aK (λw=>?_) h2;simp [binOp,Op.shift,h1]
  ·rename_i hs;obtain ⟨h1,h2⟩:=bG hh;have h1:=kEq_mp h1;subst h1;cases op<;>simp [isSh] at hs<;>simp only [arD] at h2<;>(first | (obtain ⟨h0,h2⟩:=yH h2;simp only [beq_eq_false_iff_ne,ne_eq] at h0) | skip)
   all_goals (refine aK (λw=>?_) h2)
   all_goals (first | (simp [binOp,Op.intDiv,h0];done) | (simp [binOp,Op.intArith];done) | (simp [binOp,Op.intCmp];done) | (simp [binOp,Op.intBits,bits];done))
 ·rename_i a b;split at hh
  ·rename_i hu;refine aH (aK (λw=>cX w op t ox oy _ _ (by simp) (by simp)) ?_);have key:=λw=>vK (P:=P) (λd w=>run_equalIn_bool' w d t a b hu) w;cases op<;>simp only [eqD] at hh
   all_goals (refine aK (λw=>?_) hh)
   all_goals simp only [binOp,Sem.run_bind,key,Result.andThen_ok,Sem.run_pure]
  ·exact hh.elim
 ·rename_i p;split at hh
  ·rename_i hu;refine aH (aK (λw=>cX w op t ox oy _ _ (by simp) (by simp)) ?_);have key:=λw=>vK (P:=P) (λd w=>aJl t hu p d w) w;cases op<;>simp only [eqD] at hh
   all_goals (refine aK (λw=>?_) hh)
   all_goals simp only [binOp,Sem.run_bind,key,Result.andThen_ok,Sem.run_pure]
  ·exact hh.elim
 ·rename_i p l1 c1 l2 c2;split at hh
  ·rename_i hu;refine aH (aK (λw=>cX w op t ox oy _ _ (by simp) (by simp)) ?_);have key:=λw=>vK (P:=P) (λd w=>aJ1 t hu p l1 c1 l2 c2 d w) w;cases op<;>simp only [eqD] at hh
   all_goals (refine aK (λw=>?_) hh)
   all_goals simp only [binOp,Sem.run_bind,key,Result.andThen_ok,Sem.run_pure]
  ·exact hh.elim
 ·rename_i p;split at hh
  ·rename_i hu;refine aH (aK (λw=>cX w op t ox oy _ _ (by simp) (by simp)) ?_);have key:=λw=>vK (P:=P) (λd w=>aKl t hu p d w) w;cases op<;>simp only [eqD] at hh
   all_goals (refine aK (λw=>?_) hh)
   all_goals simp only [binOp,Sem.run_bind,key,Result.andThen_ok,Sem.run_pure]
  ·exact hh.elim
 ·rename_i xs ys;split at hh
  ·rename_i hu;split at hh
   ·rename_i hg he;refine aH (aK (λw=>run_eqGuard_agg w op t ox oy xs ys hg) ?_);have key0:=aIq 40 t _ xs.toList ys.toList _ he hu (.agg xs) (.agg ys) (by simp [mkV,isAggD]) (by simp [mkV,isAggD]);have key:∀ w,(Op.equal t (.agg xs) (.agg ys)).run P w = .ok _ w:=λw=>key0 10000 (by decide) w;cases op<;>simp only [eqD] at hh
    all_goals (refine aK (λw=>?_) hh)
    all_goals simp only [binOp,Sem.run_bind,key,Result.andThen_ok,Sem.run_pure]
   ·exact hh.elim
  ·rename_i n e hu;split at hh
   ·rename_i he hs hg;refine aH (aK (λw=>run_eqGuard_agg w op t ox oy xs ys hg) ?_);obtain ⟨as,bs,rfl,rfl,h1,h2,hh⟩:=hh
    have hsz:∀ w,(sizeOf e).run P w = .ok 1 w:=λw=>by
     obtain ⟨i,hi,h3⟩:=dY hs;simp [sizeOf,typeInfo,hi,h3]
    have key:∀ w,(Op.equal t (.agg (as.map Go.Extern.Stop.cell).toArray) (.agg (bs.map Go.Extern.Stop.cell).toArray)).run P w = .ok _ w:=λw=>run_equalIn_bytes w 9998 t e n hu he hsz as bs h1 h2;cases op<;>simp only [eqD] at hh
    all_goals (refine aK (λw=>?_) hh)
    all_goals simp only [binOp,Sem.run_bind,key,Result.andThen_ok,Sem.run_pure]
   ·rename_i k _ he hs hg;split at hh
    ·rename_i b hb;refine aH (aK (λw=>run_eqGuard_agg w op t ox oy xs ys hg) ?_);obtain ⟨as,bs,e1,e2,h1,h2,rfl⟩:=aDl _ _ _ _ hb;have hxs:xs=(as.map (Value.int k)).toArray:=by rw [<-e1]
     have hys:ys=(bs.map (Value.int k)).toArray:=by rw [<-e2]
     subst hxs hys
     have hsz:∀ w,(sizeOf e).run P w = .ok 1 w:=λw=>by
      obtain ⟨i,hi,h3⟩:=dY hs;simp [sizeOf,typeInfo,hi,h3]
     have key:∀ w,(Op.equal t (.agg (as.map (Value.int k)).toArray) (.agg (bs.map (Value.int k)).toArray)).run P w = .ok _ w:=λw=>lC w 9998 t e n hu he hsz as bs h1 h2;cases op<;>simp only [eqD] at hh
     all_goals (refine aK (λw=>?_) hh)
     all_goals simp only [binOp,Sem.run_bind,key,Result.andThen_ok,Sem.run_pure]
    ·exact hh.elim
   ·exact hh.elim
  ·exact hh.elim
 ·exact hh.elim
end
end Go.Dn
