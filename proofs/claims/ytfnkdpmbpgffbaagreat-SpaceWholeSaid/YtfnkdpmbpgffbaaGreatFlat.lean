/- What the proof stands on. -/
import Derived.Test.YtfnkdpmbpgffbaaGreatDnN
import Derived.Test.YtfnkdpmbpgffbaaGreatP
import Derived.ProofKit
import Derived.Deep.Slices
import Derived.Deep.Strs
import Derived.Lib.SmallJoins
namespace Go.Dn
open Go.ChangeShapes Go.WideShapes Go.ChangeAt Go.RowKit
def Was (h:Hp):SP:=λB=>∀ b o,h[b]? = some o->B b=some o
def aLH (h:Hp):AH:=λb=>h[b]?
theorem aI3 (h:Hp):Own [Was h] (aLH h):=⟨aLH h,λ_=>none,λ_=>.inr rfl,eU.refl _,(λ_ _ e=>nomatch e),λ_ _ e=>e,True.intro⟩
structure aET (h h':Hp):Prop where
 size:h.size<=h'.size
 old:∀ b,b<h.size->h'[b]? = h[b]?
theorem aI4 {h h':Hp} {A:AH} {L:Bx} {l:List SP} (s:Sim A L h') (o:Own (Was h::l) A):aET h h':=by
 obtain ⟨B,u,w⟩:=o.sat
 have a:∀ b,b<h.size->h'[b]? = h[b]?:=λb c=>by
  have e:h[b]? = some h[b]:=by simp [c]
  rw [e];exact s.sub _ _ (u _ _ (w _ _ e))
 refine ⟨?_,a⟩;rcases Nat.lt_or_ge h'.size h.size with g | g
 .have d:=a h'.size g;simp [g] at d
 .exact g
def aKJ (r:Value) (w:World):Ending->World->Prop:=λe w'=>e = .returned r/\Below w.heap.size w w'
theorem aHW {w w':World} {e:Ending} {r:Value} (h:callQ (λv h'=>v=r/\aET w.heap h') (λ_ _=>False) w e w'):aKJ r w e w':=by
 obtain ⟨k,h⟩:=h;cases e with
 | returned v=>
  obtain ⟨rfl,a⟩:=h;exact ⟨rfl,⟨k.os,k.tape,k.out,a.size,λb c=>a.old b c⟩⟩
 | panicked ch=>obtain ⟨_,_,h⟩:=h;exact h.elim
 | outgrown=>exact h.elim
theorem aNA {w:World} {v:Value} {a:AH} {h':Hp} {r:Value} (s:Sim a [] h') (h:v=r/\Own [Was w.heap] a):v=r/\aET w.heap h':=⟨h.1,aI4 s h.2⟩
end Go.Dn
namespace Go.Dn
open Go.Deep Go.Joins Go.ChangeShapes Go.WideShapes Go.ChangeAt Go.RowKit
theorem aFw {h:Hp} {a:Addr} {len cap sz:Nat} {cs:List Value} (l:len*sz=cs.length) (i:∀ j v,cs[j]? = some v->dI h (a.add j)=some v):Reads (Was h) ⟨some a,len,cap⟩ sz cs:=by
 intro B A m u;refine ⟨l,λj v k=>?_⟩;have q:=(List.getElem?_eq_some_iff.1 k).1;have d:=i 0 cs[0] (by simp [show 0<cs.length by omega])
 have hs:a.spot=none:=by
  have n:a.add 0=a:=by simp [Addr.add]
  rw [n] at d;unfold dI at d;split at d
  .cases g:a.spot with
   | none=>rfl
   | some _=>rw [g] at d;simp at d
  .cases d
 obtain ⟨b,o,sp⟩:=a;simp only at hs;subst hs;refine ⟨b,o,rfl,?_⟩;have e:=i j v k;rw [add_at] at e;unfold dI at e;unfold bM;split at e
 .rename_i c t f p;rw [u _ _ (m _ _ p)];exact e
 .cases e
theorem aF1 {h:Hp} {sz:Nat}:Reads (Was h) Sl.nil sz []:=λ_ _ _ _=>⟨by simp [Sl.nil],λj v a=>by simp at a⟩
end Go.Dn
namespace Go.Dn
open Go.Deep Go.Joins Go.ChangeShapes Go.WideShapes Go.ChangeAt Go.RowKit
theorem uF {α:Type} (f:α->List Value) (sz:Nat) (a:∀ x,(f x).length=sz):∀ l:List α,(l.flatMap f).length=l.length*sz
 | []=>by simp
 | x::l=>by rw [List.flatMap_cons,List.length_append,a,uF f sz a l,List.length_cons,Nat.succ_mul];omega
theorem aCR {α:Type} (f:α->List Value) (sz:Nat) (a:∀ x,(f x).length=sz):∀ (l:List α) (j:Nat) (x:α) (k:Nat),l[j]? = some x->k<sz->(l.flatMap f)[j*sz+k]? = (f x)[k]?
 | [],_,_,_,h,_=>by simp at h
 | y::l,0,x,k,h,hk=>by
  simp at h;subst h;rw [List.flatMap_cons,Nat.zero_mul,Nat.zero_add,List.getElem?_append_left (by rw [a];exact hk)]
 | y::l,j+1,x,k,h,hk=>by
  rw [List.flatMap_cons,List.getElem?_append_right (by rw [a,Nat.succ_mul];omega),a,show (j+1)*sz+k-sz=j*sz+k by rw [Nat.succ_mul];omega];exact aCR f sz a l j x k (by simpa using h) hk
section
variable {H:Type} {enc:TypeId × Value->H} {P:Program} {w:World} {base:Nat} {spare:Nat->Bool} {held:Bool}
theorem aDK {α:Type} [Inhabited α] (f:α->List Value) (q:α->Prop) (sz:Nat) (hsz:0<sz) (hl:∀ x,(f x).length=sz) {r:Reach} {b0:Nat} {t e:TypeId} {v:Value} {d:DataW H} {ps:List MemPlace} (ht:P.underlying t=some (.slice e)) (hC:P.cellsOf e=sz)
  (ho:∀ n cs y,DataW.trod enc P w base spare held n e cs=some y->∃ x,cs=f x/\q x) (hw:Value.okWide P w r b0 t v) (h:DataW.Trod enc P w base spare held t v d ps) :
  ∃ (s:Sl) (l:List α),v = .slice s.a s.len s.cap/\Reads (Was w.heap) s sz (l.flatMap f)/\(∀ x ∈ l,q x)/\l.length<9223372036854775808/\s.len<=s.cap/\(s.a=none->l=[]):=by
 obtain ⟨n,h⟩:=h;obtain ⟨a0,l0,c0,rfl⟩:=okWide_slice ht hw;rcases open_slice ht h with ⟨hv,_⟩ | ⟨a,len,cap,m,k,D,Pl,hv,_,hlc,hcm,hm,_,hx⟩
 ·have hv:([Value.slice a0 l0 c0]:List Value)=[.slice none 0 0]:=hv;have hv:Value.slice a0 l0 c0 = .slice none 0 0:=by injection hv
  exact ⟨Sl.nil,[],hv,aF1,λp hp=>by simp at hp,by simp,Nat.le_refl _,λ_=>rfl⟩
 ·have hv:([Value.slice a0 l0 c0]:List Value)=[.slice (some a) len cap]:=hv;have hv:Value.slice a0 l0 c0 = .slice (some a) len cap:=by injection hv
  have hlm:len<=m:=by rw [hm];split<;>omega
  obtain ⟨F,hF⟩:=choose_lt (α:=α) (n:=len) (p:=λi p=>w.cells? base (a.add (i*sz)) sz=some (f p)/\q p) (λi hi=>by
   obtain ⟨cs',k1,k2⟩:=hx i (by omega);rw [hC] at k1;obtain ⟨p,rfl,hp⟩:=ho _ _ _ k2;exact ⟨p,k1,hp⟩)
  refine ⟨⟨some a,len,cap⟩,(List.range len).map F,hv,aFw ?_ ?_,?_,?_⟩
  ·rw [uF f sz hl];simp
  ·intro j v hj;have hjl:=(List.getElem?_eq_some_iff.1 hj).1;rw [uF f sz hl] at hjl;simp only [List.length_map,List.length_range] at hjl;have hdiv:j / sz<len:=Nat.div_lt_of_lt_mul (by rw [Nat.mul_comm];exact hjl);have hmod:j % sz<sz:=Nat.mod_lt _ hsz;have hj2:j / sz*sz+j % sz=j:=by rw [Nat.mul_comm];exact Nat.div_add_mod j sz
   have hq:((List.range len).map F)[j / sz]? = some (F (j / sz)):=by rw [List.getElem?_map,List.getElem?_range hdiv];rfl
   have ha:=aCR f sz hl _ _ _ _ hq hmod;rw [hj2,hj] at ha;obtain ⟨k1,_⟩:=hF (j / sz) hdiv;obtain ⟨_,_,k2⟩:=World.cells?_some k1;have k3:=k2 (j % sz) hmod
   have hadd:∀ (x y:Nat),(a.add x).add y=a.add (x+y):=by
    intro x y;unfold Addr.add;split<;>split<;>simp_all<;>omega
   rw [hadd,hj2] at k3;exact k3.trans ha.symm
  ·intro p hp;simp only [List.mem_map,List.mem_range] at hp;obtain ⟨i,hi,rfl⟩:=hp;exact (hF i hi).2
  ·refine ⟨?_,hlc,λg=>nomatch g⟩;simp;have hcm2:=hcm;unfold maxLen at hcm2;omega
end
end Go.Dn
namespace Go.Dn
open Go.Deep Go.Joins Go.ChangeShapes Go.WideShapes Go.ChangeAt Go.RowKit
inductive FK where
 | i (k:IntKind)
 | b
def FK.ok:FK->Value->Prop
 | .i k,v=>∃ n,v = .int k n/\(Lit.int k n).wf=true
 | .b,v=>∃ x,v = .bool x
def AllOK:List FK->List Value->Prop
 | [],[]=>True
 | k::ks,v::vs=>k.ok v/\AllOK ks vs
 | _,_=>False
theorem AllOK.app:∀ {k1 k2:List FK} {v1 v2:List Value},AllOK k1 v1->AllOK k2 v2->AllOK (k1++k2) (v1++v2)
 | [],_,[],_,_,h2=>h2
 | _::_,_,_::_,_,h1,h2=>⟨h1.1,AllOK.app h1.2 h2⟩
 | [],_,_::_,_,h,_=>h.elim
 | _::_,_,[],_,h,_=>h.elim
def q7 (F:TypeId->Option (List FK)):Nat->List Field->Option (List FK)
 | _,[]=>some []
 | off,f::fs=>match F f.type with
  | some ks=>if f.offset=off then (q7 F (off+ks.length) fs).map (ks++·) else none
  | none=>none
def flatK (P:Program):Nat->TypeId->Option (List FK)
 | 0,_=>none
 | n+1,t=>match P.underlying t with
  | some .bool=>some [.b]
  | some (.int k)=>some [.i k]
  | some (.struct fs)=>match q7 (λt=>match flatK P n t with | some ks=>if P.cellsOf t=ks.length then some ks else none | none=>none) 0 fs.toList with
   | some ks=>if P.cellsOf t=ks.length then some ks else none
   | none=>none
  | some (.array m e)=>match flatK P n e with
   | some ks=>if P.cellsOf e=ks.length/\P.cellsOf t=m*ks.length then some ((List.replicate m ks).flatten) else none
   | none=>none
  | _=>none
section
variable {H:Type} {enc:TypeId × Value->H} {P:Program} {w:World} {base:Nat} {spare:Nat->Bool} {held:Bool}
theorem uY {F:TypeId->Option (List FK)} {fuel:Nat} (hF:∀ t ks cs y,F t=some ks->DataW.trod enc P w base spare held fuel t cs=some y->AllOK ks cs) (hC:∀ t ks,F t=some ks->P.cellsOf t=ks.length) :
  ∀ (fs:List Field) (off:Nat) (ks:List FK) (cs:List Value) (xs:List (DataW H × List MemPlace)),q7 F off fs=some ks->(fs.mapM λf=>DataW.trod enc P w base spare held fuel f.type ((cs.drop f.offset).take (P.cellsOf f.type)))=some xs->AllOK ks ((cs.drop off).take ks.length)
 | [],off,ks,cs,xs,h,_=>by
  simp [q7] at h;subst h;exact True.intro
 | f::fs,off,ks,cs,xs,h,hm=>by
  simp only [q7] at h;split at h
  ·rename_i k0 hk;split at h
   ·rename_i ho;obtain ⟨k1,h1,rfl⟩:=Option.map_eq_some_iff.1 h;rw [List.mapM_cons] at hm;cases hy:DataW.trod enc P w base spare held fuel f.type ((cs.drop f.offset).take (P.cellsOf f.type)) with
    | none=>rw [hy] at hm;cases hm
    | some y=>
     rw [hy] at hm;cases hr:(fs.mapM λf=>DataW.trod enc P w base spare held fuel f.type ((cs.drop f.offset).take (P.cellsOf f.type))) with
     | none=>rw [hr] at hm;cases hm
     | some ys=>
      have a1:=hF _ _ _ _ hk hy;have a2:=uY hF hC fs _ _ _ _ h1 hr;rw [hC _ _ hk,ho] at a1;have:=a1.app a2
      have e:(cs.drop off).take (k0++k1).length=(cs.drop off).take k0.length++(cs.drop (off+k0.length)).take k1.length:=by
       rw [List.length_append,List.take_add,List.drop_drop]
      show AllOK (k0++k1) _;rw [e];exact this
   ·cases h
  ·cases h
theorem z9 {fuel:Nat} {e:TypeId} {ks:List FK} (hF:∀ cs y,DataW.trod enc P w base spare held fuel e cs=some y->AllOK ks cs):∀ (m:Nat) (cs:List Value) (xs:List (DataW H × List MemPlace)) (l:List Nat) (o:Nat),l=(List.range m).map (o+·)->
  (l.mapM λi=>DataW.trod enc P w base spare held fuel e ((cs.drop (i*ks.length)).take ks.length))=some xs->AllOK ((List.replicate m ks).flatten) ((cs.drop (o*ks.length)).take (m*ks.length))
 | 0,cs,xs,l,o,_,_=>by simp [AllOK]
 | m+1,cs,xs,l,o,hl,h=>by
  rw [List.range_succ_eq_map,List.map_cons,List.map_map] at hl;subst hl;rw [List.mapM_cons] at h;cases hy:DataW.trod enc P w base spare held fuel e ((cs.drop ((o+0)*ks.length)).take ks.length) with
  | none=>rw [hy] at h;cases h
  | some y=>
   rw [hy] at h;cases hr:((List.range m).map ((o+·) ∘ Nat.succ)).mapM (λi=>DataW.trod enc P w base spare held fuel e ((cs.drop (i*ks.length)).take ks.length)) with
   | none=>rw [hr] at h;cases h
   | some ys=>
    have a1:=hF _ _ hy;have a2:=z9 hF m cs ys _ (o+1) (by apply List.map_congr_left;intro i _;simp [Function.comp];omega) hr;have:=a1.app a2;rw [List.replicate_succ,List.flatten_cons]
    have e:(cs.drop (o*ks.length)).take ((m+1)*ks.length)=(cs.drop ((o+0)*ks.length)).take ks.length++(cs.drop ((o+1)*ks.length)).take (m*ks.length):=by
     rw [Nat.succ_mul,Nat.add_comm,List.take_add,List.drop_drop,Nat.add_zero,Nat.succ_mul]
    rw [e];exact this
theorem lR:∀ (n:Nat) (t:TypeId) (ks:List FK) (fuel:Nat) (cs:List Value) (y:DataW H × List MemPlace),flatK P n t=some ks->DataW.trod enc P w base spare held fuel t cs=some y->AllOK ks cs
 | 0,_,_,_,_,_,h,_=>by simp [flatK] at h
 | n+1,t,ks,0,cs,y,h,ht=>by simp [DataW.trod] at ht
 | n+1,t,ks,fuel+1,cs,y,h,ht=>by
  rw [flatK] at h;rw [DataW.trod.eq_def] at ht;simp only at ht;split at h
  ·rename_i hu;rw [hu] at ht;cases h;split at ht<;>first | (rename_i q;cases q) | skip
   all_goals first | (cases ht;done) | skip
   all_goals first | exact ⟨⟨_,rfl⟩,True.intro⟩ | skip
   all_goals (simp_all)
  ·rename_i k hu;rw [hu] at ht;cases h;split at ht<;>first | (rename_i q;cases q) | skip
   all_goals first | (cases ht;done) | skip
   all_goals first
    | (split at ht
       ·rename_i q;exact ⟨⟨_,by rw [q.1],q.2⟩,True.intro⟩
       ·cases ht)
    | skip
   all_goals (simp_all)
  ·rename_i fs hu;rw [hu] at ht;split at h
   ·rename_i k0 hk;split at h
    ·rename_i hc;cases h;simp only at ht;split at ht
     ·rename_i hl;obtain ⟨xs,hm,_⟩:=Option.map_eq_some_iff.1 ht
      have:=uY (F:=λt=>match flatK P n t with | some ks=>if P.cellsOf t=ks.length then some ks else none | none=>none) (fuel:=fuel) (λt ks cs y h1 h2=>by
       split at h1
       ·rename_i q;split at h1
        ·cases h1;exact lR n _ _ _ _ _ q h2
        ·cases h1
       ·cases h1) (λt ks h1=>by
       split at h1
       ·rename_i q;split at h1
        ·rename_i q2;cases h1;exact q2
        ·cases h1
       ·cases h1) _ _ _ _ _ hk hm
      rw [List.drop_zero,<- hc,<- hl,List.take_length] at this;exact this
     ·cases ht
    ·cases h
   ·cases h
  ·rename_i m e hu;rw [hu] at ht;split at h
   ·rename_i k0 hk;split at h
    ·rename_i hc;cases h;simp only at ht;split at ht
     ·rename_i hl;obtain ⟨xs,hm,_⟩:=Option.map_eq_some_iff.1 ht;rw [hc.1] at hm;have:=z9 (ks:=k0) (λcs y h2=>lR n _ _ _ _ _ hk h2) m cs xs _ 0 (by simp) hm;rw [Nat.zero_mul,List.drop_zero,<- hc.2,<- hl,List.take_length] at this;exact this
     ·cases ht
    ·cases h
   ·cases h
  ·cases h
end
theorem aGU {k0 k1 k2 k3 k4 k5 k6 k7 k8 k9 k10:FK} {cs:List Value} (h:AllOK [k0,k1,k2,k3,k4,k5,k6,k7,k8,k9,k10] cs):∃ v0,∃ _:k0.ok v0,∃ v1,∃ _:k1.ok v1,∃ v2,∃ _:k2.ok v2,∃ v3,∃ _:k3.ok v3,∃ v4,∃ _:k4.ok v4,∃ v5,∃ _:k5.ok v5,∃ v6,∃ _:k6.ok v6,∃ v7,∃ _:k7.ok v7,∃ v8,∃ _:k8.ok v8,∃ v9,∃ _:k9.ok v9,∃ v10,∃ _:k10.ok v10,cs=[v0,v1,v2,v3,v4,v5,v6,v7,v8,v9,v10]:=by
 match cs,h with
 | [v0,v1,v2,v3,v4,v5,v6,v7,v8,v9,v10],h=>exact ⟨v0,h.1,v1,h.2.1,v2,h.2.2.1,v3,h.2.2.2.1,v4,h.2.2.2.2.1,v5,h.2.2.2.2.2.1,v6,h.2.2.2.2.2.2.1,v7,h.2.2.2.2.2.2.2.1,v8,h.2.2.2.2.2.2.2.2.1,v9,h.2.2.2.2.2.2.2.2.2.1,v10,h.2.2.2.2.2.2.2.2.2.2.1,rfl⟩
theorem aCB {H:Type} {enc:TypeId × Value->H} {P:Program} (hl:laidOutB P=true) {W W':World} (hb:Below W.heap.size W W'):∀ {ts:List TypeId} {vs:List Value} {ds:List (DataW H)} {ps:List MemPlace},(ts.all λt=>P.readableRec t&&decide (t<P.types.size))=true->
  DataW.TrodAll enc P W 0 (λ_=>true) true ts vs ds ps->(∀ x ∈ ps,x.block<W.heap.size)->DataW.TrodAll enc P W' 0 (λb=>decide (b<W.heap.size)) true ts vs ds ps
 | [],[],[],_,_,h,_=>h
 | t::ts,v::vs,d::ds,ps,hr,⟨p,q,h1,h2,e⟩,hlt=>by
  simp only [List.all_cons,Bool.and_eq_true,decide_eq_true_eq] at hr;subst e;exact ⟨p,q,Below.trod hl hr.1.1 hr.1.2 h1 hb (λx hx=>hlt x (by simp [hx])),aCB hl hb (by simp_all) h2 (λx hx=>hlt x (by simp [hx])),rfl⟩
end Go.Dn
