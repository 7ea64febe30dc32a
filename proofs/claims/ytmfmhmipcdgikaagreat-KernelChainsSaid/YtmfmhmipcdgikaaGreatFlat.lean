/- What the proof stands on. -/
import Derived.Test.YtmfmhmipcdgikaaGreatDnN
import Derived.Test.YtmfmhmipcdgikaaGreatP
import Derived.ProofKit
import Derived.Deep.Slices
import Derived.Deep.Strs
import Derived.Lib.SmallJoins
namespace Go.Dn
open Go.ChangeShapes Go.WideShapes Go.ChangeAt Go.RowKit
def Was (h:Hp):SP:=λB=>∀ b o,h[b]? = some o->B b=some o
def aKj (h:Hp):AH:=λb=>h[b]?
theorem aH7 (h:Hp):Own [Was h] (aKj h):=⟨aKj h,λ_=>none,λ_=>.inr rfl,lA.refl _,(λ_ _ e=>nomatch e),λ_ _ e=>e,True.intro⟩
structure aDP (h h':Hp):Prop where
 size:h.size<=h'.size
 old:∀ b,b<h.size->h'[b]? = h[b]?
theorem aIY {h h':Hp} {A:AH} {L:Bx} {l:List SP} (s:Sim A L h') (o:Own (Was h::l) A):aDP h h':=by
 obtain ⟨B,u,w⟩:=o.sat
 have hold:∀ b,b<h.size->h'[b]? = h[b]?:=λb hb=>by
  have e:h[b]? = some h[b]:=by simp [hb]
  rw [e];exact s.sub _ _ (u _ _ (w _ _ e))
 refine ⟨?_,hold⟩;rcases Nat.lt_or_ge h'.size h.size with g | g
 ·have h1:=hold h'.size g;simp [g] at h1
 ·exact g
def aJl (r:Value) (w:World):Ending->World->Prop:=λe w'=>e = .returned r/\Below w.heap.size w w'
theorem aGO {w w':World} {e:Ending} {r:Value} (h:callQ (λv h'=>v=r/\aDP w.heap h') (λ_ _=>False) w e w'):aJl r w e w':=by
 obtain ⟨k,h⟩:=h;cases e with
 | returned v=>
  obtain ⟨rfl,kp⟩:=h;exact ⟨rfl,⟨k.os,k.tape,k.out,kp.size,λb hb=>kp.old b hb⟩⟩
 | panicked ch=>obtain ⟨_,_,h⟩:=h;exact h.elim
 | outgrown=>exact h.elim
theorem aME {w:World} {v:Value} {A':AH} {h':Hp} {r:Value} (s:Sim A' [] h') (h:v=r/\Own [Was w.heap] A'):v=r/\aDP w.heap h':=⟨h.1,aIY s h.2⟩
end Go.Dn
namespace Go.Dn
open Go.Deep Go.Joins Go.ChangeShapes Go.WideShapes Go.ChangeAt Go.RowKit
inductive FK where
 | i (k:IntKind)
 | b
def FK.ok:FK->Value->Prop
 | .i k,v=>∃ n,v = .int k n/\(Lit.int k n).wf=true
 | .b,v=>∃ x,v = .bool x
def AllOK:List FK->List Value->Prop
 | [],[]=>True
 | k::ks,v::vs=>k.ok v/\AllOK ks vs
 | _,_=>False
theorem AllOK.app:∀ {k1 k2:List FK} {v1 v2:List Value},AllOK k1 v1->AllOK k2 v2->AllOK (k1++k2) (v1++v2)
 | [],_,[],_,_,h2=>h2
 | _::_,_,_::_,_,h1,h2=>⟨h1.1,AllOK.app h1.2 h2⟩
 | [],_,_::_,_,h,_=>h.elim
 | _::_,_,[],_,h,_=>h.elim
def pW (F:TypeId->Option (List FK)):Nat->List Field->Option (List FK)
 | _,[]=>some []
 | off,f::fs=>match F f.type with
  | some ks=>if f.offset=off then (pW F (off+ks.length) fs).map (ks++·) else none
  | none=>none
def flatK (P:Program):Nat->TypeId->Option (List FK)
 | 0,_=>none
 | n+1,t=>match P.underlying t with
  | some .bool=>some [.b]
  | some (.int k)=>some [.i k]
  | some (.struct fs)=>match pW (λt=>match flatK P n t with | some ks=>if P.cellsOf t=ks.length then some ks else none | none=>none) 0 fs.toList with
   | some ks=>if P.cellsOf t=ks.length then some ks else none
   | none=>none
  | some (.array m e)=>match flatK P n e with
   | some ks=>if P.cellsOf e=ks.length/\P.cellsOf t=m*ks.length then some ((List.replicate m ks).flatten) else none
   | none=>none
  | _=>none
section
variable {H:Type} {enc:TypeId × Value->H} {P:Program} {w:World} {base:Nat} {spare:Nat->Bool} {held:Bool}
theorem sW {F:TypeId->Option (List FK)} {fuel:Nat} (hF:∀ t ks cs y,F t=some ks->DataW.trod enc P w base spare held fuel t cs=some y->AllOK ks cs) (hC:∀ t ks,F t=some ks->P.cellsOf t=ks.length) :
  ∀ (fs:List Field) (off:Nat) (ks:List FK) (cs:List Value) (xs:List (DataW H × List MemPlace)),pW F off fs=some ks->(fs.mapM λf=>DataW.trod enc P w base spare held fuel f.type ((cs.drop f.offset).take (P.cellsOf f.type)))=some xs->AllOK ks ((cs.drop off).take ks.length)
 | [],off,ks,cs,xs,h,_=>by
  simp [pW] at h;subst h;exact True.intro
 | f::fs,off,ks,cs,xs,h,hm=>by
  simp only [pW] at h;split at h
  ·rename_i k0 hk;split at h
   ·rename_i ho;obtain ⟨k1,h1,rfl⟩:=Option.map_eq_some_iff.1 h;rw [List.mapM_cons] at hm;cases hy:DataW.trod enc P w base spare held fuel f.type ((cs.drop f.offset).take (P.cellsOf f.type)) with
    | none=>rw [hy] at hm;cases hm
    | some y=>
     rw [hy] at hm;cases hr:(fs.mapM λf=>DataW.trod enc P w base spare held fuel f.type ((cs.drop f.offset).take (P.cellsOf f.type))) with
     | none=>rw [hr] at hm;cases hm
     | some ys=>
      have a1:=hF _ _ _ _ hk hy;have a2:=sW hF hC fs _ _ _ _ h1 hr;rw [hC _ _ hk,ho] at a1;have:=a1.app a2
      have e:(cs.drop off).take (k0++k1).length=(cs.drop off).take k0.length++(cs.drop (off+k0.length)).take k1.length:=by
       rw [List.length_append,List.take_add,List.drop_drop]
      show AllOK (k0++k1) _;rw [e];exact this
   ·cases h
  ·cases h
theorem y9 {fuel:Nat} {e:TypeId} {ks:List FK} (hF:∀ cs y,DataW.trod enc P w base spare held fuel e cs=some y->AllOK ks cs):∀ (m:Nat) (cs:List Value) (xs:List (DataW H × List MemPlace)) (l:List Nat) (o:Nat),l=(List.range m).map (o+·)->
  (l.mapM λi=>DataW.trod enc P w base spare held fuel e ((cs.drop (i*ks.length)).take ks.length))=some xs->AllOK ((List.replicate m ks).flatten) ((cs.drop (o*ks.length)).take (m*ks.length))
 | 0,cs,xs,l,o,_,_=>by simp [AllOK]
 | m+1,cs,xs,l,o,hl,h=>by
  rw [List.range_succ_eq_map,List.map_cons,List.map_map] at hl;subst hl;rw [List.mapM_cons] at h;cases hy:DataW.trod enc P w base spare held fuel e ((cs.drop ((o+0)*ks.length)).take ks.length) with
  | none=>rw [hy] at h;cases h
  | some y=>
   rw [hy] at h;cases hr:((List.range m).map ((o+·) ∘ Nat.succ)).mapM (λi=>DataW.trod enc P w base spare held fuel e ((cs.drop (i*ks.length)).take ks.length)) with
   | none=>rw [hr] at h;cases h
   | some ys=>
    have a1:=hF _ _ hy;have a2:=y9 hF m cs ys _ (o+1) (by apply List.map_congr_left;intro i _;simp [Function.comp];omega) hr;have:=a1.app a2;rw [List.replicate_succ,List.flatten_cons]
    have e:(cs.drop (o*ks.length)).take ((m+1)*ks.length)=(cs.drop ((o+0)*ks.length)).take ks.length++(cs.drop ((o+1)*ks.length)).take (m*ks.length):=by
     rw [Nat.succ_mul,Nat.add_comm,List.take_add,List.drop_drop,Nat.add_zero,Nat.succ_mul]
    rw [e];exact this
theorem tW:∀ (n:Nat) (t:TypeId) (ks:List FK) (fuel:Nat) (cs:List Value) (y:DataW H × List MemPlace),flatK P n t=some ks->DataW.trod enc P w base spare held fuel t cs=some y->AllOK ks cs
 | 0,_,_,_,_,_,h,_=>by simp [flatK] at h
 | n+1,t,ks,0,cs,y,h,ht=>by simp [DataW.trod] at ht
 | n+1,t,ks,fuel+1,cs,y,h,ht=>by
  rw [flatK] at h;rw [DataW.trod.eq_def] at ht;simp only at ht;split at h
  ·rename_i hu;rw [hu] at ht;cases h;split at ht<;>first | (rename_i q;cases q) | skip
   all_goals first | (cases ht;done) | skip
   all_goals first | exact ⟨⟨_,rfl⟩,True.intro⟩ | skip
   all_goals (simp_all)
  ·rename_i k hu;rw [hu] at ht;cases h;split at ht<;>first | (rename_i q;cases q) | skip
   all_goals first | (cases ht;done) | skip
   all_goals first
    | (split at ht
       ·rename_i q;exact ⟨⟨_,by rw [q.1],q.2⟩,True.intro⟩
       ·cases ht)
    | skip
   all_goals (simp_all)
  ·rename_i fs hu;rw [hu] at ht;split at h
   ·rename_i k0 hk;split at h
    ·rename_i hc;cases h;simp only at ht;split at ht
     ·rename_i hl;obtain ⟨xs,hm,_⟩:=Option.map_eq_some_iff.1 ht
      have:=sW (F:=λt=>match flatK P n t with | some ks=>if P.cellsOf t=ks.length then some ks else none | none=>none) (fuel:=fuel) (λt ks cs y h1 h2=>by
       split at h1
       ·rename_i q;split at h1
        ·cases h1;exact tW n _ _ _ _ _ q h2
        ·cases h1
       ·cases h1) (λt ks h1=>by
       split at h1
       ·rename_i q;split at h1
        ·rename_i q2;cases h1;exact q2
        ·cases h1
       ·cases h1) _ _ _ _ _ hk hm
      rw [List.drop_zero,<- hc,<- hl,List.take_length] at this;exact this
     ·cases ht
    ·cases h
   ·cases h
  ·rename_i m e hu;rw [hu] at ht;split at h
   ·rename_i k0 hk;split at h
    ·rename_i hc;cases h;simp only at ht;split at ht
     ·rename_i hl;obtain ⟨xs,hm,_⟩:=Option.map_eq_some_iff.1 ht;rw [hc.1] at hm;have:=y9 (ks:=k0) (λcs y h2=>tW n _ _ _ _ _ hk h2) m cs xs _ 0 (by simp) hm;rw [Nat.zero_mul,List.drop_zero,<- hc.2,<- hl,List.take_length] at this;exact this
     ·cases ht
    ·cases h
   ·cases h
  ·cases h
end
theorem aBS {H:Type} {enc:TypeId × Value->H} {P:Program} (hl:laidOutB P=true) {W W':World} (hb:Below W.heap.size W W'):∀ {ts:List TypeId} {vs:List Value} {ds:List (DataW H)} {ps:List MemPlace},(ts.all λt=>P.readableRec t&&decide (t<P.types.size))=true->
  DataW.TrodAll enc P W 0 (λ_=>true) true ts vs ds ps->(∀ x ∈ ps,x.block<W.heap.size)->DataW.TrodAll enc P W' 0 (λb=>decide (b<W.heap.size)) true ts vs ds ps
 | [],[],[],_,_,h,_=>h
 | t::ts,v::vs,d::ds,ps,hr,⟨p,q,h1,h2,e⟩,hlt=>by
  simp only [List.all_cons,Bool.and_eq_true,decide_eq_true_eq] at hr;subst e;exact ⟨p,q,Below.trod hl hr.1.1 hr.1.2 h1 hb (λx hx=>hlt x (by simp [hx])),aBS hl hb (by simpa using hr.2) h2 (λx hx=>hlt x (by simp [hx])),rfl⟩
end Go.Dn
