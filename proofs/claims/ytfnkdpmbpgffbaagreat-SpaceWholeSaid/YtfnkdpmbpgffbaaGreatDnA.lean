/- The heap's part of a run: a reading of the model's small programs as predicates over the heap alone. -/
import Derived.Recover
import Derived.Laws.Sem
import Derived.StillTail
import Derived.Laws.Tables
import Derived.Great.BuildSlice
import Derived.Laws.StructEq
namespace Go.Dn
abbrev Hp:=Array Obj
abbrev HP:=Hp->Prop
def dI (h:Hp) (a:Addr):Option Value:=
 match h[a.block]? with
 | some (.cells c _ _)=>if a.spot.isSome then none else c[a.off]?
 | _=>none
def uN (h:Hp) (a:Addr):Bool:=
 match h[a.block]? with
 | some (.cells _ _ (lo,hi))=>lo<=a.off&&a.off<hi
 | _=>false
def aFI (h:Hp) (a:Addr) (v:Value):Hp:=
 h.modify a.block fun
  | .cells c elem frozen=>.cells (if a.spot.isSome then c else c.setIfInBounds a.off v) elem frozen
  | o=>o
theorem nK (w:World) (a:Addr):w.cell? a=dI w.heap a:=rfl
theorem aHH (w:World) (a:Addr):w.frozen? a=uN w.heap a:=rfl
structure Kin (dr:Bool) (w w':World):Prop where
 tape:w'.tape=w.tape
 os:w'.os=w.os
 out:w'.output=w.output
 drawn:dr=true->w'.drawn=w.drawn
theorem Kin.refl (dr:Bool) (w:World):Kin dr w w:=⟨rfl,rfl,rfl,λ_=>rfl⟩
theorem Kin.trans {dr:Bool} {a b c:World} (h:Kin dr a b) (k:Kin dr b c):Kin dr a c:=
 ⟨k.tape.trans h.tape,k.os.trans h.os,k.out.trans h.out,λe=>(k.drawn e).trans (h.drawn e)⟩
theorem Kin.same {a b:World} (h:Kin true a b) (c:b.heap=a.heap):b=a:=by
 have d:=h.drawn rfl;obtain ⟨e,f,g,_⟩:=h;cases a;cases b;simp_all
def cF (P:Program) (dr:Bool) {α:Type} (s:Sem α) (K:α->HP) (h:Hp):Prop:=
 ∀ w:World,w.heap=h->∃ v w',s.run P w = .ok v w'/\K v w'.heap/\Kin dr w w'
section
variable {P:Program} {dr:Bool} {α β:Type}
theorem aH {s:Sem α} {f:α->Sem β} {K:β->HP} {h:Hp} (hs:cF P dr s (λa h'=>cF P dr (f a) K h') h):cF P dr (s >>= f) K h:=by
 intro w g;obtain ⟨a,i,j,k,l⟩:=hs w g;obtain ⟨b,m,c,d,e⟩:=k i rfl;exact ⟨b,m,by rw [Sem.run_bind,j];exact c,d,l.trans e⟩
theorem iL {s:Sem α} {f:α->β} {K:β->HP} {h:Hp} (hs:cF P dr s (λa h'=>K (f a) h') h):cF P dr (f <$> s) K h:=by
 intro w b;obtain ⟨a,c,d,e,g⟩:=hs w b;exact ⟨f a,c,by rw [Sem.run_map,d];rfl,e,g⟩
theorem aQ {a:α} {K:α->HP} {h:Hp} (b:K a h):cF P dr (pure a:Sem α) K h:=by
 intro w c;exact ⟨a,w,rfl,c ▸ b,Kin.refl dr w⟩
theorem aK {s:Sem α} {v:α} {K:α->HP} {h:Hp} (a:∀ w,s.run P w = .ok v w) (b:K v h):cF P dr s K h:=by
 intro w c;exact ⟨v,w,a w,c ▸ b,Kin.refl dr w⟩
theorem aAK {a:Addr} {v:Value} {K:Value->HP} {h:Hp} (b:dI h a=some v) (c:K v h):cF P dr (load a) K h:=by
 intro w d;subst d;exact ⟨v,w,by rw [run_load,nK,b],c,Kin.refl dr w⟩
theorem aEf {a:Addr} {v:Value} {K:Unit->HP} {h:Hp} (d:v.oneCell'=true) (b:(dI h a).isSome=true) (e:uN h a=false) (f:K () (aFI h a v)) :
  cF P dr (store a v) K h:=by
 intro w g;subst g;obtain ⟨c,b⟩:=Option.isSome_iff_exists.1 b;exact ⟨(),w.setCell a v,by rw [run_store _ _ _ _ _ d,nK,b];simp [aHH,e],f,⟨rfl,rfl,rfl,λ_=>rfl⟩⟩
theorem sF {o:Obj} {K:Nat->HP} {h:Hp} (a:K h.size (h.push o)):cF P dr (newObj o) K h:=by
 intro w b;subst b;exact ⟨w.heap.size,{ w with heap:=w.heap.push o },rfl,a,⟨rfl,rfl,rfl,λ_=>rfl⟩⟩
theorem mU {q:Question} {K:Nat->HP} {h:Hp} (b:q.forced=true->K 0 h) (c:q.forced=false->∀ t,K (q.cut t) h):cF P false (choose q) K h:=by
 intro w d;subst d;cases a:q.forced with
 | true=>exact ⟨0,w,by rw [run_choose,a];rfl,b a,Kin.refl _ w⟩
 | false=>exact ⟨_,{ w with drawn:=w.drawn+1 },by rw [run_choose,a];rfl,c a _,⟨rfl,rfl,rfl,λe=>by cases e⟩⟩
theorem u6 {r:Nat} {o:Obj} {K:Obj->HP} {h:Hp} (a:h[r]? = some o) (g:∀ c e f,o≠.cells c e f) (b:K o h):cF P dr (getObj r) K h:=by
 intro w d;subst d;refine ⟨o,w,?_,b,Kin.refl dr w⟩;simp only [getObj,Sem.run,a]
theorem aB3 {r:Nat} {o x:Obj} {K:Unit->HP} {h:Hp} (a:h[r]? = some x) (g:∀ c e f,x≠.cells c e f) (b:K () (h.setIfInBounds r o)) :
  cF P dr (setObj r o) K h:=by
 intro w d;subst d;refine ⟨(),{ w with heap:=w.heap.setIfInBounds r o },?_,b,⟨rfl,rfl,rfl,λ_=>rfl⟩⟩;simp only [setObj,Sem.run,a]
end
end Go.Dn
