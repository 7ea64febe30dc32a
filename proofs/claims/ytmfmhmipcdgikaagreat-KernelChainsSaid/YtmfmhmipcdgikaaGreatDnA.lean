/- The heap's part of a run: a reading of the model's small programs as predicates over the heap alone. -/
import Derived.Recover
import Derived.Laws.Sem
import Derived.StillTail
import Derived.Laws.Tables
import Derived.Great.BuildSlice
import Derived.Laws.StructEq
namespace Go.Dn
abbrev Hp:=Array Obj
abbrev HP:=Hp->Prop
def dS (h:Hp) (a:Addr):Option Value:=
 match h[a.block]? with
 | some (.cells c _ _)=>if a.spot.isSome then none else c[a.off]?
 | _=>none
def sM (h:Hp) (a:Addr):Bool:=
 match h[a.block]? with
 | some (.cells _ _ (lo,hi))=>lo<=a.off&&a.off<hi
 | _=>false
def aEt (h:Hp) (a:Addr) (v:Value):Hp:=
 h.modify a.block fun
  | .cells c elem frozen=>.cells (if a.spot.isSome then c else c.setIfInBounds a.off v) elem frozen
  | o=>o
theorem lX (w:World) (a:Addr):w.cell? a=dS w.heap a:=rfl
theorem aGK (w:World) (a:Addr):w.frozen? a=sM w.heap a:=rfl
structure Kin (dr:Bool) (w w':World):Prop where
 tape:w'.tape=w.tape
 os:w'.os=w.os
 out:w'.output=w.output
 drawn:dr=true->w'.drawn=w.drawn
theorem Kin.refl (dr:Bool) (w:World):Kin dr w w:=⟨rfl,rfl,rfl,λ_=>rfl⟩
theorem Kin.trans {dr:Bool} {a b c:World} (h:Kin dr a b) (k:Kin dr b c):Kin dr a c:=
 ⟨k.tape.trans h.tape,k.os.trans h.os,k.out.trans h.out,λe=>(k.drawn e).trans (h.drawn e)⟩
theorem Kin.same {a b:World} (h:Kin true a b) (hh:b.heap=a.heap):b=a:=by
 have h4:=h.drawn rfl;obtain ⟨h1,h2,h3,_⟩:=h;cases a;cases b;simp_all
def bZ (P:Program) (dr:Bool) {α:Type} (s:Sem α) (K:α->HP) (h:Hp):Prop:=
 ∀ w:World,w.heap=h->∃ v w',s.run P w = .ok v w'/\K v w'.heap/\Kin dr w w'
section
variable {P:Program} {dr:Bool} {α β:Type}
theorem aK {s:Sem α} {f:α->Sem β} {K:β->HP} {h:Hp} (hs:bZ P dr s (λa h'=>bZ P dr (f a) K h') h):bZ P dr (s >>= f) K h:=by
 intro w hw;obtain ⟨a,w1,hr,hk,hn⟩:=hs w hw;obtain ⟨b,w2,hr2,hk2,hn2⟩:=hk w1 rfl;exact ⟨b,w2,by rw [Sem.run_bind,hr];exact hr2,hk2,hn.trans hn2⟩
theorem hP {s:Sem α} {f:α->β} {K:β->HP} {h:Hp} (hs:bZ P dr s (λa h'=>K (f a) h') h):bZ P dr (f <$> s) K h:=by
 intro w hw;obtain ⟨a,w1,hr,hk,hn⟩:=hs w hw;exact ⟨f a,w1,by rw [Sem.run_map,hr];rfl,hk,hn⟩
theorem aR {a:α} {K:α->HP} {h:Hp} (hk:K a h):bZ P dr (pure a:Sem α) K h:=by
 intro w hw;exact ⟨a,w,rfl,hw ▸ hk,Kin.refl dr w⟩
theorem aL {s:Sem α} {v:α} {K:α->HP} {h:Hp} (hr:∀ w,s.run P w = .ok v w) (hk:K v h):bZ P dr s K h:=by
 intro w hw;exact ⟨v,w,hr w,hw ▸ hk,Kin.refl dr w⟩
theorem yX {a:Addr} {v:Value} {K:Value->HP} {h:Hp} (hc:dS h a=some v) (hk:K v h):bZ P dr (load a) K h:=by
 intro w hw;subst hw;exact ⟨v,w,by rw [run_load,lX,hc],hk,Kin.refl dr w⟩
theorem aB8 {a:Addr} {v:Value} {K:Unit->HP} {h:Hp} (hv:v.oneCell'=true) (hc:(dS h a).isSome=true) (hf:sM h a=false) (hk:K () (aEt h a v)) :
  bZ P dr (store a v) K h:=by
 intro w hw;subst hw;obtain ⟨c,hc⟩:=Option.isSome_iff_exists.1 hc;exact ⟨(),w.setCell a v,by rw [run_store _ _ _ _ _ hv,lX,hc];simp [aGK,hf],hk,⟨rfl,rfl,rfl,λ_=>rfl⟩⟩
theorem qJ {o:Obj} {K:Nat->HP} {h:Hp} (hk:K h.size (h.push o)):bZ P dr (newObj o) K h:=by
 intro w hw;subst hw;exact ⟨w.heap.size,{ w with heap:=w.heap.push o },rfl,hk,⟨rfl,rfl,rfl,λ_=>rfl⟩⟩
theorem lB {q:Question} {K:Nat->HP} {h:Hp} (h0:q.forced=true->K 0 h) (h1:q.forced=false->∀ t,K (q.cut t) h):bZ P false (choose q) K h:=by
 intro w hw;subst hw;cases hf:q.forced with
 | true=>exact ⟨0,w,by rw [run_choose,hf];rfl,h0 hf,Kin.refl _ w⟩
 | false=>exact ⟨_,{ w with drawn:=w.drawn+1 },by rw [run_choose,hf];rfl,h1 hf _,⟨rfl,rfl,rfl,λe=>by cases e⟩⟩
theorem sX {r:Nat} {o:Obj} {K:Obj->HP} {h:Hp} (ho:h[r]? = some o) (hc:∀ c e f,o≠.cells c e f) (hk:K o h):bZ P dr (getObj r) K h:=by
 intro w hw;subst hw;refine ⟨o,w,?_,hk,Kin.refl dr w⟩;simp only [getObj,Sem.run,ho]
theorem aAZ {r:Nat} {o x:Obj} {K:Unit->HP} {h:Hp} (ho:h[r]? = some x) (hc:∀ c e f,x≠.cells c e f) (hk:K () (h.setIfInBounds r o)) :
  bZ P dr (setObj r o) K h:=by
 intro w hw;subst hw;refine ⟨(),{ w with heap:=w.heap.setIfInBounds r o },?_,hk,⟨rfl,rfl,rfl,λ_=>rfl⟩⟩;simp only [setObj,Sem.run,ho]
end
end Go.Dn
