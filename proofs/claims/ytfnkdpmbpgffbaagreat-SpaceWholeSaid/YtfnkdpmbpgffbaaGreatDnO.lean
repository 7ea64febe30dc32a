/- Do two slices overlap? What the model answers at once. -/
import Derived.Test.YtfnkdpmbpgffbaaGreatDnX
import Derived.Lib.Overlaps
namespace Go.Dn
def ovA (s x:Sl) (K:Bool->AP):AP:=λA=>match s.a,x.a with
 | some a,some b=>a.block≠b.block/\(∃ cs t,A a.block=some (.cells cs t))/\(∃ cs t,A b.block=some (.cells cs t)/\cs.size≠0)/\K false A
 | _,_=>K false A
theorem overlaps_ok {P : Program} {f : FuncId} {fn : Func} {tS tR e : TypeId} (hf : P.funcs[f]? = some fn) (hname : (fn.name == "runtime.NumGoroutine") = false)
  (hb:fn.body.isNone=true) (hn:Extern.findNext fn=none) (he:Extern.find fn=some (Extern.SlicesOverlaps.overlaps #[tS,tS] #[tR])) (ht:P.underlying tS=some (.slice e)) (hs:(szOf P e).isSome=true) :
  aDR P f (y5 (bC [.c .s,.c .s] λp0 p1 K _Kp=>ovA p0 p1 λb=>K (.bool b))):=by
 intro args K Kp w ⟨A,L,KA,KpA,s,hh,hk,_⟩;have hh1:kA [.c .s,.c .s] EnR (λp0 p1 K _Kp=>ovA p0 p1 λb=>K (.bool b)) args λg=>g KA KpA A:=hh;obtain ⟨n,hsz⟩:∃ n,szOf P e=some n:=Option.isSome_iff_exists.1 hs;obtain ⟨it,hi,hin⟩:=dY hsz;have hz:∀ w,(Go.sizeOf e).run P w = .ok n w:=λw=>by simp [Go.sizeOf,Go.typeInfo,hi,hin]
 rw [run_callFunc_extern hf hname hb hn he]
 match args,hh1 with
 | [.slice a1 l1 c1,.slice a2 l2 c2],hh1=>
  have hh2:ovA ⟨a1,l1,c1⟩ ⟨a2,l2,c2⟩ (λb=>KA (.bool b)) A:=hh1;unfold ovA at hh2;cases a1 with
  | none=>
   refine ⟨.bool false,?_,hk _ _ _ s hh2⟩
   have:(Extern.SlicesOverlaps.overlaps #[tS,tS] #[tR] #[.slice none l1 c1,.slice a2 l2 c2]).run P w = .ok (.bool false) w:=by
    change Sem.run P (α:=Value) (do
     let some t := (#[tS, tS] : Array TypeId)[0]? | stuck "slices.overlaps: no parameter types"
     let .slice elem ← underlying t | stuck "slices.overlaps: slice type expected"
     let size <- Go.sizeOf elem
     pure (Value.bool false)) w=_
    simp [run_underlying ht,hz]
   rw [this];rfl
  | some a=>
   cases a2 with
   | none=>
    refine ⟨.bool false,?_,hk _ _ _ s hh2⟩
    have:(Extern.SlicesOverlaps.overlaps #[tS,tS] #[tR] #[.slice (some a) l1 c1,.slice none l2 c2]).run P w = .ok (.bool false) w:=by
     change Sem.run P (α:=Value) (do
      let some t := (#[tS, tS] : Array TypeId)[0]? | stuck "slices.overlaps: no parameter types"
      let .slice elem ← underlying t | stuck "slices.overlaps: slice type expected"
      let size <- Go.sizeOf elem
      pure (Value.bool false)) w=_
     simp [run_underlying ht,hz]
    rw [this];rfl
   | some b=>
    obtain ⟨h1,⟨ca,ta,h2⟩,⟨cb,tb,h3,h4⟩,h5⟩:=hh2;have ha:=s.sub _ _ h2;have hb:=s.sub _ _ h3;refine ⟨.bool false,?_,hk _ _ _ s h5⟩;have:=Lib.run_overlaps_apart w tS tR e ht n hz a b l1 c1 l2 c2 h1 ta tb ca.size cb.size (by simp [World.shape?,ha]) (by simp [World.shape?,hb]) h4 (by simp [World.frozen?,ha]) (by simp [World.frozen?,ha]);rw [this];rfl
end Go.Dn
