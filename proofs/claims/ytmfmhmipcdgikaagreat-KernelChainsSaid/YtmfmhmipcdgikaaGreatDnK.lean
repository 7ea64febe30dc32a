/- Deferred calls that may recover. -/
import Derived.Test.YtmfmhmipcdgikaaGreatDnJ
namespace Go.Dn
def uQ (P:Program) (C:CT) (fn:Func) (ann:Ann) (args:List Value) (rv:Value) (K:HP) (h:Hp):Prop:=
 match eW fn with
 | .seq (.region _ ops false) y=>match ops.toList with
  | o::r=>match o.guard,o.op,fn.results.toList with
   | none,.call { callee:=.builtin .recover,args:=_,argTypes:=_ },[]=>
    gJ fn.ntmps ⟨w8 0 args,[]⟩ o.dst rv λs=>kT P C fn.ntmps (o::r) r s (λs h=>tI P C fn.ntmps ann y (λe s h=>match e,s.ds with
     | .normal,[]=>K h
     | .ret,[]=>K h
     | _,_=>False) s h) (λ_ _ _=>False) h
   | _,_,_=>False
  | []=>False
 | _=>False
structure uT (P:Program) (g:FuncId) (Dn:List Value->HP->HP) (Dp:List Value->Value->HP->HP):Prop where
 enter:∀ (as:Array Value) (w:World),(callFunc g as).run P w = .ok (.enter g as) w
 ret:∀ args K w,Dn args K w.heap->CallsD P g args.toArray .returning w λe u' w'=>(∃ v,e = .returned v)/\u' = .returning/\K w'.heap/\Kin false w w'
 pan:∀ args v K w,Dp args v K w.heap->CallsD P g args.toArray (.panicking [{ v,recovered:=false }]) w λe u' w'=>
  (∃ x,e = .returned x)/\u' = .panicking [{ v,recovered:=true }]/\K w'.heap/\Kin false w w'
section
variable {P:Program} {C:CT}
theorem oD (hC:cG P C) {n:Nat} {ops:Array Oper} {K:St->HP} {Q:Exit->Act->List Frame->World->Prop} {cs:List Frame} {w0:World}
  (hQ:∀ s' a' w',iV n s' a'->K s' w'.heap->Kin false w0 w'->Q .normal a' cs w'):∀ (l:List Oper) (k:Nat) (s:St) (a:Act) (w:World),(∀ j,l[j]? = ops[k+j]?)->iV n s a->
  kT P C n ops.toList l s K (λ_ _ _=>False) w.heap->Kin false w0 w->wpOpsS P ops Q (List.range' k l.length) a cs w
 | [],k,s,a,w,hl,hr,h,hk=>hQ s a w hr h hk
 | o::r,k,s,a,w,hl,hr,h,hk=>by
  have ho:ops[k]? = some o:=by simpa using (hl 0).symm
  have hl':∀ j,r[j]? = ops[k+1+j]?:=λj=>by have:=hl (j+1);simpa [Nat.add_assoc,Nat.add_comm 1 j] using this
  obtain ⟨s1,hr1,h1⟩:=qQ h hr;simp only [List.length_cons,List.range'_succ,wpOpsS,ho];rcases h1 with ⟨hw,h1⟩ | ⟨hw,h1⟩
  ·rw [if_pos hw]
   have h2:=tL hC hr1 h1 (next:=λa' w'=>wpOpsS P ops Q (List.range' (k+1) r.length) a' cs w') (Q:=λ_ _ _=>False)
    (λs' a' w' hr' hk' hkin _ _=>oD hC hQ r (k+1) s' a' w' hl' hr' hk' (hk.trans hkin)) (λ_ _ hv _=>hv)
   unfold Oper.wp at h2;generalize (execOp a.eval o).run P w=res at h2
   have hmono:∀ x,o.upon P a (λa' w'=>wpOpsS P ops Q (List.range' (k+1) r.length) a' cs w') (λ_ _ _=>False) x->
     o.upon P a (λa' w'=>wpOpsS P ops Q (List.range' (k+1) r.length) a' cs w') (λe a' w'=>Q e a' cs w') x:=by
    intro x hx;cases x with
    | ok nx w'=>
     cases nx<;>simp only [Oper.upon] at hx ⊢<;>first | exact hx | skip
     refine Calls.mono hx λe w'' he=>?_;cases e with
     | returned v=>exact he
     | panicked c=>exact he.elim
     | outgrown=>obtain ⟨_,_,hf⟩:=he;exact hf.elim
    | halt y w'=>cases y<;>simp only [Oper.upon] at hx ⊢<;>exact hx.elim
   cases res with
   | ok nx w'=>
    cases nx<;>first | exact hmono _ h2 | exact h2.elim
   | halt y w'=>exact hmono _ h2
  ·rw [if_neg (by simp [hw])];obtain ⟨s',hk',hr'⟩:=dI h1 hr1;exact oD hC hQ r (k+1) s' _ w hl' hr' hk' hk
theorem xD {c:Frame} {cs:List Frame} (h:c.mode = .returning):recoverD (c::cs)=none:=by simp [recoverD,h]
theorem xE {c:Frame} {cs:List Frame} {v:Value} (h:c.mode = .panicking [{ v,recovered:=false }]) :
  recoverD (c::cs)=some (v,{ c with mode:=.panicking [{ v,recovered:=true }] }::cs):=by simp [recoverD,h]
theorem nO (hm:P.follows .mixedOrders=true) (hC:cG P C) {g:FuncId} {fn:Func} {ann:Ann} {args:List Value} {rv:Value} {K:HP} {w:World} {u u':FrameMode}
  (hf:P.funcs[g]? = some fn) (hb:fn.body.isSome=true) (hn:Nat.ble args.length fn.ntmps=true)
  (hu:∀ (c:Frame) (cs:List Frame),c.mode=u->(recoverD (c::cs)=none/\rv = .nilIface/\u'=u)\/recoverD (c::cs)=some (rv,{ c with mode:=u' }::cs))
  (h:uQ P C fn ann args rv K w.heap):CallsD P g args.toArray u w λe u2 w'=>(∃ v,e = .returned v)/\u2=u'/\K w'.heap/\Kin false w w':=by
 obtain ⟨c,hc⟩:=Option.isSome_iff_exists.1 hb;have hbody:eW fn=c:=by simp [eW,hc]
 unfold uQ at h;rw [hbody] at h;split at h
 ·rename_i id ops y;split at h
  ·rename_i o r hops;split at h
   ·rename_i hg ho hres;have hr:=iV.start (Nat.le_of_ble_eq_true hn);have hfr:fn.results = #[]:=by rw [<-Array.toArray_toList (xs:=fn.results),hres]
    refine callsD_of_wpS hf hc λc₀ cs hc0=>wpS_seq (wpS_region ?_);have hsz:ops.size=(o::r).length:=by rw [<-hops,Array.length_toList]
    have h0:ops[0]? = some o:=by
     have:ops.toList[0]? = some o:=by rw [hops];rfl
     simpa using this
    rw [List.range_eq_range',hsz];simp only [List.length_cons,List.range'_succ,wpOpsS,h0];rw [if_pos (by simp [Region.wanted,hg])];obtain ⟨s',hk',hr'⟩:=dI h hr
    have hrun:∀ f,(execOp f o).run P w = .ok .recover w:=by
     intro f;unfold execOp;rw [ho];simp only [resolve,Sem.run_bind,Sem.run_pure,Result.andThen_ok,invoke,builtin]
    rw [hrun]
    have fin:∀ c1,c1=({ c₀ with mode:=u' }:Frame)->wpOpsS P ops (Exit.thenS (y.wpS P (bodyPostS P fn c₀ cs λe u2 w'=>(∃ v,e = .returned v)/\u2=u'/\K w'.heap/\Kin false w w'))
      (bodyPostS P fn c₀ cs λe u2 w'=>(∃ v,e = .returned v)/\u2=u'/\K w'.heap/\Kin false w w')) (List.range' (0+1) r.length)
      (({ tmps:=args.toArray++Array.replicate (fn.ntmps-args.toArray.size) undef,defers:=[] }:Act).put o.dst rv) (c1::cs) w:=by
     intro c1 hc1;subst hc1;rw [<-hops] at hk';refine oD (n:=fn.ntmps) (w0:=w) hC (λs2 a2 w2 hr2 hk2 hn2=>?_) r 1 s' _ w (λj=>?_) hr' hk' (Kin.refl _ w)
     ·refine wpS_of_wp (wp_mono (cU hm hC y ann _ s2 a2 w2 hr2 hk2) λe a3 w3 hp=>?_);have hresults:∀ t,(results fn t).run P w3 = .ok (.tuple #[]) w3:=λt=>by simp [results,hfr]
      cases e with
      | normal=>
       obtain ⟨s3,g1,g2,g3,_⟩:=hp;obtain ⟨e3,ds⟩:=s3;cases ds with
       | nil=>exact ⟨g1.ds,u',rfl,_,hresults _,⟨_,rfl⟩,rfl,g2,hn2.trans g3⟩
       | cons _ _=>exact g2.elim
      | ret=>
       obtain ⟨s3,g1,g2,g3,_⟩:=hp;obtain ⟨e3,ds⟩:=s3;cases ds with
       | nil=>exact ⟨g1.ds,u',rfl,_,hresults _,⟨_,rfl⟩,rfl,g2,hn2.trans g3⟩
       | cons _ _=>exact g2.elim
      | panic ch=>
       obtain ⟨v,s3,_,g1,g2,_⟩:=hp;exact g2.elim
      | exit id=>
       obtain ⟨s3,g1,g2,_⟩:=hp;exact g2.elim
      | goto l=>exact hp.elim
      | outgrown=>exact hp.elim
     ·have:ops.toList[1+j]? = r[j]?:=by rw [hops,Nat.add_comm];rfl
      rw [<-this];simp
    rcases hu c₀ cs hc0 with ⟨hrec,rfl,rfl⟩ | hrec
    ·simp only [hrec];exact fin c₀ (by rw [<-hc0])
    ·simp only [hrec];exact fin _ rfl
   ·exact h.elim
  ·exact h.elim
 ·exact h.elim
theorem aGf (hm:P.follows .mixedOrders=true) (hC:cG P C) {g:FuncId} {fn:Func} {an ap:Ann} {Dn:List Value->HP->HP} {Dp:List Value->Value->HP->HP}
  (he:∀ (as:Array Value) (w:World),(callFunc g as).run P w = .ok (.enter g as) w)
  (hf:P.funcs[g]? = some fn) (hb:fn.body.isSome=true)
  (hn:∀ args K h,Dn args K h->Nat.ble args.length fn.ntmps=true/\uQ P C fn an args .nilIface K h)
  (hp:∀ args v K h,Dp args v K h->Nat.ble args.length fn.ntmps=true/\uQ P C fn ap args v K h):uT P g Dn Dp:=by
 refine ⟨he,λargs K w h=>?_,λargs v K w h=>?_⟩
 ·exact nO hm hC hf hb (hn _ _ _ h).1 (λc cs hc=>.inl ⟨xD hc,rfl,rfl⟩) (hn _ _ _ h).2
 ·exact nO hm hC hf hb (hp _ _ _ _ h).1 (λc cs hc=>.inr (xE hc)) (hp _ _ _ _ h).2
def aB5 (P:Program) (fn:Func) (g:FuncId) (Dn:List Value->HP->HP) (Dp:List Value->Value->HP->HP) (K Kp:Value->HP):Ex->St->HP
 | .normal,⟨e,[d]⟩,h=>match d.target with
  | .fn (.func g') cap=>match Nat.beq g' g with
   | true=>Dn (d.args.toList++cap.toList) (λh'=>eR P fn.results.toList e h' λvs=>K (dW vs) h') h
   | false=>False
  | _=>False
 | .ret,⟨e,[d]⟩,h=>match d.target with
  | .fn (.func g') cap=>match Nat.beq g' g with
   | true=>Dn (d.args.toList++cap.toList) (λh'=>eR P fn.results.toList e h' λvs=>K (dW vs) h') h
   | false=>False
  | _=>False
 | .panic v,⟨e,[d]⟩,h=>match d.target with
  | .fn (.func g') cap=>match Nat.beq g' g with
   | true=>Dp (d.args.toList++cap.toList) v (λh'=>eR P fn.results.toList e h' λvs=>K (dW vs) h') h
   | false=>False
  | _=>False
 | .normal,⟨e,[]⟩,h=>eR P fn.results.toList e h λvs=>K (dW vs) h
 | .ret,⟨e,[]⟩,h=>eR P fn.results.toList e h λvs=>K (dW vs) h
 | .panic v,⟨_,[]⟩,h=>Kp v h
 | _,_,_=>False
def aAt (P:Program) (C:CT) (fn:Func) (ann:Ann) (g:FuncId) (Dn:List Value->HP->HP) (Dp:List Value->Value->HP->HP) (args:List Value) (K Kp:Value->HP) (h:Hp):Prop:=
 tI P C fn.ntmps ann (eW fn) (aB5 P fn g Dn Dp K Kp) ⟨w8 0 args,[]⟩ h
theorem w7 (hm:P.follows .mixedOrders=true) (hC:cG P C) {f g:FuncId} {fn:Func} {ann:Ann} {args:List Value} {K Kp:Value->HP} {w:World} {Dn:List Value->HP->HP} {Dp:List Value->Value->HP->HP}
  (hD:uT P g Dn Dp) (hf:P.funcs[f]? = some fn) (hb:fn.body.isSome=true) (hn:Nat.ble args.length fn.ntmps=true) (h:aAt P C fn ann g Dn Dp args K Kp w.heap) :
  Calls P f args.toArray w (callQ K Kp w):=by
 obtain ⟨c,hc⟩:=Option.isSome_iff_exists.1 hb;have hbody:eW fn=c:=by simp [eW,hc]
 unfold aAt at h;rw [hbody] at h;have hr:=iV.start (Nat.le_of_ble_eq_true hn)
 have inv:∀ (d:Deferred) (cap:Array Value) (w:World),d.target = .fn (.func g) cap->(invoke d.target d.args).run P w = .ok (.enter g (d.args++cap)) w:=by
  intro d cap w ht;rw [ht];simp only [invoke];exact hD.enter _ w
 have fin:∀ (s:St) (a:Act) (w':World),iV fn.ntmps s a->Kin false w w'->eR P fn.results.toList s.env w'.heap (λvs=>K (dW vs) w'.heap)->Leaves P fn a.tmps (callQ K Kp w) [] .returning w':=by
  intro s a w' h1 hk h2;obtain ⟨v,hv,hk'⟩:=nR h1 fn K h2;exact ⟨v,hv,hk,hk'⟩
 refine calls_of_wp_defers hf hc (wp_mono (cU hm hC c ann _ _ _ w hr h) λe a' w' hp=>?_)
 have body:∀ (s:St) (d:Deferred) (u:FrameMode),u≠.run->iV fn.ntmps s a'->Kin false w w'->s.ds=[d]->(∃ cap,d.target = .fn (.func g) cap/\∃ u2,settle u2 = .returning/\
   CallsD P g (d.args++cap) u w' λe u' w''=>(∃ v,e = .returned v)/\u'=u2/\(eR P fn.results.toList s.env w''.heap λvs=>K (dW vs) w''.heap)/\Kin false w' w'')->Leaves P fn a'.tmps (callQ K Kp w) [d] u w':=by
  rintro s d u hu h1 hk hds ⟨cap,ht,u2,hset,hcall⟩;refine ⟨hu,.func g,cap,g,d.args++cap,ht,inv d cap w' ht,hcall.mono ?_⟩;rintro e u' w'' ⟨⟨v,rfl⟩,rfl,hk2,hkin⟩;show Leaves P fn a'.tmps (callQ K Kp w) [] (settle u') w'';rw [hset];exact fin s a' w'' h1 (hk.trans hkin) hk2
 cases e with
 | normal=>
  obtain ⟨s',h1,h2,h3,h4⟩:=hp;obtain ⟨e',ds⟩:=s'
  match ds,h1,h2 with
  | [],g1,g2=>
   show Leaves P fn a'.tmps _ a'.defers .returning w';rw [g1.ds];exact fin ⟨e',[]⟩ a' w' g1 h3 g2
  | [d],g1,g2=>
   show Leaves P fn a'.tmps _ a'.defers .returning w';rw [g1.ds]
   dsimp only [aB5] at g2
   split at g2
   ·rename_i g' cap ht;split at g2
    ·rename_i hg;have hg:=Nat.eq_of_beq_eq_true hg;subst hg;refine body ⟨e',[d]⟩ d .returning (by simp) g1 h3 rfl ⟨cap,ht,.returning,rfl,?_⟩;have:=hD.ret _ _ w' g2;rwa [<-Array.toList_append,Array.toArray_toList] at this
    ·exact g2.elim
   ·exact g2.elim
  | d::d2::ds,g1,g2=>exact g2.elim
 | ret=>
  obtain ⟨s',h1,h2,h3,h4⟩:=hp;obtain ⟨e',ds⟩:=s'
  match ds,h1,h2 with
  | [],g1,g2=>
   show Leaves P fn a'.tmps _ a'.defers .returning w';rw [g1.ds];exact fin ⟨e',[]⟩ a' w' g1 h3 g2
  | [d],g1,g2=>
   show Leaves P fn a'.tmps _ a'.defers .returning w';rw [g1.ds]
   dsimp only [aB5] at g2
   split at g2
   ·rename_i g' cap ht;split at g2
    ·rename_i hg;have hg:=Nat.eq_of_beq_eq_true hg;subst hg;refine body ⟨e',[d]⟩ d .returning (by simp) g1 h3 rfl ⟨cap,ht,.returning,rfl,?_⟩;have:=hD.ret _ _ w' g2;rwa [<-Array.toList_append,Array.toArray_toList] at this
    ·exact g2.elim
   ·exact g2.elim
  | d::d2::ds,g1,g2=>exact g2.elim
 | panic ch=>
  obtain ⟨v,s',rfl,h1,h2,h3,h4⟩:=hp;obtain ⟨e',ds⟩:=s'
  match ds,h1,h2 with
  | [],g1,g2=>
   show Leaves P fn a'.tmps _ a'.defers (.panicking [{ v,recovered:=false }]) w';rw [g1.ds];exact ⟨h3,v,rfl,g2⟩
  | [d],g1,g2=>
   show Leaves P fn a'.tmps _ a'.defers (.panicking [{ v,recovered:=false }]) w';rw [g1.ds]
   dsimp only [aB5] at g2
   split at g2
   ·rename_i g' cap ht;split at g2
    ·rename_i hg;have hg:=Nat.eq_of_beq_eq_true hg;subst hg;refine body ⟨e',[d]⟩ d _ (by simp) g1 h3 rfl ⟨cap,ht,.panicking [{ v,recovered:=true }],rfl,?_⟩;have:=hD.pan _ _ _ w' g2;rwa [<-Array.toList_append,Array.toArray_toList] at this
    ·exact g2.elim
   ·exact g2.elim
  | d::d2::ds,g1,g2=>exact g2.elim
 | exit id=>
  obtain ⟨s',h1,h2,h3,h4⟩:=hp;obtain ⟨e',ds⟩:=s'
  match ds,h2 with
  | [],h2=>exact h2.elim
  | [d],h2=>exact h2.elim
  | d::d2::ds,h2=>exact h2.elim
 | goto l=>exact hp.elim
 | outgrown=>exact hp.elim
end
attribute [irreducible] uQ aAt
end Go.Dn
