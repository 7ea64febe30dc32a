/- What is asked over a part of the heap is enough for the whole: regions. -/
import Derived.Test.YtmfmhmipcdgikaaGreatDnS
namespace Go.Dn
section
variable {P:Program} {CA:CTA} {n:Nat} {pm:List Nat} {E:Bx} {A:AH} {h:Hp} {β:Nat→Nat} {s:SA} {t:St}
theorem envLe_cons {ρ ρ':Env} (h:EnvLe ρ ρ') (d:Nat) (v:Value):EnvLe ((d,v)::ρ) ((d,v)::ρ'):=by
 intro x u hu
 rw [look_cons] at hu ⊢
 split
 ·rename_i e;rw [if_pos e] at hu;exact hu
 ·rename_i e;rw [if_neg e] at hu;exact h _ _ hu
structure Put (s s':SA) (t t':St) (dst:Option Tmp):Prop where
 env:∀ x,dst≠some x→(look s.env x=none→look s'.env x=none)∧(lookB s.bv x=none→lookB s'.bv x=none)∧∀ v,look t.env x=some (.pointer v)→look t'.env x=some (.pointer v)
theorem Put.refl (s:SA) (t:St) (dst:Option Tmp):Put s s t t dst:=⟨fun _ _=>⟨id,id,fun _=>id⟩⟩
theorem lookB_drop_none {d:Nat}:∀ {l:Bvs} {x:Nat},lookB l x=none→lookB (dropB d l) x=none
 | [],_,_=>rfl
 | (y,q)::r,x,h=>by
  rw [lookB_cons] at h
  split at h
  ·cases h
  ·rename_i e
   unfold dropB
   split
   ·exact lookB_drop_none h
   ·rw [lookB_cons,if_neg e];exact lookB_drop_none h
theorem stripE_none {l:List Nat}:∀ {e:Env} {x:Nat},look e x=none→look (stripE l e) x=none
 | [],_,_=>rfl
 | (y,q)::r,x,h=>by
  rw [look_cons] at h
  split at h
  ·cases h
  ·rename_i e
   unfold stripE
   split
   ·exact stripE_none h
   ·rw [look_cons,if_neg e];exact stripE_none h
theorem putA_up {dst:Option Tmp} {x:Res} {y:Value} {K:SA→Prop} {K':St→Prop} (r:RB E β s t A h) (hx:ResR β x y) (hb:∀ i k,x = .b i k→∃ p,lookX s.bx i=some p) (hh:putA n s dst x K)
  (hk:∀ s' t',RB E β s' t' A h→SamB s β s' β→s'.bx=s.bx→Put s s' t t' dst→K s'→K' t'):putD n t dst y K':=by
 unfold putA at hh
 unfold putD
 cases dst with
 | none=>exact hk s t r (SamB.refl _ _) rfl (Put.refl _ _ _) hh
 | some d=>
  simp only at hh ⊢
  split at hh
  ·rename_i hd
   rw [hd]
   simp only
   cases x with
   | v x=>
    have hy:y=x:=hx
    subst hy
    refine hk { s with env:=(d,y)::s.env,bv:=dropB d s.bv } { t with env:=(d,y)::t.env } ⟨envLe_cons r.env d _,fun z i o hz=>?_,r.ds,r.sim,r.nd⟩ (SamB.of_bx rfl rfl rfl) rfl ⟨fun z hz=>⟨fun g=>?_,lookB_drop_none,fun u g=>?_⟩⟩ hh
    ·obtain ⟨g1,g2⟩:=lookB_drop hz
     obtain ⟨g3,g4⟩:=r.bv z i o g1
     refine ⟨?_,g4⟩
     show look ((d,_)::t.env) z=_
     rw [look_cons,if_neg (Ne.symm g2)];exact g3
    ·show look ((d,_)::s.env) z=_
     rw [look_cons,if_neg (fun e=>hz (by rw [e]))];exact g
    ·show look ((d,_)::t.env) z=_
     rw [look_cons,if_neg (fun e=>hz (by rw [e]))];exact g
   | b i o=>
    have hy:y = .pointer (some ⟨β i,o,none⟩):=hx
    subst hy
    refine hk { s with env:=stripE [d] s.env,bv:=(d,(i,o))::s.bv } { t with env:=(d,.pointer (some ⟨β i,o,none⟩))::t.env } ⟨fun z u hz=>?_,fun z j p hz=>?_,r.ds,r.sim,r.nd⟩ (SamB.of_bx rfl rfl rfl) rfl ⟨fun z hz=>⟨fun g=>stripE_none g,fun g=>?_,fun u g=>?_⟩⟩ hh
    ·obtain ⟨g1,g2⟩:=stripE_look _ hz
     show look ((d,_)::t.env) z=_
     have:d≠z:=fun e=>by rw [e] at g2;exact (memN_no.1 g2) (by simp)
     rw [look_cons,if_neg this];exact r.env _ _ g1
    ·rw [lookB_cons] at hz
     show look ((d,_)::t.env) z=_∧_
     rw [look_cons]
     split at hz
     ·rename_i e
      cases hz
      rw [if_pos e]
      exact ⟨rfl,hb _ _ rfl⟩
     ·rename_i e
      rw [if_neg e]
      exact r.bv z j p hz
    ·show lookB ((d,_)::s.bv) z=_
     rw [lookB_cons,if_neg (fun e=>hz (by rw [e]))];exact g
    ·show look ((d,_)::t.env) z=_
     rw [look_cons,if_neg (fun e=>hz (by rw [e]))];exact g
  ·exact hh.elim
theorem RB.ds_cons (r:RB E β s t A h) (d:Deferred):RB E β { s with ds:=d::s.ds } { t with ds:=d::t.ds } A h:=⟨r.env,r.bv,by show d::t.ds=d::s.ds;rw [r.ds],r.sim,r.nd⟩
theorem exA_up {o:Oper} {K:SA→AP} {Kp:Value→SA→AP} {K':St→HP} {Kp':Value→St→HP} (r:RB E β s t A h) (hh:exA P CA n pm o s K Kp A)
  (hk:∀ β' s' t' A' h',RB E β' s' t' A' h'→SamB s β s' β'→Put s s' t t' o.dst→(isSt s o=false→∃ l1,s'.bx=l1++s.bx∧(isAl o=false→l1=[])∧∀ i ∈ s.bx.map (·.1),β' i=β i)→K s' A'→K' t' h')
  (hp:∀ v A' h',RB E β s t A' h'→Kp v s A'→Kp' v t h'):exOp P (upC CA) n o t K' Kp' h:=by
 unfold exA at hh
 unfold exOp
 refine opA_up r hh (fun x y β' s' A' h' r' sb e hxy hb _ hB h1=>?_) hp fun d A' h' r' h1=>?_
 ·obtain ⟨_,e2,e3⟩:=e
  exact putA_up r' hxy hb h1 fun s2 t2 r2 sb2 eb pt hk2=>hk β' s2 t2 A' h' r2 (sb.trans sb2) ⟨fun z hz=>by
   obtain ⟨p1,p2,p3⟩:=pt.env z hz
   exact ⟨fun g=>p1 (by rw [e2];exact g),fun g=>p2 (by rw [e3];exact g),p3⟩⟩ (fun hst=>by rw [eb];exact hB hst) hk2
 ·exact putA_up (r'.ds_cons d) (x:=.v undef) (y:=undef) rfl (fun _ _ e=>by cases e) h1 fun s2 t2 r2 sb2 eb pt hk2=>hk β s2 t2 A' h' r2 ((SamB.of_bx rfl rfl rfl:SamB s β { s with ds:=d::s.ds } β).trans sb2)
   ⟨fun z hz=>pt.env z hz⟩ (fun _=>⟨[],by rw [eb];rfl,fun _=>rfl,fun _ _=>rfl⟩) hk2
theorem RB.guard (r:RB E β s t A h) {d:Nat} {b:Bool} (hd:look s.env d=some (.bool b)) (c:Bool):RB E β { s with env:=(d,.bool c)::s.env } { t with env:=(d,.bool c)::t.env } A h:=by
 refine ⟨envLe_cons r.env d _,fun z i o hz=>?_,r.ds,r.sim,r.nd⟩
 obtain ⟨g1,g2⟩:=r.bv z i o hz
 refine ⟨?_,g2⟩
 show look ((d,_)::t.env) z=_
 have:d≠z:=fun e=>by
  have h1:=r.env _ _ hd
  rw [e,g1] at h1;cases h1
 rw [look_cons,if_neg this];exact g1
theorem grdA_up {ops:List Oper} {o:Oper} {run skip:SA→Prop} {run' skip':St→Prop} (r:RB E β s t A h) (hh:grdA ops o s run skip)
  (hr:∀ s' t',RB E β s' t' A h→SamB s β s' β→s'.bx=s.bx→s'.bv=s.bv→Put s s' t t' none→run s'→run' t') (hs:∀ s' t',RB E β s' t' A h→SamB s β s' β→s'.bx=s.bx→s'.bv=s.bv→Put s s' t t' none→skip s'→skip' t'):grd ops o t run' skip':=by
 unfold grdA at hh
 unfold grd
 cases hg:o.guard with
 | none=>rw [hg] at hh;exact hr s t r (SamB.refl _ _) rfl rfl (Put.refl _ _ _) hh
 | some g=>
  obtain ⟨j,want⟩:=g
  rw [hg] at hh
  simp only at hh ⊢
  cases hj:ops[j]? with
  | none=>rw [hj] at hh;exact hh.elim
  | some oj=>
   rw [hj] at hh
   simp only at hh ⊢
   cases hd:oj.dst with
   | none=>rw [hd] at hh;exact hh.elim
   | some d=>
    rw [hd] at hh
    simp only at hh ⊢
    cases hl:look s.env d with
    | none=>rw [hl] at hh;exact hh.elim
    | some v=>
     rw [hl] at hh
     rw [r.env _ _ hl]
     have pt:∀ (b c:Bool),v = .bool b→Put s { s with env:=(d,.bool c)::s.env } t { t with env:=(d,.bool c)::t.env } none:=by
      intro b c hv
      refine ⟨fun z _=>⟨fun g=>?_,id,fun u g=>?_⟩⟩
      ·show look ((d,_)::s.env) z=_
       rw [look_cons,if_neg (fun e=>by rw [←e,hl] at g;cases g)];exact g
      ·show look ((d,_)::t.env) z=_
       rw [look_cons]
       split
       ·rename_i e
        subst e
        rw [r.env _ _ hl,hv] at g
        cases g
       ·exact g
     cases v<;>first | exact hh.elim | skip
     ·rename_i b
      cases want
      ·exact bsel_up (hs _ _ (r.guard hl true) (SamB.of_bx rfl rfl rfl) rfl rfl (pt b _ rfl)) (hr _ _ (r.guard hl false) (SamB.of_bx rfl rfl rfl) rfl rfl (pt b _ rfl)) hh
      ·exact bsel_up (hr _ _ (r.guard hl true) (SamB.of_bx rfl rfl rfl) rfl rfl (pt b _ rfl)) (hs _ _ (r.guard hl false) (SamB.of_bx rfl rfl rfl) rfl rfl (pt b _ rfl)) hh
     ·exact hs s t r (SamB.refl _ _) rfl rfl (Put.refl _ _ _) hh
theorem denOpsA_up {ops:List Oper} {K:SA→AP} {Kp:Value→SA→AP} {K':St→HP} {Kp':Value→St→HP}:∀ (l:List Oper) (β:Nat→Nat) (s:SA) (t:St) (A:AH) (h:Hp),RB E β s t A h→denOpsA P CA n pm ops l s K Kp A→
  (∀ β' s' t' A' h',RB E β' s' t' A' h'→SamB s β s' β'→K s' A'→K' t' h')→(∀ v β' s' t' A' h',RB E β' s' t' A' h'→SamB s β s' β'→Kp v s' A'→Kp' v t' h')→denOps P (upC CA) n ops l t K' Kp' h
 | [],β,s,t,A,h,r,hh,hk,_=>hk β s t A h r (SamB.refl _ _) hh
 | o::l,β,s,t,A,h,r,hh,hk,hp=>by
  unfold denOpsA at hh
  unfold denOps
  refine grdA_up r hh (fun s1 t1 r1 sb1 _ _ _ h1=>?_) fun s1 t1 r1 sb1 _ _ _ h1=>?_
  ·exact exA_up r1 h1 (fun β2 s2 t2 A2 h2 r2 sb2 _ _ hk2=>denOpsA_up l β2 s2 t2 A2 h2 r2 hk2 (fun β' s' t' A' h' r' sb'=>hk β' s' t' A' h' r' ((sb1.trans sb2).trans sb')) (fun v β' s' t' A' h' r' sb'=>hp v β' s' t' A' h' r' ((sb1.trans sb2).trans sb')))
    (fun v A' h' r'=>hp v β s1 t1 A' h' r' sb1)
  ·exact putA_up r1 (x:=.v undef) (y:=undef) rfl (fun _ _ e=>by cases e) h1 fun s2 t2 r2 sb2 _ _ hk2=>denOpsA_up l β s2 t2 A h r2 hk2 (fun β' s' t' A' h' r' sb'=>hk β' s' t' A' h' r' ((sb1.trans sb2).trans sb')) (fun v β' s' t' A' h' r' sb'=>hp v β' s' t' A' h' r' ((sb1.trans sb2).trans sb'))
theorem opQ_up {o:Oper} {KQ:Res→Prop} {KQ':Value→Prop} {Kd:Deferred→AP} {Kp':Value→HP} {Kd':Deferred→HP} (hq:isQ o.op=true) (r:RB E β s t A h) (hh:opA P CA pm s o A (fun x _ _=>KQ x) (fun _ _=>False) Kd)
  (hx:∀ x y,ResR β x y→(∀ i k,x = .b i k→∃ p,lookX s.bx i=some p)→KQ x→KQ' y) (hd:∀ v A' h',Kd v A'→Kd' v h'):denOp P (upC CA) t.env o h (fun y _=>KQ' y) Kp' Kd':=by
 refine opA_up r hh (fun x y β' s' A' h' r' sb e hxy hb hQ hB h1=>?_) (fun _ _ _ _ h=>h.elim) (fun v A' h' _=>hd v A' h')
 obtain ⟨e1,e2⟩:=hQ hq
 subst e1 e2
 exact hx x y hxy hb h1
theorem denStA_up {ops:List Oper} {K:SA→Prop} {K':St→Prop}:∀ (l:List Oper) (s:SA) (t:St),RB E β s t A h→denStA P CA n pm ops l s K A→
  (∀ s' t',RB E β s' t' A h→SamB s β s' β→K s'→K' t')→denSt P (upC CA) n ops l t K' h
 | [],s,t,r,hh,hk=>hk s t r (SamB.refl _ _) hh
 | o::l,s,t,r,hh,hk=>by
  unfold denStA at hh
  unfold denSt
  split at hh
  ·rename_i hq
   rw [hq]
   refine grdA_up r hh (fun s1 t1 r1 sb1 _ _ _ h1=>?_) fun s1 t1 r1 sb1 _ _ _ h1=>?_
   ·refine opQ_up (KQ:=fun x=>putA n s1 o.dst x fun s'=>denStA P CA n pm ops l s' K A) (KQ':=fun y=>putD n t1 o.dst y fun s'=>denSt P (upC CA) n ops l s' K' h) hq r1 h1 (fun x y hxy hb h2=>?_) (fun _ _ _ h=>h.elim)
    exact putA_up r1 hxy hb h2 fun s2 t2 r2 sb2 _ _ hk2=>denStA_up l s2 t2 r2 hk2 fun s' t' r' sb'=>hk s' t' r' ((sb1.trans sb2).trans sb')
   ·exact putA_up r1 (x:=.v undef) (y:=undef) rfl (fun _ _ e=>by cases e) h1 fun s2 t2 r2 sb2 _ _ hk2=>denStA_up l s2 t2 r2 hk2 fun s' t' r' sb'=>hk s' t' r' ((sb1.trans sb2).trans sb')
  ·exact hh.elim
end
end Go.Dn
