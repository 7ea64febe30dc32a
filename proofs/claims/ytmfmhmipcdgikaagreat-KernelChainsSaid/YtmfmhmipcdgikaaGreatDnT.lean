/- What is asked over a part of the heap is enough for the whole: regions. -/
import Derived.Test.YtmfmhmipcdgikaaGreatDnS
namespace Go.Dn
section
variable {P:Program} {CA:CTA} {n:Nat} {pm:List Nat} {E:Bx} {A:AH} {h:Hp} {β:Nat->Nat} {s:SA} {t:St}
theorem envLe_cons {ρ ρ':Env} (h:EnvLe ρ ρ') (d:Nat) (v:Value):EnvLe ((d,v)::ρ) ((d,v)::ρ'):=by
 intro x u hu;rw [aQ] at hu ⊢;split
 ·rename_i e;rw [if_pos e] at hu;exact hu
 ·rename_i e;rw [if_neg e] at hu;exact h _ _ hu
structure Put (s s':SA) (t t':St) (dst:Option Tmp):Prop where
 env:∀ x,dst≠some x->(look s.env x=none->look s'.env x=none)/\(lookB s.bv x=none->lookB s'.bv x=none)/\∀ v,look t.env x=some (.pointer v)->look t'.env x=some (.pointer v)
theorem Put.refl (s:SA) (t:St) (dst:Option Tmp):Put s s t t dst:=⟨λ_ _=>⟨id,id,λ_=>id⟩⟩
theorem eE {d:Nat}:∀ {l:Bvs} {x:Nat},lookB l x=none->lookB (dropB d l) x=none
 | [],_,_=>rfl
 | (y,q)::r,x,h=>by
  rw [dD] at h;split at h
  ·cases h
  ·rename_i e;unfold dropB;split
   ·exact eE h
   ·rw [dD,if_neg e];exact eE h
theorem iS {l:List Nat}:∀ {e:Env} {x:Nat},look e x=none->look (stripE l e) x=none
 | [],_,_=>rfl
 | (y,q)::r,x,h=>by
  rw [aQ] at h;split at h
  ·cases h
  ·rename_i e;unfold stripE;split
   ·exact iS h
   ·rw [aQ,if_neg e];exact iS h
theorem eX {dst:Option Tmp} {x:Res} {y:Value} {K:SA->Prop} {K':St->Prop} (r:RB E β s t A h) (hx:aBm β x y) (hb:∀ i k,x = .b i k->∃ p,lookX s.bx i=some p) (hh:fE n s dst x K)
  (hk:∀ s' t',RB E β s' t' A h->SamB s β s' β->s'.bx=s.bx->Put s s' t t' dst->K s'->K' t'):gJ n t dst y K':=by
 unfold fE at hh;unfold gJ;cases dst with
 | none=>exact hk s t r (SamB.refl _ _) rfl (Put.refl _ _ _) hh
 | some d=>
  simp only at hh ⊢;split at hh
  ·rename_i hd;rw [hd];simp only;cases x with
   | v x=>
    have hy:y=x:=hx;subst hy;refine hk { s with env:=(d,y)::s.env,bv:=dropB d s.bv } { t with env:=(d,y)::t.env } ⟨envLe_cons r.env d _,λz i o hz=>?_,r.ds,r.sim,r.nd⟩ (SamB.of_bx rfl rfl rfl) rfl ⟨λz hz=>⟨λg=>?_,eE,λu g=>?_⟩⟩ hh
    ·obtain ⟨g1,g2⟩:=kX hz;obtain ⟨g3,g4⟩:=r.bv z i o g1;refine ⟨?_,g4⟩;show look ((d,_)::t.env) z=_;rw [aQ,if_neg (Ne.symm g2)];exact g3
    ·show look ((d,_)::s.env) z=_;rw [aQ,if_neg (λe=>hz (by rw [e]))];exact g
    ·show look ((d,_)::t.env) z=_;rw [aQ,if_neg (λe=>hz (by rw [e]))];exact g
   | b i o=>
    have hy:y = .pointer (some ⟨β i,o,none⟩):=hx;subst hy;refine hk { s with env:=stripE [d] s.env,bv:=(d,(i,o))::s.bv } { t with env:=(d,.pointer (some ⟨β i,o,none⟩))::t.env } ⟨λz u hz=>?_,λz j p hz=>?_,r.ds,r.sim,r.nd⟩ (SamB.of_bx rfl rfl rfl) rfl ⟨λz hz=>⟨λg=>iS g,λg=>?_,λu g=>?_⟩⟩ hh
    ·obtain ⟨g1,g2⟩:=eO _ hz;show look ((d,_)::t.env) z=_;have:d≠z:=λe=>by rw [e] at g2;exact (gG.1 g2) (by simp)
     rw [aQ,if_neg this];exact r.env _ _ g1
    ·rw [dD] at hz;show look ((d,_)::t.env) z=_/\_;rw [aQ];split at hz
     ·rename_i e;cases hz;rw [if_pos e];exact ⟨rfl,hb _ _ rfl⟩
     ·rename_i e;rw [if_neg e];exact r.bv z j p hz
    ·show lookB ((d,_)::s.bv) z=_;rw [dD,if_neg (λe=>hz (by rw [e]))];exact g
    ·show look ((d,_)::t.env) z=_;rw [aQ,if_neg (λe=>hz (by rw [e]))];exact g
  ·exact hh.elim
theorem RB.ds_cons (r:RB E β s t A h) (d:Deferred):RB E β { s with ds:=d::s.ds } { t with ds:=d::t.ds } A h:=⟨r.env,r.bv,by show d::t.ds=d::s.ds;rw [r.ds],r.sim,r.nd⟩
theorem aCM {o:Oper} {K:SA->AP} {Kp:Value->SA->AP} {K':St->HP} {Kp':Value->St->HP} (r:RB E β s t A h) (hh:exA P CA n pm o s K Kp A)
  (hk:∀ β' s' t' A' h',RB E β' s' t' A' h'->SamB s β s' β'->Put s s' t t' o.dst->(isSt s o=false->∃ l1,s'.bx=l1++s.bx/\(aIS o=false->l1=[])/\∀ i ∈ s.bx.map (·.1),β' i=β i)->K s' A'->K' t' h')
  (hp:∀ v A' h',RB E β s t A' h'->Kp v s A'->Kp' v t h'):wM P (nI CA) n o t K' Kp' h:=by
 unfold exA at hh;unfold wM;refine aG5 r hh (λx y β' s' A' h' r' sb e hxy hb _ hB h1=>?_) hp λd A' h' r' h1=>?_
 ·obtain ⟨_,e2,e3⟩:=e
  exact eX r' hxy hb h1 λs2 t2 r2 sb2 eb pt hk2=>hk β' s2 t2 A' h' r2 (sb.trans sb2) ⟨λz hz=>by
   obtain ⟨p1,p2,p3⟩:=pt.env z hz;exact ⟨λg=>p1 (by rw [e2];exact g),λg=>p2 (by rw [e3];exact g),p3⟩⟩ (λhst=>by rw [eb];exact hB hst) hk2
 ·exact eX (r'.ds_cons d) (x:=.v undef) (y:=undef) rfl (λ_ _ e=>by cases e) h1 λs2 t2 r2 sb2 eb pt hk2=>hk β s2 t2 A' h' r2 ((SamB.of_bx rfl rfl rfl:SamB s β { s with ds:=d::s.ds } β).trans sb2)
   ⟨λz hz=>pt.env z hz⟩ (λ_=>⟨[],by rw [eb];rfl,λ_=>rfl,λ_ _=>rfl⟩) hk2
theorem RB.guard (r:RB E β s t A h) {d:Nat} {b:Bool} (hd:look s.env d=some (.bool b)) (c:Bool):RB E β { s with env:=(d,.bool c)::s.env } { t with env:=(d,.bool c)::t.env } A h:=by
 refine ⟨envLe_cons r.env d _,λz i o hz=>?_,r.ds,r.sim,r.nd⟩;obtain ⟨g1,g2⟩:=r.bv z i o hz;refine ⟨?_,g2⟩;show look ((d,_)::t.env) z=_
 have:d≠z:=λe=>by
  have h1:=r.env _ _ hd;rw [e,g1] at h1;cases h1
 rw [aQ,if_neg this];exact g1
theorem pD {ops:List Oper} {o:Oper} {run skip:SA->Prop} {run' skip':St->Prop} (r:RB E β s t A h) (hh:aCg ops o s run skip)
  (hr:∀ s' t',RB E β s' t' A h->SamB s β s' β->s'.bx=s.bx->s'.bv=s.bv->Put s s' t t' none->run s'->run' t') (hs:∀ s' t',RB E β s' t' A h->SamB s β s' β->s'.bx=s.bx->s'.bv=s.bv->Put s s' t t' none->skip s'->skip' t'):grd ops o t run' skip':=by
 unfold aCg at hh;unfold grd;cases hg:o.guard with
 | none=>rw [hg] at hh;exact hr s t r (SamB.refl _ _) rfl rfl (Put.refl _ _ _) hh
 | some g=>
  obtain ⟨j,want⟩:=g;rw [hg] at hh;simp only at hh ⊢;cases hj:ops[j]? with
  | none=>rw [hj] at hh;exact hh.elim
  | some oj=>
   rw [hj] at hh;simp only at hh ⊢;cases hd:oj.dst with
   | none=>rw [hd] at hh;exact hh.elim
   | some d=>
    rw [hd] at hh;simp only at hh ⊢;cases hl:look s.env d with
    | none=>rw [hl] at hh;exact hh.elim
    | some v=>
     rw [hl] at hh;rw [r.env _ _ hl]
     have pt:∀ (b c:Bool),v = .bool b->Put s { s with env:=(d,.bool c)::s.env } t { t with env:=(d,.bool c)::t.env } none:=by
      intro b c hv;refine ⟨λz _=>⟨λg=>?_,id,λu g=>?_⟩⟩
      ·show look ((d,_)::s.env) z=_;rw [aQ,if_neg (λe=>by rw [<-e,hl] at g;cases g)];exact g
      ·show look ((d,_)::t.env) z=_;rw [aQ];split
       ·rename_i e;subst e;rw [r.env _ _ hl,hv] at g;cases g
       ·exact g
     cases v<;>first | exact hh.elim | skip
     ·rename_i b;cases want
      ·exact iT (hs _ _ (r.guard hl true) (SamB.of_bx rfl rfl rfl) rfl rfl (pt b _ rfl)) (hr _ _ (r.guard hl false) (SamB.of_bx rfl rfl rfl) rfl rfl (pt b _ rfl)) hh
      ·exact iT (hr _ _ (r.guard hl true) (SamB.of_bx rfl rfl rfl) rfl rfl (pt b _ rfl)) (hs _ _ (r.guard hl false) (SamB.of_bx rfl rfl rfl) rfl rfl (pt b _ rfl)) hh
     ·exact hs s t r (SamB.refl _ _) rfl rfl (Put.refl _ _ _) hh
theorem denOpsA_up {ops:List Oper} {K:SA->AP} {Kp:Value->SA->AP} {K':St->HP} {Kp':Value->St->HP}:∀ (l:List Oper) (β:Nat->Nat) (s:SA) (t:St) (A:AH) (h:Hp),RB E β s t A h->j9 P CA n pm ops l s K Kp A->
  (∀ β' s' t' A' h',RB E β' s' t' A' h'->SamB s β s' β'->K s' A'->K' t' h')->(∀ v β' s' t' A' h',RB E β' s' t' A' h'->SamB s β s' β'->Kp v s' A'->Kp' v t' h')->kT P (nI CA) n ops l t K' Kp' h
 | [],β,s,t,A,h,r,hh,hk,_=>hk β s t A h r (SamB.refl _ _) hh
 | o::l,β,s,t,A,h,r,hh,hk,hp=>by
  unfold j9 at hh;unfold kT;refine pD r hh (λs1 t1 r1 sb1 _ _ _ h1=>?_) λs1 t1 r1 sb1 _ _ _ h1=>?_
  ·exact aCM r1 h1 (λβ2 s2 t2 A2 h2 r2 sb2 _ _ hk2=>denOpsA_up l β2 s2 t2 A2 h2 r2 hk2 (λβ' s' t' A' h' r' sb'=>hk β' s' t' A' h' r' ((sb1.trans sb2).trans sb')) (λv β' s' t' A' h' r' sb'=>hp v β' s' t' A' h' r' ((sb1.trans sb2).trans sb')))
    (λv A' h' r'=>hp v β s1 t1 A' h' r' sb1)
  ·exact eX r1 (x:=.v undef) (y:=undef) rfl (λ_ _ e=>by cases e) h1 λs2 t2 r2 sb2 _ _ hk2=>denOpsA_up l β s2 t2 A h r2 hk2 (λβ' s' t' A' h' r' sb'=>hk β' s' t' A' h' r' ((sb1.trans sb2).trans sb')) (λv β' s' t' A' h' r' sb'=>hp v β' s' t' A' h' r' ((sb1.trans sb2).trans sb'))
theorem qR {o:Oper} {KQ:Res->Prop} {KQ':Value->Prop} {Kd:Deferred->AP} {Kp':Value->HP} {Kd':Deferred->HP} (hq:nZ o.op=true) (r:RB E β s t A h) (hh:opA P CA pm s o A (λx _ _=>KQ x) (λ_ _=>False) Kd)
  (hx:∀ x y,aBm β x y->(∀ i k,x = .b i k->∃ p,lookX s.bx i=some p)->KQ x->KQ' y) (hd:∀ v A' h',Kd v A'->Kd' v h'):bO P (nI CA) t.env o h (λy _=>KQ' y) Kp' Kd':=by
 refine aG5 r hh (λx y β' s' A' h' r' sb e hxy hb hQ hB h1=>?_) (λ_ _ _ _ h=>h.elim) (λv A' h' _=>hd v A' h');obtain ⟨e1,e2⟩:=hQ hq;subst e1 e2;exact hx x y hxy hb h1
theorem denStA_up {ops:List Oper} {K:SA->Prop} {K':St->Prop}:∀ (l:List Oper) (s:SA) (t:St),RB E β s t A h->oR P CA n pm ops l s K A->
  (∀ s' t',RB E β s' t' A h->SamB s β s' β->K s'->K' t')->oW P (nI CA) n ops l t K' h
 | [],s,t,r,hh,hk=>hk s t r (SamB.refl _ _) hh
 | o::l,s,t,r,hh,hk=>by
  unfold oR at hh;unfold oW;split at hh
  ·rename_i hq;rw [hq];refine pD r hh (λs1 t1 r1 sb1 _ _ _ h1=>?_) λs1 t1 r1 sb1 _ _ _ h1=>?_
   ·refine qR (KQ:=λx=>fE n s1 o.dst x λs'=>oR P CA n pm ops l s' K A) (KQ':=λy=>gJ n t1 o.dst y λs'=>oW P (nI CA) n ops l s' K' h) hq r1 h1 (λx y hxy hb h2=>?_) (λ_ _ _ h=>h.elim);exact eX r1 hxy hb h2 λs2 t2 r2 sb2 _ _ hk2=>denStA_up l s2 t2 r2 hk2 λs' t' r' sb'=>hk s' t' r' ((sb1.trans sb2).trans sb')
   ·exact eX r1 (x:=.v undef) (y:=undef) rfl (λ_ _ e=>by cases e) h1 λs2 t2 r2 sb2 _ _ hk2=>denStA_up l s2 t2 r2 hk2 λs' t' r' sb'=>hk s' t' r' ((sb1.trans sb2).trans sb')
  ·exact hh.elim
end
end Go.Dn
