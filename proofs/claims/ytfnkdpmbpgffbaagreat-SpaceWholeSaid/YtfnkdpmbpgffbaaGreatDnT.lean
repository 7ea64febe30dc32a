/- What is asked over a part of the heap is enough for the whole: regions. -/
import Derived.Test.YtfnkdpmbpgffbaaGreatDnS
namespace Go.Dn
section
variable {P:Program} {CA:CTA} {n:Nat} {pm:List Nat} {E:Bx} {A:AH} {h:Hp} {β:Nat->Nat} {s:SA} {t:St}
theorem envLe_cons {ρ ρ':Env} (h:EnvLe ρ ρ') (d:Nat) (v:Value):EnvLe ((d,v)::ρ) ((d,v)::ρ'):=by
 intro x u a;rw [aO] at a ⊢;split
 .simp_all
 .rename_i e;rw [if_neg e] at a;exact h _ _ a
structure Put (s s':SA) (t t':St) (dst:Option Tmp):Prop where
 env:∀ x,dst≠some x->(look s.env x=none->look s'.env x=none)/\(lookB s.bv x=none->lookB s'.bv x=none)/\∀ v,look t.env x=some (.pointer v)->look t'.env x=some (.pointer v)
theorem Put.refl (s:SA) (t:St) (a:Option Tmp):Put s s t t a:=⟨λ_ _=>⟨id,id,λ_=>id⟩⟩
theorem eR {d:Nat}:∀ {l:Bvs} {x:Nat},lookB l x=none->lookB (dropB d l) x=none
 | [],_,_=>rfl
 | (y,q)::r,x,h=>by
  rw [dF] at h;split at h
  .cases h
  .rename_i e;unfold dropB;split
   .exact eR h
   .rw [dF,if_neg e];exact eR h
theorem jT {l:List Nat}:∀ {e:Env} {x:Nat},look e x=none->look (stripE l e) x=none
 | [],_,_=>rfl
 | (y,q)::r,x,h=>by
  rw [aO] at h;split at h
  .cases h
  .rename_i e;unfold stripE;split
   .exact jT h
   .rw [aO,if_neg e];exact jT h
theorem gJ {c:Option Tmp} {x:Res} {y:Value} {K:SA->Prop} {K':St->Prop} (r:RB E β s t A h) (B:aCy β x y) (G:∀ i k,x = .b i k->∃ p,lookX s.bx i=some p) (f:fT n s c x K)
  (m:∀ s' t',RB E β s' t' A h->SamB s β s' β->s'.bx=s.bx->Put s s' t t' c->K s'->K' t'):hZ n t c y K':=by
 unfold fT at f;unfold hZ;cases c with
 | none=>exact m s t r (SamB.refl _ _) rfl (Put.refl _ _ _) f
 | some d=>
  simp only at f ⊢;split at f
  .rename_i C;rw [C];simp only;cases x with
   | v x=>
    have q:y=x:=B;subst q;refine m { s with env:=(d,y)::s.env,bv:=dropB d s.bv } { t with env:=(d,y)::t.env } ⟨envLe_cons r.env d _,λz i o a=>?_,r.ds,r.sim,r.nd⟩ (SamB.of_bx rfl rfl rfl) rfl ⟨λz a=>⟨λg=>?_,eR,λu g=>?_⟩⟩ f
    .obtain ⟨w,l⟩:=lO a;obtain ⟨D,F⟩:=r.bv z i o w;refine ⟨?_,F⟩;show look ((d,_)::t.env) z=_;rw [aO,if_neg (Ne.symm l)];exact D
    .show look ((d,_)::s.env) z=_;rw [aO,if_neg (λe=>a (by rw [e]))];exact g
    .show look ((d,_)::t.env) z=_;rw [aO,if_neg (λe=>a (by rw [e]))];exact g
   | b i o=>
    have q:y = .pointer (some ⟨β i,o,none⟩):=B;subst q;refine m { s with env:=stripE [d] s.env,bv:=(d,(i,o))::s.bv } { t with env:=(d,.pointer (some ⟨β i,o,none⟩))::t.env } ⟨λz u a=>?_,λz j p a=>?_,r.ds,r.sim,r.nd⟩ (SamB.of_bx rfl rfl rfl) rfl ⟨λz a=>⟨λg=>jT g,λg=>?_,λu g=>?_⟩⟩ f
    .obtain ⟨w,l⟩:=fI _ a;show look ((d,_)::t.env) z=_;have:d≠z:=λe=>by rw [e] at l;exact (hP.1 l) (by simp)
     rw [aO,if_neg this];exact r.env _ _ w
    .rw [dF] at a;show look ((d,_)::t.env) z=_/\_;rw [aO];split at a
     .simp_all
     .rename_i e;rw [if_neg e];exact r.bv z j p a
    .show lookB ((d,_)::s.bv) z=_;rw [dF,if_neg (λe=>a (by rw [e]))];exact g
    .show look ((d,_)::t.env) z=_;rw [aO,if_neg (λe=>a (by rw [e]))];exact g
  .exact f.elim
theorem RB.ds_cons (r:RB E β s t A h) (d:Deferred):RB E β { s with ds:=d::s.ds } { t with ds:=d::t.ds } A h:=⟨r.env,r.bv,by show d::t.ds=d::s.ds;rw [r.ds],r.sim,r.nd⟩
theorem aDq {o:Oper} {K:SA->AP} {Kp:Value->SA->AP} {K':St->HP} {Kp':Value->St->HP} (r:RB E β s t A h) (w:exA P CA n pm o s K Kp A)
  (B:∀ β' s' t' a h',RB E β' s' t' a h'->SamB s β s' β'->Put s s' t t' o.dst->(isSt s o=false->∃ C,s'.bx=C++s.bx/\(aJe o=false->C=[])/\∀ i ∈ s.bx.map (·.1),β' i=β i)->K s' a->K' t' h')
  (D:∀ v a h',RB E β s t a h'->Kp v s a->Kp' v t h'):yL P (qX CA) n o t K' Kp' h:=by
 unfold exA at w;unfold yL;refine aG9 r w (λx y β' s' a h' r' F e f G _ H j=>?_) D λd a h' r' j=>?_
 .obtain ⟨_,M,N⟩:=e
  exact gJ r' f G j λk t2 l b m p c=>B β' k t2 a h' l (F.trans b) ⟨λz q=>by
   obtain ⟨I,J,L⟩:=p.env z q;exact ⟨λg=>I (by simp_all),λg=>J (by simp_all),L⟩⟩ (λu=>by rw [m];exact H u) c
 .exact gJ (r'.ds_cons d) (x:=.v undef) (y:=undef) rfl (λ_ _ e=>by cases e) j λk t2 l b m p c=>B β k t2 a h' l ((SamB.of_bx rfl rfl rfl:SamB s β { s with ds:=d::s.ds } β).trans b)
   ⟨λz q=>p.env z q⟩ (λ_=>⟨[],by rw [m];rfl,λ_=>rfl,λ_ _=>rfl⟩) c
theorem RB.guard (r:RB E β s t A h) {d:Nat} {b:Bool} (g:look s.env d=some (.bool b)) (c:Bool):RB E β { s with env:=(d,.bool c)::s.env } { t with env:=(d,.bool c)::t.env } A h:=by
 refine ⟨envLe_cons r.env d _,λz i o j=>?_,r.ds,r.sim,r.nd⟩;obtain ⟨a,k⟩:=r.bv z i o j;refine ⟨?_,k⟩;show look ((d,_)::t.env) z=_
 have:d≠z:=λe=>by
  have f:=r.env _ _ g;rw [e,a] at f;cases f
 rw [aO,if_neg this];exact a
theorem qP {ops:List Oper} {o:Oper} {l skip:SA->Prop} {k f:St->Prop} (r:RB E β s t A h) (a:aEg ops o s l skip)
  (q:∀ s' t',RB E β s' t' A h->SamB s β s' β->s'.bx=s.bx->s'.bv=s.bv->Put s s' t t' none->l s'->k t') (hs:∀ s' t',RB E β s' t' A h->SamB s β s' β->s'.bx=s.bx->s'.bv=s.bv->Put s s' t t' none->skip s'->f t'):grd ops o t k f:=by
 unfold aEg at a;unfold grd;cases w:o.guard with
 | none=>rw [w] at a;exact q s t r (SamB.refl _ _) rfl rfl (Put.refl _ _ _) a
 | some g=>
  obtain ⟨j,m⟩:=g;rw [w] at a;simp only at a ⊢;cases x:ops[j]? with
  | none=>rw [x] at a;exact a.elim
  | some oj=>
   rw [x] at a;simp only at a ⊢;cases y:oj.dst with
   | none=>rw [y] at a;exact a.elim
   | some d=>
    rw [y] at a;simp only at a ⊢;cases i:look s.env d with
    | none=>rw [i] at a;exact a.elim
    | some v=>
     rw [i] at a;rw [r.env _ _ i]
     have p:∀ (b c:Bool),v = .bool b->Put s { s with env:=(d,.bool c)::s.env } t { t with env:=(d,.bool c)::t.env } none:=by
      intro b c B;refine ⟨λz _=>⟨λg=>?_,id,λu g=>?_⟩⟩
      .show look ((d,_)::s.env) z=_;rw [aO,if_neg (λe=>by rw [<-e,i] at g;cases g)];exact g
      .show look ((d,_)::t.env) z=_;rw [aO];split
       .rename_i e;subst e;rw [r.env _ _ i,B] at g;cases g
       .exact g
     cases v<;>first | exact a.elim | skip
     .rename_i b;cases m
      .exact jO (hs _ _ (r.guard i true) (SamB.of_bx rfl rfl rfl) rfl rfl (p b _ rfl)) (q _ _ (r.guard i false) (SamB.of_bx rfl rfl rfl) rfl rfl (p b _ rfl)) a
      .exact jO (q _ _ (r.guard i true) (SamB.of_bx rfl rfl rfl) rfl rfl (p b _ rfl)) (hs _ _ (r.guard i false) (SamB.of_bx rfl rfl rfl) rfl rfl (p b _ rfl)) a
     .exact hs s t r (SamB.refl _ _) rfl rfl (Put.refl _ _ _) a
theorem denOpsA_up {ops:List Oper} {K:SA->AP} {Kp:Value->SA->AP} {K':St->HP} {Kp':Value->St->HP}:∀ (l:List Oper) (β:Nat->Nat) (s:SA) (t:St) (A:AH) (h:Hp),RB E β s t A h->lJ P CA n pm ops l s K Kp A->
  (∀ β' s' t' a h',RB E β' s' t' a h'->SamB s β s' β'->K s' a->K' t' h')->(∀ v β' s' t' a h',RB E β' s' t' a h'->SamB s β s' β'->Kp v s' a->Kp' v t' h')->mS P (qX CA) n ops l t K' Kp' h
 | [],β,s,t,A,h,r,hh,hk,_=>hk β s t A h r (SamB.refl _ _) hh
 | o::l,β,s,t,A,h,r,hh,hk,hp=>by
  unfold lJ at hh;unfold mS;refine qP r hh (λs1 m g c _ _ _ i=>?_) λs1 m g c _ _ _ i=>?_
  .exact aDq g i (λβ2 j t2 p q k d _ _ f=>denOpsA_up l β2 j t2 p q k f (λβ' s' t' a h' r' b=>hk β' s' t' a h' r' ((c.trans d).trans b)) (λv β' s' t' a h' r' b=>hp v β' s' t' a h' r' ((c.trans d).trans b)))
    (λv a h' r'=>hp v β s1 m a h' r' c)
  .exact gJ g (x:=.v undef) (y:=undef) rfl (λ_ _ e=>by cases e) i λj t2 k d _ _ f=>denOpsA_up l β j t2 A h k f (λβ' s' t' a h' r' b=>hk β' s' t' a h' r' ((c.trans d).trans b)) (λv β' s' t' a h' r' b=>hp v β' s' t' a h' r' ((c.trans d).trans b))
theorem uG {o:Oper} {KQ:Res->Prop} {KQ':Value->Prop} {Kd:Deferred->AP} {Kp':Value->HP} {Kd':Deferred->HP} (c:qF o.op=true) (r:RB E β s t A h) (d:opA P CA pm s o A (λx _ _=>KQ x) (λ_ _=>False) Kd)
  (f:∀ x y,aCy β x y->(∀ i k,x = .b i k->∃ p,lookX s.bx i=some p)->KQ x->KQ' y) (g:∀ v a h',Kd v a->Kd' v h'):bT P (qX CA) t.env o h (λy _=>KQ' y) Kp' Kd':=by
 refine aG9 r d (λx y β' s' a h' r' q e b j hQ u l=>?_) (λ_ _ _ _ h=>h.elim) (λv a h' _=>g v a h');obtain ⟨e1,m⟩:=hQ c;subst e1 m;exact f x y b j l
theorem denStA_up {ops:List Oper} {K:SA->Prop} {K':St->Prop}:∀ (l:List Oper) (s:SA) (t:St),RB E β s t A h->pY P CA n pm ops l s K A->
  (∀ s' t',RB E β s' t' A h->SamB s β s' β->K s'->K' t')->rU P (qX CA) n ops l t K' h
 | [],s,t,r,hh,hk=>hk s t r (SamB.refl _ _) hh
 | o::l,s,t,r,hh,hk=>by
  unfold pY at hh;unfold rU;split at hh
  .rename_i m;rw [m];refine qP r hh (λs1 p f a _ _ _ g=>?_) λs1 p f a _ _ _ g=>?_
   .refine uG (KQ:=λx=>fT n s1 o.dst x λs'=>pY P CA n pm ops l s' K A) (KQ':=λy=>hZ n p o.dst y λs'=>rU P (qX CA) n ops l s' K' h) m f g (λx y i q u=>?_) (λ_ _ _ h=>h.elim);exact gJ f i q u λj t2 k b _ _ c=>denStA_up l j t2 k c λs' t' r' d=>hk s' t' r' ((a.trans b).trans d)
   .exact gJ f (x:=.v undef) (y:=undef) rfl (λ_ _ e=>by cases e) g λj t2 k b _ _ c=>denStA_up l j t2 k c λs' t' r' d=>hk s' t' r' ((a.trans b).trans d)
  .exact hh.elim
end
end Go.Dn
