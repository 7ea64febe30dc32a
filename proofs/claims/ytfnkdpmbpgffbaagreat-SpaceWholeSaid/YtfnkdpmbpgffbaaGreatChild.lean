/- What the proof stands on. -/
import Derived.Test.YtfnkdpmbpgffbaaGreatBits
import Derived.Test.YtfnkdpmbpgffbaaGreatPurse
import Derived.Test.YtfnkdpmbpgffbaaGreatPages
namespace Go.Dn
variable {A:AH} {R:List SP} {r b t i:Nat} {fr n:Int} {hs:List (Int × Int)} {W:Int->Int->Int} {F G:Int->Prop} {ns:List Nd} {nd:Nd}
def tab0 (root:Int):Tab:=λk q=>if k=0/\q=0 then some root else none
theorem TabW.init {root:Int} (l:∀ j,0<=j->j<256->W root j=0) (m:0<=root/\root<1048576):TabW W root (tab0 root) (λ_=>none):=by
 have key:∀ k q f,tab0 root k q=some f->k=0/\q=0/\f=root:=by
  intro k q f h;unfold tab0 at h;split at h
  .rename_i e;cases h;exact ⟨e.1,e.2,rfl⟩
  .cases h
 refine ⟨λq f=>⟨λh=>⟨(key _ _ _ h).2.1,(key _ _ _ h).2.2⟩,λh=>?_⟩,λk q o=>?_,λk q f o a j s g c=>?_,λq f a=>?_,λk q f a=>?_,λp x d=>(by cases d),λk1 z k2 B f g c=>?_,λk q f a=>?_,λp x d=>(by cases d)⟩
 .unfold tab0;rw [h.1,h.2,if_pos ⟨rfl,rfl⟩]
 .unfold tab0;rw [if_neg (by omega)]
 .obtain ⟨rfl,rfl,rfl⟩:=key _ _ _ a;rw [l j s (c rfl)];unfold tab0;rw [if_neg (by omega)];rfl
 .have:=(key _ _ _ a).1;omega
 .have:=(key _ _ _ a).1;omega
 .obtain ⟨u,v,_⟩:=key _ _ _ g;obtain ⟨w,y,_⟩:=key _ _ _ c;exact ⟨u.trans w.symm,v.trans y.symm⟩
 .rw [(key _ _ _ a).2.2];exact m
theorem aF7 {kern:Int} {tk:List Int} {Q:Int->Int->AH->Prop} (h:Own (taken r fr hs W b F G n t ns i nd tk++R) A) (hi:ns[i]? = some nd) (e:nd.live=true) (l:∀ x,F x->hasF fr hs x=true) (g:0<=kern/\kern<1048576)
  (o:nd.quo-nd.use-nd.lent<=tk.length->Q 0 8 A) (p:tk.length<nd.quo-nd.use-nd.lent->n=tk.length->∀ a,Own (taken r fr hs W b F G n t ns i nd tk++R) a->Q 0 7 a)
  (q:tk.length<nd.quo-nd.use-nd.lent->n≠tk.length->∀ f a,F f->f ∉ tk->Own (taken r fr hs (setW (zeroW W f) f 256 (kEnt kern)) b F G n t ns i nd (tk++[f])++R) a->Q f 0 a) :
  qby_A (some ⟨r,0,none⟩) (some ⟨b,0,none⟩) (some ⟨t,0,none⟩) i kern Q A:=by
 unfold qby_A qby_G;refine l5 h hi e l (λc=>aG rfl (o c)) (λc d a j=>aG rfl (p c d a j)) λc d f v m s j=>bsel_f rfl ?_;exact kW j (l f m) ⟨by omega,by omega⟩ g λu k=>q c d f u m s k
end Go.Dn
namespace Go.Dn
variable {A:AH} {R:List SP} {r b t i:Nat} {fr n:Int} {hs:List (Int × Int)} {F G:Int->Prop} {ns:List Nd} {nd:Nd}
theorem zN {tk:List Int} {s:Sl} {W':Int->Int->Int} {K:AP} (h:Own (taken r fr hs W' b F G n t ns i nd tk++SlO s 1 (intsV tk)::R) A) (hi:ns[i]? = some nd) (hlv:nd.live=true) (hu:0<=nd.use) (hFG:∀ x,F x->¬G x)
  (hF:∀ x ∈ tk,F x) (hnd:tk.Nodup) (hl:tk.length<9223372036854775807) (hk:∀ A',Own (RamW r fr hs W'::Bud b F G n::TreeS t ns::R) A'->K A') :
  ∃ I17:Int->Nat->AH->Prop,(∃ m18,I17 (0:Int) m18 A)/\∀ x21:Int,∀ m18 h20,I17 x21 m18 h20->
   (bsel (decide (x21<(Int.ofNat s.len))) (aF s.a λa22=>(bB x21 s.len (aI .i64 (Addr.add a22 (Int.toNat x21*1)) h20 λn23=>
    (qbh_A (some ⟨r,0,none⟩) (some ⟨b,0,none⟩) (some ⟨t,0,none⟩) i n23 (λh24=>(∃ m19,m19<m18/\I17 (IntKind.wrap .i64 (x21+(1:Int))) m19 h24)) h20)))) (K h20)):=by
 have hsl:s.len=tk.length:=by
  have:=dV (i:=3) (P:=SlO s 1 (intsV tk)) h rfl aR;simpa [intsV] using this
 refine ⟨λx m h'=>∃ c:Nat,x=c/\c<=tk.length/\tk.length-c=m/\Own (taken r fr hs W' b F G n t ns i nd (tk.drop c)++SlO s 1 (intsV tk)::R) h',⟨_,0,rfl,by omega,rfl,h⟩,?_⟩;intro x m A5 ⟨c,e1,e2,e3,hA5⟩;subst e1 e3;refine bsel_in (λd=>?_) λd=>?_
 ·have d:c<tk.length:=by simp [hsl] at d;omega
  obtain ⟨f,hf⟩:∃ f,tk[c]? = some f:=⟨tk[c],by simp [d]⟩
  have hd:tk.drop c=f::tk.drop (c+1):=by
   rw [List.drop_eq_getElem_cons d];have:=(List.getElem?_eq_some_iff.1 hf).2;rw [this]
  rw [hd] at hA5;obtain ⟨bb,o,q1,q2⟩:=bK (i:=3) (P:=SlO s 1 (intsV tk)) hA5 rfl aR (j:=c) (v:=.int .i64 f) (by simp only [intsV,List.getElem?_map,hf];rfl);rw [q1];refine inB_in (by omega) (by omega) ⟨f,by rw [add_at];simpa using q2,?_⟩;have hfm:f ∈ tk:=List.mem_of_getElem? hf;refine yA hA5 hi hlv hu (hF f hfm) (by grind) (hFG f (hF f hfm)) λA6 hA6=>?_;exact ⟨tk.length-(c+1),by omega,c+1,by rw [w64]<;>omega,by omega,rfl,hA6⟩
 ·have d:c=tk.length:=by simp [hsl] at d;omega
  rw [d,List.drop_length] at hA5;refine hk A5 ?_;have:=pF hi hA5;exact this.sub (List.Sublist.cons_cons _ (List.Sublist.cons_cons _ (List.Sublist.cons_cons _ (List.sublist_cons_self _ _))))
end Go.Dn
namespace Go.Dn
variable {W:Int->Int->Int} {root:Int} {tab:Tab} {lf:Int->Option Lf}
structure Way (W:Int->Int->Int) (root:Int) (tab:Tab) (lf:Int->Option Lf) (p:Int) (tk:List Int) (W2:Int->Int->Int) (tab1:Tab) (lst:List Int):Prop where
 ok:TabW W2 root tab1 lf
 down:DownOK tab1 p lst
 old:∀ k q f,tab k q=some f->tab1 k q=some f
 new:∀ k q f,tab1 k q=some f->tab k q=some f\/(f ∈ tk/\q=preP p k/\1<=k/\k<=3)
 other:∀ f,f ∉ tk->(∀ k q,tab k q≠some f)->W2 f=W f
 hi:∀ j,256<=j->W2 root j=W root j
theorem Way.step {p:Int} {tk a:List Int} {o:Int->Int->Int} {tab1:Tab} (h:Way W root tab lf p tk o tab1 a) (v:0<=p/\p<34359738368) (D:a.length<4) {f g:Int} (r:a[a.length-1]? = some f) (M:g ∈ tk)
  (hno:∀ k q,tab1 k q≠some g) (E:∀ j,0<=j->j<512->o g j=0) (F:0<=g/\g<1048576) :
  Way W root tab lf p tk (setW o f (atP p (a.length-1)) (aJG g)) (setT tab1 a.length (preP p a.length) (some g)) (a++[g]):=by
 obtain ⟨k,m⟩:∃ k,a.length=k+1:=⟨a.length-1,by have:=h.down.pos;omega⟩;rw [m] at r;simp only [Nat.add_sub_cancel] at r;obtain ⟨e1,G,H,w,I⟩:=bN v (k:=k) (by omega);have d:=h.down.is k (by omega);rw [r] at d;have s:=h.down.no D;rw [m,e1] at s;have l:=h.ok.link (k:=k) (by omega) d I ⟨G,H⟩ w s hno E F;rw [m,Nat.add_sub_cancel,e1]
 have old:∀ k' n i,tab1 k' n=some i->setT tab1 (k+1) (preP p k*512+atP p k) (some g) k' n=some i:=by
  intro k' n i b;unfold setT;split
  .simp_all
  .exact b
 refine ⟨l,⟨by simp,by simp;omega,λc t=>?_,λt=>?_⟩,λk' n i b=>old _ _ _ (h.old _ _ _ b),λk' n i b=>?_,λi b x=>?_,λj y=>?_⟩
 .by_cases e:c=k+1
  .subst e;rw [List.getElem?_append_right (by omega),m,e1];unfold setT;rw [if_pos ⟨rfl,rfl⟩];simp
  .have:c<k+1:=by simp [m] at t;omega
   rw [List.getElem?_append_left (by omega)];unfold setT;rw [if_neg (λz=>e z.1)];exact h.down.is c (by omega)
 .have A:(a++[g]).length=k+2:=by simp [m]
  rw [A];rw [A] at t;unfold setT;rw [if_neg (λz=>by omega)];cases e:tab1 (k+2) (preP p (k+2)) with
  | none=>rfl
  | some z=>
   obtain ⟨g',B,_⟩:=h.ok.up _ _ _ e
   have J:preP p (k+2) / 512=preP p k*512+atP p k:=by
    obtain ⟨K,N,O,_,_⟩:=bN v (k:=k+1) (by omega);rw [K,<- e1];omega
   rw [J,s] at B;cases B
 .unfold setT at b;split at b
  .grind
  .exact h.new _ _ _ b
 .have u:i≠f:=λe=>by
   rw [e] at b x;rcases h.new _ _ _ d with C | C
   .simp_all
   .exact b C.1
  rw [bX u];exact h.other i b x
 .unfold setW;by_cases e:root=f
  .have L:tab1 0 0=some f:=(h.ok.root 0 f).2 ⟨rfl,e.symm⟩;obtain ⟨k0,_⟩:=h.ok.apart _ _ _ _ _ d L;have:=w k0;rw [if_neg (λz=>by omega)];exact h.hi j y
  .rw [if_neg (λz=>e z.1)];exact h.hi j y
end Go.Dn
namespace Go.Dn
variable {A:AH} {l R:List SP} {r b t i:Nat} {fr n:Int} {hs:List (Int × Int)} {W:Int->Int->Int} {F G:Int->Prop} {ns:List Nd} {nd:Nd} {root:Int} {tab:Tab} {lf:Int->Option Lf}
set_option maxRecDepth 100000 in
set_option maxHeartbeats 2000000 in
theorem aHq {p N:Int} {pw pu px:Bool} {Q:Int->AH->Prop} (h:Own (RamW r fr hs W::Bud b F G n::TreeS t ns::R) A) (hi:ns[i]? = some nd) (hlv:nd.live=true) (hF:∀ x,F x->hasF fr hs x=true) (hG:∀ x,G x->hasF fr hs x=true)
  (hT:TabW W root tab lf) (hTG:∀ k q f,tab k q=some f->G f)
  (h1:p<0\/p>=34359738368\/N<0\/N>=1048576->Q 1 A)
  (h6:0<=p->p<34359738368->0<=N->N<1048576->lf p≠none->∀ S,Own (RamW r fr hs W::Bud b F G n::TreeS t ns::R) S->Q 6 S)
  (hbad:0<=p->p<34359738368->0<=N->N<1048576->lf p=none->∀ w e W' S,DownOK tab p w->(e=8/\nd.quo-nd.use-nd.lent<4-w.length/\nd.quo-nd.use-nd.lent<=n\/e=7/\n<4-w.length/\n<nd.quo-nd.use-nd.lent)->
   (∀ f,¬F f->W' f=W f)->Own (RamW r fr hs W'::Bud b F G n::TreeS t ns::R) S->Q e S)
  (hk:0<=p->p<34359738368->0<=N->N<1048576->lf p=none->∀ w tk W' U S,DownOK tab p w->w.length+tk.length=4->(tk.length:Int)<=nd.quo-nd.use-nd.lent->(tk.length:Int)<=n->tk.Nodup->(∀ x ∈ tk,F x)->
   TabW W' root U (setL lf p (some ⟨N,pw,pu,px⟩))->(∀ k q f,tab k q=some f->U k q=some f)->(∀ k q f,U k q=some f->tab k q=some f\/(f ∈ tk/\q=preP p k/\1<=k/\k<=3))->
   (∀ f,f ∉ tk->(∀ k q,tab k q≠some f)->W' f=W f)->(∀ j,256<=j->W' root j=W root j)->Own (taken r fr hs W' b F G n t ns i nd tk++R) S->Q 0 S) :
  qey_A (some ⟨r,0,none⟩) (some ⟨b,0,none⟩) (some ⟨t,0,none⟩) i root p N pw pu px Q A:=by
 obtain ⟨mb0,g0,st0,gl0,hB0,hG0,_,_⟩:=Bud.openH h.swap;have hn0:=hB0.nonneg;have hFG:∀ x,F x->¬G x:=λx Z hg=>(hG0.apart x hg).1 Z
 have hnd:nd.OK:=by
  obtain ⟨_,_,_,⟨_,h2⟩,_⟩:=TreeS.openH h.rot3;exact h2 nd (List.mem_of_getElem? hi)
 have hhas:∀ k q f,tab k q=some f->hasF fr hs f=true:=λk q f E=>hG f (hTG k q f E);unfold qey_A qey_G;refine ⟨λh'=>h'=A/\0<=p/\p<34359738368/\0<=N/\N<1048576,?_,bsel_in (λc=>h1 (.inl (by simp_all))) λc=>bsel_in (λd=>h1 (.inr (.inl (by simp_all)))) λd=>bsel_in (λc2=>h1 (.inr (.inr (.inl (by simp_all))))) λc2=>bsel_in (λT=>h1 (.inr (.inr (.inr (by simp_all))))) λT=>⟨rfl,by simpa using c,by simpa using d,by simpa using c2,by simpa using T⟩⟩;intro A0 ⟨e0,p0,p1,f0,f1⟩;subst e0;refine kG h ⟨p0,p1⟩ λA1 hA1=>?_;refine oL hA1 hT hhas ⟨p0,p1⟩ λw s A2 hD hl hsa hA2=>?_;refine aT (cs:=[.int .i64 0,.int .i64 0,.int .i64 0,.int .i64 0]) hA2 λJ A3 hA3=>?_;simp only [add_at];refine bU (i:=0) hA3 rfl rfl rfl λA4 hA4=>bU (i:=0) hA4 rfl rfl rfl λA5 hA5=>bU (i:=0) hA5 rfl rfl rfl λA6 hA6=>bU (i:=0) hA6 rfl rfl rfl λA7 M=>?_;have M:Own (At J (bS p)::RamW r fr hs W::SlO s 1 (intsV w)::Bud b F G n::TreeS t ns::R) A7:=M;have M:Own (RamW r fr hs W::Bud b F G n::TreeS t ns::SlO s 1 (intsV w)::At J (bS p)::R) A7:=(((M.pick 2 rfl).pick 4 rfl).pick 4 rfl).pick 4 rfl;have hle:=hD.le;have hj:0<=atP p 3/\atP p 3<512:=by simp only [atP];omega
 refine ⟨λh'=>lf p=none/\Own (taken r fr hs W b F G n t ns i nd []++SlO s 1 (intsV w)::At J (bS p)::R) h',?_,?_⟩
 rotate_left
 .refine bsel_in (λc=>?_) λc=>?_
  .have c:w.length=4:=by simp [hl] at c;omega
   obtain ⟨f,E,ht⟩:=hD.four c;obtain ⟨bb,o,q1,q2⟩:=bK (i:=3) (P:=SlO s 1 (intsV w)) M rfl aR (j:=3) (v:=.int .i64 f) (by simp only [intsV,List.getElem?_map,E];rfl);rw [q1];refine inB_in (by omega) (by omega) ⟨f,by rw [add_at];exact q2,?_⟩;refine bQ (i:=4) M rfl (eX (c:=3) (by omega)) ?_;refine rD M (hhas _ _ _ ht) hj λA8 O=>?_;have hw:=hT.leaves _ f ht (atP p 3) hj.1 hj.2;rw [show p / 512*512+atP p 3=p by simp only [atP];omega] at hw;cases Z:lf p with
   | none=>
    rw [Z] at hw;have hw:W f (atP p 3)=0:=hw;rw [hw];exact bsel_f rfl ⟨rfl,oQ hi O⟩
   | some x=>
    rw [Z] at hw;rw [(lI hw (hT.rangeL _ _ Z)).1];exact aG rfl (h6 p0 p1 f0 f1 (by simp_all) A8 (O.sub (List.Sublist.cons_cons _ (List.Sublist.cons_cons _ (List.Sublist.cons_cons _ ((List.sublist_cons_self _ _).trans (List.sublist_cons_self _ _)))))))
  .have c:w.length<4:=by simp [hl] at c;omega
   refine ⟨?_,oQ hi M⟩;cases Z:lf p with
   | none=>rfl
   | some x=>exact absurd (hD.no c) (hT.chain ⟨p0,p1⟩ Z _ c)
 intro A8 ⟨hno,O⟩;have hroom:0<=nd.quo-nd.use-nd.lent:=by have:=hnd.room;omega
 have O:Own (taken r fr hs W b F G n t ns i nd []++SlO Sl.nil 1 (intsV [])::SlO s 1 (intsV w)::At J (bS p)::R) A8:=(Own.nilO (sz:=1) O).unrot4;have hpos:=hD.pos
 refine ⟨λL x m h'=>∃ (tk:List Int) (W1:Int->Int->Int),x=tk.length/\w.length+tk.length<=4/\4-w.length-tk.length=m/\L.len=tk.length/\(L.a=none->tk=[])/\tk.Nodup/\(∀ x ∈ tk,F x)/\(∀ f,f ∉ tk->W1 f=W f)/\(∀ f ∈ tk,∀ j,W1 f j=0)/\
  (tk.length:Int)<=nd.quo-nd.use-nd.lent/\(tk.length:Int)<=n/\Own (taken r fr hs W1 b F G n t ns i nd tk++SlO L 1 (intsV tk)::SlO s 1 (intsV w)::At J (bS p)::R) h',
  ⟨_,[],W,rfl,by simp;omega,rfl,rfl,λ_=>rfl,List.nodup_nil,λx Z=>by simp at Z,λ_ _=>rfl,λf E=>by simp at E,by simp;omega,by simp;omega,O⟩,?_⟩
 intro L x m A9 ⟨tk,W1,i1,i2,i3,i4,i5,i6,i7,i8,i9,i10,i11,hA9⟩;subst i1 i3;rw [w64 (n:=(4:Int)-Int.ofNat s.len) (by simp [hl];omega) (by simp [hl];omega)];apply bsel_in
 .intro d;have d:w.length+tk.length<4:=by simp [hl] at d;omega
  refine l5 hA9 hi hlv hF (λc2=>aG rfl ?_) (λc2 T A10 y=>aG rfl ?_) λc2 T f A10 E hfn y=>bsel_f rfl ?_
  .exact zN hA9 hi hlv hnd.use hFG i7 i6 (by omega) λS hA=>hbad p0 p1 f0 f1 hno w 8 W1 S hD (.inl ⟨rfl,by omega,by omega⟩) (λf E=>i8 f λhm=>E (i7 f hm)) (hA.sub (List.Sublist.cons_cons _ (List.Sublist.cons_cons _ (List.Sublist.cons_cons _ ((List.sublist_cons_self _ _).trans (List.sublist_cons_self _ _))))))
  .exact zN y hi hlv hnd.use hFG i7 i6 (by omega) λS hA=>hbad p0 p1 f0 f1 hno w 7 W1 S hD (.inr ⟨rfl,by omega,by omega⟩) (λf E=>i8 f λhm=>E (i7 f hm)) (hA.sub (List.Sublist.cons_cons _ (List.Sublist.cons_cons _ (List.Sublist.cons_cons _ ((List.sublist_cons_self _ _).trans (List.sublist_cons_self _ _))))))
  refine aT (cs:=intsV [f]) y λb48 V D=>?_;have D:Own (SlAt ⟨some ⟨b48,0,none⟩,1,1⟩ 1 (intsV [f])::(taken r fr hs (zeroW W1 f) b F G n t ns i nd (tk++[f])++SlO L 1 (intsV tk)::SlO s 1 (intsV w)::At J (bS p)::R)) V:=D.imp λB hB=>(qH (k:=1) (sz:=1) rfl hB).look;have D:Own (SlO L 1 (intsV tk)::SlAt ⟨some ⟨b48,0,none⟩,1,1⟩ 1 (intsV [f])::(taken r fr hs (zeroW W1 f) b F G n t ns i nd (tk++[f])++SlO s 1 (intsV w)::At J (bS p)::R)) V:=D.pick 4 rfl;refine nX (i:=0) D rfl (λq=>by cases q) (λq=>by rw [i5 q];rfl) rfl (λv hv=>?_) ⟨by simp only [i4];omega,by simp only [i4];omega⟩ λs' A12 j1 j2 H=>?_
  .simp [intsV] at hv;subst hv;rfl
  rw [<-iJ] at H;have hlf:(tk++[f]).length=tk.length+1:=by simp
  refine ⟨4-w.length-(tk.length+1),by omega,tk++[f],zeroW W1 f,by rw [hlf,w64 (by omega) (by omega)];omega,by omega,by omega,by rw [hlf];simp only [j1,i4],λq=>by have:=j2 q;simp [intsV] at this,?_,λx Z=>?_,λg hg=>?_,λg hg j=>?_,by omega,by omega,?_⟩
  .grind
  .grind
  .simp only [List.mem_append,List.mem_singleton,not_or] at hg;rw [eK hg.2];exact i8 g hg.1
  .unfold zeroW;split
   .rfl
   .simp_all
  .exact Own.unrot4 (H.sub (List.Sublist.cons_cons _ (List.sublist_cons_self _ _)))
 intro d;have d:w.length+tk.length=4:=by simp [hl] at d;omega
 have hft:∀ k q f,tab k q=some f->f ∉ tk:=λk q f E hm=>hFG f (i7 f hm) (hTG k q f E)
 refine ⟨λI x m h'=>∃ (c:Nat) (u:List Int) (W2:Int->Int->Int) (tab1:Tab),x=c/\c<=tk.length/\tk.length-c=m/\u.length=w.length+c/\Way W root tab lf p tk W2 tab1 u/\I.len=u.length/\I.a≠none/\
  (∀ f ∈ tk.drop c,(∀ k q,tab1 k q≠some f)/\∀ j,W2 f j=0)/\Own (taken r fr hs W2 b F G n t ns i nd tk++SlO I 1 (intsV u)::SlO L 1 (intsV tk)::At J (bS p)::R) h',
  ⟨_,0,w,W1,tab,rfl,by omega,rfl,rfl,⟨hT.congr λk q f E=>i8 f (hft k q f E),hD,λ_ _ _ h=>h,λ_ _ _ h=>.inl h,λf E _=>i8 f E,λj _=>by rw [i8 root (hft 0 0 root ((hT.root 0 root).2 ⟨rfl,rfl⟩))]⟩,hl,hsa,λf E=>⟨λk q e=>hft k q f e E,i9 f E⟩,
   hA9.cons λC hC=>hC.cons λC hC=>hC.cons λC hC=>hC.swap⟩,?_⟩
 intro I x m A10 ⟨c,u,W2,tab1,k1,k2,k3,k4,z,k5,k6,k7,y⟩;subst k1 k3
 have X:∀ k q f,tab1 k q=some f->hasF fr hs f=true:=λk q f E=>by
  rcases z.new k q f E with h | h
  .grind
  .simp_all
 apply bsel_in
 .intro T;have T:c<tk.length:=by simp [i4] at T;omega
  obtain ⟨g,hg⟩:∃ g,tk[c]? = some g:=⟨tk[c],by simp [T]⟩;have hgm:g ∈ tk:=List.mem_of_getElem? hg
  have hdr:tk.drop c=g::tk.drop (c+1):=by
   rw [List.drop_eq_getElem_cons T];have:=(List.getElem?_eq_some_iff.1 hg).2;rw [this]
  have hll:u.length<4:=by omega
  obtain ⟨f,E⟩:∃ f,u[u.length-1]? = some f:=⟨u[u.length-1],by simp⟩;have Y:=z.down.is (u.length-1) (by omega);rw [E] at Y;have hwr:IntKind.wrap .i64 (Int.ofNat I.len-1)=((u.length-1:Nat):Int):=by rw [k5,w64]<;>simp<;>omega
  obtain ⟨bb,o,q1,q2⟩:=bK (i:=4) (P:=SlO L 1 (intsV tk)) y rfl aR (j:=c) (v:=.int .i64 g) (by simp only [intsV,List.getElem?_map,hg];rfl);obtain ⟨bc,o2,q3,q4⟩:=bK (i:=3) (P:=SlO I 1 (intsV u)) y rfl aR (j:=u.length-1) (v:=.int .i64 f) (by simp only [intsV,List.getElem?_map,E];rfl);rw [hwr,q1,q3];obtain ⟨g0',gz⟩:=k7 g (by simp_all);have hgr:=hB0.free (i7 g hgm);obtain ⟨_,e2,e3,_,_⟩:=bN ⟨p0,p1⟩ (k:=u.length-1) (by omega);refine inB_in (by omega) (by omega) ⟨g,by rw [add_at];simpa using q2,?_⟩;refine inB_in (by omega) (by omega) ⟨f,by rw [add_at];simpa using q4,?_⟩;refine inB_in (by omega) (by omega) ?_;refine bQ (i:=5) y rfl (by rw [show 0+Int.toNat ((u.length-1:Nat):Int)*1=u.length-1 by omega];exact eX (by omega)) ?_;refine kW y (X _ _ _ Y) ⟨e2,e3⟩ hgr λV D=>?_;have hstep:=z.step ⟨p0,p1⟩ hll E hgm g0' (λj _ _=>gz j) hgr;refine aT (cs:=intsV [g]) D λb64 A12 H=>?_;have H:Own (SlAt ⟨some ⟨b64,0,none⟩,1,1⟩ 1 (intsV [g])::(taken r fr hs (setW W2 f (atP p (u.length-1)) (aJG g)) b F G n t ns i nd tk++SlO I 1 (intsV u)::SlO L 1 (intsV tk)::At J (bS p)::R)) A12:=H.imp λB hB=>(qH (k:=1) (sz:=1) rfl hB).look;have H:Own (SlO I 1 (intsV u)::SlAt ⟨some ⟨b64,0,none⟩,1,1⟩ 1 (intsV [g])::(taken r fr hs (setW W2 f (atP p (u.length-1)) (aJG g)) b F G n t ns i nd tk++SlO L 1 (intsV tk)::At J (bS p)::R)) A12:=H.pick 4 rfl;refine nX (i:=0) H rfl (λq=>by cases q) (λq=>absurd q k6) rfl (λv hv=>?_) ⟨by simp only [k5];omega,by simp only [k5];omega⟩ λs' A13 j1 j2 hA13=>?_
  .simp [intsV] at hv;subst hv;rfl
  rw [<-iJ] at hA13;have hlf:(u++[g]).length=u.length+1:=by simp
  refine ⟨tk.length-(c+1),by omega,c+1,u++[g],_,_,by rw [w64]<;>omega,by omega,rfl,by omega,hstep,by rw [hlf];simp only [j1,k5],λq=>by have:=j2 q;simp [intsV] at this,λf' hf'=>?_,Own.unrot4 (hA13.sub (List.Sublist.cons_cons _ (List.sublist_cons_self _ _)))⟩
  have hne:f'≠g:=λe=>by
   have:=i6.sublist (List.drop_sublist c tk);rw [hdr] at this;exact (List.nodup_cons.1 this).1 (e ▸ hf')
  obtain ⟨m1,m2⟩:=k7 f' (by simp_all);refine ⟨λk q e=>?_,λj=>?_⟩
  .unfold setT at e;split at e
   .simp_all
   .simp_all
  .have hnf:f'≠f:=λe=>m1 _ _ (e ▸ Y);rw [bX hnf];exact m2 j
 intro T;have T:c=tk.length:=by simp [i4] at T;omega
 obtain ⟨f,E,ht⟩:=z.down.four (by omega)
 obtain ⟨a,ha⟩:∃ a,I.a=some a:=by
  cases e:I.a with
  | none=>exact absurd e k6
  | some a=>exact ⟨a,rfl⟩
 have ld3:∀ B,Own (taken r fr hs W2 b F G n t ns i nd tk++SlO I 1 (intsV u)::SlO L 1 (intsV tk)::At J (bS p)::R) B->∀ K:Int->Prop,K f->aI .i64 (Addr.add a 3) B K:=by
  intro B hB K hK;obtain ⟨bb,o,q1,q2⟩:=bK (i:=3) (P:=SlO I 1 (intsV u)) hB rfl aR (j:=3) (v:=.int .i64 f) (by simp only [intsV,List.getElem?_map,E];rfl);rw [q1] at ha;cases ha;exact ⟨f,by rw [add_at];exact q2,hK⟩
 rw [ha];refine inB_in (by omega) (by omega) (ld3 _ y _ ?_);refine bQ (i:=5) y rfl (eX (c:=3) (by omega)) ?_;unfold qeu_A;refine ⟨bQ (i:=5) y rfl (eX (c:=3) (by omega)) rfl,ld3 _ y _ rfl,kW y (X _ _ _ ht) hj ⟨f0,f1⟩ λV D=>?_⟩;have hleaf:=z.ok.leaf (o:=some ⟨N,pw,pu,px⟩) ht p0 (λl hl=>by cases hl;exact ⟨f0,f1⟩);refine hk p0 p1 f0 f1 hno w tk _ tab1 V hD d i10 i11 i6 i7 hleaf z.old z.new (λg hg1 hg2=>?_) (λj hj=>?_) (D.sub (List.Sublist.cons_cons _ (List.Sublist.cons_cons _ (List.Sublist.cons_cons _ ((List.sublist_cons_self _ _).trans ((List.sublist_cons_self _ _).trans (List.sublist_cons_self _ _)))))))
 .have hne:g≠f:=λe=>by
   rw [e] at hg1 hg2;rcases z.new _ _ _ ht with h3 | h3
   .simp_all
   .simp_all
  rw [bX hne];exact z.other g hg1 hg2
 .have hne:root≠f:=λe=>by
   have h0:tab1 0 0=some f:=(z.ok.root 0 f).2 ⟨rfl,e.symm⟩;have:=(z.ok.apart _ _ _ _ _ ht h0).1;omega
  rw [bX hne];exact z.hi j hj
end Go.Dn
namespace Go.Dn
variable {l:List SP} {W W':Int->Int->Int} {G G':Int->Prop} {nd:Nd} {root:Int} {tab:Tab} {lf:Int->Option Lf} {tl:List Int}
structure Rest (G:Int->Prop) (W:Int->Int->Int) (root:Int) (tab:Tab) (lf:Int->Option Lf) (tl:List Int):Prop where
 T:TabW W root tab lf
 pr:∀ p x,lf p=some x->0<=p/\p<34359738368
 low:∀ k q f,tab k q=some f->1<=k->∃ p x,lf p=some x/\preP p k=q
 nd:tl.Nodup
 mem:∀ f,f ∈ tl↔∃ k q,tab k q=some f
 inG:∀ f ∈ tl,G f
theorem Rest.tg (h:Rest G W root tab lf tl) {k:Nat} {q f:Int} (e:tab k q=some f):G f:=h.inG f ((h.mem f).2 ⟨k,q,e⟩)
theorem Rest.keep (h:Rest G W root tab lf tl) (a:∀ f ∈ tl,W' f=W f) (b:∀ f ∈ tl,G' f):Rest G' W' root tab lf tl:=
 ⟨h.T.congr λk q f e=>a f ((h.mem f).2 ⟨k,q,e⟩),h.pr,h.low,h.nd,h.mem,b⟩
theorem gO {α:Type} [DecidableEq α] {l:List α}:∀ {m:List α},m.Nodup->(∀ x ∈ m,x ∈ l)->m.length<=l.length
 | [],_,_=>Nat.zero_le _
 | x::m,nd,h=>by
  obtain ⟨b,c⟩:=List.nodup_cons.1 nd;have a:=h x List.mem_cons_self;have:=gO (l:=l.erase x) c λy d=>(List.mem_erase_of_ne (λe:y=x=>b (by simp_all))).2 (h y (List.mem_cons_of_mem _ d));rw [List.length_erase_of_mem a] at this;have:0<l.length:=List.length_pos_of_mem a;simp only [List.length_cons];omega
theorem zK {a c:Int} {j k:Nat} (d:k<=4) (b:j<=k) (h:preP a k=preP c k) (e:0<=a/\a<34359738368) (f:0<=c/\c<34359738368):preP a j=preP c j:=by
 obtain rfl | rfl | rfl | rfl | rfl:k=0\/k=1\/k=2\/k=3\/k=4:=by omega
 all_goals
  obtain rfl | rfl | rfl | rfl | rfl:j=0\/j=1\/j=2\/j=3\/j=4:=by omega
 all_goals simp only [preP] at h ⊢
 all_goals omega
def iR (tab:Tab) (p:Int):Nat:=(if tab 1 (preP p 1)=none then 1 else 0)+(if tab 2 (preP p 2)=none then 1 else 0)+(if tab 3 (preP p 3)=none then 1 else 0)
theorem TabW.upN (h:TabW W root tab lf) {p:Int} (b:0<=p/\p<34359738368) {k:Nat} (c:k<4) (d:tab k (preP p k)=none):tab (k+1) (preP p (k+1))=none:=by
 cases e:tab (k+1) (preP p (k+1)) with
 | none=>rfl
 | some g=>
  obtain ⟨g',a,_⟩:=h.up _ _ _ e;obtain ⟨e1,f,i,_⟩:=bN b c;rw [show preP p (k+1) / 512=preP p k by omega,d] at a;cases a
theorem DownOK.need (h:TabW W root tab lf) {p:Int} (j:0<=p/\p<34359738368) {a:List Int} (e:DownOK tab p a):iR tab p+a.length=4:=by
 have m:=e.pos;have n:=e.le;have b:∀ c,c<a.length->tab c (preP p c)≠none:=λc k=>by rw [e.is c k];simp [k]
 unfold iR;obtain f | f | f | f:a.length=1\/a.length=2\/a.length=3\/a.length=4:=by omega
 .have g:tab 1 (preP p 1)=none:=by have:=e.no (by omega);rw [f] at this;exact this
  have d:=h.upN j (by omega) g;have i:=h.upN j (by omega) d;rw [if_pos g,if_pos d,if_pos i];omega
 .have g:=b 1 (by omega);have d:tab 2 (preP p 2)=none:=by have:=e.no (by omega);rw [f] at this;exact this
  have i:=h.upN j (by omega) d;rw [if_neg g,if_pos d,if_pos i];omega
 .have g:=b 1 (by omega);have d:=b 2 (by omega);have i:tab 3 (preP p 3)=none:=by have:=e.no (by omega);rw [f] at this;exact this
  rw [if_neg g,if_neg d,if_pos i];omega
 .simp_all
theorem Rest.map (h:Rest G W root tab lf tl) {p:Int} {x:Lf} {b:Tab} {d tk:List Int} (N:0<=p) (O:p<34359738368) (u:lf p=none) (P:DownOK tab p d) (Q:d.length+tk.length=4) (D:tk.Nodup) (E:∀ y ∈ tk,¬G y)
  (F:TabW W' root b (setL lf p (some x))) (R:∀ k q f,tab k q=some f->b k q=some f) (i:∀ k q f,b k q=some f->tab k q=some f\/(f ∈ tk/\q=preP p k/\1<=k/\k<=3)) :
  Rest (λy=>G y\/y ∈ tk) W' root b (setL lf p (some x)) (tl++tk):=by
 have v:∀ m y,lf m=some y->setL lf p (some x) m=some y:=λm y e=>by
  unfold setL;rw [if_neg (λg=>by rw [g,u] at e;cases e)];exact e
 have r:setL lf p (some x) p=some x:=by unfold setL;rw [if_pos rfl]
 have s:∀ k,k<4->∃ f,b k (preP p k)=some f:=λk w=>by
  have:=F.chain ⟨N,O⟩ r k w;cases e:b k (preP p k) with
  | none=>exact absurd e this
  | some f=>exact ⟨f,rfl⟩
 refine ⟨F,λm y e=>?_,λk q f e w=>?_,List.nodup_append.2 ⟨h.nd,D,λa U c V e=>?_⟩,λf=>?_,λf n=>?_⟩
 .unfold setL at e;split at e
  .omega
  .exact h.pr m y e
 .rcases i k q f e with e | ⟨_,e,_⟩
  .obtain ⟨m,y,H,I⟩:=h.low k q f e w;exact ⟨m,y,v m y H,I⟩
  .grind
 .subst e;exact E a V (h.inG a U)
 .rw [List.mem_append,h.mem];constructor
  .rintro (⟨k,q,e⟩ | n)
   .grind
   .-- the new tables are all of them there: as many as places
    have h0:=P.pos
    have key:∀ k,k<4->d.length<=k->∃ g,b k (preP p k)=some g/\g ∈ tk:=λk w X=>by
     obtain ⟨g,t⟩:=s k w;refine ⟨g,t,?_⟩;rcases i k _ g t with e | ⟨e,_⟩
     .have:tab k (preP p k)=none:=by
       have Y:=P.no (by omega)
       have:∀ j,d.length+j<5->tab (d.length+j) (preP p (d.length+j))=none:=λj=>by
        induction j with
        | zero=>intro _;exact Y
        | succ j ih=>intro hj;exact h.T.upN (k:=d.length+j) ⟨N,O⟩ (by omega) (ih (by omega))
       have:=this (k-d.length) (by omega);rwa [show d.length+(k-d.length)=k by omega] at this
      rw [this] at e;cases e
     .exact e
    have S:∀ j k g,b j (preP p j)=some g->b k (preP p k)=some g->j=k:=λj k g H I=>(F.apart _ _ _ _ _ H I).1
    -- the list of the path's new tables is as long as tk and within it
    obtain ⟨o,T,z,A⟩:∃ o:List Int,o.length=tk.length/\o.Nodup/\∀ g ∈ o,g ∈ tk/\∃ k q,b k q=some g:=by
     obtain u | u | u | u:d.length=1\/d.length=2\/d.length=3\/d.length=4:=by omega
     .obtain ⟨Z,a1,b1⟩:=key 1 (by omega) (by omega);obtain ⟨J,a2,b2⟩:=key 2 (by omega) (by omega);obtain ⟨B,K,L⟩:=key 3 (by omega) (by omega);refine ⟨[Z,J,B],by simp;omega,?_,?_⟩
      .grind
      .grind
     .obtain ⟨J,a2,b2⟩:=key 2 (by omega) (by omega);obtain ⟨B,K,L⟩:=key 3 (by omega) (by omega);refine ⟨[J,B],by simp;omega,?_,?_⟩
      .grind
      .grind
     .obtain ⟨B,K,L⟩:=key 3 (by omega) (by omega);refine ⟨[B],by simp;omega,by simp,?_⟩;intro g t;simp only [List.mem_singleton] at t;subst t;exact ⟨L,_,_,K⟩
     .simp_all
    by_cases hm:f ∈ o
    .simp_all
    .-- then o is within tk cI f: too short
     exfalso;have C:∀ g ∈ o,g ∈ tk.erase f:=λg t=>(List.mem_erase_of_ne (λe:g=f=>hm (by simp_all))).2 (A g t).1;have M:o.length<=(tk.erase f).length:=gO z C;rw [List.length_erase_of_mem n] at M;have:0<tk.length:=List.length_pos_of_mem n;omega
  .grind
 .rcases List.mem_append.1 n with n | n
  .exact .inl (h.inG f n)
  .exact .inr n
theorem Rest.prot (h:Rest G W root tab lf tl) {p f:Int} {x y:Lf} (c:lf p=some x) (i:tab 3 (p / 512)=some f) (j:y.frame=x.frame):Rest G (setW W f (p % 512) (aH9 y)) root tab (setL lf p (some y)) tl:=by
 have b:=h.pr p x c;refine ⟨h.T.leaf (o:=some y) i b.1 λz e=>?_,λa z e=>?_,λk q g e m=>?_,h.nd,h.mem,h.inG⟩
 .cases e;rw [j];exact h.T.rangeL _ _ c
 .unfold setL at e;split at e
  .omega
  .exact h.pr a z e
 .obtain ⟨a,z,n,d⟩:=h.low k q g e m;by_cases g:a=p
  .subst g;exact ⟨a,y,by unfold setL;rw [if_pos rfl],d⟩
  .exact ⟨a,z,by unfold setL;rw [if_neg g];exact n,d⟩
theorem Rest.unmap (h:Rest G W root tab lf tl) {p:Int} {x:Lf} {a:List Int} {v:Nat} (Y:lf p=some x) (Z:DownOK tab p a) (n:a.length=4) (hv:v<=3) (K:TabW W' root (cutT tab p v) (setL lf p none))
  (Q:v=0\/∃ f j,a[v]? = some f/\0<=j/\j<512/\W' f j≠0):Rest (λy=>G y/\y ∉ gone a v) W' root (cutT tab p v) (setL lf p none) (tl.filter λy=>decide (y ∉ gone a v)):=by
 have r:=h.pr p x Y;have A:∀ b y,b≠p->lf b=some y->setL lf p none b=some y:=λb y g e=>by unfold setL;rw [if_neg g];exact e
 have s:∀ c,c<4->∃ g,a[c]? = some g/\tab c (preP p c)=some g:=λc d=>by
  refine ⟨a[c],by simp [n,d],?_⟩;rw [Z.is c (by omega)];simp [n,d]
 have i:∀ y,y ∈ gone a v↔∃ k,v<k/\k<=3/\tab k (preP p k)=some y:=λy=>by
  unfold gone;rw [List.mem_iff_getElem?];constructor
  .rintro ⟨j,F⟩;rw [List.getElem?_drop] at F;have hlt:=(List.getElem?_eq_some_iff.1 F).1;obtain ⟨g,B,u⟩:=s (v+1+j) (by omega);rw [B] at F;cases F;exact ⟨v+1+j,by omega,by omega,u⟩
  .rintro ⟨k,k1,k2,H⟩;obtain ⟨g,B,u⟩:=s k (by omega);rw [u] at H;cases H;exact ⟨k-(v+1),by rw [List.getElem?_drop,show v+1+(k-(v+1))=k by omega];exact B⟩
 have o:∀ k q f,cutT tab p v k q=some f↔tab k q=some f/\f ∉ gone a v:=λk q f=>by
  unfold cutT;constructor
  .intro e;split at e
   .cases e
   .rename_i g;refine ⟨e,λL=>?_⟩;obtain ⟨k',k1,k2,H⟩:=(i f).1 L;obtain ⟨e1,R⟩:=h.T.apart _ _ _ _ _ e H;exact g ⟨by omega,by rw [R,e1]⟩
  .rintro ⟨e,L⟩;split
   .rename_i g;exfalso
    have C:k<=3:=by
     rcases Nat.lt_or_ge 3 k with z | z
     .rw [h.T.deep k q z] at e;cases e
     .exact z
    exact L ((i f).2 ⟨k,g.1,C,by rw [<-g.2];exact e⟩)
   .exact e
 refine ⟨K,λb y e=>?_,λk q f e hk=>?_,h.nd.filter _,λf=>?_,λf M=>?_⟩
 .unfold setL at e;split at e
  .cases e
  .exact h.pr b y e
 .obtain ⟨e1,R⟩:=(o k q f).1 e;obtain ⟨b,y,h1,S⟩:=h.low k q f e1 hk;by_cases g:b=p
  .subst g
   have C:k<=3:=by
    rcases Nat.lt_or_ge 3 k with z | z
    .rw [h.T.deep k q z] at e1;cases e1
    .exact z
   have N:k<=v:=by grind
   rcases Q with Q | ⟨g,j,B,u,T,U⟩
   .omega
   .obtain ⟨g',D,ht⟩:=s v (by omega);rw [B] at D;cases D;have hv0:1<=v:=by omega
    have E:cutT tab b v v (preP b v)=some g:=by unfold cutT;rw [if_neg (by omega)];exact ht
    obtain ⟨_,_,_,_,V⟩:=bN r (k:=v) (by omega);rcases Nat.lt_or_ge v 3 with I | I
    .have O:=λz=>U ((K.word0 I E ⟨u,T⟩ (λe=>by omega)).2 z);cases d:cutT tab b v (v+1) (preP b v*512+j) with
     | none=>exact absurd d O
     | some g5=>
      obtain ⟨c1,c2⟩:=(o _ _ _).1 d;obtain ⟨J,w,X,d2⟩:=h.low _ _ _ c1 (by omega);have t:J≠b:=λe=>by grind
      have m:=h.pr J w X;refine ⟨J,w,A J w t X,?_⟩;rw [<-S];refine zK (k:=v) (by omega) N ?_ m r;obtain ⟨s1,s2,s3,_⟩:=bN m (k:=v) (by omega);omega
    .have I:v=3:=by omega
     subst I;have O:=λz=>U ((K.wordL0 E ⟨u,T⟩).2 z);cases d:setL lf b none (preP b 3*512+j) with
     | none=>exact absurd d O
     | some w=>
      have t:preP b 3*512+j≠b:=λe=>by unfold setL at d;rw [if_pos e] at d;cases d
      have P:lf (preP b 3*512+j)=some w:=by unfold setL at d;rw [if_neg t] at d;exact d
      have m:=h.pr _ _ P;refine ⟨_,w,d,?_⟩;rw [<-S];refine zK (k:=3) (by omega) (by omega) ?_ m r;simp only [preP];omega
  .grind
 .rw [List.mem_filter,h.mem,decide_eq_true_eq];constructor
  .simp_all
  .simp_all
 .rw [List.mem_filter,decide_eq_true_eq] at M;exact ⟨h.inG f M.1,M.2⟩
end Go.Dn
namespace Go.Dn
variable {W:Int->Int->Int} {G:Int->Prop} {root:Int} {tab:Tab} {lf:Int->Option Lf} {tl:List Int} {ps qs:List Int} {p:Int}
def newD (d:Int) (ps:List Int) (p:Int):Nat:=if ps.any (λq=>q / d==p / d) then 0 else 1
def eN (ps:List Int) (p:Int):Nat:=newD 134217728 ps p+newD 262144 ps p+newD 512 ps p
def tabsN:List Int->Nat
 | []=>1
 | p::r=>tabsN r+eN r p
theorem tU {d:Int} (h:ps.Perm qs):newD d ps p=newD d qs p:=by
 unfold newD;rw [h.any_eq]
theorem aD0 (h:ps.Perm qs):eN ps p=eN qs p:=by
 unfold eN;rw [tU h,tU h,tU h]
theorem zX {d a:Int}:newD d (a::ps) p=if a / d=p / d then 0 else newD d ps p:=by
 unfold newD;by_cases e:a / d=p / d
 .simp_all
 .simp_all
theorem uC {d a b:Int}:newD d (b::ps) a+newD d ps b=newD d (a::ps) b+newD d ps a:=by
 rw [zX,zX];by_cases e:a / d=b / d
 .have:newD d ps a=newD d ps b:=by unfold newD;rw [e]
  rw [if_pos e,if_pos e.symm,this]
 .grind
theorem aDD {a b:Int}:eN (b::ps) a+eN ps b=eN (a::ps) b+eN ps a:=by
 unfold eN;have c:=uC (ps:=ps) (d:=134217728) (a:=a) (b:=b);have e:=uC (ps:=ps) (d:=262144) (a:=a) (b:=b);have f:=uC (ps:=ps) (d:=512) (a:=a) (b:=b);omega
theorem xJ (h:ps.Perm qs):tabsN ps=tabsN qs:=by
 induction h with
 | nil=>rfl
 | cons x h ih=>simp only [tabsN,ih,aD0 h]
 | swap x y l=>
  have:=aDD (ps:=l) (a:=x) (b:=y);simp only [tabsN];omega
 | trans _ _ i1 i2=>rw [i1,i2]
theorem aAv:∀ ps:List Int,1<=tabsN ps
 | []=>Nat.le_refl _
 | _::r=>Nat.le_trans (aAv r) (Nat.le_add_right _ _)
theorem oC {d:Int}:newD d ps p<=1:=by unfold newD;split<;>omega
theorem aGG:eN ps p<=3:=by
 unfold eN;have:=oC (ps:=ps) (p:=p) (d:=134217728);have:=oC (ps:=ps) (p:=p) (d:=262144);have:=oC (ps:=ps) (p:=p) (d:=512);omega
theorem fY {d:Int}:newD d ps p=0↔∃ q ∈ ps,q / d=p / d:=by
 unfold newD;by_cases e:ps.any (λq=>q / d==p / d)=true
 .simp_all
 .simp_all
theorem Rest.tab_iff (h:Rest G W root tab lf tl) (a:∀ p,p ∈ ps↔lf p≠none) {k:Nat} (d:1<=k/\k<=3) {q:Int}:tab k q≠none↔∃ p ∈ ps,preP p k=q:=by
 constructor
 .intro e;obtain ⟨f,g⟩:=Option.ne_none_iff_exists'.1 e;obtain ⟨p,x,b,i⟩:=h.low k q f g d.1;exact ⟨p,(a p).2 (by simp_all),i⟩
 .rintro ⟨p,b,rfl⟩;obtain ⟨x,c⟩:=Option.ne_none_iff_exists'.1 ((a p).1 b);exact h.T.chain (h.pr p x c) c k (by omega)
theorem Rest.need (h:Rest G W root tab lf tl) (g:∀ p,p ∈ ps↔lf p≠none):iR tab p=eN ps p:=by
 have one:∀ (k:Nat) (d:Int),1<=k/\k<=3->(∀ q,preP q k=q / d)->(if tab k (preP p k)=none then 1 else 0)=newD d ps p:=λk d i a=>by
  have f:=h.tab_iff g i (q:=preP p k);by_cases e:tab k (preP p k)=none
  .rw [if_pos e];have:=oC (ps:=ps) (p:=p) (d:=d)
   have:newD d ps p≠0:=λz=>by
    obtain ⟨q,b,c⟩:=fY.1 z;exact f.2 ⟨q,b,by rw [a,a];exact c⟩ e
   omega
  .rw [if_neg e];obtain ⟨q,b,c⟩:=f.1 e;exact (fY.2 ⟨q,b,by rw [<-a,<- a];exact c⟩).symm
 unfold iR eN;rw [one 1 134217728 (by omega) (λ_=>rfl),one 2 262144 (by omega) (λ_=>rfl),one 3 512 (by omega) (λ_=>rfl)]
def plN:List Int->List (Nat × Int)
 | []=>[(0,0)]
 | p::r=>([(1,134217728),(2,262144),(3,512)].flatMap λkd:Nat × Int=>if newD kd.2 r p=0 then [] else [(kd.1,p / kd.2)])++plN r
theorem aFi:∀ ps:List Int,(plN ps).length=tabsN ps
 | []=>rfl
 | p::r=>by
  have a:=aFi r
  have one:∀ (k:Nat) (d:Int),(if newD d r p=0 then [] else [(k,p / d)]:List (Nat × Int)).length=newD d r p:=λk d=>by
   have:=oC (ps:=r) (p:=p) (d:=d);split<;>simp<;>omega
  simp only [plN,List.flatMap_cons,List.flatMap_nil,List.append_nil,List.length_append,one,a,tabsN,eN];omega
theorem plN_mem:∀ (ps:List Int) (k:Nat) (q:Int),(k,q) ∈ plN ps↔(k=0/\q=0)\/((1<=k/\k<=3)/\∃ p ∈ ps,preP p k=q)
 | [],k,q=>by simp [plN]
 | p::r,k,q=>by
  have f:=plN_mem r k q
  have one:∀ (j:Nat) (d:Int),(k,q) ∈ (if newD d r p=0 then [] else [(j,p / d)]:List (Nat × Int))↔(k=j/\q=p / d)/\∀ x ∈ r,x / d≠p / d:=λj d=>by
   by_cases e:newD d r p=0
   .rw [if_pos e];obtain ⟨x,a,b⟩:=fY.1 e;simp only [List.not_mem_nil,false_iff];exact λz=>z.2 x a b
   .rw [if_neg e];simp only [List.mem_singleton,Prod.mk.injEq];exact ⟨λz=>⟨z,λx a b=>e (fY.2 ⟨x,a,b⟩)⟩,λz=>z.1⟩
  simp only [plN,List.flatMap_cons,List.flatMap_nil,List.append_nil,List.mem_append,one,f,List.mem_cons,exists_eq_or_imp];constructor
  .rintro ((⟨⟨rfl,rfl⟩,_⟩ | ⟨⟨rfl,rfl⟩,_⟩ | ⟨⟨rfl,rfl⟩,_⟩) | h | ⟨g,c⟩)
   .exact .inr ⟨by omega,.inl rfl⟩
   .exact .inr ⟨by omega,.inl rfl⟩
   .exact .inr ⟨by omega,.inl rfl⟩
   .exact .inl h
   .simp_all
  .rintro (h | ⟨g,c | c⟩)
   .omega
   .by_cases e:∃ x ∈ r,preP x k=q
    .simp_all
    .refine .inl ?_;obtain rfl | rfl | rfl:k=1\/k=2\/k=3:=by omega
     .exact .inl ⟨⟨rfl,c.symm⟩,λx a b=>e ⟨x,a,by rw [<-c];exact b⟩⟩
     .exact .inr (.inl ⟨⟨rfl,c.symm⟩,λx a b=>e ⟨x,a,by rw [<-c];exact b⟩⟩)
     .exact .inr (.inr ⟨⟨rfl,c.symm⟩,λx a b=>e ⟨x,a,by rw [<-c];exact b⟩⟩)
   .simp_all
theorem aAl:∀ ps:List Int,(plN ps).Nodup
 | []=>by simp [plN]
 | p::r=>by
  have ih:=aAl r;rw [plN,List.nodup_append]
  have one:∀ (j:Nat) (d:Int) (k:Nat) (q:Int),(k,q) ∈ (if newD d r p=0 then [] else [(j,p / d)]:List (Nat × Int))->k=j/\q=p / d/\∀ x ∈ r,x / d≠p / d:=λj d k q hm=>by
   by_cases e:newD d r p=0
   ·simp_all
   ·rw [if_neg e] at hm;simp only [List.mem_singleton,Prod.mk.injEq] at hm;exact ⟨hm.1,hm.2,λx x1 x2=>e (fY.2 ⟨x,x1,x2⟩)⟩
  refine ⟨?_,ih,?_⟩
  ·simp only [List.flatMap_cons,List.flatMap_nil,List.append_nil];generalize newD 134217728 r p=a;generalize newD 262144 r p=b;generalize newD 512 r p=c;by_cases a0:a=0<;>by_cases b0:b=0<;>by_cases c0:c=0<;>simp [a0,b0,c0]
  ·rintro ⟨k,q⟩ h1 ⟨k',q'⟩ h2 e;cases e;simp only [List.flatMap_cons,List.flatMap_nil,List.append_nil,List.mem_append] at h1;rw [plN_mem] at h2;have fin:∀ j d,(∀ x,preP x j=x / d)->1<=j->(k=j/\q=p / d/\∀ x ∈ r,x / d≠p / d)->False:=λj d hj hj1 ⟨e1,e2,e3⟩=>by grind
   rcases h1 with h1 | h1 | h1
   ·exact fin 1 134217728 (λ_=>rfl) (by omega) (one _ _ _ _ h1)
   ·exact fin 2 262144 (λ_=>rfl) (by omega) (one _ _ _ _ h1)
   ·exact fin 3 512 (λ_=>rfl) (by omega) (one _ _ _ _ h1)
theorem qV {α β:Type} {f:α->β}:∀ {l:List α},l.Nodup->(∀ a ∈ l,∀ b ∈ l,f a=f b->a=b)->(l.map f).Nodup
 | [],_,_=>by simp
 | x::r,h,hf=>by
  rw [List.nodup_cons] at h;rw [List.map_cons,List.nodup_cons];refine ⟨λz=>?_,qV h.2 λa c b d=>hf a (List.mem_cons_of_mem _ c) b (List.mem_cons_of_mem _ d)⟩;obtain ⟨y,g,e⟩:=List.mem_map.1 z;have:=hf y (List.mem_cons_of_mem _ g) x (by simp) e;exact h.1 (by simp_all)
theorem Rest.len (h:Rest G W root tab lf tl) (d:∀ p,p ∈ ps↔lf p≠none):tl.length=tabsN ps:=by
 rw [<-aFi]
 have key:∀ k q f,tab k q=some f->(k,q) ∈ plN ps:=λk q f e=>by
  rw [plN_mem];rcases Nat.eq_zero_or_pos k with k0 | k0
  .subst k0;exact .inl ⟨rfl,((h.T.root q f).1 e).1⟩
  .have g:k<=3:=by
    rcases Nat.lt_or_ge 3 k with z | z
    .rw [h.T.deep k q z] at e;cases e
    .exact z
   exact .inr ⟨⟨k0,g⟩,(h.tab_iff d ⟨k0,g⟩).1 (by simp_all)⟩
 have back:∀ x ∈ plN ps,∃ f,tab x.1 x.2=some f:=λ⟨k,q⟩ b=>by
  rcases (plN_mem ps k q).1 b with ⟨rfl,rfl⟩ | ⟨i,j⟩
  .exact ⟨root,(h.T.root 0 root).2 ⟨rfl,rfl⟩⟩
  .exact Option.ne_none_iff_exists'.1 ((h.tab_iff d i).2 j)
 have a:∀ x ∈ plN ps,tab x.1 x.2=some ((tab x.1 x.2).getD 0):=λx b=>by grind
 refine Nat.le_antisymm ?_ ?_
 .have:=gO (l:=(plN ps).map λx=>(tab x.1 x.2).getD 0) h.nd λf c=>by
   obtain ⟨k,q,e⟩:=(h.mem f).1 c;exact List.mem_map.2 ⟨(k,q),key k q f e,by simp [e]⟩
  simpa using this
 .have m:((plN ps).map λx=>(tab x.1 x.2).getD 0).Nodup:=qV (aAl ps) λx b y n e=>by
   have e1:=a x b;have o:=a y n;rw [e] at e1;have:=h.T.apart _ _ _ _ _ e1 o;exact Prod.ext this.1 this.2
  have:=gO (l:=tl) m λf c=>by
   obtain ⟨x,b,e⟩:=List.mem_map.1 c;have:=a x b;rw [e] at this;exact (h.mem f).2 ⟨_,_,this⟩
  simpa using this
end Go.Dn
namespace Go.Dn
variable {A:AH} {l R:List SP} {t blk cap i:Nat} {ns:List Nd} {rest:List Value} {nd:Nd}
def firstDead:List Nd->Option Nat
 | []=>none
 | d::r=>if d.live then (firstDead r).map (·+1) else some 0
theorem iC:∀ {ns:List Nd} {j:Nat},firstDead ns=some j->∃ d,ns[j]? = some d/\d.live=false
 | [],j,h=>by simp [firstDead] at h
 | d::r,j,h=>by
  unfold firstDead at h;split at h
  .cases e:firstDead r with
   | none=>rw [e] at h;cases h
   | some k=>
    rw [e] at h;cases h;exact iC (ns:=r) e
  .grind
theorem wT {ns:List Nd} {v:Nat} {d:Nd} (a:ns[v]? = some d):firstDead (ns.drop v)=if d.live then (firstDead (ns.drop (v+1))).map (·+1) else some 0:=by
 obtain ⟨b,c⟩:=List.getElem?_eq_some_iff.1 a;rw [List.drop_eq_getElem_cons b,c];rfl
theorem aKB {P:SP} {k:Nat} {s:Sl} {v c:Nat} {d:Nd} {x:Value} (h:Own l A) (e:l[k]? = some P) (b:Reads P s 5 (ndCells ns)) (f:ns[v]? = some d) (g:c<5) (j:d.cells[c]? = some x):∃ a o,s.a=some ⟨a,o,none⟩/\bM A ⟨a,o+(v*5+c),none⟩=some x:=
 bK h e b (by rw [qG c f g];exact j)
theorem wX {P:SP} {k:Nat} {s:Sl} {Q:Int->AH->Prop} (h:Own l A) (e:l[k]? = some P) (hr:Reads P s 5 (ndCells ns)) (hb:ns.length<=64) (h0:firstDead ns=none->Q (-1) A) (h1:∀ j,firstDead ns=some j->Q j A) :
  qft_A s Q A:=by
 have hl:s.len=ns.length:=by have:=dV h e hr;rw [fK] at this;omega
 unfold qft_A qft_G;refine ⟨λx m h'=>∃ v:Nat,x=v/\m+v=ns.length/\h'=A/\firstDead ns=(firstDead (ns.drop v)).map (·+v),⟨ns.length,0,rfl,rfl,rfl,by rw [List.drop_zero];cases firstDead ns<;>rfl⟩,?_⟩;intro x m A1 ⟨v,e1,e2,e3,e4⟩;subst e1 e3;refine bsel_in (λc=>?_) λc=>?_
 ·have c:(v:Int)<s.len:=of_decide_eq_true c;obtain ⟨d,hd⟩:∃ d,ns[v]? = some d:=⟨ns[v]'(by omega),by simp⟩;obtain ⟨bb,o,q1,c0⟩:=aKB (c:=0) h e hr hd (by omega) rfl
  have same:∀ {c:Nat} {x:Value},c<5->d.cells[c]? = some x->bM A1 ⟨bb,o+(v*5+c),none⟩=some x:=λ{c x} hc hx=>by
   obtain ⟨b2,o2,q2,c2⟩:=aKB h e hr hd hc hx;rw [q1] at q2;cases q2;exact c2
  have ad:∀ c,Addr.add (Addr.add ⟨bb,o,none⟩ (Int.toNat (v:Int)*5)) c=⟨bb,o+(v*5+c),none⟩:=λc=>by rw [add_at,add_at,Int.toNat_natCast,Nat.add_assoc]
  rw [q1];refine inB_in (by omega) c ⟨d.par,by rw [add_at,Int.toNat_natCast];exact c0,⟨d.quo,by rw [ad];exact same (by omega) rfl,⟨d.use,by rw [ad];exact same (by omega) rfl,⟨d.lent,by rw [ad];exact same (by omega) rfl,⟨d.live,by rw [ad];exact same (by omega) rfl,?_⟩⟩⟩⟩⟩;unfold qfs_A;rw [wT hd] at e4;refine bsel_in (λg=>?_) λg=>?_
  ·simp_all
  ·have g:d.live=true:=by simpa using g
   rw [g] at e4;refine ⟨m-1,by omega,v+1,by rw [w64]<;>omega,by omega,rfl,?_⟩;rw [e4];cases firstDead (ns.drop (v+1)) with
   | none=>rfl
   | some j=>simp;omega
 ·have c:¬(v:Int)<s.len:=of_decide_eq_false c;refine h0 ?_;rw [e4,List.drop_eq_nil_of_le (by omega)];rfl
theorem xU {P:SP} {k:Nat} {s:Sl} {Q:Sl->AH->Prop} (h:Own l A) (e:l[k]? = some P) (c:Reads P s 5 (ndCells ns)) (u:ns.length<=64) (f:s.a≠none)
  (w:∀ s' j,s'.len=ns.length->(s'.a=none->ndCells ns=[])->Own (SlO s' 5 (ndCells ns)::l) j->Q s' j):qfu_A s Q A:=by
 have m:s.len=ns.length:=by have:=dV h e c;rw [fK] at this;omega
 unfold qfu_A
 refine bsel_f (by cases p:s.a with
  | none=>exact absurd p f
  | some a=>rfl) ?_
 refine aT (cs:=[]) h λq r b=>?_;have b:Own (SlO ⟨some ⟨q,0,none⟩,0,0⟩ 5 []::l) r:=b.imp λB _=>⟨⟨by simp,Nat.le_refl _⟩,.inl rfl⟩;refine dJ (i:=k) b e c (λg=>absurd g f) (λg=>by cases g) rfl (λv n=>?_) ⟨by simp only [m];omega,by simp only [m];omega⟩ λs' x y z C=>?_
 .unfold ndCells at n;obtain ⟨d,_,o⟩:=List.mem_flatMap.1 n;simp [Nd.cells] at o;rcases o with rfl | rfl | rfl | rfl | rfl<;>rfl
 .simp_all
theorem uW (a c:List Nd):ndCells (a++c)=ndCells a++ndCells c:=List.flatMap_append
theorem uM:∀ {ns:List Nd} {i:Nat} {nd:Nd} (f:Nat) (v:Value) (nd':Nd),ns[i]? = some nd->f<5->nd'.cells=nd.cells.set f v->(ndCells ns).set (i*5+f) v=ndCells (ns.set i nd')
 | [],_,_,_,_,_,e,_,_=>by simp at e
 | d::ns,0,nd,f,v,nd',e,hf,hc=>by
  simp at e;subst e;show (d.cells++ndCells ns).set (0*5+f) v=nd'.cells++ndCells ns;rw [hc,List.set_append_left _ _ (by simp [Nd.cells];omega),Nat.zero_mul,Nat.zero_add]
 | d::ns,i+1,nd,f,v,nd',e,hf,hc=>by
  have:=uM (ns:=ns) (i:=i) (nd:=nd) f v nd' (by simp_all) hf hc;show (d.cells++ndCells ns).set ((i+1)*5+f) _=d.cells++ndCells (ns.set i nd');rw [List.set_append_right _ _ (by simp [Nd.cells];omega)];rw [show (i+1)*5+f-d.cells.length=i*5+f by simp [Nd.cells];omega,this]
theorem zM {f:Nat} {v:Value} {nd':Nd} {K:AP} (h:Own (kZ t blk cap ns rest++R) A) (hi:ns[i]? = some nd) (b:f<5) (c:v.oneCell'=true) (d:nd'.cells=nd.cells.set f v) (e:∀ a,Own (kZ t blk cap (ns.set i nd') rest++R) a->K a):aC ⟨blk,i*5+f,none⟩ v A K:=by
 have j:=(List.getElem?_eq_some_iff.1 hi).1;have g:nd.cells[f]? = some (nd.cells[f]'(by simp [Nd.cells];omega)):=by simp
 refine bU (i:=1) h rfl ?_ c λa h'=>e a ?_
 .rw [lQ hi b g];rfl
 .have h':Own (At t [.slice (some ⟨blk,0,none⟩) ns.length cap]::At blk ((ndCells ns++rest).set (i*5+f) v)::R) a:=h';rw [List.set_append_left _ _ (by rw [fK];omega),uM f v nd' hi b d] at h';show Own (At t [.slice (some ⟨blk,0,none⟩) (ns.set i nd').length cap]::At blk (ndCells (ns.set i nd')++rest)::R) a;rw [List.length_set];exact h'
set_option maxHeartbeats 1000000 in
theorem aDS {q:Int} {Q:Int->Int->AH->Prop} (h:Own (TreeS t ns::R) A) (hi:ns[i]? = some nd) (L:nd.live=true) (h1:q<0->Q 0 1 A) (h8:0<=q->q > nd.quo-nd.use-nd.lent->Q 0 8 A)
  (M:0<=q->q<=nd.quo-nd.use-nd.lent->firstDead ns=none->64<=ns.length->Q 0 4 A)
  (I:0<=q->q<=nd.quo-nd.use-nd.lent->firstDead ns=none->ns.length<64->∀ A',Own (TreeS t (ns.set i { nd with lent:=nd.lent+q }++[⟨i,q,0,0,true⟩])::R) A'->Q ns.length 0 A')
  (hold:0<=q->q<=nd.quo-nd.use-nd.lent->∀ j,firstDead ns=some j->∀ A',Own (TreeS t ((ns.set i { nd with lent:=nd.lent+q }).set j ⟨i,q,0,0,true⟩)::R) A'->Q j 0 A') :
  qfv_A (some ⟨t,0,none⟩) i q Q A:=by
 obtain ⟨blk,cap,rest,⟨hlen,J⟩,N⟩:=TreeS.openH h;have hok:=J nd (List.mem_of_getElem? hi);obtain ⟨o1,o2,o3,o4⟩:=hok;have hil:=(List.getElem?_eq_some_iff.1 hi).1;unfold qfv_A qfv_G;refine xZ N hi L (bsel_f rfl (bsel_in (λc=>h1 (of_decide_eq_true c)) λc=>?_));have q0:0<=q:=Int.not_lt.1 (of_decide_eq_false c);refine xE N hi L ⟨o1,o2,o3,o4⟩ (bsel_in (λc=>h8 q0 (of_decide_eq_true c)) λc=>?_);have q1:q<=nd.quo-nd.use-nd.lent:=Int.not_lt.1 (of_decide_eq_false c);have O:∀ {ns:List Nd} {cap:Nat} {rest:List Value},Reads (At blk (ndCells ns++rest)) ⟨some ⟨blk,0,none⟩,ns.length,cap⟩ 5 (ndCells ns):=λ{ns cap rest}=>eI (by rw [fK]);refine ld_S (i:=0) N rfl rfl ?_;have hnd':({ nd with lent:=nd.lent+q }:Nd).OK:=⟨o1,by simp;omega,by simp;omega,o4⟩;have hnn:(⟨i,q,0,0,true⟩:Nd).OK:=⟨by simp,by simp,by simp;omega,by simp;omega⟩
 have K:∀ s:Int,((s = -1/\firstDead ns=none)\/∃ j:Nat,s=j/\firstDead ns=some j)->
   ∃ S:AH->Prop,(∀ T,S T->aF (some ⟨blk,i*5,none⟩:Option Addr) λa14=>aI .i64 (Addr.add a14 3) T λn15=>aF (some ⟨blk,i*5,none⟩:Option Addr) λa16=>aC (Addr.add a16 3) (.int .i64 (IntKind.wrap .i64 (n15+q))) T λu=>
    bsel (decide (s<(0:Int))) (aF (some ⟨t,0,none⟩:Option Addr) λa18=>aS a18 u λw=>
     ((qfu_A w (λU h21=>aN h21 (.cells #[(.int .i64 i),(.int .i64 q),(.int .i64 (0:Int)),(.int .i64 (0:Int)),(.bool (true:Bool))] 219) λy h23=>
       dM 5 40 #[(.int .i64 (0:Int)),(.int .i64 (0:Int)),(.int .i64 (0:Int)),(.int .i64 (0:Int)),(.bool false)] 219 U (Sl.mk (some (Addr.mk y 0 none)) 1 1) h23 λa h25=>
        aF (some ⟨t,0,none⟩:Option Addr) λa26=>aC a26 (.slice a.a a.len a.cap) h25 λh27=>aF (some ⟨t,0,none⟩:Option Addr) λa28=>aS a28 h27 λs29=>Q (IntKind.wrap .i64 ((Int.ofNat s29.len)-(1:Int))) (0:Int) h27) u)/\
     aN u (.cells #[(.int .i64 i),(.int .i64 q),(.int .i64 (0:Int)),(.int .i64 (0:Int)),(.bool (true:Bool))] 219) λz h31=>
      (aS a18 h31 λV=>(((.slice V.a V.len V.cap):Value)=(.slice w.a w.len w.cap)))/\
      qfu_A w (λs33 h34=>dM 5 40 #[(.int .i64 (0:Int)),(.int .i64 (0:Int)),(.int .i64 (0:Int)),(.int .i64 (0:Int)),(.bool false)] 219 s33 (Sl.mk (some (Addr.mk z 0 none)) 1 1) h34 λW h36=>
       aF (some ⟨t,0,none⟩:Option Addr) λa37=>aC a37 (.slice W.a W.len W.cap) h36 λh38=>aF (some ⟨t,0,none⟩:Option Addr) λa39=>aS a39 h38 λs40=>Q (IntKind.wrap .i64 ((Int.ofNat s40.len)-(1:Int))) (0:Int) h38) h31))
    (aF (some ⟨t,0,none⟩:Option Addr) λa41=>aS a41 u λs42=>aF s42.a λC=>bB s s42.len (aC (Addr.add C (Int.toNat s*5)) (.int .i64 i) u λh44=>aC (Addr.add (Addr.add C (Int.toNat s*5)) 1) (.int .i64 q) h44 λh45=>
     aC (Addr.add (Addr.add C (Int.toNat s*5)) 2) (.int .i64 (0:Int)) h45 λh46=>aC (Addr.add (Addr.add C (Int.toNat s*5)) 3) (.int .i64 (0:Int)) h46 λh47=>aC (Addr.add (Addr.add C (Int.toNat s*5)) 4) (.bool (true:Bool)) h47 λh48=>Q s (0:Int) h48)))/\
    (bsel (decide (s<(0:Int))) (aF (some ⟨t,0,none⟩:Option Addr) λa11=>aS a11 A λs12=>bsel (decide ((Int.ofNat s12.len)>=(64:Int))) (Q (0:Int) (4:Int) A) (S A)) (S A)):=by
  intro s hn8;refine ⟨λh'=>h'=A/\(firstDead ns=none->ns.length<64),?_,?_⟩
  .intro A1 ⟨e1,F⟩;subst e1;refine oW (f:=3) N hi (by omega) rfl ?_;simp only [aF,add_at];rw [w64 (n:=nd.lent+q) (by omega) (by omega)];refine zM (nd':={ nd with lent:=nd.lent+q }) N hi (by omega) rfl rfl λA2 h2=>?_;have p:(ns.set i { nd with lent:=nd.lent+q }).length=ns.length:=List.length_set ..;rcases hn8 with ⟨X,E⟩ | ⟨j,X,E⟩
   .subst X;have F:=F E;refine aG rfl (ld_S (i:=0) h2 rfl rfl ⟨?_,?_⟩)
    .-- first the copy
     refine xU (k:=1) h2 rfl O (by omega) (by simp) λU A3 r Y h3=>?_;refine aT (cs:=(⟨i,q,0,0,true⟩:Nd).cells) h3 λy A4 M=>?_;refine dJ (i:=0) (P:=At y ((⟨i,q,0,0,true⟩:Nd).cells++[])) M.swap (by simp) (eI (by simp [Nd.cells])) (λg=>by cases g) (λg=>Y g) rfl (λv hv=>?_) ⟨by simp only [r,p];omega,by simp only [r,p];omega⟩ λa A5 Z n24 G=>?_
     .simp [Nd.cells] at hv;rcases hv with rfl | rfl | rfl | rfl | rfl<;>rfl
     have G:Own (SlO a 5 (ndCells (ns.set i { nd with lent:=nd.lent+q }++[⟨i,q,0,0,true⟩]))::At y (⟨i,q,0,0,true⟩:Nd).cells::At t [.slice (some ⟨blk,0,none⟩) (ns.set i { nd with lent:=nd.lent+q }).length cap]::At blk (ndCells (ns.set i { nd with lent:=nd.lent+q })++rest)::R) A5:=by
      have e1:ndCells [(⟨i,q,0,0,true⟩:Nd)]=(⟨i,q,0,0,true⟩:Nd).cells:=by simp [ndCells]
      rw [uW,e1];exact G
     refine bU (i:=2) G rfl rfl rfl λA6 e=>ld_S (i:=2) e rfl rfl ?_;have e:Own (SlO a 5 (ndCells (ns.set i { nd with lent:=nd.lent+q }++[⟨i,q,0,0,true⟩]))::At y (⟨i,q,0,0,true⟩:Nd).cells::At t [.slice a.a a.len a.cap]::At blk (ndCells (ns.set i { nd with lent:=nd.lent+q })++rest)::R) A6:=e;have D:a.len=ns.length+1:=by rw [Z,r,p]
     rw [show IntKind.wrap .i64 (Int.ofNat a.len-1)=(ns.length:Int) by rw [D,w64]<;>simp<;>omega];refine I q0 q1 E F A6 ?_;obtain ⟨hp,e⟩:=Own.pure e;have hcap:a.cap≠0:=by omega
     have e:=e.imp (P':=λB=>∃ b o,a.a=some ⟨b,0,none⟩/\At b (ndCells (ns.set i { nd with lent:=nd.lent+q }++[⟨i,q,0,0,true⟩])++o) B) λB hB=>by grind
     obtain ⟨b,e⟩:=Own.ex e;obtain ⟨o,e⟩:=Own.ex e;obtain ⟨ha,e⟩:=Own.pure e;rw [ha,D] at e;refine TreeS.closeH (ns:=ns.set i { nd with lent:=nd.lent+q }++[⟨i,q,0,0,true⟩]) (blk:=b) (cap:=a.cap) (rest:=o) (by simp;omega) (λd hd'=>?_) ?_
     .grind
     .have:(ns.set i { nd with lent:=nd.lent+q }++[(⟨i,q,0,0,true⟩:Nd)]).length=ns.length+1:=by simp
      unfold kZ;rw [this];exact (e.pick 2 rfl).sub (List.Sublist.cons_cons _ (List.Sublist.cons_cons _ ((List.sublist_cons_self _ _).trans (List.sublist_cons_self _ _))))
    .-- first the new one
     refine aT (cs:=(⟨i,q,0,0,true⟩:Nd).cells) h2 λz A3 h3=>?_;refine ⟨ld_S (i:=1) h3 rfl rfl rfl,?_⟩;refine xU (k:=2) h3 rfl O (by omega) (by simp) λU A4 r Y M=>?_;refine dJ (i:=0) (P:=At z ((⟨i,q,0,0,true⟩:Nd).cells++[])) M (by simp) (eI (by simp [Nd.cells])) (λg=>by cases g) (λg=>Y g) rfl (λv hv=>?_) ⟨by simp only [r,p];omega,by simp only [r,p];omega⟩ λa A5 Z n24 G=>?_
     .simp [Nd.cells] at hv;rcases hv with rfl | rfl | rfl | rfl | rfl<;>rfl
     have G:Own (SlO a 5 (ndCells (ns.set i { nd with lent:=nd.lent+q }++[⟨i,q,0,0,true⟩]))::At z (⟨i,q,0,0,true⟩:Nd).cells::At t [.slice (some ⟨blk,0,none⟩) (ns.set i { nd with lent:=nd.lent+q }).length cap]::At blk (ndCells (ns.set i { nd with lent:=nd.lent+q })++rest)::R) A5:=by
      have e1:ndCells [(⟨i,q,0,0,true⟩:Nd)]=(⟨i,q,0,0,true⟩:Nd).cells:=by simp [ndCells]
      rw [uW,e1];exact G
     refine bU (i:=2) G rfl rfl rfl λA6 e=>ld_S (i:=2) e rfl rfl ?_;have e:Own (SlO a 5 (ndCells (ns.set i { nd with lent:=nd.lent+q }++[⟨i,q,0,0,true⟩]))::At z (⟨i,q,0,0,true⟩:Nd).cells::At t [.slice a.a a.len a.cap]::At blk (ndCells (ns.set i { nd with lent:=nd.lent+q })++rest)::R) A6:=e;have D:a.len=ns.length+1:=by rw [Z,r,p]
     rw [show IntKind.wrap .i64 (Int.ofNat a.len-1)=(ns.length:Int) by rw [D,w64]<;>simp<;>omega];refine I q0 q1 E F A6 ?_;obtain ⟨hp,e⟩:=Own.pure e;have hcap:a.cap≠0:=by omega
     have e:=e.imp (P':=λB=>∃ b o,a.a=some ⟨b,0,none⟩/\At b (ndCells (ns.set i { nd with lent:=nd.lent+q }++[⟨i,q,0,0,true⟩])++o) B) λB hB=>by grind
     obtain ⟨b,e⟩:=Own.ex e;obtain ⟨o,e⟩:=Own.ex e;obtain ⟨ha,e⟩:=Own.pure e;rw [ha,D] at e;refine TreeS.closeH (ns:=ns.set i { nd with lent:=nd.lent+q }++[⟨i,q,0,0,true⟩]) (blk:=b) (cap:=a.cap) (rest:=o) (by simp;omega) (λd hd'=>?_) ?_
     .grind
     .have:(ns.set i { nd with lent:=nd.lent+q }++[(⟨i,q,0,0,true⟩:Nd)]).length=ns.length+1:=by simp
      unfold kZ;rw [this];exact (e.pick 2 rfl).sub (List.Sublist.cons_cons _ (List.Sublist.cons_cons _ ((List.sublist_cons_self _ _).trans (List.sublist_cons_self _ _))))
   .subst X;obtain ⟨d,H,hdl⟩:=iC E;have hij:i≠j:=λg=>by subst g;rw [hi] at H;cases H;rw [L] at hdl;cases hdl
    have hjl:=(List.getElem?_eq_some_iff.1 H).1;have hdj':(ns.set i { nd with lent:=nd.lent+q })[j]? = some d:=by rw [List.getElem?_set_ne hij];exact H
    generalize hns:ns.set i { nd with lent:=nd.lent+q } = ns' at *;refine bsel_f (by simp) (ld_S (i:=0) h2 rfl rfl (inB_in (by omega) (by simp_all) ?_));simp only [add_at,Int.toNat_natCast,Nat.zero_add];have at_:∀ {m:List Nd} {x:Nd},j<m.length->(m.set j x)[j]? = some x:=λhm=>by simp [hm]
    rw [show j*5=j*5+0 by omega];refine zM (f:=0) (nd':=⟨i,d.quo,d.use,d.lent,d.live⟩) h2 hdj' (by omega) rfl rfl λA3 h3=>?_;refine zM (f:=1) (nd':=⟨i,q,d.use,d.lent,d.live⟩) h3 (at_ (by omega)) (by omega) rfl rfl λA4 M=>?_;refine zM (f:=2) (nd':=⟨i,q,0,d.lent,d.live⟩) M (at_ (by simp;omega)) (by omega) rfl rfl λA5 G=>?_;refine zM (f:=3) (nd':=⟨i,q,0,0,d.live⟩) G (at_ (by simp;omega)) (by omega) rfl rfl λA6 e=>?_;refine zM (f:=4) (nd':=⟨i,q,0,0,true⟩) e (at_ (by simp;omega)) (by omega) rfl rfl λA7 h7=>?_;simp only [List.set_set] at h7;refine hold q0 q1 j E A7 (TreeS.closeH (by simp;omega) (λd' hd'=>?_) h7);refine aAT (λd2 hd2=>?_) hnn d' hd';rw [<-hns] at hd2;exact aAT J hnd' d2 hd2
  .rcases hn8 with ⟨X,E⟩ | ⟨j,X,E⟩
   .subst X;refine aG rfl (ld_S (i:=0) N rfl rfl (bsel_in (λg=>M q0 q1 E ?_) λg=>⟨rfl,λ_=>?_⟩))
    .grind
    .grind
   .subst X;exact bsel_f (by simp) ⟨rfl,λg=>by rw [E] at g;cases g⟩
 exact wX (k:=1) N rfl O hlen (λg=>K (-1) (.inl ⟨rfl,g⟩)) λj g=>K j (.inr ⟨j,rfl,g⟩)
end Go.Dn
