/- What the proof stands on. -/
import Derived.Test.YtmfmhmipcdgikaaGreatMaps
import Derived.Test.YtmfmhmipcdgikaaGreatRoot
namespace Go.Dn
variable {A:AH} {R:List SP} {r b t i:Nat} {fr n:Int} {hs:List (Int × Int)} {F G:Int->Prop} {ns:List Nd} {nd:Nd}
theorem zC {tk:List Int} {s:Sl} {W':Int->Int->Int} {K:AP} (h:Own (taken r fr hs W' b F G n t ns i nd tk++SlO s 1 (intsV tk)::R) A) (hi:ns[i]? = some nd) (hlv:nd.live=true) (hu:0<=nd.use) (hFG:∀ x,F x->¬G x)
  (hF:∀ x ∈ tk,F x) (hnd:tk.Nodup) (hl:tk.length<9223372036854775807) (hk:∀ A',Own (RamW r fr hs W'::Bud b F G n::TreeS t ns::R) A'->K A') :
  ∃ I17:Int->Nat->AH->Prop,(∃ m18,I17 (0:Int) m18 A)/\∀ x21:Int,∀ m18 h20,I17 x21 m18 h20->
   (bsel (decide (x21<(Int.ofNat s.len))) (aF s.a λa22=>(bF x21 s.len (aI .i64 (Addr.add a22 (Int.toNat x21*1)) h20 λn23=>
    (qbi_A (some ⟨r,0,none⟩) (some ⟨b,0,none⟩) (some ⟨t,0,none⟩) i n23 (λh24=>(∃ m19,m19<m18/\I17 (IntKind.wrap .i64 (x21+(1:Int))) m19 h24)) h20)))) (K h20)):=by
 have hsl:s.len=tk.length:=by
  have:=eV (i:=3) (P:=SlO s 1 (intsV tk)) h rfl aU;simpa [intsV] using this
 refine ⟨λx m h'=>∃ c:Nat,x=c/\c<=tk.length/\tk.length-c=m/\Own (taken r fr hs W' b F G n t ns i nd (tk.drop c)++SlO s 1 (intsV tk)::R) h',⟨_,0,rfl,by omega,rfl,h⟩,?_⟩;intro x m A5 ⟨c,e1,e2,e3,hA5⟩;subst e1 e3;refine aG (λd=>?_) λd=>?_
 ·have d:c<tk.length:=by simp [hsl] at d;omega
  obtain ⟨f,hf⟩:∃ f,tk[c]? = some f:=⟨tk[c],by simp [d]⟩
  have hd:tk.drop c=f::tk.drop (c+1):=by
   rw [List.drop_eq_getElem_cons d];have:=(List.getElem?_eq_some_iff.1 hf).2;rw [this]
  rw [hd] at hA5;obtain ⟨bb,o,q1,q2⟩:=bW (i:=3) (P:=SlO s 1 (intsV tk)) hA5 rfl aU (j:=c) (v:=.int .i64 f) (by simp only [intsV,List.getElem?_map,hf];rfl);rw [q1];refine inB_in (by omega) (by omega) ⟨f,by rw [add_at];simpa using q2,?_⟩;have hfm:f ∈ tk:=List.mem_of_getElem? hf;refine vH hA5 hi hlv hu (hF f hfm) (by rw [<-hd];exact hnd.sublist (List.drop_sublist _ _)) (hFG f (hF f hfm)) λA6 hA6=>?_;exact ⟨tk.length-(c+1),by omega,c+1,by rw [bG]<;>omega,by omega,rfl,hA6⟩
 ·have d:c=tk.length:=by simp [hsl] at d;omega
  rw [d,List.drop_length] at hA5;refine hk A5 ?_;have:=oJ hi hA5;exact this.sub (List.Sublist.cons_cons _ (List.Sublist.cons_cons _ (List.Sublist.cons_cons _ (List.sublist_cons_self _ _))))
end Go.Dn
namespace Go.Dn
variable {W:Int->Int->Int} {root:Int} {tab:Tab} {lf:Int->Option Lf}
structure Way (W:Int->Int->Int) (root:Int) (tab:Tab) (lf:Int->Option Lf) (p:Int) (tk:List Int) (W2:Int->Int->Int) (tab1:Tab) (lst:List Int):Prop where
 ok:TabW W2 root tab1 lf
 down:DownOK tab1 p lst
 old:∀ k q f,tab k q=some f->tab1 k q=some f
 new:∀ k q f,tab1 k q=some f->tab k q=some f\/(f ∈ tk/\q=preP p k/\1<=k/\k<=3)
 other:∀ f,f ∉ tk->(∀ k q,tab k q≠some f)->W2 f=W f
 hi:∀ j,256<=j->W2 root j=W root j
theorem Way.step {p:Int} {tk lst:List Int} {W2:Int->Int->Int} {tab1:Tab} (h:Way W root tab lf p tk W2 tab1 lst) (hp:0<=p/\p<34359738368) (hl:lst.length<4) {f g:Int} (hf:lst[lst.length-1]? = some f) (hg:g ∈ tk)
  (hno:∀ k q,tab1 k q≠some g) (hz:∀ j,0<=j->j<512->W2 g j=0) (hr:0<=g/\g<1048576) :
  Way W root tab lf p tk (setW W2 f (atP p (lst.length-1)) (aIu g)) (setT tab1 lst.length (preP p lst.length) (some g)) (lst++[g]):=by
 obtain ⟨k,hk⟩:∃ k,lst.length=k+1:=⟨lst.length-1,by have:=h.down.pos;omega⟩;rw [hk] at hf;simp only [Nat.add_sub_cancel] at hf;obtain ⟨e1,e2,e3,e4,e5⟩:=bN hp (k:=k) (by omega);have hft:=h.down.is k (by omega);rw [hf] at hft;have hn:=h.down.no hl;rw [hk,e1] at hn;have hlink:=h.ok.link (k:=k) (by omega) hft e5 ⟨e2,e3⟩ e4 hn hno hz hr;rw [hk,Nat.add_sub_cancel,e1]
 have old:∀ k' q' f',tab1 k' q'=some f'->setT tab1 (k+1) (preP p k*512+atP p k) (some g) k' q'=some f':=by
  intro k' q' f' h1;unfold setT;split
  ·rename_i e;rw [e.1,e.2,hn] at h1;cases h1
  ·exact h1
 refine ⟨hlink,⟨by simp,by simp;omega,λc hc=>?_,λhc=>?_⟩,λk' q' f' h1=>old _ _ _ (h.old _ _ _ h1),λk' q' f' h1=>?_,λf' h1 h2=>?_,λj hj=>?_⟩
 ·by_cases e:c=k+1
  ·subst e;rw [List.getElem?_append_right (by omega),hk,e1];unfold setT;rw [if_pos ⟨rfl,rfl⟩];simp
  ·have:c<k+1:=by simp [hk] at hc;omega
   rw [List.getElem?_append_left (by omega)];unfold setT;rw [if_neg (λz=>e z.1)];exact h.down.is c (by omega)
 ·have e6:(lst++[g]).length=k+2:=by simp [hk]
  rw [e6];rw [e6] at hc;unfold setT;rw [if_neg (λz=>by omega)];cases e:tab1 (k+2) (preP p (k+2)) with
  | none=>rfl
  | some z=>
   obtain ⟨g',g1,_⟩:=h.ok.up _ _ _ e
   have e7:preP p (k+2) / 512=preP p k*512+atP p k:=by
    obtain ⟨u1,u2,u3,_,_⟩:=bN hp (k:=k+1) (by omega);rw [u1,<- e1];omega
   rw [e7,hn] at g1;cases g1
 ·unfold setT at h1;split at h1
  ·rename_i e;cases h1;exact .inr ⟨hg,by rw [e.1,e1];exact e.2,by omega,by omega⟩
  ·exact h.new _ _ _ h1
 ·have hne:f'≠f:=λe=>by
   rw [e] at h1 h2;rcases h.new _ _ _ hft with h3 | h3
   ·exact h2 _ _ h3
   ·exact h1 h3.1
  rw [cH hne];exact h.other f' h1 h2
 ·unfold setW;by_cases e:root=f
  ·have h0:tab1 0 0=some f:=(h.ok.root 0 f).2 ⟨rfl,e.symm⟩;obtain ⟨k0,_⟩:=h.ok.apart _ _ _ _ _ hft h0;have:=e4 k0;rw [if_neg (λz=>by omega)];exact h.hi j hj
  ·rw [if_neg (λz=>e z.1)];exact h.hi j hj
end Go.Dn
namespace Go.Dn
variable {A:AH} {l R:List SP} {r b t i:Nat} {fr n:Int} {hs:List (Int × Int)} {W:Int->Int->Int} {F G:Int->Prop} {ns:List Nd} {nd:Nd} {root:Int} {tab:Tab} {lf:Int->Option Lf}
set_option maxRecDepth 100000 in
set_option maxHeartbeats 2000000 in
theorem aGL {p fm:Int} {pw pu px:Bool} {Q:Int->AH->Prop} (h:Own (RamW r fr hs W::Bud b F G n::TreeS t ns::R) A) (hi:ns[i]? = some nd) (hlv:nd.live=true) (hF:∀ x,F x->hasF fr hs x=true) (hG:∀ x,G x->hasF fr hs x=true)
  (hT:TabW W root tab lf) (hTG:∀ k q f,tab k q=some f->G f)
  (h1:p<0\/p>=34359738368\/fm<0\/fm>=1048576->Q 1 A)
  (h6:0<=p->p<34359738368->0<=fm->fm<1048576->lf p≠none->∀ A',Own (RamW r fr hs W::Bud b F G n::TreeS t ns::R) A'->Q 6 A')
  (hbad:0<=p->p<34359738368->0<=fm->fm<1048576->lf p=none->∀ lst e W' A',DownOK tab p lst->(e=8/\nd.quo-nd.use-nd.lent<4-lst.length/\nd.quo-nd.use-nd.lent<=n\/e=7/\n<4-lst.length/\n<nd.quo-nd.use-nd.lent)->
   (∀ f,¬F f->W' f=W f)->Own (RamW r fr hs W'::Bud b F G n::TreeS t ns::R) A'->Q e A')
  (hk:0<=p->p<34359738368->0<=fm->fm<1048576->lf p=none->∀ lst tk W' tab' A',DownOK tab p lst->lst.length+tk.length=4->(tk.length:Int)<=nd.quo-nd.use-nd.lent->(tk.length:Int)<=n->tk.Nodup->(∀ x ∈ tk,F x)->
   TabW W' root tab' (kJ lf p (some ⟨fm,pw,pu,px⟩))->(∀ k q f,tab k q=some f->tab' k q=some f)->(∀ k q f,tab' k q=some f->tab k q=some f\/(f ∈ tk/\q=preP p k/\1<=k/\k<=3))->
   (∀ f,f ∉ tk->(∀ k q,tab k q≠some f)->W' f=W f)->(∀ j,256<=j->W' root j=W root j)->Own (taken r fr hs W' b F G n t ns i nd tk++R) A'->Q 0 A') :
  qdt_A (some ⟨r,0,none⟩) (some ⟨b,0,none⟩) (some ⟨t,0,none⟩) i root p fm pw pu px Q A:=by
 obtain ⟨mb0,g0,st0,gl0,hB0,hG0,_,_⟩:=Bud.openH h.swap;have hn0:=hB0.nonneg;have hFG:∀ x,F x->¬G x:=λx hx hg=>(hG0.apart x hg).1 hx
 have hnd:nd.OK:=by
  obtain ⟨_,_,_,⟨_,h2⟩,_⟩:=TreeS.openH h.rot3;exact h2 nd (List.mem_of_getElem? hi)
 have hhas:∀ k q f,tab k q=some f->hasF fr hs f=true:=λk q f hf=>hG f (hTG k q f hf);unfold qdt_A qdt_G;refine ⟨λh'=>h'=A/\0<=p/\p<34359738368/\0<=fm/\fm<1048576,?_,aG (λc=>h1 (.inl (by simpa using c))) λc=>aG (λd=>h1 (.inr (.inl (by simpa using d)))) λd=>aG (λc2=>h1 (.inr (.inr (.inl (by simpa using c2))))) λc2=>aG (λd2=>h1 (.inr (.inr (.inr (by simpa using d2))))) λd2=>⟨rfl,by simpa using c,by simpa using d,by simpa using c2,by simpa using d2⟩⟩;intro A0 ⟨e0,p0,p1,f0,f1⟩;subst e0;refine qS h ⟨p0,p1⟩ λA1 hA1=>?_;refine xU hA1 hT hhas ⟨p0,p1⟩ λlst s A2 hD hl hsa hA2=>?_;refine aX (cs:=[.int .i64 0,.int .i64 0,.int .i64 0,.int .i64 0]) hA2 λb10 A3 hA3=>?_;simp only [add_at];refine aJ (i:=0) hA3 rfl rfl rfl λA4 hA4=>aJ (i:=0) hA4 rfl rfl rfl λA5 hA5=>aJ (i:=0) hA5 rfl rfl rfl λA6 hA6=>aJ (i:=0) hA6 rfl rfl rfl λA7 hA7=>?_;have hA7:Own (At b10 (cB p)::RamW r fr hs W::SlO s 1 (intsV lst)::Bud b F G n::TreeS t ns::R) A7:=hA7;have hA7:Own (RamW r fr hs W::Bud b F G n::TreeS t ns::SlO s 1 (intsV lst)::At b10 (cB p)::R) A7:=(((hA7.pick 2 rfl).pick 4 rfl).pick 4 rfl).pick 4 rfl;have hle:=hD.le;have hj:0<=atP p 3/\atP p 3<512:=by simp only [atP];omega
 refine ⟨λh'=>lf p=none/\Own (taken r fr hs W b F G n t ns i nd []++SlO s 1 (intsV lst)::At b10 (cB p)::R) h',?_,?_⟩
 rotate_left
 ·refine aG (λc=>?_) λc=>?_
  ·have c:lst.length=4:=by simp [hl] at c;omega
   obtain ⟨f,hf,ht⟩:=hD.four c;obtain ⟨bb,o,q1,q2⟩:=bW (i:=3) (P:=SlO s 1 (intsV lst)) hA7 rfl aU (j:=3) (v:=.int .i64 f) (by simp only [intsV,List.getElem?_map,hf];rfl);rw [q1];refine inB_in (by omega) (by simp [hl,c]) ⟨f,by rw [add_at];exact q2,?_⟩;refine ld_I (i:=4) hA7 rfl (gW (c:=3) (by omega)) ?_;refine qF hA7 (hhas _ _ _ ht) hj λA8 hA8=>?_;have hw:=hT.leaves _ f ht (atP p 3) hj.1 hj.2;rw [show p / 512*512+atP p 3=p by simp only [atP];omega] at hw;cases hx:lf p with
   | none=>
    rw [hx] at hw;have hw:W f (atP p 3)=0:=hw;rw [hw];exact bsel_f rfl ⟨rfl,mC hi hA8⟩
   | some x=>
    rw [hx] at hw;rw [(oF hw (hT.rangeL _ _ hx)).1];exact aN rfl (h6 p0 p1 f0 f1 (by rw [hx];simp) A8 (hA8.sub (List.Sublist.cons_cons _ (List.Sublist.cons_cons _ (List.Sublist.cons_cons _ ((List.sublist_cons_self _ _).trans (List.sublist_cons_self _ _)))))))
  ·have c:lst.length<4:=by simp [hl] at c;omega
   refine ⟨?_,mC hi hA7⟩;cases hx:lf p with
   | none=>rfl
   | some x=>exact absurd (hD.no c) (hT.chain ⟨p0,p1⟩ hx _ c)
 intro A8 ⟨hno,hA8⟩;have hroom:0<=nd.quo-nd.use-nd.lent:=by have:=hnd.room;omega
 have hA8:Own (taken r fr hs W b F G n t ns i nd []++SlO Sl.nil 1 (intsV [])::SlO s 1 (intsV lst)::At b10 (cB p)::R) A8:=(Own.nilO (sz:=1) hA8).unrot4;have hpos:=hD.pos
 refine ⟨λs35 x m h'=>∃ (tk:List Int) (W1:Int->Int->Int),x=tk.length/\lst.length+tk.length<=4/\4-lst.length-tk.length=m/\s35.len=tk.length/\(s35.a=none->tk=[])/\tk.Nodup/\(∀ x ∈ tk,F x)/\(∀ f,f ∉ tk->W1 f=W f)/\(∀ f ∈ tk,∀ j,W1 f j=0)/\
  (tk.length:Int)<=nd.quo-nd.use-nd.lent/\(tk.length:Int)<=n/\Own (taken r fr hs W1 b F G n t ns i nd tk++SlO s35 1 (intsV tk)::SlO s 1 (intsV lst)::At b10 (cB p)::R) h',
  ⟨_,[],W,rfl,by simp;omega,rfl,rfl,λ_=>rfl,List.nodup_nil,λx hx=>by simp at hx,λ_ _=>rfl,λf hf=>by simp at hf,by simp;omega,by simp;omega,hA8⟩,?_⟩
 intro s35 x m A9 ⟨tk,W1,i1,i2,i3,i4,i5,i6,i7,i8,i9,i10,i11,hA9⟩;subst i1 i3;rw [bG (n:=(4:Int)-Int.ofNat s.len) (by simp [hl];omega) (by simp [hl];omega)];apply aG
 ·intro d;have d:lst.length+tk.length<4:=by simp [hl] at d;omega
  refine kC hA9 hi hlv hF (λc2=>aN rfl ?_) (λc2 d2 A10 hA10=>aN rfl ?_) λc2 d2 f A10 hf hfn hA10=>bsel_f rfl ?_
  ·exact zC hA9 hi hlv hnd.use hFG i7 i6 (by omega) λA' hA=>hbad p0 p1 f0 f1 hno lst 8 W1 A' hD (.inl ⟨rfl,by omega,by omega⟩) (λf hf=>i8 f λhm=>hf (i7 f hm)) (hA.sub (List.Sublist.cons_cons _ (List.Sublist.cons_cons _ (List.Sublist.cons_cons _ ((List.sublist_cons_self _ _).trans (List.sublist_cons_self _ _))))))
  ·exact zC hA10 hi hlv hnd.use hFG i7 i6 (by omega) λA' hA=>hbad p0 p1 f0 f1 hno lst 7 W1 A' hD (.inr ⟨rfl,by omega,by omega⟩) (λf hf=>i8 f λhm=>hf (i7 f hm)) (hA.sub (List.Sublist.cons_cons _ (List.Sublist.cons_cons _ (List.Sublist.cons_cons _ ((List.sublist_cons_self _ _).trans (List.sublist_cons_self _ _))))))
  refine aX (cs:=intsV [f]) hA10 λb48 A11 hA11=>?_;have hA11:Own (dK ⟨some ⟨b48,0,none⟩,1,1⟩ 1 (intsV [f])::(taken r fr hs (zeroW W1 f) b F G n t ns i nd (tk++[f])++SlO s35 1 (intsV tk)::SlO s 1 (intsV lst)::At b10 (cB p)::R)) A11:=hA11.imp λB hB=>(oS (k:=1) (sz:=1) rfl hB).look;have hA11:Own (SlO s35 1 (intsV tk)::dK ⟨some ⟨b48,0,none⟩,1,1⟩ 1 (intsV [f])::(taken r fr hs (zeroW W1 f) b F G n t ns i nd (tk++[f])++SlO s 1 (intsV lst)::At b10 (cB p)::R)) A11:=hA11.pick 4 rfl;refine kF (i:=0) hA11 rfl (λq=>by cases q) (λq=>by rw [i5 q];rfl) rfl (λv hv=>?_) ⟨by simp only [i4];omega,by simp only [i4];omega⟩ λs' A12 j1 j2 hA12=>?_
  ·simp [intsV] at hv;subst hv;rfl
  rw [<-jT] at hA12;have hlf:(tk++[f]).length=tk.length+1:=by simp
  refine ⟨4-lst.length-(tk.length+1),by omega,tk++[f],zeroW W1 f,by rw [hlf,bG (by omega) (by omega)];omega,by omega,by omega,by rw [hlf];simp only [j1,i4],λq=>by have:=j2 q;simp [intsV] at this,?_,λx hx=>?_,λg hg=>?_,λg hg j=>?_,by omega,by omega,?_⟩
  ·exact List.nodup_append.2 ⟨i6,by simp,λx hx y hy=>by simp at hy;subst hy;exact λe=>hfn (e ▸ hx)⟩
  ·rcases List.mem_append.1 hx with hx | hx
   ·exact i7 x hx
   ·simp at hx;subst hx;exact hf
  ·simp only [List.mem_append,List.mem_singleton,not_or] at hg;rw [dX hg.2];exact i8 g hg.1
  ·unfold zeroW;split
   ·rfl
   ·rename_i e;rcases List.mem_append.1 hg with hg | hg
    ·exact i9 g hg j
    ·simp at hg;exact absurd hg e
  ·exact Own.unrot4 (hA12.sub (List.Sublist.cons_cons _ (List.sublist_cons_self _ _)))
 intro d;have d:lst.length+tk.length=4:=by simp [hl] at d;omega
 have hft:∀ k q f,tab k q=some f->f ∉ tk:=λk q f hf hm=>hFG f (i7 f hm) (hTG k q f hf)
 refine ⟨λs56 x m h'=>∃ (c:Nat) (lst2:List Int) (W2:Int->Int->Int) (tab1:Tab),x=c/\c<=tk.length/\tk.length-c=m/\lst2.length=lst.length+c/\Way W root tab lf p tk W2 tab1 lst2/\s56.len=lst2.length/\s56.a≠none/\
  (∀ f ∈ tk.drop c,(∀ k q,tab1 k q≠some f)/\∀ j,W2 f j=0)/\Own (taken r fr hs W2 b F G n t ns i nd tk++SlO s56 1 (intsV lst2)::SlO s35 1 (intsV tk)::At b10 (cB p)::R) h',
  ⟨_,0,lst,W1,tab,rfl,by omega,rfl,rfl,⟨hT.congr λk q f hf=>i8 f (hft k q f hf),hD,λ_ _ _ h=>h,λ_ _ _ h=>.inl h,λf hf _=>i8 f hf,λj _=>by rw [i8 root (hft 0 0 root ((hT.root 0 root).2 ⟨rfl,rfl⟩))]⟩,hl,hsa,λf hf=>⟨λk q e=>hft k q f e hf,i9 f hf⟩,
   hA9.cons λC hC=>hC.cons λC hC=>hC.cons λC hC=>hC.swap⟩,?_⟩
 intro s56 x m A10 ⟨c,lst2,W2,tab1,k1,k2,k3,k4,hWay,k5,k6,k7,hA10⟩;subst k1 k3
 have hhas1:∀ k q f,tab1 k q=some f->hasF fr hs f=true:=λk q f hf=>by
  rcases hWay.new k q f hf with h | h
  ·exact hhas k q f h
  ·exact hF f (i7 f h.1)
 apply aG
 ·intro d2;have d2:c<tk.length:=by simp [i4] at d2;omega
  obtain ⟨g,hg⟩:∃ g,tk[c]? = some g:=⟨tk[c],by simp [d2]⟩;have hgm:g ∈ tk:=List.mem_of_getElem? hg
  have hdr:tk.drop c=g::tk.drop (c+1):=by
   rw [List.drop_eq_getElem_cons d2];have:=(List.getElem?_eq_some_iff.1 hg).2;rw [this]
  have hll:lst2.length<4:=by omega
  obtain ⟨f,hf⟩:∃ f,lst2[lst2.length-1]? = some f:=⟨lst2[lst2.length-1],by simp⟩;have hft2:=hWay.down.is (lst2.length-1) (by omega);rw [hf] at hft2;have hwr:IntKind.wrap .i64 (Int.ofNat s56.len-1)=((lst2.length-1:Nat):Int):=by rw [k5,bG]<;>simp<;>omega
  obtain ⟨bb,o,q1,q2⟩:=bW (i:=4) (P:=SlO s35 1 (intsV tk)) hA10 rfl aU (j:=c) (v:=.int .i64 g) (by simp only [intsV,List.getElem?_map,hg];rfl);obtain ⟨bc,o2,q3,q4⟩:=bW (i:=3) (P:=SlO s56 1 (intsV lst2)) hA10 rfl aU (j:=lst2.length-1) (v:=.int .i64 f) (by simp only [intsV,List.getElem?_map,hf];rfl);rw [hwr,q1,q3];obtain ⟨g0',gz⟩:=k7 g (by rw [hdr];exact List.mem_cons_self);have hgr:=hB0.free (i7 g hgm);obtain ⟨_,e2,e3,_,_⟩:=bN ⟨p0,p1⟩ (k:=lst2.length-1) (by omega);refine inB_in (by omega) (by omega) ⟨g,by rw [add_at];simpa using q2,?_⟩;refine inB_in (by omega) (by omega) ⟨f,by rw [add_at];simpa using q4,?_⟩;refine inB_in (by omega) (by omega) ?_;refine ld_I (i:=5) hA10 rfl (by rw [show 0+Int.toNat ((lst2.length-1:Nat):Int)*1=lst2.length-1 by omega];exact gW (by omega)) ?_;refine lY hA10 (hhas1 _ _ _ hft2) ⟨e2,e3⟩ hgr λA11 hA11=>?_;have hstep:=hWay.step ⟨p0,p1⟩ hll hf hgm g0' (λj _ _=>gz j) hgr;refine aX (cs:=intsV [g]) hA11 λb64 A12 hA12=>?_;have hA12:Own (dK ⟨some ⟨b64,0,none⟩,1,1⟩ 1 (intsV [g])::(taken r fr hs (setW W2 f (atP p (lst2.length-1)) (aIu g)) b F G n t ns i nd tk++SlO s56 1 (intsV lst2)::SlO s35 1 (intsV tk)::At b10 (cB p)::R)) A12:=hA12.imp λB hB=>(oS (k:=1) (sz:=1) rfl hB).look;have hA12:Own (SlO s56 1 (intsV lst2)::dK ⟨some ⟨b64,0,none⟩,1,1⟩ 1 (intsV [g])::(taken r fr hs (setW W2 f (atP p (lst2.length-1)) (aIu g)) b F G n t ns i nd tk++SlO s35 1 (intsV tk)::At b10 (cB p)::R)) A12:=hA12.pick 4 rfl;refine kF (i:=0) hA12 rfl (λq=>by cases q) (λq=>absurd q k6) rfl (λv hv=>?_) ⟨by simp only [k5];omega,by simp only [k5];omega⟩ λs' A13 j1 j2 hA13=>?_
  ·simp [intsV] at hv;subst hv;rfl
  rw [<-jT] at hA13;have hlf:(lst2++[g]).length=lst2.length+1:=by simp
  refine ⟨tk.length-(c+1),by omega,c+1,lst2++[g],_,_,by rw [bG]<;>omega,by omega,rfl,by omega,hstep,by rw [hlf];simp only [j1,k5],λq=>by have:=j2 q;simp [intsV] at this,λf' hf'=>?_,Own.unrot4 (hA13.sub (List.Sublist.cons_cons _ (List.sublist_cons_self _ _)))⟩
  have hne:f'≠g:=λe=>by
   have:=i6.sublist (List.drop_sublist c tk);rw [hdr] at this;exact (List.nodup_cons.1 this).1 (e ▸ hf')
  obtain ⟨m1,m2⟩:=k7 f' (by rw [hdr];exact List.mem_cons_of_mem _ hf');refine ⟨λk q e=>?_,λj=>?_⟩
  ·unfold setT at e;split at e
   ·cases e;exact hne rfl
   ·exact m1 k q e
  ·have hnf:f'≠f:=λe=>m1 _ _ (e ▸ hft2);rw [cH hnf];exact m2 j
 intro d2;have d2:c=tk.length:=by simp [i4] at d2;omega
 obtain ⟨f,hf,ht⟩:=hWay.down.four (by omega)
 obtain ⟨a,ha⟩:∃ a,s56.a=some a:=by
  cases e:s56.a with
  | none=>exact absurd e k6
  | some a=>exact ⟨a,rfl⟩
 have ld3:∀ B,Own (taken r fr hs W2 b F G n t ns i nd tk++SlO s56 1 (intsV lst2)::SlO s35 1 (intsV tk)::At b10 (cB p)::R) B->∀ K:Int->Prop,K f->aI .i64 (Addr.add a 3) B K:=by
  intro B hB K hK;obtain ⟨bb,o,q1,q2⟩:=bW (i:=3) (P:=SlO s56 1 (intsV lst2)) hB rfl aU (j:=3) (v:=.int .i64 f) (by simp only [intsV,List.getElem?_map,hf];rfl);rw [q1] at ha;cases ha;exact ⟨f,by rw [add_at];exact q2,hK⟩
 rw [ha];refine inB_in (by omega) (by omega) (ld3 _ hA10 _ ?_);refine ld_I (i:=5) hA10 rfl (gW (c:=3) (by omega)) ?_;unfold qds_A;refine ⟨ld_I (i:=5) hA10 rfl (gW (c:=3) (by omega)) rfl,ld3 _ hA10 _ rfl,lY hA10 (hhas1 _ _ _ ht) hj ⟨f0,f1⟩ λA11 hA11=>?_⟩;have hleaf:=hWay.ok.leaf (o:=some ⟨fm,pw,pu,px⟩) ht p0 (λl hl=>by cases hl;exact ⟨f0,f1⟩);refine hk p0 p1 f0 f1 hno lst tk _ tab1 A11 hD d i10 i11 i6 i7 hleaf hWay.old hWay.new (λg hg1 hg2=>?_) (λj hj=>?_) (hA11.sub (List.Sublist.cons_cons _ (List.Sublist.cons_cons _ (List.Sublist.cons_cons _ ((List.sublist_cons_self _ _).trans ((List.sublist_cons_self _ _).trans (List.sublist_cons_self _ _)))))))
 ·have hne:g≠f:=λe=>by
   rw [e] at hg1 hg2;rcases hWay.new _ _ _ ht with h3 | h3
   ·exact hg2 _ _ h3
   ·exact hg1 h3.1
  rw [cH hne];exact hWay.other g hg1 hg2
 ·have hne:root≠f:=λe=>by
   have h0:tab1 0 0=some f:=(hWay.ok.root 0 f).2 ⟨rfl,e.symm⟩;have:=(hWay.ok.apart _ _ _ _ _ ht h0).1;omega
  rw [cH hne];exact hWay.hi j hj
end Go.Dn
namespace Go.Dn
variable {l:List SP} {W W':Int->Int->Int} {G G':Int->Prop} {nd:Nd} {root:Int} {tab:Tab} {lf:Int->Option Lf} {tl:List Int}
structure Rest (G:Int->Prop) (W:Int->Int->Int) (root:Int) (tab:Tab) (lf:Int->Option Lf) (tl:List Int):Prop where
 T:TabW W root tab lf
 pr:∀ p x,lf p=some x->0<=p/\p<34359738368
 low:∀ k q f,tab k q=some f->1<=k->∃ p x,lf p=some x/\preP p k=q
 nd:tl.Nodup
 mem:∀ f,f ∈ tl↔∃ k q,tab k q=some f
 inG:∀ f ∈ tl,G f
theorem Rest.tg (h:Rest G W root tab lf tl) {k:Nat} {q f:Int} (e:tab k q=some f):G f:=h.inG f ((h.mem f).2 ⟨k,q,e⟩)
theorem Rest.keep (h:Rest G W root tab lf tl) (hW:∀ f ∈ tl,W' f=W f) (hG:∀ f ∈ tl,G' f):Rest G' W' root tab lf tl:=
 ⟨h.T.congr λk q f e=>hW f ((h.mem f).2 ⟨k,q,e⟩),h.pr,h.low,h.nd,h.mem,hG⟩
theorem lJ {α:Type} [DecidableEq α] {l:List α}:∀ {m:List α},m.Nodup->(∀ x ∈ m,x ∈ l)->m.length<=l.length
 | [],_,_=>Nat.zero_le _
 | x::m,nd,h=>by
  obtain ⟨h1,h2⟩:=List.nodup_cons.1 nd;have hx:=h x List.mem_cons_self;have:=lJ (l:=l.erase x) h2 λy hy=>(List.mem_erase_of_ne (λe:y=x=>h1 (by rw [<-e];exact hy))).2 (h y (List.mem_cons_of_mem _ hy));rw [List.length_erase_of_mem hx] at this;have:0<l.length:=List.length_pos_of_mem hx;simp only [List.length_cons];omega
def lK (tab:Tab) (p:Int):Nat:=(if tab 1 (preP p 1)=none then 1 else 0)+(if tab 2 (preP p 2)=none then 1 else 0)+(if tab 3 (preP p 3)=none then 1 else 0)
theorem TabW.upN (h:TabW W root tab lf) {p:Int} (hp:0<=p/\p<34359738368) {k:Nat} (hk:k<4) (hn:tab k (preP p k)=none):tab (k+1) (preP p (k+1))=none:=by
 cases e:tab (k+1) (preP p (k+1)) with
 | none=>rfl
 | some g=>
  obtain ⟨g',h1,_⟩:=h.up _ _ _ e;obtain ⟨e1,e2,e3,_⟩:=bN hp hk;rw [show preP p (k+1) / 512=preP p k by omega,hn] at h1;cases h1
theorem DownOK.need (h:TabW W root tab lf) {p:Int} (hp:0<=p/\p<34359738368) {lst:List Int} (hD:DownOK tab p lst):lK tab p+lst.length=4:=by
 have h0:=hD.pos;have h1:=hD.le;have some_:∀ c,c<lst.length->tab c (preP p c)≠none:=λc hc=>by rw [hD.is c hc];simp [hc]
 unfold lK;obtain hl | hl | hl | hl:lst.length=1\/lst.length=2\/lst.length=3\/lst.length=4:=by omega
 ·have n1:tab 1 (preP p 1)=none:=by have:=hD.no (by omega);rw [hl] at this;exact this
  have n2:=h.upN hp (by omega) n1;have n3:=h.upN hp (by omega) n2;rw [if_pos n1,if_pos n2,if_pos n3];omega
 ·have n1:=some_ 1 (by omega);have n2:tab 2 (preP p 2)=none:=by have:=hD.no (by omega);rw [hl] at this;exact this
  have n3:=h.upN hp (by omega) n2;rw [if_neg n1,if_pos n2,if_pos n3];omega
 ·have n1:=some_ 1 (by omega);have n2:=some_ 2 (by omega);have n3:tab 3 (preP p 3)=none:=by have:=hD.no (by omega);rw [hl] at this;exact this
  rw [if_neg n1,if_neg n2,if_pos n3];omega
 ·have n1:=some_ 1 (by omega);have n2:=some_ 2 (by omega);have n3:=some_ 3 (by omega);rw [if_neg n1,if_neg n2,if_neg n3];omega
theorem Rest.map (h:Rest G W root tab lf tl) {p:Int} {x:Lf} {tab':Tab} {lst tk:List Int} (p0:0<=p) (p1:p<34359738368) (hl:lf p=none) (hD:DownOK tab p lst) (hlen:lst.length+tk.length=4) (hnd:tk.Nodup) (htk:∀ y ∈ tk,¬G y)
  (hT:TabW W' root tab' (kJ lf p (some x))) (hold:∀ k q f,tab k q=some f->tab' k q=some f) (hnew:∀ k q f,tab' k q=some f->tab k q=some f\/(f ∈ tk/\q=preP p k/\1<=k/\k<=3)) :
  Rest (λy=>G y\/y ∈ tk) W' root tab' (kJ lf p (some x)) (tl++tk):=by
 have hset:∀ p' y,lf p'=some y->kJ lf p (some x) p'=some y:=λp' y e=>by
  unfold kJ;rw [if_neg (λg=>by rw [g,hl] at e;cases e)];exact e
 have hself:kJ lf p (some x) p=some x:=by unfold kJ;rw [if_pos rfl]
 have hfull:∀ k,k<4->∃ f,tab' k (preP p k)=some f:=λk hk=>by
  have:=hT.chain ⟨p0,p1⟩ hself k hk;cases e:tab' k (preP p k) with
  | none=>exact absurd e this
  | some f=>exact ⟨f,rfl⟩
 refine ⟨hT,λp' y e=>?_,λk q f e hk=>?_,List.nodup_append.2 ⟨h.nd,hnd,λa ha c hc e=>?_⟩,λf=>?_,λf hf=>?_⟩
 ·unfold kJ at e;split at e
  ·rename_i g;rw [g];exact ⟨p0,p1⟩
  ·exact h.pr p' y e
 ·rcases hnew k q f e with e | ⟨_,e,_⟩
  ·obtain ⟨p',y,h1,h2⟩:=h.low k q f e hk;exact ⟨p',y,hset p' y h1,h2⟩
  ·exact ⟨p,x,hself,e.symm⟩
 ·subst e;exact htk a hc (h.inG a ha)
 ·rw [List.mem_append,h.mem];constructor
  ·rintro (⟨k,q,e⟩ | hf)
   ·exact ⟨k,q,hold k q f e⟩
   ·-- the new tables are all of them there: as many as places
    have h0:=hD.pos
    have key:∀ k,k<4->lst.length<=k->∃ g,tab' k (preP p k)=some g/\g ∈ tk:=λk hk hk2=>by
     obtain ⟨g,hg⟩:=hfull k hk;refine ⟨g,hg,?_⟩;rcases hnew k _ g hg with e | ⟨e,_⟩
     ·have:tab k (preP p k)=none:=by
       have n0:=hD.no (by omega)
       have:∀ j,lst.length+j<5->tab (lst.length+j) (preP p (lst.length+j))=none:=λj=>by
        induction j with
        | zero=>intro _;exact n0
        | succ j ih=>intro hj;exact h.T.upN (k:=lst.length+j) ⟨p0,p1⟩ (by omega) (ih (by omega))
       have:=this (k-lst.length) (by omega);rwa [show lst.length+(k-lst.length)=k by omega] at this
      rw [this] at e;cases e
     ·exact e
    have hinj:∀ j k g,tab' j (preP p j)=some g->tab' k (preP p k)=some g->j=k:=λj k g h1 h2=>(hT.apart _ _ _ _ _ h1 h2).1
    -- the list of the path's new tables is as long as tk and within it
    obtain ⟨gs,hgs1,hgs2,hgs3⟩:∃ gs:List Int,gs.length=tk.length/\gs.Nodup/\∀ g ∈ gs,g ∈ tk/\∃ k q,tab' k q=some g:=by
     obtain hl | hl | hl | hl:lst.length=1\/lst.length=2\/lst.length=3\/lst.length=4:=by omega
     ·obtain ⟨g1,a1,b1⟩:=key 1 (by omega) (by omega);obtain ⟨g2,a2,b2⟩:=key 2 (by omega) (by omega);obtain ⟨g3,a3,b3⟩:=key 3 (by omega) (by omega);refine ⟨[g1,g2,g3],by simp;omega,?_,?_⟩
      ·have n12:g1≠g2:=λe=>by subst e;have:=hinj _ _ _ a1 a2;omega
       have n13:g1≠g3:=λe=>by subst e;have:=hinj _ _ _ a1 a3;omega
       have n23:g2≠g3:=λe=>by subst e;have:=hinj _ _ _ a2 a3;omega
       simp [n12,n13,n23]
      ·intro g hg;simp only [List.mem_cons,List.not_mem_nil,or_false] at hg;rcases hg with rfl | rfl | rfl
       ·exact ⟨b1,_,_,a1⟩
       ·exact ⟨b2,_,_,a2⟩
       ·exact ⟨b3,_,_,a3⟩
     ·obtain ⟨g2,a2,b2⟩:=key 2 (by omega) (by omega);obtain ⟨g3,a3,b3⟩:=key 3 (by omega) (by omega);refine ⟨[g2,g3],by simp;omega,?_,?_⟩
      ·have n23:g2≠g3:=λe=>by subst e;have:=hinj _ _ _ a2 a3;omega
       simp [n23]
      ·intro g hg;simp only [List.mem_cons,List.not_mem_nil,or_false] at hg;rcases hg with rfl | rfl
       ·exact ⟨b2,_,_,a2⟩
       ·exact ⟨b3,_,_,a3⟩
     ·obtain ⟨g3,a3,b3⟩:=key 3 (by omega) (by omega);refine ⟨[g3],by simp;omega,by simp,?_⟩;intro g hg;simp only [List.mem_singleton] at hg;subst hg;exact ⟨b3,_,_,a3⟩
     ·exact ⟨[],by simp;omega,by simp,by simp⟩
    by_cases hm:f ∈ gs
    ·exact (hgs3 f hm).2
    ·-- then gs is within tk bY f: too short
     exfalso;have hsub:∀ g ∈ gs,g ∈ tk.erase f:=λg hg=>(List.mem_erase_of_ne (λe:g=f=>hm (by rw [<-e];exact hg))).2 (hgs3 g hg).1;have hle:gs.length<=(tk.erase f).length:=lJ hgs2 hsub;rw [List.length_erase_of_mem hf] at hle;have:0<tk.length:=List.length_pos_of_mem hf;omega
  ·rintro ⟨k,q,e⟩;rcases hnew k q f e with e | ⟨e,_⟩
   ·exact .inl ⟨k,q,e⟩
   ·exact .inr e
 ·rcases List.mem_append.1 hf with hf | hf
  ·exact .inl (h.inG f hf)
  ·exact .inr hf
end Go.Dn
namespace Go.Dn
variable {W:Int->Int->Int} {G:Int->Prop} {root:Int} {tab:Tab} {lf:Int->Option Lf} {tl:List Int} {ps qs:List Int} {p:Int}
def newD (d:Int) (ps:List Int) (p:Int):Nat:=if ps.any (λq=>q / d==p / d) then 0 else 1
def jI (ps:List Int) (p:Int):Nat:=newD 134217728 ps p+newD 262144 ps p+newD 512 ps p
def kY:List Int->Nat
 | []=>1
 | p::r=>kY r+jI r p
theorem rZ {d:Int} (h:ps.Perm qs):newD d ps p=newD d qs p:=by
 unfold newD;rw [h.any_eq]
theorem aCl (h:ps.Perm qs):jI ps p=jI qs p:=by
 unfold jI;rw [rZ h,rZ h,rZ h]
theorem yY {d a:Int}:newD d (a::ps) p=if a / d=p / d then 0 else newD d ps p:=by
 unfold newD;by_cases e:a / d=p / d
 ·simp [List.any_cons,e]
 ·have e1:(a / d==p / d)=false:=by simpa using e
  simp [List.any_cons,e1,e]
theorem qT {d a b:Int}:newD d (b::ps) a+newD d ps b=newD d (a::ps) b+newD d ps a:=by
 rw [yY,yY];by_cases e:a / d=b / d
 ·have:newD d ps a=newD d ps b:=by unfold newD;rw [e]
  rw [if_pos e,if_pos e.symm,this]
 ·rw [if_neg e,if_neg (λq=>e q.symm)];omega
theorem aCj {a b:Int}:jI (b::ps) a+jI ps b=jI (a::ps) b+jI ps a:=by
 unfold jI;have h1:=qT (ps:=ps) (d:=134217728) (a:=a) (b:=b);have h2:=qT (ps:=ps) (d:=262144) (a:=a) (b:=b);have h3:=qT (ps:=ps) (d:=512) (a:=a) (b:=b);omega
theorem aCW (h:ps.Perm qs):kY ps=kY qs:=by
 induction h with
 | nil=>rfl
 | cons x h ih=>simp only [kY,ih,aCl h]
 | swap x y l=>
  have:=aCj (ps:=l) (a:=x) (b:=y);simp only [kY];omega
 | trans _ _ i1 i2=>rw [i1,i2]
theorem xV:∀ ps:List Int,1<=kY ps
 | []=>Nat.le_refl _
 | _::r=>Nat.le_trans (xV r) (Nat.le_add_right _ _)
theorem aDi {d:Int}:newD d ps p<=1:=by unfold newD;split<;>omega
theorem jP {d:Int}:newD d ps p=0↔∃ q ∈ ps,q / d=p / d:=by
 unfold newD;by_cases e:ps.any (λq=>q / d==p / d)=true
 ·rw [if_pos e];refine ⟨λ_=>?_,λ_=>rfl⟩;obtain ⟨q,h1,h2⟩:=List.any_eq_true.1 e;exact ⟨q,h1,by simpa using h2⟩
 ·rw [if_neg e];refine ⟨λz=>(by omega),λ⟨q,h1,h2⟩=>absurd (List.any_eq_true.2 ⟨q,h1,by simpa using h2⟩) e⟩
theorem Rest.tab_iff (h:Rest G W root tab lf tl) (hm:∀ p,p ∈ ps↔lf p≠none) {k:Nat} (hk:1<=k/\k<=3) {q:Int}:tab k q≠none↔∃ p ∈ ps,preP p k=q:=by
 constructor
 ·intro e;obtain ⟨f,hf⟩:=Option.ne_none_iff_exists'.1 e;obtain ⟨p,x,h1,h2⟩:=h.low k q f hf hk.1;exact ⟨p,(hm p).2 (by rw [h1];simp),h2⟩
 ·rintro ⟨p,h1,rfl⟩;obtain ⟨x,hx⟩:=Option.ne_none_iff_exists'.1 ((hm p).1 h1);exact h.T.chain (h.pr p x hx) hx k (by omega)
theorem Rest.need (h:Rest G W root tab lf tl) (hm:∀ p,p ∈ ps↔lf p≠none):lK tab p=jI ps p:=by
 have one:∀ (k:Nat) (d:Int),1<=k/\k<=3->(∀ q,preP q k=q / d)->(if tab k (preP p k)=none then 1 else 0)=newD d ps p:=λk d hk hd=>by
  have h1:=h.tab_iff hm hk (q:=preP p k);by_cases e:tab k (preP p k)=none
  ·rw [if_pos e];have:=aDi (ps:=ps) (p:=p) (d:=d)
   have:newD d ps p≠0:=λz=>by
    obtain ⟨q,q1,q2⟩:=jP.1 z;exact h1.2 ⟨q,q1,by rw [hd,hd];exact q2⟩ e
   omega
  ·rw [if_neg e];obtain ⟨q,q1,q2⟩:=h1.1 e;exact (jP.2 ⟨q,q1,by rw [<-hd,<- hd];exact q2⟩).symm
 unfold lK jI;rw [one 1 134217728 (by omega) (λ_=>rfl),one 2 262144 (by omega) (λ_=>rfl),one 3 512 (by omega) (λ_=>rfl)]
def plN:List Int->List (Nat × Int)
 | []=>[(0,0)]
 | p::r=>([(1,134217728),(2,262144),(3,512)].flatMap λkd:Nat × Int=>if newD kd.2 r p=0 then [] else [(kd.1,p / kd.2)])++plN r
theorem aDD:∀ ps:List Int,(plN ps).length=kY ps
 | []=>rfl
 | p::r=>by
  have ih:=aDD r
  have one:∀ (k:Nat) (d:Int),(if newD d r p=0 then [] else [(k,p / d)]:List (Nat × Int)).length=newD d r p:=λk d=>by
   have:=aDi (ps:=r) (p:=p) (d:=d);split<;>simp<;>omega
  simp only [plN,List.flatMap_cons,List.flatMap_nil,List.append_nil,List.length_append,one,ih,kY,jI];omega
theorem plN_mem:∀ (ps:List Int) (k:Nat) (q:Int),(k,q) ∈ plN ps↔(k=0/\q=0)\/((1<=k/\k<=3)/\∃ p ∈ ps,preP p k=q)
 | [],k,q=>by simp [plN]
 | p::r,k,q=>by
  have ih:=plN_mem r k q
  have one:∀ (j:Nat) (d:Int),(k,q) ∈ (if newD d r p=0 then [] else [(j,p / d)]:List (Nat × Int))↔(k=j/\q=p / d)/\∀ x ∈ r,x / d≠p / d:=λj d=>by
   by_cases e:newD d r p=0
   ·rw [if_pos e];obtain ⟨x,x1,x2⟩:=jP.1 e;simp only [List.not_mem_nil,false_iff];exact λz=>z.2 x x1 x2
   ·rw [if_neg e];simp only [List.mem_singleton,Prod.mk.injEq];exact ⟨λz=>⟨z,λx x1 x2=>e (jP.2 ⟨x,x1,x2⟩)⟩,λz=>z.1⟩
  simp only [plN,List.flatMap_cons,List.flatMap_nil,List.append_nil,List.mem_append,one,ih,List.mem_cons,exists_eq_or_imp];constructor
  ·rintro ((⟨⟨rfl,rfl⟩,_⟩ | ⟨⟨rfl,rfl⟩,_⟩ | ⟨⟨rfl,rfl⟩,_⟩) | h | ⟨h1,h2⟩)
   ·exact .inr ⟨by omega,.inl rfl⟩
   ·exact .inr ⟨by omega,.inl rfl⟩
   ·exact .inr ⟨by omega,.inl rfl⟩
   ·exact .inl h
   ·exact .inr ⟨h1,.inr h2⟩
  ·rintro (h | ⟨h1,h2 | h2⟩)
   ·exact .inr (.inl h)
   ·by_cases e:∃ x ∈ r,preP x k=q
    ·exact .inr (.inr ⟨h1,e⟩)
    ·refine .inl ?_;obtain rfl | rfl | rfl:k=1\/k=2\/k=3:=by omega
     ·exact .inl ⟨⟨rfl,h2.symm⟩,λx x1 x2=>e ⟨x,x1,by rw [<-h2];exact x2⟩⟩
     ·exact .inr (.inl ⟨⟨rfl,h2.symm⟩,λx x1 x2=>e ⟨x,x1,by rw [<-h2];exact x2⟩⟩)
     ·exact .inr (.inr ⟨⟨rfl,h2.symm⟩,λx x1 x2=>e ⟨x,x1,by rw [<-h2];exact x2⟩⟩)
   ·exact .inr (.inr ⟨h1,h2⟩)
theorem yK:∀ ps:List Int,(plN ps).Nodup
 | []=>by simp [plN]
 | p::r=>by
  have ih:=yK r;rw [plN,List.nodup_append]
  have one:∀ (j:Nat) (d:Int) (k:Nat) (q:Int),(k,q) ∈ (if newD d r p=0 then [] else [(j,p / d)]:List (Nat × Int))->k=j/\q=p / d/\∀ x ∈ r,x / d≠p / d:=λj d k q hm=>by
   by_cases e:newD d r p=0
   ·rw [if_pos e] at hm;simp at hm
   ·rw [if_neg e] at hm;simp only [List.mem_singleton,Prod.mk.injEq] at hm;exact ⟨hm.1,hm.2,λx x1 x2=>e (jP.2 ⟨x,x1,x2⟩)⟩
  refine ⟨?_,ih,?_⟩
  ·simp only [List.flatMap_cons,List.flatMap_nil,List.append_nil];generalize newD 134217728 r p=a;generalize newD 262144 r p=b;generalize newD 512 r p=c;by_cases a0:a=0<;>by_cases b0:b=0<;>by_cases c0:c=0<;>simp [a0,b0,c0]
  ·rintro ⟨k,q⟩ h1 ⟨k',q'⟩ h2 e;cases e;simp only [List.flatMap_cons,List.flatMap_nil,List.append_nil,List.mem_append] at h1;rw [plN_mem] at h2
   have fin:∀ j d,(∀ x,preP x j=x / d)->1<=j->(k=j/\q=p / d/\∀ x ∈ r,x / d≠p / d)->False:=λj d hj hj1 ⟨e1,e2,e3⟩=>by
    subst e1;rcases h2 with h2 | ⟨_,x,x1,x2⟩
    ·omega
    ·exact e3 x x1 (by rw [<-hj,x2,e2])
   rcases h1 with h1 | h1 | h1
   ·exact fin 1 134217728 (λ_=>rfl) (by omega) (one _ _ _ _ h1)
   ·exact fin 2 262144 (λ_=>rfl) (by omega) (one _ _ _ _ h1)
   ·exact fin 3 512 (λ_=>rfl) (by omega) (one _ _ _ _ h1)
theorem pZ {α β:Type} {f:α->β}:∀ {l:List α},l.Nodup->(∀ a ∈ l,∀ b ∈ l,f a=f b->a=b)->(l.map f).Nodup
 | [],_,_=>by simp
 | x::r,h,hf=>by
  rw [List.nodup_cons] at h;rw [List.map_cons,List.nodup_cons];refine ⟨λz=>?_,pZ h.2 λa ha b hb=>hf a (List.mem_cons_of_mem _ ha) b (List.mem_cons_of_mem _ hb)⟩;obtain ⟨y,hy,e⟩:=List.mem_map.1 z;have:=hf y (List.mem_cons_of_mem _ hy) x (by simp) e;exact h.1 (by rw [<-this];exact hy)
theorem Rest.len (h:Rest G W root tab lf tl) (hm:∀ p,p ∈ ps↔lf p≠none):tl.length=kY ps:=by
 rw [<-aDD]
 have key:∀ k q f,tab k q=some f->(k,q) ∈ plN ps:=λk q f e=>by
  rw [plN_mem];rcases Nat.eq_zero_or_pos k with k0 | k0
  ·subst k0;exact .inl ⟨rfl,((h.T.root q f).1 e).1⟩
  ·have k3:k<=3:=by
    rcases Nat.lt_or_ge 3 k with z | z
    ·rw [h.T.deep k q z] at e;cases e
    ·exact z
   exact .inr ⟨⟨k0,k3⟩,(h.tab_iff hm ⟨k0,k3⟩).1 (by rw [e];simp)⟩
 have back:∀ x ∈ plN ps,∃ f,tab x.1 x.2=some f:=λ⟨k,q⟩ hx=>by
  rcases (plN_mem ps k q).1 hx with ⟨rfl,rfl⟩ | ⟨h1,h2⟩
  ·exact ⟨root,(h.T.root 0 root).2 ⟨rfl,rfl⟩⟩
  ·exact Option.ne_none_iff_exists'.1 ((h.tab_iff hm h1).2 h2)
 have hget:∀ x ∈ plN ps,tab x.1 x.2=some ((tab x.1 x.2).getD 0):=λx hx=>by
  obtain ⟨f,e⟩:=back x hx;rw [e];rfl
 refine Nat.le_antisymm ?_ ?_
 ·have:=lJ (l:=(plN ps).map λx=>(tab x.1 x.2).getD 0) h.nd λf hf=>by
   obtain ⟨k,q,e⟩:=(h.mem f).1 hf;exact List.mem_map.2 ⟨(k,q),key k q f e,by simp [e]⟩
  simpa using this
 ·have hn:((plN ps).map λx=>(tab x.1 x.2).getD 0).Nodup:=pZ (yK ps) λx hx y hy e=>by
   have e1:=hget x hx;have e2:=hget y hy;rw [e] at e1;have:=h.T.apart _ _ _ _ _ e1 e2;exact Prod.ext this.1 this.2
  have:=lJ (l:=tl) hn λf hf=>by
   obtain ⟨x,hx,e⟩:=List.mem_map.1 hf;have:=hget x hx;rw [e] at this;exact (h.mem f).2 ⟨_,_,this⟩
  simpa using this
end Go.Dn
namespace Go.Dn
variable {A:AH} {l R:List SP} {t blk cap i:Nat} {ns:List Nd} {rest:List Value} {nd:Nd}
def firstDead:List Nd->Option Nat
 | []=>none
 | d::r=>if d.live then (firstDead r).map (·+1) else some 0
theorem gL:∀ {ns:List Nd} {j:Nat},firstDead ns=some j->∃ d,ns[j]? = some d/\d.live=false
 | [],j,h=>by simp [firstDead] at h
 | d::r,j,h=>by
  unfold firstDead at h;split at h
  ·cases e:firstDead r with
   | none=>rw [e] at h;cases h
   | some k=>
    rw [e] at h;cases h;exact gL (ns:=r) e
  ·rename_i hd;cases h;exact ⟨d,rfl,by simpa using hd⟩
theorem vA {ns:List Nd} {v:Nat} {d:Nd} (hv:ns[v]? = some d):firstDead (ns.drop v)=if d.live then (firstDead (ns.drop (v+1))).map (·+1) else some 0:=by
 obtain ⟨h1,h2⟩:=List.getElem?_eq_some_iff.1 hv;rw [List.drop_eq_getElem_cons h1,h2];rfl
theorem aDf {P:SP} {k:Nat} {s:Sl} {v c:Nat} {d:Nd} {x:Value} (h:Own l A) (e:l[k]? = some P) (hr:bI P s 5 (ndCells ns)) (hv:ns[v]? = some d) (hc:c<5) (hx:d.cells[c]? = some x):∃ bb o,s.a=some ⟨bb,o,none⟩/\bM A ⟨bb,o+(v*5+c),none⟩=some x:=
 bW h e hr (by rw [oH c hv hc];exact hx)
theorem vJ {P:SP} {k:Nat} {s:Sl} {Q:Int->AH->Prop} (h:Own l A) (e:l[k]? = some P) (hr:bI P s 5 (ndCells ns)) (hb:ns.length<=64) (h0:firstDead ns=none->Q (-1) A) (h1:∀ j,firstDead ns=some j->Q j A) :
  qbw_A s Q A:=by
 have hl:s.len=ns.length:=by have:=eV h e hr;rw [dA] at this;omega
 unfold qbw_A qbw_G;refine ⟨λx m h'=>∃ v:Nat,x=v/\m+v=ns.length/\h'=A/\firstDead ns=(firstDead (ns.drop v)).map (·+v),⟨ns.length,0,rfl,rfl,rfl,by rw [List.drop_zero];cases firstDead ns<;>rfl⟩,?_⟩;intro x m A1 ⟨v,e1,e2,e3,e4⟩;subst e1 e3;refine aG (λc=>?_) λc=>?_
 ·have c:(v:Int)<s.len:=of_decide_eq_true c;obtain ⟨d,hd⟩:∃ d,ns[v]? = some d:=⟨ns[v]'(by omega),by simp⟩;obtain ⟨bb,o,q1,c0⟩:=aDf (c:=0) h e hr hd (by omega) rfl
  have same:∀ {c:Nat} {x:Value},c<5->d.cells[c]? = some x->bM A1 ⟨bb,o+(v*5+c),none⟩=some x:=λ{c x} hc hx=>by
   obtain ⟨b2,o2,q2,c2⟩:=aDf h e hr hd hc hx;rw [q1] at q2;cases q2;exact c2
  have ad:∀ c,Addr.add (Addr.add ⟨bb,o,none⟩ (Int.toNat (v:Int)*5)) c=⟨bb,o+(v*5+c),none⟩:=λc=>by rw [add_at,add_at,Int.toNat_natCast,Nat.add_assoc]
  rw [q1];refine inB_in (by omega) c ⟨d.par,by rw [add_at,Int.toNat_natCast];exact c0,⟨d.quo,by rw [ad];exact same (by omega) rfl,⟨d.use,by rw [ad];exact same (by omega) rfl,⟨d.lent,by rw [ad];exact same (by omega) rfl,⟨d.live,by rw [ad];exact same (by omega) rfl,?_⟩⟩⟩⟩⟩;unfold qbv_A;rw [vA hd] at e4;refine aG (λg=>?_) λg=>?_
  ·have g:d.live=false:=by simpa using g
   rw [g] at e4;exact h1 v (by rw [e4];simp)
  ·have g:d.live=true:=by simpa using g
   rw [g] at e4;refine ⟨m-1,by omega,v+1,by rw [bG]<;>omega,by omega,rfl,?_⟩;rw [e4];cases firstDead (ns.drop (v+1)) with
   | none=>rfl
   | some j=>simp;omega
 ·have c:¬(v:Int)<s.len:=of_decide_eq_false c;refine h0 ?_;rw [e4,List.drop_eq_nil_of_le (by omega)];rfl
theorem uI {P:SP} {k:Nat} {s:Sl} {Q:Sl->AH->Prop} (h:Own l A) (e:l[k]? = some P) (hr:bI P s 5 (ndCells ns)) (hb:ns.length<=64) (hn:s.a≠none)
  (hk:∀ s' A',s'.len=ns.length->(s'.a=none->ndCells ns=[])->Own (SlO s' 5 (ndCells ns)::l) A'->Q s' A'):qbx_A s Q A:=by
 have hl:s.len=ns.length:=by have:=eV h e hr;rw [dA] at this;omega
 unfold qbx_A
 refine bsel_f (by cases ha:s.a with
  | none=>exact absurd ha hn
  | some a=>rfl) ?_
 refine aX (cs:=[]) h λb1 A1 h1=>?_;have h1:Own (SlO ⟨some ⟨b1,0,none⟩,0,0⟩ 5 []::l) A1:=h1.imp λB _=>⟨⟨by simp,Nat.le_refl _⟩,.inl rfl⟩;refine cN (i:=k) h1 e hr (λg=>absurd g hn) (λg=>by cases g) rfl (λv hv=>?_) ⟨by simp only [hl];omega,by simp only [hl];omega⟩ λs' A2 j1 j2 h2=>?_
 ·unfold ndCells at hv;obtain ⟨d,_,hd⟩:=List.mem_flatMap.1 hv;simp [Nd.cells] at hd;rcases hd with rfl | rfl | rfl | rfl | rfl<;>rfl
 ·exact hk s' A2 (by rw [j1,hl];simp) (λg=>by simpa using j2 g) (by simpa using h2)
theorem sP (a c:List Nd):ndCells (a++c)=ndCells a++ndCells c:=List.flatMap_append
theorem sY:∀ {ns:List Nd} {i:Nat} {nd:Nd} (f:Nat) (v:Value) (nd':Nd),ns[i]? = some nd->f<5->nd'.cells=nd.cells.set f v->(ndCells ns).set (i*5+f) v=ndCells (ns.set i nd')
 | [],_,_,_,_,_,e,_,_=>by simp at e
 | d::ns,0,nd,f,v,nd',e,hf,hc=>by
  simp at e;subst e;show (d.cells++ndCells ns).set (0*5+f) v=nd'.cells++ndCells ns;rw [hc,List.set_append_left _ _ (by simp [Nd.cells];omega),Nat.zero_mul,Nat.zero_add]
 | d::ns,i+1,nd,f,v,nd',e,hf,hc=>by
  have:=sY (ns:=ns) (i:=i) (nd:=nd) f v nd' (by simpa using e) hf hc;show (d.cells++ndCells ns).set ((i+1)*5+f) _=d.cells++ndCells (ns.set i nd');rw [List.set_append_right _ _ (by simp [Nd.cells];omega)];rw [show (i+1)*5+f-d.cells.length=i*5+f by simp [Nd.cells];omega,this]
theorem kZ {f:Nat} {v:Value} {nd':Nd} {K:AP} (h:Own (fR t blk cap ns rest++R) A) (hi:ns[i]? = some nd) (hf:f<5) (hv:v.oneCell'=true) (hc:nd'.cells=nd.cells.set f v) (hK:∀ A',Own (fR t blk cap (ns.set i nd') rest++R) A'->K A'):aC ⟨blk,i*5+f,none⟩ v A K:=by
 have hl:=(List.getElem?_eq_some_iff.1 hi).1;have h5:nd.cells[f]? = some (nd.cells[f]'(by simp [Nd.cells];omega)):=by simp
 refine aJ (i:=1) h rfl ?_ hv λA' h'=>hK A' ?_
 ·rw [kA hi hf h5];rfl
 ·have h':Own (At t [.slice (some ⟨blk,0,none⟩) ns.length cap]::At blk ((ndCells ns++rest).set (i*5+f) v)::R) A':=h';rw [List.set_append_left _ _ (by rw [dA];omega),sY f v nd' hi hf hc] at h';show Own (At t [.slice (some ⟨blk,0,none⟩) (ns.set i nd').length cap]::At blk (ndCells (ns.set i nd')++rest)::R) A';rw [List.length_set];exact h'
set_option maxHeartbeats 1000000 in
theorem aCh {q:Int} {Q:Int->Int->AH->Prop} (h:Own (TreeS t ns::R) A) (hi:ns[i]? = some nd) (hlv:nd.live=true) (h1:q<0->Q 0 1 A) (h8:0<=q->q > nd.quo-nd.use-nd.lent->Q 0 8 A)
  (h4:0<=q->q<=nd.quo-nd.use-nd.lent->firstDead ns=none->64<=ns.length->Q 0 4 A)
  (hnew:0<=q->q<=nd.quo-nd.use-nd.lent->firstDead ns=none->ns.length<64->∀ A',Own (TreeS t (ns.set i { nd with lent:=nd.lent+q }++[⟨i,q,0,0,true⟩])::R) A'->Q ns.length 0 A')
  (hold:0<=q->q<=nd.quo-nd.use-nd.lent->∀ j,firstDead ns=some j->∀ A',Own (TreeS t ((ns.set i { nd with lent:=nd.lent+q }).set j ⟨i,q,0,0,true⟩)::R) A'->Q j 0 A') :
  qby_A (some ⟨t,0,none⟩) i q Q A:=by
 obtain ⟨blk,cap,rest,⟨hlen,hoks⟩,hh⟩:=TreeS.openH h;have hok:=hoks nd (List.mem_of_getElem? hi);obtain ⟨o1,o2,o3,o4⟩:=hok;have hil:=(List.getElem?_eq_some_iff.1 hi).1;unfold qby_A qby_G;refine sD hh hi hlv (bsel_f rfl (aG (λc=>h1 (of_decide_eq_true c)) λc=>?_));have q0:0<=q:=Int.not_lt.1 (of_decide_eq_false c);refine vO hh hi hlv ⟨o1,o2,o3,o4⟩ (aG (λc=>h8 q0 (of_decide_eq_true c)) λc=>?_);have q1:q<=nd.quo-nd.use-nd.lent:=Int.not_lt.1 (of_decide_eq_false c);have rdN:∀ {ns:List Nd} {cap:Nat} {rest:List Value},bI (At blk (ndCells ns++rest)) ⟨some ⟨blk,0,none⟩,ns.length,cap⟩ 5 (ndCells ns):=λ{ns cap rest}=>fD (by rw [dA]);refine ld_S (i:=0) hh rfl rfl ?_;have hnd':({ nd with lent:=nd.lent+q }:Nd).OK:=⟨o1,by simp;omega,by simp;omega,o4⟩;have hnn:(⟨i,q,0,0,true⟩:Nd).OK:=⟨by simp,by simp,by simp;omega,by simp;omega⟩
 have hidx:∀ n8:Int,((n8 = -1/\firstDead ns=none)\/∃ j:Nat,n8=j/\firstDead ns=some j)->
   ∃ R10:AH->Prop,(∀ h13,R10 h13->aF (some ⟨blk,i*5,none⟩:Option Addr) λa14=>aI .i64 (Addr.add a14 3) h13 λn15=>aF (some ⟨blk,i*5,none⟩:Option Addr) λa16=>aC (Addr.add a16 3) (.int .i64 (IntKind.wrap .i64 (n15+q))) h13 λh17=>
    bsel (decide (n8<(0:Int))) (aF (some ⟨t,0,none⟩:Option Addr) λa18=>aS a18 h17 λs19=>
     ((qbx_A s19 (λs20 h21=>aT h21 (.cells #[(.int .i64 i),(.int .i64 q),(.int .i64 (0:Int)),(.int .i64 (0:Int)),(.bool (true:Bool))] 104) λb22 h23=>
       jZ 5 40 #[(.int .i64 (0:Int)),(.int .i64 (0:Int)),(.int .i64 (0:Int)),(.int .i64 (0:Int)),(.bool false)] 104 s20 (Sl.mk (some (Addr.mk b22 0 none)) 1 1) h23 λs24 h25=>
        aF (some ⟨t,0,none⟩:Option Addr) λa26=>aC a26 (.slice s24.a s24.len s24.cap) h25 λh27=>aF (some ⟨t,0,none⟩:Option Addr) λa28=>aS a28 h27 λs29=>Q (IntKind.wrap .i64 ((Int.ofNat s29.len)-(1:Int))) (0:Int) h27) h17)/\
     aT h17 (.cells #[(.int .i64 i),(.int .i64 q),(.int .i64 (0:Int)),(.int .i64 (0:Int)),(.bool (true:Bool))] 104) λb30 h31=>
      (aS a18 h31 λs32=>(((.slice s32.a s32.len s32.cap):Value)=(.slice s19.a s19.len s19.cap)))/\
      qbx_A s19 (λs33 h34=>jZ 5 40 #[(.int .i64 (0:Int)),(.int .i64 (0:Int)),(.int .i64 (0:Int)),(.int .i64 (0:Int)),(.bool false)] 104 s33 (Sl.mk (some (Addr.mk b30 0 none)) 1 1) h34 λs35 h36=>
       aF (some ⟨t,0,none⟩:Option Addr) λa37=>aC a37 (.slice s35.a s35.len s35.cap) h36 λh38=>aF (some ⟨t,0,none⟩:Option Addr) λa39=>aS a39 h38 λs40=>Q (IntKind.wrap .i64 ((Int.ofNat s40.len)-(1:Int))) (0:Int) h38) h31))
    (aF (some ⟨t,0,none⟩:Option Addr) λa41=>aS a41 h17 λs42=>aF s42.a λa43=>bF n8 s42.len (aC (Addr.add a43 (Int.toNat n8*5)) (.int .i64 i) h17 λh44=>aC (Addr.add (Addr.add a43 (Int.toNat n8*5)) 1) (.int .i64 q) h44 λh45=>
     aC (Addr.add (Addr.add a43 (Int.toNat n8*5)) 2) (.int .i64 (0:Int)) h45 λh46=>aC (Addr.add (Addr.add a43 (Int.toNat n8*5)) 3) (.int .i64 (0:Int)) h46 λh47=>aC (Addr.add (Addr.add a43 (Int.toNat n8*5)) 4) (.bool (true:Bool)) h47 λh48=>Q n8 (0:Int) h48)))/\
    (bsel (decide (n8<(0:Int))) (aF (some ⟨t,0,none⟩:Option Addr) λa11=>aS a11 A λs12=>bsel (decide ((Int.ofNat s12.len)>=(64:Int))) (Q (0:Int) (4:Int) A) (R10 A)) (R10 A)):=by
  intro n8 hn8;refine ⟨λh'=>h'=A/\(firstDead ns=none->ns.length<64),?_,?_⟩
  ·intro A1 ⟨e1,hsm⟩;subst e1;refine nP (f:=3) hh hi (by omega) rfl ?_;simp only [aF,add_at];rw [bG (n:=nd.lent+q) (by omega) (by omega)];refine kZ (nd':={ nd with lent:=nd.lent+q }) hh hi (by omega) rfl rfl λA2 h2=>?_;have hlen':(ns.set i { nd with lent:=nd.lent+q }).length=ns.length:=List.length_set ..;rcases hn8 with ⟨e8,hd⟩ | ⟨j,e8,hd⟩
   ·subst e8;have hsm:=hsm hd;refine aN rfl (ld_S (i:=0) h2 rfl rfl ⟨?_,?_⟩)
    ·-- first the copy
     refine uI (k:=1) h2 rfl rdN (by omega) (by simp) λs20 A3 l20 n20 h3=>?_;refine aX (cs:=(⟨i,q,0,0,true⟩:Nd).cells) h3 λb22 A4 h4=>?_;refine cN (i:=0) (P:=At b22 ((⟨i,q,0,0,true⟩:Nd).cells++[])) h4.swap (by simp) (fD (by simp [Nd.cells])) (λg=>by cases g) (λg=>n20 g) rfl (λv hv=>?_) ⟨by simp only [l20,hlen'];omega,by simp only [l20,hlen'];omega⟩ λs24 A5 l24 n24 h5=>?_
     ·simp [Nd.cells] at hv;rcases hv with rfl | rfl | rfl | rfl | rfl<;>rfl
     have h5:Own (SlO s24 5 (ndCells (ns.set i { nd with lent:=nd.lent+q }++[⟨i,q,0,0,true⟩]))::At b22 (⟨i,q,0,0,true⟩:Nd).cells::At t [.slice (some ⟨blk,0,none⟩) (ns.set i { nd with lent:=nd.lent+q }).length cap]::At blk (ndCells (ns.set i { nd with lent:=nd.lent+q })++rest)::R) A5:=by
      have e1:ndCells [(⟨i,q,0,0,true⟩:Nd)]=(⟨i,q,0,0,true⟩:Nd).cells:=by simp [ndCells]
      rw [sP,e1];exact h5
     refine aJ (i:=2) h5 rfl rfl rfl λA6 h6=>ld_S (i:=2) h6 rfl rfl ?_;have h6:Own (SlO s24 5 (ndCells (ns.set i { nd with lent:=nd.lent+q }++[⟨i,q,0,0,true⟩]))::At b22 (⟨i,q,0,0,true⟩:Nd).cells::At t [.slice s24.a s24.len s24.cap]::At blk (ndCells (ns.set i { nd with lent:=nd.lent+q })++rest)::R) A6:=h6;have e24:s24.len=ns.length+1:=by rw [l24,l20,hlen']
     rw [show IntKind.wrap .i64 (Int.ofNat s24.len-1)=(ns.length:Int) by rw [e24,bG]<;>simp<;>omega];refine hnew q0 q1 hd hsm A6 ?_;obtain ⟨hp,h6⟩:=Own.pure h6;have hcap:s24.cap≠0:=by omega
     have h6:=h6.imp (P':=λB=>∃ b rest',s24.a=some ⟨b,0,none⟩/\At b (ndCells (ns.set i { nd with lent:=nd.lent+q }++[⟨i,q,0,0,true⟩])++rest') B) λB hB=>by
      rcases hB with hB | ⟨b,rest',g1,_,g3⟩
      ·exact absurd hB hcap
      ·exact ⟨b,rest',g1,g3⟩
     obtain ⟨b,h6⟩:=Own.ex h6;obtain ⟨rest',h6⟩:=Own.ex h6;obtain ⟨ha,h6⟩:=Own.pure h6;rw [ha,e24] at h6;refine TreeS.closeH (ns:=ns.set i { nd with lent:=nd.lent+q }++[⟨i,q,0,0,true⟩]) (blk:=b) (cap:=s24.cap) (rest:=rest') (by simp;omega) (λd hd'=>?_) ?_
     ·rcases List.mem_append.1 hd' with hd' | hd'
      ·exact rM hoks hnd' d hd'
      ·simp at hd';subst hd';exact hnn
     ·have:(ns.set i { nd with lent:=nd.lent+q }++[(⟨i,q,0,0,true⟩:Nd)]).length=ns.length+1:=by simp
      unfold fR;rw [this];exact (h6.pick 2 rfl).sub (List.Sublist.cons_cons _ (List.Sublist.cons_cons _ ((List.sublist_cons_self _ _).trans (List.sublist_cons_self _ _))))
    ·-- first the new one
     refine aX (cs:=(⟨i,q,0,0,true⟩:Nd).cells) h2 λb30 A3 h3=>?_;refine ⟨ld_S (i:=1) h3 rfl rfl rfl,?_⟩;refine uI (k:=2) h3 rfl rdN (by omega) (by simp) λs20 A4 l20 n20 h4=>?_;refine cN (i:=0) (P:=At b30 ((⟨i,q,0,0,true⟩:Nd).cells++[])) h4 (by simp) (fD (by simp [Nd.cells])) (λg=>by cases g) (λg=>n20 g) rfl (λv hv=>?_) ⟨by simp only [l20,hlen'];omega,by simp only [l20,hlen'];omega⟩ λs24 A5 l24 n24 h5=>?_
     ·simp [Nd.cells] at hv;rcases hv with rfl | rfl | rfl | rfl | rfl<;>rfl
     have h5:Own (SlO s24 5 (ndCells (ns.set i { nd with lent:=nd.lent+q }++[⟨i,q,0,0,true⟩]))::At b30 (⟨i,q,0,0,true⟩:Nd).cells::At t [.slice (some ⟨blk,0,none⟩) (ns.set i { nd with lent:=nd.lent+q }).length cap]::At blk (ndCells (ns.set i { nd with lent:=nd.lent+q })++rest)::R) A5:=by
      have e1:ndCells [(⟨i,q,0,0,true⟩:Nd)]=(⟨i,q,0,0,true⟩:Nd).cells:=by simp [ndCells]
      rw [sP,e1];exact h5
     refine aJ (i:=2) h5 rfl rfl rfl λA6 h6=>ld_S (i:=2) h6 rfl rfl ?_;have h6:Own (SlO s24 5 (ndCells (ns.set i { nd with lent:=nd.lent+q }++[⟨i,q,0,0,true⟩]))::At b30 (⟨i,q,0,0,true⟩:Nd).cells::At t [.slice s24.a s24.len s24.cap]::At blk (ndCells (ns.set i { nd with lent:=nd.lent+q })++rest)::R) A6:=h6;have e24:s24.len=ns.length+1:=by rw [l24,l20,hlen']
     rw [show IntKind.wrap .i64 (Int.ofNat s24.len-1)=(ns.length:Int) by rw [e24,bG]<;>simp<;>omega];refine hnew q0 q1 hd hsm A6 ?_;obtain ⟨hp,h6⟩:=Own.pure h6;have hcap:s24.cap≠0:=by omega
     have h6:=h6.imp (P':=λB=>∃ b rest',s24.a=some ⟨b,0,none⟩/\At b (ndCells (ns.set i { nd with lent:=nd.lent+q }++[⟨i,q,0,0,true⟩])++rest') B) λB hB=>by
      rcases hB with hB | ⟨b,rest',g1,_,g3⟩
      ·exact absurd hB hcap
      ·exact ⟨b,rest',g1,g3⟩
     obtain ⟨b,h6⟩:=Own.ex h6;obtain ⟨rest',h6⟩:=Own.ex h6;obtain ⟨ha,h6⟩:=Own.pure h6;rw [ha,e24] at h6;refine TreeS.closeH (ns:=ns.set i { nd with lent:=nd.lent+q }++[⟨i,q,0,0,true⟩]) (blk:=b) (cap:=s24.cap) (rest:=rest') (by simp;omega) (λd hd'=>?_) ?_
     ·rcases List.mem_append.1 hd' with hd' | hd'
      ·exact rM hoks hnd' d hd'
      ·simp at hd';subst hd';exact hnn
     ·have:(ns.set i { nd with lent:=nd.lent+q }++[(⟨i,q,0,0,true⟩:Nd)]).length=ns.length+1:=by simp
      unfold fR;rw [this];exact (h6.pick 2 rfl).sub (List.Sublist.cons_cons _ (List.Sublist.cons_cons _ ((List.sublist_cons_self _ _).trans (List.sublist_cons_self _ _))))
   ·subst e8;obtain ⟨d,hdj,hdl⟩:=gL hd;have hij:i≠j:=λg=>by subst g;rw [hi] at hdj;cases hdj;rw [hlv] at hdl;cases hdl
    have hjl:=(List.getElem?_eq_some_iff.1 hdj).1;have hdj':(ns.set i { nd with lent:=nd.lent+q })[j]? = some d:=by rw [List.getElem?_set_ne hij];exact hdj
    generalize hns:ns.set i { nd with lent:=nd.lent+q } = ns' at *;refine bsel_f (by simp) (ld_S (i:=0) h2 rfl rfl (inB_in (by omega) (by show (j:Int)<(ns'.length:Int);omega) ?_));simp only [add_at,Int.toNat_natCast,Nat.zero_add];have at_:∀ {m:List Nd} {x:Nd},j<m.length->(m.set j x)[j]? = some x:=λhm=>by simp [hm]
    rw [show j*5=j*5+0 by omega];refine kZ (f:=0) (nd':=⟨i,d.quo,d.use,d.lent,d.live⟩) h2 hdj' (by omega) rfl rfl λA3 h3=>?_;refine kZ (f:=1) (nd':=⟨i,q,d.use,d.lent,d.live⟩) h3 (at_ (by omega)) (by omega) rfl rfl λA4 h4=>?_;refine kZ (f:=2) (nd':=⟨i,q,0,d.lent,d.live⟩) h4 (at_ (by simp;omega)) (by omega) rfl rfl λA5 h5=>?_;refine kZ (f:=3) (nd':=⟨i,q,0,0,d.live⟩) h5 (at_ (by simp;omega)) (by omega) rfl rfl λA6 h6=>?_;refine kZ (f:=4) (nd':=⟨i,q,0,0,true⟩) h6 (at_ (by simp;omega)) (by omega) rfl rfl λA7 h7=>?_;simp only [List.set_set] at h7;refine hold q0 q1 j hd A7 (TreeS.closeH (by simp;omega) (λd' hd'=>?_) h7);refine rM (λd2 hd2=>?_) hnn d' hd';rw [<-hns] at hd2;exact rM hoks hnd' d2 hd2
  ·rcases hn8 with ⟨e8,hd⟩ | ⟨j,e8,hd⟩
   ·subst e8;refine aN rfl (ld_S (i:=0) hh rfl rfl (aG (λg=>h4 q0 q1 hd ?_) λg=>⟨rfl,λ_=>?_⟩))
    ·have:=of_decide_eq_true g;have e:Int.ofNat ns.length=(ns.length:Int):=rfl;simp only at this;omega
    ·have:=of_decide_eq_false g;have e:Int.ofNat ns.length=(ns.length:Int):=rfl;simp only at this;omega
   ·subst e8;exact bsel_f (by simp) ⟨rfl,λg=>by rw [hd] at g;cases g⟩
 exact vJ (k:=1) hh rfl rdN hlen (λg=>hidx (-1) (.inl ⟨rfl,g⟩)) λj g=>hidx j (.inr ⟨j,rfl,g⟩)
end Go.Dn
