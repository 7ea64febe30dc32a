/- What the proof stands on. -/
import Derived.Test.YtfnkdpmbpgffbaaGreatBits
import Derived.Test.YtfnkdpmbpgffbaaGreatPurse
namespace Go.Dn
variable {A:AH} {l R:List SP} {r b t i:Nat} {fr n:Int} {hs:List (Int × Int)} {W:Int->Int->Int} {F G:Int->Prop} {ns:List Nd} {nd:Nd}
theorem Own.unrot4 {a c d e:SP} (h:Own (e::a::c::d::R) A):Own (a::c::d::e::R) A:=
 h.perm ((List.Perm.swap _ _ _).trans (List.Perm.cons _ ((List.Perm.swap _ _ _).trans (List.Perm.cons _ (List.Perm.swap _ _ _)))))
theorem qH {b k sz:Nat} {cs:List Value} (a:k*sz=cs.length) {B:AH} (h:At b cs B):SlO ⟨some ⟨b,0,none⟩,k,k⟩ sz cs B:=
 ⟨⟨a,Nat.le_refl _⟩,.inr ⟨b,[],rfl,by simp;omega,by simpa using h⟩⟩
def intsV (l:List Int):List Value:=l.map (.int .i64)
theorem iJ (a c:List Int):intsV (a++c)=intsV a++intsV c:=List.map_append
theorem yQ (ns:List Nd) (i:Nat) (nd:Nd) (x y:Int):useN (useN ns i nd x) i { nd with use:=x } y=useN ns i nd y:=by
 unfold useN;rw [List.set_set]
theorem t9 (hi:ns[i]? = some nd):useN ns i nd nd.use=ns:=by
 unfold useN;apply List.ext_getElem?;intro j;rw [List.getElem?_set];split
 .rename_i g;subst g;rw [if_pos (List.getElem?_eq_some_iff.1 hi).1,hi]
 .rfl
theorem Bud.congr {a c:Int->Prop} {d:Int} (e:∀ x,F x↔a x) (f:∀ x,G x↔c x) (g:n=d) (h:Own (Bud b F G n::R) A):Own (Bud b a c d::R) A:=by
 have e1:F=a:=funext λx=>propext (e x);have j:G=c:=funext λx=>propext (f x);subst e1 j g;exact h
def taken (r:Nat) (fr:Int) (hs:List (Int × Int)) (W:Int->Int->Int) (b:Nat) (F G:Int->Prop) (n:Int) (t:Nat) (ns:List Nd) (i:Nat) (nd:Nd) (tk:List Int):List SP:=
 [RamW r fr hs W,Bud b (λx=>F x/\x ∉ tk) (λx=>G x\/x ∈ tk) (n-tk.length),TreeS t (useN ns i nd (nd.use+tk.length))]
theorem oQ (hi:ns[i]? = some nd) (h:Own (RamW r fr hs W::Bud b F G n::TreeS t ns::R) A):Own (taken r fr hs W b F G n t ns i nd []++R) A:=by
 have e:useN ns i nd (nd.use+(([]:List Int).length:Int))=ns:=by
  simp only [List.length_nil];rw [show nd.use+((0:Nat):Int)=nd.use by omega];exact t9 hi
 unfold taken;rw [e];exact h.cons λC a=>Bud.congr (λx=>by simp) (λx=>by simp) (by simp) a
theorem pF (hi:ns[i]? = some nd) (h:Own (taken r fr hs W b F G n t ns i nd []++R) A):Own (RamW r fr hs W::Bud b F G n::TreeS t ns::R) A:=by
 have e:useN ns i nd (nd.use+(([]:List Int).length:Int))=ns:=by
  simp only [List.length_nil];rw [show nd.use+((0:Nat):Int)=nd.use by omega];exact t9 hi
 unfold taken at h;rw [e] at h;exact h.cons λC a=>Bud.congr (λx=>by simp) (λx=>by simp) (by simp) a
theorem l5 {tk:List Int} {Q:Int->Int->AH->Prop} (h:Own (taken r fr hs W b F G n t ns i nd tk++R) A) (hi:ns[i]? = some nd) (g:nd.live=true) (k:∀ x,F x->hasF fr hs x=true)
  (m:nd.quo-nd.use-nd.lent<=tk.length->Q 0 8 A) (o:tk.length<nd.quo-nd.use-nd.lent->n=tk.length->∀ a,Own (taken r fr hs W b F G n t ns i nd tk++R) a->Q 0 7 a)
  (p:tk.length<nd.quo-nd.use-nd.lent->n≠tk.length->∀ f a,F f->f ∉ tk->Own (taken r fr hs (zeroW W f) b F G n t ns i nd (tk++[f])++R) a->Q f 0 a) :
  qbf_A (some ⟨r,0,none⟩) (some ⟨b,0,none⟩) (some ⟨t,0,none⟩) i Q A:=by
 refine yW (nd:={ nd with use:=nd.use+tk.length }) h (useN_at hi _) g (λx q=>k x q.1) (λc=>m (by simp at c;omega)) (λc d a e=>o (by simp at c;omega) (by omega) a e) λc d f a j e=>p (by simp at c;omega) (by omega) f a j.1 j.2 ?_;rw [yQ] at e;unfold taken;rw [show nd.use+((tk++[f]).length:Int)=nd.use+tk.length+1 by simp;omega];refine e.cons λC s=>Bud.congr (λx=>?_) (λx=>?_) (by simp;omega) s
 .grind
 .grind
theorem yA {f:Int} {tk:List Int} {Q:AH->Prop} (h:Own (taken r fr hs W b F G n t ns i nd (f::tk)++R) A) (hi:ns[i]? = some nd) (c:nd.live=true) (k:0<=nd.use) (m:F f) (d:(f::tk).Nodup) (o:¬G f)
  (g:∀ a,Own (taken r fr hs W b F G n t ns i nd tk++R) a->Q a):qbh_A (some ⟨r,0,none⟩) (some ⟨b,0,none⟩) (some ⟨t,0,none⟩) i f Q A:=by
 refine jH (nd:={ nd with use:=nd.use+(f::tk).length }) h (useN_at hi _) c (.inr List.mem_cons_self) (by simp;omega) λa e=>g a ?_;rw [yQ] at e;have hno:=(List.nodup_cons.1 d).1;unfold taken;rw [show nd.use+(tk.length:Int)=nd.use+((f::tk).length:Int)-1 by simp;omega];refine e.cons λC j=>Bud.congr (λx=>?_) (λx=>?_) (by simp;omega) j
 .grind
 .grind
def kEnt (f:Int):Int:=packZ true true false false false false false false f
def kBig (f:Int):Int:=packZ true true false false false true true true f
structure KOK (fr:Int) (W0:Int->Int->Int) (top:Int) (ms:List Int) (W:Int->Int->Int):Prop where
 nodup:(top::ms).Nodup
 other:∀ f,f ∉ top::ms->W f=W0 f
 top:∀ q:Nat,q<512->W top q=match ms[q]? with | some m=>kEnt m | none=>0
 mid:∀ (c:Nat) m,ms[c]? = some m->∀ q:Nat,q<512->W m q=if (c:Int)*262144+q*512<fr then kBig (c*262144+q*512) else 0
def needK (fr:Int):Nat:=((fr+262143) / 262144).toNat
theorem bX {W:Int->Int->Int} {t i x f:Int} (h:f≠t):setW W t i x f=W f:=by
 funext q;unfold setW;rw [if_neg (λg=>h g.1)]
theorem eK {W:Int->Int->Int} {t f:Int} (h:f≠t):zeroW W t f=W f:=by
 funext q;unfold zeroW;rw [if_neg h]
theorem aR {s:Sl} {sz:Nat} {cs:List Value}:Reads (SlO s sz cs) s sz cs:=λB A h u=>pP B A h.look u
theorem KOK.step {z W' o:Int->Int->Int} {top f:Int} {a:List Int} (d:KOK fr z top a W') (p:f ∉ top::a) (s:∀ u,u≠f->o u=setW (zeroW W' f) top a.length (kEnt f) u)
  (H:∀ q:Nat,q<512->o f q=if (a.length:Int)*262144+q*512<fr then kBig ((a.length:Int)*262144+q*512) else 0):KOK fr z top (a++[f]) o:=by
 have h:top≠f:=λe=>p (by simp [e]);have v:∀ m ∈ a,m≠f/\m≠top:=λm j=>⟨λe=>p (by simp_all),λe=>(List.nodup_cons.1 d.nodup).1 (e ▸ j)⟩;refine ⟨?_,λg k=>?_,λq w=>?_,λc m j q w=>?_⟩
 .show ((top::a)++[f]).Nodup;exact List.nodup_append.2 ⟨d.nodup,by simp,λx D y B=>by simp at B;subst B;exact λe=>p (e ▸ D)⟩
 .simp only [List.mem_cons,List.mem_append,List.not_mem_nil,or_false,not_or] at k;rw [s g k.2.2,bX k.1,eK k.2.2];exact d.other g (by simp_all)
 .rw [s top h];unfold setW;by_cases e:q=a.length
  .simp_all
  .rw [if_neg (by omega),eK h,d.top q w];by_cases g:q<a.length
   .grind
   .grind
 .by_cases g:c<a.length
  .rw [List.getElem?_append_left g] at j;obtain ⟨C,E⟩:=v m (List.mem_of_getElem? j);rw [s m C,bX E,eK C];exact d.mid c m j q w
  .grind
theorem aLr (j:Nat):Int.fdiv ((j:Int)*262144) (2 ^ (18:Nat))=j:=by rw [qC];omega
theorem aLW {j q:Nat} (a:j<4) (c:q<512):IntKind.wrap .i64 ((j:Int)*262144+IntKind.wrap .i64 ((q:Int)*2 ^ (9:Nat)))=(j:Int)*262144+q*512:=by
 have e:((q:Int)*2 ^ (9:Nat))=q*512:=rfl;rw [e,w64 (n:=(q:Int)*512) (by omega) (by omega),w64 (by omega) (by omega)]
set_option maxRecDepth 100000 in
set_option maxHeartbeats 2000000 in
theorem aB1 {Q:Int->Int->AH->Prop} (h:Own (RamW r fr hs W::Bud b F G n::TreeS t ns::R) A) (hi:ns[i]? = some nd) (hlv:nd.live=true) (hF:∀ x,F x->hasF fr hs x=true) (hf1:1<=fr)
  (hbad:∀ e W' A',(e=8/\nd.quo-nd.use-nd.lent<1+needK fr/\nd.quo-nd.use-nd.lent<=n\/e=7/\n<1+needK fr/\n<nd.quo-nd.use-nd.lent)->(∀ f,¬F f->W' f=W f)->
   Own (RamW r fr hs W'::Bud b F G n::TreeS t ns::R) A'->Q 0 e A')
  (hk:1+needK fr<=nd.quo-nd.use-nd.lent->1+needK fr<=n->∀ top ms W' A',ms.length=needK fr->(∀ x ∈ top::ms,F x)->KOK fr W top ms W'->Own (taken r fr hs W' b F G n t ns i nd (top::ms)++R) A'->Q top 0 A') :
  qbq_A (some ⟨r,0,none⟩) (some ⟨b,0,none⟩) (some ⟨t,0,none⟩) i Q A:=by
 have hRam:aE6 fr hs:=(RamW.openH h).choose_spec.1.1;have hfr:=hRam.hi;obtain ⟨mb0,g0,st0,gl0,hB0,hG0,_,_⟩:=Bud.openH h.swap;have hn0:=hB0.nonneg;have hFG:∀ x,F x->¬G x:=λx hx hg=>(hG0.apart x hg).1 hx
 have hnd:nd.OK:=by
  obtain ⟨_,_,_,⟨_,h2⟩,_⟩:=TreeS.openH h.rot3;exact h2 nd (List.mem_of_getElem? hi)
 have hneed:((needK fr:Nat):Int)=(fr+262143) / 262144:=by unfold needK;omega
 unfold qbq_A qbq_G;refine l5 (oQ hi h) hi hlv hF (λc=>aG rfl ?_) (λc d A1 hA1=>aG rfl ?_) λc d top A1 hFt _ hA1=>bsel_f rfl ?_
 ·grind
 ·have c:0<nd.quo-nd.use-nd.lent:=by simpa using c
  have d:n=0:=by simpa using d
  exact hbad 7 W A1 (.inr ⟨rfl,by omega,by omega⟩) (λ_ _=>rfl) (pF hi hA1)
 show aN A1 (.cells (intsV [top]).toArray _) _;refine aT hA1 λb4 A2 hA2=>?_
 refine ⟨λs x m h'=>∃ (ms:List Int) (W':Int->Int->Int),x=(ms.length:Int)*262144/\ms.length<=needK fr/\needK fr-ms.length=m/\KOK fr W top ms W'/\(∀ x ∈ top::ms,F x)/\s.len=ms.length+1/\s.a≠none/\((top::ms).length:Int)<=nd.quo-nd.use-nd.lent/\((top::ms).length:Int)<=n/\
  Own (taken r fr hs W' b F G n t ns i nd (top::ms)++SlO s 1 (intsV (top::ms))::R) h',⟨_,[],zeroW W top,by simp,by simp,rfl,⟨by simp,λf hf=>eK (by simp_all),λq _=>by simp [zeroW],λc m hm=>by simp at hm⟩,λx hx=>?_,rfl,by simp,?_,?_,?_⟩,?_⟩
 ·simp_all
 ·grind
 ·grind
 ·have hA2:Own (At b4 (intsV [top])::(taken r fr hs (zeroW W top) b F G n t ns i nd [top]++R)) A2:=hA2;exact (hA2.imp λB hB=>qH (k:=1) (sz:=1) rfl hB).unrot4
 intro s x m A3 ⟨ms,W',i1,i2,i3,hK,i4,i5,i5b,i6,i7,hA3⟩;subst i1 i3;refine u9 hA3 ?_;refine bsel_in (λcc=>?_) λcc=>?_
 rotate_left
 ·have cc:¬ ((ms.length:Int)*262144<fr):=by simpa using cc
  have e:ms.length=needK fr:=by omega
  refine hk (by simp at i6;omega) (by simp at i7;omega) top ms W' A3 e i4 hK ?_;exact hA3.sub (List.Sublist.append_left (List.sublist_cons_self _ _) _)
 have cc:(ms.length:Int)*262144<fr:=by simpa using cc
 have hj4:ms.length<4:=by omega
 have giveback:∀ (e:Int) A4,(e=8/\nd.quo-nd.use-nd.lent<1+needK fr/\nd.quo-nd.use-nd.lent<=n\/e=7/\n<1+needK fr/\n<nd.quo-nd.use-nd.lent)->Own (taken r fr hs W' b F G n t ns i nd (top::ms)++SlO s 1 (intsV (top::ms))::R) A4->
   ∃ I17:Int->Nat->AH->Prop,(∃ m18,I17 (0:Int) m18 A4)/\∀ x21:Int,∀ m18 h20,I17 x21 m18 h20->
    (bsel (decide (x21<(Int.ofNat s.len))) (aF s.a λa22=>(bB x21 s.len (aI .i64 (Addr.add a22 (Int.toNat x21*1)) h20 λn23=>
     (qbh_A (some ⟨r,0,none⟩) (some ⟨b,0,none⟩) (some ⟨t,0,none⟩) i n23 (λh24=>(∃ m19,m19<m18/\I17 (IntKind.wrap .i64 (x21+(1:Int))) m19 h24)) h20)))) (Q (0:Int) e h20)):=by
  intro e A4 he hA4;refine ⟨λx m h'=>∃ c:Nat,x=c/\c<=ms.length+1/\ms.length+1-c=m/\Own (taken r fr hs W' b F G n t ns i nd ((top::ms).drop c)++SlO s 1 (intsV (top::ms))::R) h',⟨_,0,rfl,by omega,rfl,hA4⟩,?_⟩;intro x m A5 ⟨c,e1,e2,e3,hA5⟩;subst e1 e3;refine bsel_in (λd=>?_) λd=>?_
  ·have d:c<(top::ms).length:=by simp [i5] at d ⊢;omega
   obtain ⟨f,hf⟩:∃ f,(top::ms)[c]? = some f:=⟨(top::ms)[c],by simp [d]⟩
   have hd:(top::ms).drop c=f::(top::ms).drop (c+1):=by
    rw [List.drop_eq_getElem_cons d];have:=(List.getElem?_eq_some_iff.1 hf).2;rw [this]
   rw [hd] at hA5;obtain ⟨bb,o,q1,q2⟩:=bK (i:=3) (P:=SlO s 1 (intsV (top::ms))) hA5 rfl aR (j:=c) (v:=.int .i64 f) (by simp only [intsV,List.getElem?_map,hf];rfl);rw [q1];refine inB_in (by omega) (by simp_all) ⟨f,by rw [add_at];simpa using q2,?_⟩;have hfm:f ∈ top::ms:=List.mem_of_getElem? hf;refine yA hA5 hi hlv hnd.use (i4 f hfm) (by rw [<-hd];exact hK.nodup.sublist (List.drop_sublist _ _)) (hFG f (i4 f hfm)) λA6 hA6=>?_;have d2:c<ms.length+1:=by simpa using d
   exact ⟨ms.length+1-(c+1),by omega,c+1,by rw [w64]<;>omega,by omega,rfl,hA6⟩
  ·have d:c=(top::ms).length:=by simp [i5] at d ⊢;omega
   rw [d,List.drop_length] at hA5;refine hbad e W' A5 he (λf hf=>hK.other f λhm=>hf (i4 f hm)) ?_;have:=pF hi hA5;exact this.sub (List.Sublist.cons_cons _ (List.Sublist.cons_cons _ (List.Sublist.cons_cons _ (List.sublist_cons_self _ _))))
 have hlen2:(((top::ms).length:Nat):Int)=ms.length+1:=by simp
 refine l5 hA3 hi hlv hF (λc2=>aG rfl (giveback 8 A3 (.inl ⟨rfl,by omega,by omega⟩) hA3)) (λc2 d2 A4 hA4=>aG rfl (giveback 7 A4 (.inr ⟨rfl,by omega,by omega⟩) hA4)) λc2 d2 f A4 hFf hfn hA4=>bsel_f rfl ?_;show aN A4 (.cells (intsV [f]).toArray _) _;refine aT hA4 λb25 A5 hA5=>?_;have hA5:Own (SlAt ⟨some ⟨b25,0,none⟩,1,1⟩ 1 (intsV [f])::(taken r fr hs (zeroW W' f) b F G n t ns i nd ((top::ms)++[f])++SlO s 1 (intsV (top::ms))::R)) A5:=hA5.imp λB hB=>(qH (k:=1) (sz:=1) rfl hB).look;have hA5:Own (SlO s 1 (intsV (top::ms))::SlAt ⟨some ⟨b25,0,none⟩,1,1⟩ 1 (intsV [f])::(taken r fr hs (zeroW W' f) b F G n t ns i nd ((top::ms)++[f])++R)) A5:=hA5.pick 4 rfl;refine nX (i:=0) hA5 rfl (λq=>by cases q) (λq=>absurd q i5b) rfl (λv hv=>?_) ⟨by simp only [i5];omega,by simp only [i5];omega⟩ λs' A6 j1 j2 hA6=>?_
 ·simp [intsV] at hv;subst hv;rfl
 rw [<-iJ] at hA6
 have hA6:Own (RamW r fr hs (zeroW W' f)::Bud b (λx=>F x/\x ∉ (top::ms)++[f]) (λx=>G x\/x ∈ (top::ms)++[f]) (n-(((top::ms)++[f]).length:Int))::TreeS t (useN ns i nd (nd.use+(((top::ms)++[f]).length:Int)))::SlO s' 1 (intsV ((top::ms)++[f]))::R) A6:=
  Own.unrot4 (hA6.sub (List.Sublist.cons_cons _ (List.sublist_cons_self _ _)))
 rw [aLr];have hfr2:=gF (hF f hFf) hfr;have hft:f≠top:=λe=>hfn (by simp_all);refine kW hA6 (hF top hFt) ⟨by omega,by omega⟩ ⟨hfr2.1,by omega⟩ λA7 hA7=>?_
 have fin:∀ W3 A9,(∀ f',f'≠f->W3 f'=setW (zeroW W' f) top ms.length (kEnt f) f')->(∀ q:Nat,q<512->W3 f q=if (ms.length:Int)*262144+q*512<fr then kBig ((ms.length:Int)*262144+q*512) else 0)->
   Own (taken r fr hs W3 b F G n t ns i nd ((top::ms)++[f])++SlO s' 1 (intsV ((top::ms)++[f]))::R) A9->
   ∃ m8,m8<needK fr-ms.length/\∃ (ms':List Int) (W':Int->Int->Int),IntKind.wrap .i64 ((ms.length:Int)*262144+262144)=(ms'.length:Int)*262144/\ms'.length<=needK fr/\needK fr-ms'.length=m8/\KOK fr W top ms' W'/\(∀ x ∈ top::ms',F x)/\s'.len=ms'.length+1/\s'.a≠none/\((top::ms').length:Int)<=nd.quo-nd.use-nd.lent/\((top::ms').length:Int)<=n/\
    Own (taken r fr hs W' b F G n t ns i nd (top::ms')++SlO s' 1 (intsV (top::ms'))::R) A9:=by
  intro W3 A9 g1 g2 hA9;have hl2:(ms++[f]).length=ms.length+1:=by simp
  refine ⟨needK fr-(ms.length+1),by omega,ms++[f],W3,by rw [hl2,w64]<;>omega,by omega,by omega,hK.step hfn g1 g2,λx hx=>?_,by rw [hl2];simp only [j1,i5],λq=>by have:=j2 q;simp [intsV] at this,by simp only [List.length_cons,hl2];omega,by simp only [List.length_cons,hl2];omega,hA9⟩;rcases List.mem_cons.1 hx with rfl | hx
  ·exact hFt
  ·grind
 refine ⟨λx m h'=>∃ (q:Nat) (W3:Int->Int->Int),x=q/\q<=512/\512-q=m/\(∀ f',f'≠f->W3 f'=setW (zeroW W' f) top ms.length (kEnt f) f')/\(∀ q':Nat,q'<512->W3 f q'=if q'<q/\(ms.length:Int)*262144+q'*512<fr then kBig ((ms.length:Int)*262144+q'*512) else 0)/\
  Own (taken r fr hs W3 b F G n t ns i nd ((top::ms)++[f])++SlO s' 1 (intsV ((top::ms)++[f]))::R) h',⟨_,0,_,rfl,by omega,rfl,λ_ _=>rfl,λq' _=>?_,hA7⟩,?_⟩
 ·rw [if_neg (by omega),bX hft];unfold zeroW;rw [if_pos rfl]
 intro x m A8 ⟨q,W3,k1,k2,k3,k4,k5,hA8⟩;subst k1 k3;apply bsel_in
 rotate_left
 ·intro d3;have d3:q=512:=by simp at d3;omega
  refine fin W3 A8 k4 (λq' hq'=>?_) hA8;rw [k5 q' hq'];by_cases g:(ms.length:Int)*262144+q'*512<fr
  ·omega
  ·omega
 intro d3;have d3:q<512:=by simp at d3;omega
 refine u9 hA8 ?_;rw [aLW hj4 d3];refine bsel_in (λd4=>?_) λd4=>?_
 rotate_left
 ·have d4:¬ ((ms.length:Int)*262144+q*512<fr):=by simpa using d4
  refine fin W3 A8 k4 (λq' hq'=>?_) hA8;rw [k5 q' hq'];by_cases g:(ms.length:Int)*262144+q'*512<fr
  ·omega
  ·omega
 have d4:(ms.length:Int)*262144+q*512<fr:=by simpa using d4
 refine kW hA8 (hF f hFf) ⟨by omega,by omega⟩ ⟨by omega,by omega⟩ λA9 hA9=>?_;refine ⟨512-(q+1),by omega,q+1,_,by rw [w64]<;>omega,by omega,rfl,λf' hf'=>?_,λq' hq'=>?_,hA9⟩
 ·rw [bX hf'];exact k4 f' hf'
 ·unfold setW;by_cases g:q'=q
  ·subst g;rw [if_pos ⟨rfl,rfl⟩,if_pos ⟨by omega,d4⟩];rfl
  ·rw [if_neg (by omega),k5 q' hq'];by_cases g2:(ms.length:Int)*262144+q'*512<fr
   ·omega
   ·omega
end Go.Dn
namespace Go.Dn
structure Lf where
 frame:Int
 w:Bool
 u:Bool
 x:Bool
def aJG (g:Int):Int:=packZ true true true false false false false false g
def aH9 (l:Lf):Int:=packZ true l.w l.u false false false false (!l.x) l.frame
def aKG (o:Option Lf):Int:=match o with | some l=>aH9 l | none=>0
def EntIs (w:Int) (o:Option Int):Prop:=match o with | some g=>∃ a d,w=packZ true true true a d false false false g | none=>w=0
def LeafIs (w:Int) (o:Option Lf):Prop:=match o with | some l=>∃ a d,w=packZ true l.w l.u a d false false (!l.x) l.frame | none=>w=0
theorem aKi (o:Option Lf):LeafIs (aKG o) o:=by cases o;exact rfl;exact ⟨false,false,rfl⟩
abbrev Tab:=Nat->Int->Option Int
structure TabW (W:Int->Int->Int) (root:Int) (tab:Tab) (lf:Int->Option Lf):Prop where
 root:∀ q f,tab 0 q=some f↔q=0/\f=root
 deep:∀ k q,3<k->tab k q=none
 words:∀ k q f,k<3->tab k q=some f->∀ j,0<=j->j<512->(k=0->j<256)->EntIs (W f j) (tab (k+1) (q*512+j))
 leaves:∀ q f,tab 3 q=some f->∀ j,0<=j->j<512->LeafIs (W f j) (lf (q*512+j))
 up:∀ k q f,tab (k+1) q=some f->∃ g,tab k (q / 512)=some g/\0<=q/\(k=0->q<256)
 upL:∀ p l,lf p=some l->∃ g,tab 3 (p / 512)=some g/\0<=p
 apart:∀ k q k' q' f,tab k q=some f->tab k' q'=some f->k=k'/\q=q'
 range:∀ k q f,tab k q=some f->0<=f/\f<1048576
 rangeL:∀ p l,lf p=some l->0<=l.frame/\l.frame<1048576
def setT (tab:Tab) (k:Nat) (q:Int) (o:Option Int):Tab:=λk' q'=>if k'=k/\q'=q then o else tab k' q'
def setL (lf:Int->Option Lf) (p:Int) (o:Option Lf):Int->Option Lf:=λp'=>if p'=p then o else lf p'
variable {W:Int->Int->Int} {root:Int} {tab:Tab} {lf:Int->Option Lf}
theorem TabW.congr {W':Int->Int->Int} (h:TabW W root tab lf) (d:∀ k q f,tab k q=some f->W' f=W f):TabW W' root tab lf:=
 ⟨h.root,h.deep,λk q f e a j b c g=>by rw [d k q f a];exact h.words k q f e a j b c g,λq f a j b c=>by rw [d 3 q f a];exact h.leaves q f a j b c,h.up,h.upL,h.apart,h.range,h.rangeL⟩
theorem TabW.leaf (h:TabW W root tab lf) {p f:Int} {o:Option Lf} (n:tab 3 (p / 512)=some f) (w:0<=p) (s:∀ l,o=some l->0<=l.frame/\l.frame<1048576) :
  TabW (setW W f (p % 512) (aKG o)) root tab (setL lf p o):=by
 refine ⟨h.root,h.deep,λk q g t b j c d u=>?_,λq g b j c d=>?_,h.up,λi l a=>?_,h.apart,h.range,λi l a=>?_⟩
 .have m:g≠f:=λe=>by
   subst e;have:=(h.apart k q 3 _ _ b n).1;omega
  rw [bX m];exact h.words k q g t b j c d u
 .by_cases e:g=f
  .subst e;obtain ⟨_,v⟩:=h.apart 3 q 3 _ _ b n;unfold setW setL;by_cases r:j=p % 512
   .rw [if_pos ⟨rfl,r⟩,if_pos (by omega)];exact aKi o
   .rw [if_neg (λz=>r z.2),if_neg (by omega)];exact h.leaves q g b j c d
  .rw [bX e];have:q*512+j≠p:=λv=>by grind
   unfold setL;rw [if_neg this];exact h.leaves q g b j c d
 .unfold setL at a;split at a
  .simp_all
  .exact h.upL i l a
 .unfold setL at a;split at a
  .exact s l a
  .exact h.rangeL i l a
theorem TabW.link (h:TabW W root tab lf) {k:Nat} {q j f g:Int} (G:k<3) (o:tab k q=some f) (R:0<=q) (S:0<=j/\j<512) (H:k=0->j<256) (w:tab (k+1) (q*512+j)=none)
  (x:∀ k' d,tab k' d≠some g) (A:∀ i,0<=i->i<512->W g i=0) (I:0<=g/\g<1048576) :
  TabW (setW W f j (aJG g)) root (setT tab (k+1) (q*512+j) (some g)) lf:=by
 have v:f≠g:=λe=>x k q (by rw [o,e])
 have old:∀ k' d m,tab k' d=some m->setT tab (k+1) (q*512+j) (some g) k' d=some m:=by
  intro k' d m c;unfold setT;split
  .rename_i e;obtain ⟨rfl,rfl⟩:=e;rw [w] at c;cases c
  .exact c
 have a:∀ k' d m,setT tab (k+1) (q*512+j) (some g) k' d=some m->(k'=k+1/\d=q*512+j/\m=g)\/tab k' d=some m:=by
  intro k' d m c;unfold setT at c;split at c
  .rename_i e;cases c;exact .inl ⟨e.1,e.2,rfl⟩
  .exact .inr c
 refine ⟨λd m=>?_,λk' d r=>?_,λk' d m r b i s t B=>?_,λd m b i s t=>?_,λk' d m b=>?_,λp l J=>?_,λk1 K k2 L m c n=>?_,λk' d m b=>?_,h.rangeL⟩
 .unfold setT;rw [if_neg (λe=>by omega)];exact h.root d m
 .unfold setT;rw [if_neg (λe=>by omega)];exact h.deep k' d r
 .rcases a _ _ _ b with ⟨rfl,rfl,rfl⟩ | b
  .rw [bX (Ne.symm v),A i s t]
   have:tab (k+1+1) ((q*512+j)*512+i)=none:=by
    cases e:tab (k+1+1) ((q*512+j)*512+i) with
    | none=>rfl
    | some z=>
     obtain ⟨g',c,_⟩:=h.up _ _ _ e;rw [show ((q*512+j)*512+i) / 512=q*512+j by omega,w] at c;cases c
   unfold setT;rw [if_neg (λe=>by omega),this];exact rfl
  .by_cases e:m=f
   .obtain ⟨M,N⟩:=h.apart _ _ _ _ _ b (by rw [e];exact o);rw [e,M,N];unfold setW setT;by_cases u:i=j
    .rw [if_pos ⟨rfl,u⟩,if_pos ⟨rfl,by rw [u]⟩];exact ⟨false,false,rfl⟩
    .rw [if_neg (λz=>u z.2),if_neg (λz=>u (by omega))];exact h.words k q f G o i s t (λz=>B (by omega))
   .rw [bX e]
    have:¬(k'+1=k+1/\d*512+i=q*512+j):=λz=>by
     have e1:k'=k:=by omega
     have C:d=q:=by omega
     rw [e1,C,o] at b;cases b;exact e rfl
    unfold setT;rw [if_neg this];exact h.words _ _ _ r b i s t B
 .rcases a _ _ _ b with ⟨e1,rfl,rfl⟩ | b
  .rw [bX (Ne.symm v),A i s t]
   have:lf ((q*512+j)*512+i)=none:=by
    cases e:lf ((q*512+j)*512+i) with
    | none=>rfl
    | some z=>
     obtain ⟨g',c,_⟩:=h.upL _ _ e;rw [show ((q*512+j)*512+i) / 512=q*512+j by omega,e1,w] at c;cases c
   rw [this];exact rfl
  .have y:m≠f:=λe=>by
    subst e;have:=(h.apart _ _ _ _ _ b o).1;omega
   rw [bX y];exact h.leaves d m b i s t
 .rcases a _ _ _ b with ⟨e1,rfl,rfl⟩ | b
  .have e1:k'=k:=by omega
   subst e1
   exact ⟨f,by rw [show (q*512+j) / 512=q by omega];exact old _ _ _ o,by omega,λe=>by
    have:=(h.root q f).1 (by rw [<-e];exact o);have:=H e;omega⟩
  .obtain ⟨g',c,n⟩:=h.up _ _ _ b;exact ⟨g',old _ _ _ c,n⟩
 .obtain ⟨g',c,n⟩:=h.upL p l J;exact ⟨g',old _ _ _ c,n⟩
 .rcases a _ _ _ c with ⟨O,P,Q⟩ | c
  .rcases a _ _ _ n with ⟨D,E,F⟩ | n
   .exact ⟨O.trans D.symm,P.trans E.symm⟩
   .exact absurd (by rw [<-Q];exact n) (x k2 L)
  .rcases a _ _ _ n with ⟨D,E,F⟩ | n
   .exact absurd (by rw [<-F];exact c) (x k1 K)
   .exact h.apart _ _ _ _ _ c n
 .rcases a _ _ _ b with ⟨e1,C,u⟩ | b
  .rw [u];exact I
  .exact h.range _ _ _ b
theorem uA {w g:Int} (h:EntIs w (some g)) (c:0<=g/\g<1048576):dD w 0=true/\qD w=g/\w≠0/\U64 w:=by
 obtain ⟨a,d,rfl⟩:=h;obtain ⟨b,_,_,_,_,_,_,_,f,i⟩:=tJ true true true a d false false false c;refine ⟨b,f,λe=>?_,i⟩;rw [e] at b;cases b
theorem lI {w:Int} {l:Lf} (h:LeafIs w (some l)) (c:0<=l.frame/\l.frame<1048576):dD w 0=true/\dD w 1=l.w/\dD w 2=l.u/\dD w 63 = !l.x/\qD w=l.frame/\w≠0/\U64 w:=by
 obtain ⟨a,d,rfl⟩:=h;obtain ⟨b,f,g,_,_,_,_,i,j,k⟩:=tJ true l.w l.u a d false false (!l.x) c;refine ⟨b,f,g,i,j,λe=>?_,k⟩;rw [e] at b;cases b
theorem TabW.word0 (h:TabW W root tab lf) {k:Nat} {q j f:Int} (c:k<3) (d:tab k q=some f) (b:0<=j/\j<512) (i:k=0->j<256):W f j=0↔tab (k+1) (q*512+j)=none:=by
 have a:=h.words k q f c d j b.1 b.2 i;cases e:tab (k+1) (q*512+j) with
 | none=>rw [e] at a;exact ⟨λ_=>rfl,λ_=>a⟩
 | some g=>rw [e] at a;exact ⟨λz=>absurd z (uA a (h.range _ _ _ e)).2.2.1,λz=>by cases z⟩
theorem TabW.wordL0 (h:TabW W root tab lf) {q j f:Int} (c:tab 3 q=some f) (b:0<=j/\j<512):W f j=0↔lf (q*512+j)=none:=by
 have a:=h.leaves q f c j b.1 b.2;cases e:lf (q*512+j) with
 | none=>rw [e] at a;exact ⟨λ_=>rfl,λ_=>a⟩
 | some l=>rw [e] at a;exact ⟨λz=>absurd z (lI a (h.rangeL _ _ e)).2.2.2.2.2.1,λz=>by cases z⟩
theorem TabW.unlink (h:TabW W root tab lf) {k:Nat} {q j f g:Int} (F:k<3) (s:tab k q=some f) (K:0<=j/\j<512) (L:k=0->j<256) (x:tab (k+1) (q*512+j)=some g) (C:∀ i,0<=i->i<512->W g i=0) :
  TabW (setW W f j 0) root (setT tab (k+1) (q*512+j) none) lf:=by
 have G:f≠g:=λe=>by
  have:=(h.apart k q (k+1) _ f s (by rw [x,e])).1;omega
 have new:∀ k' a b,setT tab (k+1) (q*512+j) none k' a=some b->tab k' a=some b/\¬(k'=k+1/\a=q*512+j):=by
  intro k' a b d;unfold setT at d;split at d
  .cases d
  .rename_i e;exact ⟨d,e⟩
 have old:∀ k' a b,tab k' a=some b->¬(k'=k+1/\a=q*512+j)->setT tab (k+1) (q*512+j) none k' a=some b:=by
  intro k' a b d n;unfold setT;rw [if_neg n];exact d
 refine ⟨λa b=>?_,λk' a o=>?_,λk' a b o c i y A D=>?_,λa b c i y A=>?_,λk' a b c=>?_,λp l E=>?_,λk1 M k2 N b d n=>?_,λk' a b c=>?_,h.rangeL⟩
 .unfold setT;rw [if_neg (λe=>by omega)];exact h.root a b
 .unfold setT;rw [if_neg (λe=>by omega)];exact h.deep k' a o
 .obtain ⟨m,t⟩:=new _ _ _ c;by_cases e:b=f
  .obtain ⟨H,I⟩:=h.apart _ _ _ _ _ m (by rw [e];exact s);rw [e,H,I];unfold setW setT;by_cases r:i=j
   .rw [if_pos ⟨rfl,r⟩,if_pos ⟨rfl,by rw [r]⟩];exact rfl
   .rw [if_neg (λz=>r z.2),if_neg (λz=>r (by omega))];exact h.words k q f F s i y A (λz=>D (by omega))
  .rw [bX e]
   have:¬(k'+1=k+1/\a*512+i=q*512+j):=λz=>by
    have e1:k'=k:=by omega
    have J:a=q:=by omega
    rw [e1,J,s] at m;cases m;exact e rfl
   unfold setT;rw [if_neg this];exact h.words _ _ _ o m i y A D
 .obtain ⟨m,t⟩:=new _ _ _ c
  have u:b≠f:=λe=>by
   have:=(h.apart _ _ _ _ _ m (by rw [e];exact s)).1;omega
  rw [bX u];exact h.leaves a b m i y A
 .obtain ⟨m,t⟩:=new _ _ _ c;obtain ⟨g',d,n⟩:=h.up _ _ _ m;refine ⟨g',old _ _ _ d λz=>?_,n⟩
  have B:k+1<3:=by
   rcases Nat.lt_or_ge (k'+1) 4 with w | w
   .omega
   .rw [h.deep _ _ w] at m;cases m
  have v:=(h.word0 B x (j:=a % 512) ⟨by omega,by omega⟩ (λe=>by omega)).1 (C _ (by omega) (by omega));rw [show (q*512+j)*512+a % 512=a by omega,show k+1+1=k'+1 by omega,m] at v;cases v
 .obtain ⟨g',d,n⟩:=h.upL p l E;refine ⟨g',old _ _ _ d λz=>?_,n⟩;have r:k+1=3:=z.1.symm;rw [r] at x;have v:=(h.wordL0 x (j:=p % 512) ⟨by omega,by omega⟩).1 (C _ (by omega) (by omega));rw [show (q*512+j)*512+p % 512=p by omega,E] at v;cases v
 .exact h.apart _ _ _ _ _ (new _ _ _ d).1 (new _ _ _ n).1
 .exact h.range _ _ _ (new _ _ _ c).1
end Go.Dn
namespace Go.Dn
variable {A:AH} {l R:List SP} {r:Nat} {fr:Int} {hs:List (Int × Int)} {W:Int->Int->Int} {root:Int} {tab:Tab} {lf:Int->Option Lf}
def preP (p:Int):Nat->Int
 | 0=>0
 | 1=>p / 134217728
 | 2=>p / 262144
 | 3=>p / 512
 | _=>p
def atP (p:Int):Nat->Int
 | 0=>p / 134217728 % 512
 | 1=>p / 262144 % 512
 | 2=>p / 512 % 512
 | _=>p % 512
theorem bN {p:Int} (a:0<=p/\p<34359738368) {k:Nat} (b:k<4):preP p (k+1)=preP p k*512+atP p k/\0<=atP p k/\atP p k<512/\(k=0->atP p k<256)/\0<=preP p k:=by
 obtain rfl | rfl | rfl | rfl:k=0\/k=1\/k=2\/k=3:=by omega
 all_goals simp only [preP,atP]
 all_goals omega
theorem kG {p:Int} {Q:Int->Int->Int->Int->AH->Prop} (h:Own l A) (g:0<=p/\p<34359738368) (b:∀ a,Own l a->Q (atP p 0) (atP p 1) (atP p 2) (atP p 3) a):qed_A p Q A:=by
 unfold qed_A qed_G;rw [dO (n:=p) (by omega) (by omega),dO (by omega) (by omega)];refine aEa ⟨by omega,by omega⟩ h λa c=>?_;have d:iP (p*4096) 39=atP p 0:=by simp only [iP,atP];omega
 have e1:iP (p*4096) 30=atP p 1:=by simp only [iP,atP];omega
 have e:iP (p*4096) 21=atP p 2:=by simp only [iP,atP];omega
 have f:iP (p*4096) 12=atP p 3:=by simp only [iP,atP];omega
 rw [d,e1,e,f];exact b a c
structure DownOK (tab:Tab) (p:Int) (lst:List Int):Prop where
 pos:0<lst.length
 le:lst.length<=4
 is:∀ c,c<lst.length->tab c (preP p c)=lst[c]?
 no:lst.length<4->tab lst.length (preP p lst.length)=none
def bS (p:Int):List Value:=[.int .i64 (atP p 0),.int .i64 (atP p 1),.int .i64 (atP p 2),.int .i64 (atP p 3)]
theorem eX {p:Int} {c:Nat} (a:c<4):(bS p)[c]? = some (.int .i64 (atP p c)):=by
 obtain rfl | rfl | rfl | rfl:c=0\/c=1\/c=2\/c=3:=by omega
 all_goals rfl
set_option maxRecDepth 100000 in
theorem oL {p bx:Int} {pb pt:Option Addr} {Q:Sl->AH->Prop} (h:Own (RamW r fr hs W::R) A) (L:TabW W root tab lf) (w:∀ k q f,tab k q=some f->hasF fr hs f=true) (V:0<=p/\p<34359738368)
  (hk:∀ a s X,DownOK tab p a->s.len=a.length->s.a≠none->Own (RamW r fr hs W::SlO s 1 (intsV a)::R) X->Q s X):qee_A (some ⟨r,0,none⟩) pb pt bx root p Q A:=by
 unfold qee_A qee_G;refine kG h V λA1 h1=>?_;refine aT (cs:=[.int .i64 0,.int .i64 0,.int .i64 0,.int .i64 0]) h1 λe A2 h2=>?_;simp only [add_at];refine bU (i:=0) h2 rfl rfl rfl λA3 h3=>bU (i:=0) h3 rfl rfl rfl λA4 h4=>bU (i:=0) h4 rfl rfl rfl λA5 h5=>bU (i:=0) h5 rfl rfl rfl λA6 M=>?_;have M:Own (At e (bS p)::RamW r fr hs W::R) A6:=M;refine aT (cs:=intsV [root]) M λy Y z=>?_;have z:Own (SlO ⟨some ⟨y,0,none⟩,1,1⟩ 1 (intsV [root])::At e (bS p)::RamW r fr hs W::R) Y:=z.imp λB N=>qH (k:=1) (sz:=1) rfl N;have z:Own (RamW r fr hs W::SlO ⟨some ⟨y,0,none⟩,1,1⟩ 1 (intsV [root])::At e (bS p)::R) Y:=z.rot3;have n:tab 0 0=some root:=(L.root 0 root).2 ⟨rfl,rfl⟩;refine ⟨λs h'=>∃ a,DownOK tab p a/\s.len=a.length/\s.a≠none/\Own (RamW r fr hs W::SlO s 1 (intsV a)::At e (bS p)::R) h',λs h' ⟨a,O,g2,g3,g4⟩=>hk a s h' O g2 g3 (g4.sub (List.Sublist.cons_cons _ (List.Sublist.cons_cons _ (List.sublist_cons_self _ _)))),?_⟩
 refine ⟨λs x m h'=>∃ (v:Nat) (a:List Int),x=v/\v<=3/\3-v=m/\a.length=v+1/\(∀ c,c<v+1->tab c (preP p c)=a[c]?)/\s.len=v+1/\s.a≠none/\Own (RamW r fr hs W::SlO s 1 (intsV a)::At e (bS p)::R) h',
  ⟨_,0,[root],rfl,by omega,rfl,rfl,λc G=>?_,rfl,by simp,z⟩,?_⟩
 .have:c=0:=by omega
  subst this;exact n
 intro s x m A8 ⟨v,a,i1,i2,i3,H,I,S,T,J⟩;subst i1 i3;apply bsel_in
 rotate_left
 .intro d;have d:v=3:=by simp at d;omega
  subst d;exact ⟨a,⟨by omega,by omega,λc G=>I c (by omega),λG=>by omega⟩,by omega,T,J⟩
 intro d;have d:v<3:=by simp at d;omega
 obtain ⟨f,Z⟩:∃ f,a[v]? = some f:=⟨a[v],by simp [H]⟩;have t:=I v (by omega);rw [Z] at t;obtain ⟨bb,o,q1,q2⟩:=bK (i:=1) (P:=SlO s 1 (intsV a)) J rfl aR (j:=v) (v:=.int .i64 f) (by simp only [intsV,List.getElem?_map,Z];rfl);obtain ⟨e1,e2,e3,e4,e5⟩:=bN V (k:=v) (by omega);have U:∀ K:Int->Prop,K f->aI .i64 (Addr.add ⟨bb,o,none⟩ (Int.toNat (v:Int)*1)) A8 K:=λK hK=>⟨f,by rw [add_at];simpa using q2,hK⟩;rw [q1];refine inB_in (by omega) (by omega) (inB_in (by omega) (by omega) (U _ ?_));refine bQ (i:=2) J rfl (by rw [show 0+Int.toNat (v:Int)*1=v by omega];exact eX (by omega)) ?_;refine rD J (w _ _ _ t) ⟨e2,e3⟩ λA9 h9=>?_;have u:=L.words v _ f d t (atP p v) e2 e3 e4;rw [<-e1] at u;cases C:tab (v+1) (preP p (v+1)) with
 | none=>
  rw [C] at u;have u:W f (atP p v)=0:=u;rw [u];exact aG rfl ⟨a,⟨by omega,by omega,λc G=>I c (by omega),λ_=>by rw [H];exact C⟩,by omega,T,h9⟩
 | some g=>
  rw [C] at u;obtain ⟨w1,w2,_,_⟩:=uA u (L.range _ _ _ C);rw [w1,w2];refine bsel_f rfl ?_;refine aT (cs:=intsV [g]) h9 λD E b=>?_;have b:Own (SlAt ⟨some ⟨D,0,none⟩,1,1⟩ 1 (intsV [g])::RamW r fr hs W::SlO s 1 (intsV a)::At e (bS p)::R) E:=b.imp λB N=>(qH (k:=1) (sz:=1) rfl N).look;have b:Own (SlO s 1 (intsV a)::SlAt ⟨some ⟨D,0,none⟩,1,1⟩ 1 (intsV [g])::RamW r fr hs W::At e (bS p)::R) E:=b.pick 2 rfl;refine nX (i:=0) b rfl (λq=>by cases q) (λq=>absurd q T) rfl (λx hx=>?_) ⟨by simp only [S];omega,by simp only [S];omega⟩ λs' A11 j1 j2 F=>?_
  .simp [intsV] at hx;subst hx;rfl
  rw [<-iJ] at F;refine ⟨3-(v+1),by omega,v+1,a++[g],by rw [w64]<;>omega,by omega,rfl,by simp [H],λc G=>?_,by simp only [j1,S],λq=>by have:=j2 q;simp [intsV] at this,?_⟩
  .by_cases O:c<v+1
   .rw [List.getElem?_append_left (by omega)];exact I c O
   .have:c=v+1:=by omega
    subst this;rw [List.getElem?_append_right (by omega),C,H];simp
  .exact (F.sub (List.Sublist.cons_cons _ (List.sublist_cons_self _ _))).swap
end Go.Dn
namespace Go.Dn
variable {A:AH} {R:List SP} {r:Nat} {fr:Int} {hs:List (Int × Int)} {W:Int->Int->Int} {root:Int} {tab:Tab} {lf:Int->Option Lf}
theorem TabW.chain (h:TabW W root tab lf) {p:Int} {x:Lf} (i:0<=p/\p<34359738368) (e:lf p=some x):∀ c,c<4->tab c (preP p c)≠none:=by
 obtain ⟨j,d,_⟩:=h.upL p x e;obtain ⟨k,a,_⟩:=h.up 2 _ _ d;obtain ⟨l,b,_⟩:=h.up 1 _ _ a;have f:p / 512 / 512=p / 262144:=by omega
 have e1:p / 262144 / 512=p / 134217728:=by omega
 rw [f] at a b;rw [e1] at b;have g:tab 0 0=some root:=(h.root 0 root).2 ⟨rfl,rfl⟩;intro c m;obtain rfl | rfl | rfl | rfl:c=0\/c=1\/c=2\/c=3:=by omega
 .simp only [preP];rw [g];simp
 .simp only [preP];rw [b];simp
 .simp only [preP];rw [a];simp
 .simp only [preP];rw [d];simp
theorem DownOK.four {p:Int} {a:List Int} (h:DownOK tab p a) (b:a.length=4):∃ f,a[3]? = some f/\tab 3 (p / 512)=some f:=by
 have:=h.is 3 (by omega);refine ⟨a[3],by simp [b],?_⟩;rw [show p / 512=preP p 3 from rfl,this];simp [b]
set_option maxRecDepth 100000 in
theorem pT {p bx:Int} {O S:Option Addr} {Q:Int->Bool->Bool->Bool->Bool->AH->Prop} (h:Own (RamW r fr hs W::R) A) (y:TabW W root tab lf) (l:∀ k q f,tab k q=some f->hasF fr hs f=true)
  (z:(p<0\/p>=34359738368\/lf p=none)->∀ t,Own (RamW r fr hs W::R) t->Q 0 false false false false t)
  (T:∀ x,0<=p->p<34359738368->lf p=some x->∀ t,Own (RamW r fr hs W::R) t->Q x.frame x.w x.u x.x true t):qef_A (some ⟨r,0,none⟩) O S bx root p Q A:=by
 unfold qef_A qef_G;refine ⟨λ_ _ _ h'=>h'=A/\0<=p/\p<34359738368,?_,bsel_in (λc=>z (.inl (by simp_all)) A h) λc=>bsel_in (λd=>z (.inr (.inl (by simp_all))) A h) λd=>⟨rfl,by simpa using c,by simpa using d⟩⟩;intro _ _ _ A0 ⟨U,C,D⟩;subst U;refine oL h y l ⟨C,D⟩ λb s V E L F G=>?_;have X:=E.le;refine bsel_in (λc=>?_) λc=>?_
 .have c:b.length<4:=by simp [L] at c;omega
  refine z (.inr (.inr ?_)) V (G.sub (List.Sublist.cons_cons _ (List.sublist_cons_self _ _)));cases m:lf p with
  | none=>rfl
  | some x=>exact absurd (E.no c) (y.chain ⟨C,D⟩ m _ c)
 have c:b.length=4:=by simp [L] at c;omega
 obtain ⟨f,Y,M⟩:=E.four c
 have g:∀ B,Own (RamW r fr hs W::SlO s 1 (intsV b)::R) B->∀ a,s.a=some a->∀ K:Int->Prop,K f->aI .i64 (Addr.add a 3) B K:=by
  intro B H a u K Z;obtain ⟨bb,o,q1,q2⟩:=bK (i:=1) (P:=SlO s 1 (intsV b)) H rfl aR (j:=3) (v:=.int .i64 f) (by simp only [intsV,List.getElem?_map,Y];rfl);rw [q1] at u;cases u;exact ⟨f,by rw [add_at];exact q2,Z⟩
 obtain ⟨a,u⟩:∃ a,s.a=some a:=by
  cases e:s.a with
  | none=>exact absurd e F
  | some a=>exact ⟨a,rfl⟩
 have g:=λB H=>g B H a u;rw [u];refine inB_in (by omega) (by omega) (g _ G _ ?_);refine kG G ⟨C,D⟩ λA2 N=>⟨g _ N _ rfl,atP p 3,rfl,?_⟩;have I:0<=atP p 3/\atP p 3<512:=by simp only [atP];omega
 refine rD N (l _ _ _ M) I λJ h3=>?_;have n:=y.leaves _ f M (atP p 3) I.1 I.2;rw [show p / 512*512+atP p 3=p by simp only [atP];omega] at n;have w:Own (RamW r fr hs W::R) J:=h3.sub (List.Sublist.cons_cons _ (List.sublist_cons_self _ _));cases m:lf p with
 | none=>
  rw [m] at n;have n:W f (atP p 3)=0:=n;rw [n];exact aG rfl (z (.inr (.inr m)) J w)
 | some x=>
  rw [m] at n;obtain ⟨b0,b1,b2,b3,b4,_,_⟩:=lI n (y.rangeL _ _ m);rw [b0,b1,b2,b3,b4,Bool.not_not];exact bsel_f rfl (T x C D m J w)
end Go.Dn
namespace Go.Dn
variable {A:AH} {l R:List SP} {r:Nat} {fr:Int} {hs:List (Int × Int)} {W:Int->Int->Int} {root:Int} {tab:Tab} {lf:Int->Option Lf}
theorem DownOK.all {p:Int} {a:List Int} {x:Lf} (h:DownOK tab p a) (b:TabW W root tab lf) (d:0<=p/\p<34359738368) (e:lf p=some x):a.length=4:=by
 have:=h.le;rcases Nat.lt_or_ge a.length 4 with c | c
 .exact absurd (h.no c) (b.chain d e _ c)
 .omega
theorem aE0 {s:Sl} (h:s.a≠none):∃ a,s.a=some a:=by
 cases e:s.a with
 | none=>exact absurd e h
 | some a=>exact ⟨a,rfl⟩
theorem yB {l:List SP} {k:Nat} {s:Sl} {b:List Int} {j:Nat} {f:Int} {a:Addr} {K:Int->Prop} (h:Own l A) (e:l[k]? = some (SlO s 1 (intsV b))) (d:b[j]? = some f) (c:s.a=some a) (g:K f):aI .i64 (Addr.add a j) A K:=by
 obtain ⟨p,o,m,n⟩:=bK (i:=k) (P:=SlO s 1 (intsV b)) h e aR (j:=j) (v:=.int .i64 f) (by simp only [intsV,List.getElem?_map,d];rfl);rw [m] at c;cases c;exact ⟨f,by rw [add_at];exact n,g⟩
set_option maxRecDepth 100000 in
theorem aAX {p bx:Int} {B C:Option Addr} {pw pu px:Bool} {Q:Int->AH->Prop} (h:Own (RamW r fr hs W::R) A) (e:TabW W root tab lf) (b:∀ k q f,tab k q=some f->hasF fr hs f=true)
  (D:(p<0\/p>=34359738368\/lf p=none)->∀ d,Own (RamW r fr hs W::R) d->Q 5 d)
  (E:∀ x f,0<=p->p<34359738368->lf p=some x->tab 3 (p / 512)=some f->∀ d,Own (RamW r fr hs (setW W f (p % 512) (aH9 ⟨x.frame,pw,pu,px⟩))::R) d->Q 0 d) :
  qev_A (some ⟨r,0,none⟩) B C bx root p pw pu px Q A:=by
 unfold qev_A qev_G;refine pT h e b (λc v m=>aG rfl (D c v m)) λx g i n v m=>bsel_f rfl ?_;refine oL m e b ⟨g,i⟩ λF s J w K o y=>?_;have c:=w.all e ⟨g,i⟩ n;obtain ⟨f,t,z⟩:=w.four c;obtain ⟨a,j⟩:=aE0 o;have G:0<=atP p 3/\atP p 3<512:=by simp only [atP];omega
 rw [j];refine inB_in (by omega) (by omega) (yB (k:=1) y rfl t j ?_);refine kG y ⟨g,i⟩ λL u=>⟨yB (k:=1) u rfl t j rfl,atP p 3,rfl,?_⟩;unfold qeu_A;exact ⟨yB (k:=1) u rfl t j rfl,kW u (b _ _ _ z) G (e.rangeL _ _ n) λH I=>E x f g i n z H (I.sub (List.Sublist.cons_cons _ (List.sublist_cons_self _ _)))⟩
end Go.Dn
namespace Go.Dn
variable {A:AH} {R:List SP} {r:Nat} {fr:Int} {hs:List (Int × Int)} {M:Int->Int} {W:Int->Int->Int}
theorem aBe {M:Int->Int} (b:∀ a,0<=M a/\M a<256):∀ (n:Nat) (a:Int),le M a n=0↔∀ j:Nat,j<n->M (a+j)=0
 | 0,a=>by simp [le]
 | n+1,a=>by
  have d:=aBe b n (a+1);have f:=b a;have g:=rC b n (a+1);simp only [le];constructor
  .intro h j e;have e1:M a=0:=by omega
   have c:le M (a+1) n=0:=by omega
   cases j with
   | zero=>simpa using e1
   | succ j=>
    have:=d.1 c j (by omega);rw [show a+((j+1:Nat):Int)=a+1+j by omega];exact this
  .intro h;have e1:M a=0:=by simpa using h 0 (by omega)
   have c:le M (a+1) n=0:=d.2 λj e=>by
    have:=h (j+1) (by omega);rw [show a+((j+1:Nat):Int)=a+1+j by omega] at this;exact this
   rw [e1,c];rfl
theorem aDH {M:Int->Int} (b:∀ a,0<=M a/\M a<256) (t:Int):(∀ i,0<=i->i<512->fO M t i=0)↔∀ j:Nat,j<4096->M (t*4096+j)=0:=by
 unfold fO;constructor
 .intro h j c;have:=(aBe b 8 _).1 (h ((j / 8:Nat):Int) (by omega) (by omega)) (j % 8) (by omega);rw [show t*4096+8*((j / 8:Nat):Int)+((j % 8:Nat):Int)=t*4096+j by omega] at this;exact this
 .intro h i d e;refine (aBe b 8 _).2 λj c=>?_;have:=h (8*i.toNat+j) (by omega);rw [show t*4096+((8*i.toNat+j:Nat):Int)=t*4096+8*i+j by omega] at this;exact this
set_option maxRecDepth 100000 in
theorem yR {t:Int} {Q:Bool->AH->Prop} (h:Own (RamW r fr hs W::R) A) (p:0<=t) (u:(∀ i,0<=i->i<512->W t i=0)->Q true A) (B:(¬∀ i,0<=i->i<512->W t i=0)->Q false A):qeg_A (some ⟨r,0,none⟩) t Q A:=by
 obtain ⟨M,⟨G,v⟩,C⟩:=RamW.openH h;obtain ⟨s,H,w,ok,f⟩:=RamS.open (i:=0) C rfl
 have k:(∀ i,0<=i->i<512->W t i=0)↔∀ j:Nat,j<4096->M (t*4096+j)=0:=by
  rw [<-aDH ok.byte t];exact ⟨λg i c d=>by rw [<-v t i p c d];exact g i c d,λg i c d=>by rw [v t i p c d];exact g i c d⟩
 unfold qeg_A;show aM (Addr.add ⟨r,0,none⟩ 2) A _;rw [add_at];refine fC (i:=0) f rfl rfl (iD (i:=2) f rfl ?_);rw [tT];cases y:w.lookup t with
 | none=>
  refine ⟨none,rfl,aG rfl (u (k.2 λj l=>ok.zero _ (by omega) ?_))⟩;rw [show (t*4096+(j:Int)) / 4096=t by omega];exact nG y
 | some b=>
  refine ⟨some ⟨b,0,none⟩,rfl,bsel_f rfl ?_⟩;obtain ⟨q,D,m⟩:=wM (M:=M) (qI y)
  have a:∀ i,i<4096->bM A ((⟨b,0,none⟩:Addr).add i)=some (.int .u8 (M (t*4096+i))):=by
   intro i hi;rw [add_at];refine dW (i:=3+q) (cs:=aW M t) ?_ f ?_
   .show (_::_::_::bW M w)[3+q]? = _;rw [show 3+q=q+3 by omega];exact m
   .rw [Nat.zero_add];exact qO hi
  have n:(aW M t).length=4096:=by simp [aW]
  refine ⟨(aW M t).toArray,by simp [n],λi hi=>⟨_,by rw [List.getElem?_toArray];exact qO hi,a i hi⟩,?_⟩;refine ⟨(List.range 4096).map λ(i:Nat)=>UInt8.ofNat (M (t*4096+i)).toNat,List.replicate 4096 0,?_,?_,(List.length_map _).trans List.length_range,List.length_replicate,?_⟩
  .unfold aW;rw [List.map_map];refine congrArg List.toArray (List.map_congr_left λi _=>?_);have:=ok.byte (t*4096+i);simp only [Function.comp,Go.Extern.Stop.cell];rw [UInt8.toNat_ofNat'];congr 1;rw [Nat.mod_eq_of_lt (by omega)];exact (Int.toNat_of_nonneg this.1).symm
  .rw [List.map_replicate,<- List.toArray_replicate];rfl
  .by_cases g:∀ j:Nat,j<4096->M (t*4096+j)=0
   .have e:((List.range 4096).map λ(i:Nat)=>UInt8.ofNat (M (t*4096+i)).toNat)=List.replicate 4096 0:=by
     rw [List.eq_replicate_iff];refine ⟨by simp,λx E=>?_⟩;obtain ⟨i,hi,rfl⟩:=List.mem_map.1 E;rw [g i (by simpa using hi)];rfl
    rw [e];have:(List.replicate 4096 (0:UInt8)==List.replicate 4096 0)=true:=beq_self_eq_true _;rw [this];exact u (k.2 g)
   .have e:(((List.range 4096).map λ(i:Nat)=>UInt8.ofNat (M (t*4096+i)).toNat)==List.replicate 4096 0)=false:=by
     rw [beq_eq_false_iff_ne];intro e;refine g λj l=>?_;have o:((List.range 4096).map λ(i:Nat)=>UInt8.ofNat (M (t*4096+i)).toNat)[j]? = (List.replicate 4096 (0:UInt8))[j]?:=by rw [e]
     rw [List.getElem?_map,List.getElem?_range l,List.getElem?_replicate,if_pos l] at o;simp only [Option.map_some,Option.some.injEq] at o;have z:=congrArg UInt8.toNat o;rw [UInt8.toNat_ofNat'] at z;have:=ok.byte (t*4096+j);have I:(M (t*4096+j)).toNat % 256=0:=z;omega
    rw [e];exact B λF=>g (k.1 F)
end Go.Dn
namespace Go.Dn
variable {A:AH} {l R:List SP} {r b t i:Nat} {fr n:Int} {hs:List (Int × Int)} {W:Int->Int->Int} {F G:Int->Prop} {ns:List Nd} {nd:Nd} {root:Int} {tab:Tab} {lf:Int->Option Lf}
def cutT (tab:Tab) (p:Int) (v:Nat):Tab:=λk q=>if v<k/\q=preP p k then none else tab k q
theorem aGd {p:Int} {v:Nat} {tab:Tab} (a:∀ k q,3<k->tab k q=none) (c:v<3):setT (cutT tab p (v+1)) (v+1) (preP p (v+1)) none=cutT tab p v:=by
 funext k q;unfold setT cutT;by_cases e:k=v+1
 .simp_all
 .grind
theorem aD6 {p:Int} {tab:Tab} (a:∀ k q,3<k->tab k q=none):cutT tab p 3=tab:=by
 funext k q;unfold cutT;by_cases e:3<k/\q=preP p k
 .simp_all
 .rw [if_neg e]
def gone (lst:List Int) (v:Nat):List Int:=lst.drop (v+1)
def lM (r:Nat) (fr:Int) (hs:List (Int × Int)) (W:Int->Int->Int) (b:Nat) (F G:Int->Prop) (n:Int) (t:Nat) (ns:List Nd) (i:Nat) (nd:Nd) (tk:List Int):List SP:=
 [RamW r fr hs W,Bud b (λx=>F x\/x ∈ tk) (λx=>G x/\x ∉ tk) (n+tk.length),TreeS t (useN ns i nd (nd.use-tk.length))]
theorem aEb (hi:ns[i]? = some nd) (h:Own (RamW r fr hs W::Bud b F G n::TreeS t ns::R) A):Own (lM r fr hs W b F G n t ns i nd []++R) A:=by
 have e:useN ns i nd (nd.use-(([]:List Int).length:Int))=ns:=by
  simp only [List.length_nil];rw [show nd.use-((0:Nat):Int)=nd.use by omega];exact t9 hi
 unfold lM;rw [e];exact h.cons λC a=>Bud.congr (λx=>by simp) (λx=>by simp) (by simp) a
theorem aBU {f:Int} {tk:List Int} {Q:AH->Prop} (h:Own (lM r fr hs W b F G n t ns i nd tk++R) A) (hi:ns[i]? = some nd) (c:nd.live=true) (m:tk.length<nd.use) (e:G f) (g:f ∉ tk)
  (j:∀ a,Own (lM r fr hs W b F G n t ns i nd (f::tk)++R) a->Q a):qbh_A (some ⟨r,0,none⟩) (some ⟨b,0,none⟩) (some ⟨t,0,none⟩) i f Q A:=by
 refine jH (nd:={ nd with use:=nd.use-tk.length }) h (useN_at hi _) c ⟨e,g⟩ (by simp;omega) λa d=>j a ?_;rw [yQ] at d;unfold lM;rw [show nd.use-((f::tk).length:Int)=nd.use-tk.length-1 by simp;omega];refine d.cons λC k=>Bud.congr (λx=>?_) (λx=>?_) (by simp;omega) k
 .grind
 .grind
set_option maxRecDepth 100000 in
set_option maxHeartbeats 2000000 in
theorem aDp {p:Int} {Q:Int->Int->AH->Prop} (h:Own (RamW r fr hs W::Bud b F G n::TreeS t ns::R) A) (hi:ns[i]? = some nd) (hlv:nd.live=true) (hu:3<=nd.use\/∀ p,lf p=none) (hG:∀ x,G x->hasF fr hs x=true)
  (E:TabW W root tab lf) (X:∀ k q f,tab k q=some f->G f)
  (hn:(p<0\/p>=34359738368\/lf p=none)->∀ Y,Own (RamW r fr hs W::Bud b F G n::TreeS t ns::R) Y->Q 0 5 Y)
  (hk:∀ x w v W' Y,0<=p->p<34359738368->lf p=some x->DownOK tab p w->w.length=4->v<=3->TabW W' root (cutT tab p v) (setL lf p none)->(v=0\/∃ f j,w[v]? = some f/\0<=j/\j<512/\W' f j≠0)->
   (∀ f,f ∉ w->W' f=W f)->(∀ j,256<=j->W' root j=W root j)->Own (lM r fr hs W' b F G n t ns i nd (gone w v)++R) Y->Q x.frame 0 Y) :
  qeh_A (some ⟨r,0,none⟩) (some ⟨b,0,none⟩) (some ⟨t,0,none⟩) i root p Q A:=by
 have C:∀ k q f,tab k q=some f->hasF fr hs f=true:=λk q f hf=>hG f (X k q f hf);unfold qeh_A qeh_G;refine pT h E C (λc A1 h1=>aG rfl (hn c A1 h1)) λx U Z hx A1 h1=>bsel_f rfl ?_;have hu:3<=nd.use:=by grind
 refine kG h1 ⟨U,Z⟩ λA2 h2=>oL h2 E C ⟨U,Z⟩ λw s A3 hD hl hsa h3=>?_;refine aT (cs:=[.int .i64 0,.int .i64 0,.int .i64 0,.int .i64 0]) h3 λI A4 h4=>?_;simp only [add_at];refine bU (i:=0) h4 rfl rfl rfl λA5 h5=>bU (i:=0) h5 rfl rfl rfl λA6 h6=>bU (i:=0) h6 rfl rfl rfl λA7 h7=>bU (i:=0) h7 rfl rfl rfl λA8 N=>?_;have N:Own (At I (bS p)::RamW r fr hs W::SlO s 1 (intsV w)::Bud b F G n::TreeS t ns::R) A8:=N;have N:Own (RamW r fr hs W::Bud b F G n::TreeS t ns::SlO s 1 (intsV w)::At I (bS p)::R) A8:=(((N.pick 2 rfl).pick 4 rfl).pick 4 rfl).pick 4 rfl;have c:=hD.all E ⟨U,Z⟩ hx;obtain ⟨f,hf,ht⟩:=hD.four c;obtain ⟨a,ha⟩:=aE0 hsa;have hj:0<=atP p 3/\atP p 3<512:=by simp only [atP];omega
 have J:=E.deep;rw [ha];refine inB_in (by omega) (by omega) (yB (k:=3) N rfl hf ha ?_);refine bQ (i:=4) N rfl (eX (c:=3) (by omega)) ?_;have hrf:=E.range _ _ _ ht;refine yY hrf hj (qE N (C _ _ _ ht) hj (by constructor<;>omega) λA9 h9=>?_);have O:=E.leaf (o:=none) ht U (λl hl=>by cases hl)
 have L:∀ v,v<4->∃ g,w[v]? = some g/\tab v (preP p v)=some g:=λv hv=>by
  refine ⟨w[v],by simp [c,hv],?_⟩;rw [hD.is v (by omega)];simp [c,hv]
 have hnd:w.Nodup:=by
  unfold List.Nodup;rw [List.pairwise_iff_getElem];intro u v hu' hv huv e;obtain ⟨g,g1,g2⟩:=L u (by omega);obtain ⟨g',M,g2'⟩:=L v (by omega);rw [List.getElem?_eq_getElem hu'] at g1;rw [List.getElem?_eq_getElem hv] at M;have g1:=Option.some.inj g1;have M:=Option.some.inj M;have e:g=g':=by rw [<-g1,<- M,e]
  subst e;have:=(E.apart _ _ _ _ _ g2 g2').1;omega
 refine ⟨λy m h'=>∃ (v:Nat) (W1:Int->Int->Int),y=v/\v=m/\v<=3/\TabW W1 root (cutT tab p v) (setL lf p none)/\(∀ f,f ∉ w->W1 f=W f)/\(∀ j,256<=j->W1 root j=W root j)/\
   Own (lM r fr hs W1 b F G n t ns i nd (gone w v)++SlO s 1 (intsV w)::At I (bS p)::R) h',⟨3,3,setW W f (atP p 3) 0,rfl,rfl,by omega,?_,λg hg=>?_,λj _=>?_,?_⟩,?_⟩
 .rw [aD6 J];exact O
 .have:f ∈ w:=List.mem_of_getElem? hf;exact bX (λe=>hg (e ▸ this))
 .have P:root≠f:=λe=>by
   have h0:tab 0 0=some f:=(E.root 0 f).2 ⟨rfl,e.symm⟩;have:=(E.apart _ _ _ _ _ ht h0).1;omega
  rw [bX P]
 .have e:gone w 3=[]:=by unfold gone;exact List.drop_eq_nil_of_le (by omega)
  rw [e];exact aEb hi h9
 intro y m A10 ⟨v,W1,j1,j2,j3,j4,j5,j6,H⟩;subst j1 j2
 have S:∀ {W2:Int->Int->Int} {tk:List Int} {B:AH},Own (lM r fr hs W2 b F G n t ns i nd tk++SlO s 1 (intsV w)::At I (bS p)::R) B->Own (lM r fr hs W2 b F G n t ns i nd tk++R) B:=λ{W2 tk B} hB=>by
  exact hB.sub ((List.Sublist.refl _).append ((List.sublist_cons_self _ _).trans (List.sublist_cons_self _ _)))
 apply bsel_in
 rotate_left
 .grind
 intro d;obtain ⟨v,rfl⟩:∃ u,v=u+1:=⟨v-1,by simp at d;omega⟩;obtain ⟨g,hg,T⟩:=L (v+1) (by omega);obtain ⟨V,hg0,D⟩:=L v (by omega);have hrg:=E.range _ _ _ T;have hrg0:=E.range _ _ _ D;obtain ⟨e1,e2,e3,e4,e5⟩:=bN ⟨U,Z⟩ (k:=v) (by omega);refine inB_in (by omega) (by omega) ?_;rw [show Int.toNat ((v+1:Nat):Int)*1=v+1 by omega];refine yB (k:=3) H rfl hg ha (yR H hrg.1 (λhz=>aG rfl ?_) λhz=>bsel_f rfl ?_)
 rotate_left
 .refine hk x w (v+1) W1 A10 U Z hx hD c j3 j4 (.inr ⟨g,?_⟩) j5 j6 (S H);have ⟨q,hq⟩:=Classical.not_forall.1 hz;have ⟨q0,hq⟩:=Classical.not_forall.1 hq;have ⟨q1,hq⟩:=Classical.not_forall.1 hq;exact ⟨q,hg,q0,q1,hq⟩
 rw [w64 (n:=((v+1:Nat):Int)-1) (by omega) (by omega),show ((v+1:Nat):Int)-1=(v:Int) by omega];refine inB_in (by omega) (by omega) (inB_in (by omega) (by omega) ?_);rw [show Int.toNat (v:Int)*1=v by omega];refine yB (k:=3) H rfl hg0 ha (bQ (i:=4) H rfl (by rw [Nat.zero_add];exact eX (c:=v) (by omega)) ?_);refine yY hrg0 ⟨e2,e3⟩ (qE H (C _ _ _ D) ⟨e2,e3⟩ (by constructor<;>omega) λA11 h11=>?_);refine inB_in (by omega) (by omega) (yB (k:=3) h11 rfl hg ha ?_);have hc0:cutT tab p (v+1) v (preP p v)=some V:=by unfold cutT;rw [if_neg (by omega)];exact D
 have hc1:cutT tab p (v+1) (v+1) (preP p (v+1))=some g:=by unfold cutT;rw [if_neg (by omega)];exact T
 have hun:=j4.unlink (k:=v) (q:=preP p v) (j:=atP p v) (by omega) hc0 ⟨e2,e3⟩ e4 (by simp_all) hz;rw [<-e1,aGd J (by omega)] at hun
 have K:gone w v=g::gone w (v+1):=by
  unfold gone;have hlt:v+1<w.length:=by omega
  rw [List.drop_eq_getElem_cons hlt];have:w[v+1]=g:=by grind
  rw [this]
 have hgn:g ∉ gone w (v+1):=by
  have:(gone w v).Nodup:=hnd.sublist (List.drop_sublist _ _);rw [K] at this;exact (List.nodup_cons.1 this).1
 have hlen:(gone w (v+1)).length<3:=by unfold gone;simp only [List.length_drop,c];omega
 have hgl:((gone w (v+1)).length:Int)<nd.use:=by omega
 refine aBU (R:=SlO s 1 (intsV w)::At I (bS p)::R) h11 hi hlv hgl (X _ _ _ T) hgn λA12 h12=>?_;refine ⟨v,by omega,v,setW W1 V (atP p v) 0,rfl,rfl,by omega,hun,λf' hf'=>?_,λj hj=>?_,by rw [K];exact h12⟩
 .have P:f'≠V:=λe=>by grind
  rw [bX P];exact j5 f' hf'
 .unfold setW;by_cases e:root=V
  .have h0:tab 0 0=some V:=(E.root 0 V).2 ⟨rfl,e.symm⟩;obtain ⟨k0,_⟩:=E.apart _ _ _ _ _ D h0;have:=e4 k0;rw [if_neg (λz=>by omega)];exact j6 j hj
  .simp_all
end Go.Dn
namespace Go.Dn
variable {A:AH} {l R:List SP} {r o:Nat} {fr:Int} {hs:List (Int × Int)} {W:Int->Int->Int} {root:Int} {tab:Tab} {lf:Int->Option Lf}
def OutS (o:Nat) (out:List Int):SP:=λB=>∃ s:Sl,(s.len=out.length/\(s.a=none->out=[]))/\Own [At o [.slice s.a s.len s.cap],SlO s 1 (intsV out)] B
theorem OutS.openH {out:List Int} (h:Own (OutS o out::R) A):∃ s:Sl,(s.len=out.length/\(s.a=none->out=[]))/\Own (At o [.slice s.a s.len s.cap]::SlO s 1 (intsV out)::R) A:=by
 obtain ⟨s,h⟩:=Own.ex h;obtain ⟨a,h⟩:=Own.pure h;exact ⟨s,a,h.flat⟩
theorem OutS.closeH {out:List Int} {s:Sl} (a:s.len=out.length) (b:s.a=none->out=[]) (h:Own (At o [.slice s.a s.len s.cap]::SlO s 1 (intsV out)::R) A):Own (OutS o out::R) A:=
 (Own.app (l:=[At o [.slice s.a s.len s.cap],SlO s 1 (intsV out)]) (r:=R) h).imp λ_ c=>⟨s,⟨a,b⟩,c⟩
theorem kX {N:Int}:∀ (l:List Int) (lo:Int),l.Pairwise (· < ·)->(∀ x ∈ l,lo<=x/\x<N)->(l.length:Int)<=max 0 (N-lo)
 | [],lo,_,_=>by simp;omega
 | x::r,lo,hp,hb=>by
  obtain ⟨b,c⟩:=List.pairwise_cons.1 hp;have d:=hb x List.mem_cons_self;have:=kX r (x+1) c λy a=>⟨by have:=b y a;omega,(hb y (List.mem_cons_of_mem _ a)).2⟩;simp only [List.length_cons];omega
theorem aGN {out:List Int} {p:Int} {Q:AH->Prop} (h:Own (OutS o out::R) A) (y:(out.length:Int)<34359738368) (m:∀ e,Own (OutS o (out++[p])::R) e->Q e):qdu_A p (some ⟨o,0,none⟩) Q A:=by
 obtain ⟨s,⟨f,n⟩,h⟩:=OutS.openH h;unfold qdu_A;refine ld_S (i:=0) h rfl rfl (aT (cs:=intsV [p]) h λd t a=>?_);have a:Own (SlAt ⟨some ⟨d,0,none⟩,1,1⟩ 1 (intsV [p])::At o [.slice s.a s.len s.cap]::SlO s 1 (intsV out)::R) t:=a.imp λB u=>(qH (k:=1) (sz:=1) rfl u).look;have a:=a.pick 2 rfl;refine nX (i:=0) a rfl (λq=>by cases q) (λq=>by rw [n q];rfl) rfl (λx g=>?_) ⟨by simp only [f];omega,by simp only [f];omega⟩ λs' v z w b=>?_
 .simp [intsV] at g;subst g;rfl
 rw [<-iJ] at b;have b:Own (SlO s' 1 (intsV (out++[p]))::SlAt ⟨some ⟨d,0,none⟩,1,1⟩ 1 (intsV [p])::At o [.slice s.a s.len s.cap]::R) v:=b;refine bU (i:=2) b rfl rfl rfl λj c=>m j ?_;have c:Own (SlO s' 1 (intsV (out++[p]))::SlAt ⟨some ⟨d,0,none⟩,1,1⟩ 1 (intsV [p])::At o [.slice s'.a s'.len s'.cap]::R) j:=c;refine OutS.closeH (s:=s') (by simp_all) (λq=>?_) ?_
 .have:=w q;simp [intsV] at this
 .exact (c.pick 2 rfl).sub (List.Sublist.cons_cons _ (List.Sublist.cons_cons _ (List.sublist_cons_self _ _)))
theorem aHS {q i:Int} (a:0<=q) (d:q<67108864) (c:0<=i) (f:i<512):bits .or .i64 (IntKind.wrap .i64 (q*2 ^ (9:Nat))) i=q*512+i:=by
 obtain ⟨q,rfl⟩:=Int.eq_ofNat_of_zero_le a;obtain ⟨i,rfl⟩:=Int.eq_ofNat_of_zero_le c;rw [show ((q:Int)*2 ^ (9:Nat))=((q*512:Nat):Int) by simp,w64 (by omega) (by omega)];have e:bits .or .i64 ((q*512:Nat):Int) ((i:Nat):Int)=IntKind.wrap .i64 ((BitVec.ofInt 64 ((q*512:Nat):Int) ||| BitVec.ofInt 64 ((i:Nat):Int)).toNat:Int):=rfl
 rw [e,BitVec.toNat_or,BitVec.ofInt_natCast,BitVec.ofInt_natCast,BitVec.toNat_ofNat,BitVec.toNat_ofNat,Nat.mod_eq_of_lt (by omega),Nat.mod_eq_of_lt (by omega)];have:=Nat.shiftLeft_add_eq_or_of_lt (b:=i) (i:=9) (by omega) q;rw [Nat.shiftLeft_eq] at this;rw [show q*512=q*2 ^ 9 by rfl,<- this,w64 (by omega) (by omega)];omega
def bdP:Nat->Int
 | 0=>1
 | 1=>256
 | 2=>131072
 | _=>67108864
structure rH (lf:Int->Option Lf) (d:Nat) (q:Int) (ps:List Int):Prop where
 rise:ps.Pairwise (· < ·)
 mem:∀ p,p ∈ ps↔(lf p≠none/\(0<=p/\p<34359738368)/\preP p d=q)
structure j7 (lf:Int->Option Lf) (d:Nat) (q:Int) (v:Int) (ps:List Int):Prop where
 rise:ps.Pairwise (· < ·)
 mem:∀ p,p ∈ ps↔(lf p≠none/\(0<=p/\p<34359738368)/\preP p d=q/\atP p d<v)
theorem aFl {a c:Int} (b:0<=a/\a<34359738368) (e:0<=c/\c<34359738368) {d:Nat} (f:d<=4) (h:preP a d<preP c d):a<c:=by
 obtain rfl | rfl | rfl | rfl | rfl:d=0\/d=1\/d=2\/d=3\/d=4:=by omega
 all_goals simp only [preP] at h
 all_goals omega
theorem j7.step {d:Nat} {q v:Int} {ps b:List Int} (g:d<4) (h:j7 lf d q v ps) (h':rH lf (d+1) (q*512+v) b) (x:0<=v/\v<512):j7 lf d q (v+1) (ps++b):=by
 refine ⟨List.pairwise_append.2 ⟨h.rise,h'.rise,λa m c n=>?_⟩,λp=>?_⟩
 .obtain ⟨_,k,s,y⟩:=(h.mem a).1 m;obtain ⟨_,c1,c2⟩:=(h'.mem c).1 n;refine aFl k c1 (d:=d+1) (by omega) ?_;rw [(bN k g).1,c2,s];omega
 .rw [List.mem_append,h.mem,h'.mem];constructor
  .rintro (⟨i,f,j,t⟩ | ⟨i,f,j⟩)
   .grind
   .obtain ⟨e1,u,w,_⟩:=bN f g;rw [e1] at j;exact ⟨i,f,by omega,by omega⟩
  .rintro ⟨i,f,j,t⟩;obtain ⟨e1,u,w,_⟩:=bN f g;by_cases e:atP p d<v
   .simp_all
   .grind
theorem j7.all {d:Nat} {q v:Int} {ps:List Int} (c:d<4) (h:j7 lf d q v ps) (e:v=512\/d=0/\v=256):rH lf d q ps:=by
 refine ⟨h.rise,λp=>?_⟩;rw [h.mem];constructor
 .simp_all
 .rintro ⟨f,b,g⟩;obtain ⟨_,k,i,j,_⟩:=bN b c;refine ⟨f,b,g,?_⟩;rcases e with rfl | ⟨a,rfl⟩
  .exact i
  .exact j a
theorem j7.zero {d:Nat} {q:Int} (a:d<4):j7 lf d q 0 []:=by
 refine ⟨List.Pairwise.nil,λp=>?_⟩;simp only [List.not_mem_nil,false_iff];rintro ⟨_,b,_,c⟩;have:=(bN b a).2.1;omega
set_option maxRecDepth 100000 in
set_option maxHeartbeats 2000000 in
theorem aFV {bx:Int} {pb pt:Option Addr} (F:TabW W root tab lf) (G:∀ k q f,tab k q=some f->hasF fr hs f=true):∀ (e d:Nat) (q f:Int) (out:List Int) (A:AH) (Q:AH->Prop),d+e=4->1<=e->0<=q->q<bdP d->Own (RamW r fr hs W::OutS o out::R) A->tab d q=some f->
  out.Pairwise (· < ·)->(∀ x ∈ out,(0<=x/\x<34359738368)/\preP x d<q)->(∀ ps A',rH lf d q ps->Own (RamW r fr hs W::OutS o (out++ps)::R) A'->Q A')->
  qdv_A e (some ⟨r,0,none⟩) pb pt bx f e q (some ⟨o,0,none⟩) Q A:=by
 intro e
 induction e with
 | zero=>intro d q f out A Q _ H;omega
 | succ e ih=>
  intro d q f out A Q hde _ T j h U V B X;have w:d<4:=by omega
  have hf:=G _ _ _ U;unfold qdv_A qdv_G;refine ⟨λx m h'=>∃ (v:Nat) (ps:List Int),x=v/\512-v=m/\v<=512/\j7 lf d q v ps/\Own (RamW r fr hs W::OutS o (out++ps)::R) h',⟨_,0,[],rfl,rfl,by omega,j7.zero w,by rw [List.append_nil];exact h⟩,?_⟩;intro x m L ⟨v,ps,i1,i2,i3,s,H⟩;subst i1 i2
  have rise:∀ {u:Int} {ps:List Int},j7 lf d q u ps->(out++ps).Pairwise (· < ·):=λ{u ps} hL=>List.pairwise_append.2 ⟨V,hL.rise,λa C c M=>by
   obtain ⟨_,c1,c2,_⟩:=(hL.mem c).1 M;obtain ⟨a1,a2⟩:=B a C;exact aFl a1 c1 (d:=d) (by omega) (by omega)⟩
  have rng:∀ x ∈ out++ps,0<=x/\x<34359738368:=λx i=>by
   rcases List.mem_append.1 i with i | i
   .simp_all
   .exact ((s.mem x).1 i).2.1
  refine bsel_in (λc=>?_) λc=>?_
  rotate_left
  .have c:v=512:=by simp at c;omega
   exact X ps L (s.all w (.inl (by omega))) H
  have c:v<512:=by simp at c;omega
  refine ⟨λh'=>∃ b,rH lf (d+1) (q*512+v) b/\Own (RamW r fr hs W::OutS o (out++ps++b)::R) h',?_,?_⟩
  .intro A2 ⟨b,k1,k2⟩;refine ⟨512-(v+1),by omega,v+1,ps++b,by rw [w64]<;>omega,rfl,by omega,s.step w k1 ⟨by omega,by omega⟩,?_⟩;rw [<-List.append_assoc];exact k2
  refine ⟨λh'=>h'=L/\(d=0->v<256),?_,?_⟩
  rotate_left
  .refine bsel_in (λg=>?_) λg=>?_
   .have g:d=0:=by simp at g;omega
    refine bsel_in (λO=>?_) λO=>⟨rfl,λ_=>by simp at O;omega⟩;have O:256<=v:=by simp at O;omega
    rcases Nat.lt_or_ge 256 v with g3 | g3
    .refine X ps L ?_ H;refine ⟨s.rise,λp=>?_⟩;rw [s.mem];constructor
     .simp_all
     .rintro ⟨Y,I,Z⟩;obtain ⟨_,_,_,e4,_⟩:=bN I w;exact ⟨Y,I,Z,by have:=e4 g;omega⟩
    .exact X ps L (s.all w (.inr ⟨g,by omega⟩)) H
   .grind
  intro A2 ⟨J,K⟩;subst J
  have hq2:q<67108864/\q*512+v<bdP (d+1)\/d=3:=by
   obtain rfl | rfl | rfl | rfl:d=0\/d=1\/d=2\/d=3:=by omega
   .left;have:=K rfl;simp only [bdP] at j ⊢;omega
   .left;simp only [bdP] at j ⊢;omega
   .left;simp only [bdP] at j ⊢;omega
   .right;rfl
  have hq3:q<67108864:=by
   rcases hq2 with z | z
   .exact z.1
   .subst z;exact j
  rw [aHS T hq3 (by omega) (by omega)];refine rD H hf ⟨by omega,by omega⟩ λA3 h3=>?_
  have nil:(∀ p,0<=p->p<34359738368->preP p (d+1)=q*512+v->lf p=none)->∃ b,rH lf (d+1) (q*512+v) b/\Own (RamW r fr hs W::OutS o (out++ps++b)::R) A3:=λhno=>by
   refine ⟨[],⟨List.Pairwise.nil,λp=>?_⟩,by rw [List.append_nil];exact h3⟩;simp only [List.not_mem_nil,false_iff];rintro ⟨Y,I,Z⟩;exact Y (hno p I.1 I.2 Z)
  rcases Nat.lt_or_ge d 3 with P | P
  .have n:=F.words d q f P U v (by omega) (by omega) (λz=>by have:=K z;omega);cases t:tab (d+1) (q*512+v) with
   | none=>
    rw [t] at n;have n:W f v=0:=n;rw [n];refine aG rfl (nil λp p0 p1 S=>?_);cases i:lf p with
    | none=>rfl
    | some y=>exact absurd (S ▸ t) (F.chain ⟨p0,p1⟩ i (d+1) (by omega))
   | some g=>
    rw [t] at n;obtain ⟨w1,w2,_,_⟩:=uA n (F.range _ _ _ t);rw [w1,w2];refine bsel_f rfl (bsel_f (by simp;omega) ?_);rw [w64 (by omega) (by omega),show ((e+1:Nat):Int)-1=(e:Int) by omega];refine ih (d+1) (q*512+v) g (out++ps) A3 _ (by omega) (by omega) (by omega) ?_ h3 t (rise s) (λx i=>⟨rng x i,?_⟩) λb A4 k1 k2=>⟨b,k1,k2⟩
    .omega
    .rcases List.mem_append.1 i with i | i
     .obtain ⟨D,x2⟩:=B x i;obtain ⟨e1,J,e3,_⟩:=bN D w;rw [e1];omega
     .obtain ⟨_,D,x2,x3⟩:=(s.mem x).1 i;obtain ⟨e1,J,e3,_⟩:=bN D w;rw [e1];omega
  .have P:d=3:=by omega
   subst P;have e0:e=0:=by omega
   subst e0;have n:=F.leaves q f U v (by omega) (by omega);have h4:∀ p:Int,preP p (3+1)=p:=λp=>rfl;cases t:lf (q*512+v) with
   | none=>
    rw [t] at n;have n:W f v=0:=n;rw [n];refine aG rfl (nil λp p0 p1 S=>?_);rw [h4] at S;rw [S];exact t
   | some y=>
    rw [t] at n;rw [(lI n (F.rangeL _ _ t)).1];refine bsel_f rfl (aG rfl ?_);have hlen:=kX (N:=34359738368) (out++ps) 0 (rise s) rng;have j:q<67108864:=j
    have E:((out++ps).length:Int)<34359738368:=by
     have h5:(out++ps++[q*512+v]).Pairwise (· < ·):=List.pairwise_append.2 ⟨rise s,by simp,λa C c M=>by
      simp only [List.mem_singleton] at M;subst M;rcases List.mem_append.1 C with C | C
      .obtain ⟨D,x2⟩:=B a C;obtain ⟨e1,J,e3,_⟩:=bN D w;have:preP a (3+1)=a:=rfl;omega
      .obtain ⟨_,D,x2,x3⟩:=(s.mem a).1 C;obtain ⟨e1,J,e3,_⟩:=bN D w;have:preP a (3+1)=a:=rfl;omega⟩
     have:=kX (N:=34359738368) _ 0 h5 λx i=>by grind
     simp only [List.length_append,List.length_singleton] at this ⊢;omega
    refine aGN h3.swap E λA4 h4'=>⟨[q*512+v],⟨by simp,λp=>?_⟩,h4'.swap⟩;rw [h4,List.mem_singleton];constructor
    .grind
    .omega
theorem aDt {bx:Int} {n t:Option Addr} {Q:Sl->AH->Prop} (h:Own (RamW r fr hs W::R) A) (d:TabW W root tab lf) (a:∀ k q f,tab k q=some f->hasF fr hs f=true)
  (u:∀ s ps g,s.len=ps.length->(s.a=none->ps=[])->ps.Pairwise (· < ·)->(∀ p,p ∈ ps↔(lf p≠none/\0<=p/\p<34359738368))->Own (RamW r fr hs W::SlO s 1 (intsV ps)::R) g->Q s g):qdw_A (some ⟨r,0,none⟩) n t bx root Q A:=by
 unfold qdw_A qdw_G;refine aT (cs:=[.slice none 0 0]) h λv j c=>?_;have c:Own (OutS v []::RamW r fr hs W::R) j:=c.imp λB w=>⟨Sl.nil,⟨rfl,λ_=>rfl⟩,B,λ_=>none,λ_=>.inr rfl,eU.refl _,(λ_ _ e=>nomatch e),w,λ_=>none,λ_=>none,λ_=>.inr rfl,eU.refl _,eU.refl _,SlO.nil,trivial⟩;refine ⟨4,aFV d a 4 0 0 root [] j _ (by omega) (by omega) (by omega) (by simp [bdP]) c.swap ((d.root 0 root).2 ⟨rfl,rfl⟩) List.Pairwise.nil (by simp) λps x k1 b=>?_⟩;obtain ⟨s,⟨s1,m⟩,b⟩:=OutS.openH b.swap;rw [List.nil_append] at s1 m b;refine ld_S (i:=0) b rfl rfl (u s ps x s1 m k1.rise (λp=>?_) (b.tail.swap));rw [k1.mem];constructor
 .simp_all
 .rintro ⟨y,z⟩;exact ⟨y,z,rfl⟩
end Go.Dn
