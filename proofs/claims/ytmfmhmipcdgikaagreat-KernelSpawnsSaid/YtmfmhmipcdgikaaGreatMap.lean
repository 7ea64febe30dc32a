/- What the proof stands on. -/
import Derived.Test.YtmfmhmipcdgikaaGreatG
import Derived.Test.YtmfmhmipcdgikaaGreatDnN
import Derived.Test.YtmfmhmipcdgikaaGreatBudNew
namespace Go.Dn
structure Nd where
 par:Int
 quo:Int
 use:Int
 lent:Int
 live:Bool
def Nd.cells (d:Nd):List Value:=[.int .i64 d.par,.int .i64 d.quo,.int .i64 d.use,.int .i64 d.lent,.bool d.live]
def ndCells (ns:List Nd):List Value:=ns.flatMap Nd.cells
structure Nd.OK (d:Nd):Prop where
 use:0<=d.use
 lent:0<=d.lent
 room:d.use+d.lent<=d.quo
 quo:d.quo<=1048576
def fO (t blk cap:Nat) (ns:List Nd) (rest:List Value):List SP:=[At t [.slice (some ⟨blk,0,none⟩) ns.length cap],At blk (ndCells ns++rest)]
def TreeS (t:Nat) (ns:List Nd):SP:=λB=>∃ blk cap rest,(ns.length<=64/\∀ d ∈ ns,d.OK)/\Own (fO t blk cap ns rest) B
variable {A:AH} {l R:List SP} {t blk cap i:Nat} {ns:List Nd} {rest:List Value} {nd:Nd}
theorem cT (ns:List Nd):(ndCells ns).length=ns.length*5:=by
 induction ns with
 | nil=>rfl
 | cons d ns ih=>simp only [ndCells,List.flatMap_cons,List.length_append] at ih ⊢;rw [ih];simp [Nd.cells];omega
theorem nO:∀ {ns:List Nd} {i:Nat} {nd:Nd} (f:Nat),ns[i]? = some nd->f<5->(ndCells ns)[i*5+f]? = nd.cells[f]?
 | [],_,_,_,e,_=>by simp at e
 | d::ns,0,nd,f,e,hf=>by
  simp at e;subst e;show (d.cells++ndCells ns)[0*5+f]? = _;rw [List.getElem?_append_left (by simp [Nd.cells];omega)];simp
 | d::ns,i+1,nd,f,e,hf=>by
  have:=nO (ns:=ns) (i:=i) (nd:=nd) f (by simpa using e) hf;show (d.cells++ndCells ns)[(i+1)*5+f]? = _;rw [List.getElem?_append_right (by simp [Nd.cells];omega)];rw [show (i+1)*5+f-d.cells.length=i*5+f by simp [Nd.cells];omega];exact this
theorem rE:∀ {ns:List Nd} {i:Nat} {nd:Nd} (x:Int),ns[i]? = some nd->(ndCells ns).set (i*5+2) (.int .i64 x)=ndCells (ns.set i { nd with use:=x })
 | [],_,_,_,e=>by simp at e
 | d::ns,0,nd,x,e=>by simp at e;subst e;rfl
 | d::ns,i+1,nd,x,e=>by
  have:=rE (ns:=ns) (i:=i) (nd:=nd) x (by simpa using e);show (d.cells++ndCells ns).set ((i+1)*5+2) _=d.cells++ndCells (ns.set i _);rw [List.set_append_right _ _ (by simp [Nd.cells];omega)];rw [show (i+1)*5+2-d.cells.length=i*5+2 by simp [Nd.cells];omega,this]
theorem TreeS.openH (h:Own (TreeS t ns::R) A):∃ blk cap rest,(ns.length<=64/\∀ d ∈ ns,d.OK)/\Own (fO t blk cap ns rest++R) A:=by
 obtain ⟨blk,h⟩:=Own.ex h;obtain ⟨cap,h⟩:=Own.ex h;obtain ⟨rest,h⟩:=Own.ex h;obtain ⟨h1,h⟩:=Own.pure h;exact ⟨blk,cap,rest,h1,Own.flat h⟩
theorem TreeS.closeH (h1:ns.length<=64) (h2:∀ d ∈ ns,d.OK) (h:Own (fO t blk cap ns rest++R) A):Own (TreeS t ns::R) A:=h.app.imp λ_ hB=>⟨blk,cap,rest,⟨h1,h2⟩,hB⟩
theorem jI {f:Nat} {v:Value} (hi:ns[i]? = some nd) (hf:f<5) (hv:nd.cells[f]? = some v):(ndCells ns++rest)[i*5+f]? = some v:=by
 have hl:=(List.getElem?_eq_some_iff.1 hi).1;rw [List.getElem?_append_left (by rw [cT];omega),nO f hi hf];exact hv
theorem pQ {Q:Option Addr->Bool->AH->Prop} (h:Own (fO t blk cap ns rest++R) A) (hi:ns[i]? = some nd) (hlv:nd.live=true) (hk:Q (some ⟨blk,i*5,none⟩) true A):qav_A (some ⟨t,0,none⟩) i Q A:=by
 have hl:=(List.getElem?_eq_some_iff.1 hi).1;unfold qav_A;refine bsel_f (by simp) (ld_S (i:=0) h rfl rfl (bsel_f (by simp;omega) (ld_S (i:=0) h rfl rfl (inB_in (by omega) (by simp;omega) ?_))));rw [add_at,add_at];refine aU (i:=1) (n:=nd.live) h rfl ?_ ?_
 ·rw [show 0+Int.toNat (i:Int)*5+4=i*5+4 by omega];exact jI hi (by omega) rfl
 refine bsel_f (by simp [hlv]) (ld_S (i:=0) h rfl rfl (inB_in (by omega) (by simp;omega) ?_));rw [add_at,show 0+Int.toNat (i:Int)*5=i*5 by omega];exact hk
theorem mH {f:Nat} {x:Int} {K:Int->Prop} (h:Own (fO t blk cap ns rest++R) A) (hi:ns[i]? = some nd) (hf:f<5) (hx:nd.cells[f]? = some (.int .i64 x)) (hK:K x):aI .i64 (Addr.add ⟨blk,i*5,none⟩ f) A K:=by
 rw [add_at];exact ld_I (i:=1) h rfl (jI hi hf hx) hK
theorem aGp {x:Int} {K:AP} (h:Own (fO t blk cap ns rest++R) A) (hi:ns[i]? = some nd) (hK:∀ A',Own (fO t blk cap (ns.set i { nd with use:=x }) rest++R) A'->K A'):aC (Addr.add ⟨blk,i*5,none⟩ 2) (.int .i64 x) A K:=by
 rw [add_at];have hl:=(List.getElem?_eq_some_iff.1 hi).1;refine aJ (i:=1) h rfl ?_ rfl λA' h'=>hK A' ?_
 ·rw [jI hi (by omega) (f:=2) (v:=.int .i64 nd.use) rfl];rfl
 ·have h':Own (At t [.slice (some ⟨blk,0,none⟩) ns.length cap]::At blk ((ndCells ns++rest).set (i*5+2) (.int .i64 x))::R) A':=h';rw [List.set_append_left _ _ (by rw [cT];omega),rE x hi] at h';show Own (At t [.slice (some ⟨blk,0,none⟩) (ns.set i { nd with use:=x }).length cap]::At blk (ndCells (ns.set i { nd with use:=x })++rest)::R) A';rw [List.length_set];exact h'
theorem t5 {Q:Int->AH->Prop} (h:Own (fO t blk cap ns rest++R) A) (hi:ns[i]? = some nd) (hlv:nd.live=true) (hok:nd.OK) (hk:Q (nd.quo-nd.use-nd.lent) A):qaw_A (some ⟨t,0,none⟩) i Q A:=by
 obtain ⟨o1,o2,o3,o4⟩:=hok;unfold qaw_A qaw_G;refine pQ h hi hlv (bsel_f rfl (mH h hi (by omega) rfl (mH h hi (by omega) rfl (mH h hi (by omega) rfl ?_))));rw [bK (n:=nd.quo-nd.use) (by omega) (by omega),bK (by omega) (by omega)];exact hk
theorem qQ (h2:∀ d ∈ ns,d.OK) {x:Nd} (hx:x.OK):∀ d ∈ ns.set i x,d.OK:=λd hd=>by
 rcases List.mem_or_eq_of_mem_set hd with h | h
 ·exact h2 d h
 ·rw [h];exact hx
theorem zX {k:Int} {Q:Int->AH->Prop} (h:Own (TreeS t ns::R) A) (hi:ns[i]? = some nd) (hlv:nd.live=true) (hk0:0<=k) (hn:k > nd.quo-nd.use-nd.lent->Q 8 A)
  (hk:k<=nd.quo-nd.use-nd.lent->∀ A',Own (TreeS t (ns.set i { nd with use:=nd.use+k })::R) A'->Q 0 A'):qax_A (some ⟨t,0,none⟩) i k Q A:=by
 obtain ⟨blk,cap,rest,⟨h1,h2⟩,hh⟩:=TreeS.openH h;have hok:=h2 nd (List.mem_of_getElem? hi);obtain ⟨o1,o2,o3,o4⟩:=hok;unfold qax_A qax_G;refine pQ hh hi hlv (bsel_f rfl (bsel_f (by simp;omega) (t5 hh hi hlv ⟨o1,o2,o3,o4⟩ ?_)));refine bsel_in (λc=>hn (by simpa using c)) λc=>?_;have c:k<=nd.quo-nd.use-nd.lent:=by simpa using c
 refine mH hh hi (by omega) rfl (aGp hh hi λA' hA=>hk c A' ?_);rw [bK (by omega) (by omega)] at hA;exact TreeS.closeH (by simpa using h1) (qQ h2 ⟨by simp;omega,o2,by simp;omega,o4⟩) hA
theorem rI {k:Int} {Q:Int->AH->Prop} (h:Own (TreeS t ns::R) A) (hi:ns[i]? = some nd) (hlv:nd.live=true) (hk0:0<=k) (hku:k<=nd.use)
  (hk:∀ A',Own (TreeS t (ns.set i { nd with use:=nd.use-k })::R) A'->Q 0 A'):qbf_A (some ⟨t,0,none⟩) i k Q A:=by
 obtain ⟨blk,cap,rest,⟨h1,h2⟩,hh⟩:=TreeS.openH h;have hok:=h2 nd (List.mem_of_getElem? hi);obtain ⟨o1,o2,o3,o4⟩:=hok;unfold qbf_A qbf_G;refine pQ hh hi hlv (bsel_f rfl (bsel_f (by simp;omega) (mH hh hi (by omega) rfl (bsel_f (by simp;omega) (mH hh hi (by omega) rfl (aGp hh hi λA' hA=>hk A' ?_))))));rw [bK (by omega) (by omega)] at hA;exact TreeS.closeH (by simpa using h1) (qQ h2 ⟨by simp;omega,o2,by simp;omega,o4⟩) hA
theorem aFg {Q:Int->Int->Int->Int->Bool->Bool->AH->Prop} (h:Own (TreeS t ns::R) A) (hi:ns[i]? = some nd) (hlv:nd.live=true) (hk:Q nd.par nd.quo nd.use nd.lent nd.live true A):qfg_A (some ⟨t,0,none⟩) i Q A:=by
 obtain ⟨blk,cap,rest,⟨h1,h2⟩,hh⟩:=TreeS.openH h;unfold qfg_A qfg_G;refine pQ hh hi hlv (aL rfl ?_);refine ld_I (i:=1) hh rfl (jI (f:=0) hi (by omega) rfl) (mH hh hi (by omega) rfl (mH hh hi (by omega) rfl (mH hh hi (by omega) rfl ?_)));rw [add_at];exact aU (i:=1) hh rfl (jI (f:=4) hi (by omega) rfl) hk
theorem aD8 {q:Int} {Q:Option Addr->Int->AH->Prop} (h:Own l A) (hn:q<0\/q > 1048576->Q none 1 A) (hk:0<=q/\q<=1048576->∀ t A',Own (TreeS t [⟨-1,q,0,0,true⟩]::l) A'->Q (some ⟨t,0,none⟩) 0 A'):qat_A q Q A:=by
 unfold qat_A;refine bsel_in (λc=>hn (.inl (by simpa using c))) λc=>bsel_in (λd=>hn (.inr (by simpa using d))) λd=>?_;have c:0<=q:=by simpa using c
 have d:q<=1048576:=by simpa using d
 show aT A (.cells (ndCells [⟨-1,q,0,0,true⟩]).toArray _) _;refine aW h λb1 A1 h1=>?_;show aT A1 (.cells [Value.slice (some ⟨b1,0,none⟩) 1 1].toArray _) _;refine aW h1 λb2 A2 h2=>hk ⟨c,d⟩ b2 A2 (TreeS.closeH (rest:=[]) (by simp) (λx hx=>?_) h2);simp at hx;subst hx;exact ⟨Int.le_refl _,Int.le_refl _,by simp;omega,d⟩
end Go.Dn
namespace Go.Dn
variable {A:AH} {R:List SP} {r b t i:Nat} {fr n:Int} {hs:List (Int × Int)} {W:Int->Int->Int} {F G:Int->Prop} {ns:List Nd} {nd:Nd}
theorem Own.rot3 {P0 P1 P2:SP} (h:Own (P0::P1::P2::R) A):Own (P2::P0::P1::R) A:=
 h.perm ((List.Perm.cons _ (List.Perm.swap _ _ _)).trans (List.Perm.swap _ _ _))
theorem Own.unrot3 {P0 P1 P2:SP} (h:Own (P2::P0::P1::R) A):Own (P0::P1::P2::R) A:=
 h.perm ((List.Perm.swap _ _ _).trans (List.Perm.cons _ (List.Perm.swap _ _ _)))
def useN (ns:List Nd) (i:Nat) (nd:Nd) (x:Int):List Nd:=ns.set i { nd with use:=x }
theorem wX (hi:ns[i]? = some nd) (x:Int):useN (useN ns i nd x) i { nd with use:=x } nd.use=ns:=by
 unfold useN;rw [List.set_set];apply List.ext_getElem?;intro j;rw [List.getElem?_set];split
 ·rename_i g;subst g;rw [if_pos (List.getElem?_eq_some_iff.1 hi).1,hi]
 ·rfl
theorem useN_at (hi:ns[i]? = some nd) (x:Int):(useN ns i nd x)[i]? = some { nd with use:=x }:=by
 unfold useN;rw [List.getElem?_set,if_pos rfl,if_pos (List.getElem?_eq_some_iff.1 hi).1]
theorem tP {Q:Int->Int->AH->Prop} (h:Own (RamW r fr hs W::Bud b F G n::TreeS t ns::R) A) (hi:ns[i]? = some nd) (hlv:nd.live=true) (hF:∀ x,F x->hasF fr hs x=true)
  (hq:nd.quo-nd.use-nd.lent<1->Q 0 8 A) (hm:1<=nd.quo-nd.use-nd.lent->n=0->∀ A',Own (RamW r fr hs W::Bud b F G n::TreeS t ns::R) A'->Q 0 7 A')
  (hk:1<=nd.quo-nd.use-nd.lent->n≠0->∀ f A',F f->Own (RamW r fr hs (zeroW W f)::Bud b (λx=>F x/\x≠f) (λx=>G x\/x=f) (n-1)::TreeS t (useN ns i nd (nd.use+1))::R) A'->Q f 0 A') :
  qbg_A (some ⟨r,0,none⟩) (some ⟨b,0,none⟩) (some ⟨t,0,none⟩) i Q A:=by
 unfold qbg_A qbg_G;refine zX h.rot3 hi hlv (by omega) (λc=>aL rfl (hq (by omega))) λc A1 hA1=>bsel_f rfl ?_;refine aDS hA1.unrot3.swap (λn0=>?_) λn0 f A2 hf hA2=>?_
 ·refine ⟨λx h12=>h12=A1/\x=7,λx h12 ⟨e1,e2⟩=>?_,bsel_f rfl ⟨rfl,rfl⟩⟩;subst e1 e2
  refine rI (nd:={ nd with use:=nd.use+1 }) hA1 (useN_at hi _) hlv (by omega) (by
   obtain ⟨_,_,_,⟨_,h2⟩,_⟩:=TreeS.openH h.rot3;have:=(h2 nd (List.mem_of_getElem? hi)).use;simp;omega) λA3 hA3=>hm (by omega) n0 A3 ?_
  have e:(useN ns i nd (nd.use+1)).set i { par:=nd.par,quo:=nd.quo,use:=nd.use+1-1,lent:=nd.lent,live:=nd.live } = ns:=by
   have:=wX hi (nd.use+1);unfold useN at this ⊢;rw [show nd.use+1-1=nd.use by omega];exact this
  have hA3:Own (TreeS t ((useN ns i nd (nd.use+1)).set i { par:=nd.par,quo:=nd.quo,use:=nd.use+1-1,lent:=nd.lent,live:=nd.live })::RamW r fr hs W::Bud b F G n::R) A3:=hA3;rw [e] at hA3;exact hA3.unrot3
 ·refine ⟨λ_ _=>False,λ_ _ q=>q.elim,aL rfl ?_⟩;exact aDs hA2.swap (hF f hf) λA3 hA3=>aL rfl (hk (by omega) n0 f A3 hf hA3)
theorem uA {f:Int} {Q:AH->Prop} (h:Own (RamW r fr hs W::Bud b F G n::TreeS t ns::R) A) (hi:ns[i]? = some nd) (hlv:nd.live=true) (hG:G f) (hu:1<=nd.use)
  (hk:∀ A',Own (RamW r fr hs W::Bud b (λx=>F x\/x=f) (λx=>G x/\x≠f) (n+1)::TreeS t (useN ns i nd (nd.use-1))::R) A'->Q A') :
  qbi_A (some ⟨r,0,none⟩) (some ⟨b,0,none⟩) (some ⟨t,0,none⟩) i f Q A:=by
 unfold qbi_A qbi_G;refine aDX h.swap hG λA1 hA1=>?_;exact rI hA1.swap.rot3 hi hlv (by omega) hu λA2 hA2=>hk A2 hA2.unrot3
end Go.Dn
namespace Go.Dn
variable {A:AH} {l R:List SP} {r b t i:Nat} {fr n:Int} {hs:List (Int × Int)} {W:Int->Int->Int} {F G:Int->Prop} {ns:List Nd} {nd:Nd}
theorem Own.unrot4 {P0 P1 P2 P3:SP} (h:Own (P3::P0::P1::P2::R) A):Own (P0::P1::P2::P3::R) A:=
 h.perm ((List.Perm.swap _ _ _).trans (List.Perm.cons _ ((List.Perm.swap _ _ _).trans (List.Perm.cons _ (List.Perm.swap _ _ _)))))
theorem pV {b k sz:Nat} {cs:List Value} (hk:k*sz=cs.length) {B:AH} (h:At b cs B):SlO ⟨some ⟨b,0,none⟩,k,k⟩ sz cs B:=
 ⟨⟨hk,Nat.le_refl _⟩,.inr ⟨b,[],rfl,by simp;omega,by simpa using h⟩⟩
def aN (l:List Int):List Value:=l.map (.int .i64)
theorem lJ (a c:List Int):aN (a++c)=aN a++aN c:=List.map_append
theorem zL (ns:List Nd) (i:Nat) (nd:Nd) (x y:Int):useN (useN ns i nd x) i { nd with use:=x } y=useN ns i nd y:=by
 unfold useN;rw [List.set_set]
theorem w9 (hi:ns[i]? = some nd):useN ns i nd nd.use=ns:=by
 unfold useN;apply List.ext_getElem?;intro j;rw [List.getElem?_set];split
 ·rename_i g;subst g;rw [if_pos (List.getElem?_eq_some_iff.1 hi).1,hi]
 ·rfl
theorem Bud.congr {F' G':Int->Prop} {n':Int} (hF:∀ x,F x↔F' x) (hG:∀ x,G x↔G' x) (hn:n=n') (h:Own (Bud b F G n::R) A):Own (Bud b F' G' n'::R) A:=by
 have e1:F=F':=funext λx=>propext (hF x);have e2:G=G':=funext λx=>propext (hG x);subst e1 e2 hn;exact h
def taken (r:Nat) (fr:Int) (hs:List (Int × Int)) (W:Int->Int->Int) (b:Nat) (F G:Int->Prop) (n:Int) (t:Nat) (ns:List Nd) (i:Nat) (nd:Nd) (tk:List Int):List SP:=
 [RamW r fr hs W,Bud b (λx=>F x/\x ∉ tk) (λx=>G x\/x ∈ tk) (n-tk.length),TreeS t (useN ns i nd (nd.use+tk.length))]
theorem lL (hi:ns[i]? = some nd) (h:Own (RamW r fr hs W::Bud b F G n::TreeS t ns::R) A):Own (taken r fr hs W b F G n t ns i nd []++R) A:=by
 have e:useN ns i nd (nd.use+(([]:List Int).length:Int))=ns:=by
  simp only [List.length_nil];rw [show nd.use+((0:Nat):Int)=nd.use by omega];exact w9 hi
 unfold taken;rw [e];exact h.cons λC hC=>Bud.congr (λx=>by simp) (λx=>by simp) (by simp) hC
theorem nG (hi:ns[i]? = some nd) (h:Own (taken r fr hs W b F G n t ns i nd []++R) A):Own (RamW r fr hs W::Bud b F G n::TreeS t ns::R) A:=by
 have e:useN ns i nd (nd.use+(([]:List Int).length:Int))=ns:=by
  simp only [List.length_nil];rw [show nd.use+((0:Nat):Int)=nd.use by omega];exact w9 hi
 unfold taken at h;rw [e] at h;exact h.cons λC hC=>Bud.congr (λx=>by simp) (λx=>by simp) (by simp) hC
theorem jN {tk:List Int} {Q:Int->Int->AH->Prop} (h:Own (taken r fr hs W b F G n t ns i nd tk++R) A) (hi:ns[i]? = some nd) (hlv:nd.live=true) (hF:∀ x,F x->hasF fr hs x=true)
  (hq:nd.quo-nd.use-nd.lent<=tk.length->Q 0 8 A) (hm:tk.length<nd.quo-nd.use-nd.lent->n=tk.length->∀ A',Own (taken r fr hs W b F G n t ns i nd tk++R) A'->Q 0 7 A')
  (hk:tk.length<nd.quo-nd.use-nd.lent->n≠tk.length->∀ f A',F f->f ∉ tk->Own (taken r fr hs (zeroW W f) b F G n t ns i nd (tk++[f])++R) A'->Q f 0 A') :
  qbg_A (some ⟨r,0,none⟩) (some ⟨b,0,none⟩) (some ⟨t,0,none⟩) i Q A:=by
 refine tP (nd:={ nd with use:=nd.use+tk.length }) h (useN_at hi _) hlv (λx hx=>hF x hx.1) (λc=>hq (by simp at c;omega)) (λc d A' hA=>hm (by simp at c;omega) (by omega) A' hA) λc d f A' hf hA=>hk (by simp at c;omega) (by omega) f A' hf.1 hf.2 ?_;rw [zL] at hA;unfold taken;rw [show nd.use+((tk++[f]).length:Int)=nd.use+tk.length+1 by simp;omega];refine hA.cons λC hC=>Bud.congr (λx=>?_) (λx=>?_) (by simp;omega) hC
 ·simp only [List.mem_append,List.mem_singleton,not_or];exact ⟨λh=>⟨h.1.1,h.1.2,h.2⟩,λh=>⟨⟨h.1,h.2.1⟩,h.2.2⟩⟩
 ·simp only [List.mem_append,List.mem_singleton,or_assoc]
theorem t9 {f:Int} {tk:List Int} {Q:AH->Prop} (h:Own (taken r fr hs W b F G n t ns i nd (f::tk)++R) A) (hi:ns[i]? = some nd) (hlv:nd.live=true) (hu:0<=nd.use) (hf:F f) (hnd:(f::tk).Nodup) (hG:¬G f)
  (hk:∀ A',Own (taken r fr hs W b F G n t ns i nd tk++R) A'->Q A'):qbi_A (some ⟨r,0,none⟩) (some ⟨b,0,none⟩) (some ⟨t,0,none⟩) i f Q A:=by
 refine uA (nd:={ nd with use:=nd.use+(f::tk).length }) h (useN_at hi _) hlv (.inr List.mem_cons_self) (by simp;omega) λA' hA=>hk A' ?_;rw [zL] at hA;have hno:=(List.nodup_cons.1 hnd).1;unfold taken;rw [show nd.use+(tk.length:Int)=nd.use+((f::tk).length:Int)-1 by simp;omega];refine hA.cons λC hC=>Bud.congr (λx=>?_) (λx=>?_) (by simp;omega) hC
 ·simp only [List.mem_cons,not_or];constructor
  ·rintro (⟨h1,h2,h3⟩ | h1)
   ·exact ⟨h1,h3⟩
   ·rw [h1];exact ⟨hf,hno⟩
  ·rintro ⟨h1,h2⟩;by_cases e:x=f
   ·exact .inr e
   ·exact .inl ⟨h1,e,h2⟩
 ·simp only [List.mem_cons];constructor
  ·rintro ⟨h1 | h1 | h1,h2⟩
   ·exact .inl h1
   ·exact absurd h1 h2
   ·exact .inr h1
  ·rintro (h1 | h1)
   ·exact ⟨.inl h1,λe=>hG (e ▸ h1)⟩
   ·exact ⟨.inr (.inr h1),λe=>hno (e ▸ h1)⟩
def kEnt (f:Int):Int:=packZ true true false false false false false false f
def kBig (f:Int):Int:=packZ true true false false false true true true f
structure KOK (fr:Int) (W0:Int->Int->Int) (top:Int) (ms:List Int) (W:Int->Int->Int):Prop where
 nodup:(top::ms).Nodup
 other:∀ f,f ∉ top::ms->W f=W0 f
 top:∀ q:Nat,q<512->W top q=match ms[q]? with | some m=>kEnt m | none=>0
 mid:∀ (c:Nat) m,ms[c]? = some m->∀ q:Nat,q<512->W m q=if (c:Int)*262144+q*512<fr then kBig (c*262144+q*512) else 0
def needK (fr:Int):Nat:=((fr+262143) / 262144).toNat
theorem cG {W:Int->Int->Int} {t i x f:Int} (h:f≠t):setW W t i x f=W f:=by
 funext q;unfold setW;rw [if_neg (λg=>h g.1)]
theorem dM {W:Int->Int->Int} {t f:Int} (h:f≠t):zeroW W t f=W f:=by
 funext q;unfold zeroW;rw [if_neg h]
theorem bC {s:Sl} {sz:Nat} {cs:List Value}:bF (SlO s sz cs) s sz cs:=λB A h u=>mS B A h.look u
theorem KOK.step {W0 W' W3:Int->Int->Int} {top f:Int} {ms:List Int} (hK:KOK fr W0 top ms W') (hf:f ∉ top::ms) (h1:∀ f',f'≠f->W3 f'=setW (zeroW W' f) top ms.length (kEnt f) f')
  (h2:∀ q:Nat,q<512->W3 f q=if (ms.length:Int)*262144+q*512<fr then kBig ((ms.length:Int)*262144+q*512) else 0):KOK fr W0 top (ms++[f]) W3:=by
 have hft:top≠f:=λe=>hf (by simp [e]);have hfm:∀ m ∈ ms,m≠f/\m≠top:=λm hm=>⟨λe=>hf (by rw [<-e];exact List.mem_cons_of_mem _ hm),λe=>(List.nodup_cons.1 hK.nodup).1 (e ▸ hm)⟩;refine ⟨?_,λg hg=>?_,λq hq=>?_,λc m hm q hq=>?_⟩
 ·show ((top::ms)++[f]).Nodup;exact List.nodup_append.2 ⟨hK.nodup,by simp,λx hx y hy=>by simp at hy;subst hy;exact λe=>hf (e ▸ hx)⟩
 ·simp only [List.mem_cons,List.mem_append,List.not_mem_nil,or_false,not_or] at hg;rw [h1 g hg.2.2,cG hg.1,dM hg.2.2];exact hK.other g (by simp [hg.1,hg.2.1])
 ·rw [h1 top hft];unfold setW;by_cases e:q=ms.length
  ·rw [if_pos ⟨rfl,by omega⟩,List.getElem?_append_right (by omega),e];simp
  ·rw [if_neg (by omega),dM hft,hK.top q hq];by_cases g:q<ms.length
   ·rw [List.getElem?_append_left g]
   ·rw [List.getElem?_eq_none (by omega),List.getElem?_eq_none (by simp;omega)]
 ·by_cases g:c<ms.length
  ·rw [List.getElem?_append_left g] at hm;obtain ⟨g1,g2⟩:=hfm m (List.mem_of_getElem? hm);rw [h1 m g1,cG g2,dM g1];exact hK.mid c m hm q hq
  ·have:c=ms.length:=by
    have:=(List.getElem?_eq_some_iff.1 hm).1;simp at this;omega
   subst this;rw [List.getElem?_append_right (by omega)] at hm;simp at hm;subst hm;exact h2 q hq
theorem aJi (j:Nat):Int.fdiv ((j:Int)*262144) (2 ^ (18:Nat))=j:=by rw [kM];omega
theorem aJR {j q:Nat} (hj:j<4) (hq:q<512):IntKind.wrap .i64 ((j:Int)*262144+IntKind.wrap .i64 ((q:Int)*2 ^ (9:Nat)))=(j:Int)*262144+q*512:=by
 have e:((q:Int)*2 ^ (9:Nat))=q*512:=rfl;rw [e,bK (n:=(q:Int)*512) (by omega) (by omega),bK (by omega) (by omega)]
set_option maxRecDepth 100000 in
set_option maxHeartbeats 2000000 in
theorem zP {Q:Int->Int->AH->Prop} (h:Own (RamW r fr hs W::Bud b F G n::TreeS t ns::R) A) (hi:ns[i]? = some nd) (hlv:nd.live=true) (hF:∀ x,F x->hasF fr hs x=true) (hf1:1<=fr)
  (hbad:∀ e W' A',(e=8/\nd.quo-nd.use-nd.lent<1+needK fr/\nd.quo-nd.use-nd.lent<=n\/e=7/\n<1+needK fr/\n<nd.quo-nd.use-nd.lent)->(∀ f,¬F f->W' f=W f)->
   Own (RamW r fr hs W'::Bud b F G n::TreeS t ns::R) A'->Q 0 e A')
  (hk:1+needK fr<=nd.quo-nd.use-nd.lent->1+needK fr<=n->∀ top ms W' A',ms.length=needK fr->(∀ x ∈ top::ms,F x)->KOK fr W top ms W'->Own (taken r fr hs W' b F G n t ns i nd (top::ms)++R) A'->Q top 0 A') :
  qbr_A (some ⟨r,0,none⟩) (some ⟨b,0,none⟩) (some ⟨t,0,none⟩) i Q A:=by
 have hRam:aCT fr hs:=(RamW.openH h).choose_spec.1.1;have hfr:=hRam.hi;obtain ⟨mb0,g0,st0,gl0,hB0,hG0,_,_⟩:=Bud.openH h.swap;have hn0:=hB0.nonneg;have hFG:∀ x,F x->¬G x:=λx hx hg=>(hG0.apart x hg).1 hx
 have hnd:nd.OK:=by
  obtain ⟨_,_,_,⟨_,h2⟩,_⟩:=TreeS.openH h.rot3;exact h2 nd (List.mem_of_getElem? hi)
 have hneed:((needK fr:Nat):Int)=(fr+262143) / 262144:=by unfold needK;omega
 unfold qbr_A qbr_G;refine jN (lL hi h) hi hlv hF (λc=>aL rfl ?_) (λc d A1 hA1=>aL rfl ?_) λc d top A1 hFt _ hA1=>bsel_f rfl ?_
 ·have c:nd.quo-nd.use-nd.lent<=0:=by simpa using c
  exact hbad 8 W A (.inl ⟨rfl,by omega,by omega⟩) (λ_ _=>rfl) h
 ·have c:0<nd.quo-nd.use-nd.lent:=by simpa using c
  have d:n=0:=by simpa using d
  exact hbad 7 W A1 (.inr ⟨rfl,by omega,by omega⟩) (λ_ _=>rfl) (nG hi hA1)
 show aT A1 (.cells (aN [top]).toArray _) _;refine aW hA1 λb4 A2 hA2=>?_
 refine ⟨λs x m h'=>∃ (ms:List Int) (W':Int->Int->Int),x=(ms.length:Int)*262144/\ms.length<=needK fr/\needK fr-ms.length=m/\KOK fr W top ms W'/\(∀ x ∈ top::ms,F x)/\s.len=ms.length+1/\s.a≠none/\((top::ms).length:Int)<=nd.quo-nd.use-nd.lent/\((top::ms).length:Int)<=n/\
  Own (taken r fr hs W' b F G n t ns i nd (top::ms)++SlO s 1 (aN (top::ms))::R) h',⟨_,[],zeroW W top,by simp,by simp,rfl,⟨by simp,λf hf=>dM (by simpa using hf),λq _=>by simp [zeroW],λc m hm=>by simp at hm⟩,λx hx=>?_,rfl,by simp,?_,?_,?_⟩,?_⟩
 ·simp at hx;rw [hx];exact hFt
 ·simp at c ⊢;omega
 ·simp at c d ⊢;omega
 ·have hA2:Own (At b4 (aN [top])::(taken r fr hs (zeroW W top) b F G n t ns i nd [top]++R)) A2:=hA2;exact (hA2.imp λB hB=>pV (k:=1) (sz:=1) rfl hB).unrot4
 intro s x m A3 ⟨ms,W',i1,i2,i3,hK,i4,i5,i5b,i6,i7,hA3⟩;subst i1 i3;refine rC hA3 ?_;refine bsel_in (λcc=>?_) λcc=>?_
 rotate_left
 ·have cc:¬ ((ms.length:Int)*262144<fr):=by simpa using cc
  have e:ms.length=needK fr:=by omega
  refine hk (by simp at i6;omega) (by simp at i7;omega) top ms W' A3 e i4 hK ?_;exact hA3.sub (List.Sublist.append_left (List.sublist_cons_self _ _) _)
 have cc:(ms.length:Int)*262144<fr:=by simpa using cc
 have hj4:ms.length<4:=by omega
 have giveback:∀ (e:Int) A4,(e=8/\nd.quo-nd.use-nd.lent<1+needK fr/\nd.quo-nd.use-nd.lent<=n\/e=7/\n<1+needK fr/\n<nd.quo-nd.use-nd.lent)->Own (taken r fr hs W' b F G n t ns i nd (top::ms)++SlO s 1 (aN (top::ms))::R) A4->
   ∃ I17:Int->Nat->AH->Prop,(∃ m18,I17 (0:Int) m18 A4)/\∀ x21:Int,∀ m18 h20,I17 x21 m18 h20->
    (bsel (decide (x21<(Int.ofNat s.len))) (aF s.a λa22=>(bJ x21 s.len (aI .i64 (Addr.add a22 (Int.toNat x21*1)) h20 λn23=>
     (qbi_A (some ⟨r,0,none⟩) (some ⟨b,0,none⟩) (some ⟨t,0,none⟩) i n23 (λh24=>(∃ m19,m19<m18/\I17 (IntKind.wrap .i64 (x21+(1:Int))) m19 h24)) h20)))) (Q (0:Int) e h20)):=by
  intro e A4 he hA4;refine ⟨λx m h'=>∃ c:Nat,x=c/\c<=ms.length+1/\ms.length+1-c=m/\Own (taken r fr hs W' b F G n t ns i nd ((top::ms).drop c)++SlO s 1 (aN (top::ms))::R) h',⟨_,0,rfl,by omega,rfl,hA4⟩,?_⟩;intro x m A5 ⟨c,e1,e2,e3,hA5⟩;subst e1 e3;refine bsel_in (λd=>?_) λd=>?_
  ·have d:c<(top::ms).length:=by simp [i5] at d ⊢;omega
   obtain ⟨f,hf⟩:∃ f,(top::ms)[c]? = some f:=⟨(top::ms)[c],by simp [d]⟩
   have hd:(top::ms).drop c=f::(top::ms).drop (c+1):=by
    rw [List.drop_eq_getElem_cons d];have:=(List.getElem?_eq_some_iff.1 hf).2;rw [this]
   rw [hd] at hA5;obtain ⟨bb,o,q1,q2⟩:=bU (i:=3) (P:=SlO s 1 (aN (top::ms))) hA5 rfl bC (j:=c) (v:=.int .i64 f) (by simp only [aN,List.getElem?_map,hf];rfl);rw [q1];refine inB_in (by omega) (by simp only [List.length_cons] at d;omega) ⟨f,by rw [add_at];simpa using q2,?_⟩;have hfm:f ∈ top::ms:=List.mem_of_getElem? hf;refine t9 hA5 hi hlv hnd.use (i4 f hfm) (by rw [<-hd];exact hK.nodup.sublist (List.drop_sublist _ _)) (hFG f (i4 f hfm)) λA6 hA6=>?_;have d2:c<ms.length+1:=by simpa using d
   exact ⟨ms.length+1-(c+1),by omega,c+1,by rw [bK]<;>omega,by omega,rfl,hA6⟩
  ·have d:c=(top::ms).length:=by simp [i5] at d ⊢;omega
   rw [d,List.drop_length] at hA5;refine hbad e W' A5 he (λf hf=>hK.other f λhm=>hf (i4 f hm)) ?_;have:=nG hi hA5;exact this.sub (List.Sublist.cons_cons _ (List.Sublist.cons_cons _ (List.Sublist.cons_cons _ (List.sublist_cons_self _ _))))
 have hlen2:(((top::ms).length:Nat):Int)=ms.length+1:=by simp
 refine jN hA3 hi hlv hF (λc2=>aL rfl (giveback 8 A3 (.inl ⟨rfl,by omega,by omega⟩) hA3)) (λc2 d2 A4 hA4=>aL rfl (giveback 7 A4 (.inr ⟨rfl,by omega,by omega⟩) hA4)) λc2 d2 f A4 hFf hfn hA4=>bsel_f rfl ?_;show aT A4 (.cells (aN [f]).toArray _) _;refine aW hA4 λb25 A5 hA5=>?_;have hA5:Own (dK ⟨some ⟨b25,0,none⟩,1,1⟩ 1 (aN [f])::(taken r fr hs (zeroW W' f) b F G n t ns i nd ((top::ms)++[f])++SlO s 1 (aN (top::ms))::R)) A5:=hA5.imp λB hB=>(pV (k:=1) (sz:=1) rfl hB).look;have hA5:Own (SlO s 1 (aN (top::ms))::dK ⟨some ⟨b25,0,none⟩,1,1⟩ 1 (aN [f])::(taken r fr hs (zeroW W' f) b F G n t ns i nd ((top::ms)++[f])++R)) A5:=hA5.pick 4 rfl;refine l6 (i:=0) hA5 rfl (λq=>by cases q) (λq=>absurd q i5b) rfl (λv hv=>?_) ⟨by simp only [i5];omega,by simp only [i5];omega⟩ λs' A6 j1 j2 hA6=>?_
 ·simp [aN] at hv;subst hv;rfl
 rw [<-lJ] at hA6
 have hA6:Own (RamW r fr hs (zeroW W' f)::Bud b (λx=>F x/\x ∉ (top::ms)++[f]) (λx=>G x\/x ∈ (top::ms)++[f]) (n-(((top::ms)++[f]).length:Int))::TreeS t (useN ns i nd (nd.use+(((top::ms)++[f]).length:Int)))::SlO s' 1 (aN ((top::ms)++[f]))::R) A6:=
  Own.unrot4 (hA6.sub (List.Sublist.cons_cons _ (List.sublist_cons_self _ _)))
 rw [aJi];have hfr2:=eB (hF f hFf) hfr;have hft:f≠top:=λe=>hfn (by rw [e];exact List.mem_cons_self);refine kY hA6 (hF top hFt) ⟨by omega,by omega⟩ ⟨hfr2.1,by omega⟩ λA7 hA7=>?_
 have fin:∀ W3 A9,(∀ f',f'≠f->W3 f'=setW (zeroW W' f) top ms.length (kEnt f) f')->(∀ q:Nat,q<512->W3 f q=if (ms.length:Int)*262144+q*512<fr then kBig ((ms.length:Int)*262144+q*512) else 0)->
   Own (taken r fr hs W3 b F G n t ns i nd ((top::ms)++[f])++SlO s' 1 (aN ((top::ms)++[f]))::R) A9->
   ∃ m8,m8<needK fr-ms.length/\∃ (ms':List Int) (W':Int->Int->Int),IntKind.wrap .i64 ((ms.length:Int)*262144+262144)=(ms'.length:Int)*262144/\ms'.length<=needK fr/\needK fr-ms'.length=m8/\KOK fr W top ms' W'/\(∀ x ∈ top::ms',F x)/\s'.len=ms'.length+1/\s'.a≠none/\((top::ms').length:Int)<=nd.quo-nd.use-nd.lent/\((top::ms').length:Int)<=n/\
    Own (taken r fr hs W' b F G n t ns i nd (top::ms')++SlO s' 1 (aN (top::ms'))::R) A9:=by
  intro W3 A9 g1 g2 hA9;have hl2:(ms++[f]).length=ms.length+1:=by simp
  refine ⟨needK fr-(ms.length+1),by omega,ms++[f],W3,by rw [hl2,bK]<;>omega,by omega,by omega,hK.step hfn g1 g2,λx hx=>?_,by rw [hl2];simp only [j1,i5],λq=>by have:=j2 q;simp [aN] at this,by simp only [List.length_cons,hl2];omega,by simp only [List.length_cons,hl2];omega,hA9⟩;rcases List.mem_cons.1 hx with rfl | hx
  ·exact hFt
  ·rcases List.mem_append.1 hx with hx | hx
   ·exact i4 x (List.mem_cons_of_mem _ hx)
   ·simp at hx;subst hx;exact hFf
 refine ⟨λx m h'=>∃ (q:Nat) (W3:Int->Int->Int),x=q/\q<=512/\512-q=m/\(∀ f',f'≠f->W3 f'=setW (zeroW W' f) top ms.length (kEnt f) f')/\(∀ q':Nat,q'<512->W3 f q'=if q'<q/\(ms.length:Int)*262144+q'*512<fr then kBig ((ms.length:Int)*262144+q'*512) else 0)/\
  Own (taken r fr hs W3 b F G n t ns i nd ((top::ms)++[f])++SlO s' 1 (aN ((top::ms)++[f]))::R) h',⟨_,0,_,rfl,by omega,rfl,λ_ _=>rfl,λq' _=>?_,hA7⟩,?_⟩
 ·rw [if_neg (by omega),cG hft];unfold zeroW;rw [if_pos rfl]
 intro x m A8 ⟨q,W3,k1,k2,k3,k4,k5,hA8⟩;subst k1 k3;apply bsel_in
 rotate_left
 ·intro d3;have d3:q=512:=by simp at d3;omega
  refine fin W3 A8 k4 (λq' hq'=>?_) hA8;rw [k5 q' hq'];by_cases g:(ms.length:Int)*262144+q'*512<fr
  ·rw [if_pos g,if_pos ⟨by omega,g⟩]
  ·rw [if_neg g,if_neg (λz=>g z.2)]
 intro d3;have d3:q<512:=by simp at d3;omega
 refine rC hA8 ?_;rw [aJR hj4 d3];refine bsel_in (λd4=>?_) λd4=>?_
 rotate_left
 ·have d4:¬ ((ms.length:Int)*262144+q*512<fr):=by simpa using d4
  refine fin W3 A8 k4 (λq' hq'=>?_) hA8;rw [k5 q' hq'];by_cases g:(ms.length:Int)*262144+q'*512<fr
  ·rw [if_pos g,if_pos ⟨by omega,g⟩]
  ·rw [if_neg g,if_neg (λz=>g z.2)]
 have d4:(ms.length:Int)*262144+q*512<fr:=by simpa using d4
 refine kY hA8 (hF f hFf) ⟨by omega,by omega⟩ ⟨by omega,by omega⟩ λA9 hA9=>?_;refine ⟨512-(q+1),by omega,q+1,_,by rw [bK]<;>omega,by omega,rfl,λf' hf'=>?_,λq' hq'=>?_,hA9⟩
 ·rw [cG hf'];exact k4 f' hf'
 ·unfold setW;by_cases g:q'=q
  ·subst g;rw [if_pos ⟨rfl,rfl⟩,if_pos ⟨by omega,d4⟩];rfl
  ·rw [if_neg (by omega),k5 q' hq'];by_cases g2:(ms.length:Int)*262144+q'*512<fr
   ·by_cases g3:q'<q
    ·rw [if_pos ⟨g3,g2⟩,if_pos ⟨by omega,g2⟩]
    ·rw [if_neg (by omega),if_neg (by omega)]
   ·rw [if_neg (λz=>g2 z.2),if_neg (λz=>g2 z.2)]
end Go.Dn
namespace Go.Dn
structure Lf where
 frame:Int
 w:Bool
 u:Bool
 x:Bool
def aH6 (g:Int):Int:=packZ true true true false false false false false g
def aK4 (l:Lf):Int:=packZ true l.w l.u false false false false (!l.x) l.frame
def aIr (o:Option Lf):Int:=match o with | some l=>aK4 l | none=>0
def EntIs (w:Int) (o:Option Int):Prop:=match o with | some g=>∃ a d,w=packZ true true true a d false false false g | none=>w=0
def LeafIs (w:Int) (o:Option Lf):Prop:=match o with | some l=>∃ a d,w=packZ true l.w l.u a d false false (!l.x) l.frame | none=>w=0
theorem aHm (o:Option Lf):LeafIs (aIr o) o:=by cases o;exact rfl;exact ⟨false,false,rfl⟩
abbrev Tab:=Nat->Int->Option Int
structure TabW (W:Int->Int->Int) (root:Int) (tab:Tab) (lf:Int->Option Lf):Prop where
 root:∀ q f,tab 0 q=some f↔q=0/\f=root
 deep:∀ k q,3<k->tab k q=none
 words:∀ k q f,k<3->tab k q=some f->∀ j,0<=j->j<512->(k=0->j<256)->EntIs (W f j) (tab (k+1) (q*512+j))
 leaves:∀ q f,tab 3 q=some f->∀ j,0<=j->j<512->LeafIs (W f j) (lf (q*512+j))
 up:∀ k q f,tab (k+1) q=some f->∃ g,tab k (q / 512)=some g/\0<=q/\(k=0->q<256)
 upL:∀ p l,lf p=some l->∃ g,tab 3 (p / 512)=some g/\0<=p
 apart:∀ k q k' q' f,tab k q=some f->tab k' q'=some f->k=k'/\q=q'
 range:∀ k q f,tab k q=some f->0<=f/\f<1048576
 rangeL:∀ p l,lf p=some l->0<=l.frame/\l.frame<1048576
def setT (tab:Tab) (k:Nat) (q:Int) (o:Option Int):Tab:=λk' q'=>if k'=k/\q'=q then o else tab k' q'
def jJ (lf:Int->Option Lf) (p:Int) (o:Option Lf):Int->Option Lf:=λp'=>if p'=p then o else lf p'
variable {W:Int->Int->Int} {root:Int} {tab:Tab} {lf:Int->Option Lf}
theorem TabW.congr {W':Int->Int->Int} (h:TabW W root tab lf) (hW:∀ k q f,tab k q=some f->W' f=W f):TabW W' root tab lf:=
 ⟨h.root,h.deep,λk q f hk hf j h0 h1 h2=>by rw [hW k q f hf];exact h.words k q f hk hf j h0 h1 h2,λq f hf j h0 h1=>by rw [hW 3 q f hf];exact h.leaves q f hf j h0 h1,h.up,h.upL,h.apart,h.range,h.rangeL⟩
theorem TabW.leaf (h:TabW W root tab lf) {p f:Int} {o:Option Lf} (hf:tab 3 (p / 512)=some f) (hp:0<=p) (ho:∀ l,o=some l->0<=l.frame/\l.frame<1048576) :
  TabW (setW W f (p % 512) (aIr o)) root tab (jJ lf p o):=by
 refine ⟨h.root,h.deep,λk q g hk hg j h0 h1 h2=>?_,λq g hg j h0 h1=>?_,h.up,λp' l hl=>?_,h.apart,h.range,λp' l hl=>?_⟩
 ·have hne:g≠f:=λe=>by
   subst e;have:=(h.apart k q 3 _ _ hg hf).1;omega
  rw [cG hne];exact h.words k q g hk hg j h0 h1 h2
 ·by_cases e:g=f
  ·subst e;obtain ⟨_,e2⟩:=h.apart 3 q 3 _ _ hg hf;unfold setW jJ;by_cases e3:j=p % 512
   ·rw [if_pos ⟨rfl,e3⟩,if_pos (by omega)];exact aHm o
   ·rw [if_neg (λz=>e3 z.2),if_neg (by omega)];exact h.leaves q g hg j h0 h1
  ·rw [cG e]
   have:q*512+j≠p:=λe2=>by
    have:q=p / 512:=by omega
    rw [this] at hg;rw [hg] at hf;cases hf;exact e rfl
   unfold jJ;rw [if_neg this];exact h.leaves q g hg j h0 h1
 ·unfold jJ at hl;split at hl
  ·rename_i e;rw [e];exact ⟨f,hf,hp⟩
  ·exact h.upL p' l hl
 ·unfold jJ at hl;split at hl
  ·exact ho l hl
  ·exact h.rangeL p' l hl
theorem TabW.link (h:TabW W root tab lf) {k:Nat} {q j f g:Int} (hk:k<3) (hf:tab k q=some f) (hq:0<=q) (hj:0<=j/\j<512) (h0:k=0->j<256) (hn:tab (k+1) (q*512+j)=none)
  (hg:∀ k' q',tab k' q'≠some g) (hz:∀ i,0<=i->i<512->W g i=0) (hr:0<=g/\g<1048576) :
  TabW (setW W f j (aH6 g)) root (setT tab (k+1) (q*512+j) (some g)) lf:=by
 have hfg:f≠g:=λe=>hg k q (by rw [hf,e])
 have old:∀ k' q' f',tab k' q'=some f'->setT tab (k+1) (q*512+j) (some g) k' q'=some f':=by
  intro k' q' f' h1;unfold setT;split
  ·rename_i e;obtain ⟨rfl,rfl⟩:=e;rw [hn] at h1;cases h1
  ·exact h1
 have cases':∀ k' q' f',setT tab (k+1) (q*512+j) (some g) k' q'=some f'->(k'=k+1/\q'=q*512+j/\f'=g)\/tab k' q'=some f':=by
  intro k' q' f' h1;unfold setT at h1;split at h1
  ·rename_i e;cases h1;exact .inl ⟨e.1,e.2,rfl⟩
  ·exact .inr h1
 refine ⟨λq' f'=>?_,λk' q' hk'=>?_,λk' q' f' hk' hf' i i0 i1 i2=>?_,λq' f' hf' i i0 i1=>?_,λk' q' f' hf'=>?_,λp l hl=>?_,λk1 q1 k2 q2 f' h1 h2=>?_,λk' q' f' hf'=>?_,h.rangeL⟩
 ·unfold setT;rw [if_neg (λe=>by omega)];exact h.root q' f'
 ·unfold setT;rw [if_neg (λe=>by omega)];exact h.deep k' q' hk'
 ·rcases cases' _ _ _ hf' with ⟨rfl,rfl,rfl⟩ | hf'
  ·rw [cG (Ne.symm hfg),hz i i0 i1]
   have:tab (k+1+1) ((q*512+j)*512+i)=none:=by
    cases e:tab (k+1+1) ((q*512+j)*512+i) with
    | none=>rfl
    | some z=>
     obtain ⟨g',h1,_⟩:=h.up _ _ _ e;rw [show ((q*512+j)*512+i) / 512=q*512+j by omega,hn] at h1;cases h1
   unfold setT;rw [if_neg (λe=>by omega),this];exact rfl
  ·by_cases e:f'=f
   ·obtain ⟨ek,eq⟩:=h.apart _ _ _ _ _ hf' (by rw [e];exact hf);rw [e,ek,eq];unfold setW setT;by_cases e3:i=j
    ·rw [if_pos ⟨rfl,e3⟩,if_pos ⟨rfl,by rw [e3]⟩];exact ⟨false,false,rfl⟩
    ·rw [if_neg (λz=>e3 z.2),if_neg (λz=>e3 (by omega))];exact h.words k q f hk hf i i0 i1 (λz=>i2 (by omega))
   ·rw [cG e]
    have:¬(k'+1=k+1/\q'*512+i=q*512+j):=λz=>by
     have e1:k'=k:=by omega
     have e2:q'=q:=by omega
     rw [e1,e2,hf] at hf';cases hf';exact e rfl
    unfold setT;rw [if_neg this];exact h.words _ _ _ hk' hf' i i0 i1 i2
 ·rcases cases' _ _ _ hf' with ⟨e1,rfl,rfl⟩ | hf'
  ·rw [cG (Ne.symm hfg),hz i i0 i1]
   have:lf ((q*512+j)*512+i)=none:=by
    cases e:lf ((q*512+j)*512+i) with
    | none=>rfl
    | some z=>
     obtain ⟨g',h1,_⟩:=h.upL _ _ e;rw [show ((q*512+j)*512+i) / 512=q*512+j by omega,e1,hn] at h1;cases h1
   rw [this];exact rfl
  ·have hne:f'≠f:=λe=>by
    subst e;have:=(h.apart _ _ _ _ _ hf' hf).1;omega
   rw [cG hne];exact h.leaves q' f' hf' i i0 i1
 ·rcases cases' _ _ _ hf' with ⟨e1,rfl,rfl⟩ | hf'
  ·have e1:k'=k:=by omega
   subst e1
   exact ⟨f,by rw [show (q*512+j) / 512=q by omega];exact old _ _ _ hf,by omega,λe=>by
    have:=(h.root q f).1 (by rw [<-e];exact hf);have:=h0 e;omega⟩
  ·obtain ⟨g',h1,h2⟩:=h.up _ _ _ hf';exact ⟨g',old _ _ _ h1,h2⟩
 ·obtain ⟨g',h1,h2⟩:=h.upL p l hl;exact ⟨g',old _ _ _ h1,h2⟩
 ·rcases cases' _ _ _ h1 with ⟨a1,a2,a3⟩ | h1
  ·rcases cases' _ _ _ h2 with ⟨b1,b2,b3⟩ | h2
   ·exact ⟨a1.trans b1.symm,a2.trans b2.symm⟩
   ·exact absurd (by rw [<-a3];exact h2) (hg k2 q2)
  ·rcases cases' _ _ _ h2 with ⟨b1,b2,b3⟩ | h2
   ·exact absurd (by rw [<-b3];exact h1) (hg k1 q1)
   ·exact h.apart _ _ _ _ _ h1 h2
 ·rcases cases' _ _ _ hf' with ⟨e1,e2,e3⟩ | hf'
  ·rw [e3];exact hr
  ·exact h.range _ _ _ hf'
theorem aDq {w g:Int} (h:EntIs w (some g)) (hg:0<=g/\g<1048576):bitZ w 0=true/\cB w=g/\w≠0/\qB w:=by
 obtain ⟨a,d,rfl⟩:=h;obtain ⟨h0,_,_,_,_,_,_,_,h8,h9⟩:=eC true true true a d false false false hg;refine ⟨h0,h8,λe=>?_,h9⟩;rw [e] at h0;cases h0
theorem uG {w:Int} {l:Lf} (h:LeafIs w (some l)) (hg:0<=l.frame/\l.frame<1048576):bitZ w 0=true/\bitZ w 1=l.w/\bitZ w 2=l.u/\bitZ w 63 = !l.x/\cB w=l.frame/\w≠0/\qB w:=by
 obtain ⟨a,d,rfl⟩:=h;obtain ⟨h0,h1,h2,_,_,_,_,h7,h8,h9⟩:=eC true l.w l.u a d false false (!l.x) hg;refine ⟨h0,h1,h2,h7,h8,λe=>?_,h9⟩;rw [e] at h0;cases h0
end Go.Dn
namespace Go.Dn
variable {A:AH} {l R:List SP} {r:Nat} {fr:Int} {hs:List (Int × Int)} {W:Int->Int->Int} {root:Int} {tab:Tab} {lf:Int->Option Lf}
def preP (p:Int):Nat->Int
 | 0=>0
 | 1=>p / 134217728
 | 2=>p / 262144
 | 3=>p / 512
 | _=>p
def eS (p:Int):Nat->Int
 | 0=>p / 134217728 % 512
 | 1=>p / 262144 % 512
 | 2=>p / 512 % 512
 | _=>p % 512
theorem eX {p:Int} (hp:0<=p/\p<34359738368) {k:Nat} (hk:k<4):preP p (k+1)=preP p k*512+eS p k/\0<=eS p k/\eS p k<512/\(k=0->eS p k<256)/\0<=preP p k:=by
 obtain rfl | rfl | rfl | rfl:k=0\/k=1\/k=2\/k=3:=by omega
 all_goals simp only [preP,eS]
 all_goals omega
theorem qX {p:Int} {Q:Int->Int->Int->Int->AH->Prop} (h:Own l A) (hp:0<=p/\p<34359738368) (hk:∀ A',Own l A'->Q (eS p 0) (eS p 1) (eS p 2) (eS p 3) A'):qdm_A p Q A:=by
 unfold qdm_A qdm_G;rw [cL (n:=p) (by omega) (by omega),cL (by omega) (by omega)];refine tI ⟨by omega,by omega⟩ h λA' hA=>?_;have e0:aO (p*4096) 39=eS p 0:=by simp only [aO,eS];omega
 have e1:aO (p*4096) 30=eS p 1:=by simp only [aO,eS];omega
 have e2:aO (p*4096) 21=eS p 2:=by simp only [aO,eS];omega
 have e3:aO (p*4096) 12=eS p 3:=by simp only [aO,eS];omega
 rw [e0,e1,e2,e3];exact hk A' hA
structure DownOK (tab:Tab) (p:Int) (lst:List Int):Prop where
 pos:0<lst.length
 le:lst.length<=4
 is:∀ c,c<lst.length->tab c (preP p c)=lst[c]?
 no:lst.length<4->tab lst.length (preP p lst.length)=none
def bY (p:Int):List Value:=[.int .i64 (eS p 0),.int .i64 (eS p 1),.int .i64 (eS p 2),.int .i64 (eS p 3)]
theorem gL {p:Int} {c:Nat} (hc:c<4):(bY p)[c]? = some (.int .i64 (eS p c)):=by
 obtain rfl | rfl | rfl | rfl:c=0\/c=1\/c=2\/c=3:=by omega
 all_goals rfl
set_option maxRecDepth 100000 in
theorem wM {p bx:Int} {pb pt:Option Addr} {Q:Sl->AH->Prop} (h:Own (RamW r fr hs W::R) A) (hT:TabW W root tab lf) (hhas:∀ k q f,tab k q=some f->hasF fr hs f=true) (hp:0<=p/\p<34359738368)
  (hk:∀ lst s A',DownOK tab p lst->s.len=lst.length->s.a≠none->Own (RamW r fr hs W::SlO s 1 (aN lst)::R) A'->Q s A'):qdq_A (some ⟨r,0,none⟩) pb pt bx root p Q A:=by
 unfold qdq_A qdq_G;refine qX h hp λA1 h1=>?_;refine aW (cs:=[.int .i64 0,.int .i64 0,.int .i64 0,.int .i64 0]) h1 λb6 A2 h2=>?_;simp only [add_at];refine aJ (i:=0) h2 rfl rfl rfl λA3 h3=>aJ (i:=0) h3 rfl rfl rfl λA4 h4=>aJ (i:=0) h4 rfl rfl rfl λA5 h5=>aJ (i:=0) h5 rfl rfl rfl λA6 h6=>?_;have h6:Own (At b6 (bY p)::RamW r fr hs W::R) A6:=h6;refine aW (cs:=aN [root]) h6 λb12 A7 h7=>?_;have h7:Own (SlO ⟨some ⟨b12,0,none⟩,1,1⟩ 1 (aN [root])::At b6 (bY p)::RamW r fr hs W::R) A7:=h7.imp λB hB=>pV (k:=1) (sz:=1) rfl hB;have h7:Own (RamW r fr hs W::SlO ⟨some ⟨b12,0,none⟩,1,1⟩ 1 (aN [root])::At b6 (bY p)::R) A7:=h7.rot3;have hroot:tab 0 0=some root:=(hT.root 0 root).2 ⟨rfl,rfl⟩;refine ⟨λs h'=>∃ lst,DownOK tab p lst/\s.len=lst.length/\s.a≠none/\Own (RamW r fr hs W::SlO s 1 (aN lst)::At b6 (bY p)::R) h',λs h' ⟨lst,g1,g2,g3,g4⟩=>hk lst s h' g1 g2 g3 (g4.sub (List.Sublist.cons_cons _ (List.Sublist.cons_cons _ (List.sublist_cons_self _ _)))),?_⟩
 refine ⟨λs x m h'=>∃ (v:Nat) (lst:List Int),x=v/\v<=3/\3-v=m/\lst.length=v+1/\(∀ c,c<v+1->tab c (preP p c)=lst[c]?)/\s.len=v+1/\s.a≠none/\Own (RamW r fr hs W::SlO s 1 (aN lst)::At b6 (bY p)::R) h',
  ⟨_,0,[root],rfl,by omega,rfl,rfl,λc hc=>?_,rfl,by simp,h7⟩,?_⟩
 ·have:c=0:=by omega
  subst this;exact hroot
 intro s x m A8 ⟨v,lst,i1,i2,i3,i4,i5,i6,i7,h8⟩;subst i1 i3;apply bsel_in
 rotate_left
 ·intro d;have d:v=3:=by simp at d;omega
  subst d;exact ⟨lst,⟨by omega,by omega,λc hc=>i5 c (by omega),λhc=>by omega⟩,by omega,i7,h8⟩
 intro d;have d:v<3:=by simp at d;omega
 obtain ⟨f,hf⟩:∃ f,lst[v]? = some f:=⟨lst[v],by simp [i4]⟩;have hfv:=i5 v (by omega);rw [hf] at hfv;obtain ⟨bb,o,q1,q2⟩:=bU (i:=1) (P:=SlO s 1 (aN lst)) h8 rfl bC (j:=v) (v:=.int .i64 f) (by simp only [aN,List.getElem?_map,hf];rfl);obtain ⟨e1,e2,e3,e4,e5⟩:=eX hp (k:=v) (by omega);have ldf:∀ K:Int->Prop,K f->aI .i64 (Addr.add ⟨bb,o,none⟩ (Int.toNat (v:Int)*1)) A8 K:=λK hK=>⟨f,by rw [add_at];simpa using q2,hK⟩;rw [q1];refine inB_in (by omega) (by omega) (inB_in (by omega) (by omega) (ldf _ ?_));refine ld_I (i:=2) h8 rfl (by rw [show 0+Int.toNat (v:Int)*1=v by omega];exact gL (by omega)) ?_;refine vA h8 (hhas _ _ _ hfv) ⟨e2,e3⟩ λA9 h9=>?_;have hw:=hT.words v _ f d hfv (eS p v) e2 e3 e4;rw [<-e1] at hw;cases hn:tab (v+1) (preP p (v+1)) with
 | none=>
  rw [hn] at hw;have hw:W f (eS p v)=0:=hw;rw [hw];exact aL rfl ⟨lst,⟨by omega,by omega,λc hc=>i5 c (by omega),λ_=>by rw [i4];exact hn⟩,by omega,i7,h9⟩
 | some g=>
  rw [hn] at hw;obtain ⟨w1,w2,_,_⟩:=aDq hw (hT.range _ _ _ hn);rw [w1,w2];refine bsel_f rfl ?_;refine aW (cs:=aN [g]) h9 λb35 A10 h10=>?_;have h10:Own (dK ⟨some ⟨b35,0,none⟩,1,1⟩ 1 (aN [g])::RamW r fr hs W::SlO s 1 (aN lst)::At b6 (bY p)::R) A10:=h10.imp λB hB=>(pV (k:=1) (sz:=1) rfl hB).look;have h10:Own (SlO s 1 (aN lst)::dK ⟨some ⟨b35,0,none⟩,1,1⟩ 1 (aN [g])::RamW r fr hs W::At b6 (bY p)::R) A10:=h10.pick 2 rfl;refine l6 (i:=0) h10 rfl (λq=>by cases q) (λq=>absurd q i7) rfl (λx hx=>?_) ⟨by simp only [i6];omega,by simp only [i6];omega⟩ λs' A11 j1 j2 h11=>?_
  ·simp [aN] at hx;subst hx;rfl
  rw [<-lJ] at h11;refine ⟨3-(v+1),by omega,v+1,lst++[g],by rw [bK]<;>omega,by omega,rfl,by simp [i4],λc hc=>?_,by simp only [j1,i6],λq=>by have:=j2 q;simp [aN] at this,?_⟩
  ·by_cases g1:c<v+1
   ·rw [List.getElem?_append_left (by omega)];exact i5 c g1
   ·have:c=v+1:=by omega
    subst this;rw [List.getElem?_append_right (by omega),hn,i4];simp
  ·exact (h11.sub (List.Sublist.cons_cons _ (List.sublist_cons_self _ _))).swap
end Go.Dn
namespace Go.Dn
variable {A:AH} {R:List SP} {r:Nat} {fr:Int} {hs:List (Int × Int)} {W:Int->Int->Int} {root:Int} {tab:Tab} {lf:Int->Option Lf}
theorem TabW.chain (h:TabW W root tab lf) {p:Int} {x:Lf} (hp:0<=p/\p<34359738368) (hx:lf p=some x):∀ c,c<4->tab c (preP p c)≠none:=by
 obtain ⟨f3,h3,_⟩:=h.upL p x hx;obtain ⟨f2,h2,_⟩:=h.up 2 _ _ h3;obtain ⟨f1,h1,_⟩:=h.up 1 _ _ h2;have e2:p / 512 / 512=p / 262144:=by omega
 have e1:p / 262144 / 512=p / 134217728:=by omega
 rw [e2] at h2 h1;rw [e1] at h1;have h0:tab 0 0=some root:=(h.root 0 root).2 ⟨rfl,rfl⟩;intro c hc;obtain rfl | rfl | rfl | rfl:c=0\/c=1\/c=2\/c=3:=by omega
 ·simp only [preP];rw [h0];simp
 ·simp only [preP];rw [h1];simp
 ·simp only [preP];rw [h2];simp
 ·simp only [preP];rw [h3];simp
theorem DownOK.four {p:Int} {lst:List Int} (h:DownOK tab p lst) (hl:lst.length=4):∃ f,lst[3]? = some f/\tab 3 (p / 512)=some f:=by
 have:=h.is 3 (by omega);refine ⟨lst[3],by simp [hl],?_⟩;rw [show p / 512=preP p 3 from rfl,this];simp [hl]
set_option maxRecDepth 100000 in
theorem aBy {p bx:Int} {pb pt:Option Addr} {Q:Int->Bool->Bool->Bool->Bool->AH->Prop} (h:Own (RamW r fr hs W::R) A) (hT:TabW W root tab lf) (hhas:∀ k q f,tab k q=some f->hasF fr hs f=true)
  (hn:(p<0\/p>=34359738368\/lf p=none)->∀ A',Own (RamW r fr hs W::R) A'->Q 0 false false false false A')
  (hk:∀ x,0<=p->p<34359738368->lf p=some x->∀ A',Own (RamW r fr hs W::R) A'->Q x.frame x.w x.u x.x true A'):qdr_A (some ⟨r,0,none⟩) pb pt bx root p Q A:=by
 unfold qdr_A qdr_G;refine ⟨λ_ _ _ h'=>h'=A/\0<=p/\p<34359738368,?_,bsel_in (λc=>hn (.inl (by simpa using c)) A h) λc=>bsel_in (λd=>hn (.inr (.inl (by simpa using d))) A h) λd=>⟨rfl,by simpa using c,by simpa using d⟩⟩;intro _ _ _ A0 ⟨e0,p0,p1⟩;subst e0;refine wM h hT hhas ⟨p0,p1⟩ λlst s A1 hD hl hsa h1=>?_;have hle:=hD.le;refine bsel_in (λc=>?_) λc=>?_
 ·have c:lst.length<4:=by simp [hl] at c;omega
  refine hn (.inr (.inr ?_)) A1 (h1.sub (List.Sublist.cons_cons _ (List.sublist_cons_self _ _)));cases hx:lf p with
  | none=>rfl
  | some x=>exact absurd (hD.no c) (hT.chain ⟨p0,p1⟩ hx _ c)
 have c:lst.length=4:=by simp [hl] at c;omega
 obtain ⟨f,hf,ht⟩:=hD.four c
 have ld3:∀ B,Own (RamW r fr hs W::SlO s 1 (aN lst)::R) B->∀ a,s.a=some a->∀ K:Int->Prop,K f->aI .i64 (Addr.add a 3) B K:=by
  intro B hB a ha K hK;obtain ⟨bb,o,q1,q2⟩:=bU (i:=1) (P:=SlO s 1 (aN lst)) hB rfl bC (j:=3) (v:=.int .i64 f) (by simp only [aN,List.getElem?_map,hf];rfl);rw [q1] at ha;cases ha;exact ⟨f,by rw [add_at];exact q2,hK⟩
 obtain ⟨a,ha⟩:∃ a,s.a=some a:=by
  cases e:s.a with
  | none=>exact absurd e hsa
  | some a=>exact ⟨a,rfl⟩
 have ld3:=λB hB=>ld3 B hB a ha;rw [ha];refine inB_in (by omega) (by simp [hl,c]) (ld3 _ h1 _ ?_);refine qX h1 ⟨p0,p1⟩ λA2 h2=>⟨ld3 _ h2 _ rfl,eS p 3,rfl,?_⟩;have hj:0<=eS p 3/\eS p 3<512:=by simp only [eS];omega
 refine vA h2 (hhas _ _ _ ht) hj λA3 h3=>?_;have hw:=hT.leaves _ f ht (eS p 3) hj.1 hj.2;rw [show p / 512*512+eS p 3=p by simp only [eS];omega] at hw;have h3':Own (RamW r fr hs W::R) A3:=h3.sub (List.Sublist.cons_cons _ (List.sublist_cons_self _ _));cases hx:lf p with
 | none=>
  rw [hx] at hw;have hw:W f (eS p 3)=0:=hw;rw [hw];exact aL rfl (hn (.inr (.inr hx)) A3 h3')
 | some x=>
  rw [hx] at hw;obtain ⟨b0,b1,b2,b3,b4,_,_⟩:=uG hw (hT.rangeL _ _ hx);rw [b0,b1,b2,b3,b4,Bool.not_not];exact bsel_f rfl (hk x p0 p1 hx A3 h3')
end Go.Dn
namespace Go.Dn
def aL5 (lst:List Int) (v:Nat):List Int:=lst.drop (v+1)
end Go.Dn
namespace Go.Dn
variable {A:AH} {R:List SP} {r b t i:Nat} {fr n:Int} {hs:List (Int × Int)} {W:Int->Int->Int} {F G:Int->Prop} {ns:List Nd} {nd:Nd}
def tab0 (root:Int):Tab:=λk q=>if k=0/\q=0 then some root else none
theorem TabW.init {root:Int} (hz:∀ j,0<=j->j<256->W root j=0) (hr:0<=root/\root<1048576):TabW W root (tab0 root) (λ_=>none):=by
 have key:∀ k q f,tab0 root k q=some f->k=0/\q=0/\f=root:=by
  intro k q f h;unfold tab0 at h;split at h
  ·rename_i e;cases h;exact ⟨e.1,e.2,rfl⟩
  ·cases h
 refine ⟨λq f=>⟨λh=>⟨(key _ _ _ h).2.1,(key _ _ _ h).2.2⟩,λh=>?_⟩,λk q hk=>?_,λk q f hk hf j h0 h1 h2=>?_,λq f hf=>?_,λk q f hf=>?_,λp x hx=>(by cases hx),λk1 q1 k2 q2 f h1 h2=>?_,λk q f hf=>?_,λp x hx=>(by cases hx)⟩
 ·unfold tab0;rw [h.1,h.2,if_pos ⟨rfl,rfl⟩]
 ·unfold tab0;rw [if_neg (by omega)]
 ·obtain ⟨rfl,rfl,rfl⟩:=key _ _ _ hf;rw [hz j h0 (h2 rfl)];unfold tab0;rw [if_neg (by omega)];rfl
 ·have:=(key _ _ _ hf).1;omega
 ·have:=(key _ _ _ hf).1;omega
 ·obtain ⟨a1,a2,_⟩:=key _ _ _ h1;obtain ⟨b1,b2,_⟩:=key _ _ _ h2;exact ⟨a1.trans b1.symm,a2.trans b2.symm⟩
 ·rw [(key _ _ _ hf).2.2];exact hr
theorem aEb {kern:Int} {tk:List Int} {Q:Int->Int->AH->Prop} (h:Own (taken r fr hs W b F G n t ns i nd tk++R) A) (hi:ns[i]? = some nd) (hlv:nd.live=true) (hF:∀ x,F x->hasF fr hs x=true) (hkn:0<=kern/\kern<1048576)
  (hq:nd.quo-nd.use-nd.lent<=tk.length->Q 0 8 A) (hm:tk.length<nd.quo-nd.use-nd.lent->n=tk.length->∀ A',Own (taken r fr hs W b F G n t ns i nd tk++R) A'->Q 0 7 A')
  (hk:tk.length<nd.quo-nd.use-nd.lent->n≠tk.length->∀ f A',F f->f ∉ tk->Own (taken r fr hs (setW (zeroW W f) f 256 (kEnt kern)) b F G n t ns i nd (tk++[f])++R) A'->Q f 0 A') :
  qbz_A (some ⟨r,0,none⟩) (some ⟨b,0,none⟩) (some ⟨t,0,none⟩) i kern Q A:=by
 unfold qbz_A qbz_G;refine jN h hi hlv hF (λc=>aL rfl (hq c)) (λc d A' hA=>aL rfl (hm c d A' hA)) λc d f A1 hf hn hA=>bsel_f rfl ?_;exact kY hA (hF f hf) ⟨by omega,by omega⟩ hkn λA2 hA2=>hk c d f A2 hf hn hA2
end Go.Dn
namespace Go.Dn
variable {A:AH} {R:List SP} {r b t i:Nat} {fr n:Int} {hs:List (Int × Int)} {F G:Int->Prop} {ns:List Nd} {nd:Nd}
theorem wD {tk:List Int} {s:Sl} {W':Int->Int->Int} {K:AP} (h:Own (taken r fr hs W' b F G n t ns i nd tk++SlO s 1 (aN tk)::R) A) (hi:ns[i]? = some nd) (hlv:nd.live=true) (hu:0<=nd.use) (hFG:∀ x,F x->¬G x)
  (hF:∀ x ∈ tk,F x) (hnd:tk.Nodup) (hl:tk.length<9223372036854775807) (hk:∀ A',Own (RamW r fr hs W'::Bud b F G n::TreeS t ns::R) A'->K A') :
  ∃ I17:Int->Nat->AH->Prop,(∃ m18,I17 (0:Int) m18 A)/\∀ x21:Int,∀ m18 h20,I17 x21 m18 h20->
   (bsel (decide (x21<(Int.ofNat s.len))) (aF s.a λa22=>(bJ x21 s.len (aI .i64 (Addr.add a22 (Int.toNat x21*1)) h20 λn23=>
    (qbi_A (some ⟨r,0,none⟩) (some ⟨b,0,none⟩) (some ⟨t,0,none⟩) i n23 (λh24=>(∃ m19,m19<m18/\I17 (IntKind.wrap .i64 (x21+(1:Int))) m19 h24)) h20)))) (K h20)):=by
 have hsl:s.len=tk.length:=by
  have:=eP (i:=3) (P:=SlO s 1 (aN tk)) h rfl bC;simpa [aN] using this
 refine ⟨λx m h'=>∃ c:Nat,x=c/\c<=tk.length/\tk.length-c=m/\Own (taken r fr hs W' b F G n t ns i nd (tk.drop c)++SlO s 1 (aN tk)::R) h',⟨_,0,rfl,by omega,rfl,h⟩,?_⟩;intro x m A5 ⟨c,e1,e2,e3,hA5⟩;subst e1 e3;refine bsel_in (λd=>?_) λd=>?_
 ·have d:c<tk.length:=by simp [hsl] at d;omega
  obtain ⟨f,hf⟩:∃ f,tk[c]? = some f:=⟨tk[c],by simp [d]⟩
  have hd:tk.drop c=f::tk.drop (c+1):=by
   rw [List.drop_eq_getElem_cons d];have:=(List.getElem?_eq_some_iff.1 hf).2;rw [this]
  rw [hd] at hA5;obtain ⟨bb,o,q1,q2⟩:=bU (i:=3) (P:=SlO s 1 (aN tk)) hA5 rfl bC (j:=c) (v:=.int .i64 f) (by simp only [aN,List.getElem?_map,hf];rfl);rw [q1];refine inB_in (by omega) (by omega) ⟨f,by rw [add_at];simpa using q2,?_⟩;have hfm:f ∈ tk:=List.mem_of_getElem? hf;refine t9 hA5 hi hlv hu (hF f hfm) (by rw [<-hd];exact hnd.sublist (List.drop_sublist _ _)) (hFG f (hF f hfm)) λA6 hA6=>?_;exact ⟨tk.length-(c+1),by omega,c+1,by rw [bK]<;>omega,by omega,rfl,hA6⟩
 ·have d:c=tk.length:=by simp [hsl] at d;omega
  rw [d,List.drop_length] at hA5;refine hk A5 ?_;have:=nG hi hA5;exact this.sub (List.Sublist.cons_cons _ (List.Sublist.cons_cons _ (List.Sublist.cons_cons _ (List.sublist_cons_self _ _))))
end Go.Dn
namespace Go.Dn
variable {W:Int->Int->Int} {root:Int} {tab:Tab} {lf:Int->Option Lf}
structure Way (W:Int->Int->Int) (root:Int) (tab:Tab) (lf:Int->Option Lf) (p:Int) (tk:List Int) (W2:Int->Int->Int) (tab1:Tab) (lst:List Int):Prop where
 ok:TabW W2 root tab1 lf
 down:DownOK tab1 p lst
 old:∀ k q f,tab k q=some f->tab1 k q=some f
 new:∀ k q f,tab1 k q=some f->tab k q=some f\/(f ∈ tk/\q=preP p k/\1<=k/\k<=3)
 other:∀ f,f ∉ tk->(∀ k q,tab k q≠some f)->W2 f=W f
 hi:∀ j,256<=j->W2 root j=W root j
theorem Way.step {p:Int} {tk lst:List Int} {W2:Int->Int->Int} {tab1:Tab} (h:Way W root tab lf p tk W2 tab1 lst) (hp:0<=p/\p<34359738368) (hl:lst.length<4) {f g:Int} (hf:lst[lst.length-1]? = some f) (hg:g ∈ tk)
  (hno:∀ k q,tab1 k q≠some g) (hz:∀ j,0<=j->j<512->W2 g j=0) (hr:0<=g/\g<1048576) :
  Way W root tab lf p tk (setW W2 f (eS p (lst.length-1)) (aH6 g)) (setT tab1 lst.length (preP p lst.length) (some g)) (lst++[g]):=by
 obtain ⟨k,hk⟩:∃ k,lst.length=k+1:=⟨lst.length-1,by have:=h.down.pos;omega⟩;rw [hk] at hf;simp only [Nat.add_sub_cancel] at hf;obtain ⟨e1,e2,e3,e4,e5⟩:=eX hp (k:=k) (by omega);have hft:=h.down.is k (by omega);rw [hf] at hft;have hn:=h.down.no hl;rw [hk,e1] at hn;have hlink:=h.ok.link (k:=k) (by omega) hft e5 ⟨e2,e3⟩ e4 hn hno hz hr;rw [hk,Nat.add_sub_cancel,e1]
 have old:∀ k' q' f',tab1 k' q'=some f'->setT tab1 (k+1) (preP p k*512+eS p k) (some g) k' q'=some f':=by
  intro k' q' f' h1;unfold setT;split
  ·rename_i e;rw [e.1,e.2,hn] at h1;cases h1
  ·exact h1
 refine ⟨hlink,⟨by simp,by simp;omega,λc hc=>?_,λhc=>?_⟩,λk' q' f' h1=>old _ _ _ (h.old _ _ _ h1),λk' q' f' h1=>?_,λf' h1 h2=>?_,λj hj=>?_⟩
 ·by_cases e:c=k+1
  ·subst e;rw [List.getElem?_append_right (by omega),hk,e1];unfold setT;rw [if_pos ⟨rfl,rfl⟩];simp
  ·have:c<k+1:=by simp [hk] at hc;omega
   rw [List.getElem?_append_left (by omega)];unfold setT;rw [if_neg (λz=>e z.1)];exact h.down.is c (by omega)
 ·have e6:(lst++[g]).length=k+2:=by simp [hk]
  rw [e6];rw [e6] at hc;unfold setT;rw [if_neg (λz=>by omega)];cases e:tab1 (k+2) (preP p (k+2)) with
  | none=>rfl
  | some z=>
   obtain ⟨g',g1,_⟩:=h.ok.up _ _ _ e
   have e7:preP p (k+2) / 512=preP p k*512+eS p k:=by
    obtain ⟨u1,u2,u3,_,_⟩:=eX hp (k:=k+1) (by omega);rw [u1,<- e1];omega
   rw [e7,hn] at g1;cases g1
 ·unfold setT at h1;split at h1
  ·rename_i e;cases h1;exact .inr ⟨hg,by rw [e.1,e1];exact e.2,by omega,by omega⟩
  ·exact h.new _ _ _ h1
 ·have hne:f'≠f:=λe=>by
   rw [e] at h1 h2;rcases h.new _ _ _ hft with h3 | h3
   ·exact h2 _ _ h3
   ·exact h1 h3.1
  rw [cG hne];exact h.other f' h1 h2
 ·unfold setW;by_cases e:root=f
  ·have h0:tab1 0 0=some f:=(h.ok.root 0 f).2 ⟨rfl,e.symm⟩;obtain ⟨k0,_⟩:=h.ok.apart _ _ _ _ _ hft h0;have:=e4 k0;rw [if_neg (λz=>by omega)];exact h.hi j hj
  ·rw [if_neg (λz=>e z.1)];exact h.hi j hj
end Go.Dn
