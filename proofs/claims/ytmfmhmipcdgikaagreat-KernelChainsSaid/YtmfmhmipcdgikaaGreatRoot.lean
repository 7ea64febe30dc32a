/- What the proof stands on. -/
import Derived.Test.YtmfmhmipcdgikaaGreatG
import Derived.Test.YtmfmhmipcdgikaaGreatDnN
import Derived.Test.YtmfmhmipcdgikaaGreatBudNew
namespace Go.Dn
structure Nd where
 par:Int
 quo:Int
 use:Int
 lent:Int
 live:Bool
def Nd.cells (d:Nd):List Value:=[.int .i64 d.par,.int .i64 d.quo,.int .i64 d.use,.int .i64 d.lent,.bool d.live]
def ndCells (ns:List Nd):List Value:=ns.flatMap Nd.cells
structure Nd.OK (d:Nd):Prop where
 use:0<=d.use
 lent:0<=d.lent
 room:d.use+d.lent<=d.quo
 quo:d.quo<=1048576
def fR (t blk cap:Nat) (ns:List Nd) (rest:List Value):List SP:=[At t [.slice (some ⟨blk,0,none⟩) ns.length cap],At blk (ndCells ns++rest)]
def TreeS (t:Nat) (ns:List Nd):SP:=λB=>∃ blk cap rest,(ns.length<=64/\∀ d ∈ ns,d.OK)/\Own (fR t blk cap ns rest) B
variable {A:AH} {l R:List SP} {t blk cap i:Nat} {ns:List Nd} {rest:List Value} {nd:Nd}
theorem dA (ns:List Nd):(ndCells ns).length=ns.length*5:=by
 induction ns with
 | nil=>rfl
 | cons d ns ih=>simp only [ndCells,List.flatMap_cons,List.length_append] at ih ⊢;rw [ih];simp [Nd.cells];omega
theorem oH:∀ {ns:List Nd} {i:Nat} {nd:Nd} (f:Nat),ns[i]? = some nd->f<5->(ndCells ns)[i*5+f]? = nd.cells[f]?
 | [],_,_,_,e,_=>by simp at e
 | d::ns,0,nd,f,e,hf=>by
  simp at e;subst e;show (d.cells++ndCells ns)[0*5+f]? = _;rw [List.getElem?_append_left (by simp [Nd.cells];omega)];simp
 | d::ns,i+1,nd,f,e,hf=>by
  have:=oH (ns:=ns) (i:=i) (nd:=nd) f (by simpa using e) hf;show (d.cells++ndCells ns)[(i+1)*5+f]? = _;rw [List.getElem?_append_right (by simp [Nd.cells];omega)];rw [show (i+1)*5+f-d.cells.length=i*5+f by simp [Nd.cells];omega];exact this
theorem sL:∀ {ns:List Nd} {i:Nat} {nd:Nd} (x:Int),ns[i]? = some nd->(ndCells ns).set (i*5+2) (.int .i64 x)=ndCells (ns.set i { nd with use:=x })
 | [],_,_,_,e=>by simp at e
 | d::ns,0,nd,x,e=>by simp at e;subst e;rfl
 | d::ns,i+1,nd,x,e=>by
  have:=sL (ns:=ns) (i:=i) (nd:=nd) x (by simpa using e);show (d.cells++ndCells ns).set ((i+1)*5+2) _=d.cells++ndCells (ns.set i _);rw [List.set_append_right _ _ (by simp [Nd.cells];omega)];rw [show (i+1)*5+2-d.cells.length=i*5+2 by simp [Nd.cells];omega,this]
theorem TreeS.openH (h:Own (TreeS t ns::R) A):∃ blk cap rest,(ns.length<=64/\∀ d ∈ ns,d.OK)/\Own (fR t blk cap ns rest++R) A:=by
 obtain ⟨blk,h⟩:=Own.ex h;obtain ⟨cap,h⟩:=Own.ex h;obtain ⟨rest,h⟩:=Own.ex h;obtain ⟨h1,h⟩:=Own.pure h;exact ⟨blk,cap,rest,h1,Own.flat h⟩
theorem TreeS.closeH (h1:ns.length<=64) (h2:∀ d ∈ ns,d.OK) (h:Own (fR t blk cap ns rest++R) A):Own (TreeS t ns::R) A:=h.app.imp λ_ hB=>⟨blk,cap,rest,⟨h1,h2⟩,hB⟩
theorem kA {f:Nat} {v:Value} (hi:ns[i]? = some nd) (hf:f<5) (hv:nd.cells[f]? = some v):(ndCells ns++rest)[i*5+f]? = some v:=by
 have hl:=(List.getElem?_eq_some_iff.1 hi).1;rw [List.getElem?_append_left (by rw [dA];omega),oH f hi hf];exact hv
theorem sD {Q:Option Addr->Bool->AH->Prop} (h:Own (fR t blk cap ns rest++R) A) (hi:ns[i]? = some nd) (hlv:nd.live=true) (hk:Q (some ⟨blk,i*5,none⟩) true A):qav_A (some ⟨t,0,none⟩) i Q A:=by
 have hl:=(List.getElem?_eq_some_iff.1 hi).1;unfold qav_A;refine bsel_f (by simp) (ld_S (i:=0) h rfl rfl (bsel_f (by simp;omega) (ld_S (i:=0) h rfl rfl (inB_in (by omega) (by simp;omega) ?_))));rw [add_at,add_at];refine aY (i:=1) (n:=nd.live) h rfl ?_ ?_
 ·rw [show 0+Int.toNat (i:Int)*5+4=i*5+4 by omega];exact kA hi (by omega) rfl
 refine bsel_f (by simp [hlv]) (ld_S (i:=0) h rfl rfl (inB_in (by omega) (by simp;omega) ?_));rw [add_at,show 0+Int.toNat (i:Int)*5=i*5 by omega];exact hk
theorem nP {f:Nat} {x:Int} {K:Int->Prop} (h:Own (fR t blk cap ns rest++R) A) (hi:ns[i]? = some nd) (hf:f<5) (hx:nd.cells[f]? = some (.int .i64 x)) (hK:K x):aI .i64 (Addr.add ⟨blk,i*5,none⟩ f) A K:=by
 rw [add_at];exact ld_I (i:=1) h rfl (kA hi hf hx) hK
theorem aG8 {x:Int} {K:AP} (h:Own (fR t blk cap ns rest++R) A) (hi:ns[i]? = some nd) (hK:∀ A',Own (fR t blk cap (ns.set i { nd with use:=x }) rest++R) A'->K A'):aC (Addr.add ⟨blk,i*5,none⟩ 2) (.int .i64 x) A K:=by
 rw [add_at];have hl:=(List.getElem?_eq_some_iff.1 hi).1;refine aJ (i:=1) h rfl ?_ rfl λA' h'=>hK A' ?_
 ·rw [kA hi (by omega) (f:=2) (v:=.int .i64 nd.use) rfl];rfl
 ·have h':Own (At t [.slice (some ⟨blk,0,none⟩) ns.length cap]::At blk ((ndCells ns++rest).set (i*5+2) (.int .i64 x))::R) A':=h';rw [List.set_append_left _ _ (by rw [dA];omega),sL x hi] at h';show Own (At t [.slice (some ⟨blk,0,none⟩) (ns.set i { nd with use:=x }).length cap]::At blk (ndCells (ns.set i { nd with use:=x })++rest)::R) A';rw [List.length_set];exact h'
theorem vO {Q:Int->AH->Prop} (h:Own (fR t blk cap ns rest++R) A) (hi:ns[i]? = some nd) (hlv:nd.live=true) (hok:nd.OK) (hk:Q (nd.quo-nd.use-nd.lent) A):qaw_A (some ⟨t,0,none⟩) i Q A:=by
 obtain ⟨o1,o2,o3,o4⟩:=hok;unfold qaw_A qaw_G;refine sD h hi hlv (bsel_f rfl (nP h hi (by omega) rfl (nP h hi (by omega) rfl (nP h hi (by omega) rfl ?_))));rw [bG (n:=nd.quo-nd.use) (by omega) (by omega),bG (by omega) (by omega)];exact hk
theorem rM (h2:∀ d ∈ ns,d.OK) {x:Nd} (hx:x.OK):∀ d ∈ ns.set i x,d.OK:=λd hd=>by
 rcases List.mem_or_eq_of_mem_set hd with h | h
 ·exact h2 d h
 ·rw [h];exact hx
theorem aBA {k:Int} {Q:Int->AH->Prop} (h:Own (TreeS t ns::R) A) (hi:ns[i]? = some nd) (hlv:nd.live=true) (hk0:0<=k) (hn:k > nd.quo-nd.use-nd.lent->Q 8 A)
  (hk:k<=nd.quo-nd.use-nd.lent->∀ A',Own (TreeS t (ns.set i { nd with use:=nd.use+k })::R) A'->Q 0 A'):qax_A (some ⟨t,0,none⟩) i k Q A:=by
 obtain ⟨blk,cap,rest,⟨h1,h2⟩,hh⟩:=TreeS.openH h;have hok:=h2 nd (List.mem_of_getElem? hi);obtain ⟨o1,o2,o3,o4⟩:=hok;unfold qax_A qax_G;refine sD hh hi hlv (bsel_f rfl (bsel_f (by simp;omega) (vO hh hi hlv ⟨o1,o2,o3,o4⟩ ?_)));refine aG (λc=>hn (by simpa using c)) λc=>?_;have c:k<=nd.quo-nd.use-nd.lent:=by simpa using c
 refine nP hh hi (by omega) rfl (aG8 hh hi λA' hA=>hk c A' ?_);rw [bG (by omega) (by omega)] at hA;exact TreeS.closeH (by simpa using h1) (rM h2 ⟨by simp;omega,o2,by simp;omega,o4⟩) hA
theorem sI {k:Int} {Q:Int->AH->Prop} (h:Own (TreeS t ns::R) A) (hi:ns[i]? = some nd) (hlv:nd.live=true) (hk0:0<=k) (hku:k<=nd.use)
  (hk:∀ A',Own (TreeS t (ns.set i { nd with use:=nd.use-k })::R) A'->Q 0 A'):qbf_A (some ⟨t,0,none⟩) i k Q A:=by
 obtain ⟨blk,cap,rest,⟨h1,h2⟩,hh⟩:=TreeS.openH h;have hok:=h2 nd (List.mem_of_getElem? hi);obtain ⟨o1,o2,o3,o4⟩:=hok;unfold qbf_A qbf_G;refine sD hh hi hlv (bsel_f rfl (bsel_f (by simp;omega) (nP hh hi (by omega) rfl (bsel_f (by simp;omega) (nP hh hi (by omega) rfl (aG8 hh hi λA' hA=>hk A' ?_))))));rw [bG (by omega) (by omega)] at hA;exact TreeS.closeH (by simpa using h1) (rM h2 ⟨by simp;omega,o2,by simp;omega,o4⟩) hA
theorem aG2 {Q:Int->Int->Int->Int->Bool->Bool->AH->Prop} (h:Own (TreeS t ns::R) A) (hi:ns[i]? = some nd) (hlv:nd.live=true) (hk:Q nd.par nd.quo nd.use nd.lent nd.live true A):qgf_A (some ⟨t,0,none⟩) i Q A:=by
 obtain ⟨blk,cap,rest,⟨h1,h2⟩,hh⟩:=TreeS.openH h;unfold qgf_A qgf_G;refine sD hh hi hlv (aN rfl ?_);refine ld_I (i:=1) hh rfl (kA (f:=0) hi (by omega) rfl) (nP hh hi (by omega) rfl (nP hh hi (by omega) rfl (nP hh hi (by omega) rfl ?_)));rw [add_at];exact aY (i:=1) hh rfl (kA (f:=4) hi (by omega) rfl) hk
theorem aEP {q:Int} {Q:Option Addr->Int->AH->Prop} (h:Own l A) (hn:q<0\/q > 1048576->Q none 1 A) (hk:0<=q/\q<=1048576->∀ t A',Own (TreeS t [⟨-1,q,0,0,true⟩]::l) A'->Q (some ⟨t,0,none⟩) 0 A'):qat_A q Q A:=by
 unfold qat_A;refine aG (λc=>hn (.inl (by simpa using c))) λc=>aG (λd=>hn (.inr (by simpa using d))) λd=>?_;have c:0<=q:=by simpa using c
 have d:q<=1048576:=by simpa using d
 show aT A (.cells (ndCells [⟨-1,q,0,0,true⟩]).toArray _) _;refine aX h λb1 A1 h1=>?_;show aT A1 (.cells [Value.slice (some ⟨b1,0,none⟩) 1 1].toArray _) _;refine aX h1 λb2 A2 h2=>hk ⟨c,d⟩ b2 A2 (TreeS.closeH (rest:=[]) (by simp) (λx hx=>?_) h2);simp at hx;subst hx;exact ⟨Int.le_refl _,Int.le_refl _,by simp;omega,d⟩
end Go.Dn
namespace Go.Dn
variable {A:AH} {R:List SP} {r b t i:Nat} {fr n:Int} {hs:List (Int × Int)} {W:Int->Int->Int} {F G:Int->Prop} {ns:List Nd} {nd:Nd}
theorem Own.rot3 {P0 P1 P2:SP} (h:Own (P0::P1::P2::R) A):Own (P2::P0::P1::R) A:=
 h.perm ((List.Perm.cons _ (List.Perm.swap _ _ _)).trans (List.Perm.swap _ _ _))
theorem Own.unrot3 {P0 P1 P2:SP} (h:Own (P2::P0::P1::R) A):Own (P0::P1::P2::R) A:=
 h.perm ((List.Perm.swap _ _ _).trans (List.Perm.cons _ (List.Perm.swap _ _ _)))
def useN (ns:List Nd) (i:Nat) (nd:Nd) (x:Int):List Nd:=ns.set i { nd with use:=x }
theorem yD (hi:ns[i]? = some nd) (x:Int):useN (useN ns i nd x) i { nd with use:=x } nd.use=ns:=by
 unfold useN;rw [List.set_set];apply List.ext_getElem?;intro j;rw [List.getElem?_set];split
 ·rename_i g;subst g;rw [if_pos (List.getElem?_eq_some_iff.1 hi).1,hi]
 ·rfl
theorem useN_at (hi:ns[i]? = some nd) (x:Int):(useN ns i nd x)[i]? = some { nd with use:=x }:=by
 unfold useN;rw [List.getElem?_set,if_pos rfl,if_pos (List.getElem?_eq_some_iff.1 hi).1]
theorem uS {Q:Int->Int->AH->Prop} (h:Own (RamW r fr hs W::Bud b F G n::TreeS t ns::R) A) (hi:ns[i]? = some nd) (hlv:nd.live=true) (hF:∀ x,F x->hasF fr hs x=true)
  (hq:nd.quo-nd.use-nd.lent<1->Q 0 8 A) (hm:1<=nd.quo-nd.use-nd.lent->n=0->∀ A',Own (RamW r fr hs W::Bud b F G n::TreeS t ns::R) A'->Q 0 7 A')
  (hk:1<=nd.quo-nd.use-nd.lent->n≠0->∀ f A',F f->Own (RamW r fr hs (zeroW W f)::Bud b (λx=>F x/\x≠f) (λx=>G x\/x=f) (n-1)::TreeS t (useN ns i nd (nd.use+1))::R) A'->Q f 0 A') :
  qbg_A (some ⟨r,0,none⟩) (some ⟨b,0,none⟩) (some ⟨t,0,none⟩) i Q A:=by
 unfold qbg_A qbg_G;refine aBA h.rot3 hi hlv (by omega) (λc=>aN rfl (hq (by omega))) λc A1 hA1=>bsel_f rfl ?_;refine aEX hA1.unrot3.swap (λn0=>?_) λn0 f A2 hf hA2=>?_
 ·refine ⟨λx h12=>h12=A1/\x=7,λx h12 ⟨e1,e2⟩=>?_,bsel_f rfl ⟨rfl,rfl⟩⟩;subst e1 e2
  refine sI (nd:={ nd with use:=nd.use+1 }) hA1 (useN_at hi _) hlv (by omega) (by
   obtain ⟨_,_,_,⟨_,h2⟩,_⟩:=TreeS.openH h.rot3;have:=(h2 nd (List.mem_of_getElem? hi)).use;simp;omega) λA3 hA3=>hm (by omega) n0 A3 ?_
  have e:(useN ns i nd (nd.use+1)).set i { par:=nd.par,quo:=nd.quo,use:=nd.use+1-1,lent:=nd.lent,live:=nd.live } = ns:=by
   have:=yD hi (nd.use+1);unfold useN at this ⊢;rw [show nd.use+1-1=nd.use by omega];exact this
  have hA3:Own (TreeS t ((useN ns i nd (nd.use+1)).set i { par:=nd.par,quo:=nd.quo,use:=nd.use+1-1,lent:=nd.lent,live:=nd.live })::RamW r fr hs W::Bud b F G n::R) A3:=hA3;rw [e] at hA3;exact hA3.unrot3
 ·refine ⟨λ_ _=>False,λ_ _ q=>q.elim,aN rfl ?_⟩;exact aFa hA2.swap (hF f hf) λA3 hA3=>aN rfl (hk (by omega) n0 f A3 hf hA3)
theorem nV {f:Int} {Q:AH->Prop} (h:Own (RamW r fr hs W::Bud b F G n::TreeS t ns::R) A) (hi:ns[i]? = some nd) (hlv:nd.live=true) (hG:G f) (hu:1<=nd.use)
  (hk:∀ A',Own (RamW r fr hs W::Bud b (λx=>F x\/x=f) (λx=>G x/\x≠f) (n+1)::TreeS t (useN ns i nd (nd.use-1))::R) A'->Q A') :
  qbi_A (some ⟨r,0,none⟩) (some ⟨b,0,none⟩) (some ⟨t,0,none⟩) i f Q A:=by
 unfold qbi_A qbi_G;refine aEK h.swap hG λA1 hA1=>?_;exact sI hA1.swap.rot3 hi hlv (by omega) hu λA2 hA2=>hk A2 hA2.unrot3
end Go.Dn
namespace Go.Dn
variable {A:AH} {l R:List SP} {r b t i:Nat} {fr n:Int} {hs:List (Int × Int)} {W:Int->Int->Int} {F G:Int->Prop} {ns:List Nd} {nd:Nd}
theorem Own.unrot4 {P0 P1 P2 P3:SP} (h:Own (P3::P0::P1::P2::R) A):Own (P0::P1::P2::P3::R) A:=
 h.perm ((List.Perm.swap _ _ _).trans (List.Perm.cons _ ((List.Perm.swap _ _ _).trans (List.Perm.cons _ (List.Perm.swap _ _ _)))))
theorem oS {b k sz:Nat} {cs:List Value} (hk:k*sz=cs.length) {B:AH} (h:At b cs B):SlO ⟨some ⟨b,0,none⟩,k,k⟩ sz cs B:=
 ⟨⟨hk,Nat.le_refl _⟩,.inr ⟨b,[],rfl,by simp;omega,by simpa using h⟩⟩
def intsV (l:List Int):List Value:=l.map (.int .i64)
theorem jT (a c:List Int):intsV (a++c)=intsV a++intsV c:=List.map_append
theorem aBs (ns:List Nd) (i:Nat) (nd:Nd) (x y:Int):useN (useN ns i nd x) i { nd with use:=x } y=useN ns i nd y:=by
 unfold useN;rw [List.set_set]
theorem yC (hi:ns[i]? = some nd):useN ns i nd nd.use=ns:=by
 unfold useN;apply List.ext_getElem?;intro j;rw [List.getElem?_set];split
 ·rename_i g;subst g;rw [if_pos (List.getElem?_eq_some_iff.1 hi).1,hi]
 ·rfl
theorem Bud.congr {F' G':Int->Prop} {n':Int} (hF:∀ x,F x↔F' x) (hG:∀ x,G x↔G' x) (hn:n=n') (h:Own (Bud b F G n::R) A):Own (Bud b F' G' n'::R) A:=by
 have e1:F=F':=funext λx=>propext (hF x);have e2:G=G':=funext λx=>propext (hG x);subst e1 e2 hn;exact h
def taken (r:Nat) (fr:Int) (hs:List (Int × Int)) (W:Int->Int->Int) (b:Nat) (F G:Int->Prop) (n:Int) (t:Nat) (ns:List Nd) (i:Nat) (nd:Nd) (tk:List Int):List SP:=
 [RamW r fr hs W,Bud b (λx=>F x/\x ∉ tk) (λx=>G x\/x ∈ tk) (n-tk.length),TreeS t (useN ns i nd (nd.use+tk.length))]
theorem mC (hi:ns[i]? = some nd) (h:Own (RamW r fr hs W::Bud b F G n::TreeS t ns::R) A):Own (taken r fr hs W b F G n t ns i nd []++R) A:=by
 have e:useN ns i nd (nd.use+(([]:List Int).length:Int))=ns:=by
  simp only [List.length_nil];rw [show nd.use+((0:Nat):Int)=nd.use by omega];exact yC hi
 unfold taken;rw [e];exact h.cons λC hC=>Bud.congr (λx=>by simp) (λx=>by simp) (by simp) hC
theorem oJ (hi:ns[i]? = some nd) (h:Own (taken r fr hs W b F G n t ns i nd []++R) A):Own (RamW r fr hs W::Bud b F G n::TreeS t ns::R) A:=by
 have e:useN ns i nd (nd.use+(([]:List Int).length:Int))=ns:=by
  simp only [List.length_nil];rw [show nd.use+((0:Nat):Int)=nd.use by omega];exact yC hi
 unfold taken at h;rw [e] at h;exact h.cons λC hC=>Bud.congr (λx=>by simp) (λx=>by simp) (by simp) hC
theorem kC {tk:List Int} {Q:Int->Int->AH->Prop} (h:Own (taken r fr hs W b F G n t ns i nd tk++R) A) (hi:ns[i]? = some nd) (hlv:nd.live=true) (hF:∀ x,F x->hasF fr hs x=true)
  (hq:nd.quo-nd.use-nd.lent<=tk.length->Q 0 8 A) (hm:tk.length<nd.quo-nd.use-nd.lent->n=tk.length->∀ A',Own (taken r fr hs W b F G n t ns i nd tk++R) A'->Q 0 7 A')
  (hk:tk.length<nd.quo-nd.use-nd.lent->n≠tk.length->∀ f A',F f->f ∉ tk->Own (taken r fr hs (zeroW W f) b F G n t ns i nd (tk++[f])++R) A'->Q f 0 A') :
  qbg_A (some ⟨r,0,none⟩) (some ⟨b,0,none⟩) (some ⟨t,0,none⟩) i Q A:=by
 refine uS (nd:={ nd with use:=nd.use+tk.length }) h (useN_at hi _) hlv (λx hx=>hF x hx.1) (λc=>hq (by simp at c;omega)) (λc d A' hA=>hm (by simp at c;omega) (by omega) A' hA) λc d f A' hf hA=>hk (by simp at c;omega) (by omega) f A' hf.1 hf.2 ?_;rw [aBs] at hA;unfold taken;rw [show nd.use+((tk++[f]).length:Int)=nd.use+tk.length+1 by simp;omega];refine hA.cons λC hC=>Bud.congr (λx=>?_) (λx=>?_) (by simp;omega) hC
 ·simp only [List.mem_append,List.mem_singleton,not_or];exact ⟨λh=>⟨h.1.1,h.1.2,h.2⟩,λh=>⟨⟨h.1,h.2.1⟩,h.2.2⟩⟩
 ·simp only [List.mem_append,List.mem_singleton,or_assoc]
theorem vH {f:Int} {tk:List Int} {Q:AH->Prop} (h:Own (taken r fr hs W b F G n t ns i nd (f::tk)++R) A) (hi:ns[i]? = some nd) (hlv:nd.live=true) (hu:0<=nd.use) (hf:F f) (hnd:(f::tk).Nodup) (hG:¬G f)
  (hk:∀ A',Own (taken r fr hs W b F G n t ns i nd tk++R) A'->Q A'):qbi_A (some ⟨r,0,none⟩) (some ⟨b,0,none⟩) (some ⟨t,0,none⟩) i f Q A:=by
 refine nV (nd:={ nd with use:=nd.use+(f::tk).length }) h (useN_at hi _) hlv (.inr List.mem_cons_self) (by simp;omega) λA' hA=>hk A' ?_;rw [aBs] at hA;have hno:=(List.nodup_cons.1 hnd).1;unfold taken;rw [show nd.use+(tk.length:Int)=nd.use+((f::tk).length:Int)-1 by simp;omega];refine hA.cons λC hC=>Bud.congr (λx=>?_) (λx=>?_) (by simp;omega) hC
 ·simp only [List.mem_cons,not_or];constructor
  ·rintro (⟨h1,h2,h3⟩ | h1)
   ·exact ⟨h1,h3⟩
   ·rw [h1];exact ⟨hf,hno⟩
  ·rintro ⟨h1,h2⟩;by_cases e:x=f
   ·exact .inr e
   ·exact .inl ⟨h1,e,h2⟩
 ·simp only [List.mem_cons];constructor
  ·rintro ⟨h1 | h1 | h1,h2⟩
   ·exact .inl h1
   ·exact absurd h1 h2
   ·exact .inr h1
  ·rintro (h1 | h1)
   ·exact ⟨.inl h1,λe=>hG (e ▸ h1)⟩
   ·exact ⟨.inr (.inr h1),λe=>hno (e ▸ h1)⟩
def kEnt (f:Int):Int:=packZ true true false false false false false false f
def kBig (f:Int):Int:=packZ true true false false false true true true f
structure KOK (fr:Int) (W0:Int->Int->Int) (top:Int) (ms:List Int) (W:Int->Int->Int):Prop where
 nodup:(top::ms).Nodup
 other:∀ f,f ∉ top::ms->W f=W0 f
 top:∀ q:Nat,q<512->W top q=match ms[q]? with | some m=>kEnt m | none=>0
 mid:∀ (c:Nat) m,ms[c]? = some m->∀ q:Nat,q<512->W m q=if (c:Int)*262144+q*512<fr then kBig (c*262144+q*512) else 0
def needK (fr:Int):Nat:=((fr+262143) / 262144).toNat
theorem cH {W:Int->Int->Int} {t i x f:Int} (h:f≠t):setW W t i x f=W f:=by
 funext q;unfold setW;rw [if_neg (λg=>h g.1)]
theorem dX {W:Int->Int->Int} {t f:Int} (h:f≠t):zeroW W t f=W f:=by
 funext q;unfold zeroW;rw [if_neg h]
theorem aU {s:Sl} {sz:Nat} {cs:List Value}:bI (SlO s sz cs) s sz cs:=λB A h u=>nT B A h.look u
theorem KOK.step {W0 W' W3:Int->Int->Int} {top f:Int} {ms:List Int} (hK:KOK fr W0 top ms W') (hf:f ∉ top::ms) (h1:∀ f',f'≠f->W3 f'=setW (zeroW W' f) top ms.length (kEnt f) f')
  (h2:∀ q:Nat,q<512->W3 f q=if (ms.length:Int)*262144+q*512<fr then kBig ((ms.length:Int)*262144+q*512) else 0):KOK fr W0 top (ms++[f]) W3:=by
 have hft:top≠f:=λe=>hf (by simp [e]);have hfm:∀ m ∈ ms,m≠f/\m≠top:=λm hm=>⟨λe=>hf (by rw [<-e];exact List.mem_cons_of_mem _ hm),λe=>(List.nodup_cons.1 hK.nodup).1 (e ▸ hm)⟩;refine ⟨?_,λg hg=>?_,λq hq=>?_,λc m hm q hq=>?_⟩
 ·show ((top::ms)++[f]).Nodup;exact List.nodup_append.2 ⟨hK.nodup,by simp,λx hx y hy=>by simp at hy;subst hy;exact λe=>hf (e ▸ hx)⟩
 ·simp only [List.mem_cons,List.mem_append,List.not_mem_nil,or_false,not_or] at hg;rw [h1 g hg.2.2,cH hg.1,dX hg.2.2];exact hK.other g (by simp [hg.1,hg.2.1])
 ·rw [h1 top hft];unfold setW;by_cases e:q=ms.length
  ·rw [if_pos ⟨rfl,by omega⟩,List.getElem?_append_right (by omega),e];simp
  ·rw [if_neg (by omega),dX hft,hK.top q hq];by_cases g:q<ms.length
   ·rw [List.getElem?_append_left g]
   ·rw [List.getElem?_eq_none (by omega),List.getElem?_eq_none (by simp;omega)]
 ·by_cases g:c<ms.length
  ·rw [List.getElem?_append_left g] at hm;obtain ⟨g1,g2⟩:=hfm m (List.mem_of_getElem? hm);rw [h1 m g1,cH g2,dX g1];exact hK.mid c m hm q hq
  ·have:c=ms.length:=by
    have:=(List.getElem?_eq_some_iff.1 hm).1;simp at this;omega
   subst this;rw [List.getElem?_append_right (by omega)] at hm;simp at hm;subst hm;exact h2 q hq
theorem aK6 (j:Nat):Int.fdiv ((j:Int)*262144) (2 ^ (18:Nat))=j:=by rw [lE];omega
theorem aKe {j q:Nat} (hj:j<4) (hq:q<512):IntKind.wrap .i64 ((j:Int)*262144+IntKind.wrap .i64 ((q:Int)*2 ^ (9:Nat)))=(j:Int)*262144+q*512:=by
 have e:((q:Int)*2 ^ (9:Nat))=q*512:=rfl;rw [e,bG (n:=(q:Int)*512) (by omega) (by omega),bG (by omega) (by omega)]
set_option maxRecDepth 100000 in
set_option maxHeartbeats 2000000 in
theorem aBw {Q:Int->Int->AH->Prop} (h:Own (RamW r fr hs W::Bud b F G n::TreeS t ns::R) A) (hi:ns[i]? = some nd) (hlv:nd.live=true) (hF:∀ x,F x->hasF fr hs x=true) (hf1:1<=fr)
  (hbad:∀ e W' A',(e=8/\nd.quo-nd.use-nd.lent<1+needK fr/\nd.quo-nd.use-nd.lent<=n\/e=7/\n<1+needK fr/\n<nd.quo-nd.use-nd.lent)->(∀ f,¬F f->W' f=W f)->
   Own (RamW r fr hs W'::Bud b F G n::TreeS t ns::R) A'->Q 0 e A')
  (hk:1+needK fr<=nd.quo-nd.use-nd.lent->1+needK fr<=n->∀ top ms W' A',ms.length=needK fr->(∀ x ∈ top::ms,F x)->KOK fr W top ms W'->Own (taken r fr hs W' b F G n t ns i nd (top::ms)++R) A'->Q top 0 A') :
  qbr_A (some ⟨r,0,none⟩) (some ⟨b,0,none⟩) (some ⟨t,0,none⟩) i Q A:=by
 have hRam:aDb fr hs:=(RamW.openH h).choose_spec.1.1;have hfr:=hRam.hi;obtain ⟨mb0,g0,st0,gl0,hB0,hG0,_,_⟩:=Bud.openH h.swap;have hn0:=hB0.nonneg;have hFG:∀ x,F x->¬G x:=λx hx hg=>(hG0.apart x hg).1 hx
 have hnd:nd.OK:=by
  obtain ⟨_,_,_,⟨_,h2⟩,_⟩:=TreeS.openH h.rot3;exact h2 nd (List.mem_of_getElem? hi)
 have hneed:((needK fr:Nat):Int)=(fr+262143) / 262144:=by unfold needK;omega
 unfold qbr_A qbr_G;refine kC (mC hi h) hi hlv hF (λc=>aN rfl ?_) (λc d A1 hA1=>aN rfl ?_) λc d top A1 hFt _ hA1=>bsel_f rfl ?_
 ·have c:nd.quo-nd.use-nd.lent<=0:=by simpa using c
  exact hbad 8 W A (.inl ⟨rfl,by omega,by omega⟩) (λ_ _=>rfl) h
 ·have c:0<nd.quo-nd.use-nd.lent:=by simpa using c
  have d:n=0:=by simpa using d
  exact hbad 7 W A1 (.inr ⟨rfl,by omega,by omega⟩) (λ_ _=>rfl) (oJ hi hA1)
 show aT A1 (.cells (intsV [top]).toArray _) _;refine aX hA1 λb4 A2 hA2=>?_
 refine ⟨λs x m h'=>∃ (ms:List Int) (W':Int->Int->Int),x=(ms.length:Int)*262144/\ms.length<=needK fr/\needK fr-ms.length=m/\KOK fr W top ms W'/\(∀ x ∈ top::ms,F x)/\s.len=ms.length+1/\s.a≠none/\((top::ms).length:Int)<=nd.quo-nd.use-nd.lent/\((top::ms).length:Int)<=n/\
  Own (taken r fr hs W' b F G n t ns i nd (top::ms)++SlO s 1 (intsV (top::ms))::R) h',⟨_,[],zeroW W top,by simp,by simp,rfl,⟨by simp,λf hf=>dX (by simpa using hf),λq _=>by simp [zeroW],λc m hm=>by simp at hm⟩,λx hx=>?_,rfl,by simp,?_,?_,?_⟩,?_⟩
 ·simp at hx;rw [hx];exact hFt
 ·simp at c ⊢;omega
 ·simp at c d ⊢;omega
 ·have hA2:Own (At b4 (intsV [top])::(taken r fr hs (zeroW W top) b F G n t ns i nd [top]++R)) A2:=hA2;exact (hA2.imp λB hB=>oS (k:=1) (sz:=1) rfl hB).unrot4
 intro s x m A3 ⟨ms,W',i1,i2,i3,hK,i4,i5,i5b,i6,i7,hA3⟩;subst i1 i3;refine sH hA3 ?_;refine aG (λcc=>?_) λcc=>?_
 rotate_left
 ·have cc:¬ ((ms.length:Int)*262144<fr):=by simpa using cc
  have e:ms.length=needK fr:=by omega
  refine hk (by simp at i6;omega) (by simp at i7;omega) top ms W' A3 e i4 hK ?_;exact hA3.sub (List.Sublist.append_left (List.sublist_cons_self _ _) _)
 have cc:(ms.length:Int)*262144<fr:=by simpa using cc
 have hj4:ms.length<4:=by omega
 have giveback:∀ (e:Int) A4,(e=8/\nd.quo-nd.use-nd.lent<1+needK fr/\nd.quo-nd.use-nd.lent<=n\/e=7/\n<1+needK fr/\n<nd.quo-nd.use-nd.lent)->Own (taken r fr hs W' b F G n t ns i nd (top::ms)++SlO s 1 (intsV (top::ms))::R) A4->
   ∃ I17:Int->Nat->AH->Prop,(∃ m18,I17 (0:Int) m18 A4)/\∀ x21:Int,∀ m18 h20,I17 x21 m18 h20->
    (bsel (decide (x21<(Int.ofNat s.len))) (aF s.a λa22=>(bF x21 s.len (aI .i64 (Addr.add a22 (Int.toNat x21*1)) h20 λn23=>
     (qbi_A (some ⟨r,0,none⟩) (some ⟨b,0,none⟩) (some ⟨t,0,none⟩) i n23 (λh24=>(∃ m19,m19<m18/\I17 (IntKind.wrap .i64 (x21+(1:Int))) m19 h24)) h20)))) (Q (0:Int) e h20)):=by
  intro e A4 he hA4;refine ⟨λx m h'=>∃ c:Nat,x=c/\c<=ms.length+1/\ms.length+1-c=m/\Own (taken r fr hs W' b F G n t ns i nd ((top::ms).drop c)++SlO s 1 (intsV (top::ms))::R) h',⟨_,0,rfl,by omega,rfl,hA4⟩,?_⟩;intro x m A5 ⟨c,e1,e2,e3,hA5⟩;subst e1 e3;refine aG (λd=>?_) λd=>?_
  ·have d:c<(top::ms).length:=by simp [i5] at d ⊢;omega
   obtain ⟨f,hf⟩:∃ f,(top::ms)[c]? = some f:=⟨(top::ms)[c],by simp [d]⟩
   have hd:(top::ms).drop c=f::(top::ms).drop (c+1):=by
    rw [List.drop_eq_getElem_cons d];have:=(List.getElem?_eq_some_iff.1 hf).2;rw [this]
   rw [hd] at hA5;obtain ⟨bb,o,q1,q2⟩:=bW (i:=3) (P:=SlO s 1 (intsV (top::ms))) hA5 rfl aU (j:=c) (v:=.int .i64 f) (by simp only [intsV,List.getElem?_map,hf];rfl);rw [q1];refine inB_in (by omega) (by simp only [List.length_cons] at d;omega) ⟨f,by rw [add_at];simpa using q2,?_⟩;have hfm:f ∈ top::ms:=List.mem_of_getElem? hf;refine vH hA5 hi hlv hnd.use (i4 f hfm) (by rw [<-hd];exact hK.nodup.sublist (List.drop_sublist _ _)) (hFG f (i4 f hfm)) λA6 hA6=>?_;have d2:c<ms.length+1:=by simpa using d
   exact ⟨ms.length+1-(c+1),by omega,c+1,by rw [bG]<;>omega,by omega,rfl,hA6⟩
  ·have d:c=(top::ms).length:=by simp [i5] at d ⊢;omega
   rw [d,List.drop_length] at hA5;refine hbad e W' A5 he (λf hf=>hK.other f λhm=>hf (i4 f hm)) ?_;have:=oJ hi hA5;exact this.sub (List.Sublist.cons_cons _ (List.Sublist.cons_cons _ (List.Sublist.cons_cons _ (List.sublist_cons_self _ _))))
 have hlen2:(((top::ms).length:Nat):Int)=ms.length+1:=by simp
 refine kC hA3 hi hlv hF (λc2=>aN rfl (giveback 8 A3 (.inl ⟨rfl,by omega,by omega⟩) hA3)) (λc2 d2 A4 hA4=>aN rfl (giveback 7 A4 (.inr ⟨rfl,by omega,by omega⟩) hA4)) λc2 d2 f A4 hFf hfn hA4=>bsel_f rfl ?_;show aT A4 (.cells (intsV [f]).toArray _) _;refine aX hA4 λb25 A5 hA5=>?_;have hA5:Own (dK ⟨some ⟨b25,0,none⟩,1,1⟩ 1 (intsV [f])::(taken r fr hs (zeroW W' f) b F G n t ns i nd ((top::ms)++[f])++SlO s 1 (intsV (top::ms))::R)) A5:=hA5.imp λB hB=>(oS (k:=1) (sz:=1) rfl hB).look;have hA5:Own (SlO s 1 (intsV (top::ms))::dK ⟨some ⟨b25,0,none⟩,1,1⟩ 1 (intsV [f])::(taken r fr hs (zeroW W' f) b F G n t ns i nd ((top::ms)++[f])++R)) A5:=hA5.pick 4 rfl;refine kF (i:=0) hA5 rfl (λq=>by cases q) (λq=>absurd q i5b) rfl (λv hv=>?_) ⟨by simp only [i5];omega,by simp only [i5];omega⟩ λs' A6 j1 j2 hA6=>?_
 ·simp [intsV] at hv;subst hv;rfl
 rw [<-jT] at hA6
 have hA6:Own (RamW r fr hs (zeroW W' f)::Bud b (λx=>F x/\x ∉ (top::ms)++[f]) (λx=>G x\/x ∈ (top::ms)++[f]) (n-(((top::ms)++[f]).length:Int))::TreeS t (useN ns i nd (nd.use+(((top::ms)++[f]).length:Int)))::SlO s' 1 (intsV ((top::ms)++[f]))::R) A6:=
  Own.unrot4 (hA6.sub (List.Sublist.cons_cons _ (List.sublist_cons_self _ _)))
 rw [aK6];have hfr2:=eS (hF f hFf) hfr;have hft:f≠top:=λe=>hfn (by rw [e];exact List.mem_cons_self);refine lY hA6 (hF top hFt) ⟨by omega,by omega⟩ ⟨hfr2.1,by omega⟩ λA7 hA7=>?_
 have fin:∀ W3 A9,(∀ f',f'≠f->W3 f'=setW (zeroW W' f) top ms.length (kEnt f) f')->(∀ q:Nat,q<512->W3 f q=if (ms.length:Int)*262144+q*512<fr then kBig ((ms.length:Int)*262144+q*512) else 0)->
   Own (taken r fr hs W3 b F G n t ns i nd ((top::ms)++[f])++SlO s' 1 (intsV ((top::ms)++[f]))::R) A9->
   ∃ m8,m8<needK fr-ms.length/\∃ (ms':List Int) (W':Int->Int->Int),IntKind.wrap .i64 ((ms.length:Int)*262144+262144)=(ms'.length:Int)*262144/\ms'.length<=needK fr/\needK fr-ms'.length=m8/\KOK fr W top ms' W'/\(∀ x ∈ top::ms',F x)/\s'.len=ms'.length+1/\s'.a≠none/\((top::ms').length:Int)<=nd.quo-nd.use-nd.lent/\((top::ms').length:Int)<=n/\
    Own (taken r fr hs W' b F G n t ns i nd (top::ms')++SlO s' 1 (intsV (top::ms'))::R) A9:=by
  intro W3 A9 g1 g2 hA9;have hl2:(ms++[f]).length=ms.length+1:=by simp
  refine ⟨needK fr-(ms.length+1),by omega,ms++[f],W3,by rw [hl2,bG]<;>omega,by omega,by omega,hK.step hfn g1 g2,λx hx=>?_,by rw [hl2];simp only [j1,i5],λq=>by have:=j2 q;simp [intsV] at this,by simp only [List.length_cons,hl2];omega,by simp only [List.length_cons,hl2];omega,hA9⟩;rcases List.mem_cons.1 hx with rfl | hx
  ·exact hFt
  ·rcases List.mem_append.1 hx with hx | hx
   ·exact i4 x (List.mem_cons_of_mem _ hx)
   ·simp at hx;subst hx;exact hFf
 refine ⟨λx m h'=>∃ (q:Nat) (W3:Int->Int->Int),x=q/\q<=512/\512-q=m/\(∀ f',f'≠f->W3 f'=setW (zeroW W' f) top ms.length (kEnt f) f')/\(∀ q':Nat,q'<512->W3 f q'=if q'<q/\(ms.length:Int)*262144+q'*512<fr then kBig ((ms.length:Int)*262144+q'*512) else 0)/\
  Own (taken r fr hs W3 b F G n t ns i nd ((top::ms)++[f])++SlO s' 1 (intsV ((top::ms)++[f]))::R) h',⟨_,0,_,rfl,by omega,rfl,λ_ _=>rfl,λq' _=>?_,hA7⟩,?_⟩
 ·rw [if_neg (by omega),cH hft];unfold zeroW;rw [if_pos rfl]
 intro x m A8 ⟨q,W3,k1,k2,k3,k4,k5,hA8⟩;subst k1 k3;apply aG
 rotate_left
 ·intro d3;have d3:q=512:=by simp at d3;omega
  refine fin W3 A8 k4 (λq' hq'=>?_) hA8;rw [k5 q' hq'];by_cases g:(ms.length:Int)*262144+q'*512<fr
  ·rw [if_pos g,if_pos ⟨by omega,g⟩]
  ·rw [if_neg g,if_neg (λz=>g z.2)]
 intro d3;have d3:q<512:=by simp at d3;omega
 refine sH hA8 ?_;rw [aKe hj4 d3];refine aG (λd4=>?_) λd4=>?_
 rotate_left
 ·have d4:¬ ((ms.length:Int)*262144+q*512<fr):=by simpa using d4
  refine fin W3 A8 k4 (λq' hq'=>?_) hA8;rw [k5 q' hq'];by_cases g:(ms.length:Int)*262144+q'*512<fr
  ·rw [if_pos g,if_pos ⟨by omega,g⟩]
  ·rw [if_neg g,if_neg (λz=>g z.2)]
 have d4:(ms.length:Int)*262144+q*512<fr:=by simpa using d4
 refine lY hA8 (hF f hFf) ⟨by omega,by omega⟩ ⟨by omega,by omega⟩ λA9 hA9=>?_;refine ⟨512-(q+1),by omega,q+1,_,by rw [bG]<;>omega,by omega,rfl,λf' hf'=>?_,λq' hq'=>?_,hA9⟩
 ·rw [cH hf'];exact k4 f' hf'
 ·unfold setW;by_cases g:q'=q
  ·subst g;rw [if_pos ⟨rfl,rfl⟩,if_pos ⟨by omega,d4⟩];rfl
  ·rw [if_neg (by omega),k5 q' hq'];by_cases g2:(ms.length:Int)*262144+q'*512<fr
   ·by_cases g3:q'<q
    ·rw [if_pos ⟨g3,g2⟩,if_pos ⟨by omega,g2⟩]
    ·rw [if_neg (by omega),if_neg (by omega)]
   ·rw [if_neg (λz=>g2 z.2),if_neg (λz=>g2 z.2)]
end Go.Dn
namespace Go.Dn
structure Lf where
 frame:Int
 w:Bool
 u:Bool
 x:Bool
def aIu (g:Int):Int:=packZ true true true false false false false false g
def aMc (l:Lf):Int:=packZ true l.w l.u false false false false (!l.x) l.frame
def aJu (o:Option Lf):Int:=match o with | some l=>aMc l | none=>0
def EntIs (w:Int) (o:Option Int):Prop:=match o with | some g=>∃ a d,w=packZ true true true a d false false false g | none=>w=0
def LeafIs (w:Int) (o:Option Lf):Prop:=match o with | some l=>∃ a d,w=packZ true l.w l.u a d false false (!l.x) l.frame | none=>w=0
theorem aH3 (o:Option Lf):LeafIs (aJu o) o:=by cases o;exact rfl;exact ⟨false,false,rfl⟩
abbrev Tab:=Nat->Int->Option Int
structure TabW (W:Int->Int->Int) (root:Int) (tab:Tab) (lf:Int->Option Lf):Prop where
 root:∀ q f,tab 0 q=some f↔q=0/\f=root
 deep:∀ k q,3<k->tab k q=none
 words:∀ k q f,k<3->tab k q=some f->∀ j,0<=j->j<512->(k=0->j<256)->EntIs (W f j) (tab (k+1) (q*512+j))
 leaves:∀ q f,tab 3 q=some f->∀ j,0<=j->j<512->LeafIs (W f j) (lf (q*512+j))
 up:∀ k q f,tab (k+1) q=some f->∃ g,tab k (q / 512)=some g/\0<=q/\(k=0->q<256)
 upL:∀ p l,lf p=some l->∃ g,tab 3 (p / 512)=some g/\0<=p
 apart:∀ k q k' q' f,tab k q=some f->tab k' q'=some f->k=k'/\q=q'
 range:∀ k q f,tab k q=some f->0<=f/\f<1048576
 rangeL:∀ p l,lf p=some l->0<=l.frame/\l.frame<1048576
def setT (tab:Tab) (k:Nat) (q:Int) (o:Option Int):Tab:=λk' q'=>if k'=k/\q'=q then o else tab k' q'
def kJ (lf:Int->Option Lf) (p:Int) (o:Option Lf):Int->Option Lf:=λp'=>if p'=p then o else lf p'
variable {W:Int->Int->Int} {root:Int} {tab:Tab} {lf:Int->Option Lf}
theorem TabW.congr {W':Int->Int->Int} (h:TabW W root tab lf) (hW:∀ k q f,tab k q=some f->W' f=W f):TabW W' root tab lf:=
 ⟨h.root,h.deep,λk q f hk hf j h0 h1 h2=>by rw [hW k q f hf];exact h.words k q f hk hf j h0 h1 h2,λq f hf j h0 h1=>by rw [hW 3 q f hf];exact h.leaves q f hf j h0 h1,h.up,h.upL,h.apart,h.range,h.rangeL⟩
theorem TabW.leaf (h:TabW W root tab lf) {p f:Int} {o:Option Lf} (hf:tab 3 (p / 512)=some f) (hp:0<=p) (ho:∀ l,o=some l->0<=l.frame/\l.frame<1048576) :
  TabW (setW W f (p % 512) (aJu o)) root tab (kJ lf p o):=by
 refine ⟨h.root,h.deep,λk q g hk hg j h0 h1 h2=>?_,λq g hg j h0 h1=>?_,h.up,λp' l hl=>?_,h.apart,h.range,λp' l hl=>?_⟩
 ·have hne:g≠f:=λe=>by
   subst e;have:=(h.apart k q 3 _ _ hg hf).1;omega
  rw [cH hne];exact h.words k q g hk hg j h0 h1 h2
 ·by_cases e:g=f
  ·subst e;obtain ⟨_,e2⟩:=h.apart 3 q 3 _ _ hg hf;unfold setW kJ;by_cases e3:j=p % 512
   ·rw [if_pos ⟨rfl,e3⟩,if_pos (by omega)];exact aH3 o
   ·rw [if_neg (λz=>e3 z.2),if_neg (by omega)];exact h.leaves q g hg j h0 h1
  ·rw [cH e]
   have:q*512+j≠p:=λe2=>by
    have:q=p / 512:=by omega
    rw [this] at hg;rw [hg] at hf;cases hf;exact e rfl
   unfold kJ;rw [if_neg this];exact h.leaves q g hg j h0 h1
 ·unfold kJ at hl;split at hl
  ·rename_i e;rw [e];exact ⟨f,hf,hp⟩
  ·exact h.upL p' l hl
 ·unfold kJ at hl;split at hl
  ·exact ho l hl
  ·exact h.rangeL p' l hl
theorem TabW.link (h:TabW W root tab lf) {k:Nat} {q j f g:Int} (hk:k<3) (hf:tab k q=some f) (hq:0<=q) (hj:0<=j/\j<512) (h0:k=0->j<256) (hn:tab (k+1) (q*512+j)=none)
  (hg:∀ k' q',tab k' q'≠some g) (hz:∀ i,0<=i->i<512->W g i=0) (hr:0<=g/\g<1048576) :
  TabW (setW W f j (aIu g)) root (setT tab (k+1) (q*512+j) (some g)) lf:=by
 have hfg:f≠g:=λe=>hg k q (by rw [hf,e])
 have old:∀ k' q' f',tab k' q'=some f'->setT tab (k+1) (q*512+j) (some g) k' q'=some f':=by
  intro k' q' f' h1;unfold setT;split
  ·rename_i e;obtain ⟨rfl,rfl⟩:=e;rw [hn] at h1;cases h1
  ·exact h1
 have cases':∀ k' q' f',setT tab (k+1) (q*512+j) (some g) k' q'=some f'->(k'=k+1/\q'=q*512+j/\f'=g)\/tab k' q'=some f':=by
  intro k' q' f' h1;unfold setT at h1;split at h1
  ·rename_i e;cases h1;exact .inl ⟨e.1,e.2,rfl⟩
  ·exact .inr h1
 refine ⟨λq' f'=>?_,λk' q' hk'=>?_,λk' q' f' hk' hf' i i0 i1 i2=>?_,λq' f' hf' i i0 i1=>?_,λk' q' f' hf'=>?_,λp l hl=>?_,λk1 q1 k2 q2 f' h1 h2=>?_,λk' q' f' hf'=>?_,h.rangeL⟩
 ·unfold setT;rw [if_neg (λe=>by omega)];exact h.root q' f'
 ·unfold setT;rw [if_neg (λe=>by omega)];exact h.deep k' q' hk'
 ·rcases cases' _ _ _ hf' with ⟨rfl,rfl,rfl⟩ | hf'
  ·rw [cH (Ne.symm hfg),hz i i0 i1]
   have:tab (k+1+1) ((q*512+j)*512+i)=none:=by
    cases e:tab (k+1+1) ((q*512+j)*512+i) with
    | none=>rfl
    | some z=>
     obtain ⟨g',h1,_⟩:=h.up _ _ _ e;rw [show ((q*512+j)*512+i) / 512=q*512+j by omega,hn] at h1;cases h1
   unfold setT;rw [if_neg (λe=>by omega),this];exact rfl
  ·by_cases e:f'=f
   ·obtain ⟨ek,eq⟩:=h.apart _ _ _ _ _ hf' (by rw [e];exact hf);rw [e,ek,eq];unfold setW setT;by_cases e3:i=j
    ·rw [if_pos ⟨rfl,e3⟩,if_pos ⟨rfl,by rw [e3]⟩];exact ⟨false,false,rfl⟩
    ·rw [if_neg (λz=>e3 z.2),if_neg (λz=>e3 (by omega))];exact h.words k q f hk hf i i0 i1 (λz=>i2 (by omega))
   ·rw [cH e]
    have:¬(k'+1=k+1/\q'*512+i=q*512+j):=λz=>by
     have e1:k'=k:=by omega
     have e2:q'=q:=by omega
     rw [e1,e2,hf] at hf';cases hf';exact e rfl
    unfold setT;rw [if_neg this];exact h.words _ _ _ hk' hf' i i0 i1 i2
 ·rcases cases' _ _ _ hf' with ⟨e1,rfl,rfl⟩ | hf'
  ·rw [cH (Ne.symm hfg),hz i i0 i1]
   have:lf ((q*512+j)*512+i)=none:=by
    cases e:lf ((q*512+j)*512+i) with
    | none=>rfl
    | some z=>
     obtain ⟨g',h1,_⟩:=h.upL _ _ e;rw [show ((q*512+j)*512+i) / 512=q*512+j by omega,e1,hn] at h1;cases h1
   rw [this];exact rfl
  ·have hne:f'≠f:=λe=>by
    subst e;have:=(h.apart _ _ _ _ _ hf' hf).1;omega
   rw [cH hne];exact h.leaves q' f' hf' i i0 i1
 ·rcases cases' _ _ _ hf' with ⟨e1,rfl,rfl⟩ | hf'
  ·have e1:k'=k:=by omega
   subst e1
   exact ⟨f,by rw [show (q*512+j) / 512=q by omega];exact old _ _ _ hf,by omega,λe=>by
    have:=(h.root q f).1 (by rw [<-e];exact hf);have:=h0 e;omega⟩
  ·obtain ⟨g',h1,h2⟩:=h.up _ _ _ hf';exact ⟨g',old _ _ _ h1,h2⟩
 ·obtain ⟨g',h1,h2⟩:=h.upL p l hl;exact ⟨g',old _ _ _ h1,h2⟩
 ·rcases cases' _ _ _ h1 with ⟨a1,a2,a3⟩ | h1
  ·rcases cases' _ _ _ h2 with ⟨b1,b2,b3⟩ | h2
   ·exact ⟨a1.trans b1.symm,a2.trans b2.symm⟩
   ·exact absurd (by rw [<-a3];exact h2) (hg k2 q2)
  ·rcases cases' _ _ _ h2 with ⟨b1,b2,b3⟩ | h2
   ·exact absurd (by rw [<-b3];exact h1) (hg k1 q1)
   ·exact h.apart _ _ _ _ _ h1 h2
 ·rcases cases' _ _ _ hf' with ⟨e1,e2,e3⟩ | hf'
  ·rw [e3];exact hr
  ·exact h.range _ _ _ hf'
theorem xQ {w g:Int} (h:EntIs w (some g)) (hg:0<=g/\g<1048576):bitZ w 0=true/\cF w=g/\w≠0/\qZ w:=by
 obtain ⟨a,d,rfl⟩:=h;obtain ⟨h0,_,_,_,_,_,_,_,h8,h9⟩:=eN true true true a d false false false hg;refine ⟨h0,h8,λe=>?_,h9⟩;rw [e] at h0;cases h0
theorem oF {w:Int} {l:Lf} (h:LeafIs w (some l)) (hg:0<=l.frame/\l.frame<1048576):bitZ w 0=true/\bitZ w 1=l.w/\bitZ w 2=l.u/\bitZ w 63 = !l.x/\cF w=l.frame/\w≠0/\qZ w:=by
 obtain ⟨a,d,rfl⟩:=h;obtain ⟨h0,h1,h2,_,_,_,_,h7,h8,h9⟩:=eN true l.w l.u a d false false (!l.x) hg;refine ⟨h0,h1,h2,h7,h8,λe=>?_,h9⟩;rw [e] at h0;cases h0
end Go.Dn
namespace Go.Dn
variable {A:AH} {l R:List SP} {r:Nat} {fr:Int} {hs:List (Int × Int)} {W:Int->Int->Int} {root:Int} {tab:Tab} {lf:Int->Option Lf}
def preP (p:Int):Nat->Int
 | 0=>0
 | 1=>p / 134217728
 | 2=>p / 262144
 | 3=>p / 512
 | _=>p
def atP (p:Int):Nat->Int
 | 0=>p / 134217728 % 512
 | 1=>p / 262144 % 512
 | 2=>p / 512 % 512
 | _=>p % 512
theorem bN {p:Int} (hp:0<=p/\p<34359738368) {k:Nat} (hk:k<4):preP p (k+1)=preP p k*512+atP p k/\0<=atP p k/\atP p k<512/\(k=0->atP p k<256)/\0<=preP p k:=by
 obtain rfl | rfl | rfl | rfl:k=0\/k=1\/k=2\/k=3:=by omega
 all_goals simp only [preP,atP]
 all_goals omega
theorem qS {p:Int} {Q:Int->Int->Int->Int->AH->Prop} (h:Own l A) (hp:0<=p/\p<34359738368) (hk:∀ A',Own l A'->Q (atP p 0) (atP p 1) (atP p 2) (atP p 3) A'):qdm_A p Q A:=by
 unfold qdm_A qdm_G;rw [cQ (n:=p) (by omega) (by omega),cQ (by omega) (by omega)];refine uG ⟨by omega,by omega⟩ h λA' hA=>?_;have e0:aO (p*4096) 39=atP p 0:=by simp only [aO,atP];omega
 have e1:aO (p*4096) 30=atP p 1:=by simp only [aO,atP];omega
 have e2:aO (p*4096) 21=atP p 2:=by simp only [aO,atP];omega
 have e3:aO (p*4096) 12=atP p 3:=by simp only [aO,atP];omega
 rw [e0,e1,e2,e3];exact hk A' hA
structure DownOK (tab:Tab) (p:Int) (lst:List Int):Prop where
 pos:0<lst.length
 le:lst.length<=4
 is:∀ c,c<lst.length->tab c (preP p c)=lst[c]?
 no:lst.length<4->tab lst.length (preP p lst.length)=none
def cB (p:Int):List Value:=[.int .i64 (atP p 0),.int .i64 (atP p 1),.int .i64 (atP p 2),.int .i64 (atP p 3)]
theorem gW {p:Int} {c:Nat} (hc:c<4):(cB p)[c]? = some (.int .i64 (atP p c)):=by
 obtain rfl | rfl | rfl | rfl:c=0\/c=1\/c=2\/c=3:=by omega
 all_goals rfl
set_option maxRecDepth 100000 in
theorem xU {p bx:Int} {pb pt:Option Addr} {Q:Sl->AH->Prop} (h:Own (RamW r fr hs W::R) A) (hT:TabW W root tab lf) (hhas:∀ k q f,tab k q=some f->hasF fr hs f=true) (hp:0<=p/\p<34359738368)
  (hk:∀ lst s A',DownOK tab p lst->s.len=lst.length->s.a≠none->Own (RamW r fr hs W::SlO s 1 (intsV lst)::R) A'->Q s A'):qdq_A (some ⟨r,0,none⟩) pb pt bx root p Q A:=by
 unfold qdq_A qdq_G;refine qS h hp λA1 h1=>?_;refine aX (cs:=[.int .i64 0,.int .i64 0,.int .i64 0,.int .i64 0]) h1 λb6 A2 h2=>?_;simp only [add_at];refine aJ (i:=0) h2 rfl rfl rfl λA3 h3=>aJ (i:=0) h3 rfl rfl rfl λA4 h4=>aJ (i:=0) h4 rfl rfl rfl λA5 h5=>aJ (i:=0) h5 rfl rfl rfl λA6 h6=>?_;have h6:Own (At b6 (cB p)::RamW r fr hs W::R) A6:=h6;refine aX (cs:=intsV [root]) h6 λb12 A7 h7=>?_;have h7:Own (SlO ⟨some ⟨b12,0,none⟩,1,1⟩ 1 (intsV [root])::At b6 (cB p)::RamW r fr hs W::R) A7:=h7.imp λB hB=>oS (k:=1) (sz:=1) rfl hB;have h7:Own (RamW r fr hs W::SlO ⟨some ⟨b12,0,none⟩,1,1⟩ 1 (intsV [root])::At b6 (cB p)::R) A7:=h7.rot3;have hroot:tab 0 0=some root:=(hT.root 0 root).2 ⟨rfl,rfl⟩;refine ⟨λs h'=>∃ lst,DownOK tab p lst/\s.len=lst.length/\s.a≠none/\Own (RamW r fr hs W::SlO s 1 (intsV lst)::At b6 (cB p)::R) h',λs h' ⟨lst,g1,g2,g3,g4⟩=>hk lst s h' g1 g2 g3 (g4.sub (List.Sublist.cons_cons _ (List.Sublist.cons_cons _ (List.sublist_cons_self _ _)))),?_⟩
 refine ⟨λs x m h'=>∃ (v:Nat) (lst:List Int),x=v/\v<=3/\3-v=m/\lst.length=v+1/\(∀ c,c<v+1->tab c (preP p c)=lst[c]?)/\s.len=v+1/\s.a≠none/\Own (RamW r fr hs W::SlO s 1 (intsV lst)::At b6 (cB p)::R) h',
  ⟨_,0,[root],rfl,by omega,rfl,rfl,λc hc=>?_,rfl,by simp,h7⟩,?_⟩
 ·have:c=0:=by omega
  subst this;exact hroot
 intro s x m A8 ⟨v,lst,i1,i2,i3,i4,i5,i6,i7,h8⟩;subst i1 i3;apply aG
 rotate_left
 ·intro d;have d:v=3:=by simp at d;omega
  subst d;exact ⟨lst,⟨by omega,by omega,λc hc=>i5 c (by omega),λhc=>by omega⟩,by omega,i7,h8⟩
 intro d;have d:v<3:=by simp at d;omega
 obtain ⟨f,hf⟩:∃ f,lst[v]? = some f:=⟨lst[v],by simp [i4]⟩;have hfv:=i5 v (by omega);rw [hf] at hfv;obtain ⟨bb,o,q1,q2⟩:=bW (i:=1) (P:=SlO s 1 (intsV lst)) h8 rfl aU (j:=v) (v:=.int .i64 f) (by simp only [intsV,List.getElem?_map,hf];rfl);obtain ⟨e1,e2,e3,e4,e5⟩:=bN hp (k:=v) (by omega);have ldf:∀ K:Int->Prop,K f->aI .i64 (Addr.add ⟨bb,o,none⟩ (Int.toNat (v:Int)*1)) A8 K:=λK hK=>⟨f,by rw [add_at];simpa using q2,hK⟩;rw [q1];refine inB_in (by omega) (by omega) (inB_in (by omega) (by omega) (ldf _ ?_));refine ld_I (i:=2) h8 rfl (by rw [show 0+Int.toNat (v:Int)*1=v by omega];exact gW (by omega)) ?_;refine qF h8 (hhas _ _ _ hfv) ⟨e2,e3⟩ λA9 h9=>?_;have hw:=hT.words v _ f d hfv (atP p v) e2 e3 e4;rw [<-e1] at hw;cases hn:tab (v+1) (preP p (v+1)) with
 | none=>
  rw [hn] at hw;have hw:W f (atP p v)=0:=hw;rw [hw];exact aN rfl ⟨lst,⟨by omega,by omega,λc hc=>i5 c (by omega),λ_=>by rw [i4];exact hn⟩,by omega,i7,h9⟩
 | some g=>
  rw [hn] at hw;obtain ⟨w1,w2,_,_⟩:=xQ hw (hT.range _ _ _ hn);rw [w1,w2];refine bsel_f rfl ?_;refine aX (cs:=intsV [g]) h9 λb35 A10 h10=>?_;have h10:Own (dK ⟨some ⟨b35,0,none⟩,1,1⟩ 1 (intsV [g])::RamW r fr hs W::SlO s 1 (intsV lst)::At b6 (cB p)::R) A10:=h10.imp λB hB=>(oS (k:=1) (sz:=1) rfl hB).look;have h10:Own (SlO s 1 (intsV lst)::dK ⟨some ⟨b35,0,none⟩,1,1⟩ 1 (intsV [g])::RamW r fr hs W::At b6 (cB p)::R) A10:=h10.pick 2 rfl;refine kF (i:=0) h10 rfl (λq=>by cases q) (λq=>absurd q i7) rfl (λx hx=>?_) ⟨by simp only [i6];omega,by simp only [i6];omega⟩ λs' A11 j1 j2 h11=>?_
  ·simp [intsV] at hx;subst hx;rfl
  rw [<-jT] at h11;refine ⟨3-(v+1),by omega,v+1,lst++[g],by rw [bG]<;>omega,by omega,rfl,by simp [i4],λc hc=>?_,by simp only [j1,i6],λq=>by have:=j2 q;simp [intsV] at this,?_⟩
  ·by_cases g1:c<v+1
   ·rw [List.getElem?_append_left (by omega)];exact i5 c g1
   ·have:c=v+1:=by omega
    subst this;rw [List.getElem?_append_right (by omega),hn,i4];simp
  ·exact (h11.sub (List.Sublist.cons_cons _ (List.sublist_cons_self _ _))).swap
end Go.Dn
namespace Go.Dn
variable {A:AH} {R:List SP} {r:Nat} {fr:Int} {hs:List (Int × Int)} {W:Int->Int->Int} {root:Int} {tab:Tab} {lf:Int->Option Lf}
theorem TabW.chain (h:TabW W root tab lf) {p:Int} {x:Lf} (hp:0<=p/\p<34359738368) (hx:lf p=some x):∀ c,c<4->tab c (preP p c)≠none:=by
 obtain ⟨f3,h3,_⟩:=h.upL p x hx;obtain ⟨f2,h2,_⟩:=h.up 2 _ _ h3;obtain ⟨f1,h1,_⟩:=h.up 1 _ _ h2;have e2:p / 512 / 512=p / 262144:=by omega
 have e1:p / 262144 / 512=p / 134217728:=by omega
 rw [e2] at h2 h1;rw [e1] at h1;have h0:tab 0 0=some root:=(h.root 0 root).2 ⟨rfl,rfl⟩;intro c hc;obtain rfl | rfl | rfl | rfl:c=0\/c=1\/c=2\/c=3:=by omega
 ·simp only [preP];rw [h0];simp
 ·simp only [preP];rw [h1];simp
 ·simp only [preP];rw [h2];simp
 ·simp only [preP];rw [h3];simp
theorem DownOK.four {p:Int} {lst:List Int} (h:DownOK tab p lst) (hl:lst.length=4):∃ f,lst[3]? = some f/\tab 3 (p / 512)=some f:=by
 have:=h.is 3 (by omega);refine ⟨lst[3],by simp [hl],?_⟩;rw [show p / 512=preP p 3 from rfl,this];simp [hl]
set_option maxRecDepth 100000 in
theorem aC4 {p bx:Int} {pb pt:Option Addr} {Q:Int->Bool->Bool->Bool->Bool->AH->Prop} (h:Own (RamW r fr hs W::R) A) (hT:TabW W root tab lf) (hhas:∀ k q f,tab k q=some f->hasF fr hs f=true)
  (hn:(p<0\/p>=34359738368\/lf p=none)->∀ A',Own (RamW r fr hs W::R) A'->Q 0 false false false false A')
  (hk:∀ x,0<=p->p<34359738368->lf p=some x->∀ A',Own (RamW r fr hs W::R) A'->Q x.frame x.w x.u x.x true A'):qdr_A (some ⟨r,0,none⟩) pb pt bx root p Q A:=by
 unfold qdr_A qdr_G;refine ⟨λ_ _ _ h'=>h'=A/\0<=p/\p<34359738368,?_,aG (λc=>hn (.inl (by simpa using c)) A h) λc=>aG (λd=>hn (.inr (.inl (by simpa using d))) A h) λd=>⟨rfl,by simpa using c,by simpa using d⟩⟩;intro _ _ _ A0 ⟨e0,p0,p1⟩;subst e0;refine xU h hT hhas ⟨p0,p1⟩ λlst s A1 hD hl hsa h1=>?_;have hle:=hD.le;refine aG (λc=>?_) λc=>?_
 ·have c:lst.length<4:=by simp [hl] at c;omega
  refine hn (.inr (.inr ?_)) A1 (h1.sub (List.Sublist.cons_cons _ (List.sublist_cons_self _ _)));cases hx:lf p with
  | none=>rfl
  | some x=>exact absurd (hD.no c) (hT.chain ⟨p0,p1⟩ hx _ c)
 have c:lst.length=4:=by simp [hl] at c;omega
 obtain ⟨f,hf,ht⟩:=hD.four c
 have ld3:∀ B,Own (RamW r fr hs W::SlO s 1 (intsV lst)::R) B->∀ a,s.a=some a->∀ K:Int->Prop,K f->aI .i64 (Addr.add a 3) B K:=by
  intro B hB a ha K hK;obtain ⟨bb,o,q1,q2⟩:=bW (i:=1) (P:=SlO s 1 (intsV lst)) hB rfl aU (j:=3) (v:=.int .i64 f) (by simp only [intsV,List.getElem?_map,hf];rfl);rw [q1] at ha;cases ha;exact ⟨f,by rw [add_at];exact q2,hK⟩
 obtain ⟨a,ha⟩:∃ a,s.a=some a:=by
  cases e:s.a with
  | none=>exact absurd e hsa
  | some a=>exact ⟨a,rfl⟩
 have ld3:=λB hB=>ld3 B hB a ha;rw [ha];refine inB_in (by omega) (by simp [hl,c]) (ld3 _ h1 _ ?_);refine qS h1 ⟨p0,p1⟩ λA2 h2=>⟨ld3 _ h2 _ rfl,atP p 3,rfl,?_⟩;have hj:0<=atP p 3/\atP p 3<512:=by simp only [atP];omega
 refine qF h2 (hhas _ _ _ ht) hj λA3 h3=>?_;have hw:=hT.leaves _ f ht (atP p 3) hj.1 hj.2;rw [show p / 512*512+atP p 3=p by simp only [atP];omega] at hw;have h3':Own (RamW r fr hs W::R) A3:=h3.sub (List.Sublist.cons_cons _ (List.sublist_cons_self _ _));cases hx:lf p with
 | none=>
  rw [hx] at hw;have hw:W f (atP p 3)=0:=hw;rw [hw];exact aN rfl (hn (.inr (.inr hx)) A3 h3')
 | some x=>
  rw [hx] at hw;obtain ⟨b0,b1,b2,b3,b4,_,_⟩:=oF hw (hT.rangeL _ _ hx);rw [b0,b1,b2,b3,b4,Bool.not_not];exact bsel_f rfl (hk x p0 p1 hx A3 h3')
end Go.Dn
namespace Go.Dn
def aNg (lst:List Int) (v:Nat):List Int:=lst.drop (v+1)
end Go.Dn
namespace Go.Dn
variable {A:AH} {l R:List SP} {r o:Nat} {fr:Int} {hs:List (Int × Int)} {W:Int->Int->Int} {root:Int} {tab:Tab} {lf:Int->Option Lf}
def OutS (o:Nat) (out:List Int):SP:=λB=>∃ s:Sl,(s.len=out.length/\(s.a=none->out=[]))/\Own [At o [.slice s.a s.len s.cap],SlO s 1 (intsV out)] B
theorem OutS.openH {out:List Int} (h:Own (OutS o out::R) A):∃ s:Sl,(s.len=out.length/\(s.a=none->out=[]))/\Own (At o [.slice s.a s.len s.cap]::SlO s 1 (intsV out)::R) A:=by
 obtain ⟨s,h⟩:=Own.ex h;obtain ⟨h1,h⟩:=Own.pure h;exact ⟨s,h1,h.flat⟩
theorem OutS.closeH {out:List Int} {s:Sl} (h1:s.len=out.length) (h2:s.a=none->out=[]) (h:Own (At o [.slice s.a s.len s.cap]::SlO s 1 (intsV out)::R) A):Own (OutS o out::R) A:=
 (Own.app (l:=[At o [.slice s.a s.len s.cap],SlO s 1 (intsV out)]) (r:=R) h).imp λ_ hB=>⟨s,⟨h1,h2⟩,hB⟩
theorem u7 {N:Int}:∀ (l:List Int) (lo:Int),l.Pairwise (· < ·)->(∀ x ∈ l,lo<=x/\x<N)->(l.length:Int)<=max 0 (N-lo)
 | [],lo,_,_=>by simp;omega
 | x::r,lo,hp,hb=>by
  obtain ⟨h1,h2⟩:=List.pairwise_cons.1 hp;have hx:=hb x List.mem_cons_self;have:=u7 r (x+1) h2 λy hy=>⟨by have:=h1 y hy;omega,(hb y (List.mem_cons_of_mem _ hy)).2⟩;simp only [List.length_cons];omega
theorem aGX {out:List Int} {p:Int} {Q:AH->Prop} (h:Own (OutS o out::R) A) (hl:(out.length:Int)<34359738368) (hk:∀ A',Own (OutS o (out++[p])::R) A'->Q A'):qfl_A p (some ⟨o,0,none⟩) Q A:=by
 obtain ⟨s,⟨h1,h2⟩,h⟩:=OutS.openH h;unfold qfl_A;refine ld_S (i:=0) h rfl rfl (aX (cs:=intsV [p]) h λb3 A1 hA1=>?_);have hA1:Own (dK ⟨some ⟨b3,0,none⟩,1,1⟩ 1 (intsV [p])::At o [.slice s.a s.len s.cap]::SlO s 1 (intsV out)::R) A1:=hA1.imp λB hB=>(oS (k:=1) (sz:=1) rfl hB).look;have hA1:=hA1.pick 2 rfl;refine kF (i:=0) hA1 rfl (λq=>by cases q) (λq=>by rw [h2 q];rfl) rfl (λx hx=>?_) ⟨by simp only [h1];omega,by simp only [h1];omega⟩ λs' A2 j1 j2 hA2=>?_
 ·simp [intsV] at hx;subst hx;rfl
 rw [<-jT] at hA2;have hA2:Own (SlO s' 1 (intsV (out++[p]))::dK ⟨some ⟨b3,0,none⟩,1,1⟩ 1 (intsV [p])::At o [.slice s.a s.len s.cap]::R) A2:=hA2;refine aJ (i:=2) hA2 rfl rfl rfl λA3 hA3=>hk A3 ?_;have hA3:Own (SlO s' 1 (intsV (out++[p]))::dK ⟨some ⟨b3,0,none⟩,1,1⟩ 1 (intsV [p])::At o [.slice s'.a s'.len s'.cap]::R) A3:=hA3;refine OutS.closeH (s:=s') (by simp only [j1,h1,List.length_append];rfl) (λq=>?_) ?_
 ·have:=j2 q;simp [intsV] at this
 ·exact (hA3.pick 2 rfl).sub (List.Sublist.cons_cons _ (List.Sublist.cons_cons _ (List.sublist_cons_self _ _)))
theorem aGF {q i:Int} (h0:0<=q) (h1:q<67108864) (h2:0<=i) (h3:i<512):bits .or .i64 (IntKind.wrap .i64 (q*2 ^ (9:Nat))) i=q*512+i:=by
 obtain ⟨q,rfl⟩:=Int.eq_ofNat_of_zero_le h0;obtain ⟨i,rfl⟩:=Int.eq_ofNat_of_zero_le h2;rw [show ((q:Int)*2 ^ (9:Nat))=((q*512:Nat):Int) by simp,bG (by omega) (by omega)];have e:bits .or .i64 ((q*512:Nat):Int) ((i:Nat):Int)=IntKind.wrap .i64 ((BitVec.ofInt 64 ((q*512:Nat):Int) ||| BitVec.ofInt 64 ((i:Nat):Int)).toNat:Int):=rfl
 rw [e,BitVec.toNat_or,BitVec.ofInt_natCast,BitVec.ofInt_natCast,BitVec.toNat_ofNat,BitVec.toNat_ofNat,Nat.mod_eq_of_lt (by omega),Nat.mod_eq_of_lt (by omega)];have:=Nat.shiftLeft_add_eq_or_of_lt (b:=i) (i:=9) (by omega) q;rw [Nat.shiftLeft_eq] at this;rw [show q*512=q*2 ^ 9 by rfl,<- this,bG (by omega) (by omega)];omega
def bdP:Nat->Int
 | 0=>1
 | 1=>256
 | 2=>131072
 | _=>67108864
structure pC (lf:Int->Option Lf) (d:Nat) (q:Int) (ps:List Int):Prop where
 rise:ps.Pairwise (· < ·)
 mem:∀ p,p ∈ ps↔(lf p≠none/\(0<=p/\p<34359738368)/\preP p d=q)
structure jB (lf:Int->Option Lf) (d:Nat) (q:Int) (v:Int) (ps:List Int):Prop where
 rise:ps.Pairwise (· < ·)
 mem:∀ p,p ∈ ps↔(lf p≠none/\(0<=p/\p<34359738368)/\preP p d=q/\atP p d<v)
theorem aDZ {a c:Int} (ha:0<=a/\a<34359738368) (hc:0<=c/\c<34359738368) {d:Nat} (hd:d<=4) (h:preP a d<preP c d):a<c:=by
 obtain rfl | rfl | rfl | rfl | rfl:d=0\/d=1\/d=2\/d=3\/d=4:=by omega
 all_goals simp only [preP] at h
 all_goals omega
theorem jB.step {d:Nat} {q v:Int} {ps ps':List Int} (hd:d<4) (h:jB lf d q v ps) (h':pC lf (d+1) (q*512+v) ps') (hv:0<=v/\v<512):jB lf d q (v+1) (ps++ps'):=by
 refine ⟨List.pairwise_append.2 ⟨h.rise,h'.rise,λa ha c hc=>?_⟩,λp=>?_⟩
 ·obtain ⟨_,a1,a2,a3⟩:=(h.mem a).1 ha;obtain ⟨_,c1,c2⟩:=(h'.mem c).1 hc;refine aDZ a1 c1 (d:=d+1) (by omega) ?_;rw [(bN a1 hd).1,c2,a2];omega
 ·rw [List.mem_append,h.mem,h'.mem];constructor
  ·rintro (⟨h1,h2,h3,h4⟩ | ⟨h1,h2,h3⟩)
   ·exact ⟨h1,h2,h3,by omega⟩
   ·obtain ⟨e1,e2,e3,_⟩:=bN h2 hd;rw [e1] at h3;exact ⟨h1,h2,by omega,by omega⟩
  ·rintro ⟨h1,h2,h3,h4⟩;obtain ⟨e1,e2,e3,_⟩:=bN h2 hd;by_cases e:atP p d<v
   ·exact .inl ⟨h1,h2,h3,e⟩
   ·exact .inr ⟨h1,h2,by rw [e1,h3];omega⟩
theorem jB.all {d:Nat} {q v:Int} {ps:List Int} (hd:d<4) (h:jB lf d q v ps) (hv:v=512\/d=0/\v=256):pC lf d q ps:=by
 refine ⟨h.rise,λp=>?_⟩;rw [h.mem];constructor
 ·rintro ⟨h1,h2,h3,_⟩;exact ⟨h1,h2,h3⟩
 ·rintro ⟨h1,h2,h3⟩;obtain ⟨_,e2,e3,e4,_⟩:=bN h2 hd;refine ⟨h1,h2,h3,?_⟩;rcases hv with rfl | ⟨hd0,rfl⟩
  ·exact e3
  ·exact e4 hd0
theorem jB.zero {d:Nat} {q:Int} (hd:d<4):jB lf d q 0 []:=by
 refine ⟨List.Pairwise.nil,λp=>?_⟩;simp only [List.not_mem_nil,false_iff];rintro ⟨_,h2,_,h4⟩;have:=(bN h2 hd).2.1;omega
set_option maxRecDepth 100000 in
set_option maxHeartbeats 2000000 in
theorem aEd {bx:Int} {pb pt:Option Addr} (hT:TabW W root tab lf) (hhas:∀ k q f,tab k q=some f->hasF fr hs f=true):∀ (e d:Nat) (q f:Int) (out:List Int) (A:AH) (Q:AH->Prop),d+e=4->1<=e->0<=q->q<bdP d->Own (RamW r fr hs W::OutS o out::R) A->tab d q=some f->
  out.Pairwise (· < ·)->(∀ x ∈ out,(0<=x/\x<34359738368)/\preP x d<q)->(∀ ps A',pC lf d q ps->Own (RamW r fr hs W::OutS o (out++ps)::R) A'->Q A')->
  qfm_A e (some ⟨r,0,none⟩) pb pt bx f e q (some ⟨o,0,none⟩) Q A:=by
 intro e
 induction e with
 | zero=>intro d q f out A Q _ h1;omega
 | succ e ih=>
  intro d q f out A Q hde _ hq0 hq1 h ht hr1 hr2 hk;have hd:d<4:=by omega
  have hf:=hhas _ _ _ ht;unfold qfm_A qfm_G;refine ⟨λx m h'=>∃ (v:Nat) (ps:List Int),x=v/\512-v=m/\v<=512/\jB lf d q v ps/\Own (RamW r fr hs W::OutS o (out++ps)::R) h',⟨_,0,[],rfl,rfl,by omega,jB.zero hd,by rw [List.append_nil];exact h⟩,?_⟩;intro x m A1 ⟨v,ps,i1,i2,i3,i4,h1⟩;subst i1 i2
  have rise:∀ {u:Int} {ps:List Int},jB lf d q u ps->(out++ps).Pairwise (· < ·):=λ{u ps} hL=>List.pairwise_append.2 ⟨hr1,hL.rise,λa ha c hc=>by
   obtain ⟨_,c1,c2,_⟩:=(hL.mem c).1 hc;obtain ⟨a1,a2⟩:=hr2 a ha;exact aDZ a1 c1 (d:=d) (by omega) (by omega)⟩
  have rng:∀ x ∈ out++ps,0<=x/\x<34359738368:=λx hx=>by
   rcases List.mem_append.1 hx with hx | hx
   ·exact (hr2 x hx).1
   ·exact ((i4.mem x).1 hx).2.1
  refine aG (λc=>?_) λc=>?_
  rotate_left
  ·have c:v=512:=by simp at c;omega
   exact hk ps A1 (i4.all hd (.inl (by omega))) h1
  have c:v<512:=by simp at c;omega
  refine ⟨λh'=>∃ ps',pC lf (d+1) (q*512+v) ps'/\Own (RamW r fr hs W::OutS o (out++ps++ps')::R) h',?_,?_⟩
  ·intro A2 ⟨ps',k1,k2⟩;refine ⟨512-(v+1),by omega,v+1,ps++ps',by rw [bG]<;>omega,rfl,by omega,i4.step hd k1 ⟨by omega,by omega⟩,?_⟩;rw [<-List.append_assoc];exact k2
  refine ⟨λh'=>h'=A1/\(d=0->v<256),?_,?_⟩
  rotate_left
  ·refine aG (λg=>?_) λg=>?_
   ·have g:d=0:=by simp at g;omega
    refine aG (λg2=>?_) λg2=>⟨rfl,λ_=>by simp at g2;omega⟩;have g2:256<=v:=by simp at g2;omega
    rcases Nat.lt_or_ge 256 v with g3 | g3
    ·refine hk ps A1 ?_ h1;refine ⟨i4.rise,λp=>?_⟩;rw [i4.mem];constructor
     ·rintro ⟨z1,z2,z3,_⟩;exact ⟨z1,z2,z3⟩
     ·rintro ⟨z1,z2,z3⟩;obtain ⟨_,_,_,e4,_⟩:=bN z2 hd;exact ⟨z1,z2,z3,by have:=e4 g;omega⟩
    ·exact hk ps A1 (i4.all hd (.inr ⟨g,by omega⟩)) h1
   ·have g:d≠0:=by simp at g;omega
    exact ⟨rfl,λz=>absurd z g⟩
  intro A2 ⟨e2,hv2⟩;subst e2
  have hq2:q<67108864/\q*512+v<bdP (d+1)\/d=3:=by
   obtain rfl | rfl | rfl | rfl:d=0\/d=1\/d=2\/d=3:=by omega
   ·left;have:=hv2 rfl;simp only [bdP] at hq1 ⊢;omega
   ·left;simp only [bdP] at hq1 ⊢;omega
   ·left;simp only [bdP] at hq1 ⊢;omega
   ·right;rfl
  have hq3:q<67108864:=by
   rcases hq2 with z | z
   ·exact z.1
   ·subst z;exact hq1
  rw [aGF hq0 hq3 (by omega) (by omega)];refine qF h1 hf ⟨by omega,by omega⟩ λA3 h3=>?_
  have nil:(∀ p,0<=p->p<34359738368->preP p (d+1)=q*512+v->lf p=none)->∃ ps',pC lf (d+1) (q*512+v) ps'/\Own (RamW r fr hs W::OutS o (out++ps++ps')::R) A3:=λhno=>by
   refine ⟨[],⟨List.Pairwise.nil,λp=>?_⟩,by rw [List.append_nil];exact h3⟩;simp only [List.not_mem_nil,false_iff];rintro ⟨z1,z2,z3⟩;exact z1 (hno p z2.1 z2.2 z3)
  rcases Nat.lt_or_ge d 3 with d3 | d3
  ·have hw:=hT.words d q f d3 ht v (by omega) (by omega) (λz=>by have:=hv2 z;omega);cases hn:tab (d+1) (q*512+v) with
   | none=>
    rw [hn] at hw;have hw:W f v=0:=hw;rw [hw];refine aN rfl (nil λp p0 p1 hp=>?_);cases hx:lf p with
    | none=>rfl
    | some y=>exact absurd (hp ▸ hn) (hT.chain ⟨p0,p1⟩ hx (d+1) (by omega))
   | some g=>
    rw [hn] at hw;obtain ⟨w1,w2,_,_⟩:=xQ hw (hT.range _ _ _ hn);rw [w1,w2];refine bsel_f rfl (bsel_f (by simp;omega) ?_);rw [bG (by omega) (by omega),show ((e+1:Nat):Int)-1=(e:Int) by omega];refine ih (d+1) (q*512+v) g (out++ps) A3 _ (by omega) (by omega) (by omega) ?_ h3 hn (rise i4) (λx hx=>⟨rng x hx,?_⟩) λps' A4 k1 k2=>⟨ps',k1,k2⟩
    ·rcases hq2 with z | z
     ·exact z.2
     ·omega
    ·rcases List.mem_append.1 hx with hx | hx
     ·obtain ⟨x1,x2⟩:=hr2 x hx;obtain ⟨e1,e2,e3,_⟩:=bN x1 hd;rw [e1];omega
     ·obtain ⟨_,x1,x2,x3⟩:=(i4.mem x).1 hx;obtain ⟨e1,e2,e3,_⟩:=bN x1 hd;rw [e1];omega
  ·have d3:d=3:=by omega
   subst d3;have e0:e=0:=by omega
   subst e0;have hw:=hT.leaves q f ht v (by omega) (by omega);have h4:∀ p:Int,preP p (3+1)=p:=λp=>rfl;cases hn:lf (q*512+v) with
   | none=>
    rw [hn] at hw;have hw:W f v=0:=hw;rw [hw];refine aN rfl (nil λp p0 p1 hp=>?_);rw [h4] at hp;rw [hp];exact hn
   | some y=>
    rw [hn] at hw;rw [(oF hw (hT.rangeL _ _ hn)).1];refine bsel_f rfl (aN rfl ?_);have hlen:=u7 (N:=34359738368) (out++ps) 0 (rise i4) rng;have hq1:q<67108864:=hq1
    have hlast:((out++ps).length:Int)<34359738368:=by
     have h5:(out++ps++[q*512+v]).Pairwise (· < ·):=List.pairwise_append.2 ⟨rise i4,by simp,λa ha c hc=>by
      simp only [List.mem_singleton] at hc;subst hc;rcases List.mem_append.1 ha with ha | ha
      ·obtain ⟨x1,x2⟩:=hr2 a ha;obtain ⟨e1,e2,e3,_⟩:=bN x1 hd;have:preP a (3+1)=a:=rfl;omega
      ·obtain ⟨_,x1,x2,x3⟩:=(i4.mem a).1 ha;obtain ⟨e1,e2,e3,_⟩:=bN x1 hd;have:preP a (3+1)=a:=rfl;omega⟩
     have:=u7 (N:=34359738368) _ 0 h5 λx hx=>by
      rcases List.mem_append.1 hx with hx | hx
      ·exact rng x hx
      ·simp only [List.mem_singleton] at hx;subst hx;omega
     simp only [List.length_append,List.length_singleton] at this ⊢;omega
    refine aGX h3.swap hlast λA4 h4'=>⟨[q*512+v],⟨by simp,λp=>?_⟩,h4'.swap⟩;rw [h4,List.mem_singleton];constructor
    ·rintro rfl;exact ⟨by rw [hn];simp,⟨by omega,by omega⟩,rfl⟩
    ·rintro ⟨_,_,z⟩;exact z
theorem aB6 {bx:Int} {pb pt:Option Addr} {Q:Sl->AH->Prop} (h:Own (RamW r fr hs W::R) A) (hT:TabW W root tab lf) (hhas:∀ k q f,tab k q=some f->hasF fr hs f=true)
  (hk:∀ s ps A',s.len=ps.length->(s.a=none->ps=[])->ps.Pairwise (· < ·)->(∀ p,p ∈ ps↔(lf p≠none/\0<=p/\p<34359738368))->Own (RamW r fr hs W::SlO s 1 (intsV ps)::R) A'->Q s A'):qfn_A (some ⟨r,0,none⟩) pb pt bx root Q A:=by
 unfold qfn_A qfn_G;refine aX (cs:=[.slice none 0 0]) h λb1 A1 h1=>?_;have h1:Own (OutS b1 []::RamW r fr hs W::R) A1:=h1.imp λB hB=>⟨Sl.nil,⟨rfl,λ_=>rfl⟩,B,λ_=>none,λ_=>.inr rfl,lA.refl _,(λ_ _ e=>nomatch e),hB,λ_=>none,λ_=>none,λ_=>.inr rfl,lA.refl _,lA.refl _,SlO.nil,trivial⟩;refine ⟨4,aEd hT hhas 4 0 0 root [] A1 _ (by omega) (by omega) (by omega) (by simp [bdP]) h1.swap ((hT.root 0 root).2 ⟨rfl,rfl⟩) List.Pairwise.nil (by simp) λps A2 k1 h2=>?_⟩;obtain ⟨s,⟨s1,s2⟩,h2⟩:=OutS.openH h2.swap;rw [List.nil_append] at s1 s2 h2;refine ld_S (i:=0) h2 rfl rfl (hk s ps A2 s1 s2 k1.rise (λp=>?_) (h2.tail.swap));rw [k1.mem];constructor
 ·rintro ⟨z1,z2,_⟩;exact ⟨z1,z2⟩
 ·rintro ⟨z1,z2⟩;exact ⟨z1,z2,rfl⟩
end Go.Dn
namespace Go.Dn
variable {A:AH} {R:List SP} {r b t i:Nat} {fr n:Int} {hs:List (Int × Int)} {W:Int->Int->Int} {F G:Int->Prop} {ns:List Nd} {nd:Nd}
def tab0 (root:Int):Tab:=λk q=>if k=0/\q=0 then some root else none
theorem TabW.init {root:Int} (hz:∀ j,0<=j->j<256->W root j=0) (hr:0<=root/\root<1048576):TabW W root (tab0 root) (λ_=>none):=by
 have key:∀ k q f,tab0 root k q=some f->k=0/\q=0/\f=root:=by
  intro k q f h;unfold tab0 at h;split at h
  ·rename_i e;cases h;exact ⟨e.1,e.2,rfl⟩
  ·cases h
 refine ⟨λq f=>⟨λh=>⟨(key _ _ _ h).2.1,(key _ _ _ h).2.2⟩,λh=>?_⟩,λk q hk=>?_,λk q f hk hf j h0 h1 h2=>?_,λq f hf=>?_,λk q f hf=>?_,λp x hx=>(by cases hx),λk1 q1 k2 q2 f h1 h2=>?_,λk q f hf=>?_,λp x hx=>(by cases hx)⟩
 ·unfold tab0;rw [h.1,h.2,if_pos ⟨rfl,rfl⟩]
 ·unfold tab0;rw [if_neg (by omega)]
 ·obtain ⟨rfl,rfl,rfl⟩:=key _ _ _ hf;rw [hz j h0 (h2 rfl)];unfold tab0;rw [if_neg (by omega)];rfl
 ·have:=(key _ _ _ hf).1;omega
 ·have:=(key _ _ _ hf).1;omega
 ·obtain ⟨a1,a2,_⟩:=key _ _ _ h1;obtain ⟨b1,b2,_⟩:=key _ _ _ h2;exact ⟨a1.trans b1.symm,a2.trans b2.symm⟩
 ·rw [(key _ _ _ hf).2.2];exact hr
theorem aFe {kern:Int} {tk:List Int} {Q:Int->Int->AH->Prop} (h:Own (taken r fr hs W b F G n t ns i nd tk++R) A) (hi:ns[i]? = some nd) (hlv:nd.live=true) (hF:∀ x,F x->hasF fr hs x=true) (hkn:0<=kern/\kern<1048576)
  (hq:nd.quo-nd.use-nd.lent<=tk.length->Q 0 8 A) (hm:tk.length<nd.quo-nd.use-nd.lent->n=tk.length->∀ A',Own (taken r fr hs W b F G n t ns i nd tk++R) A'->Q 0 7 A')
  (hk:tk.length<nd.quo-nd.use-nd.lent->n≠tk.length->∀ f A',F f->f ∉ tk->Own (taken r fr hs (setW (zeroW W f) f 256 (kEnt kern)) b F G n t ns i nd (tk++[f])++R) A'->Q f 0 A') :
  qbz_A (some ⟨r,0,none⟩) (some ⟨b,0,none⟩) (some ⟨t,0,none⟩) i kern Q A:=by
 unfold qbz_A qbz_G;refine kC h hi hlv hF (λc=>aN rfl (hq c)) (λc d A' hA=>aN rfl (hm c d A' hA)) λc d f A1 hf hn hA=>bsel_f rfl ?_;exact lY hA (hF f hf) ⟨by omega,by omega⟩ hkn λA2 hA2=>hk c d f A2 hf hn hA2
end Go.Dn
