/- What the proof stands on: Quota, Purse, Kernel, Tabs. -/
import Derived.Test.YtmfmhmipcdgikaaGreatG
import Derived.Test.YtmfmhmipcdgikaaGreatDnN
import Derived.Test.YtmfmhmipcdgikaaGreatWords
import Derived.Test.YtmfmhmipcdgikaaGreatBudNew
/- Containers: what they may have and have. -/
namespace Go.Dn
structure Nd where
 par:Int
 quo:Int
 use:Int
 lent:Int
 live:Bool
def Nd.cells (d:Nd):List Value:=[.int .i64 d.par,.int .i64 d.quo,.int .i64 d.use,.int .i64 d.lent,.bool d.live]
def ndCells (ns:List Nd):List Value:=ns.flatMap Nd.cells
structure Nd.OK (d:Nd):Prop where
 use:0≤d.use
 lent:0≤d.lent
 room:d.use+d.lent≤d.quo
 quo:d.quo≤1048576
def treeL (t blk cap:Nat) (ns:List Nd) (rest:List Value):List SP:=[At t [.slice (some ⟨blk,0,none⟩) ns.length cap],At blk (ndCells ns++rest)]
def TreeS (t:Nat) (ns:List Nd):SP:=fun B=>∃ blk cap rest,(ns.length≤64∧∀ d ∈ ns,d.OK)∧Own (treeL t blk cap ns rest) B
variable {A:AH} {l R:List SP} {t blk cap i:Nat} {ns:List Nd} {rest:List Value} {nd:Nd}
theorem ndCells_len (ns:List Nd):(ndCells ns).length=ns.length*5:=by
 induction ns with
 | nil=>rfl
 | cons d ns ih=>simp only [ndCells,List.flatMap_cons,List.length_append] at ih ⊢;rw [ih];simp [Nd.cells];omega
theorem ndCells_at:∀ {ns:List Nd} {i:Nat} {nd:Nd} (f:Nat),ns[i]? = some nd→f<5→(ndCells ns)[i*5+f]? = nd.cells[f]?
 | [],_,_,_,e,_=>by simp at e
 | d::ns,0,nd,f,e,hf=>by
  simp at e;subst e
  show (d.cells++ndCells ns)[0*5+f]? = _
  rw [List.getElem?_append_left (by simp [Nd.cells];omega)]
  simp
 | d::ns,i+1,nd,f,e,hf=>by
  have:=ndCells_at (ns:=ns) (i:=i) (nd:=nd) f (by simpa using e) hf
  show (d.cells++ndCells ns)[(i+1)*5+f]? = _
  rw [List.getElem?_append_right (by simp [Nd.cells];omega)]
  rw [show (i+1)*5+f-d.cells.length=i*5+f by simp [Nd.cells];omega]
  exact this
theorem ndCells_use:∀ {ns:List Nd} {i:Nat} {nd:Nd} (x:Int),ns[i]? = some nd→(ndCells ns).set (i*5+2) (.int .i64 x)=ndCells (ns.set i { nd with use:=x })
 | [],_,_,_,e=>by simp at e
 | d::ns,0,nd,x,e=>by simp at e;subst e;rfl
 | d::ns,i+1,nd,x,e=>by
  have:=ndCells_use (ns:=ns) (i:=i) (nd:=nd) x (by simpa using e)
  show (d.cells++ndCells ns).set ((i+1)*5+2) _=d.cells++ndCells (ns.set i _)
  rw [List.set_append_right _ _ (by simp [Nd.cells];omega)]
  rw [show (i+1)*5+2-d.cells.length=i*5+2 by simp [Nd.cells];omega,this]
theorem TreeS.openH (h:Own (TreeS t ns::R) A):∃ blk cap rest,(ns.length≤64∧∀ d ∈ ns,d.OK)∧Own (treeL t blk cap ns rest++R) A:=by
 obtain ⟨blk,h⟩:=Own.ex h
 obtain ⟨cap,h⟩:=Own.ex h
 obtain ⟨rest,h⟩:=Own.ex h
 obtain ⟨h1,h⟩:=Own.pure h
 exact ⟨blk,cap,rest,h1,Own.flat h⟩
theorem TreeS.closeH (h1:ns.length≤64) (h2:∀ d ∈ ns,d.OK) (h:Own (treeL t blk cap ns rest++R) A):Own (TreeS t ns::R) A:=h.app.imp fun _ hB=>⟨blk,cap,rest,⟨h1,h2⟩,hB⟩
theorem cell_ix {f:Nat} {v:Value} (hi:ns[i]? = some nd) (hf:f<5) (hv:nd.cells[f]? = some v):(ndCells ns++rest)[i*5+f]? = some v:=by
 have hl:=(List.getElem?_eq_some_iff.1 hi).1
 rw [List.getElem?_append_left (by rw [ndCells_len];omega),ndCells_at f hi hf]
 exact hv
theorem at_raw {Q:Option Addr→Bool→AH→Prop} (h:Own (treeL t blk cap ns rest++R) A) (hi:ns[i]? = some nd) (hlv:nd.live=true) (hk:Q (some ⟨blk,i*5,none⟩) true A):qav_A (some ⟨t,0,none⟩) i Q A:=by
 have hl:=(List.getElem?_eq_some_iff.1 hi).1
 unfold qav_A
 refine bsel_f (by simp) (ld_S (i:=0) h rfl rfl (bsel_f (by simp;omega) (ld_S (i:=0) h rfl rfl (inB_in (by omega) (by simp;omega) ?_))))
 rw [add_at,add_at]
 refine ld_B (i:=1) (n:=nd.live) h rfl ?_ ?_
 ·rw [show 0+Int.toNat (i:Int)*5+4=i*5+4 by omega]
  exact cell_ix hi (by omega) rfl
 refine bsel_f (by simp [hlv]) (ld_S (i:=0) h rfl rfl (inB_in (by omega) (by simp;omega) ?_))
 rw [add_at,show 0+Int.toNat (i:Int)*5=i*5 by omega]
 exact hk
theorem ld_nd {f:Nat} {x:Int} {K:Int→Prop} (h:Own (treeL t blk cap ns rest++R) A) (hi:ns[i]? = some nd) (hf:f<5) (hx:nd.cells[f]? = some (.int .i64 x)) (hK:K x):aI .i64 (Addr.add ⟨blk,i*5,none⟩ f) A K:=by
 rw [add_at]
 exact ld_I (i:=1) h rfl (cell_ix hi hf hx) hK
theorem st_use {x:Int} {K:AP} (h:Own (treeL t blk cap ns rest++R) A) (hi:ns[i]? = some nd) (hK:∀ A',Own (treeL t blk cap (ns.set i { nd with use:=x }) rest++R) A'→K A'):aC (Addr.add ⟨blk,i*5,none⟩ 2) (.int .i64 x) A K:=by
 rw [add_at]
 have hl:=(List.getElem?_eq_some_iff.1 hi).1
 refine st_C (i:=1) h rfl ?_ rfl fun A' h'=>hK A' ?_
 ·rw [cell_ix hi (by omega) (f:=2) (v:=.int .i64 nd.use) rfl];rfl
 ·have h':Own (At t [.slice (some ⟨blk,0,none⟩) ns.length cap]::At blk ((ndCells ns++rest).set (i*5+2) (.int .i64 x))::R) A':=h'
  rw [List.set_append_left _ _ (by rw [ndCells_len];omega),ndCells_use x hi] at h'
  show Own (At t [.slice (some ⟨blk,0,none⟩) (ns.set i { nd with use:=x }).length cap]::At blk (ndCells (ns.set i { nd with use:=x })++rest)::R) A'
  rw [List.length_set]
  exact h'
theorem Room_raw {Q:Int→AH→Prop} (h:Own (treeL t blk cap ns rest++R) A) (hi:ns[i]? = some nd) (hlv:nd.live=true) (hok:nd.OK) (hk:Q (nd.quo-nd.use-nd.lent) A):qaw_A (some ⟨t,0,none⟩) i Q A:=by
 obtain ⟨o1,o2,o3,o4⟩:=hok
 unfold qaw_A qaw_G
 refine at_raw h hi hlv (bsel_f rfl (ld_nd h hi (by omega) rfl (ld_nd h hi (by omega) rfl (ld_nd h hi (by omega) rfl ?_))))
 rw [w64 (n:=nd.quo-nd.use) (by omega) (by omega),w64 (by omega) (by omega)]
 exact hk
theorem set_ok (h2:∀ d ∈ ns,d.OK) {x:Nd} (hx:x.OK):∀ d ∈ ns.set i x,d.OK:=fun d hd=>by
 rcases List.mem_or_eq_of_mem_set hd with h | h
 ·exact h2 d h
 ·rw [h];exact hx
theorem Charge_head {k:Int} {Q:Int→AH→Prop} (h:Own (TreeS t ns::R) A) (hi:ns[i]? = some nd) (hlv:nd.live=true) (hk0:0≤k) (hn:k > nd.quo-nd.use-nd.lent→Q 8 A)
  (hk:k≤nd.quo-nd.use-nd.lent→∀ A',Own (TreeS t (ns.set i { nd with use:=nd.use+k })::R) A'→Q 0 A'):qax_A (some ⟨t,0,none⟩) i k Q A:=by
 obtain ⟨blk,cap,rest,⟨h1,h2⟩,hh⟩:=TreeS.openH h
 have hok:=h2 nd (List.mem_of_getElem? hi)
 obtain ⟨o1,o2,o3,o4⟩:=hok
 unfold qax_A qax_G
 refine at_raw hh hi hlv (bsel_f rfl (bsel_f (by simp;omega) (Room_raw hh hi hlv ⟨o1,o2,o3,o4⟩ ?_)))
 refine bsel_in (fun c=>hn (by simpa using c)) fun c=>?_
 have c:k≤nd.quo-nd.use-nd.lent:=by simpa using c
 refine ld_nd hh hi (by omega) rfl (st_use hh hi fun A' hA=>hk c A' ?_)
 rw [w64 (by omega) (by omega)] at hA
 exact TreeS.closeH (by simpa using h1) (set_ok h2 ⟨by simp;omega,o2,by simp;omega,o4⟩) hA
theorem Credit_head {k:Int} {Q:Int→AH→Prop} (h:Own (TreeS t ns::R) A) (hi:ns[i]? = some nd) (hlv:nd.live=true) (hk0:0≤k) (hku:k≤nd.use)
  (hk:∀ A',Own (TreeS t (ns.set i { nd with use:=nd.use-k })::R) A'→Q 0 A'):qbf_A (some ⟨t,0,none⟩) i k Q A:=by
 obtain ⟨blk,cap,rest,⟨h1,h2⟩,hh⟩:=TreeS.openH h
 have hok:=h2 nd (List.mem_of_getElem? hi)
 obtain ⟨o1,o2,o3,o4⟩:=hok
 unfold qbf_A qbf_G
 refine at_raw hh hi hlv (bsel_f rfl (bsel_f (by simp;omega) (ld_nd hh hi (by omega) rfl (bsel_f (by simp;omega) (ld_nd hh hi (by omega) rfl (st_use hh hi fun A' hA=>hk A' ?_))))))
 rw [w64 (by omega) (by omega)] at hA
 exact TreeS.closeH (by simpa using h1) (set_ok h2 ⟨by simp;omega,o2,by simp;omega,o4⟩) hA
theorem Get_head {Q:Int→Int→Int→Int→Bool→Bool→AH→Prop} (h:Own (TreeS t ns::R) A) (hi:ns[i]? = some nd) (hlv:nd.live=true) (hk:Q nd.par nd.quo nd.use nd.lent nd.live true A):qfs_A (some ⟨t,0,none⟩) i Q A:=by
 obtain ⟨blk,cap,rest,⟨h1,h2⟩,hh⟩:=TreeS.openH h
 unfold qfs_A qfs_G
 refine at_raw hh hi hlv (bsel_t rfl ?_)
 refine ld_I (i:=1) hh rfl (cell_ix (f:=0) hi (by omega) rfl) (ld_nd hh hi (by omega) rfl (ld_nd hh hi (by omega) rfl (ld_nd hh hi (by omega) rfl ?_)))
 rw [add_at]
 exact ld_B (i:=1) hh rfl (cell_ix (f:=4) hi (by omega) rfl) hk
theorem qNew_spec {q:Int} {Q:Option Addr→Int→AH→Prop} (h:Own l A) (hn:q<0∨q > 1048576→Q none 1 A) (hk:0≤q∧q≤1048576→∀ t A',Own (TreeS t [⟨-1,q,0,0,true⟩]::l) A'→Q (some ⟨t,0,none⟩) 0 A'):qat_A q Q A:=by
 unfold qat_A
 refine bsel_in (fun c=>hn (.inl (by simpa using c))) fun c=>bsel_in (fun d=>hn (.inr (by simpa using d))) fun d=>?_
 have c:0≤q:=by simpa using c
 have d:q≤1048576:=by simpa using d
 show newA A (.cells (ndCells [⟨-1,q,0,0,true⟩]).toArray _) _
 refine new_C h fun b1 A1 h1=>?_
 show newA A1 (.cells [Value.slice (some ⟨b1,0,none⟩) 1 1].toArray _) _
 refine new_C h1 fun b2 A2 h2=>hk ⟨c,d⟩ b2 A2 (TreeS.closeH (rest:=[]) (by simp) (fun x hx=>?_) h2)
 simp at hx;subst hx
 exact ⟨Int.le_refl _,Int.le_refl _,by simp;omega,d⟩
end Go.Dn
/- Frames that are taken and given back, and who is charged. -/
namespace Go.Dn
variable {A:AH} {l R:List SP} {r b t i:Nat} {fr n:Int} {hs:List (Int × Int)} {W:Int→Int→Int} {F G:Int→Prop} {ns:List Nd} {nd:Nd}
theorem Own.rot3 {P0 P1 P2:SP} (h:Own (P0::P1::P2::R) A):Own (P2::P0::P1::R) A:=
 h.perm ((List.Perm.cons _ (List.Perm.swap _ _ _)).trans (List.Perm.swap _ _ _))
theorem Own.unrot3 {P0 P1 P2:SP} (h:Own (P2::P0::P1::R) A):Own (P0::P1::P2::R) A:=
 h.perm ((List.Perm.swap _ _ _).trans (List.Perm.cons _ (List.Perm.swap _ _ _)))
def useN (ns:List Nd) (i:Nat) (nd:Nd) (x:Int):List Nd:=ns.set i { nd with use:=x }
theorem useN_back (hi:ns[i]? = some nd) (x:Int):useN (useN ns i nd x) i { nd with use:=x } nd.use=ns:=by
 unfold useN
 rw [List.set_set]
 apply List.ext_getElem?
 intro j
 rw [List.getElem?_set]
 split
 ·rename_i g
  subst g
  rw [if_pos (List.getElem?_eq_some_iff.1 hi).1,hi]
 ·rfl
theorem useN_at (hi:ns[i]? = some nd) (x:Int):(useN ns i nd x)[i]? = some { nd with use:=x }:=by
 unfold useN
 rw [List.getElem?_set,if_pos rfl,if_pos (List.getElem?_eq_some_iff.1 hi).1]
theorem pTake_spec {Q:Int→Int→AH→Prop} (h:Own (RamW r fr hs W::Bud b F G n::TreeS t ns::R) A) (hi:ns[i]? = some nd) (hlv:nd.live=true) (hF:∀ x,F x→hasF fr hs x=true)
  (hq:nd.quo-nd.use-nd.lent<1→Q 0 8 A) (hm:1≤nd.quo-nd.use-nd.lent→n=0→∀ A',Own (RamW r fr hs W::Bud b F G n::TreeS t ns::R) A'→Q 0 7 A')
  (hk:1≤nd.quo-nd.use-nd.lent→n≠0→∀ f A',F f→Own (RamW r fr hs (zeroW W f)::Bud b (fun x=>F x∧x≠f) (fun x=>G x∨x=f) (n-1)::TreeS t (useN ns i nd (nd.use+1))::R) A'→Q f 0 A') :
  qbg_A (some ⟨r,0,none⟩) (some ⟨b,0,none⟩) (some ⟨t,0,none⟩) i Q A:=by
 unfold qbg_A qbg_G
 refine Charge_head h.rot3 hi hlv (by omega) (fun c=>bsel_t rfl (hq (by omega))) fun c A1 hA1=>bsel_f rfl ?_
 refine Take_head hA1.unrot3.swap (fun n0=>?_) fun n0 f A2 hf hA2=>?_
 ·refine ⟨fun x h12=>h12=A1∧x=7,fun x h12 ⟨e1,e2⟩=>?_,bsel_f rfl ⟨rfl,rfl⟩⟩
  subst e1 e2
  refine Credit_head (nd:={ nd with use:=nd.use+1 }) hA1 (useN_at hi _) hlv (by omega) (by
   obtain ⟨_,_,_,⟨_,h2⟩,_⟩:=TreeS.openH h.rot3
   have:=(h2 nd (List.mem_of_getElem? hi)).use
   simp;omega) fun A3 hA3=>hm (by omega) n0 A3 ?_
  have e:(useN ns i nd (nd.use+1)).set i { par:=nd.par,quo:=nd.quo,use:=nd.use+1-1,lent:=nd.lent,live:=nd.live } = ns:=by
   have:=useN_back hi (nd.use+1)
   unfold useN at this ⊢
   rw [show nd.use+1-1=nd.use by omega]
   exact this
  have hA3:Own (TreeS t ((useN ns i nd (nd.use+1)).set i { par:=nd.par,quo:=nd.quo,use:=nd.use+1-1,lent:=nd.lent,live:=nd.live })::RamW r fr hs W::Bud b F G n::R) A3:=hA3
  rw [e] at hA3
  exact hA3.unrot3
 ·refine ⟨fun _ _=>False,fun _ _ q=>q.elim,bsel_t rfl ?_⟩
  exact Zero_head hA2.swap (hF f hf) fun A3 hA3=>bsel_t rfl (hk (by omega) n0 f A3 hf hA3)
theorem pGive_spec {f:Int} {Q:AH→Prop} (h:Own (RamW r fr hs W::Bud b F G n::TreeS t ns::R) A) (hi:ns[i]? = some nd) (hlv:nd.live=true) (hG:G f) (hu:1≤nd.use)
  (hk:∀ A',Own (RamW r fr hs W::Bud b (fun x=>F x∨x=f) (fun x=>G x∧x≠f) (n+1)::TreeS t (useN ns i nd (nd.use-1))::R) A'→Q A') :
  qbi_A (some ⟨r,0,none⟩) (some ⟨b,0,none⟩) (some ⟨t,0,none⟩) i f Q A:=by
 unfold qbi_A qbi_G
 refine Give_head h.swap hG fun A1 hA1=>?_
 exact Credit_head hA1.swap.rot3 hi hlv (by omega) hu fun A2 hA2=>hk A2 hA2.unrot3
end Go.Dn
/- The kernel's tables. -/
namespace Go.Dn
variable {A:AH} {l R:List SP} {r b t i:Nat} {fr n:Int} {hs:List (Int × Int)} {W:Int→Int→Int} {F G:Int→Prop} {ns:List Nd} {nd:Nd}
theorem Own.unrot4 {P0 P1 P2 P3:SP} (h:Own (P3::P0::P1::P2::R) A):Own (P0::P1::P2::P3::R) A:=
 h.perm ((List.Perm.swap _ _ _).trans (List.Perm.cons _ ((List.Perm.swap _ _ _).trans (List.Perm.cons _ (List.Perm.swap _ _ _)))))
theorem at_slo {b k sz:Nat} {cs:List Value} (hk:k*sz=cs.length) {B:AH} (h:At b cs B):SlO ⟨some ⟨b,0,none⟩,k,k⟩ sz cs B:=
 ⟨⟨hk,Nat.le_refl _⟩,.inr ⟨b,[],rfl,by simp;omega,by simpa using h⟩⟩
def intsV (l:List Int):List Value:=l.map (.int .i64)
theorem intsV_app (a c:List Int):intsV (a++c)=intsV a++intsV c:=List.map_append
theorem useN_use (ns:List Nd) (i:Nat) (nd:Nd) (x y:Int):useN (useN ns i nd x) i { nd with use:=x } y=useN ns i nd y:=by
 unfold useN;rw [List.set_set]
theorem useN_same (hi:ns[i]? = some nd):useN ns i nd nd.use=ns:=by
 unfold useN
 apply List.ext_getElem?
 intro j
 rw [List.getElem?_set]
 split
 ·rename_i g
  subst g
  rw [if_pos (List.getElem?_eq_some_iff.1 hi).1,hi]
 ·rfl
theorem Bud.congr {F' G':Int→Prop} {n':Int} (hF:∀ x,F x↔F' x) (hG:∀ x,G x↔G' x) (hn:n=n') (h:Own (Bud b F G n::R) A):Own (Bud b F' G' n'::R) A:=by
 have e1:F=F':=funext fun x=>propext (hF x)
 have e2:G=G':=funext fun x=>propext (hG x)
 subst e1 e2 hn
 exact h
def taken (r:Nat) (fr:Int) (hs:List (Int × Int)) (W:Int→Int→Int) (b:Nat) (F G:Int→Prop) (n:Int) (t:Nat) (ns:List Nd) (i:Nat) (nd:Nd) (tk:List Int):List SP:=
 [RamW r fr hs W,Bud b (fun x=>F x∧x ∉ tk) (fun x=>G x∨x ∈ tk) (n-tk.length),TreeS t (useN ns i nd (nd.use+tk.length))]
theorem taken_nil (hi:ns[i]? = some nd) (h:Own (RamW r fr hs W::Bud b F G n::TreeS t ns::R) A):Own (taken r fr hs W b F G n t ns i nd []++R) A:=by
 have e:useN ns i nd (nd.use+(([]:List Int).length:Int))=ns:=by
  simp only [List.length_nil]
  rw [show nd.use+((0:Nat):Int)=nd.use by omega]
  exact useN_same hi
 unfold taken
 rw [e]
 exact h.cons fun C hC=>Bud.congr (fun x=>by simp) (fun x=>by simp) (by simp) hC
theorem taken_back (hi:ns[i]? = some nd) (h:Own (taken r fr hs W b F G n t ns i nd []++R) A):Own (RamW r fr hs W::Bud b F G n::TreeS t ns::R) A:=by
 have e:useN ns i nd (nd.use+(([]:List Int).length:Int))=ns:=by
  simp only [List.length_nil]
  rw [show nd.use+((0:Nat):Int)=nd.use by omega]
  exact useN_same hi
 unfold taken at h
 rw [e] at h
 exact h.cons fun C hC=>Bud.congr (fun x=>by simp) (fun x=>by simp) (by simp) hC
theorem tTake_spec {tk:List Int} {Q:Int→Int→AH→Prop} (h:Own (taken r fr hs W b F G n t ns i nd tk++R) A) (hi:ns[i]? = some nd) (hlv:nd.live=true) (hF:∀ x,F x→hasF fr hs x=true)
  (hq:nd.quo-nd.use-nd.lent≤tk.length→Q 0 8 A) (hm:tk.length<nd.quo-nd.use-nd.lent→n=tk.length→∀ A',Own (taken r fr hs W b F G n t ns i nd tk++R) A'→Q 0 7 A')
  (hk:tk.length<nd.quo-nd.use-nd.lent→n≠tk.length→∀ f A',F f→f ∉ tk→Own (taken r fr hs (zeroW W f) b F G n t ns i nd (tk++[f])++R) A'→Q f 0 A') :
  qbg_A (some ⟨r,0,none⟩) (some ⟨b,0,none⟩) (some ⟨t,0,none⟩) i Q A:=by
 refine pTake_spec (nd:={ nd with use:=nd.use+tk.length }) h (useN_at hi _) hlv (fun x hx=>hF x hx.1) (fun c=>hq (by simp at c;omega)) (fun c d A' hA=>hm (by simp at c;omega) (by omega) A' hA) fun c d f A' hf hA=>hk (by simp at c;omega) (by omega) f A' hf.1 hf.2 ?_
 rw [useN_use] at hA
 unfold taken
 rw [show nd.use+((tk++[f]).length:Int)=nd.use+tk.length+1 by simp;omega]
 refine hA.cons fun C hC=>Bud.congr (fun x=>?_) (fun x=>?_) (by simp;omega) hC
 ·simp only [List.mem_append,List.mem_singleton,not_or];exact ⟨fun h=>⟨h.1.1,h.1.2,h.2⟩,fun h=>⟨⟨h.1,h.2.1⟩,h.2.2⟩⟩
 ·simp only [List.mem_append,List.mem_singleton,or_assoc]
theorem tGive_spec {f:Int} {tk:List Int} {Q:AH→Prop} (h:Own (taken r fr hs W b F G n t ns i nd (f::tk)++R) A) (hi:ns[i]? = some nd) (hlv:nd.live=true) (hu:0≤nd.use) (hf:F f) (hnd:(f::tk).Nodup) (hG:¬G f)
  (hk:∀ A',Own (taken r fr hs W b F G n t ns i nd tk++R) A'→Q A'):qbi_A (some ⟨r,0,none⟩) (some ⟨b,0,none⟩) (some ⟨t,0,none⟩) i f Q A:=by
 refine pGive_spec (nd:={ nd with use:=nd.use+(f::tk).length }) h (useN_at hi _) hlv (.inr List.mem_cons_self) (by simp;omega) fun A' hA=>hk A' ?_
 rw [useN_use] at hA
 have hno:=(List.nodup_cons.1 hnd).1
 unfold taken
 rw [show nd.use+(tk.length:Int)=nd.use+((f::tk).length:Int)-1 by simp;omega]
 refine hA.cons fun C hC=>Bud.congr (fun x=>?_) (fun x=>?_) (by simp;omega) hC
 ·simp only [List.mem_cons,not_or]
  constructor
  ·rintro (⟨h1,h2,h3⟩ | h1)
   ·exact ⟨h1,h3⟩
   ·rw [h1];exact ⟨hf,hno⟩
  ·rintro ⟨h1,h2⟩
   by_cases e:x=f
   ·exact .inr e
   ·exact .inl ⟨h1,e,h2⟩
 ·simp only [List.mem_cons]
  constructor
  ·rintro ⟨h1 | h1 | h1,h2⟩
   ·exact .inl h1
   ·exact absurd h1 h2
   ·exact .inr h1
  ·rintro (h1 | h1)
   ·exact ⟨.inl h1,fun e=>hG (e ▸ h1)⟩
   ·exact ⟨.inr (.inr h1),fun e=>hno (e ▸ h1)⟩
def kEnt (f:Int):Int:=packZ true true false false false false false false f
def kBig (f:Int):Int:=packZ true true false false false true true true f
structure KOK (fr:Int) (W0:Int→Int→Int) (top:Int) (ms:List Int) (W:Int→Int→Int):Prop where
 nodup:(top::ms).Nodup
 other:∀ f,f ∉ top::ms→W f=W0 f
 top:∀ q:Nat,q<512→W top q=match ms[q]? with | some m=>kEnt m | none=>0
 mid:∀ (c:Nat) m,ms[c]? = some m→∀ q:Nat,q<512→W m q=if (c:Int)*262144+q*512<fr then kBig (c*262144+q*512) else 0
def needK (fr:Int):Nat:=((fr+262143) / 262144).toNat
theorem setW_ne {W:Int→Int→Int} {t i x f:Int} (h:f≠t):setW W t i x f=W f:=by
 funext q;unfold setW;rw [if_neg (fun g=>h g.1)]
theorem zeroW_ne {W:Int→Int→Int} {t f:Int} (h:f≠t):zeroW W t f=W f:=by
 funext q;unfold zeroW;rw [if_neg h]
theorem reads_slo {s:Sl} {sz:Nat} {cs:List Value}:Reads (SlO s sz cs) s sz cs:=fun B A h u=>reads_slat B A h.look u
theorem KOK.step {W0 W' W3:Int→Int→Int} {top f:Int} {ms:List Int} (hK:KOK fr W0 top ms W') (hf:f ∉ top::ms) (h1:∀ f',f'≠f→W3 f'=setW (zeroW W' f) top ms.length (kEnt f) f')
  (h2:∀ q:Nat,q<512→W3 f q=if (ms.length:Int)*262144+q*512<fr then kBig ((ms.length:Int)*262144+q*512) else 0):KOK fr W0 top (ms++[f]) W3:=by
 have hft:top≠f:=fun e=>hf (by simp [e])
 have hfm:∀ m ∈ ms,m≠f∧m≠top:=fun m hm=>⟨fun e=>hf (by rw [←e];exact List.mem_cons_of_mem _ hm),fun e=>(List.nodup_cons.1 hK.nodup).1 (e ▸ hm)⟩
 refine ⟨?_,fun g hg=>?_,fun q hq=>?_,fun c m hm q hq=>?_⟩
 ·show ((top::ms)++[f]).Nodup
  exact List.nodup_append.2 ⟨hK.nodup,by simp,fun x hx y hy=>by simp at hy;subst hy;exact fun e=>hf (e ▸ hx)⟩
 ·simp only [List.mem_cons,List.mem_append,List.not_mem_nil,or_false,not_or] at hg
  rw [h1 g hg.2.2,setW_ne hg.1,zeroW_ne hg.2.2]
  exact hK.other g (by simp [hg.1,hg.2.1])
 ·rw [h1 top hft]
  unfold setW
  by_cases e:q=ms.length
  ·rw [if_pos ⟨rfl,by omega⟩,List.getElem?_append_right (by omega),e]
   simp
  ·rw [if_neg (by omega),zeroW_ne hft,hK.top q hq]
   by_cases g:q<ms.length
   ·rw [List.getElem?_append_left g]
   ·rw [List.getElem?_eq_none (by omega),List.getElem?_eq_none (by simp;omega)]
 ·by_cases g:c<ms.length
  ·rw [List.getElem?_append_left g] at hm
   obtain ⟨g1,g2⟩:=hfm m (List.mem_of_getElem? hm)
   rw [h1 m g1,setW_ne g2,zeroW_ne g1]
   exact hK.mid c m hm q hq
  ·have:c=ms.length:=by
    have:=(List.getElem?_eq_some_iff.1 hm).1
    simp at this;omega
   subst this
   rw [List.getElem?_append_right (by omega)] at hm
   simp at hm
   subst hm
   exact h2 q hq
theorem fdiv18 (j:Nat):Int.fdiv ((j:Int)*262144) (2 ^ (18:Nat))=j:=by rw [shr_eq];omega
theorem big_at {j q:Nat} (hj:j<4) (hq:q<512):IntKind.wrap .i64 ((j:Int)*262144+IntKind.wrap .i64 ((q:Int)*2 ^ (9:Nat)))=(j:Int)*262144+q*512:=by
 have e:((q:Int)*2 ^ (9:Nat))=q*512:=rfl
 rw [e,w64 (n:=(q:Int)*512) (by omega) (by omega),w64 (by omega) (by omega)]
set_option maxRecDepth 100000 in
set_option maxHeartbeats 2000000 in
theorem Kernel_spec {Q:Int→Int→AH→Prop} (h:Own (RamW r fr hs W::Bud b F G n::TreeS t ns::R) A) (hi:ns[i]? = some nd) (hlv:nd.live=true) (hF:∀ x,F x→hasF fr hs x=true) (hf1:1≤fr)
  (hbad:∀ e W' A',(e=8∧nd.quo-nd.use-nd.lent<1+needK fr∧nd.quo-nd.use-nd.lent≤n∨e=7∧n<1+needK fr∧n<nd.quo-nd.use-nd.lent)→(∀ f,¬F f→W' f=W f)→
   Own (RamW r fr hs W'::Bud b F G n::TreeS t ns::R) A'→Q 0 e A')
  (hk:1+needK fr≤nd.quo-nd.use-nd.lent→1+needK fr≤n→∀ top ms W' A',ms.length=needK fr→(∀ x ∈ top::ms,F x)→KOK fr W top ms W'→Own (taken r fr hs W' b F G n t ns i nd (top::ms)++R) A'→Q top 0 A') :
  qbr_A (some ⟨r,0,none⟩) (some ⟨b,0,none⟩) (some ⟨t,0,none⟩) i Q A:=by
 have hRam:RamOK fr hs:=(RamW.openH h).choose_spec.1.1
 have hfr:=hRam.hi
 obtain ⟨mb0,g0,st0,gl0,hB0,hG0,_,_⟩:=Bud.openH h.swap
 have hn0:=hB0.nonneg
 have hFG:∀ x,F x→¬G x:=fun x hx hg=>(hG0.apart x hg).1 hx
 have hnd:nd.OK:=by
  obtain ⟨_,_,_,⟨_,h2⟩,_⟩:=TreeS.openH h.rot3
  exact h2 nd (List.mem_of_getElem? hi)
 have hneed:((needK fr:Nat):Int)=(fr+262143) / 262144:=by unfold needK;omega
 unfold qbr_A qbr_G
 refine tTake_spec (taken_nil hi h) hi hlv hF (fun c=>bsel_t rfl ?_) (fun c d A1 hA1=>bsel_t rfl ?_) fun c d top A1 hFt _ hA1=>bsel_f rfl ?_
 ·have c:nd.quo-nd.use-nd.lent≤0:=by simpa using c
  exact hbad 8 W A (.inl ⟨rfl,by omega,by omega⟩) (fun _ _=>rfl) h
 ·have c:0<nd.quo-nd.use-nd.lent:=by simpa using c
  have d:n=0:=by simpa using d
  exact hbad 7 W A1 (.inr ⟨rfl,by omega,by omega⟩) (fun _ _=>rfl) (taken_back hi hA1)
 show newA A1 (.cells (intsV [top]).toArray _) _
 refine new_C hA1 fun b4 A2 hA2=>?_
 refine ⟨fun s x m h'=>∃ (ms:List Int) (W':Int→Int→Int),x=(ms.length:Int)*262144∧ms.length≤needK fr∧needK fr-ms.length=m∧KOK fr W top ms W'∧(∀ x ∈ top::ms,F x)∧s.len=ms.length+1∧s.a≠none∧((top::ms).length:Int)≤nd.quo-nd.use-nd.lent∧((top::ms).length:Int)≤n∧
  Own (taken r fr hs W' b F G n t ns i nd (top::ms)++SlO s 1 (intsV (top::ms))::R) h',⟨_,[],zeroW W top,by simp,by simp,rfl,⟨by simp,fun f hf=>zeroW_ne (by simpa using hf),fun q _=>by simp [zeroW],fun c m hm=>by simp at hm⟩,fun x hx=>?_,rfl,by simp,?_,?_,?_⟩,?_⟩
 ·simp at hx;rw [hx];exact hFt
 ·simp at c ⊢;omega
 ·simp at c d ⊢;omega
 ·have hA2:Own (At b4 (intsV [top])::(taken r fr hs (zeroW W top) b F G n t ns i nd [top]++R)) A2:=hA2
  exact (hA2.imp fun B hB=>at_slo (k:=1) (sz:=1) rfl hB).unrot4
 intro s x m A3 ⟨ms,W',i1,i2,i3,hK,i4,i5,i5b,i6,i7,hA3⟩
 subst i1 i3
 refine Frames_head hA3 ?_
 refine bsel_in (fun cc=>?_) fun cc=>?_
 rotate_left
 ·have cc:¬ ((ms.length:Int)*262144<fr):=by simpa using cc
  have e:ms.length=needK fr:=by omega
  refine hk (by simp at i6;omega) (by simp at i7;omega) top ms W' A3 e i4 hK ?_
  exact hA3.sub (List.Sublist.append_left (List.sublist_cons_self _ _) _)
 have cc:(ms.length:Int)*262144<fr:=by simpa using cc
 have hj4:ms.length<4:=by omega
 have giveback:∀ (e:Int) A4,(e=8∧nd.quo-nd.use-nd.lent<1+needK fr∧nd.quo-nd.use-nd.lent≤n∨e=7∧n<1+needK fr∧n<nd.quo-nd.use-nd.lent)→Own (taken r fr hs W' b F G n t ns i nd (top::ms)++SlO s 1 (intsV (top::ms))::R) A4→
   ∃ I17:Int→Nat→AH→Prop,(∃ m18,I17 (0:Int) m18 A4)∧∀ x21:Int,∀ m18 h20,I17 x21 m18 h20→
    (bsel (decide (x21<(Int.ofNat s.len))) (onSome s.a fun a22=>(inB x21 s.len (aI .i64 (Addr.add a22 (Int.toNat x21*1)) h20 fun n23=>
     (qbi_A (some ⟨r,0,none⟩) (some ⟨b,0,none⟩) (some ⟨t,0,none⟩) i n23 (fun h24=>(∃ m19,m19<m18∧I17 (IntKind.wrap .i64 (x21+(1:Int))) m19 h24)) h20)))) (Q (0:Int) e h20)):=by
  intro e A4 he hA4
  refine ⟨fun x m h'=>∃ c:Nat,x=c∧c≤ms.length+1∧ms.length+1-c=m∧Own (taken r fr hs W' b F G n t ns i nd ((top::ms).drop c)++SlO s 1 (intsV (top::ms))::R) h',⟨_,0,rfl,by omega,rfl,hA4⟩,?_⟩
  intro x m A5 ⟨c,e1,e2,e3,hA5⟩
  subst e1 e3
  refine bsel_in (fun d=>?_) fun d=>?_
  ·have d:c<(top::ms).length:=by simp [i5] at d ⊢;omega
   obtain ⟨f,hf⟩:∃ f,(top::ms)[c]? = some f:=⟨(top::ms)[c],by simp [d]⟩
   have hd:(top::ms).drop c=f::(top::ms).drop (c+1):=by
    rw [List.drop_eq_getElem_cons d]
    have:=(List.getElem?_eq_some_iff.1 hf).2
    rw [this]
   rw [hd] at hA5
   obtain ⟨bb,o,q1,q2⟩:=rd_cell (i:=3) (P:=SlO s 1 (intsV (top::ms))) hA5 rfl reads_slo (j:=c) (v:=.int .i64 f) (by simp only [intsV,List.getElem?_map,hf];rfl)
   rw [q1]
   refine inB_in (by omega) (by simp only [List.length_cons] at d;omega) ⟨f,by rw [add_at];simpa using q2,?_⟩
   have hfm:f ∈ top::ms:=List.mem_of_getElem? hf
   refine tGive_spec hA5 hi hlv hnd.use (i4 f hfm) (by rw [←hd];exact hK.nodup.sublist (List.drop_sublist _ _)) (hFG f (i4 f hfm)) fun A6 hA6=>?_
   have d2:c<ms.length+1:=by simpa using d
   exact ⟨ms.length+1-(c+1),by omega,c+1,by rw [w64]<;>omega,by omega,rfl,hA6⟩
  ·have d:c=(top::ms).length:=by simp [i5] at d ⊢;omega
   rw [d,List.drop_length] at hA5
   refine hbad e W' A5 he (fun f hf=>hK.other f fun hm=>hf (i4 f hm)) ?_
   have:=taken_back hi hA5
   exact this.sub (List.Sublist.cons_cons _ (List.Sublist.cons_cons _ (List.Sublist.cons_cons _ (List.sublist_cons_self _ _))))
 have hlen2:(((top::ms).length:Nat):Int)=ms.length+1:=by simp
 refine tTake_spec hA3 hi hlv hF (fun c2=>bsel_t rfl (giveback 8 A3 (.inl ⟨rfl,by omega,by omega⟩) hA3)) (fun c2 d2 A4 hA4=>bsel_t rfl (giveback 7 A4 (.inr ⟨rfl,by omega,by omega⟩) hA4)) fun c2 d2 f A4 hFf hfn hA4=>bsel_f rfl ?_
 show newA A4 (.cells (intsV [f]).toArray _) _
 refine new_C hA4 fun b25 A5 hA5=>?_
 have hA5:Own (SlAt ⟨some ⟨b25,0,none⟩,1,1⟩ 1 (intsV [f])::(taken r fr hs (zeroW W' f) b F G n t ns i nd ((top::ms)++[f])++SlO s 1 (intsV (top::ms))::R)) A5:=hA5.imp fun B hB=>(at_slo (k:=1) (sz:=1) rfl hB).look
 have hA5:Own (SlO s 1 (intsV (top::ms))::SlAt ⟨some ⟨b25,0,none⟩,1,1⟩ 1 (intsV [f])::(taken r fr hs (zeroW W' f) b F G n t ns i nd ((top::ms)++[f])++R)) A5:=hA5.pick 4 rfl
 refine ap_head (i:=0) hA5 rfl (fun q=>by cases q) (fun q=>absurd q i5b) rfl (fun v hv=>?_) ⟨by simp only [i5];omega,by simp only [i5];omega⟩ fun s' A6 j1 j2 hA6=>?_
 ·simp [intsV] at hv;subst hv;rfl
 rw [←intsV_app] at hA6
 have hA6:Own (RamW r fr hs (zeroW W' f)::Bud b (fun x=>F x∧x ∉ (top::ms)++[f]) (fun x=>G x∨x ∈ (top::ms)++[f]) (n-(((top::ms)++[f]).length:Int))::TreeS t (useN ns i nd (nd.use+(((top::ms)++[f]).length:Int)))::SlO s' 1 (intsV ((top::ms)++[f]))::R) A6:=
  Own.unrot4 (hA6.sub (List.Sublist.cons_cons _ (List.sublist_cons_self _ _)))
 rw [fdiv18]
 have hfr2:=has_range (hF f hFf) hfr
 have hft:f≠top:=fun e=>hfn (by rw [e];exact List.mem_cons_self)
 refine put_head hA6 (hF top hFt) ⟨by omega,by omega⟩ ⟨hfr2.1,by omega⟩ fun A7 hA7=>?_
 have fin:∀ W3 A9,(∀ f',f'≠f→W3 f'=setW (zeroW W' f) top ms.length (kEnt f) f')→(∀ q:Nat,q<512→W3 f q=if (ms.length:Int)*262144+q*512<fr then kBig ((ms.length:Int)*262144+q*512) else 0)→
   Own (taken r fr hs W3 b F G n t ns i nd ((top::ms)++[f])++SlO s' 1 (intsV ((top::ms)++[f]))::R) A9→
   ∃ m8,m8<needK fr-ms.length∧∃ (ms':List Int) (W':Int→Int→Int),IntKind.wrap .i64 ((ms.length:Int)*262144+262144)=(ms'.length:Int)*262144∧ms'.length≤needK fr∧needK fr-ms'.length=m8∧KOK fr W top ms' W'∧(∀ x ∈ top::ms',F x)∧s'.len=ms'.length+1∧s'.a≠none∧((top::ms').length:Int)≤nd.quo-nd.use-nd.lent∧((top::ms').length:Int)≤n∧
    Own (taken r fr hs W' b F G n t ns i nd (top::ms')++SlO s' 1 (intsV (top::ms'))::R) A9:=by
  intro W3 A9 g1 g2 hA9
  have hl2:(ms++[f]).length=ms.length+1:=by simp
  refine ⟨needK fr-(ms.length+1),by omega,ms++[f],W3,by rw [hl2,w64]<;>omega,by omega,by omega,hK.step hfn g1 g2,fun x hx=>?_,by rw [hl2];simp only [j1,i5],fun q=>by have:=j2 q;simp [intsV] at this,by simp only [List.length_cons,hl2];omega,by simp only [List.length_cons,hl2];omega,hA9⟩
  rcases List.mem_cons.1 hx with rfl | hx
  ·exact hFt
  ·rcases List.mem_append.1 hx with hx | hx
   ·exact i4 x (List.mem_cons_of_mem _ hx)
   ·simp at hx;subst hx;exact hFf
 refine ⟨fun x m h'=>∃ (q:Nat) (W3:Int→Int→Int),x=q∧q≤512∧512-q=m∧(∀ f',f'≠f→W3 f'=setW (zeroW W' f) top ms.length (kEnt f) f')∧(∀ q':Nat,q'<512→W3 f q'=if q'<q∧(ms.length:Int)*262144+q'*512<fr then kBig ((ms.length:Int)*262144+q'*512) else 0)∧
  Own (taken r fr hs W3 b F G n t ns i nd ((top::ms)++[f])++SlO s' 1 (intsV ((top::ms)++[f]))::R) h',⟨_,0,_,rfl,by omega,rfl,fun _ _=>rfl,fun q' _=>?_,hA7⟩,?_⟩
 ·rw [if_neg (by omega),setW_ne hft]
  unfold zeroW
  rw [if_pos rfl]
 intro x m A8 ⟨q,W3,k1,k2,k3,k4,k5,hA8⟩
 subst k1 k3
 apply bsel_in
 rotate_left
 ·intro d3
  have d3:q=512:=by simp at d3;omega
  refine fin W3 A8 k4 (fun q' hq'=>?_) hA8
  rw [k5 q' hq']
  by_cases g:(ms.length:Int)*262144+q'*512<fr
  ·rw [if_pos g,if_pos ⟨by omega,g⟩]
  ·rw [if_neg g,if_neg (fun z=>g z.2)]
 intro d3
 have d3:q<512:=by simp at d3;omega
 refine Frames_head hA8 ?_
 rw [big_at hj4 d3]
 refine bsel_in (fun d4=>?_) fun d4=>?_
 rotate_left
 ·have d4:¬ ((ms.length:Int)*262144+q*512<fr):=by simpa using d4
  refine fin W3 A8 k4 (fun q' hq'=>?_) hA8
  rw [k5 q' hq']
  by_cases g:(ms.length:Int)*262144+q'*512<fr
  ·rw [if_pos g,if_pos ⟨by omega,g⟩]
  ·rw [if_neg g,if_neg (fun z=>g z.2)]
 have d4:(ms.length:Int)*262144+q*512<fr:=by simpa using d4
 refine put_head hA8 (hF f hFf) ⟨by omega,by omega⟩ ⟨by omega,by omega⟩ fun A9 hA9=>?_
 refine ⟨512-(q+1),by omega,q+1,_,by rw [w64]<;>omega,by omega,rfl,fun f' hf'=>?_,fun q' hq'=>?_,hA9⟩
 ·rw [setW_ne hf'];exact k4 f' hf'
 ·unfold setW
  by_cases g:q'=q
  ·subst g
   rw [if_pos ⟨rfl,rfl⟩,if_pos ⟨by omega,d4⟩]
   rfl
  ·rw [if_neg (by omega),k5 q' hq']
   by_cases g2:(ms.length:Int)*262144+q'*512<fr
   ·by_cases g3:q'<q
    ·rw [if_pos ⟨g3,g2⟩,if_pos ⟨by omega,g2⟩]
    ·rw [if_neg (by omega),if_neg (by omega)]
   ·rw [if_neg (fun z=>g2 z.2),if_neg (fun z=>g2 z.2)]
end Go.Dn
/- Tables in a tree: what their words say; what each step makes of them. -/
namespace Go.Dn
structure Lf where
 frame:Int
 w:Bool
 u:Bool
 x:Bool
def entW (g:Int):Int:=packZ true true true false false false false false g
def leafW (l:Lf):Int:=packZ true l.w l.u false false false false (!l.x) l.frame
def wordL (o:Option Lf):Int:=match o with | some l=>leafW l | none=>0
def EntIs (w:Int) (o:Option Int):Prop:=match o with | some g=>∃ a d,w=packZ true true true a d false false false g | none=>w=0
def LeafIs (w:Int) (o:Option Lf):Prop:=match o with | some l=>∃ a d,w=packZ true l.w l.u a d false false (!l.x) l.frame | none=>w=0
theorem leaf_is (o:Option Lf):LeafIs (wordL o) o:=by cases o;exact rfl;exact ⟨false,false,rfl⟩
abbrev Tab:=Nat→Int→Option Int
structure TabW (W:Int→Int→Int) (root:Int) (tab:Tab) (lf:Int→Option Lf):Prop where
 root:∀ q f,tab 0 q=some f↔q=0∧f=root
 deep:∀ k q,3<k→tab k q=none
 words:∀ k q f,k<3→tab k q=some f→∀ j,0≤j→j<512→(k=0→j<256)→EntIs (W f j) (tab (k+1) (q*512+j))
 leaves:∀ q f,tab 3 q=some f→∀ j,0≤j→j<512→LeafIs (W f j) (lf (q*512+j))
 up:∀ k q f,tab (k+1) q=some f→∃ g,tab k (q / 512)=some g∧0≤q∧(k=0→q<256)
 upL:∀ p l,lf p=some l→∃ g,tab 3 (p / 512)=some g∧0≤p
 apart:∀ k q k' q' f,tab k q=some f→tab k' q'=some f→k=k'∧q=q'
 range:∀ k q f,tab k q=some f→0≤f∧f<1048576
 rangeL:∀ p l,lf p=some l→0≤l.frame∧l.frame<1048576
def setT (tab:Tab) (k:Nat) (q:Int) (o:Option Int):Tab:=fun k' q'=>if k'=k∧q'=q then o else tab k' q'
def setL (lf:Int→Option Lf) (p:Int) (o:Option Lf):Int→Option Lf:=fun p'=>if p'=p then o else lf p'
variable {W:Int→Int→Int} {root:Int} {tab:Tab} {lf:Int→Option Lf}
theorem TabW.congr {W':Int→Int→Int} (h:TabW W root tab lf) (hW:∀ k q f,tab k q=some f→W' f=W f):TabW W' root tab lf:=
 ⟨h.root,h.deep,fun k q f hk hf j h0 h1 h2=>by rw [hW k q f hf];exact h.words k q f hk hf j h0 h1 h2,fun q f hf j h0 h1=>by rw [hW 3 q f hf];exact h.leaves q f hf j h0 h1,h.up,h.upL,h.apart,h.range,h.rangeL⟩
theorem TabW.leaf (h:TabW W root tab lf) {p f:Int} {o:Option Lf} (hf:tab 3 (p / 512)=some f) (hp:0≤p) (ho:∀ l,o=some l→0≤l.frame∧l.frame<1048576) :
  TabW (setW W f (p % 512) (wordL o)) root tab (setL lf p o):=by
 refine ⟨h.root,h.deep,fun k q g hk hg j h0 h1 h2=>?_,fun q g hg j h0 h1=>?_,h.up,fun p' l hl=>?_,h.apart,h.range,fun p' l hl=>?_⟩
 ·have hne:g≠f:=fun e=>by
   subst e
   have:=(h.apart k q 3 _ _ hg hf).1
   omega
  rw [setW_ne hne]
  exact h.words k q g hk hg j h0 h1 h2
 ·by_cases e:g=f
  ·subst e
   obtain ⟨_,e2⟩:=h.apart 3 q 3 _ _ hg hf
   unfold setW setL
   by_cases e3:j=p % 512
   ·rw [if_pos ⟨rfl,e3⟩,if_pos (by omega)];exact leaf_is o
   ·rw [if_neg (fun z=>e3 z.2),if_neg (by omega)]
    exact h.leaves q g hg j h0 h1
  ·rw [setW_ne e]
   have:q*512+j≠p:=fun e2=>by
    have:q=p / 512:=by omega
    rw [this] at hg
    rw [hg] at hf
    cases hf
    exact e rfl
   unfold setL
   rw [if_neg this]
   exact h.leaves q g hg j h0 h1
 ·unfold setL at hl
  split at hl
  ·rename_i e
   rw [e]
   exact ⟨f,hf,hp⟩
  ·exact h.upL p' l hl
 ·unfold setL at hl
  split at hl
  ·exact ho l hl
  ·exact h.rangeL p' l hl
theorem TabW.link (h:TabW W root tab lf) {k:Nat} {q j f g:Int} (hk:k<3) (hf:tab k q=some f) (hq:0≤q) (hj:0≤j∧j<512) (h0:k=0→j<256) (hn:tab (k+1) (q*512+j)=none)
  (hg:∀ k' q',tab k' q'≠some g) (hz:∀ i,0≤i→i<512→W g i=0) (hr:0≤g∧g<1048576) :
  TabW (setW W f j (entW g)) root (setT tab (k+1) (q*512+j) (some g)) lf:=by
 have hfg:f≠g:=fun e=>hg k q (by rw [hf,e])
 have old:∀ k' q' f',tab k' q'=some f'→setT tab (k+1) (q*512+j) (some g) k' q'=some f':=by
  intro k' q' f' h1
  unfold setT
  split
  ·rename_i e
   obtain ⟨rfl,rfl⟩:=e
   rw [hn] at h1;cases h1
  ·exact h1
 have cases':∀ k' q' f',setT tab (k+1) (q*512+j) (some g) k' q'=some f'→(k'=k+1∧q'=q*512+j∧f'=g)∨tab k' q'=some f':=by
  intro k' q' f' h1
  unfold setT at h1
  split at h1
  ·rename_i e
   cases h1
   exact .inl ⟨e.1,e.2,rfl⟩
  ·exact .inr h1
 refine ⟨fun q' f'=>?_,fun k' q' hk'=>?_,fun k' q' f' hk' hf' i i0 i1 i2=>?_,fun q' f' hf' i i0 i1=>?_,fun k' q' f' hf'=>?_,fun p l hl=>?_,fun k1 q1 k2 q2 f' h1 h2=>?_,fun k' q' f' hf'=>?_,h.rangeL⟩
 ·unfold setT
  rw [if_neg (fun e=>by omega)]
  exact h.root q' f'
 ·unfold setT
  rw [if_neg (fun e=>by omega)]
  exact h.deep k' q' hk'
 ·rcases cases' _ _ _ hf' with ⟨rfl,rfl,rfl⟩ | hf'
  ·rw [setW_ne (Ne.symm hfg),hz i i0 i1]
   have:tab (k+1+1) ((q*512+j)*512+i)=none:=by
    cases e:tab (k+1+1) ((q*512+j)*512+i) with
    | none=>rfl
    | some z=>
     obtain ⟨g',h1,_⟩:=h.up _ _ _ e
     rw [show ((q*512+j)*512+i) / 512=q*512+j by omega,hn] at h1
     cases h1
   unfold setT
   rw [if_neg (fun e=>by omega),this];exact rfl
  ·by_cases e:f'=f
   ·obtain ⟨ek,eq⟩:=h.apart _ _ _ _ _ hf' (by rw [e];exact hf)
    rw [e,ek,eq]
    unfold setW setT
    by_cases e3:i=j
    ·rw [if_pos ⟨rfl,e3⟩,if_pos ⟨rfl,by rw [e3]⟩];exact ⟨false,false,rfl⟩
    ·rw [if_neg (fun z=>e3 z.2),if_neg (fun z=>e3 (by omega))]
     exact h.words k q f hk hf i i0 i1 (fun z=>i2 (by omega))
   ·rw [setW_ne e]
    have:¬(k'+1=k+1∧q'*512+i=q*512+j):=fun z=>by
     have e1:k'=k:=by omega
     have e2:q'=q:=by omega
     rw [e1,e2,hf] at hf'
     cases hf'
     exact e rfl
    unfold setT
    rw [if_neg this]
    exact h.words _ _ _ hk' hf' i i0 i1 i2
 ·rcases cases' _ _ _ hf' with ⟨e1,rfl,rfl⟩ | hf'
  ·rw [setW_ne (Ne.symm hfg),hz i i0 i1]
   have:lf ((q*512+j)*512+i)=none:=by
    cases e:lf ((q*512+j)*512+i) with
    | none=>rfl
    | some z=>
     obtain ⟨g',h1,_⟩:=h.upL _ _ e
     rw [show ((q*512+j)*512+i) / 512=q*512+j by omega,e1,hn] at h1
     cases h1
   rw [this];exact rfl
  ·have hne:f'≠f:=fun e=>by
    subst e
    have:=(h.apart _ _ _ _ _ hf' hf).1
    omega
   rw [setW_ne hne]
   exact h.leaves q' f' hf' i i0 i1
 ·rcases cases' _ _ _ hf' with ⟨e1,rfl,rfl⟩ | hf'
  ·have e1:k'=k:=by omega
   subst e1
   exact ⟨f,by rw [show (q*512+j) / 512=q by omega];exact old _ _ _ hf,by omega,fun e=>by
    have:=(h.root q f).1 (by rw [←e];exact hf)
    have:=h0 e
    omega⟩
  ·obtain ⟨g',h1,h2⟩:=h.up _ _ _ hf'
   exact ⟨g',old _ _ _ h1,h2⟩
 ·obtain ⟨g',h1,h2⟩:=h.upL p l hl
  exact ⟨g',old _ _ _ h1,h2⟩
 ·rcases cases' _ _ _ h1 with ⟨a1,a2,a3⟩ | h1
  ·rcases cases' _ _ _ h2 with ⟨b1,b2,b3⟩ | h2
   ·exact ⟨a1.trans b1.symm,a2.trans b2.symm⟩
   ·exact absurd (by rw [←a3];exact h2) (hg k2 q2)
  ·rcases cases' _ _ _ h2 with ⟨b1,b2,b3⟩ | h2
   ·exact absurd (by rw [←b3];exact h1) (hg k1 q1)
   ·exact h.apart _ _ _ _ _ h1 h2
 ·rcases cases' _ _ _ hf' with ⟨e1,e2,e3⟩ | hf'
  ·rw [e3];exact hr
  ·exact h.range _ _ _ hf'
theorem entI_bits {w g:Int} (h:EntIs w (some g)) (hg:0≤g∧g<1048576):bitZ w 0=true∧frameZ w=g∧w≠0∧U64 w:=by
 obtain ⟨a,d,rfl⟩:=h
 obtain ⟨h0,_,_,_,_,_,_,_,h8,h9⟩:=pack_bits true true true a d false false false hg
 refine ⟨h0,h8,fun e=>?_,h9⟩
 rw [e] at h0
 cases h0
theorem leafI_bits {w:Int} {l:Lf} (h:LeafIs w (some l)) (hg:0≤l.frame∧l.frame<1048576):bitZ w 0=true∧bitZ w 1=l.w∧bitZ w 2=l.u∧bitZ w 63 = !l.x∧frameZ w=l.frame∧w≠0∧U64 w:=by
 obtain ⟨a,d,rfl⟩:=h
 obtain ⟨h0,h1,h2,_,_,_,_,h7,h8,h9⟩:=pack_bits true l.w l.u a d false false (!l.x) hg
 refine ⟨h0,h1,h2,h7,h8,fun e=>?_,h9⟩
 rw [e] at h0
 cases h0
end Go.Dn
