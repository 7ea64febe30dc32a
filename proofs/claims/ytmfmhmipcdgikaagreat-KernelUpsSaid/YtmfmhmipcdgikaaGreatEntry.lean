/- What the proof stands on: Ram, Pte, RamAt, Slices, Walk, Entry. -/
import Derived.Test.YtmfmhmipcdgikaaGreatG
import Derived.Test.YtmfmhmipcdgikaaGreatDnN
/- The memory's contracts. -/
namespace Go.Dn
def hasF (fr:Int) (hs:List (Int × Int)) (f:Int):Bool:=decide (0≤f)&&decide (f<fr)&&hs.all fun p=>!(decide (p.1≤f)&&decide (f<p.2))
def holeCells (hs:List (Int × Int)):List Value:=hs.flatMap fun p=>[.int .i64 p.1,.int .i64 p.2]
theorem holeCells_at:∀ {hs:List (Int × Int)} {j:Nat} {p:Int × Int},hs[j]? = some p→(holeCells hs)[j*2]? = some (.int .i64 p.1)∧(holeCells hs)[j*2+1]? = some (.int .i64 p.2)
 | [],_,_,h=>by simp at h
 | q::hs,0,p,h=>by simp at h;subst h;exact ⟨rfl,rfl⟩
 | q::hs,j+1,p,h=>by
  have:=holeCells_at (hs:=hs) (j:=j) (p:=p) (by simpa using h)
  rw [show (j+1)*2=j*2+2 by omega,show j*2+2+1=j*2+1+2 by omega]
  exact this
theorem holeCells_len (hs:List (Int × Int)):(holeCells hs).length=hs.length*2:=by
 induction hs with
 | nil=>rfl
 | cons p hs ih=>show (holeCells hs).length+2=_;rw [ih];simp;omega
def pageCells (M:Int→Int) (f:Int):List Value:=(List.range 4096).map fun (i:Nat)=>.int .u8 (M (f*4096+i))
abbrev Pm:=List (Int × Nat)
def pmMap (pm:Pm):List (Int × Value):=pm.map fun p=>(p.1,.pointer (some ⟨p.2,0,none⟩))
def PagesAt (M:Int→Int) (pm:Pm):List SP:=pm.map fun p=>At p.2 (pageCells M p.1)
structure PmOK (M:Int→Int) (pm:Pm):Prop where
 nodup:(pm.map (·.1)).Nodup
 byte:∀ a,0≤M a∧M a<256
 zero:∀ a,0≤a→a / 4096 ∉ pm.map (·.1)→M a=0
def ramL (r:Nat) (fr:Int) (hs:List (Int × Int)) (s:Sl) (mb:Nat) (M:Int→Int) (pm:Pm):List SP:=
 At r [.int .i64 fr,.slice s.a s.len s.cap,.map (some mb)]::SlAt s 2 (holeCells hs)::MapI mb .i64 (pmMap pm)::PagesAt M pm
def RamS (r:Nat) (fr:Int) (hs:List (Int × Int)) (M:Int→Int):SP:=fun B=>∃ s mb pm,PmOK M pm∧Own (ramL r fr hs s mb M pm) B
variable {A:AH} {l:List SP} {r:Nat} {fr:Int} {hs:List (Int × Int)} {M:Int→Int}
theorem RamS.open {i:Nat} (h:Own l A) (e:l[i]? = some (RamS r fr hs M)):∃ s mb pm,PmOK M pm∧Own (ramL r fr hs s mb M pm) A:=by
 obtain ⟨B,u,s,mb,pm,h1,h2⟩:=h.get e
 exact ⟨s,mb,pm,h1,h2.mono u⟩
theorem Has_spec {i:Nat} {f:Int} {Q:Bool→AH→Prop} (h:Own l A) (e:l[i]? = some (RamS r fr hs M)) (hl:hs.length≤64) (hk:Q (hasF fr hs f) A):qbc_A (some ⟨r,0,none⟩) f Q A:=by
 obtain ⟨s,mb,pm,ok,ho⟩:=RamS.open h e
 have hlen:s.len*2=hs.length*2:=by rw [←holeCells_len];exact sl_len (i:=1) ho rfl
 have hlen:s.len=hs.length:=by omega
 unfold qbc_A
 refine bsel_in (fun c=>?_) fun c=>?_
 ·have:hasF fr hs f=false:=by simp at c;simp [hasF];intros;omega
  rw [this] at hk;exact hk
 refine ld_I (i:=0) ho rfl rfl ?_
 refine bsel_in (fun c2=>?_) fun c2=>?_
 ·have:hasF fr hs f=false:=by simp at c2;simp [hasF];intros;omega
  rw [this] at hk;exact hk
 simp at c c2
 show aS (Addr.add ⟨r,0,none⟩ 1) A _
 rw [add_at]
 refine ld_S (i:=0) ho rfl rfl ?_
 refine ⟨fun x m h'=>h'=A∧∃ j:Nat,x=j∧j≤hs.length∧m=hs.length-j∧∀ q:Nat,q<j→∀ p,hs[q]? = some p→¬(p.1≤f∧f<p.2),⟨_,rfl,0,rfl,by omega,rfl,fun q hq=>absurd hq (by omega)⟩,?_⟩
 intro x m h' ⟨e1,j,e2,e3,e4,e5⟩
 subst e1 e2
 refine bsel_in (fun c3=>?_) fun c3=>?_
 ·simp [hlen] at c3
  obtain ⟨p,hp⟩:∃ p,hs[j]? = some p:=⟨hs[j],by simp [c3]⟩
  obtain ⟨h1,h2⟩:=holeCells_at hp
  obtain ⟨b,o,g1,g2⟩:=sl_cell (i:=1) ho rfl h1
  obtain ⟨b',o',g3,g4⟩:=sl_cell (i:=1) ho rfl h2
  rw [g1] at g3
  cases g3
  show onSome s.a _
  rw [g1]
  refine inB_in (by omega) (by simp [hlen];omega) ⟨p.1,?_,p.2,?_,?_⟩
  ·rw [add_at];simpa using g2
  ·rw [add_at,add_at];simpa [Nat.add_assoc] using g4
  have hnext:¬(p.1≤f∧f<p.2)→∃ m7,m7<m∧h'=h'∧∃ j':Nat,IntKind.wrap .i64 ((j:Int)+1)=j'∧j'≤hs.length∧m7=hs.length-j'∧∀ q:Nat,q<j'→∀ p,hs[q]? = some p→¬(p.1≤f∧f<p.2):=by
   intro hn
   refine ⟨hs.length-(j+1),by omega,rfl,j+1,by rw [w64]<;>omega,by omega,rfl,?_⟩
   intro q hq p' hp'
   by_cases hqj:q=j
   ·subst hqj;rw [hp] at hp';cases hp';exact hn
   ·exact e5 q (by omega) p' hp'
  refine bsel_in (fun c4=>?_) fun c4=>hnext (by simp at c4;omega)
  refine bsel_in (fun c5=>?_) fun c5=>hnext (by simp at c5;omega)
  have:hasF fr hs f=false:=by
   simp at c4 c5
   simp only [hasF,Bool.and_eq_false_iff,List.all_eq_false]
   refine .inr ⟨p,List.mem_of_getElem? hp,?_⟩
   simp [c4,c5]
  rw [this] at hk;exact hk
 ·simp [hlen] at c3
  have:hasF fr hs f=true:=by
   simp only [hasF,Bool.and_eq_true,List.all_eq_true]
   refine ⟨⟨by simpa using c,by simpa using c2⟩,fun p hp=>?_⟩
   obtain ⟨q,hq⟩:=List.mem_iff_getElem?.1 hp
   have hlt:=(List.getElem?_eq_some_iff.1 hq).1
   have:=e5 q (by omega) p hq
   simp
   omega
  rw [this] at hk;exact hk
def okA (fr:Int) (hs:List (Int × Int)) (a z:Int):Bool:=decide (a+z≤fr*4096)&&hasF fr hs (a / 4096)&&hasF fr hs ((a+z-1) / 4096)
theorem check_spec {i:Nat} {a z:Int} {Q:Int→AH→Prop} (h:Own l A) (e:l[i]? = some (RamS r fr hs M)) (hl:hs.length≤64) (hf:0≤fr∧fr≤1048576) (hz:z=1∨z=2∨z=4∨z=8)
  (ha:0≤a∧a<18446744073709551616) (hk:Q (if okA fr hs a z then 0 else 2) A):qbn_A (some ⟨r,0,none⟩) a z Q A:=by
 obtain ⟨s,mb,pm,ok,ho⟩:=RamS.open h e
 unfold qbn_A qbn_G
 refine ⟨fun b h'=>b=true∧h'=A,?_,?_⟩
 ·intro b h' ⟨e1,e2⟩
  subst e1 e2
  refine bsel_t rfl ?_
  have hz2:IntKind.wrap .u64 z=z:=wu64 (by omega) (by omega)
  have hlast:IntKind.wrap .u64 (IntKind.wrap .u64 (a+IntKind.wrap .u64 z)-1)=(a+z-1) % 18446744073709551616:=by rw [hz2,wu64m,wu64m];omega
  rw [hlast]
  have hno:¬ (a+z≤fr*4096)→Q 2 h':=fun g=>by
   have:okA fr hs a z=false:=by simp [okA,g]
   rw [this] at hk;exact hk
  refine bsel_in (fun c=>hno ?_) fun c=>?_
  ·simp at c;omega
  simp at c
  have hlt:a+z-1<18446744073709551616:=by omega
  have hm:(a+z-1) % 18446744073709551616=a+z-1:=by omega
  rw [hm]
  refine ld_I (i:=0) ho rfl rfl ?_
  rw [tdiv4096 (by omega),tdiv4096 (by omega),wu64 (n:=(a+z-1) / 4096) (by omega) (by omega),wu64 (n:=a / 4096) (by omega) (by omega),wu64 (n:=fr) (by omega) (by omega),
   w64 (n:=(a+z-1) / 4096) (by omega) (by omega),w64 (n:=a / 4096) (by omega) (by omega)]
  refine bsel_in (fun c2=>hno ?_) fun c2=>?_
  ·simp at c2;omega
  simp at c2
  have hle:a+z≤fr*4096:=by omega
  refine Has_spec h e hl ?_
  refine bsel_in (fun c3=>?_) fun c3=>?_
  ·simp at c3
   have:okA fr hs a z=false:=by simp [okA,c3]
   rw [this] at hk;exact hk
  refine Has_spec h e hl ?_
  refine bsel_in (fun c4=>?_) fun c4=>?_
  ·simp at c4
   have:okA fr hs a z=false:=by simp [okA,c4]
   rw [this] at hk;exact hk
  ·simp at c3 c4
   have:okA fr hs a z=true:=by simp [okA,c3,c4,hle]
   rw [this] at hk;exact hk
 ·rcases hz with rfl | rfl | rfl | rfl<;>simp [bsel]
theorem pm_lookup (pm:Pm) (f:Int):(pmMap pm).lookup f=(pm.lookup f).map fun b=>.pointer (some ⟨b,0,none⟩):=by
 induction pm with
 | nil=>rfl
 | cons p pm ih=>
  show ((p.1,_)::pmMap pm).lookup f=_
  simp only [List.lookup]
  cases h:f==p.1
  ·simp [ih]
  ·simp
theorem lookup_mem {pm:Pm} {f:Int} {b:Nat} (h:pm.lookup f=some b):(f,b) ∈ pm:=by
 induction pm with
 | nil=>simp at h
 | cons p pm ih=>
  simp only [List.lookup] at h
  split at h
  ·rename_i g
   have:=by simpa using g
   subst this
   cases h
   exact List.mem_cons_self
  ·exact List.mem_cons_of_mem _ (ih h)
theorem lookup_none {pm:Pm} {f:Int} (h:pm.lookup f=none):f ∉ pm.map (·.1):=by
 induction pm with
 | nil=>simp
 | cons p pm ih=>
  simp only [List.lookup] at h
  split at h
  ·cases h
  ·rename_i g
   have g2:f≠p.1:=by simpa using g
   simp only [List.map_cons,List.mem_cons,not_or]
   exact ⟨g2,ih h⟩
theorem page_at {M:Int→Int} {f:Int} {j:Nat} (hj:j<4096):(pageCells M f)[j]? = some (.int .u8 (M (f*4096+j))):=by
 simp [pageCells,hj]
theorem page_get {M:Int→Int} {f:Int} {j:Nat}:(pageCells M f)[j]? = if j<4096 then some (.int .u8 (M (f*4096+j))) else none:=by
 by_cases h:j<4096
 ·rw [if_pos h,page_at h]
 ·rw [if_neg h]
  simp [pageCells]
  omega
theorem page_set {M:Int→Int} {f v:Int} {j:Nat} (hj:j<4096):(pageCells M f).set j (.int .u8 v)=pageCells (fun c=>if c=f*4096+j then v else M c) f:=by
 apply List.ext_getElem?
 intro c
 rw [List.getElem?_set,page_get,page_get]
 have hlen:(pageCells M f).length=4096:=by simp [pageCells]
 rw [hlen]
 by_cases g:j=c
 ·subst g
  rw [if_pos rfl,if_pos hj,if_pos hj]
  simp
 ·rw [if_neg g]
  by_cases q:c<4096
  ·rw [if_pos q,if_pos q,if_neg (by omega)]
  ·rw [if_neg q,if_neg q]
theorem page_other {M:Int→Int} {f g v:Int} {j:Nat} (hj:j<4096) (hne:g≠f):pageCells (fun c=>if c=f*4096+j then v else M c) g=pageCells M g:=by
 apply List.ext_getElem?
 intro c
 rw [page_get,page_get]
 by_cases q:c<4096
 ·rw [if_pos q,if_pos q,if_neg (by omega)]
 ·rw [if_neg q,if_neg q]
theorem pages_at {pm:Pm} {f:Int} {b:Nat} (h:(f,b) ∈ pm):∃ i:Nat,pm[i]? = some (f,b)∧(PagesAt M pm)[i]? = some (At b (pageCells M f)):=by
 obtain ⟨i,hi⟩:=List.mem_iff_getElem?.1 h
 exact ⟨i,hi,by simp [PagesAt,hi]⟩
theorem Load_spec {i:Nat} {a:Int} {n:Nat} {Q:Int→Int→AH→Prop} (h:Own l A) (e:l[i]? = some (RamS r fr hs M)) (hl:hs.length≤64) (hf:0≤fr∧fr≤1048576) (hz:n=1∨n=2∨n=4∨n=8)
  (ha:0≤a∧a<18446744073709551616) (hk:Q (if okA fr hs a n then le M a n else 0) (if okA fr hs a n then 0 else 2) A):qdk_A (some ⟨r,0,none⟩) a n Q A:=by
 unfold qdk_A qdk_G
 refine check_spec h e hl hf (by omega) ha ?_
 cases hok:okA fr hs a n with
 | false=>rw [hok] at hk;exact bsel_t rfl hk
 | true=>
  rw [hok] at hk
  refine bsel_f rfl ?_
  obtain ⟨s,mb,pm,ok,ho⟩:=RamS.open h e
  have hle:a+n≤fr*4096:=by simp [okA] at hok;omega
  refine ⟨fun x i m h'=>h'=A∧∃ j:Nat,j≤n∧i=(j:Int)-1∧m=j∧x=le M (a+j) (n-j),⟨n,rfl,n,Nat.le_refl _,by rw [w64]<;>omega,rfl,by simp [le]⟩,?_⟩
  intro x i m h' ⟨e1,j,e2,e3,e4,e5⟩
  subst e1 e3 e4 e5
  refine bsel_in (fun c=>?_) fun c=>?_
  ·have c:0≤(m:Int)-1:=by simpa using c
   obtain ⟨j,rfl⟩:∃ j,m=j+1:=⟨m-1,by omega⟩
   have hj:((j+1:Nat):Int)-1=j:=by omega
   rw [hj]
   have hb:=le_bound ok.byte (n-(j+1)) (a+((j+1:Nat):Int))
   have hb2:(256:Int) ^ (n-(j+1))≤72057594037927936:=by
    have h1:n-(j+1)≤7:=by omega
    have h2:(256:Nat) ^ (n-(j+1))≤256 ^ 7:=Nat.pow_le_pow_right (by omega) h1
    have h3:((256:Nat) ^ (n-(j+1)):Nat)≤(72057594037927936:Nat):=h2
    have h4:(((256:Nat) ^ (n-(j+1)):Nat):Int)≤72057594037927936:=by omega
    simpa using h4
   refine ⟨fun y h''=>h''=h'∧y=le M (a+(j:Int)) (n-j),?_,?_⟩
   ·intro y h'' ⟨g1,g2⟩
    subst g1 g2
    exact ⟨j,by omega,rfl,j,by omega,by rw [w64]<;>omega,rfl,rfl⟩
   have hat:IntKind.wrap .u64 (a+IntKind.wrap .u64 (j:Int))=a+j:=by rw [wu64 (n:=(j:Int)) (by omega) (by omega),wu64]<;>omega
   have hpage:IntKind.wrap .i64 (IntKind.wrap .u64 (Int.tdiv (a+j) 4096))=(a+j) / 4096:=by
    rw [tdiv4096 (by omega),wu64 (by omega) (by omega),w64 (by omega) (by omega)]
   have hstep:le M (a+j) (n-j)=M (a+j)+256*le M (a+((j+1:Nat):Int)) (n-(j+1)):=by
    rw [show n-j=(n-(j+1))+1 by omega]
    simp only [le]
    rw [show a+(j:Int)+1=a+((j+1:Nat):Int) by omega]
   rw [hat,hpage,tmod4096 (by omega)]
   show aM (Addr.add ⟨r,0,none⟩ 2) h' _
   rw [add_at]
   refine ld_M (i:=0) ho rfl rfl ?_
   refine lk_M (i:=2) ho rfl ?_
   rw [pm_lookup]
   have hmod:0≤(a+(j:Int)) % 4096∧(a+(j:Int)) % 4096<4096:=by omega
   cases hp:pm.lookup ((a+j) / 4096) with
   | none=>
    refine ⟨none,rfl,bsel_f rfl ⟨rfl,?_⟩⟩
    have h0:=ok.zero (a+j) (by omega) (lookup_none hp)
    rw [hstep,h0,wu64 (by omega) (by omega)]
    omega
   | some b=>
    refine ⟨some ⟨b,0,none⟩,rfl,bsel_t rfl ?_⟩
    refine inB_in hmod.1 (by omega) ?_
    obtain ⟨q,hq1,hq2⟩:=pages_at (M:=M) (lookup_mem hp)
    rw [add_at]
    refine ld_I (i:=q+3) (o:=0+((a+(j:Int)) % 4096).toNat*1) ho hq2 (n:=M (a+j)) ?_ ⟨rfl,?_⟩
    ·rw [Nat.zero_add,Nat.mul_one,page_at (by omega)]
     rw [show (a+(j:Int)) / 4096*4096+(((a+(j:Int)) % 4096).toNat:Nat)=a+j by omega]
    ·rw [hstep,bits_or_byte hb.1 (by omega) (ok.byte _).1 (ok.byte _).2]
  ·have:m=0:=by simp at c;omega
   subst this
   simpa using hk
theorem pm_put {pm:Pm} {f:Int} {b:Nat} (h:pm.lookup f=none):putM (pmMap pm) f (.pointer (some ⟨b,0,none⟩))=pmMap (pm++[(f,b)]):=by
 induction pm with
 | nil=>rfl
 | cons p pm ih=>
  simp only [List.lookup] at h
  split at h
  ·cases h
  ·rename_i g
   have g2:¬ p.1=f:=fun q=>by simp [q] at g
   show putM ((p.1,_)::pmMap pm) f _=_
   simp only [putM,if_neg g2,ih h]
   rfl
theorem page_zero {f:Int} {pm:Pm} (ok:PmOK M pm) (hf:0≤f) (h:f ∉ pm.map (·.1)):pageCells M f=List.replicate 4096 (.int .u8 0):=by
 refine List.eq_replicate_iff.2 ⟨by simp [pageCells],fun v hv=>?_⟩
 simp only [pageCells,List.mem_map,List.mem_range] at hv
 obtain ⟨j,hj,rfl⟩:=hv
 rw [ok.zero (f*4096+j) (by omega) (by rw [show (f*4096+(j:Int)) / 4096=f by omega];exact h)]
theorem own_spec {R:List SP} {s:Sl} {mb:Nat} {pm:Pm} {f:Int} {Q:Option Addr→AH→Prop} (h:Own (ramL r fr hs s mb M pm++R) A) (ok:PmOK M pm) (hf:0≤f)
  (hk:∀ pm' b A',PmOK M pm'→(f,b) ∈ pm'→Own (ramL r fr hs s mb M pm'++R) A'→Q (some ⟨b,0,none⟩) A'):qbo_A (some ⟨r,0,none⟩) f Q A:=by
 unfold qbo_A
 show aM (Addr.add ⟨r,0,none⟩ 2) A _
 rw [add_at]
 refine ld_M (i:=0) h rfl rfl ?_
 refine lk_M (i:=2) h rfl ?_
 rw [pm_lookup]
 cases hp:pm.lookup f with
 | some b=>exact ⟨some ⟨b,0,none⟩,rfl,fun p h'=>p=some ⟨b,0,none⟩∧h'=A,fun p h' ⟨e1,e2⟩=>by subst e1 e2;exact hk pm b _ ok (lookup_mem hp) h,⟨rfl,rfl⟩⟩
 | none=>
  refine ⟨none,rfl,Q,fun _ _ q=>q,?_⟩
  refine bsel_t rfl ?_
  rw [←List.toArray_replicate]
  refine new_C h fun b A' h'=>?_
  show aM (Addr.add ⟨r,0,none⟩ 2) A' _
  rw [add_at]
  refine ld_M (i:=1) h' rfl rfl ?_
  refine st_M (i:=3) h' rfl fun A2 h2=>?_
  have hn:=lookup_none hp
  refine hk (pm++[(f,b)]) b A2 ⟨?_,ok.byte,?_⟩ (by simp) ?_
  ·rw [List.map_append,List.nodup_append]
   refine ⟨ok.nodup,by simp,?_⟩
   intro x hx y hy
   simp at hy
   subst hy
   exact fun q=>hn (q ▸ hx)
  ·intro a h0 h1
   exact ok.zero a h0 fun q=>h1 (by simp at q ⊢;exact .inl q)
  ·rw [pm_put hp] at h2
   rw [←page_zero ok hf hn] at h2
   refine h2.perm ?_
   show List.Perm (At b (pageCells M f)::(_::_::_::(PagesAt M pm++R))) (_::_::_::(PagesAt M (pm++[(f,b)])++R))
   have:PagesAt M (pm++[(f,b)])++R=PagesAt M pm++At b (pageCells M f)::R:=by simp [PagesAt]
   rw [this]
   exact (List.perm_middle (l₁:=_::_::_::PagesAt M pm) (l₂:=R)).symm
def stM (M:Int→Int) (a:Int) (n:Nat) (x:Int):Int→Int:=fun c=>if a≤c∧c<a+n then x / 2 ^ (8*(c-a).toNat) % 256 else M c
def upM (M:Int→Int) (a v:Int):Int→Int:=fun c=>if c=a then v else M c
theorem stM_succ {a x:Int} {j:Nat}:upM (stM M a j x) (a+j) (x / 2 ^ (8*j) % 256)=stM M a (j+1) x:=by
 funext c
 unfold upM stM
 by_cases e:c=a+j
 ·subst e
  rw [if_pos rfl,if_pos ⟨by omega,by omega⟩,show (a+(j:Int)-a).toNat=j by omega]
 ·rw [if_neg e]
  by_cases g:a≤c∧c<a+j
  ·rw [if_pos g,if_pos ⟨g.1,by omega⟩]
  ·rw [if_neg g,if_neg (by omega)]
theorem pages_set {pm:Pm} {q:Nat} {f:Int} {b:Nat} {j:Nat} {v:Int} (nd:(pm.map (·.1)).Nodup) (hq:pm[q]? = some (f,b)) (hj:j<4096) :
  (PagesAt M pm).set q (At b ((pageCells M f).set j (.int .u8 v)))=PagesAt (upM M (f*4096+j) v) pm:=by
 apply List.ext_getElem?
 intro i
 have hql:=(List.getElem?_eq_some_iff.1 hq).1
 rw [List.getElem?_set]
 by_cases e:q=i
 ·subst e
  rw [page_set hj]
  simp only [if_true,PagesAt,List.length_map,hql,List.getElem?_map,hq,Option.map_some]
  rfl
 ·rw [if_neg e]
  simp only [PagesAt,List.getElem?_map]
  cases hc:pm[i]? with
  | none=>simp only [Option.map_none]
  | some p=>
   simp only [Option.map_some]
   have hne:p.1≠f:=by
    intro g
    have h1:(pm.map (·.1))[i]? = some f:=by simp [hc,g]
    have h2:(pm.map (·.1))[q]? = some f:=by simp [hq]
    obtain ⟨i1,e1⟩:=List.getElem?_eq_some_iff.1 h1
    obtain ⟨q1,e2⟩:=List.getElem?_eq_some_iff.1 h2
    have hp:=List.pairwise_iff_getElem.1 nd
    rcases Nat.lt_trichotomy i q with g | g | g
    ·exact hp i q i1 q1 g (by rw [e1,e2])
    ·exact e g.symm
    ·exact hp q i q1 i1 g (by rw [e1,e2])
   rw [show pageCells (upM M (f*4096+j) v) p.1=pageCells M p.1 from page_other hj hne]
theorem PmOK.up {pm:Pm} (ok:PmOK M pm) {a v:Int} (hv:0≤v∧v<256) (ha:a / 4096 ∈ pm.map (·.1)):PmOK (upM M a v) pm where
 nodup:=ok.nodup
 byte c:=by
  unfold upM
  split
  ·exact hv
  ·exact ok.byte c
 zero c h0 h1:=by
  unfold upM
  rw [if_neg (fun (q:c=a)=>h1 (by rw [q];exact ha))]
  exact ok.zero c h0 h1
theorem Store_spec {R:List SP} {a x:Int} {n:Nat} {Q:Int→AH→Prop} (h:Own (RamS r fr hs M::R) A) (hl:hs.length≤64) (hf:0≤fr∧fr≤1048576) (hz:n=1∨n=2∨n=4∨n=8)
  (ha:0≤a∧a<18446744073709551616) (hn:okA fr hs a n=false→Q 2 A) (hk:okA fr hs a n=true→∀ A',Own (RamS r fr hs (stM M a n x)::R) A'→Q 0 A'):qbp_A (some ⟨r,0,none⟩) a n x Q A:=by
 unfold qbp_A qbp_G
 refine check_spec (i:=0) h rfl hl hf (by omega) ha ?_
 cases hok:okA fr hs a n with
 | false=>exact bsel_t rfl (hn hok)
 | true=>
  refine bsel_f rfl ?_
  have hle:a+n≤fr*4096:=by simp [okA] at hok;omega
  refine ⟨fun i m h'=>∃ j:Nat,i=j∧j≤n∧m=n-j∧Own (RamS r fr hs (stM M a j x)::R) h',⟨n,0,rfl,by omega,by omega,?_⟩,?_⟩
  ·have:stM M a 0 x=M:=by funext c;unfold stM;rw [if_neg (by omega)]
   rw [this];exact h
  intro i m h' ⟨j,e1,e2,e3,ho⟩
  subst e1 e3
  refine bsel_in (fun c=>?_) fun c=>?_
  ·have c:j<n:=by simpa using c
   have h8:IntKind.wrap .i64 (8*(j:Int))=8*j:=w64 (by omega) (by omega)
   rw [h8]
   refine bsel_f (by simp;omega) ?_
   have hat:IntKind.wrap .u64 (a+IntKind.wrap .u64 (j:Int))=a+j:=by rw [wu64 (n:=(j:Int)) (by omega) (by omega),wu64]<;>omega
   have hpage:IntKind.wrap .i64 (IntKind.wrap .u64 (Int.tdiv (a+j) 4096))=(a+j) / 4096:=by
    rw [tdiv4096 (by omega),wu64 (by omega) (by omega),w64 (by omega) (by omega)]
   rw [hat,hpage,tmod4096 (by omega)]
   obtain ⟨s,ho⟩:=ho.ex
   obtain ⟨mb,ho⟩:=ho.ex
   obtain ⟨pm,ho⟩:=ho.ex
   obtain ⟨ok,ho⟩:=ho.pure
   refine own_spec ho.flat ok (by omega) fun pm' b A' ok' hb ho'=>?_
   obtain ⟨q,hq1,hq2⟩:=pages_at (M:=stM M a j x) hb
   have hql:=(List.getElem?_eq_some_iff.1 hq1).1
   refine inB_in (by omega) (by omega) ?_
   rw [add_at]
   have hv:IntKind.wrap .u8 (Int.fdiv x (2 ^ (min (Int.toNat (8*(j:Int))) 64)))=x / 2 ^ (8*j) % 256:=by
    rw [wu8,show min (Int.toNat (8*(j:Int))) 64=8*j by omega,Int.fdiv_eq_ediv_of_nonneg _ (Int.pow_nonneg (by omega))]
   rw [hv]
   have hi:(ramL r fr hs s mb (stM M a j x) pm'++R)[q+3]? = some (At b (pageCells (stM M a j x) ((a+j) / 4096))):=by
    show (PagesAt (stM M a j x) pm'++R)[q]? = _
    rw [List.getElem?_append_left (by simp [PagesAt];exact hql)]
    exact hq2
   refine st_C (i:=q+3) ho' hi ?_ rfl fun A2 h2=>?_
   ·rw [Nat.zero_add,Nat.mul_one,page_at (by omega)];rfl
   refine ⟨n-(j+1),by omega,j+1,by rw [w64]<;>omega,by omega,rfl,?_⟩
   rw [Nat.zero_add,Nat.mul_one] at h2
   have hset:(ramL r fr hs s mb (stM M a j x) pm'++R).set (q+3) (At b ((pageCells (stM M a j x) ((a+j) / 4096)).set ((a+(j:Int)) % 4096).toNat (.int .u8 (x / 2 ^ (8*j) % 256))))=ramL r fr hs s mb (stM M a (j+1) x) pm'++R:=by
    show _::_::_::(PagesAt (stM M a j x) pm'++R).set q _=_::_::_::(PagesAt (stM M a (j+1) x) pm'++R)
    rw [List.set_append_left _ _ (by simp [PagesAt];exact hql),pages_set ok'.nodup hq1 (by omega)]
    rw [show (a+(j:Int)) / 4096*4096+(((a+(j:Int)) % 4096).toNat:Nat)=a+j by omega,stM_succ]
   rw [hset] at h2
   have ok2:PmOK (stM M a (j+1) x) pm':=by
    rw [←stM_succ]
    exact ok'.up (by omega) (List.mem_map.2 ⟨_,hb,rfl⟩)
   refine Own.imp (P:=Own (ramL r fr hs s mb (stM M a (j+1) x) pm')) (fun B hB=>⟨s,mb,pm',ok2,hB⟩) ?_
   exact Own.app h2
  ·have:j=n:=by simp at c;omega
   subst this
   exact hk hok _ ho
end Go.Dn
/- Entries and addresses: what the program's functions and the document's answer. -/
namespace Go.Dn
def U64 (x:Int):Prop:=0≤x∧x<18446744073709551616
def partZ (x:Int) (k:Nat):Int:=x / 2 ^ k % 512
def frameZ (x:Int):Int:=x / 4096 % 1048576
def canonZ (x:Int):Bool:=(x / 2 ^ 47==0) || (x / 2 ^ 47==131071)
def resvd (x:Int) (level:Int):Bool:=bitZ x 0&&((x / 2 ^ 32 % 1048576 != 0) || if level≥3 then bitZ x 7 else (level==2&&bitZ x 7&&(x / 2 ^ 12 % 512 != 0)))
variable {A:AH} {l:List SP}
theorem Canonical_spec {x:Int} {Q:Bool→AH→Prop} (hk:Q (canonZ x) A):qds_A x Q A:=by
 unfold qds_A
 rw [shr_eq]
 unfold canonZ at hk
 refine bsel_in (fun c=>?_) fun c=>?_
 ·rw [c] at hk;exact hk
 ·rw [c] at hk;exact hk
theorem bit1 {x:Int} (k:Nat) (hx:U64 x):(bits .and .u64 (x / 2 ^ k) 1==(1:Int))=bitZ x k:=by
 have:=shr_bound k hx.1 hx.2
 rw [and1 this.1 this.2]
 rfl
theorem bit0 {x:Int} (hx:U64 x):(bits .and .u64 x 1==(0:Int)) = !bitZ x 0:=by
 rw [and1 hx.1 hx.2]
 unfold bitZ
 rcases Int.emod_two_eq x with h | h<;>simp [h]
theorem Reserved_spec {x lv:Int} {Q:Bool→AH→Prop} (hx:U64 x) (hk:Q (resvd x lv) A):qdu_A x lv Q A:=by
 unfold qdu_A
 simp only [shr_eq]
 rw [bit0 hx,bit1 7 hx]
 have h32:=shr_bound 32 hx.1 hx.2
 have h12:=shr_bound 12 hx.1 hx.2
 rw [and20 h32.1 h32.2,and511 h12.1 h12.2]
 unfold resvd at hk
 generalize (x / 2 ^ 32 % 1048576 != 0)=u at *
 generalize (x / 2 ^ 12 % 512 != 0)=v at *
 refine bsel_in (fun c=>?_) fun c=>?_
 ·simp at c;simpa [c] using hk
 simp at c
 refine bsel_in (fun c2=>?_) fun c2=>?_
 ·simpa [c,c2] using hk
 refine bsel_in (fun c3=>?_) fun c3=>?_
 ·simp at c3;simpa [c,c2,c3] using hk
 simp at c3
 have c3':¬ (3≤lv):=by omega
 refine bsel_in (fun c4=>?_) fun c4=>?_
 ·refine bsel_in (fun c5=>?_) fun c5=>?_
  ·simpa [c,c2,c3',c4,c5] using hk
  ·simpa [c,c2,c3',c4,c5] using hk
 ·simpa [c,c2,c3',c4] using hk
def splitCells (x:Int) (j:Nat):List Value:=(List.range 4).map fun i=>.int .i64 (if i<j then partZ x (39-9*i) else 0)
theorem Split_spec {x:Int} {Q:Int→Int→Int→Int→Int→AH→Prop} (hx:U64 x) (h:Own l A) (hk:∀ A',Own l A'→Q (partZ x 39) (partZ x 30) (partZ x 21) (partZ x 12) (x % 4096) A'):qdi_A x Q A:=by
 unfold qdi_A
 refine new_C (cs:=splitCells x 0) h fun b A1 h1=>?_
 refine ⟨fun i m h'=>∃ j:Nat,i=j∧j≤4∧m=4-j∧Own (At b (splitCells x j)::l) h',⟨4,0,rfl,by omega,rfl,h1⟩,?_⟩
 intro i m h' ⟨j,e1,e2,e3,ho⟩
 subst e1 e3
 refine bsel_in (fun c=>?_) fun c=>?_
 ·have c:j<4:=by simp at c;omega
  have h9:IntKind.wrap .i64 (39-IntKind.wrap .i64 (9*(j:Int)))=((39-9*j:Nat):Int):=by
   rw [w64 (n:=9*(j:Int)) (by omega) (by omega),w64 (by omega) (by omega)];omega
  rw [h9]
  refine bsel_f (by simp) ?_
  refine inB_in (by omega) (by omega) ?_
  rw [add_at]
  have hb:=shr_bound (39-9*j) hx.1 hx.2
  have hv:IntKind.wrap .i64 (bits .and .u64 (Int.fdiv x (2 ^ (min (Int.toNat ((39-9*j:Nat):Int)) 64))) 511)=partZ x (39-9*j):=by
   rw [shr_eq,show min (Int.toNat ((39-9*j:Nat):Int)) 64=39-9*j by omega,and511 hb.1 hb.2]
   exact w64 (by omega) (by omega)
  rw [hv]
  refine st_C (i:=0) ho rfl ?_ rfl fun A2 h2=>?_
  ·simp [splitCells];omega
  refine ⟨4-(j+1),by omega,j+1,by rw [w64]<;>omega,by omega,rfl,?_⟩
  have hs:(splitCells x j).set (0+Int.toNat (j:Int)*1) (.int .i64 (partZ x (39-9*j)))=splitCells x (j+1):=by
   obtain rfl | rfl | rfl | rfl:j=0∨j=1∨j=2∨j=3:=by omega
   all_goals rfl
  rw [hs] at h2
  exact h2
 ·have:j=4:=by simp at c;omega
  subst this
  rw [and4095 hx.1 hx.2,w64 (n:=x % 4096) (by omega) (by omega)]
  simp only [add_at]
  refine ld_I (i:=0) ho rfl rfl ?_
  refine ld_I (i:=0) ho rfl rfl ?_
  refine ld_I (i:=0) ho rfl rfl ?_
  refine ld_I (i:=0) ho rfl rfl ?_
  exact hk _ ho.tail
def placeN:Nat→Nat | 0=>0 | 1=>1 | 2=>2 | 3=>5 | 4=>6 | 5=>7 | 6=>8 | _=>63
def entryCells (x:Int) (j:Nat):List Value:=((List.range 8).map fun i=>.bool (decide (i<j)&&bitZ x (placeN i)))++[.int .i64 (frameZ x)]
theorem Unpack_spec {x:Int} {Q:Bool→Bool→Bool→Bool→Bool→Bool→Bool→Bool→Int→AH→Prop} (hx:U64 x) (h:Own l A)
  (hk:∀ A',Own l A'→Q (bitZ x 0) (bitZ x 1) (bitZ x 2) (bitZ x 5) (bitZ x 6) (bitZ x 7) (bitZ x 8) (bitZ x 63) (frameZ x) A'):qdl_A x Q A:=by
 unfold qdl_A qdl_G
 refine new_C (cs:=[.bool false,.bool false,.bool false,.bool false,.bool false,.bool false,.bool false,.bool false,.int .i64 0]) h fun b A1 h1=>?_
 have hb:=shr_bound 12 hx.1 hx.2
 rw [shr_eq,and20 hb.1 hb.2,w64 (n:=x / 2 ^ 12 % 1048576) (by omega) (by omega)]
 simp only [add_at]
 iterate 9 refine st_C (i:=0) h1 rfl rfl rfl fun A1 h1=>?_
 unfold qbj_A
 simp only [onSome,add_at]
 refine ⟨fun i m h'=>∃ j:Nat,i=j∧j≤8∧m=8-j∧Own (At b (entryCells x j)::l) h',⟨8,0,rfl,by omega,rfl,h1⟩,?_⟩
 intro i m h' ⟨j,e1,e2,e3,ho⟩
 subst e1 e3
 refine bsel_in (fun c=>?_) fun c=>?_
 ·have c:j<8:=by simp at c;omega
  refine inB_in (by omega) (by omega) ?_
  have hp:([.pointer (some ⟨b,0,none⟩),.pointer (some ⟨b,0+1,none⟩),.pointer (some ⟨b,0+2,none⟩),.pointer (some ⟨b,0+3,none⟩),.pointer (some ⟨b,0+4,none⟩),.pointer (some ⟨b,0+5,none⟩),.pointer (some ⟨b,0+6,none⟩),.pointer (some ⟨b,0+7,none⟩)]:List Value)[Int.toNat (j:Int)]? = some (.pointer (some ⟨b,j,none⟩)):=by
   obtain rfl | rfl | rfl | rfl | rfl | rfl | rfl | rfl:j=0∨j=1∨j=2∨j=3∨j=4∨j=5∨j=6∨j=7:=by omega
   all_goals rfl
  refine ⟨_,hp,?_⟩
  unfold qbk_A
  refine inB_in (by omega) (by omega) ?_
  have hq:([.int .i64 0,.int .i64 1,.int .i64 2,.int .i64 5,.int .i64 6,.int .i64 7,.int .i64 8,.int .i64 63]:List Value)[Int.toNat (j:Int)]? = some (.int .i64 (placeN j)):=by
   obtain rfl | rfl | rfl | rfl | rfl | rfl | rfl | rfl:j=0∨j=1∨j=2∨j=3∨j=4∨j=5∨j=6∨j=7:=by omega
   all_goals rfl
  refine ⟨_,hq,bsel_f (by simp) ?_⟩
  have hpl:placeN j≤63:=by
   obtain rfl | rfl | rfl | rfl | rfl | rfl | rfl | rfl:j=0∨j=1∨j=2∨j=3∨j=4∨j=5∨j=6∨j=7:=by omega
   all_goals decide
  rw [shr_eq,show min (Int.toNat (placeN j:Int)) 64=placeN j by omega,bit1 _ hx]
  refine st_C (i:=0) ho rfl ?_ rfl fun A2 h2=>?_
  ·simp [entryCells];omega
  refine ⟨8-(j+1),by omega,j+1,by rw [w64]<;>omega,by omega,rfl,?_⟩
  have hs:(entryCells x j).set j (.bool (bitZ x (placeN j)))=entryCells x (j+1):=by
   obtain rfl | rfl | rfl | rfl | rfl | rfl | rfl | rfl:j=0∨j=1∨j=2∨j=3∨j=4∨j=5∨j=6∨j=7:=by omega
   all_goals rfl
  rw [hs] at h2
  exact h2
 ·have:j=8:=by simp at c;omega
  subst this
  iterate 8 refine ld_B (i:=0) ho rfl rfl ?_
  refine ld_I (i:=0) ho rfl rfl ?_
  exact hk _ ho.tail
theorem mod_pow_succ {x:Int} (n:Nat):x % 2 ^ (n+1)=x % 2 ^ n+2 ^ n*(x / 2 ^ n % 2):=by
 have hp:(0:Int)<2 ^ n:=Int.pow_pos (by omega)
 rw [Int.pow_succ]
 have h1:=Int.mul_ediv_add_emod x (2 ^ n)
 have h2:=Int.mul_ediv_add_emod (x / 2 ^ n) 2
 have h3:=Int.emod_nonneg x (show (2:Int) ^ n≠0 by omega)
 have h4:=Int.emod_lt_of_pos x hp
 have h5:=Int.emod_two_eq (x / 2 ^ n)
 have hx:x=(2 ^ n*2)*(x / 2 ^ n / 2)+(x % 2 ^ n+2 ^ n*(x / 2 ^ n % 2)):=by
  rw [Int.mul_assoc,← Int.add_assoc,Int.add_right_comm,← Int.mul_add,h2,h1]
 have hb:0≤x % 2 ^ n+2 ^ n*(x / 2 ^ n % 2)∧x % 2 ^ n+2 ^ n*(x / 2 ^ n % 2)<2 ^ n*2:=by
  rcases h5 with h5 | h5<;>rw [h5]<;>omega
 conv=>lhs;rw [hx]
 rw [Int.add_comm,Int.add_mul_emod_self_left]
 exact Int.emod_eq_of_lt hb.1 hb.2
theorem bitZ_val (x:Int) (k:Nat):(if bitZ x k then 1 else 0:Int)=x / 2 ^ k % 2:=by
 unfold bitZ
 rcases Int.emod_two_eq (x / 2 ^ k) with h | h<;>simp [h]
end Go.Dn
/- A memory by the place of its part in a list. -/
namespace Go.Dn
variable {A:AH} {l:List SP} {r:Nat} {fr:Int} {hs:List (Int × Int)} {M:Int→Int}
theorem RamS.byte {i:Nat} (h:Own l A) (e:l[i]? = some (RamS r fr hs M)):∀ a,0≤M a∧M a<256:=by
 obtain ⟨s,mb,pm,ok,_⟩:=RamS.open h e
 exact ok.byte
theorem Store_at {i:Nat} {a x:Int} {n:Nat} {Q:Int→AH→Prop} (h:Own l A) (e:l[i]? = some (RamS r fr hs M)) (hl:hs.length≤64) (hf:0≤fr∧fr≤1048576) (hz:n=1∨n=2∨n=4∨n=8)
  (ha:0≤a∧a<18446744073709551616) (hn:okA fr hs a n=false→Q 2 A) (hk:okA fr hs a n=true→∀ A',Own (l.set i (RamS r fr hs (stM M a n x))) A'→Q 0 A'):qbp_A (some ⟨r,0,none⟩) a n x Q A:=
 Store_spec (h.pick i e) hl hf hz ha hn fun ok A' h'=>hk ok A' (Own.back i e h')
theorem word_u64 {i:Nat} (h:Own l A) (e:l[i]? = some (RamS r fr hs M)) (a:Int):U64 (le M a 8):=by
 have:=le_bound (RamS.byte h e) 8 a
 exact ⟨this.1,this.2⟩
theorem le_congr {M N:Int→Int}:∀ (n:Nat) (a:Int),(∀ c,a≤c→c<a+n→M c=N c)→le M a n=le N a n
 | 0,_,_=>rfl
 | n+1,a,h=>by
  simp only [le]
  rw [h a (by omega) (by omega),le_congr n (a+1) fun c h1 h2=>h c (by omega) (by omega)]
theorem le_bytes (x:Int):∀ (n k:Nat) (N:Int→Int) (a:Int),(∀ j:Nat,j<n→N (a+j)=x / 2 ^ (8*(k+j)) % 256)→le N a n=x / 2 ^ (8*k) % 256 ^ n
 | 0,k,N,a,h=>by simp [le,Int.emod_one]
 | n+1,k,N,a,h=>by
  simp only [le]
  have h0:=h 0 (by omega)
  rw [Int.natCast_zero,Int.add_zero,Nat.add_zero] at h0
  rw [h0,le_bytes x n (k+1) N (a+1) fun j hj=>by rw [←show a+((j+1:Nat):Int)=a+1+j by omega,h (j+1) (by omega),show k+(j+1)=k+1+j by omega]]
  rw [show 8*(k+1)=8*k+8 by omega,Int.pow_add,← Int.ediv_ediv_of_nonneg (Int.pow_nonneg (by omega))]
  generalize x / 2 ^ (8*k)=z
  rw [Int.pow_succ]
  show z % 256+256*(z / 256 % 256 ^ n)=z % (256 ^ n*256)
  have h3:z / 256 % 256 ^ n=z / 256-256 ^ n*(z / 256 / 256 ^ n):=by
   have:=Int.mul_ediv_add_emod (z / 256) (256 ^ n);omega
  have h4:z % (256 ^ n*256)=z-256 ^ n*256*(z / (256 ^ n*256)):=by
   have:=Int.mul_ediv_add_emod z (256 ^ n*256);omega
  rw [h3,h4,Int.ediv_ediv_of_nonneg (by omega),Int.mul_comm 256 (256 ^ n:Int)]
  generalize z / (256 ^ n*256)=w
  have:256 ^ n*256*w=256*(256 ^ n*w):=by rw [Int.mul_comm (256 ^ n:Int) 256,Int.mul_assoc]
  omega
theorem le_same (M:Int→Int) (a x:Int) (n:Nat) (hx:0≤x) (hx2:x<256 ^ n):le (stM M a n x) a n=x:=by
 have:=le_bytes x n 0 (stM M a n x) a fun j hj=>by
  unfold stM
  rw [if_pos ⟨by omega,by omega⟩,show (a+(j:Int)-a).toNat=0+j by omega]
 rw [this]
 simp
 exact Int.emod_eq_of_lt hx hx2
theorem le_apart (M:Int→Int) (a b x:Int) (n m:Nat) (h:b+m≤a∨a+n≤b):le (stM M a n x) b m=le M b m:=
 le_congr m b fun c h1 h2=>by
  unfold stM
  rw [if_neg (by omega)]
theorem st_same {M:Int→Int} (hb:∀ a,0≤M a∧M a<256):∀ (n:Nat) (a:Int),stM M a n (le M a n)=M:=by
 intro n a
 funext c
 unfold stM
 by_cases g:a≤c∧c<a+n
 ·rw [if_pos g]
  obtain ⟨j,rfl⟩:∃ j:Nat,c=a+j:=⟨(c-a).toNat,by omega⟩
  rw [show (a+(j:Int)-a).toNat=j by omega]
  have key:∀ (j n:Nat) (a:Int),j<n→le M a n / 2 ^ (8*j) % 256=M (a+j):=by
   intro j
   induction j with
   | zero=>
    intro n a hn
    obtain ⟨n,rfl⟩:∃ k,n=k+1:=⟨n-1,by omega⟩
    have:=hb a
    simp only [le]
    simp
    omega
   | succ j ih=>
    intro n a hn
    obtain ⟨n,rfl⟩:∃ k,n=k+1:=⟨n-1,by omega⟩
    have h1:=hb a
    rw [show 8*(j+1)=8+8*j by omega,Int.pow_add,← Int.ediv_ediv_of_nonneg (by simp)]
    have:le M a (n+1) / 2 ^ 8=le M (a+1) n:=by
     simp only [le]
     show (M a+256*le M (a+1) n) / 256=_
     omega
    rw [this,ih n (a+1) (by omega),show a+1+(j:Int)=a+((j+1:Nat):Int) by omega]
  exact key j n a (by omega)
 ·rw [if_neg g]
theorem stM_byte {a x:Int} {n:Nat} (hb:∀ a,0≤M a∧M a<256):∀ c,0≤stM M a n x c∧stM M a n x c<256:=by
 intro c
 unfold stM
 split
 ·omega
 ·exact hb c
end Go.Dn
/- Slices of one's own: what an append makes of them. -/
namespace Go.Dn
def SlO (s:Sl) (sz:Nat) (cs:List Value):SP:=fun B=>(s.len*sz=cs.length∧s.len≤s.cap)∧
 (s.cap=0∨∃ b rest,s.a=some ⟨b,0,none⟩∧(cs++rest).length=s.cap*sz∧At b (cs++rest) B)
theorem SlO.nil {sz:Nat} {B:AH}:SlO Sl.nil sz [] B:=⟨⟨by simp [Sl.nil],Nat.le_refl _⟩,.inl rfl⟩
theorem SlO.look {s:Sl} {sz:Nat} {cs:List Value} {B:AH} (h:SlO s sz cs B):SlAt s sz cs B:=by
 obtain ⟨⟨h1,h2⟩,h3⟩:=h
 refine ⟨h1,h2,fun hne=>?_⟩
 rcases h3 with h3 | ⟨b,rest,h3,h4,h5⟩
 ·have:s.len=0:=by omega
  rw [this] at h1
  exact absurd (List.length_eq_zero_iff.1 (by omega)) hne
 ·exact ⟨b,[],rest,h3,by simpa using h5⟩
variable {A:AH} {l R:List SP}
theorem stL_spec {b o:Nat}:∀ (vs:List Value) (n:Nat) (A:AH) (pre mid post:List Value) (K:AP),Own (At b (pre++mid++post)::R) A→mid.length=vs.length→o+n=pre.length→(∀ v ∈ vs,v.oneCell'=true)→
  (∀ A',Own (At b (pre++vs++post)::R) A'→K A')→aStL vs ⟨b,o,none⟩ n A K
 | [],n,A,pre,mid,post,K,h,hm,ho,hv,hk=>by
  have:mid=[]:=List.length_eq_zero_iff.1 hm
  subst this
  exact hk A h
 | v::vs,n,A,pre,mid,post,K,h,hm,ho,hv,hk=>by
  cases mid with
  | nil=>simp at hm
  | cons m mid=>
   simp at hm
   show aC (Addr.add ⟨b,o,none⟩ n) v A _
   rw [add_at]
   refine st_C (i:=0) h rfl ?_ (hv v (by simp)) fun A' h'=>?_
   ·rw [ho];simp
   have e:(pre++m::mid++post).set (o+n) v=(pre++[v])++mid++post:=by
    rw [ho,List.append_assoc,List.set_append_right _ _ (Nat.le_refl _)]
    simp
   rw [e] at h'
   refine stL_spec vs (n+1) A' (pre++[v]) mid post K h' hm (by simp;omega) (fun w hw=>hv w (by simp [hw])) fun A2 h2=>hk A2 ?_
   simpa using h2
theorem rowA_of {s:Sl} {sz:Nat} {cs:List Value} {B:AH} (h:SlAt s sz cs B) (u:Sub B A) (hn:s.a=none→cs=[]):rowA A s.a (s.len*sz) cs:=by
 cases hs:s.a with
 | none=>exact hn hs
 | some a=>
  refine ⟨h.1.symm,fun i hi=>?_⟩
  rw [h.1] at hi
  obtain ⟨b,o,h1,h2⟩:=h.cell u (j:=i) (v:=cs[i]) (by simp [hi])
  rw [hs] at h1
  cases h1
  exact ⟨cs[i],by simp [hi],by rw [add_at];exact h2⟩
theorem zeroCells_len {z:Array Value} {n:Nat}:(Builtin.zeroCells z n).size=n*z.size:=by simp [Builtin.zeroCells]
theorem rowA_rd {s:Sl} {sz:Nat} {cs:List Value} (h:s.len*sz=cs.length∧∀ j v,cs[j]? = some v→∃ b o,s.a=some ⟨b,o,none⟩∧cellA A ⟨b,o+j,none⟩=some v) (hn:s.a=none→cs=[]):rowA A s.a (s.len*sz) cs:=by
 cases hs:s.a with
 | none=>exact hn hs
 | some a=>
  refine ⟨h.1.symm,fun i hi=>?_⟩
  rw [h.1] at hi
  obtain ⟨b,o,h1,h2⟩:=h.2 i cs[i] (by simp [hi])
  rw [hs] at h1
  cases h1
  exact ⟨cs[i],by simp [hi],by rw [add_at];exact h2⟩
theorem reads_at {b n cap sz:Nat} {cs rest:List Value} (hl:n*sz=cs.length):Reads (At b (cs++rest)) ⟨some ⟨b,0,none⟩,n,cap⟩ sz cs:=fun B A ⟨t,hB⟩ u=>⟨hl,fun j v hv=>⟨b,0,rfl,by
 have:=u _ _ hB
 have hj:=(List.getElem?_eq_some_iff.1 hv).1
 simp only [cellA,this,Nat.zero_add]
 simp only [Option.isSome_none,Bool.false_eq_true,if_false,List.getElem?_toArray]
 rw [List.getElem?_append_left hj];exact hv⟩⟩
theorem ap_reads {P:SP} {s x:Sl} {sz bytes t i:Nat} {zc:Array Value} {c1 c2:List Value} {K:Sl→AP} (h:Own (SlO s sz c1::R) A) (e:R[i]? = some P) (hr:Reads P x sz c2) (hx:x.a=none→c2=[]) (hs:s.a=none→c1=[])
  (hz:zc.size=sz) (hv:∀ v ∈ c2,v.oneCell'=true) (hlim:(s.len+x.len)*bytes≤140737488355328∧s.len+x.len≤9223372036854775807)
  (hk:∀ s' A',s'.len=s.len+x.len→(s'.a=none→c1++c2=[])→Own (SlO s' sz (c1++c2)::R) A'→K s' A'):apA sz bytes zc t s x A K:=by
 obtain ⟨Bx,ux,hbx⟩:=Own.get (l:=SlO s sz c1::R) (i:=i+1) (by simpa using e) h
 obtain ⟨Bs,us,hbs⟩:=h.sat
 have hbx:=hr Bx A hbx ux
 refine ⟨c2,rowA_rd hbx hx,fun hle=>?_,fun hlt=>?_⟩
 ·have hl1:=hbs.1.1
  have hl2:=hbx.1
  obtain ⟨hp,h2⟩:=h.pure
  rcases Nat.eq_zero_or_pos s.cap with g | g
  ·-- nothing there and nothing to append
   have h0:s.len=0:=by omega
   have h1:x.len=0:=by omega
   rw [h0] at hl1
   rw [h1] at hl2
   have e1:c1=[]:=List.length_eq_zero_iff.1 (by omega)
   have e2:c2=[]:=List.length_eq_zero_iff.1 (by omega)
   subst e1 e2
   have hst:aStR s.a (s.len*sz) [] A (K ⟨s.a,s.len+x.len,s.cap⟩)↔K ⟨s.a,s.len+x.len,s.cap⟩ A:=by
    cases s.a<;>exact Iff.rfl
   rw [hst]
   refine hk _ _ rfl (fun _=>rfl) ?_
   exact Own.imp (P:=SlO s sz []) (fun B hB=>⟨⟨by simp [h0,h1],by omega⟩,.inl g⟩) h
  ·have h3:Own ((fun B=>∃ b rest,s.a=some ⟨b,0,none⟩∧(c1++rest).length=s.cap*sz∧At b (c1++rest) B)::R) A:=h2.imp fun B hB=>by
    rcases hB with hB | hB
    ·omega
    ·exact hB
   obtain ⟨b,h3⟩:=h3.ex
   obtain ⟨rest,h3⟩:=h3.ex
   obtain ⟨ha,h3⟩:=h3.pure
   obtain ⟨hc,h3⟩:=h3.pure
   rw [ha]
   show aStL c2 (Addr.add ⟨b,0,none⟩ (s.len*sz)) 0 A _
   rw [add_at]
   have hroom:c2.length≤rest.length:=by
    rw [List.length_append] at hc
    have:(s.len+x.len)*sz≤s.cap*sz:=Nat.mul_le_mul_right _ hle
    rw [Nat.add_mul] at this
    omega
   have hsplit:c1++rest=c1++rest.take c2.length++rest.drop c2.length:=by rw [List.append_assoc,List.take_append_drop]
   rw [hsplit] at h3
   refine stL_spec c2 0 A c1 (rest.take c2.length) (rest.drop c2.length) _ h3 (by simp;omega) (by simp;omega) hv fun A' h'=>?_
   refine hk _ _ rfl (fun q=>by cases q) ?_
   refine Own.imp (fun B hB=>⟨⟨?_,hle⟩,.inr ⟨b,rest.drop c2.length,rfl,?_,hB⟩⟩) h'
   ·rw [Nat.add_mul,List.length_append];omega
   ·rw [←hc];simp;omega
 ·have hl1:=hbs.1.1
  have hl2:=hbx.1
  refine ⟨c1,rowA_of hbs.look us hs,hlim.2,growslice_fits hlt hlim.1,fun cap hcap=>?_⟩
  intro b hb
  have hsz:=zeroCells_len (z:=zc) (n:=cap-(s.len+x.len))
  refine hk _ _ rfl (fun q=>by cases q) ?_
  refine Own.new (o:=_) (h.tail) hb fun B hB=>⟨⟨?_,hcap⟩,.inr ⟨b,(Builtin.zeroCells zc (cap-(s.len+x.len))).toList,rfl,?_,t,?_⟩⟩
  ·rw [Nat.add_mul,List.length_append];omega
  ·simp only [List.length_append,Array.length_toList]
   rw [hsz,hz,← hl1,← hl2,← Nat.add_mul,← Nat.add_mul]
   congr 1;omega
  ·rw [hB]
   congr 2
   apply Array.ext'
   simp
theorem ap_head {s x:Sl} {sz bytes t i:Nat} {zc:Array Value} {c1 c2:List Value} {K:Sl→AP} (h:Own (SlO s sz c1::R) A) (e:R[i]? = some (SlAt x sz c2)) (hx:x.a=none→c2=[]) (hs:s.a=none→c1=[])
  (hz:zc.size=sz) (hv:∀ v ∈ c2,v.oneCell'=true) (hlim:(s.len+x.len)*bytes≤140737488355328∧s.len+x.len≤9223372036854775807)
  (hk:∀ s' A',s'.len=s.len+x.len→(s'.a=none→c1++c2=[])→Own (SlO s' sz (c1++c2)::R) A'→K s' A'):apA sz bytes zc t s x A K:=
 ap_reads h e reads_slat hx hs hz hv hlim hk
end Go.Dn
/- Walks through tables. -/
namespace Go.Dn
def codeZ (aw au af:Bool):Int:=(if aw then 2 else 0)+(if au then 4 else 0)+(if af then 16 else 0)
def mayZ (w u x aw au af:Bool):Bool:=!(aw&&!w)&&!(au&&!u)&&!(af&&!x)
inductive WOut where
 | err (e:Int)
 | fault (code:Int)
 | ok (frame:Int) (w u x g lg d:Bool) (places:List Int)
def placeZ (t a:Int) (lv:Nat):Int:=t*4096+8*partZ a (12+9*lv)
def walkL (fr:Int) (hs:List (Int × Int)) (M:Int→Int) (a:Int) (aw au af:Bool):Nat→Int→Bool→Bool→Bool→List Int→WOut
 | 0,_,_,_,_,_=>.err 0
 | lv+1,t,w,u,x,ps=>
  if hasF fr hs t=false then .err 2
  else if bitZ (le M (placeZ t a lv) 8) 0=false then .fault (codeZ aw au af)
  else if resvd (le M (placeZ t a lv) 8) ((lv:Int)+1)=true then .fault (9+codeZ aw au af)
  else if lv=0∨(lv=1∧bitZ (le M (placeZ t a lv) 8) 7=true) then
   if mayZ (w&&bitZ (le M (placeZ t a lv) 8) 1) (u&&bitZ (le M (placeZ t a lv) 8) 2) (x&&!bitZ (le M (placeZ t a lv) 8) 63) aw au af=true then
    .ok (if lv=1 then frameZ (le M (placeZ t a lv) 8)+partZ a 12 else frameZ (le M (placeZ t a lv) 8)) (w&&bitZ (le M (placeZ t a lv) 8) 1) (u&&bitZ (le M (placeZ t a lv) 8) 2) (x&&!bitZ (le M (placeZ t a lv) 8) 63)
     (bitZ (le M (placeZ t a lv) 8) 8) (lv==1) (bitZ (le M (placeZ t a lv) 8) 6 || aw) (ps++[placeZ t a lv])
   else .fault (1+codeZ aw au af)
  else walkL fr hs M a aw au af lv (frameZ (le M (placeZ t a lv) 8)) (w&&bitZ (le M (placeZ t a lv) 8) 1) (u&&bitZ (le M (placeZ t a lv) 8) 2) (x&&!bitZ (le M (placeZ t a lv) 8) 63) (ps++[placeZ t a lv])
def or5 (x:Int):Int:=if bitZ x 5 then x else x+32
def or6 (x:Int):Int:=if bitZ x 6 then x else x+64
def markL (M:Int→Int) (wr:Bool):List Int→(Int→Int)
 | []=>M
 | p::ps=>markL (stM M p 8 (if wr&&ps.isEmpty then or6 (or5 (le M p 8)) else or5 (le M p 8))) wr ps
def walkZ (fr:Int) (hs:List (Int × Int)) (M:Int→Int) (root a:Int) (aw au af:Bool):WOut:=
 if canonZ a=false then .err 1 else if hasF fr hs root=false then .err 2 else walkL fr hs M a aw au af 4 root true true true []
variable {A:AH} {l:List SP} {r:Nat} {fr:Int} {hs:List (Int × Int)} {M:Int→Int}
theorem May_spec {w u x aw au af:Bool} {Q:Bool→AH→Prop} (hk:Q (mayZ w u x aw au af) A):qdg_A w u x aw au af Q A:=by
 unfold qdg_A
 cases w<;>cases u<;>cases x<;>cases aw<;>cases au<;>cases af<;>exact hk
def wcell (r:Nat) (a:Int) (aw au af w u x:Bool):List Value:=[.pointer (some ⟨r,0,none⟩),.int .u64 a,.bool aw,.bool au,.bool af,.bool w,.bool u,.bool x]
theorem fault_spec {b j:Nat} {a c:Int} {aw au af w u x:Bool} {Q:AH→Prop} {Kp:Value→AH→Prop} (hc:c=0∨c=1∨c=9) (h:Own l A) (e:l[j]? = some (At b (wcell r a aw au af w u x)))
  (hk:Kp (.iface ty_walk_stop (.agg #[.int .u64 a,.int .i64 (c+codeZ aw au af),.int .i64 9])) A):qdt_A (some ⟨b,0,none⟩) c Q Kp A:=by
 unfold qdt_A
 refine ⟨fun c1 h1=>h1=A∧c1=c+(if aw then 2 else 0),?_,?_⟩
 ·intro c1 h1 ⟨e1,e2⟩
  subst e1
  refine ⟨fun c2 h2=>h2=h1∧c2=c1+(if au then 4 else 0),?_,?_⟩
  ·intro c2 h2 ⟨e3,e4⟩
   subst e3
   refine ⟨fun c3 h3=>h3=h2∧c3=c2+(if af then 16 else 0),?_,?_⟩
   ·intro c3 h3 ⟨e5,e6⟩
    subst e5 e6 e4 e2
    refine ld_I (i:=j) h e rfl ?_
    have:c+codeZ aw au af=c+(if aw then 2 else 0)+(if au then 4 else 0)+(if af then 16 else 0):=by unfold codeZ;omega
    rw [this] at hk
    exact hk
   ·refine ld_B (i:=j) h e rfl ?_
    cases af
    ·exact ⟨rfl,by simp⟩
    ·refine ⟨rfl,?_⟩
     subst e4 e2
     rcases hc with rfl | rfl | rfl<;>cases aw<;>cases au<;>decide
  ·refine ld_B (i:=j) h e rfl ?_
   cases au
   ·exact ⟨rfl,by simp⟩
   ·refine ⟨rfl,?_⟩
    subst e2
    rcases hc with rfl | rfl | rfl<;>cases aw<;>decide
 ·refine ld_B (i:=j) h e rfl ?_
  cases aw
  ·exact ⟨rfl,by simp⟩
  ·refine ⟨rfl,?_⟩
   rcases hc with rfl | rfl | rfl<;>decide
theorem okA_word {t:Int} {at_:Int} (h0:0≤at_∧at_<512):okA fr hs (t*4096+8*at_) 8=hasF fr hs t:=by
 have h1:(t*4096+8*at_) / 4096=t:=by omega
 have h2:(t*4096+8*at_+8-1) / 4096=t:=by omega
 unfold okA
 rw [h1,h2]
 cases h:hasF fr hs t with
 | false=>simp
 | true=>
  have:t<fr:=by
   unfold hasF at h
   simp at h
   omega
  simp
  omega
theorem place_bound {t a:Int} {lv:Nat} (ht:0≤t∧t<1048576):0≤partZ a (12+9*lv)∧partZ a (12+9*lv)<512∧0≤placeZ t a lv∧placeZ t a lv<4294967296:=by
 unfold placeZ partZ
 omega
theorem place_wrap {t p:Int} (ht:0≤t∧t<1048576) (hp:0≤p∧p<512) :
  IntKind.wrap .u64 (IntKind.wrap .u64 (IntKind.wrap .u64 t*4096)+IntKind.wrap .u64 (IntKind.wrap .i64 (8*p)))=t*4096+8*p:=by
 rw [wu64 (n:=t) (by omega) (by omega),wu64 (n:=t*4096) (by omega) (by omega),w64 (n:=8*p) (by omega) (by omega),wu64 (n:=8*p) (by omega) (by omega),wu64 (by omega) (by omega)]
theorem entry_spec {b i j lv:Nat} {t a at_ lev:Int} {aw au af w u x:Bool} {Q:Int→Int→AH→Prop} {Kp:Value→AH→Prop} (h:Own l A) (e1:l[i]? = some (RamS r fr hs M)) (e2:l[j]? = some (At b (wcell r a aw au af w u x)))
  (hl:hs.length≤64) (hf:0≤fr∧fr≤1048576) (ht:0≤t∧t<1048576) (hat:at_=partZ a (12+9*lv)) (hlev:lev=(lv:Int)+1)
  (h2:hasF fr hs t=false→Kp (.iface ty_walk_stop (.agg #[.int .u64 0,.int .i64 0,.int .i64 2])) A)
  (h0:hasF fr hs t=true→bitZ (le M (placeZ t a lv) 8) 0=false→Kp (.iface ty_walk_stop (.agg #[.int .u64 a,.int .i64 (codeZ aw au af),.int .i64 9])) A)
  (h9:hasF fr hs t=true→bitZ (le M (placeZ t a lv) 8) 0=true→resvd (le M (placeZ t a lv) 8) ((lv:Int)+1)=true→Kp (.iface ty_walk_stop (.agg #[.int .u64 a,.int .i64 (9+codeZ aw au af),.int .i64 9])) A)
  (hk:hasF fr hs t=true→bitZ (le M (placeZ t a lv) 8) 0=true→resvd (le M (placeZ t a lv) 8) ((lv:Int)+1)=false→∀ A',
   Own (l.set j (At b (wcell r a aw au af (w&&bitZ (le M (placeZ t a lv) 8) 1) (u&&bitZ (le M (placeZ t a lv) 8) 2) (x&&!bitZ (le M (placeZ t a lv) 8) 63)))) A'→Q (le M (placeZ t a lv) 8) (placeZ t a lv) A') :
  qdv_A (some ⟨b,0,none⟩) t at_ lev Q Kp A:=by
 subst hat hlev
 have hb:=place_bound (a:=a) (lv:=lv) ht
 have hjl:=(List.getElem?_eq_some_iff.1 e2).1
 have hU:=word_u64 h e1 (placeZ t a lv)
 unfold qdv_A qdv_G
 refine ld_P (i:=j) h e2 rfl ?_
 rw [place_wrap ht ⟨hb.1,hb.2.1⟩]
 have hok:=okA_word (fr:=fr) (hs:=hs) (t:=t) (at_:=partZ a (12+9*lv)) ⟨hb.1,hb.2.1⟩
 refine Load_spec (n:=8) h e1 hl hf (by omega) ⟨hb.2.2.1,Int.lt_trans hb.2.2.2 (by omega)⟩ ?_
 have hok2:okA fr hs (t*4096+8*partZ a (12+9*lv)) ((8:Nat):Int)=hasF fr hs t:=hok
 rw [hok2]
 have hp:t*4096+8*partZ a (12+9*lv)=placeZ t a lv:=rfl
 rw [hp]
 generalize hx:le M (placeZ t a lv) 8=e at *
 cases hh:hasF fr hs t with
 | false=>exact ⟨fun _=>False,fun _ q=>q.elim,bsel_t rfl (h2 hh)⟩
 | true=>
  simp only [↓reduceIte]
  refine ⟨fun h7=>h7=A,?_,bsel_f rfl rfl⟩
  intro h7 q
  subst q
  refine ⟨fun h12=>h12=h7∧bitZ e 0=true,?_,?_⟩
  ·intro h12 ⟨q1,q2⟩
   subst q1
   refine ⟨fun h19=>h19=h12∧resvd e ((lv:Int)+1)=false,?_,?_⟩
   ·intro h19 ⟨q3,q4⟩
    subst q3
    refine Unpack_spec hU h fun A3 h3=>?_
    refine ⟨fun h38=>Own (l.set j (At b (wcell r a aw au af (w&&bitZ e 1) u x))) h38,?_,?_⟩
    ·intro h38 g38
     refine ⟨fun h46=>Own (l.set j (At b (wcell r a aw au af (w&&bitZ e 1) (u&&bitZ e 2) x))) h46,?_,?_⟩
     ·intro h46 g46
      have e3:(l.set j (At b (wcell r a aw au af (w&&bitZ e 1) (u&&bitZ e 2) x)))[j]? = some (At b (wcell r a aw au af (w&&bitZ e 1) (u&&bitZ e 2) x)):=by simp [hjl]
      refine ld_B (i:=j) g46 e3 rfl ?_
      refine bsel_in (fun c=>?_) fun c=>?_
      ·refine st_C (i:=j) g46 e3 rfl rfl fun A4 h4=>?_
       rw [List.set_set] at h4
       exact hk hh q2 q4 _ (by rw [c];exact h4)
      ·refine st_C (i:=j) g46 e3 rfl rfl fun A4 h4=>?_
       rw [List.set_set] at h4
       exact hk hh q2 q4 _ (by rw [c];exact h4)
     ·have e3:(l.set j (At b (wcell r a aw au af (w&&bitZ e 1) u x)))[j]? = some (At b (wcell r a aw au af (w&&bitZ e 1) u x)):=by simp [hjl]
      refine ld_B (i:=j) g38 e3 rfl ?_
      refine bsel_in (fun c=>?_) fun c=>?_
      ·refine st_C (i:=j) g38 e3 rfl rfl fun A4 h4=>?_
       rw [List.set_set] at h4
       rw [c]
       exact h4
      ·refine st_C (i:=j) g38 e3 rfl rfl fun A4 h4=>?_
       rw [List.set_set] at h4
       rw [c]
       exact h4
    ·refine ld_B (i:=j) h3 e2 rfl ?_
     refine bsel_in (fun c=>?_) fun c=>?_
     ·refine st_C (i:=j) h3 e2 rfl rfl fun A4 h4=>?_
      rw [c]
      exact h4
     ·refine st_C (i:=j) h3 e2 rfl rfl fun A4 h4=>?_
      rw [c]
      exact h4
   ·refine Reserved_spec hU ?_
    refine bsel_in (fun c=>?_) fun c=>⟨rfl,c⟩
    exact fault_spec (.inr (.inr rfl)) h e2 (h9 hh q2 c)
  ·rw [bit0 hU]
   refine bsel_in (fun c=>?_) fun c=>⟨rfl,by simpa using c⟩
   refine fault_spec (.inl rfl) h e2 ?_
   rw [Int.zero_add]
   exact h0 hh (by simpa using c)
theorem or5_eq {x:Int} (hx:U64 x):bits .or .u64 x 32=or5 x:=bitZ_or 5 32 rfl (by omega) hx.1 hx.2
theorem or6_eq {x:Int} (hx:U64 x):bits .or .u64 x 64=or6 x:=bitZ_or 6 64 rfl (by omega) hx.1 hx.2
theorem bit_room {x:Int} (k:Nat) (m:Int) (hm:m=2 ^ k) (hk:k≤62) (hx:U64 x) (hb:bitZ x k=false):U64 (x+m):=by
 subst hm
 have hv:=bitZ_val x k
 rw [hb] at hv
 have hp:(0:Int)<2 ^ k:=Int.pow_pos (by omega)
 have h1:=hx.1
 have h2:=hx.2
 refine ⟨by omega,?_⟩
 -- the part above the bit is even, so there is room
 have h3:=mod_pow_succ (x:=x) k
 rw [←hv] at h3
 simp at h3
 have h4:=Int.mul_ediv_add_emod x (2 ^ (k+1))
 have h5:=Int.emod_lt_of_pos x hp
 rw [h3] at h4
 have h6:(2:Int) ^ (k+1)*(2 ^ (63-k))=18446744073709551616:=by rw [←Int.pow_add,show k+1+(63-k)=64 by omega];rfl
 have h7:x / 2 ^ (k+1)<2 ^ (63-k):=Int.ediv_lt_of_lt_mul (Int.pow_pos (by omega)) (by rw [Int.mul_comm,h6];exact h2)
 have h8:(2:Int) ^ (k+1)*(x / 2 ^ (k+1))≤2 ^ (k+1)*(2 ^ (63-k)-1):=Int.mul_le_mul_of_nonneg_left (by omega) (Int.pow_nonneg (by omega))
 rw [Int.mul_sub,h6,Int.mul_one] at h8
 have h9:(2:Int) ^ (k+1)=2 ^ k*2:=Int.pow_succ _ _
 omega
theorem or5_u64 {x:Int} (hx:U64 x):U64 (or5 x):=by
 unfold or5
 cases h:bitZ x 5
 ·simpa using bit_room 5 32 rfl (by omega) hx h
 ·simpa using hx
theorem or6_u64 {x:Int} (hx:U64 x):U64 (or6 x):=by
 unfold or6
 cases h:bitZ x 6
 ·simpa using bit_room 6 64 rfl (by omega) hx h
 ·simpa using hx
def u64s (ps:List Int):List Value:=ps.map fun p=>.int .u64 p
def markV (wr last:Bool) (x:Int):Int:=if wr&&last then or6 (or5 x) else or5 x
def PlacesOK (fr:Int) (hs:List (Int × Int)) (ps:List Int):Prop:=∀ p ∈ ps,okA fr hs p 8=true∧0≤p∧p+8≤18446744073709551616
theorem mark_spec {i k:Nat} {s:Sl} {ps:List Int} {wr:Bool} {Q:AH→Prop} (h:Own l A) (e1:l[i]? = some (RamS r fr hs M)) (e2:l[k]? = some (SlAt s 1 (u64s ps))) (hik:i≠k)
  (hl:hs.length≤64) (hf:0≤fr∧fr≤1048576) (hps:PlacesOK fr hs ps) (hn:ps.length≤4) (hk:∀ A',Own (l.set i (RamS r fr hs (markL M wr ps))) A'→Q A'):qdw_A (some ⟨r,0,none⟩) s wr Q A:=by
 have hil:=(List.getElem?_eq_some_iff.1 e1).1
 have hlen:s.len=ps.length:=by have:=sl_len h e2;simp [u64s] at this;omega
 unfold qdw_A qdw_G
 refine ⟨fun q m h'=>∃ (j:Nat) (N:Int→Int),q=j∧j≤ps.length∧m=ps.length-j∧markL N wr (ps.drop j)=markL M wr ps∧Own (l.set i (RamS r fr hs N)) h',⟨_,0,M,rfl,by omega,rfl,by simp,?_⟩,?_⟩
 ·rw [show l.set i (RamS r fr hs M)=l from ?_]
  ·exact h
  ·apply List.ext_getElem?
   intro c
   rw [List.getElem?_set]
   split
   ·rename_i g;subst g;exact e1.symm
   ·rfl
 intro q m h' ⟨j,N,g1,g2,g3,g4,g5⟩
 subst g1 g3
 have ei:(l.set i (RamS r fr hs N))[i]? = some (RamS r fr hs N):=by simp [hil]
 have ek:(l.set i (RamS r fr hs N))[k]? = some (SlAt s 1 (u64s ps)):=by rw [List.getElem?_set_ne hik];exact e2
 refine bsel_in (fun c=>?_) fun c=>?_
 ·have c:j<ps.length:=by simp [hlen] at c;omega
  obtain ⟨p,hp⟩:∃ p,ps[j]? = some p:=⟨ps[j],by simp [c]⟩
  have hd:ps.drop j=p::ps.drop (j+1):=by
   rw [List.drop_eq_getElem_cons c]
   have:=(List.getElem?_eq_some_iff.1 hp).2
   rw [this]
  have hok:=hps p (List.mem_of_getElem? hp)
  have hU:=word_u64 g5 ei p
  rw [hd] at g4
  have hstep:markL (stM N p 8 (markV wr (ps.drop (j+1)).isEmpty (le N p 8))) wr (ps.drop (j+1))=markL M wr ps:=g4
  have hnext:∀ A',Own (l.set i (RamS r fr hs (stM N p 8 (markV wr (ps.drop (j+1)).isEmpty (le N p 8))))) A'→∃ m3,m3<ps.length-j∧∃ (j':Nat) (N:Int→Int),IntKind.wrap .i64 ((j:Int)+1)=j'∧j'≤ps.length∧m3=ps.length-j'∧markL N wr (ps.drop j')=markL M wr ps∧Own (l.set i (RamS r fr hs N)) A':=
   fun A' hA=>⟨ps.length-(j+1),by omega,j+1,_,by rw [w64]<;>omega,by omega,rfl,hstep,hA⟩
  refine ⟨fun h''=>Own (l.set i (RamS r fr hs (stM N p 8 (markV wr (ps.drop (j+1)).isEmpty (le N p 8))))) h'',fun h'' q=>hnext h'' q,?_⟩
  obtain ⟨b,o,q1,q2⟩:=sl_cell g5 ek (j:=j) (v:=.int .u64 p) (by simp [u64s,hp])
  rw [q1]
  refine inB_in (by omega) (by rw [hlen];omega) ⟨p,?_,?_⟩
  ·rw [add_at];simpa using q2
  refine Load_spec (n:=8) g5 ei hl hf (by omega) ⟨hok.2.1,by omega⟩ ?_
  have hok2:okA fr hs p ((8:Nat):Int)=true:=hok.1
  rw [hok2]
  simp only [↓reduceIte]
  refine ⟨fun y h''=>h''=h'∧y=markV wr (ps.drop (j+1)).isEmpty (le N p 8),?_,?_⟩
  ·intro y h'' ⟨q3,q4⟩
   subst q3 q4
   refine bsel_in (fun c2=>?_) fun c2=>?_
   ·refine Store_at (n:=8) g5 ei hl hf (by omega) ⟨hok.2.1,by omega⟩ (fun q=>by rw [hok2] at q;cases q) fun _ A' hA=>?_
    rw [List.set_set] at hA
    exact hA
   ·have c2:markV wr (ps.drop (j+1)).isEmpty (le N p 8)=le N p 8:=by simpa using c2
    rw [c2,st_same (RamS.byte g5 ei)]
    exact g5
  ·have hlast:((j:Int)==IntKind.wrap .i64 (Int.ofNat s.len-1))=(ps.drop (j+1)).isEmpty:=by
    rw [w64 (by simp [hlen];omega) (by simp [hlen];omega),hlen]
    by_cases g:j+1=ps.length
    ·have:(ps.drop (j+1)).isEmpty=true:=by simp;omega
     rw [this];simp;omega
    ·have:(ps.drop (j+1)).isEmpty=false:=by simp;omega
     rw [this];simp;omega
   rw [hlast,or5_eq hU,or6_eq (or5_u64 hU)]
   unfold markV
   refine bsel_in (fun c3=>?_) fun c3=>?_
   ·refine bsel_in (fun c4=>⟨rfl,?_⟩) fun c4=>⟨rfl,?_⟩
    ·rw [c3,c4];rfl
    ·rw [c3,c4];rfl
   ·exact ⟨rfl,by rw [c3];rfl⟩
 ·have:j=ps.length:=by simp [hlen] at c;omega
  subst this
  rw [List.drop_length] at g4
  have g4:N=markL M wr ps:=g4
  rw [g4] at g5
  exact hk _ g5
end Go.Dn
/- Entries written and read. -/
namespace Go.Dn
variable {A:AH} {l R:List SP} {r:Nat} {fr:Int} {hs:List (Int × Int)} {M:Int→Int}
def eZ (b:Bool):Int:=if b then 1 else 0
theorem eZ_b (b:Bool):0≤eZ b∧eZ b≤1:=by cases b<;>decide
def packZ (b0 b1 b2 b3 b4 b5 b6 b7:Bool) (f:Int):Int:=f*4096+eZ b0+2*eZ b1+4*eZ b2+32*eZ b3+64*eZ b4+128*eZ b5+256*eZ b6+9223372036854775808*eZ b7
def pkZ (p:Nat→Bool) (f:Int):Nat→Int
 | 0=>f*4096
 | j+1=>pkZ p f j+2 ^ placeN j*eZ (p j)
theorem pack_bits (b0 b1 b2 b3 b4 b5 b6 b7:Bool) {f:Int} (hf:0≤f∧f<1048576):bitZ (packZ b0 b1 b2 b3 b4 b5 b6 b7 f) 0=b0∧bitZ (packZ b0 b1 b2 b3 b4 b5 b6 b7 f) 1=b1∧bitZ (packZ b0 b1 b2 b3 b4 b5 b6 b7 f) 2=b2∧
  bitZ (packZ b0 b1 b2 b3 b4 b5 b6 b7 f) 5=b3∧bitZ (packZ b0 b1 b2 b3 b4 b5 b6 b7 f) 6=b4∧bitZ (packZ b0 b1 b2 b3 b4 b5 b6 b7 f) 7=b5∧bitZ (packZ b0 b1 b2 b3 b4 b5 b6 b7 f) 8=b6∧bitZ (packZ b0 b1 b2 b3 b4 b5 b6 b7 f) 63=b7∧
  frameZ (packZ b0 b1 b2 b3 b4 b5 b6 b7 f)=f∧U64 (packZ b0 b1 b2 b3 b4 b5 b6 b7 f):=by
 have h0:=eZ_b b0
 have h1:=eZ_b b1
 have h2:=eZ_b b2
 have h3:=eZ_b b3
 have h4:=eZ_b b4
 have h5:=eZ_b b5
 have h6:=eZ_b b6
 have h7:=eZ_b b7
 have key:∀ (x:Int) (k:Nat) (b:Bool),x / 2 ^ k % 2=eZ b→bitZ x k=b:=by
  intro x k b h
  unfold bitZ
  rw [h]
  cases b<;>rfl
 refine ⟨key _ _ _ ?_,key _ _ _ ?_,key _ _ _ ?_,key _ _ _ ?_,key _ _ _ ?_,key _ _ _ ?_,key _ _ _ ?_,key _ _ _ ?_,?_,?_⟩
 all_goals unfold packZ
 ·omega
 ·omega
 ·omega
 ·omega
 ·omega
 ·omega
 ·omega
 ·omega
 ·unfold frameZ;omega
 ·unfold U64;omega
theorem pk_step (p:Nat→Bool) {f:Int} (hf:0≤f∧f<1048576) {j:Nat} (hj:j<8):bitZ (pkZ p f j) (placeN j)=false∧U64 (pkZ p f j):=by
 have h0:=eZ_b (p 0)
 have h1:=eZ_b (p 1)
 have h2:=eZ_b (p 2)
 have h3:=eZ_b (p 3)
 have h4:=eZ_b (p 4)
 have h5:=eZ_b (p 5)
 have h6:=eZ_b (p 6)
 have key:∀ (x:Int) (k:Nat),x / 2 ^ k % 2=0→bitZ x k=false:=by
  intro x k h
  unfold bitZ
  rw [h];rfl
 obtain rfl | rfl | rfl | rfl | rfl | rfl | rfl | rfl:j=0∨j=1∨j=2∨j=3∨j=4∨j=5∨j=6∨j=7:=by omega
 all_goals (refine ⟨key _ _ ?_,?_⟩<;>simp only [pkZ,placeN,U64]<;>omega)
theorem pk_8 (b0 b1 b2 b3 b4 b5 b6 b7:Bool) (f:Int):pkZ (fun i=>[b0,b1,b2,b3,b4,b5,b6,b7].getD i false) f 8=packZ b0 b1 b2 b3 b4 b5 b6 b7 f:=by
 simp only [pkZ,placeN,packZ,List.getD_cons_zero,List.getD_cons_succ]
 omega
set_option maxHeartbeats 1000000 in
theorem Pack_spec {b0 b1 b2 b3 b4 b5 b6 b7:Bool} {f:Int} {Q:Int→Int→AH→Prop} (h:Own l A) (hf:0≤f∧f<1048576) (hk:∀ A',Own l A'→Q (packZ b0 b1 b2 b3 b4 b5 b6 b7 f) 0 A'):qbl_A b0 b1 b2 b3 b4 b5 b6 b7 f Q A:=by
 unfold qbl_A qbl_G
 show newA A (.cells [.bool b0,.bool b1,.bool b2,.bool b3,.bool b4,.bool b5,.bool b6,.bool b7,.int .i64 f].toArray _) _
 refine new_C h fun b A1 h1=>?_
 simp only [add_at]
 refine ⟨fun h6=>h6=A1,?_,ld_I (i:=0) h1 rfl rfl (bsel_f (by simp;omega) (ld_I (i:=0) h1 rfl rfl (bsel_f (by simp;omega) rfl)))⟩
 intro A2 e2
 subst e2
 refine ld_I (i:=0) h1 rfl rfl ?_
 unfold qbj_A
 simp only [onSome,add_at]
 refine ⟨fun x y m h'=>h'=A2∧∃ j:Nat,y=j∧j≤8∧8-j=m∧x=pkZ (fun i=>[b0,b1,b2,b3,b4,b5,b6,b7].getD i false) f j,⟨_,rfl,0,rfl,by omega,rfl,?_⟩,?_⟩
 ·rw [wu64 (n:=f) (by omega) (by omega)]
  show IntKind.wrap .u64 (f*4096)=f*4096
  rw [wu64]<;>omega
 intro x y m h' ⟨e0,j,e1,e2,e3,e4⟩
 subst e0 e1 e3 e4
 refine bsel_in (fun c=>?_) fun c=>?_
 rotate_left
 ·have:j=8:=by simp at c;omega
  subst this
  rw [pk_8]
  exact hk _ h1.tail
 have c:j<8:=by simp at c;omega
 obtain ⟨hb,hU⟩:=pk_step (fun i=>[b0,b1,b2,b3,b4,b5,b6,b7].getD i false) hf c
 have hpl:placeN j≤63:=by
  obtain rfl | rfl | rfl | rfl | rfl | rfl | rfl | rfl:j=0∨j=1∨j=2∨j=3∨j=4∨j=5∨j=6∨j=7:=by omega
  all_goals decide
 have hp:([.pointer (some ⟨b,0,none⟩),.pointer (some ⟨b,0+1,none⟩),.pointer (some ⟨b,0+2,none⟩),.pointer (some ⟨b,0+3,none⟩),.pointer (some ⟨b,0+4,none⟩),.pointer (some ⟨b,0+5,none⟩),.pointer (some ⟨b,0+6,none⟩),.pointer (some ⟨b,0+7,none⟩)]:List Value)[Int.toNat (j:Int)]? = some (.pointer (some ⟨b,j,none⟩)):=by
  obtain rfl | rfl | rfl | rfl | rfl | rfl | rfl | rfl:j=0∨j=1∨j=2∨j=3∨j=4∨j=5∨j=6∨j=7:=by omega
  all_goals rfl
 have hq:([.int .i64 0,.int .i64 1,.int .i64 2,.int .i64 5,.int .i64 6,.int .i64 7,.int .i64 8,.int .i64 63]:List Value)[Int.toNat (j:Int)]? = some (.int .i64 (placeN j)):=by
  obtain rfl | rfl | rfl | rfl | rfl | rfl | rfl | rfl:j=0∨j=1∨j=2∨j=3∨j=4∨j=5∨j=6∨j=7:=by omega
  all_goals rfl
 have hc:([.bool b0,.bool b1,.bool b2,.bool b3,.bool b4,.bool b5,.bool b6,.bool b7,.int .i64 f]:List Value)[j]? = some (.bool ([b0,b1,b2,b3,b4,b5,b6,b7].getD j false)):=by
  obtain rfl | rfl | rfl | rfl | rfl | rfl | rfl | rfl:j=0∨j=1∨j=2∨j=3∨j=4∨j=5∨j=6∨j=7:=by omega
  all_goals rfl
 refine ⟨fun x h9=>h9=h'∧x=pkZ (fun i=>[b0,b1,b2,b3,b4,b5,b6,b7].getD i false) f (j+1),fun x h9 ⟨q1,q2⟩=>⟨8-(j+1),by omega,q1,j+1,by rw [w64]<;>omega,by omega,rfl,q2⟩,?_⟩
 refine inB_in (by omega) (by omega) ⟨_,hp,?_⟩
 refine ld_B (i:=0) h1 rfl hc ?_
 unfold qbk_A
 cases hv:[b0,b1,b2,b3,b4,b5,b6,b7].getD j false with
 | false=>exact ⟨rfl,by simp only [pkZ,hv,eZ];simp⟩
 | true=>
  refine inB_in (by omega) (by omega) ⟨_,hq,bsel_f (by simp) ⟨rfl,?_⟩⟩
  rw [show min (Int.toNat (placeN j:Int)) 64=placeN j by omega,Int.one_mul]
  have h2p:(2:Int) ^ placeN j=((2 ^ placeN j:Nat):Int):=by simp
  have hle:(2:Int) ^ placeN j≤2 ^ 63:=by
   have:(2:Nat) ^ placeN j≤2 ^ 63:=Nat.pow_le_pow_right (by omega) hpl
   have h3:((2 ^ placeN j:Nat):Int)≤((2 ^ 63:Nat):Int):=Int.ofNat_le.2 this
   simpa using h3
  have hpos:(0:Int)<2 ^ placeN j:=Int.pow_pos (by omega)
  rw [wu64 (n:=(2:Int) ^ placeN j) (by omega) (by omega),bitZ_or (placeN j) (2 ^ placeN j) h2p hpl hU.1 hU.2,hb]
  simp only [pkZ,hv,eZ]
  simp
end Go.Dn
