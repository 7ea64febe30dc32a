/- What the proof stands on: Cpu, Cpu2, Cpu3. -/
import Derived.Test.YtmfmhmipcdgikaaGreatBitsU
import Derived.Test.YtmfmhmipcdgikaaGreatLnP
/- A processor: what is chosen, found, evicted. -/
namespace Go.Dn
variable {A:AH} {l R:List SP} {p:Nat} {ls:List Ln}
theorem FindT_spec {tag page:Int} {Q:Bool→Int→Int→Int→Bool→Bool→Bool→Bool→Bool→Bool→AH→Prop} (h:Own (TlbS p ls::R) A) (hp:0≤page∧page<9223372036854775808)
  (hn:∀ A',Own (TlbS p ls::R) A'→Q false 0 0 0 false false false false false false A')
  (hk:∀ y ∈ ls,fitsB tag page y=true→∀ A',Own (TlbS p ls::R) A'→Q y.v y.tag y.page y.frame y.w y.u y.x y.g y.d true A') :
  qdf_A (some ⟨p,0,none⟩) tag page Q A:=by
 obtain ⟨hl,h⟩:=TlbS.openH h
 unfold qdf_A qdf_G qdb_A
 refine new_C (cs:=[.int .i64 tag]) h fun b1 A1 h1=>?_
 refine new_C (cs:=[.int .i64 page]) h1 fun b3 A2 h2=>?_
 simp only [onSome_some,add_at,Nat.zero_add]
 refine ld_I (i:=0) h2 rfl rfl ?_
 rw [and7 hp.1 hp.2]
 obtain ⟨s,hs⟩:∃ s:Nat,page % 8=s:=⟨(page % 8).toNat,by omega⟩
 have hs8:s<8:=by omega
 rw [hs]
 simp only [Int.toNat_natCast]
 refine inB_in (by omega) (by omega) ?_
 unfold qde_A qde_G qdd_A qdd_G qdc_A
 simp only [onSome_some,add_at,Nat.zero_add]
 refine ⟨fun x m A'=>∃ v:Nat,x=v∧m+v=2∧A'=A2,⟨2,0,rfl,rfl,rfl⟩,?_⟩
 intro x m A3 ⟨v,e1,e2,e3⟩
 subst e1 e3
 refine bsel_in (fun c=>?_) fun c=>?_
 ·have c:(v:Int)<2:=of_decide_eq_true c
  obtain ⟨y,hy⟩:∃ y,ls[s*2+v]? = some y:=⟨ls[s*2+v]'(by omega),by simp⟩
  simp only [Int.toNat_natCast]
  refine inB_in (by omega) c ?_
  refine rd_ln (i:=2) (k:=s*2+v) h2 rfl hy (by omega) ?_
  refine ld_I (i:=1) h2 rfl rfl (ld_I (i:=0) h2 rfl rfl ?_)
  have next:∃ m3,m3<m∧∃ v':Nat,IntKind.wrap .i64 ((v:Int)+1)=v'∧m3+v'=2∧True:=⟨m-1,by omega,v+1,by rw [w64]<;>omega,by omega,trivial⟩
  have yes:fitsB tag page y=true→_:=fun z=>hk y (List.mem_of_getElem? hy) z A3 (TlbS.closeH hl h2.tail.tail)
  have go:fitsB tag page y=true→bsel (decide ((v:Int)≥0)) (inB (v:Int) 2 (aB ⟨p,s*18+v*9,none⟩ A3 fun b11=>aI .i64 ⟨p,s*18+v*9+1,none⟩ A3 fun n12=>aI .i64 ⟨p,s*18+v*9+2,none⟩ A3 fun n13=>aI .i64 ⟨p,s*18+v*9+3,none⟩ A3 fun n14=>aB ⟨p,s*18+v*9+4,none⟩ A3 fun b15=>aB ⟨p,s*18+v*9+5,none⟩ A3 fun b16=>aB ⟨p,s*18+v*9+6,none⟩ A3 fun b17=>aB ⟨p,s*18+v*9+7,none⟩ A3 fun b18=>aB ⟨p,s*18+v*9+8,none⟩ A3 fun b19=>Q b11 n12 n13 n14 b15 b16 b17 b18 b19 true A3)) (Q false 0 0 0 false false false false false false A3):=fun z=>
   bsel_t (by simp) (inB_in (by omega) c (rd_ln (i:=2) (k:=s*2+v) h2 rfl hy (by omega) (yes z)))
  refine bsel_in (fun a1=>bsel_in (fun a2=>bsel_in (fun a3=>bsel_t rfl (go (by unfold fitsB;rw [a1,a2,a3];rfl))) fun a3=>?_) fun a2=>bsel_f rfl next) fun a1=>bsel_f rfl next
  refine bsel_in (fun a4=>go (by unfold fitsB;rw [a1,a2,a3,a4];rfl)) fun a4=>next
 ·have c:¬(v:Int)<2:=of_decide_eq_false c
  exact bsel_f rfl (hn A3 (TlbS.closeH hl h2.tail.tail))
theorem EvictT_spec {a b:Int} {Q:Int→AH→Prop} (h:Own (TlbS p ls::R) A) (ha:0≤a∧a<8) (hb:0≤b∧b<2) (hk:∀ k A',Own (TlbS p (ls.set k ln0)::R) A'→Q 0 A'):qct_A (some ⟨p,0,none⟩) a b Q A:=by
 obtain ⟨hl,h⟩:=TlbS.openH h
 unfold qct_A
 simp only [onSome_some,add_at,Nat.zero_add]
 refine bsel_f (by simp;omega) (bsel_f (by simp;omega) (bsel_f (by simp;omega) (bsel_f (by simp;omega) (inB_in (by omega) (by omega) (inB_in (by omega) (by omega) ?_)))))
 obtain ⟨y,hy⟩:∃ y,ls[a.toNat*2+b.toNat]? = some y:=⟨ls[a.toNat*2+b.toNat]'(by omega),by simp⟩
 exact wr_ln (m:=ln0) (K:=fun A'=>Q 0 A') h hy (o:=a.toNat*18+b.toNat*9) (by omega) fun A1 h1=>hk _ A1 (TlbS.closeH (by simp [hl]) h1)
def CpuS (cp:Nat) (m:Nat) (n:Nat):SP:=fun B=>∃ (s:Sl) (ch:List Int) (at_:Nat),(at_≤ch.length∧ch.length=n∧n≤1000000000)∧Own [At cp [.pointer (some ⟨m,0,none⟩),.slice s.a s.len s.cap,.int .i64 at_],SlO s 1 (ch.map (.int .i64))] B
theorem CpuS.openH {cp m n:Nat} (h:Own (CpuS cp m n::R) A):∃ (s:Sl) (ch:List Int) (at_:Nat),(at_≤ch.length∧ch.length=n∧n≤1000000000)∧Own (At cp [.pointer (some ⟨m,0,none⟩),.slice s.a s.len s.cap,.int .i64 at_]::SlO s 1 (ch.map (.int .i64))::R) A:=by
 obtain ⟨s,h⟩:=Own.ex h
 obtain ⟨ch,h⟩:=Own.ex h
 obtain ⟨at_,h⟩:=Own.ex h
 obtain ⟨h1,h⟩:=Own.pure h
 exact ⟨s,ch,at_,h1,Own.flat h⟩
theorem CpuS.closeH {cp m n:Nat} {s:Sl} {ch:List Int} {at_:Nat} (h1:at_≤ch.length∧ch.length=n∧n≤1000000000) (h:Own (At cp [.pointer (some ⟨m,0,none⟩),.slice s.a s.len s.cap,.int .i64 at_]::SlO s 1 (ch.map (.int .i64))::R) A):Own (CpuS cp m n::R) A:=
 (Own.app (l:=[At cp [.pointer (some ⟨m,0,none⟩),.slice s.a s.len s.cap,.int .i64 at_],SlO s 1 (ch.map (.int .i64))]) h).imp fun _ hB=>⟨s,ch,at_,h1,hB⟩
variable {c:Mb} {u:Int} {F G:Int→Prop} {W:Int→Int→Int} {z:PcZ} {sps:List (Int × Value)} {X:SP} {cp n:Nat}
theorem MacL.cpu (h:Own (MacL c F G W u ls z sps (X::CpuS cp c.m n::l)) A):Own (CpuS cp c.m n::MacL c F G W u ls z sps (X::l)) A:=by
 unfold MacL StdO at h ⊢
 exact h.pick 8 rfl
theorem MacL.cpuB (h:Own (CpuS cp c.m n::MacL c F G W u ls z sps (X::l)) A):Own (MacL c F G W u ls z sps (X::CpuS cp c.m n::l)) A:=by
 have:=Own.back (l:=MacL c F G W u ls z sps (X::CpuS cp c.m n::l)) (P:=CpuS cp c.m n) (P':=CpuS cp c.m n) 8 rfl h
 exact this
theorem cpu_m {K:Option Addr→Prop} (h:Own (MacL c F G W u ls z sps (X::CpuS cp c.m n::l)) A) (hk:K (some ⟨c.m,0,none⟩)):aP ⟨cp,0,none⟩ A K:=by
 obtain ⟨s,ch,at_,_,h1⟩:=CpuS.openH (MacL.cpu h)
 exact ld_P (i:=0) h1 rfl rfl hk
theorem reads_slC {s:Sl} {sz:Nat} {cs:List Value}:Reads (SlO s sz cs) s sz cs:=fun B A h u=>reads_slat B A h.look u
theorem choose_spec {V:Vw} {Q:Int→AH→Prop} (h:Own (MacL c F G W u ls z sps (X::CpuS cp c.m n::l)) A) (hV:LnOK V ls)
  (hk:∀ way ls' A',-1≤way→way<2→LnOK V ls'→Own (MacL c F G W u ls' z sps (X::CpuS cp c.m n::l)) A'→Q way A'):qcu_A (some ⟨cp,0,none⟩) Q A:=by
 obtain ⟨s,ch,at_,⟨h1,h2,h3⟩,hA⟩:=CpuS.openH (MacL.cpu h)
 have hlen:s.len=ch.length:=by
  have:=rd_len (i:=1) hA rfl (reads_slC (s:=s))
  simpa using this
 unfold qcu_A qcu_G
 simp only [onSome_some,add_at,Nat.zero_add]
 refine ⟨fun _ A'=>Own (MacL c F G W u ls z sps (X::CpuS cp c.m n::l)) A',fun x A1 hA1=>?_,?_⟩
 ·obtain ⟨k,hk0⟩:∃ k,Int.tmod (IntKind.wrap .i64 (Int.tmod x 51+51)) 51=k:=⟨_,rfl⟩
  have hk1:0≤k∧k<51:=by
   rw [←hk0]
   have e1 : -51<Int.tmod x 51∧Int.tmod x 51<51:=by
    have:=Int.lt_tmod_of_pos x (show (0:Int)<51 by omega)
    have:=Int.tmod_lt_of_pos x (show (0:Int)<51 by omega)
    omega
   rw [w64 (by omega) (by omega)]
   have:=Int.tmod_nonneg 51 (show 0≤Int.tmod x 51+51 by omega)
   have:=Int.tmod_lt_of_pos (Int.tmod x 51+51) (show (0:Int)<51 by omega)
   omega
  rw [hk0]
  have e3:Int.tmod k 3=k % 3:=Int.tmod_eq_emod_of_nonneg hk1.1
  have e4:Int.tdiv k 3=k / 3:=Int.tdiv_eq_ediv_of_nonneg hk1.1
  rw [e3,e4,w64 (n:=k / 3) (by omega) (by omega),w64 (n:=k / 3-1) (by omega) (by omega),w64 (n:=k % 3-1) (by omega) (by omega)]
  refine ⟨fun A'=>∃ ls',LnOK V ls'∧Own (MacL c F G W u ls' z sps (X::CpuS cp c.m n::l)) A',fun A2 ⟨ls',v1,hA2⟩=>hk _ ls' A2 (by omega) (by omega) v1 hA2,?_⟩
  refine bsel_in (fun g=>?_) fun _=>⟨ls,hV,hA1⟩
  have g:k / 3-1≥0:=of_decide_eq_true g
  refine cpu_m hA1 ?_
  simp only [onSome_some,add_at,Nat.zero_add]
  refine ld_P (i:=3) hA1 rfl rfl ?_
  have e5:Int.tmod (k / 3-1) 8=(k / 3-1) % 8:=Int.tmod_eq_emod_of_nonneg g
  have e6:Int.tdiv (k / 3-1) 8=(k / 3-1) / 8:=Int.tdiv_eq_ediv_of_nonneg g
  rw [e5,e6,w64 (n:=(k / 3-1) / 8) (by omega) (by omega)]
  exact EvictT_spec (MacL.tlb hA1) (by omega) (by omega) fun j A2 hA2=>⟨_,hV.evict,MacL.tlbB hA2⟩
 ·refine ld_I (i:=0) hA rfl rfl (ld_S (i:=0) hA rfl rfl ?_)
  refine bsel_in (fun g=>?_) fun _=>h
  have g:(at_:Int)<s.len:=of_decide_eq_true g
  refine ld_S (i:=0) hA rfl rfl (ld_I (i:=0) hA rfl rfl ?_)
  obtain ⟨y,hy⟩:∃ y,ch[at_]? = some y:=⟨ch[at_]'(by omega),by simp⟩
  obtain ⟨b,o,q1,q2⟩:=rd_cell (i:=1) (j:=at_) (v:=.int .i64 y) hA rfl (reads_slC (s:=s)) (by rw [List.getElem?_map,hy];rfl)
  rw [q1]
  simp only [onSome_some,add_at,Int.toNat_natCast,Nat.mul_one]
  refine inB_in (by omega) g ?_
  refine ⟨y,q2,ld_I (i:=0) hA rfl rfl ?_⟩
  refine st_C (i:=0) hA rfl rfl rfl fun A2 hA2=>?_
  have hA2:Own (At cp [.pointer (some ⟨c.m,0,none⟩),.slice s.a s.len s.cap,.int .i64 (IntKind.wrap .i64 ((at_:Int)+1))]::SlO s 1 (ch.map (.int .i64))::MacL c F G W u ls z sps (X::l)) A2:=hA2
  rw [w64 (n:=(at_:Int)+1) (by omega) (by omega)] at hA2
  exact MacL.cpuB (CpuS.closeH (at_:=at_+1) ⟨by omega,h2,h3⟩ hA2)
theorem SpRoot_spec {id:Int} {s:Sl} {box root:Int} {regs:List Reg} {lent:List (Int × Int)} {Q:Int→Bool→AH→Prop} (h:Own (MacL c F G W u ls z sps (OneS p box root s regs lent::l)) A) (hs:sps.lookup id=some (ptrV p)) (hk:Q root true A) :
  qcv_A (some ⟨c.m,0,none⟩) id Q A:=by
 unfold qcv_A
 simp only [onSome_some,add_at,Nat.zero_add]
 refine ld_M (i:=3) h rfl rfl (lk_M (i:=4) h rfl ?_)
 rw [hs]
 refine ⟨some ⟨p,0,none⟩,rfl,bsel_t rfl ?_⟩
 simp only [onSome_some,add_at,Nat.zero_add]
 obtain ⟨lm,h⟩:=MacL.openOne h
 exact ld_I (i:=7) h rfl rfl hk
end Go.Dn
/- A processor: where an address leads. -/
namespace Go.Dn
variable {A:AH} {l R:List SP} {p:Nat} {ls:List Ln} {c:Mb} {u:Int} {F G:Int→Prop} {W:Int→Int→Int} {z:PcZ} {sps:List (Int × Value)} {cp n:Nat} {root:Int} {tab:Tab} {lf:Int→Option Lf} {tl:List Int} {s:Sl} {regs:List Reg} {lent:List (Int × Int)} {LF:Vw}
structure Grow (N:Int) (F G:Int→Prop) (W:Int→Int→Int) (u root:Int) (tab:Tab) (lf:Int→Option Lf) (tl:List Int) (page:Int) (y:Reg) (x:Lf) (F' G':Int→Prop) (W':Int→Int→Int) (u':Int) (tab':Tab) (lf':Int→Option Lf) (tl':List Int):Prop where
 std:StdP N F' G'
 rest:Rest G' W' root tab' lf' tl'
 leaf:lf' page=some x
 perm:x.w=y.w∧x.u=y.u∧x.x=y.x
 old:∀ q,q≠page→lf' q=lf q
 same:lf page≠none→F'=F∧G'=G∧u'=u∧tab'=tab∧lf'=lf∧tl'=tl
 new:lf page=none→F x.frame∧x.frame ∉ tl'∧(∀ j,W' x.frame j=0)∧(∀ g,F' g↔F g∧g≠x.frame∧g ∉ tl')∧(∀ g,G' g↔G g∨g=x.frame∨g ∈ tl')∧u'=u+1+((tl'.length:Int)-tl.length)∧(tl'.length:Int)≤tl.length+3∧(∀ t ∈ tl',t ∈ tl∨F t)∧∀ t ∈ tl,t ∈ tl'
 keep:∀ g,G g→g ∉ tl→W' g=W g
def updV (LF:Vw) (id:Int) (lf:Int→Option Lf):Vw:=fun i=>if i=id then lf else LF i
theorem updV_same {id:Int} {lf:Int→Option Lf}:updV LF id lf id=lf:=by unfold updV;rw [if_pos rfl]
theorem updV_id {id:Int}:updV LF id (LF id)=LF:=by
 funext i;unfold updV;split
 ·rename_i g;rw [g]
 ·rfl
theorem page_w {a:Int} (ha:0≤a∧a<140737488355328):IntKind.wrap .i64 (IntKind.wrap .u64 (Int.tdiv a 4096))=a / 4096:=by
 rw [Int.tdiv_eq_ediv_of_nonneg ha.1,wu64 (by omega) (by omega),w64 (by omega) (by omega)]
set_option maxRecDepth 20000 in
theorem frame_spec {id addr:Int} {aw:Bool} {Q:Int→AH→Prop} {Kp:Value→AP} (h:Own (MacL c F G W u ls z sps (OneS p c.T.bx root s regs lent::CpuS cp c.m n::l)) A)
  (hs:sps.lookup id=some (ptrV p)) (hp:StdP c.N F G) (hu:0≤u∧u+5≤c.T.q+1) (hN:c.N≤262144) (hR:Rest G W root tab lf tl) (hrl:regs.length≤64) (hpg:∀ y ∈ regs,0≤y.a∧y.b≤34359738368)
  (hz:PcOK z) (hV:LnOK (vw z LF) ls) (hLF:LF id=lf) (hreg:∀ q x,lf q=some x→∃ y,findR regs q=some y∧x.w=y.w∧x.u=y.u∧x.x=y.x) (ha:0≤addr∧addr<140737488355328)
  (hno:(∀ y,findR regs (addr / 4096)=some y→mayZ y.w y.u y.x aw true false=false)→∀ ls' z' A',PcOK z'→LnOK (vw z' LF) ls'→Own (MacL c F G W u ls' z' sps (OneS p c.T.bx root s regs lent::CpuS cp c.m n::l)) A'→
   Kp (.iface 226 (.agg #[.int .u64 addr,.int .i64 (codeZ aw true false+if lf (addr / 4096)=none then 0 else 1),.int .i64 9])) A')
  (hk:∀ y,findR regs (addr / 4096)=some y→mayZ y.w y.u y.x aw true false=true→∀ x F' G' W' u' tab' lf' tl' ls' z' A',Grow c.N F G W u root tab lf tl (addr / 4096) y x F' G' W' u' tab' lf' tl'→PcOK z'→LnOK (vw z' (updV LF id lf')) ls'→
   Own (MacL c F' G' W' u' ls' z' sps (OneS p c.T.bx root s regs lent::CpuS cp c.m n::l)) A'→Q x.frame A') :
  qea_A (some ⟨cp,0,none⟩) id addr aw true false Q Kp A:=by
 unfold qea_A qea_G
 simp only [onSome_some,add_at,Nat.zero_add]
 rw [page_w ha]
 obtain ⟨pg,hpge⟩:∃ pg,addr / 4096=pg:=⟨_,rfl⟩
 rw [hpge] at hno hk ⊢
 have hpg0:0≤pg∧pg<34359738368:=by omega
 refine choose_spec h hV fun way ls1 A1 w0 w1 hV1 h1=>?_
 refine cpu_m h1 (SpRoot_spec h1 hs ?_)
 refine ⟨fun A'=>Own (MacL c F G W u ls1 z sps (OneS p c.T.bx root s regs lent::CpuS cp c.m n::l)) A',fun A2 h2=>?_,bsel_f rfl h1⟩
 refine cpu_m h2 (Tag_spec h2 hz.ok fun A3 h3=>?_)
 have hV3:=hV1.tag hz id
 have hz3:=hz.get id
 obtain ⟨t1,t2,t3⟩:=hz3.to id _ (getZ_tag hz id)
 have hvw:∀ LF',vw (getZ z id).1 LF' (getZ z id).2.1 pg=LF' id pg:=fun LF'=>vw_get hz id pg
 generalize (getZ z id).1=z3 at h3 hV3 hz3 t1 t2 t3 hvw
 generalize (getZ z id).2.1=tg at h3 t1 t2 t3 hvw ⊢
 generalize (if (getZ z id).2.2=true then ls1.map (allF true) else ls1)=ls3 at h3 hV3
 have ht4:tg<4096:=by have:=hz3.ok;unfold PcZ.OK at this;omega
 refine ⟨fun A'=>Own (MacL c F G W u ls3 z3 sps (OneS p c.T.bx root s regs lent::CpuS cp c.m n::l)) A',fun A4 h4=>?_,?_⟩
 ·-- the page is used, and walked to
  have go:∀ (y:Reg) (x:Lf) F' G' W' u' tab' lf' tl' A',Grow c.N F G W u root tab lf tl pg y x F' G' W' u' tab' lf' tl'→findR regs pg=some y→mayZ y.w y.u y.x aw true false=true→
    Own (MacL c F' G' W' u' ls3 z3 sps (OneS p c.T.bx root s regs lent::CpuS cp c.m n::l)) A'→
    ∃ R42:Int→Int→AH→Prop,(∀ c43:Int,∀ c44:Int,∀ h45,R42 c43 c44 h45→qcs_A 0 c43 c44 (fun h46=>aP ⟨cp,0,none⟩ h46 fun pt50=>onSome pt50 fun a51=>aP a51 h46 fun pt52=>
     qdy_A pt52 root addr aw true false (fun n53 b54 b55 b56 b57 b58 b59 n60 n61 n62 h63=>qcs_A n62 n60 n61 (fun h64=>∃ R67:AH→Prop,(∀ h74,R67 h74→Q n53 h74)∧
      bsel (decide (way≥0)) (aP ⟨cp,0,none⟩ h64 fun pt69=>onSome pt69 fun a70=>aP (Addr.add a70 3) h64 fun pt71=>qdz_A pt71 way true tg pg n53 b54 b55 b56 false b59 (fun n72 h73=>R67 h73) h64) (R67 h64)) (fun v65 h66=>Kp v65 h66) h63) h46) (fun v47 h48=>Kp v47 h48) h45)∧
     bsel ((0:Int)==9) (R42 addr 0 A') (R42 0 0 A'):=by
   intro y x F' G' W' u' tab' lf' tl' A5 hG hfr hmay h5
   refine ⟨fun _ _ A'=>A'=A5,fun _ _ A6 e6=>?_,bsel_f rfl rfl⟩
   subst e6
   refine bsel_f rfl (cpu_m h5 ?_)
   simp only [onSome_some,add_at,Nat.zero_add]
   refine ld_P (i:=3) h5 rfl rfl ?_
   obtain ⟨p1,p2,p3⟩:=hG.perm
   refine WalkW_spec (tl:=tl') h5 hG.rest (fun f hf=>has0.2 (has0.1 (hG.std.inG f (hG.rest.inG f hf)))) ha hpge hG.leaf (by rw [p1,p2,p3];exact hmay) fun d W2 A7 hm2 hW2 h7=>?_
   have h7:Own (MacL c F' G' W2 u' ls3 z3 sps (OneS p c.T.bx root s regs lent::CpuS cp c.m n::l)) A7:=h7
   have hG2:Grow c.N F G W u root tab lf tl pg y x F' G' W2 u' tab' lf' tl':=by
    refine ⟨hG.std,hG.rest.mark hm2,hG.leaf,hG.perm,hG.old,hG.same,fun hn=>?_,fun g g1 g2=>?_⟩
    ·obtain ⟨k1,k2,k3,k4⟩:=hG.new hn
     exact ⟨k1,k2,fun j=>by rw [hW2 _ k2];exact k3 j,k4⟩
    ·rw [←hG.keep g g1 g2]
     refine hW2 g fun q=>?_
     by_cases e:lf pg=none
     ·rcases (hG.new e).2.2.2.2.2.2.2.1 g q with q | q
      ·exact g2 q
      ·exact (bud_apart h.tail).1 g q g1
     ·rw [(hG.same e).2.2.2.2.2] at q;exact g2 q
   have hV7:LnOK (vw z3 (updV LF id lf')) ls3:=hV3.mono fun i q x' hx'=>by
    unfold updV
    split
    ·rename_i gi
     rw [gi,hLF] at hx'
     by_cases e:q=pg
     ·rw [e] at hx' ⊢
      rw [(hG.same (by rw [hx'];simp)).2.2.2.2.1]
      exact hx'
     ·rw [hG.old q e];exact hx'
    ·exact hx'
   refine bsel_f rfl ⟨fun A'=>∃ ls',LnOK (vw z3 (updV LF id lf')) ls'∧Own (MacL c F' G' W2 u' ls' z3 sps (OneS p c.T.bx root s regs lent::CpuS cp c.m n::l)) A',fun A8 ⟨ls',v8,h8⟩=>hk y hfr hmay x _ _ _ _ _ _ _ ls' z3 A8 hG2 hz3 v8 h8,?_⟩
   refine bsel_in (fun gw=>?_) fun _=>⟨ls3,hV7,h7⟩
   have gw:way≥0:=of_decide_eq_true gw
   obtain ⟨wn,rfl⟩:∃ wn:Nat,way=wn:=⟨way.toNat,by omega⟩
   refine cpu_m h7 ?_
   simp only [onSome_some,add_at,Nat.zero_add]
   refine ld_P (i:=3) h7 rfl rfl ?_
   have hx0:=hG.rest.T.rangeL _ _ hG.leaf
   refine Fill_spec (m:=⟨true,tg,pg,x.frame,x.w,x.u,x.x,false,d⟩) (MacL.tlb h7) (by omega) rfl ⟨by show 0≤tg;omega,ht4⟩ ⟨by show 0≤pg;omega,by show pg<_;omega⟩ hx0.1 fun A9 h9=>⟨_,hV7.fill fun _=>⟨rfl,x,?_,rfl,rfl,rfl,rfl⟩,MacL.tlbB h9⟩
   show vw z3 (updV LF id lf') tg pg=some x
   rw [hvw,updV_same]
   exact hG.leaf
  refine cpu_m h4 ?_
  have kno:∀ A' code,code=codeZ aw true false+(if lf pg=none then 0 else 1)→(∀ y,findR regs pg=some y→mayZ y.w y.u y.x aw true false=false)→Own (MacL c F G W u ls3 z3 sps (OneS p c.T.bx root s regs lent::CpuS cp c.m n::l)) A'→
    ∃ R42:Int→Int→AH→Prop,(∀ c43:Int,∀ c44:Int,∀ h45,R42 c43 c44 h45→qcs_A 9 c43 c44 (fun h46=>aP ⟨cp,0,none⟩ h46 fun pt50=>onSome pt50 fun a51=>aP a51 h46 fun pt52=>
     qdy_A pt52 root addr aw true false (fun n53 b54 b55 b56 b57 b58 b59 n60 n61 n62 h63=>qcs_A n62 n60 n61 (fun h64=>∃ R67:AH→Prop,(∀ h74,R67 h74→Q n53 h74)∧
      bsel (decide (way≥0)) (aP ⟨cp,0,none⟩ h64 fun pt69=>onSome pt69 fun a70=>aP (Addr.add a70 3) h64 fun pt71=>qdz_A pt71 way true tg pg n53 b54 b55 b56 false b59 (fun n72 h73=>R67 h73) h64) (R67 h64)) (fun v65 h66=>Kp v65 h66) h63) h46) (fun v47 h48=>Kp v47 h48) h45)∧
     bsel ((9:Int)==9) (R42 addr code A') (R42 0 0 A'):=fun A' code hc hn hA=>by
   refine ⟨fun c43 c44 B=>c43=addr∧c44=code∧B=A',fun c43 c44 B ⟨e1,e2,e3⟩=>?_,bsel_t rfl ⟨rfl,rfl,rfl⟩⟩
   subst e1 e2 e3
   refine bsel_t rfl ?_
   rw [hc]
   exact hno hn ls3 z3 B hz3 hV3 hA
  have hap:=(bud_apart h.tail).1
  refine Touch_spec h4 hs hp hu (by omega) hR hrl hpg (fun hf A5 h5=>?_) (fun y hf hm A5 h5=>?_) (fun y x hf hm hl A5 h5=>?_) fun y hf hm hl f tk W5 tab5 A5 hff hlen htk hp5 hR5 hW5 h5=>?_
  ·refine kno A5 _ ?_ (fun y hy=>by rw [hf] at hy;cases hy) h5
   cases e:lf pg with
   | none=>simp
   | some x=>obtain ⟨y,hy,_⟩:=hreg pg x e;rw [hf] at hy;cases hy
  ·exact kno A5 _ rfl (fun y' hy=>by rw [hf] at hy;cases hy;exact hm) h5
  ·obtain ⟨y',hy',q1⟩:=hreg pg x hl
   rw [hf] at hy';cases hy'
   exact go y x F G W u tab lf tl A5 ⟨hp,hR,hl,q1,fun _ _=>rfl,fun _=>⟨rfl,rfl,rfl,rfl,rfl,rfl⟩,fun e=>absurd (hl.symm.trans e) (by simp),fun _ _ _=>rfl⟩ hf hm h5
  ·have hft:f ∉ tl:=fun q=>hap f hff (hR.inG f q)
   have hneed:needT tab pg≤3:=by unfold needT;split<;>split<;>split<;>omega
   refine go y ⟨f,y.w,y.u,y.x⟩ _ _ W5 _ tab5 _ _ A5 ⟨hp5,hR5,by unfold setL;rw [if_pos rfl],⟨rfl,rfl,rfl⟩,fun q hq=>by unfold setL;rw [if_neg hq],fun e=>absurd hl e,fun _=>⟨hff,?_,fun j=>?_,fun g=>?_,fun g=>?_,?_,?_,?_,?_⟩,fun g g1 g2=>?_⟩ hf hm h5
   ·simp only [List.mem_append,not_or];exact ⟨hft,fun q=>(htk f q).2 rfl⟩
   ·rw [hW5 f (fun q=>(htk f q).2 rfl) hft];unfold zeroW;rw [if_pos rfl]
   ·simp only [List.mem_append,not_or]
    refine ⟨fun ⟨⟨a1,a2⟩,a3⟩=>⟨a1,a2,fun q=>hap g a1 (hR.inG g q),a3⟩,fun ⟨a1,a2,_,a3⟩=>⟨⟨a1,a2⟩,a3⟩⟩
   ·simp only [List.mem_append]
    refine ⟨fun q=>?_,fun q=>?_⟩
    ·rcases q with (q | q) | q
     ·exact .inl q
     ·exact .inr (.inl q)
     ·exact .inr (.inr (.inr q))
    ·rcases q with q | q | q | q
     ·exact .inl (.inl q)
     ·exact .inl (.inr q)
     ·exact .inl (.inl (hR.inG g q))
     ·exact .inr q
   ·simp;omega
   ·simp;omega
   ·intro t ht
    rcases List.mem_append.1 ht with q | q
    ·exact .inl q
    ·exact .inr (htk t q).1
   ·intro t ht;exact List.mem_append_left _ ht
   ·rw [hW5 g (fun q=>hap g (htk g q).1 g1) g2]
    exact zeroW_ne fun e=>hap f hff (by rw [←e];exact g1)
 ·-- what is kept
  refine cpu_m h3 ?_
  simp only [onSome_some,add_at,Nat.zero_add]
  refine ld_P (i:=3) h3 rfl rfl ?_
  refine FindT_spec (MacL.tlb h3) ⟨by omega,by omega⟩ (fun A4 h4=>bsel_f rfl (MacL.tlbB h4)) fun y hy hfit A4 h4=>bsel_t rfl ?_
  have h4:=MacL.tlbB h4
  refine May_spec ?_
  obtain ⟨f1,f2,f3⟩:y.v=true∧y.page=pg∧(y.tag=tg∨y.g=true):=by
   unfold fitsB at hfit
   simpa using hfit
  obtain ⟨g1,x,g2,g3,g4,g5,g6⟩:=hV3 y hy f1
  have f3:y.tag=tg:=by
   rcases f3 with q | q
   ·exact q
   ·rw [g1] at q;cases q
  rw [f2,f3,hvw,hLF] at g2
  obtain ⟨y',hy',q1,q2,q3⟩:=hreg pg x g2
  have done:mayZ y.w y.u y.x aw true false=true→Q y.frame A4:=fun hm=>by
   rw [g3]
   refine hk y' hy' (by rw [←q1,← q2,← q3,← g4,← g5,← g6];exact hm) x F G W u tab lf tl ls3 z3 A4 ⟨hp,hR,g2,⟨q1,q2,q3⟩,fun _ _=>rfl,fun _=>⟨rfl,rfl,rfl,rfl,rfl,rfl⟩,fun e=>absurd (g2.symm.trans e) (by simp),fun _ _ _=>rfl⟩ hz3 ?_ h4
   rw [←hLF,updV_id];exact hV3
  refine bsel_in (fun k1=>bsel_in (fun _=>done k1) fun _=>bsel_in (fun _=>done k1) fun _=>h4) fun _=>h4
end Go.Dn
/- A processor: loads and stores. -/
namespace Go.Dn
variable {A:AH} {l R:List SP} {p:Nat} {ls:List Ln} {c:Mb} {u:Int} {F G:Int→Prop} {W:Int→Int→Int} {z:PcZ} {sps:List (Int × Value)} {cp n:Nat} {root:Int} {tab:Tab} {lf:Int→Option Lf} {tl:List Int} {s:Sl} {regs:List Reg} {lent:List (Int × Int)} {LF:Vw}
theorem MacL.backX {X:SP} (h:Own (X::MacL c F G W u ls z sps R) A):Own (MacL c F G W u ls z sps (X::R)) A:=by
 have:=Own.back (l:=MacL c F G W u ls z sps (X::R)) (P:=X) (P':=X) 7 rfl h
 exact this
theorem MacL.three {P1 P2 B5 B3 B1:SP} (h:Own (B5::B3::B1::MacL c F G W u ls z sps (P1::P2::l)) A):Own (MacL c F G W u ls z sps (P1::P2::B5::B3::B1::l)) A:=by
 have h1:Own (B5::B3::MacL c F G W u ls z sps (B1::P1::P2::l)) A:=h.cons fun _ h=>h.cons fun _ h=>MacL.backX h
 have h2:Own (B5::MacL c F G W u ls z sps (B3::B1::P1::P2::l)) A:=h1.cons fun _ h=>MacL.backX h
 have h3:=MacL.backX h2
 exact MacL.mapR (fun C hC=>hC.perm (List.perm_append_comm_assoc [B5,B3,B1] [P1,P2] l)) h3
theorem MacL.drop3 {P1 P2 B5 B3 B1:SP} (h:Own (MacL c F G W u ls z sps (P1::P2::B5::B3::B1::l)) A):Own (MacL c F G W u ls z sps (P1::P2::l)) A:=
 MacL.mapR (fun _ hC=>hC.cons fun _ h=>h.cons fun _ h=>h.tail.tail.tail) h
theorem Grow.inG' {N u root page u':Int} {y:Reg} {x:Lf} {F' G':Int→Prop} {W':Int→Int→Int} {tab':Tab} {lf':Int→Option Lf} {tl':List Int} (h:Grow N F G W u root tab lf tl page y x F' G' W' u' tab' lf' tl') (hG:∀ q x,lf q=some x→G x.frame):G' x.frame:=by
 cases e:lf page with
 | none=>exact ((h.new e).2.2.2.2.1 _).2 (.inr (.inl rfl))
 | some x0=>
  obtain ⟨_,e2,_,_,e5,_⟩:=h.same (by rw [e];simp)
  have:=h.leaf
  rw [e5,e] at this
  cases this
  rw [e2]
  exact hG _ _ e
theorem recov {x1 x2 x3:Option Addr} {y0 y1 y2:Int} {K:AP} (h:qeb_pA x1 x2 x3 y0 y1 y2 K A):qeb_vA qeb_pA x1 x2 x3 (.iface 226 (.agg #[.int .u64 y0,.int .i64 y1,.int .i64 y2])) K A:=by
 show apC [CK.i .u64,CK.i .i64,CK.i .i64] (AP→AP) (qeb_pA x1 x2 x3) [Value.int .u64 y0,Value.int .i64 y1,Value.int .i64 y2] fun f=>f K A
 simp only [apC,apK]
 exact bsel_t rfl (bsel_t rfl (bsel_t rfl h))
theorem at_w {f a:Int} (hf:0≤f∧f<1048576) (ha:0≤a):IntKind.wrap .u64 (IntKind.wrap .u64 (IntKind.wrap .u64 f*4096)+Int.tmod a 4096)=f*4096+a % 4096:=by
 rw [Int.tmod_eq_emod_of_nonneg ha,wu64 (n:=f) (by omega) (by omega),wu64 (n:=f*4096) (by omega) (by omega),wu64 (by omega) (by omega)]
set_option maxRecDepth 20000 in
theorem Do_spec {id addr x0:Int} {aw:Bool} {size:Nat} {Q:Int→Int→Int→Int→AH→Prop} (h:Own (MacL c F G W u ls z sps (OneS p c.T.bx root s regs lent::CpuS cp c.m n::l)) A)
  (hs:sps.lookup id=some (ptrV p)) (hp:StdP c.N F G) (hu:0≤u∧u+5≤c.T.q+1) (hN:c.N≤262144) (hR:Rest G W root tab lf tl) (hrl:regs.length≤64) (hpg:∀ y ∈ regs,0≤y.a∧y.b≤34359738368)
  (hz:PcOK z) (hV:LnOK (vw z LF) ls) (hLF:LF id=lf) (hreg:∀ q x,lf q=some x→∃ y,findR regs q=some y∧x.w=y.w∧x.u=y.u∧x.x=y.x) (hlG:∀ q x,lf q=some x→G x.frame) (ha:0≤addr∧addr<140737488355328)
  (hsz:size=1∨size=2∨size=4∨size=8) (hd:addr % size=0)
  (hno:(∀ y,findR regs (addr / 4096)=some y→mayZ y.w y.u y.x aw true false=false)→∀ ls' z' A',PcOK z'→LnOK (vw z' LF) ls'→Own (MacL c F G W u ls' z' sps (OneS p c.T.bx root s regs lent::CpuS cp c.m n::l)) A'→
   Q 0 addr (codeZ aw true false+if lf (addr / 4096)=none then 0 else 1) 9 A')
  (hkl:aw=false→∀ y,findR regs (addr / 4096)=some y→mayZ y.w y.u y.x aw true false=true→∀ x F' G' W' u' tab' lf' tl' ls' z' A',Grow c.N F G W u root tab lf tl (addr / 4096) y x F' G' W' u' tab' lf' tl'→PcOK z'→LnOK (vw z' (updV LF id lf')) ls'→
   Own (MacL c F' G' W' u' ls' z' sps (OneS p c.T.bx root s regs lent::CpuS cp c.m n::l)) A'→Q (getB (W' x.frame (addr % 4096 / 8)) (addr % 4096 % 8).toNat size) 0 0 0 A')
  (hks:aw=true→∀ y,findR regs (addr / 4096)=some y→mayZ y.w y.u y.x aw true false=true→∀ x F' G' W' u' tab' lf' tl' ls' z' A',Grow c.N F G W u root tab lf tl (addr / 4096) y x F' G' W' u' tab' lf' tl'→PcOK z'→LnOK (vw z' (updV LF id lf')) ls'→
   Own (MacL c F' G' (setW W' x.frame (addr % 4096 / 8) (putB (W' x.frame (addr % 4096 / 8)) (addr % 4096 % 8).toNat size x0)) u' ls' z' sps (OneS p c.T.bx root s regs lent::CpuS cp c.m n::l)) A'→Q 0 0 0 0 A') :
  qec_A (some ⟨cp,0,none⟩) id addr size aw x0 Q A:=by
 unfold qec_A qec_G
 refine new_C (cs:=[.int .u64 0]) h fun b1 A1 h1=>?_
 refine new_C (cs:=[.int .u64 0,.int .i64 0]) h1 fun b3 A2 h2=>?_
 refine new_C (cs:=[.int .i64 0]) h2 fun b5 A3 h3=>?_
 have h3:=MacL.three h3
 simp only [onSome_some,add_at,Nat.zero_add]
 refine ⟨fun A'=>A'=A3,fun A4 e4=>?_,?_⟩
 ·subst e4
  refine ⟨fun A'=>A'=A4,fun A5 e5=>?_,?_⟩
  ·subst e5
   refine frame_spec h3 hs hp hu hN hR hrl hpg hz hV hLF hreg ha (fun hn ls' z' A6 hz6 hV6 h6=>?_) fun y hf hm x F' G' W' u' tab' lf' tl' ls' z' A6 hG hz6 hV6 h6=>?_
   ·refine recov ?_
    unfold qeb_pA
    simp only [onSome_some,add_at,Nat.zero_add]
    refine st_C (i:=11) h6 rfl rfl rfl fun A7 h7=>?_
    refine st_C (i:=10) h7 rfl rfl rfl fun A8 h8=>?_
    refine st_C (i:=10) h8 rfl rfl rfl fun A9 h9=>?_
    refine st_C (i:=9) h9 rfl rfl rfl fun A10 h10=>?_
    refine ld_I (i:=11) h10 rfl rfl (ld_I (i:=10) h10 rfl rfl (ld_I (i:=10) h10 rfl rfl (ld_I (i:=9) h10 rfl rfl ?_)))
    exact hno hn ls' z' A10 hz6 hV6 (MacL.drop3 h10)
   ·have hxr:=has0.1 (hG.std.inG _ (hG.inG' hlG))
    have hx:hasF c.N [] x.frame=true:=has0.2 hxr
    have ho:0≤addr % 4096∧addr % 4096<4096:=by omega
    have hd':addr % 4096 % size=0:=by rcases hsz with rfl | rfl | rfl | rfl<;>omega
    rw [at_w ⟨hxr.1,by omega⟩ ha.1]
    refine bsel_in (fun g=>?_) fun g=>?_
    ·refine cpu_m h6 ?_
     simp only [onSome_some,add_at,Nat.zero_add]
     refine ld_P (i:=3) h6 rfl rfl ?_
     refine StoreB_head (x:=x0) h6 hx hsz ho hd' fun A7 h7=>bsel_f rfl ?_
     have h7:Own (MacL c F' G' (setW W' x.frame (addr % 4096 / 8) (putB (W' x.frame (addr % 4096 / 8)) (addr % 4096 % 8).toNat size x0)) u' ls' z' sps (OneS p c.T.bx root s regs lent::CpuS cp c.m n::At b5 [.int .i64 0]::At b3 [.int .u64 0,.int .i64 0]::At b1 [.int .u64 0]::l)) A7:=h7
     refine st_C (i:=11) h7 rfl rfl rfl fun A8 h8=>?_
     refine st_C (i:=10) h8 rfl rfl rfl fun A9 h9=>?_
     refine st_C (i:=10) h9 rfl rfl rfl fun A10 h10=>?_
     refine st_C (i:=9) h10 rfl rfl rfl fun A11 h11=>?_
     unfold qeb_nA
     refine ld_I (i:=11) h11 rfl rfl (ld_I (i:=10) h11 rfl rfl (ld_I (i:=10) h11 rfl rfl (ld_I (i:=9) h11 rfl rfl ?_)))
     exact hks g y hf hm x F' G' W' u' tab' lf' tl' ls' z' A11 hG hz6 hV6 (MacL.drop3 h11)
    ·refine cpu_m h6 ?_
     simp only [onSome_some,add_at,Nat.zero_add]
     refine ld_P (i:=3) h6 rfl rfl ?_
     refine LoadB_head h6 hx hsz ho hd' ?_
     refine st_C (i:=11) h6 rfl rfl rfl fun A7 h7=>?_
     refine st_C (i:=9) h7 rfl rfl rfl fun A8 h8=>?_
     refine ld_I (i:=11) h8 rfl rfl (ld_I (i:=9) h8 rfl rfl ?_)
     refine st_C (i:=11) h8 rfl rfl rfl fun A9 h9=>⟨ld_I (i:=9) h9 rfl rfl rfl,?_⟩
     refine st_C (i:=10) h9 rfl rfl rfl fun A10 h10=>?_
     refine st_C (i:=10) h10 rfl rfl rfl fun A11 h11=>⟨ld_I (i:=9) h11 rfl rfl rfl,?_⟩
     refine st_C (i:=9) h11 rfl rfl rfl fun A12 h12=>?_
     unfold qeb_nA
     refine ld_I (i:=11) h12 rfl rfl (ld_I (i:=10) h12 rfl rfl (ld_I (i:=10) h12 rfl rfl (ld_I (i:=9) h12 rfl rfl ?_)))
     exact hkl g y hf hm x F' G' W' u' tab' lf' tl' ls' z' A12 hG hz6 hV6 (MacL.drop3 h12)
  ·have e1:IntKind.wrap .u64 (size:Int)=size:=by rcases hsz with rfl | rfl | rfl | rfl<;>rfl
   rw [e1]
   refine bsel_f (by rcases hsz with rfl | rfl | rfl | rfl<;>rfl) (bsel_f ?_ (bsel_f (by simp;omega) rfl))
   rw [Int.tmod_eq_emod_of_nonneg ha.1,hd];rfl
 ·refine ⟨fun b A'=>b=true∧A'=A3,fun b A4 ⟨e1,e2⟩=>?_,?_⟩
  ·subst e1 e2
   exact bsel_t rfl rfl
  ·rcases hsz with rfl | rfl | rfl | rfl
   ·exact bsel_t rfl ⟨rfl,rfl⟩
   ·exact bsel_f rfl (bsel_t rfl ⟨rfl,rfl⟩)
   ·exact bsel_f rfl (bsel_f rfl (bsel_t rfl ⟨rfl,rfl⟩))
   ·exact bsel_f rfl (bsel_f rfl (bsel_f rfl ⟨rfl,rfl⟩))
end Go.Dn
