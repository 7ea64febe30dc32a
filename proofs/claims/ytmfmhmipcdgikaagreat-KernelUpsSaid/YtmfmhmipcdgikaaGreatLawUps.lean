/- What the proof stands on: KBoot, KDo, KProc, KRegs, KMem, KOne, KAwake, LawUps. -/
import Derived.Test.YtmfmhmipcdgikaaGreatOne
import Derived.Test.YtmfmhmipcdgikaaGreatRead2
/- A kernel that boots on a plain machine: one process. -/
namespace Go.Dn
def tr1 (N:Int):Tr:=⟨fun u=>[⟨-1,N-1,2,N-3,true⟩,⟨0,N-3,u,0,true⟩],1,N-3,N-3,fun u=>⟨0,N-3,0,rfl,by omega⟩,fun u u' nd h=>by cases h;rfl,Int.le_refl _⟩
structure TS where
 r0:Int
 r1:Int
 r2:Int
 r3:Int
 told:Int
 entry:Int
 inn:Bool
 fa:Int
 fc:Int
 s0:Int
 s1:Int
 s2:Int
 s3:Int
def ts0:TS:=⟨0,0,0,0,0,0,false,0,0,0,0,0,0⟩
def procC (box sp par:Int) (t:TS):List Value:=[.int .i64 box,.int .i64 sp,.int .i64 par,.int .u64 t.r0,.int .u64 t.r1,.int .u64 t.r2,.int .u64 t.r3,.int .i64 t.told,.int .u64 t.entry,.bool t.inn,.int .u64 t.fa,.int .i64 t.fc,.int .u64 t.s0,.int .u64 t.s1,.int .u64 t.s2,.int .u64 t.s3]
def kL (kb cp qb pm pb:Nat) (qn tk box:Int) (t:TS):List SP:=[At kb [.pointer (some ⟨cp,0,none⟩),.pointer (some ⟨qb,0,none⟩),.map none,.map (some pm),.int .i64 1],QueS qb qn tk [0],MapI pm .i64 [(0,ptrV pb)],At pb (procC box 0 0 t)]
variable {A:AH} {l R:List SP} {c:Mb} {N tags qn:Int} {s5:Sl} {u:Int} {F G:Int→Prop} {W:Int→Int→Int} {ls:List Ln} {z:PcZ} {sps:List (Int × Value)} {cp:Nat} {a:Sp}
theorem kPlan_spec {Q:Int→Int→Int→Int→Sl→Int→Sl→AH→Prop} (h:Own l A) (hN:4≤N∧N≤262144)
  (hk:∀ s5 s7 A',s5.a≠none→s7.len=0→Own (SlO s7 1 []::SlO s5 1 ((entB (0,N*4096,1)).map byV)::l) A'→Q N 0 1 tags s5 qn s7 A'):qac_A N tags qn Sl.nil Q A:=by
 unfold qac_A qac_G qab_A qab_G
 refine ⟨fun s A'=>s=Sl.nil∧A'=A,fun s A1 ⟨e1,e2⟩=>?_,bsel_f (by simp [Sl.nil]) ⟨rfl,rfl⟩⟩
 subst e1 e2
 have w1:IntKind.wrap .u64 N=N:=wu64 (by omega) (by omega)
 have w2:IntKind.wrap .u64 (N*4096)=N*4096:=wu64 (by omega) (by omega)
 rw [w1,w2]
 refine Entry_spec (a:=(0,N*4096,1)) h fun s5 A2 hs5 h2=>?_
 refine new_C (cs:=[]) h2 fun b A3 h3=>?_
 have h4:Own (SlO ⟨some ⟨b,0,none⟩,0,0⟩ 1 []::SlO Sl.nil 1 []::SlO s5 1 ((entB (0,N*4096,1)).map byV)::l) A3:=Own.swap ((h3.imp fun B _=>(⟨⟨by simp,Nat.le_refl _⟩,.inl rfl⟩:SlO ⟨some ⟨b,0,none⟩,0,0⟩ 1 [] B)).nil6 (sz:=1))
 refine ap_reads (i:=0) h4 rfl reads_slo (fun _=>rfl) (fun _=>rfl) rfl (fun v hv=>by cases hv) ⟨by simp [Sl.nil],by simp [Sl.nil]⟩ fun s7 A4 j1 _ h5=>?_
 exact hk s5 s7 A4 hs5 (by simpa [Sl.nil] using j1) (h5.cons fun C hC=>hC.tail)
theorem SpBoot_spec {Q:Option Addr→Int→AH→Prop} (h1:Own (SlO s5 1 ((entB (0,N*4096,1)).map byV)::l) A) (hs5:s5.a≠none) (hN:4≤N∧N≤262144) (ht:1≤tags∧tags≤4095)
  (hk:∀ r b t m tl tg sp kern F G W A',StdP N F G→0≤kern∧kern<N→Own (MacL ⟨N,r,b,t,m,tl,tg,sp,kern,tr0 (N-1)⟩ F G W 2 (List.replicate 16 ln0) (pcNew tags) [] l) A'→Q (some ⟨m,0,none⟩) 0 A'):qbs_A N 0 1 tags s5 Q A:=by
 unfold qbs_A qbs_G
 refine Frames_spec (k:=0) (kn:=(0,1)) h1 rfl reads_slB h1.capS6 (fun g=>absurd g hs5) (entB_rng _) fun er m s1 A2 ho _ hs1 h2=>?_
 obtain ⟨rfl,rfl⟩:=plain_out ⟨by omega,by omega⟩ ho
 refine bsel_f rfl ?_
 refine pNew_spec h2 ht.1 ht.2 fun tg A3 h3=>bsel_f rfl ?_
 refine new_C (cs:=lnC (List.replicate 16 ln0)) h3 fun tl A4 h4=>?_
 refine new_M (k:=.i64) h4 fun sp A5 h5=>?_
 refine new_C (cs:=[.pointer none,.pointer none,.pointer none,.pointer (some ⟨tl,0,none⟩),.pointer (some ⟨tg,0,none⟩),.int .i64 0,.map (some sp)]) h5 fun mb A6 h6=>?_
 refine ram_spec h6 ⟨by omega,by omega⟩ fun r A7 h7=>?_
 refine st_C (i:=1) h7 rfl rfl rfl fun A8 h8=>?_
 have hok:okR 0 [(1,N)]=true:=by simp [okR];omega
 refine bNew_spec (k:=5) (rs:=[(1,N)]) h8 rfl reads_slB (fun g=>by simp at g) (fun _ g=>by rw [hok] at g;cases g) fun _ _ b A9 h9=>?_
 simp only [onSome_some,add_at,Nat.zero_add]
 refine st_C (i:=2) h9 rfl rfl rfl fun A10 h10=>?_
 refine bsel_f rfl (ld_P (i:=2) h10 rfl rfl ?_)
 refine Free_head h10 ?_
 refine qNew_spec h10 (fun g=>by simp [sizeR] at g;omega) fun _ t A11 h11=>?_
 refine st_C (i:=3) h11 rfl rfl rfl fun A12 h12=>?_
 unfold qau_A
 simp only [onSome_some,add_at,Nat.zero_add]
 refine ld_P (i:=3) h12 rfl rfl (ld_P (i:=3) h12 rfl rfl (ld_P (i:=3) h12 rfl rfl ?_))
 have hsz:sizeR [(1,N)]=N-1:=by simp [sizeR]
 have h13:Own (StdO N r b t (tr0 (N-1)) (inR [(1,N)]) (fun _=>False) (fun _ _=>0) 0 (At mb [.pointer (some ⟨r,0,none⟩),.pointer (some ⟨b,0,none⟩),.pointer (some ⟨t,0,none⟩),.pointer (some ⟨tl,0,none⟩),.pointer (some ⟨tg,0,none⟩),.int .i64 0,.map (some sp)]::MapI sp .i64 []::At tl (lnC (List.replicate 16 ln0))::PcS tg (pcNew tags)::SlO s1 2 (rgs [(1,N)])::SlO s5 1 ((entB (0,N*4096,1)).map byV)::l)) A12:=by
  have h12:Own (TreeS t [⟨-1,sizeR [(1,N)],0,0,true⟩]::Bud b (inR [(1,N)]) (fun _=>False) (sizeR [(1,N)])::RamW r N [] (fun _ _=>0)::At mb [.pointer (some ⟨r,0,none⟩),.pointer (some ⟨b,0,none⟩),.pointer (some ⟨t,0,none⟩),.pointer (some ⟨tl,0,none⟩),.pointer (some ⟨tg,0,none⟩),.int .i64 0,.map (some sp)]::MapI sp .i64 []::At tl (lnC (List.replicate 16 ln0))::PcS tg (pcNew tags)::SlO s1 2 (rgs [(1,N)])::SlO s5 1 ((entB (0,N*4096,1)).map byV)::l) A12:=h12
  rw [hsz] at h12
  unfold StdO
  rw [show (tr0 (N-1)).fr-0=N-1 by show N-1-0=N-1;omega]
  exact (h12.pick 2 rfl).cons fun C hC=>Own.swap hC
 have hp0:StdP N (inR [(1,N)]) (fun _=>False):=⟨fun x hx=>has0.2 (by simp [inR] at hx;omega),fun x hx=>hx.elim⟩
 refine sKernel h13 hp0 hN (by omega) fun top mid A13 W' hft _ _ hp1 h14=>?_
 have hrt:=has0.1 (hp0.inF top hft)
 refine st_C (i:=3) h14 rfl rfl rfl fun A14 h15=>?_
 refine bsel_f rfl (hk r b t mb tl tg sp top _ _ W' A14 hp1 hrt ?_)
 have h16:Own (RamW r N [] W'::Bud b (fun x=>inR [(1,N)] x∧x ∉ [top,mid]) (fun x=>False∨x ∈ [top,mid]) ((tr0 (N-1)).fr-2)::TreeS t ((tr0 (N-1)).ns 2)::At mb (macC ⟨N,r,b,t,mb,tl,tg,sp,top,tr0 (N-1)⟩)::MapI sp .i64 []::At tl (lnC (List.replicate 16 ln0))::PcS tg (pcNew tags)::SlO s1 2 (rgs [(1,N)])::SlO s5 1 ((entB (0,N*4096,1)).map byV)::l) A14:=h15
 exact h16.cons fun _ h=>h.cons fun _ h=>h.cons fun _ h=>h.cons fun _ h=>h.cons fun _ h=>(Own.imp (P':=TlbS tl (List.replicate 16 ln0)) (fun B hB=>⟨by simp,hB⟩) h).cons fun _ h=>h.cons fun _ h=>h.tail.tail
def Bare (c:Mb) (cp:Nat) (u:Int) (l:List SP):AP:=fun A=>∃ F G W ls z sps p root,FamOK c.N F G W z ls [Sp.new 0 p root c.T.bx]∧SpsOK sps [Sp.new 0 p root c.T.bx]∧Own (MacL c F G W u ls z sps (famR cp c.m 0 [Sp.new 0 p root c.T.bx] l)) A
theorem kStart_spec {r b t m tl tg sp kb qb pm:Nat} {kern:Int} {Q:Int→Int→AH→Prop} (h:Own (MacL ⟨N,r,b,t,m,tl,tg,sp,kern,tr0 (N-1)⟩ F G W 2 (List.replicate 16 ln0) (pcNew tags) [] (CpuS cp m 0::At kb [.pointer (some ⟨cp,0,none⟩),.pointer (some ⟨qb,0,none⟩),.map none,.map (some pm),.int .i64 0]::QueS qb qn 0 []::MapI pm .i64 []::l)) A)
  (hp:StdP N F G) (hkn:0≤kern∧kern<N) (hN:6≤N∧N≤262144) (ht:1≤tags∧tags≤4095)
  (hk:∀ pb A',Bare ⟨N,r,b,t,m,tl,tg,sp,kern,tr1 N⟩ cp 1 (kL kb cp qb pm pb qn 0 1 ts0++l) A'→Q 0 0 A'):qcg_A (some ⟨kb,0,none⟩) 0 0 (N-3) Q A:=by
 unfold qcg_A qcg_G
 refine ⟨fun x mm A'=>x=0∧A'=A,⟨0,rfl,rfl⟩,fun x mm A1 ⟨e1,e2⟩=>?_⟩
 subst e1 e2
 simp only [onSome_some,add_at,Nat.zero_add]
 refine ld_M (i:=8) h rfl rfl (lk_M (i:=10) h rfl ⟨none,rfl,bsel_f rfl (bsel_f rfl ?_)⟩)
 refine ld_P (i:=8) h rfl rfl ?_
 have hC:∀ {K:Option Addr→Prop},K (some ⟨m,0,none⟩)→aP ⟨cp,0,none⟩ A1 K:=fun hK=>by
  obtain ⟨s,ch,at_,_,h2⟩:=CpuS.openH (h.pick 7 rfl)
  exact ld_P (i:=0) h2 rfl rfl hK
 simp only [onSome_some]
 refine hC ?_
 simp only [onSome_some,add_at,Nat.zero_add]
 refine ld_P (i:=3) h rfl rfl ?_
 refine Child_spec (i:=0) (nd:=⟨-1,N-1,2,0,true⟩) (q:=N-3) (ns:=[⟨-1,N-1,2,0,true⟩]) (h.pick 2 rfl) rfl rfl (fun g=>by omega) (fun _ g=>by simp at g;omega) (fun _ _ _ g=>by simp at g) (fun _ _ _ _ A2 h2=>?_) (fun _ _ j g=>by simp [firstDead] at g)
 refine bsel_f rfl ?_
 have e1:([⟨-1,N-1,2,0,true⟩]:List Nd).set 0 { (⟨-1,N-1,2,0,true⟩:Nd) with lent:=0+(N-3) }++[⟨((0:Nat):Int),N-3,0,0,true⟩]=(tr1 N).ns 0:=by
  show [(⟨-1,N-1,2,0+(N-3),true⟩:Nd),⟨0,N-3,0,0,true⟩]=[⟨-1,N-1,2,N-3,true⟩,⟨0,N-3,0,0,true⟩]
  rw [show (0:Int)+(N-3)=N-3 by omega]
 have h3:Own (TreeS t ((tr1 N).ns 0)::RamW r N [] W::Bud b F G ((tr1 N).fr-0)::At m (macC ⟨N,r,b,t,m,tl,tg,sp,kern,tr1 N⟩)::MapI sp .i64 []::TlbS tl (List.replicate 16 ln0)::PcS tg (pcNew tags)::CpuS cp m 0::At kb [.pointer (some ⟨cp,0,none⟩),.pointer (some ⟨qb,0,none⟩),.map none,.map (some pm),.int .i64 0]::QueS qb qn 0 []::MapI pm .i64 []::l) A2:=by
  rw [←e1,show (tr1 N).fr-0=N-1-2 by show N-3-0=N-1-2;omega]
  exact h2
 have h4:Own (MacL ⟨N,r,b,t,m,tl,tg,sp,kern,tr1 N⟩ F G W 0 (List.replicate 16 ln0) (pcNew tags) [] (famR cp m 0 [] (At kb [.pointer (some ⟨cp,0,none⟩),.pointer (some ⟨qb,0,none⟩),.map none,.map (some pm),.int .i64 0]::QueS qb qn 0 []::MapI pm .i64 []::l))) A2:=
  Own.back (l:=MacL ⟨N,r,b,t,m,tl,tg,sp,kern,tr1 N⟩ F G W 0 (List.replicate 16 ln0) (pcNew tags) [] (famR cp m 0 [] (At kb [.pointer (some ⟨cp,0,none⟩),.pointer (some ⟨qb,0,none⟩),.map none,.map (some pm),.int .i64 0]::QueS qb qn 0 []::MapI pm .i64 []::l))) (P:=TreeS t ((tr1 N).ns 0)) (P':=TreeS t ((tr1 N).ns 0)) 2 rfl h3
 clear h3 h2
 have hC:∀ {K:Option Addr→Prop},K (some ⟨m,0,none⟩)→aP ⟨cp,0,none⟩ A2 K:=fun hK=>by
  obtain ⟨s,ch,at_,_,h2⟩:=CpuS.openH (h4.pick 7 rfl)
  exact ld_P (i:=0) h2 rfl rfl hK
 refine ld_P (i:=8) h4 rfl rfl ?_
 simp only [onSome_some]
 refine hC (ld_I (i:=8) h4 rfl rfl ?_)
 refine OpenF (c:=⟨N,r,b,t,m,tl,tg,sp,kern,tr1 N⟩) (L:=[]) h4 (List.Perm.refl _) (famNil hp (pcNew_ok ht)) (by omega) (by simp) ⟨by omega,by show 0+2≤N-3+1;omega⟩ hN.2 hkn fun p root sps' F2 G2 W2 A3 hs2 hf2 _ _ _ _ h5=>bsel_f rfl ?_
 refine ld_M (i:=9) h5 rfl rfl (ld_I (i:=9) h5 rfl rfl ?_)
 refine new_C (cs:=procC 1 0 0 ts0) h5 fun pb A4 h6=>⟨ld_M (i:=10) h6 rfl rfl rfl,?_⟩
 refine st_M (i:=12) h6 rfl fun A5 h7=>?_
 refine ld_I (i:=10) h7 rfl rfl (st_C (i:=10) h7 rfl rfl rfl fun A6 h8=>?_)
 refine ld_P (i:=10) h8 rfl rfl ?_
 have h9:Own (At pb (procC 1 0 0 ts0)::MacL ⟨N,r,b,t,m,tl,tg,sp,kern,tr1 N⟩ F2 G2 W2 1 (List.replicate 16 ln0) (pcNew tags) sps' (CpuS cp m 0::Sp.own (Sp.new 0 p root 1)::At kb [.pointer (some ⟨cp,0,none⟩),.pointer (some ⟨qb,0,none⟩),.map none,.map (some pm),.int .i64 1]::QueS qb qn 0 []::MapI pm .i64 [(0,ptrV pb)]::l)) A6:=h8
 have h10:=MacL.backX h9
 refine sAdd_spec (h10.pick 11 rfl) (by simp) (fun g=>by omega) (fun _ _ g=>by simp at g) fun _ _ _ A7 h11=>hk pb A7 ⟨F2,G2,W2,_,_,_,p,root,hf2,hs2,?_⟩
 have h12:Own (MacL ⟨N,r,b,t,m,tl,tg,sp,kern,tr1 N⟩ F2 G2 W2 1 (List.replicate 16 ln0) (pcNew tags) sps' (At pb (procC 1 0 0 ts0)::CpuS cp m 0::Sp.own (Sp.new 0 p root 1)::At kb [.pointer (some ⟨cp,0,none⟩),.pointer (some ⟨qb,0,none⟩),.map none,.map (some pm),.int .i64 1]::QueS qb qn 0 [0]::MapI pm .i64 [(0,ptrV pb)]::l)) A7:=
  Own.back (l:=MacL ⟨N,r,b,t,m,tl,tg,sp,kern,tr1 N⟩ F2 G2 W2 1 (List.replicate 16 ln0) (pcNew tags) sps' (At pb (procC 1 0 0 ts0)::CpuS cp m 0::Sp.own (Sp.new 0 p root 1)::At kb [.pointer (some ⟨cp,0,none⟩),.pointer (some ⟨qb,0,none⟩),.map none,.map (some pm),.int .i64 1]::QueS qb qn 0 []::MapI pm .i64 [(0,ptrV pb)]::l)) (P:=QueS qb qn 0 []) (P':=QueS qb qn 0 [0]) 11 rfl h11
 refine MacL.mapR (fun C hC=>hC.perm ?_) h12
 exact (List.perm_middle (l₁:=[CpuS cp m 0,Sp.own (Sp.new 0 p root 1),At kb [.pointer (some ⟨cp,0,none⟩),.pointer (some ⟨qb,0,none⟩),.map none,.map (some pm),.int .i64 1],QueS qb qn 0 [0],MapI pm .i64 [(0,ptrV pb)]]) (a:=At pb (procC 1 0 0 ts0)) (l₂:=l)).symm
theorem kBoot_spec {s7:Sl} {Q:Option Addr→Int→AH→Prop} (h:Own (SlO s7 1 []::SlO s5 1 ((entB (0,N*4096,1)).map byV)::l) A) (hs5:s5.a≠none) (hs7:s7.len=0) (hN:6≤N∧N≤262144) (ht:1≤tags∧tags≤4095) (hq:1≤qn∧qn≤1000)
  (hk:∀ c cp kb qb pm pb A',c.N=N→c.T=tr1 N→Bare c cp 1 (kL kb cp qb pm pb qn 0 1 ts0++l) A'→Q (some ⟨kb,0,none⟩) 0 A'):qch_A N 0 1 tags s5 qn s7 Q A:=by
 unfold qch_A qch_G
 refine SpBoot_spec h.swap hs5 ⟨by omega,hN.2⟩ ht fun r b t m tl tg sp kern F G W A1 hp hkn h1=>bsel_f rfl ?_
 refine sNew_spec h1 (fun g=>by omega) fun _ _ qb A2 h2=>bsel_f rfl ?_
 unfold qbu_A
 refine ap_reads (i:=8) (h2.nil6 (sz:=1)) rfl reads_slo (fun _=>rfl) (fun _=>rfl) rfl (fun v hv=>by cases hv) ⟨by simp [Sl.nil,hs7],by simp [Sl.nil,hs7]⟩ fun s8 A3 _ _ h3=>?_
 refine new_C (cs:=[.pointer (some ⟨m,0,none⟩),.slice s8.a s8.len s8.cap,.int .i64 ((0:Nat):Int)]) h3 fun cp A4 h4=>?_
 have h5:=CpuS.closeH (m:=m) (n:=0) (ch:=[]) ⟨Nat.le_refl _,rfl,by omega⟩ h4
 refine new_M (k:=.i64) h5 fun pm A5 h6=>new_C (cs:=[.pointer (some ⟨cp,0,none⟩),.pointer (some ⟨qb,0,none⟩),.map none,.map (some pm),.int .i64 0]) h6 fun kb A6 h7=>?_
 have h8:=MacL.backX (Own.cons (fun _ h=>MacL.backX h) (Own.cons (fun _ h=>Own.cons (fun _ h=>MacL.backX h) h) (h7.cons fun _ h=>h.cons fun _ h=>h.cons fun _ h=>MacL.backX h)))
 have h9:=MacL.mapR (fun C hC=>((Own.cons (fun _ h=>h.cons fun _ h=>h.cons fun _ h=>h.cons fun _ h=>h.tail) hC).pick 2 rfl).cons fun _ h=>h.cons fun _ h=>h.swap) h8
 simp only [onSome_some,add_at,Nat.zero_add]
 refine ld_P (i:=3) h9 rfl rfl (sRoom (T:=tr0 (N-1)) h9 ?_)
 have e:(tr0 (N-1)).q-2=N-3:=by show N-1-2=N-3;omega
 rw [e]
 exact kStart_spec h9 hp hkn hN ht fun pb A7 h10=>bsel_f rfl (hk ⟨N,r,b,t,m,tl,tg,sp,kern,tr1 N⟩ cp kb qb pm pb A7 rfl rfl h10)
end Go.Dn
/- What a kernel is asked: how a call comes to its function. -/
namespace Go.Dn
variable {A:AH} {l R L:List SP} {c:Mb} {N tags qn tk:Int} {u:Int} {F G:Int→Prop} {W:Int→Int→Int} {ls:List Ln} {z:PcZ} {sps:List (Int × Value)} {cp kb qb pm pb i j:Nat} {w0 w1 w2 w3 w4 w5:Int} {cl:CallR} {rest:List Value} {v0:Value} {r:List Int} {pid:Int}
def kD45 (kb:Nat) (pid:Int) (cl:CallR) (Q:Int→Int→Int→Int→Int→Bool→AH→Prop):AP:=fun A=>
(∃ R45:Int→Int→AH→Prop,(∀ c73:Int,∀ c74:Int,∀ h75,R45 c73 c74 h75→
(Q pid c73 c74 (0:Int) (0:Int) (false:Bool) h75))∧
(∃ R46:Bool→AH→Prop,(∀ b47:Bool,∀ h48,R46 b47 h48→
(bsel b47
(qeu_A (some ⟨kb,0,none⟩) pid cl.op cl.a cl.b cl.pw cl.pu cl.px cl.addr cl.size cl.x cl.id cl.ra cl.rb cl.rd (fun n49 pid0 h51=>
(R45 n49 pid0 h51)) h48)
(bsel (cl.op==(6:Int))
(qex_A (some ⟨kb,0,none⟩) pid cl.op cl.a cl.b cl.pw cl.pu cl.px cl.addr cl.size cl.x cl.id cl.ra cl.rb cl.rd (fun pid2 pid3 h54=>
(R45 pid2 pid3 h54)) h48)
(bsel (cl.op==(7:Int))
(qfc_A (some ⟨kb,0,none⟩) pid cl.op cl.a cl.b cl.pw cl.pu cl.px cl.addr cl.size cl.x cl.id cl.ra cl.rb cl.rd (fun pid5 pid6 h57=>
(R45 pid5 pid6 h57)) h48)
(∃ R58:Bool→AH→Prop,(∀ b59:Bool,∀ h60,R58 b59 h60→
(bsel b59
(qff_A (some ⟨kb,0,none⟩) pid cl.op cl.a cl.b cl.pw cl.pu cl.px cl.addr cl.size cl.x cl.id cl.ra cl.rb cl.rd (fun n61 n62 h63=>
(R45 n61 n62 h63)) h60)
(∃ R64:Bool→AH→Prop,(∀ b65:Bool,∀ h66,R64 b65 h66→
(bsel b65
(qfi_A (some ⟨kb,0,none⟩) pid cl.op cl.a cl.b cl.pw cl.pu cl.px cl.addr cl.size cl.x cl.id cl.ra cl.rb cl.rd (fun n67 n68 h69=>
(R45 n67 n68 h69)) h66)
(qfo_A (some ⟨kb,0,none⟩) pid cl.op cl.a cl.b cl.pw cl.pu cl.px cl.addr cl.size cl.x cl.id cl.ra cl.rb cl.rd (fun n70 n71 h72=>
(R45 n70 n71 h72)) h66)))∧
(bsel (cl.op==(12:Int))
(R64 (cl.op==(12:Int)) h60)
(bsel (cl.op==(13:Int))
(R64 (cl.op==(13:Int)) h60)
(R64 (cl.op==(14:Int)) h60))))))∧
(bsel (cl.op==(8:Int))
(R58 (cl.op==(8:Int)) h48)
(R58 (cl.op==(9:Int)) h48)))))))∧
(bsel (cl.op==(1:Int))
(R46 (cl.op==(1:Int)) A)
(bsel (cl.op==(2:Int))
(R46 (cl.op==(2:Int)) A)
(R46 (cl.op==(3:Int)) A)))))
theorem kDo_read {Q:Int→Int→Int→Int→Int→Bool→AH→Prop} (h:Own L A) (ej:L[j]? = some (At kb (v0::.pointer (some ⟨qb,0,none⟩)::rest))) (ei:L[i]? = some (QueS qb qn tk (pid::r))) (hb:∀ x ∈ [w0,w1,w2,w3,w4,w5],0≤x∧x<18446744073709551616) (hc:callZ6 w0 w1 w2 w3 w4 w5=some cl)
  (hk:∀ A',Own L A'→∃ R23:Int→Int→Int→Int→Int→Bool→AH→Prop,(∀ c38:Int,∀ c39:Int,∀ c40:Int,∀ c41:Int,∀ c42:Int,∀ c43:Bool,∀ h44,R23 c38 c39 c40 c41 c42 c43 h44→kD45 kb pid cl Q h44)∧
   bsel (cl.op==(4:Int)) (qee_A (some ⟨kb,0,none⟩) pid cl.op cl.a cl.b cl.pw cl.pu cl.px cl.addr cl.size cl.x cl.id cl.ra cl.rb cl.rd (fun n24 n25 n26 n27 n28 b29 h30=>Q n24 n25 n26 n27 n28 b29 h30) A')
    (bsel (cl.op==(5:Int)) (qee_A (some ⟨kb,0,none⟩) pid cl.op cl.a cl.b cl.pw cl.pu cl.px cl.addr cl.size cl.x cl.id cl.ra cl.rb cl.rd (fun n24 n25 n26 n27 n28 b29 h30=>Q n24 n25 n26 n27 n28 b29 h30) A') (R23 0 0 0 0 0 false A'))) :
  qfp_A (some ⟨kb,0,none⟩) w0 w1 w2 w3 w4 w5 Q A:=by
 unfold qfp_A qfp_G
 simp only [onSome_some,add_at,Nat.zero_add]
 refine ld_P h ej rfl (bsel_f rfl (ld_P h ej rfl (sNow_spec (h.pick i ei) (fun e=>by cases e) fun x r' e=>?_)))
 cases e
 refine Read_spec hb h (fun c2 hc2 A1 h1=>?_) fun hn=>by rw [hc] at hn;cases hn
 rw [hc] at hc2
 cases hc2
 exact bsel_f rfl (hk A1 h1)
theorem kDo_mem {Q:Int→Int→Int→Int→Int→Bool→AH→Prop} (h:Own L A) (ej:L[j]? = some (At kb (v0::.pointer (some ⟨qb,0,none⟩)::rest))) (ei:L[i]? = some (QueS qb qn tk (pid::r))) (hb:∀ x ∈ [w0,w1,w2,w3,w4,w5],0≤x∧x<18446744073709551616) (hc:callZ6 w0 w1 w2 w3 w4 w5=some cl) (hop:cl.op=4∨cl.op=5)
  (hk:∀ A',Own L A'→qee_A (some ⟨kb,0,none⟩) pid cl.op cl.a cl.b cl.pw cl.pu cl.px cl.addr cl.size cl.x cl.id cl.ra cl.rb cl.rd (fun n24 n25 n26 n27 n28 b29 h30=>Q n24 n25 n26 n27 n28 b29 h30) A'):qfp_A (some ⟨kb,0,none⟩) w0 w1 w2 w3 w4 w5 Q A:=by
 refine kDo_read h ej ei hb hc fun A1 h1=>⟨fun _ _ _ _ _ _ _=>False,fun _ _ _ _ _ _ _ g=>g.elim,?_⟩
 rcases hop with e | e
 ·exact bsel_t (by rw [e];rfl) (hk A1 h1)
 ·exact bsel_f (by rw [e];rfl) (bsel_t (by rw [e];rfl) (hk A1 h1))
theorem kDo_ask {Q:Int→Int→Int→Int→Int→Bool→AH→Prop} (h:Own L A) (ej:L[j]? = some (At kb (v0::.pointer (some ⟨qb,0,none⟩)::rest))) (ei:L[i]? = some (QueS qb qn tk (pid::r))) (hb:∀ x ∈ [w0,w1,w2,w3,w4,w5],0≤x∧x<18446744073709551616) (hc:callZ6 w0 w1 w2 w3 w4 w5=some cl) (hop:cl.op≠4∧cl.op≠5)
  (hk:∀ A',Own L A'→kD45 kb pid cl Q A'):qfp_A (some ⟨kb,0,none⟩) w0 w1 w2 w3 w4 w5 Q A:=
 kDo_read h ej ei hb hc fun A1 h1=>⟨fun _ _ _ _ _ _ A'=>A'=A1,fun _ _ _ _ _ _ A' e=>by rw [e];exact hk A1 h1,bsel_f (by simp [hop.1]) (bsel_f (by simp [hop.2]) rfl)⟩
theorem kD_map {Q:Int→Int→Int→Int→Int→Bool→AH→Prop} (hop:cl.op=1) (hk:qeu_A (some ⟨kb,0,none⟩) pid cl.op cl.a cl.b cl.pw cl.pu cl.px cl.addr cl.size cl.x cl.id cl.ra cl.rb cl.rd (fun x e A'=>Q pid x e 0 0 false A') A):kD45 kb pid cl Q A:=
 ⟨fun x e A'=>Q pid x e 0 0 false A',fun _ _ _ g=>g,fun b A'=>b=true∧A'=A,fun b A' ⟨e1,e2⟩=>by subst e1 e2;exact bsel_t rfl hk,bsel_t (by rw [hop];rfl) ⟨by rw [hop];rfl,rfl⟩⟩
theorem kD_tail {Q:Int→Int→Int→Int→Int→Bool→AH→Prop} (hop:9<cl.op) (hk:∀ b:Bool,b=(cl.op==12 || cl.op==13 || cl.op==14)→bsel b (qfi_A (some ⟨kb,0,none⟩) pid cl.op cl.a cl.b cl.pw cl.pu cl.px cl.addr cl.size cl.x cl.id cl.ra cl.rb cl.rd (fun x e A'=>Q pid x e 0 0 false A') A)
  (qfo_A (some ⟨kb,0,none⟩) pid cl.op cl.a cl.b cl.pw cl.pu cl.px cl.addr cl.size cl.x cl.id cl.ra cl.rb cl.rd (fun x e A'=>Q pid x e 0 0 false A') A)):kD45 kb pid cl Q A:=by
 have ne:∀ k:Int,k≤9→(cl.op==k)=false:=fun k hk=>by simp;omega
 refine ⟨fun x e A'=>Q pid x e 0 0 false A',fun _ _ _ g=>g,fun b A'=>b=false∧A'=A,fun b A' ⟨e1,e2⟩=>?_,bsel_f (ne 1 (by omega)) (bsel_f (ne 2 (by omega)) ⟨ne 3 (by omega),rfl⟩)⟩
 subst e1 e2
 refine bsel_f rfl (bsel_f (ne 6 (by omega)) (bsel_f (ne 7 (by omega)) ⟨fun b A2=>b=false∧A2=A',fun b A2 ⟨e1,e2⟩=>?_,bsel_f (ne 8 (by omega)) ⟨ne 9 (by omega),rfl⟩⟩))
 subst e1 e2
 refine bsel_f rfl ⟨fun b A3=>b=(cl.op==12 || cl.op==13 || cl.op==14)∧A3=A2,fun b A3 ⟨e1,e2⟩=>?_,?_⟩
 ·subst e2;exact hk b e1
 ·refine bsel_in (fun g=>⟨by rw [g];rfl,rfl⟩) fun g=>bsel_in (fun g2=>⟨by rw [g,g2];rfl,rfl⟩) fun g2=>⟨by rw [g,g2];rfl,rfl⟩
theorem kD_regs {Q:Int→Int→Int→Int→Int→Bool→AH→Prop} (hop:cl.op=10∨cl.op=11∨cl.op=16) (hk:qfo_A (some ⟨kb,0,none⟩) pid cl.op cl.a cl.b cl.pw cl.pu cl.px cl.addr cl.size cl.x cl.id cl.ra cl.rb cl.rd (fun x e A'=>Q pid x e 0 0 false A') A):kD45 kb pid cl Q A:=
 kD_tail (by omega) fun b hb=>bsel_f (by rw [hb];rcases hop with e | e | e<;>rw [e]<;>rfl) hk
end Go.Dn
/- A process's registers: how its faults come and go. -/
namespace Go.Dn
variable {A:AH} {l R L:List SP} {i k pb:Nat} {box sp par:Int} {t t':TS}
theorem ld_ts {K:Int→Int→Int→Int→Int→Int→Bool→Int→Int→Int→Int→Int→Int→Prop} (h:Own l A) (e:l[i]? = some (At pb (procC box sp par t))) (hK:K t.r0 t.r1 t.r2 t.r3 t.told t.entry t.inn t.fa t.fc t.s0 t.s1 t.s2 t.s3) :
  aI .u64 ⟨pb,3,none⟩ A fun n0=>aI .u64 ⟨pb,4,none⟩ A fun n1=>aI .u64 ⟨pb,5,none⟩ A fun n2=>aI .u64 ⟨pb,6,none⟩ A fun n3=>aI .i64 ⟨pb,7,none⟩ A fun n4=>aI .u64 ⟨pb,8,none⟩ A fun n5=>aB ⟨pb,9,none⟩ A fun n6=>aI .u64 ⟨pb,10,none⟩ A fun n7=>aI .i64 ⟨pb,11,none⟩ A fun n8=>
   aI .u64 ⟨pb,12,none⟩ A fun n9=>aI .u64 ⟨pb,13,none⟩ A fun n10=>aI .u64 ⟨pb,14,none⟩ A fun n11=>aI .u64 ⟨pb,15,none⟩ A fun n12=>K n0 n1 n2 n3 n4 n5 n6 n7 n8 n9 n10 n11 n12:=
 ld_I h e rfl (ld_I h e rfl (ld_I h e rfl (ld_I h e rfl (ld_I h e rfl (ld_I h e rfl (ld_B h e rfl (ld_I h e rfl (ld_I h e rfl (ld_I h e rfl (ld_I h e rfl (ld_I h e rfl (ld_I h e rfl hK))))))))))))
theorem st_ts {K:AP} (h:Own l A) (e:l[i]? = some (At pb (procC box sp par t))) (hK:∀ A',Own (l.set i (At pb (procC box sp par t'))) A'→K A') :
  aC ⟨pb,3,none⟩ (.int .u64 t'.r0) A fun h1=>aC ⟨pb,4,none⟩ (.int .u64 t'.r1) h1 fun h1=>aC ⟨pb,5,none⟩ (.int .u64 t'.r2) h1 fun h1=>aC ⟨pb,6,none⟩ (.int .u64 t'.r3) h1 fun h1=>aC ⟨pb,7,none⟩ (.int .i64 t'.told) h1 fun h1=>aC ⟨pb,8,none⟩ (.int .u64 t'.entry) h1 fun h1=>aC ⟨pb,9,none⟩ (.bool t'.inn) h1 fun h1=>
   aC ⟨pb,10,none⟩ (.int .u64 t'.fa) h1 fun h1=>aC ⟨pb,11,none⟩ (.int .i64 t'.fc) h1 fun h1=>aC ⟨pb,12,none⟩ (.int .u64 t'.s0) h1 fun h1=>aC ⟨pb,13,none⟩ (.int .u64 t'.s1) h1 fun h1=>aC ⟨pb,14,none⟩ (.int .u64 t'.s2) h1 fun h1=>aC ⟨pb,15,none⟩ (.int .u64 t'.s3) h1 K:=by
 have h:=h.pick i e
 refine st_C (i:=0) h rfl rfl rfl fun _ h=>st_C (i:=0) h rfl rfl rfl fun _ h=>st_C (i:=0) h rfl rfl rfl fun _ h=>st_C (i:=0) h rfl rfl rfl fun _ h=>st_C (i:=0) h rfl rfl rfl fun _ h=>st_C (i:=0) h rfl rfl rfl fun _ h=>st_C (i:=0) h rfl rfl rfl fun _ h=>
  st_C (i:=0) h rfl rfl rfl fun _ h=>st_C (i:=0) h rfl rfl rfl fun _ h=>st_C (i:=0) h rfl rfl rfl fun _ h=>st_C (i:=0) h rfl rfl rfl fun _ h=>st_C (i:=0) h rfl rfl rfl fun _ h=>st_C (i:=0) h rfl rfl rfl fun A' h=>hK A' ?_
 have h:Own (At pb (procC box sp par t')::l.eraseIdx i) A':=h
 exact Own.back i e h
def raiseZ (t:TS) (a c:Int):TS:=if t.entry=0 then t else if t.inn=true then t else { t with r0:=a,r1:=c,r2:=0,r3:=0,inn:=true,fa:=a,fc:=c,s0:=t.r0,s1:=t.r1,s2:=t.r2,s3:=t.r3 }
def raiseE (t:TS):Int:=if t.entry=0 then 5 else if t.inn=true then 11 else 0
theorem Raise_spec {a c:Int} {Q:Int→Int→Int→Int→Int→Int→Bool→Int→Int→Int→Int→Int→Int→Int→AH→Prop} (h:Own l A) (hc:0≤c∧c<18446744073709551616)
  (hk:∀ A',Own l A'→Q (raiseZ t a c).r0 (raiseZ t a c).r1 (raiseZ t a c).r2 (raiseZ t a c).r3 (raiseZ t a c).told (raiseZ t a c).entry (raiseZ t a c).inn (raiseZ t a c).fa (raiseZ t a c).fc (raiseZ t a c).s0 (raiseZ t a c).s1 (raiseZ t a c).s2 (raiseZ t a c).s3 (raiseE t) A') :
  qed_A t.r0 t.r1 t.r2 t.r3 t.told t.entry t.inn t.fa t.fc t.s0 t.s1 t.s2 t.s3 a c Q A:=by
 unfold qed_A
 refine new_C (cs:=[.int .u64 a,.int .i64 c]) h fun b A1 h1=>?_
 have hk:=hk A1 h1.tail
 unfold raiseZ raiseE at hk
 refine bsel_in (fun g=>?_) fun g=>bsel_in (fun g2=>?_) fun g2=>?_
 ·have g:t.entry=0:=by simpa using g
  simp only [if_pos g] at hk
  exact hk
 ·have g:¬ t.entry=0:=by simpa using g
  simp only [if_neg g,if_pos g2] at hk
  exact hk
 ·have g:¬ t.entry=0:=by simpa using g
  have g2':¬ t.inn=true:=by rw [g2];simp
  simp only [if_neg g,if_neg g2'] at hk
  simp only [add_at,Nat.zero_add]
  refine ld_I (i:=0) h1 rfl rfl (ld_I (i:=0) h1 rfl rfl ⟨ld_I (i:=0) h1 rfl rfl (ld_I (i:=0) h1 rfl rfl rfl),ld_I (i:=0) h1 rfl rfl (ld_I (i:=0) h1 rfl rfl ?_)⟩)
  rw [wu64 hc.1 hc.2]
  exact hk
end Go.Dn
/- Calls that change a process's registers, or where it goes on. -/
namespace Go.Dn
variable {A:AH} {l R L:List SP} {i j k m pb pm kb:Nat} {box sp par pid:Int} {t t':TS} {ps:List (Int × Value)} {v0 v1 v2 v4:Value} {cl:CallR}
def setR (t:TS) (id x:Int):TS:=if id=0 then { t with r0:=x } else if id=1 then { t with r1:=x } else if id=2 then { t with r2:=x } else { t with r3:=x }
def tsC (t:TS):List Value:=[.int .u64 t.r0,.int .u64 t.r1,.int .u64 t.r2,.int .u64 t.r3,.int .i64 t.told,.int .u64 t.entry,.bool t.inn,.int .u64 t.fa,.int .i64 t.fc,.int .u64 t.s0,.int .u64 t.s1,.int .u64 t.s2,.int .u64 t.s3]
theorem Move_spec {id x:Int} {Q:Int→Int→Int→Int→Int→Int→Bool→Int→Int→Int→Int→Int→Int→Int→AH→Prop} (h:Own l A) (hid:id=0∨id=1∨id=2∨id=3)
  (hk:∀ A',Own l A'→Q (setR t id x).r0 (setR t id x).r1 (setR t id x).r2 (setR t id x).r3 t.told t.entry t.inn t.fa t.fc t.s0 t.s1 t.s2 t.s3 0 A') :
  qfn_A t.r0 t.r1 t.r2 t.r3 t.told t.entry t.inn t.fa t.fc t.s0 t.s1 t.s2 t.s3 id x Q A:=by
 unfold qfn_A qfn_G
 refine new_C (cs:=tsC t) h fun b A1 h1=>new_C (cs:=[.int .i64 id]) h1 fun b3 A2 h2=>?_
 unfold qfm_A
 refine ⟨fun x m A'=>A'=A2∧((x=0∧m=1)∨(x=1∧m=0)),⟨1,rfl,.inl ⟨rfl,rfl⟩⟩,fun y m A3 ⟨e1,e2⟩=>?_⟩
 subst e1
 rcases e2 with ⟨rfl,rfl⟩ | ⟨rfl,rfl⟩
 ·refine bsel_t rfl (inB_in (by omega) (by simp) (ld_I (i:=0) h2 rfl rfl (bsel_f (by simp;omega) (bsel_f (by simp;omega) ?_))))
  exact ⟨0,by omega,rfl,.inr ⟨by rw [w64]<;>omega,rfl⟩⟩
 ·refine bsel_f rfl (bsel_f rfl (inB_in (by omega) (by omega) ?_))
  simp only [add_at,Nat.zero_add]
  rcases hid with rfl | rfl | rfl | rfl
  all_goals
   refine st_C (i:=1) h2 rfl rfl rfl fun A4 h4=>?_
   exact ld_I (i:=1) h4 rfl rfl (ld_I (i:=1) h4 rfl rfl (ld_I (i:=1) h4 rfl rfl (ld_I (i:=1) h4 rfl rfl (ld_I (i:=1) h4 rfl rfl (ld_I (i:=1) h4 rfl rfl (ld_B (i:=1) h4 rfl rfl (ld_I (i:=1) h4 rfl rfl (ld_I (i:=1) h4 rfl rfl (ld_I (i:=1) h4 rfl rfl (ld_I (i:=1) h4 rfl rfl (ld_I (i:=1) h4 rfl rfl (ld_I (i:=1) h4 rfl rfl (hk A4 h4.tail.tail)))))))))))))
def regsZ (cl:CallR) (t:TS):TS:=if cl.op=10 then (if t.inn=true then t else { t with entry:=cl.addr }) else if cl.op=11 then (if t.inn=true then { t with r0:=t.s0,r1:=t.s1,r2:=t.s2,r3:=t.s3,inn:=false,fa:=0,fc:=0,s0:=0,s1:=0,s2:=0,s3:=0 } else t) else setR t cl.id cl.x
def regsE (cl:CallR) (t:TS):Int:=if cl.op=10 then (if t.inn=true then 11 else 0) else if cl.op=11 then (if t.inn=true then 0 else 5) else 0
theorem regs_spec {Q:Int→Int→AH→Prop} (h:Own L A) (ej:L[j]? = some (At kb [v0,v1,v2,.map (some pm),v4])) (em:L[m]? = some (MapI pm .i64 ps)) (hps:ps.lookup pid=some (ptrV pb)) (ei:L[i]? = some (At pb (procC box sp par t))) (hop:cl.op=10∨cl.op=11∨cl.op=16)
  (hid:cl.op=16→cl.id=0∨cl.id=1∨cl.id=2∨cl.id=3) (hk:∀ A',Own (L.set i (At pb (procC box sp par (regsZ cl t)))) A'→Q 0 (regsE cl t) A') :
  qfo_A (some ⟨kb,0,none⟩) pid cl.op cl.a cl.b cl.pw cl.pu cl.px cl.addr cl.size cl.x cl.id cl.ra cl.rb cl.rd Q A:=by
 unfold qfo_A qfo_G
 simp only [onSome_some,add_at,Nat.zero_add]
 refine ld_M h ej rfl (lk_M h em ?_)
 rw [hps]
 refine ⟨some ⟨pb,0,none⟩,rfl,fun e A'=>Q 0 e A',fun _ _ g=>g,?_⟩
 simp only [onSome_some,add_at,Nat.zero_add]
 unfold regsZ regsE at hk
 refine bsel_in (fun g=>?_) fun g=>bsel_in (fun g2=>?_) fun g2=>?_
 ·have g:cl.op=10:=by simpa using g
  simp only [if_pos g] at hk
  refine ld_ts h ei ?_
  unfold qfj_A
  refine bsel_in (fun q=>?_) fun q=>?_
  ·simp only [if_pos q] at hk
   exact st_ts (t':=t) h ei hk
  ·have q':¬ t.inn=true:=by rw [q];simp
   simp only [if_neg q'] at hk
   exact st_ts (t':={ t with entry:=cl.addr }) h ei hk
 ·have g:¬ cl.op=10:=by simpa using g
  have g2:cl.op=11:=by simpa using g2
  simp only [if_neg g,if_pos g2] at hk
  refine ld_ts h ei ?_
  unfold qfk_A
  refine bsel_in (fun q=>?_) fun q=>?_
  ·have q':¬ t.inn=true:=by simpa using q
   simp only [if_neg q'] at hk
   exact st_ts (t':=t) h ei hk
  ·have q':t.inn=true:=by simpa using q
   simp only [if_pos q'] at hk
   exact st_ts (t':={ t with r0:=t.s0,r1:=t.s1,r2:=t.s2,r3:=t.s3,inn:=false,fa:=0,fc:=0,s0:=0,s1:=0,s2:=0,s3:=0 }) h ei hk
 ·have g:¬ cl.op=10:=by simpa using g
  have g2:¬ cl.op=11:=by simpa using g2
  have g3:cl.op=16:=by omega
  simp only [if_neg g,if_neg g2] at hk
  refine bsel_f (by rw [g3];rfl) (ld_ts h ei ?_)
  refine Move_spec h (hid g3) fun A1 h1=>?_
  have e1:(setR t cl.id cl.x).told=t.told∧(setR t cl.id cl.x).entry=t.entry∧(setR t cl.id cl.x).inn=t.inn∧(setR t cl.id cl.x).fa=t.fa∧(setR t cl.id cl.x).fc=t.fc∧(setR t cl.id cl.x).s0=t.s0∧(setR t cl.id cl.x).s1=t.s1∧(setR t cl.id cl.x).s2=t.s2∧(setR t cl.id cl.x).s3=t.s3:=by
   unfold setR
   split
   ·simp
   ·split
    ·simp
    ·split<;>simp
  obtain ⟨a1,a2,a3,a4,a5,a6,a7,a8,a9⟩:=e1
  have:=st_ts (t':=setR t cl.id cl.x) (K:=fun A'=>Q 0 0 A') h1 ei fun A' h'=>hk A' h'
  rw [a1,a2,a3,a4,a5,a6,a7,a8,a9] at this
  exact this
end Go.Dn
/- Loads and stores of a process: faults come to it. -/
namespace Go.Dn
variable {A:AH} {l R L:List SP} {i j k m pb pm kb cp:Nat} {box sp par pid:Int} {t t':TS} {ps:List (Int × Value)} {v0 v1 v2 v4:Value} {cl:CallR}
def kMemK (pb:Nat) (pid:Int) (Q:Int→Int→Int→Int→Int→Bool→AH→Prop):Int→Int→Int→Int→AH→Prop:=fun n9 n10 n11 n12 h13=>
(∃ R14:Bool→AH→Prop,(∀ c58:Bool,∀ h59,R14 c58 h59→
(Q pid n9 n12 n10 n11 c58 h59))∧
(bsel (n12==(9:Int))
(onSome (some ⟨pb,0,none⟩) fun a15=>
(aI .u64 (Addr.add a15 3) h13 fun n16=>
(aI .u64 (Addr.add (Addr.add a15 3) 1) h13 fun n17=>
(aI .u64 (Addr.add (Addr.add a15 3) 2) h13 fun n18=>
(aI .u64 (Addr.add (Addr.add a15 3) 3) h13 fun n19=>
(aI .i64 (Addr.add (Addr.add a15 3) 4) h13 fun n20=>
(aI .u64 (Addr.add (Addr.add a15 3) 5) h13 fun n21=>
(aB (Addr.add (Addr.add a15 3) 6) h13 fun b22=>
(aI .u64 (Addr.add (Addr.add a15 3) 7) h13 fun n23=>
(aI .i64 (Addr.add (Addr.add a15 3) 8) h13 fun n24=>
(aI .u64 (Addr.add (Addr.add a15 3) 9) h13 fun n25=>
(aI .u64 (Addr.add (Addr.add a15 3) 10) h13 fun n26=>
(aI .u64 (Addr.add (Addr.add a15 3) 11) h13 fun n27=>
(aI .u64 (Addr.add (Addr.add a15 3) 12) h13 fun n28=>
(qed_A n16 n17 n18 n19 n20 n21 b22 n23 n24 n25 n26 n27 n28 n10 n11 (fun n29 n30 n31 n32 n33 n34 b35 n36 n37 n38 n39 n40 n41 n42 h43=>
(onSome (some ⟨pb,0,none⟩) fun a44=>
(aC (Addr.add a44 3) (.int .u64 n29) h43 fun h45=>
(aC (Addr.add (Addr.add a44 3) 1) (.int .u64 n30) h45 fun h46=>
(aC (Addr.add (Addr.add a44 3) 2) (.int .u64 n31) h46 fun h47=>
(aC (Addr.add (Addr.add a44 3) 3) (.int .u64 n32) h47 fun h48=>
(aC (Addr.add (Addr.add a44 3) 4) (.int .i64 n33) h48 fun h49=>
(aC (Addr.add (Addr.add a44 3) 5) (.int .u64 n34) h49 fun h50=>
(aC (Addr.add (Addr.add a44 3) 6) (.bool b35) h50 fun h51=>
(aC (Addr.add (Addr.add a44 3) 7) (.int .u64 n36) h51 fun h52=>
(aC (Addr.add (Addr.add a44 3) 8) (.int .i64 n37) h52 fun h53=>
(aC (Addr.add (Addr.add a44 3) 9) (.int .u64 n38) h53 fun h54=>
(aC (Addr.add (Addr.add a44 3) 10) (.int .u64 n39) h54 fun h55=>
(aC (Addr.add (Addr.add a44 3) 11) (.int .u64 n40) h55 fun h56=>
(aC (Addr.add (Addr.add a44 3) 12) (.int .u64 n41) h56 fun h57=>
(R14 (n42==(0:Int)) h57)))))))))))))))) h13)))))))))))))))
(R14 false h13)))
theorem memory_spec {Q:Int→Int→Int→Int→Int→Bool→AH→Prop} (h:Own L A) (ej:L[j]? = some (At kb [.pointer (some ⟨cp,0,none⟩),v1,v2,.map (some pm),v4])) (em:L[m]? = some (MapI pm .i64 ps)) (hps:ps.lookup pid=some (ptrV pb)) (ei:L[i]? = some (At pb (procC box sp par t)))
  (hdo:qec_A (some ⟨cp,0,none⟩) sp cl.addr cl.size (cl.op==(5:Int)) cl.x (kMemK pb pid Q) A):qee_A (some ⟨kb,0,none⟩) pid cl.op cl.a cl.b cl.pw cl.pu cl.px cl.addr cl.size cl.x cl.id cl.ra cl.rb cl.rd Q A:=by
 unfold qee_A qee_G
 simp only [onSome_some,add_at,Nat.zero_add]
 refine ld_M h ej rfl (lk_M h em ?_)
 rw [hps]
 refine ⟨some ⟨pb,0,none⟩,rfl,?_⟩
 simp only [onSome_some,add_at,Nat.zero_add]
 refine ld_P h ej rfl (ld_I h ei rfl ?_)
 unfold kMemK at hdo
 simp only [onSome_some,add_at,Nat.zero_add] at hdo
 exact hdo
theorem kMemK_ok {x a f e:Int} {Q:Int→Int→Int→Int→Int→Bool→AH→Prop} (he:e≠9) (hk:Q pid x e a f false A):kMemK pb pid Q x a f e A:=
 ⟨fun b A'=>b=false∧A'=A,fun b A' ⟨e1,e2⟩=>by subst e1 e2;exact hk,bsel_f (by simp [he]) ⟨rfl,rfl⟩⟩
theorem kMemK_fault {x a f:Int} {Q:Int→Int→Int→Int→Int→Bool→AH→Prop} (h:Own L A) (ei:L[i]? = some (At pb (procC box sp par t))) (hf:0≤f∧f<18446744073709551616)
  (hk:∀ A',Own (L.set i (At pb (procC box sp par (raiseZ t a f)))) A'→Q pid x 9 a f (raiseE t==0) A'):kMemK pb pid Q x a f 9 A:=by
 unfold kMemK
 simp only [onSome_some,add_at,Nat.zero_add]
 refine ⟨fun b A'=>Q pid x 9 a f b A',fun _ _ g=>g,bsel_t rfl (ld_ts h ei (Raise_spec h hf fun A1 h1=>?_))⟩
 exact st_ts (t':=raiseZ t a f) (K:=fun A'=>Q pid x 9 a f (raiseE t==0) A') h1 ei hk
end Go.Dn
/- A kernel with one process: what its calls answer while it has no pages. -/
namespace Go.Dn
variable {A:AH} {l R L:List SP} {c:Mb} {N qn tk:Int} {u:Int} {cp kb qb pm pb:Nat} {t:TS} {cl:CallR} {w0 w1 w2 w3 w4 w5:Int}
theorem cpu_at {i n:Nat} {K:Option Addr→Prop} (h:Own L A) (e:L[i]? = some (CpuS cp n 0)) (hK:K (some ⟨n,0,none⟩)):aP ⟨cp,0,none⟩ A K:=by
 obtain ⟨s,ch,at_,_,h2⟩:=CpuS.openH (h.pick i e)
 exact ld_P (i:=0) h2 rfl rfl hK
theorem bare_regs {Q:Int→Int→Int→Int→Int→Bool→AH→Prop} (hB:Bare c cp u (kL kb cp qb pm pb qn tk c.T.bx t++l) A) (hb:∀ x ∈ [w0,w1,w2,w3,w4,w5],0≤x∧x<18446744073709551616) (hc:callZ6 w0 w1 w2 w3 w4 w5=some cl) (hop:cl.op=10∨cl.op=11∨cl.op=16)
  (hid:cl.op=16→cl.id=0∨cl.id=1∨cl.id=2∨cl.id=3) (hk:∀ A',Bare c cp u (kL kb cp qb pm pb qn tk c.T.bx (regsZ cl t)++l) A'→Q 0 0 (regsE cl t) 0 0 false A'):qfp_A (some ⟨kb,0,none⟩) w0 w1 w2 w3 w4 w5 Q A:=by
 obtain ⟨F,G,W,ls,z,sps,p,root,hf,hs,h⟩:=hB
 refine kDo_ask (j:=9) (i:=10) h rfl rfl hb hc (by omega) fun A1 h1=>kD_regs hop ?_
 exact regs_spec (j:=9) (m:=11) (i:=12) h1 rfl rfl rfl rfl hop hid fun A2 h2=>hk A2 ⟨F,G,W,ls,z,sps,p,root,hf,hs,h2⟩
theorem bare_mem {addr x0:Int} {aw:Bool} {Q:Int→Int→Int→Int→Int→Bool→AH→Prop} (hB:Bare c cp u (kL kb cp qb pm pb qn tk c.T.bx t++l) A) (hb:∀ x ∈ [w0,w1,w2,w3,w4,w5],0≤x∧x<18446744073709551616) (hc:callZ6 w0 w1 w2 w3 w4 w5=some { op:=if aw then 5 else 4,addr:=addr,size:=8,x:=x0 })
  (hu:0≤u∧u+5≤c.T.q+1) (hN:c.N≤262144) (ha:0≤addr∧addr<140737488355328) (hd:addr % 8=0)
  (hk:∀ A',Bare c cp u (kL kb cp qb pm pb qn tk c.T.bx (raiseZ t addr (codeZ aw true false))++l) A'→Q 0 0 9 addr (codeZ aw true false) (raiseE t==0) A'):qfp_A (some ⟨kb,0,none⟩) w0 w1 w2 w3 w4 w5 Q A:=by
 obtain ⟨F,G,W,ls,z,sps,p,root,hf,hs,h⟩:=hB
 have hop:(if aw then (5:Int) else 4)=4∨(if aw then (5:Int) else 4)=5:=by cases aw<;>simp
 refine kDo_mem (j:=9) (i:=10) h rfl rfl hb hc hop fun A1 h1=>?_
 refine memory_spec (j:=9) (m:=11) (i:=12) h1 rfl rfl rfl rfl ?_
 have haw:((if aw then (5:Int) else 4)==(5:Int))=aw:=by cases aw<;>rfl
 have hcode:0≤codeZ aw true false∧codeZ aw true false<18446744073709551616:=by cases aw<;>decide
 simp only
 rw [haw]
 refine DoF (pre:=[]) (post:=[]) (a:=Sp.new 0 p root c.T.bx) (size:=8) h1 hs hf rfl hu hN ha (by simp) (by simpa using hd) (fun _ ls' z' A2 hf2 h2=>?_) (fun _ y hy=>by cases hy) (fun _ y hy=>by cases hy)
 have e0:(codeZ aw true false+if (Sp.new 0 p root c.T.bx).lf (addr / 4096)=none then 0 else 1)=codeZ aw true false:=by
  have e:(Sp.new 0 p root c.T.bx).lf (addr / 4096)=none:=rfl
  rw [if_pos e];omega
 rw [e0]
 exact kMemK_fault (i:=12) h2 rfl hcode fun A3 h3=>hk A3 ⟨F,G,W,ls',z',sps,p,root,hf2,hs,h3⟩
theorem bare_get {Q:Int→Int→Int→Int→Int→Int→Bool→Int→Int→Int→Int→Int→Int→Int→Int→Int→Int→Int→Bool→AH→Prop} (hB:Bare c cp u (kL kb cp qb pm pb qn tk c.T.bx t++l) A) (hT:c.T=tr1 N)
  (hk:Q t.r0 t.r1 t.r2 t.r3 t.told t.entry t.inn t.fa t.fc t.s0 t.s1 t.s2 t.s3 0 (N-3) u (N-3-u) 0 true A):qft_A (some ⟨kb,0,none⟩) 0 Q A:=by
 obtain ⟨F,G,W,ls,z,sps,p,root,hf,hs,h⟩:=hB
 obtain ⟨N',r,b,tt,m,tl,tg,sp,kern,T⟩:=c
 simp only at hT
 subst hT
 unfold qft_A qft_G
 simp only [onSome_some,add_at,Nat.zero_add]
 refine ld_M (i:=9) h rfl rfl (lk_M (i:=11) h rfl ⟨some ⟨pb,0,none⟩,rfl,bsel_f rfl ?_⟩)
 simp only [onSome_some,add_at,Nat.zero_add]
 refine ld_P (i:=9) h rfl rfl ?_
 simp only [onSome_some,add_at,Nat.zero_add]
 refine cpu_at (i:=7) h rfl ?_
 simp only [onSome_some,add_at,Nat.zero_add]
 refine ld_P (i:=3) h rfl rfl (ld_I (i:=12) h rfl rfl ?_)
 refine Get_head (i:=1) (nd:=⟨0,N-3,u,0,true⟩) (h.pick 2 rfl) rfl rfl ?_
 refine ld_ts (i:=12) h rfl (ld_I (i:=12) h rfl rfl (ld_P (i:=9) h rfl rfl ?_))
 simp only [onSome_some,add_at,Nat.zero_add]
 refine cpu_at (i:=7) h rfl ?_
 simp only [onSome_some,add_at,Nat.zero_add]
 refine ld_P (i:=3) h rfl rfl (ld_I (i:=12) h rfl rfl (ld_I (i:=12) h rfl rfl ?_))
 refine sRoom (T:=tr1 N) h ⟨ld_I (i:=12) h rfl rfl rfl,ld_I (i:=12) h rfl rfl rfl,ld_ts (i:=12) h rfl rfl,?_⟩
 exact hk
end Go.Dn
/- The kernel's first example: a fault, a page, a store, a load. -/
namespace Go.Dn
variable {A:AH} {l R L:List SP} {c:Mb} {N qn tk:Int} {u:Int} {cp kb qb pm pb:Nat} {t:TS} {cl:CallR} {w0 w1 w2 w3 w4 w5:Int} {regs:List Reg} {ps:List Int} {D:Int→Int→Int} {n:Nat}
theorem now_spec {i j:Nat} {v0:Value} {rest:List Value} {pid:Int} {r:List Int} {Q:Int→AH→Prop} (h:Own L A) (ej:L[j]? = some (At kb (v0::.pointer (some ⟨qb,0,none⟩)::rest))) (ei:L[i]? = some (QueS qb qn tk (pid::r))) (hk:Q pid A):qfq_A (some ⟨kb,0,none⟩) Q A:=by
 unfold qfq_A qfq_G
 simp only [onSome_some,add_at,Nat.zero_add]
 refine ld_P h ej rfl (bsel_f rfl (ld_P h ej rfl (sNow_spec (h.pick i ei) (fun e=>by cases e) fun x r' e=>?_)))
 cases e
 exact hk
theorem bare_map {y:Reg} {Q:Int→Int→Int→Int→Int→Bool→AH→Prop} (hB:Bare c cp u (kL kb cp qb pm pb qn tk c.T.bx t++l) A) (hb:∀ x ∈ [w0,w1,w2,w3,w4,w5],0≤x∧x<18446744073709551616) (hc:callZ6 w0 w1 w2 w3 w4 w5=some { op:=1,a:=y.a,b:=y.b,pw:=y.w,pu:=y.u,px:=y.x }) (hr:rightB y.a y.b=true) (hy:y.k=0)
  (hu:0≤u∧u+4*ps.length+5≤c.T.q+1) (hk:∀ A',One1 c cp 0 0 [y] ps (fun _ _=>0) (kL kb cp qb pm pb qn tk c.T.bx t++l) A'→Q 0 0 0 0 0 false A'):qfp_A (some ⟨kb,0,none⟩) w0 w1 w2 w3 w4 w5 Q A:=by
 obtain ⟨F,G,W,ls,z,sps,p,root,hf,hs,h⟩:=hB
 refine kDo_ask (j:=9) (i:=10) h rfl rfl hb hc ⟨by simp,by simp⟩ fun A1 h1=>kD_map rfl ?_
 unfold qeu_A qeu_G
 simp only [onSome_some,add_at,Nat.zero_add]
 refine ld_P (i:=9) h1 rfl rfl ?_
 simp only [onSome_some,add_at,Nat.zero_add]
 refine cpu_at (i:=7) h1 rfl (ld_M (i:=9) h1 rfl rfl (lk_M (i:=11) h1 rfl ⟨some ⟨pb,0,none⟩,rfl,?_⟩))
 simp only [onSome_some,add_at,Nat.zero_add]
 refine ld_I (i:=12) h1 rfl rfl (bsel_t rfl ?_)
 refine MapF (pre:=[]) (post:=[]) (a:=Sp.new 0 p root c.T.bx) (y:=y) h1 hs hf rfl rfl (fun _=>rfl) hr hy fun s A2 hs2 hf2 h2=>hk A2 ⟨F,G,W,u,ls,z,sps,(Sp.new 0 p root c.T.bx).with1 s y,rfl,rfl,rfl,hf2,hs2,⟨fun _ _ e=>(by cases e),fun _ _ _=>rfl,fun _ _ _ _ e=>(by cases e)⟩,⟨hu.1,?_⟩,h2⟩
 have:cntP ((Sp.new 0 p root c.T.bx).with1 s y).lf ps=ps.length:=by
  unfold cntP
  exact congrArg List.length (List.filter_eq_self.2 fun q _=>rfl)
 rw [this];exact hu.2
theorem one_store {addr x0:Int} {y:Reg} {Q:Int→Int→Int→Int→Int→Bool→AH→Prop} (hO:One1 c cp n 0 regs ps D (kL kb cp qb pm pb qn tk c.T.bx t++l) A) (hb:∀ x ∈ [w0,w1,w2,w3,w4,w5],0≤x∧x<18446744073709551616) (hc:callZ6 w0 w1 w2 w3 w4 w5=some { op:=5,addr:=addr,size:=8,x:=x0 })
  (hN:c.N≤262144) (ha:0≤addr∧addr<140737488355328) (hd:addr % 8=0) (hy:findR regs (addr / 4096)=some y) (hm:mayZ y.w y.u y.x true true false=true) (hps:addr / 4096 ∈ ps)
  (hk:∀ A',One1 c cp n 0 regs ps (setD D (addr / 4096) (addr % 4096 / 8) (putB (D (addr / 4096) (addr % 4096 / 8)) (addr % 4096 % 8).toNat 8 x0)) (kL kb cp qb pm pb qn tk c.T.bx t++l) A'→Q 0 0 0 0 0 false A'):qfp_A (some ⟨kb,0,none⟩) w0 w1 w2 w3 w4 w5 Q A:=by
 obtain ⟨F,G,W,u,ls,z,sps,a,e1,e2,e3,hf,hs,hD,hu,h⟩:=hO
 refine kDo_mem (j:=9) (i:=10) h rfl rfl hb hc (.inr rfl) fun A1 h1=>memory_spec (j:=9) (m:=11) (i:=12) h1 rfl rfl rfl rfl ?_
 refine Do1 (size:=8) (aw:=true) ⟨F,G,W,u,ls,z,sps,a,e1,e2,e3,hf,hs,hD,hu,h1⟩ hN ha (by simp) (by simpa using hd) (fun _=>hps) (fun hn=>?_) (fun e=>by cases e) fun _ y' hy' _ A2 h2=>kMemK_ok (by omega) (hk A2 h2)
 have:=hn y hy
 rw [hm] at this;cases this
theorem one_load {addr:Int} {y:Reg} {Q:Int→Int→Int→Int→Int→Bool→AH→Prop} (hO:One1 c cp n 0 regs ps D (kL kb cp qb pm pb qn tk c.T.bx t++l) A) (hb:∀ x ∈ [w0,w1,w2,w3,w4,w5],0≤x∧x<18446744073709551616) (hc:callZ6 w0 w1 w2 w3 w4 w5=some { op:=4,addr:=addr,size:=8 })
  (hN:c.N≤262144) (ha:0≤addr∧addr<140737488355328) (hd:addr % 8=0) (hy:findR regs (addr / 4096)=some y) (hm:mayZ y.w y.u y.x false true false=true) (hps:addr / 4096 ∈ ps)
  (hk:∀ A',One1 c cp n 0 regs ps D (kL kb cp qb pm pb qn tk c.T.bx t++l) A'→Q 0 (getB (D (addr / 4096) (addr % 4096 / 8)) (addr % 4096 % 8).toNat 8) 0 0 0 false A'):qfp_A (some ⟨kb,0,none⟩) w0 w1 w2 w3 w4 w5 Q A:=by
 obtain ⟨F,G,W,u,ls,z,sps,a,e1,e2,e3,hf,hs,hD,hu,h⟩:=hO
 refine kDo_mem (j:=9) (i:=10) h rfl rfl hb hc (.inl rfl) fun A1 h1=>memory_spec (j:=9) (m:=11) (i:=12) h1 rfl rfl rfl rfl ?_
 refine Do1 (size:=8) (aw:=false) ⟨F,G,W,u,ls,z,sps,a,e1,e2,e3,hf,hs,hD,hu,h1⟩ hN ha (by simp) (by simpa using hd) (fun _=>hps) (fun hn=>?_) (fun _ y' hy' _ A2 h2=>kMemK_ok (by omega) (hk A2 h2)) (fun e=>by cases e)
 have:=hn y hy
 rw [hm] at this;cases this
theorem six_u {w0 w1 w2 w3 w4 w5:Int} (h:(0≤w0∧0≤w1∧0≤w2∧0≤w3∧0≤w4∧0≤w5)∧w0<18446744073709551616∧w1<18446744073709551616∧w2<18446744073709551616∧w3<18446744073709551616∧w4<18446744073709551616∧w5<18446744073709551616):∀ x ∈ [w0,w1,w2,w3,w4,w5],0≤x∧x<18446744073709551616:=fun x hx=>by
 simp at hx
 rcases hx with rfl | rfl | rfl | rfl | rfl | rfl<;>omega
theorem awake18_spec {Q:Bool→AH→Prop} (h:Own l A) (hk:∀ A',Own l A'→Q true A'):qfr_A Q A:=by
 unfold qfr_A qfr_G
 refine kPlan_spec h (by omega) fun s5 s7 A1 hs5 hs7 h1=>kBoot_spec h1 hs5 hs7 (by omega) (by omega) (by omega) fun c cp kb qb pm pb A2 hN hT h2=>?_
 have hb1:(c.T.bx:Int)=1:=by rw [hT];rfl
 have hq:c.T.q=37:=by rw [hT];rfl
 refine ⟨fun A'=>Bare c cp 1 (kL kb cp qb pm pb 2 0 c.T.bx ts0++l) A',fun A3 h3=>?_,bsel_f rfl (bsel_f rfl (by rw [hb1];exact h2))⟩
 refine bare_mem (aw:=false) (addr:=0) (x0:=0) h3 (six_u (by decide)) rfl (by omega) (by omega) (by omega) (by decide) fun A4 h4=>?_
 refine bare_map (y:=⟨0,4,true,true,false,0⟩) (ps:=[0,1,2,3]) h4 (six_u (by decide)) rfl rfl rfl (by simp;omega) fun A5 h5=>?_
 refine one_store (addr:=8) (x0:=5) (y:=⟨0,4,true,true,false,0⟩) h5 (six_u (by decide)) rfl (by omega) (by omega) (by decide) rfl rfl (by simp) fun A6 h6=>?_
 refine one_load (addr:=8) (y:=⟨0,4,true,true,false,0⟩) h6 (six_u (by decide)) rfl (by omega) (by omega) (by decide) rfl rfl (by simp) fun A7 h7=>?_
 refine bsel_t rfl (bsel_t rfl (bsel_t rfl (bsel_t rfl (bsel_t rfl (bsel_t (by decide) ?_)))))
 obtain ⟨F,G,W,u,ls,z,sps,a,e1,e2,e3,hf,hs,hD,hu,h8⟩:=h7
 refine now_spec (j:=9) (i:=10) h8 rfl rfl ?_
 exact hk A7 (MacL.rest h8).tail.tail.tail.tail.tail.tail
end Go.Dn
/- The law KernelUps: a fault goes to the entry that was said, and back. -/
namespace Go.Dn
variable {A:AH} {l:List SP} {entry addr r0 r1 r2 r3:Int} {wr:Bool}
def kuR (r0 r1 r2 r3:Int):Nat→TS
 | 0=>ts0
 | 1=>{ ts0 with r0:=r0 }
 | 2=>{ ts0 with r0:=r0,r1:=r1 }
 | 3=>{ ts0 with r0:=r0,r1:=r1,r2:=r2 }
 | _=>{ ts0 with r0:=r0,r1:=r1,r2:=r2,r3:=r3 }
def kuS (r0 r1 r2 r3 entry:Int):TS:=⟨r0,r1,r2,r3,0,entry,false,0,0,0,0,0,0⟩
def kuT (r0 r1 r2 r3 entry a c:Int):TS:=⟨a,c,0,0,0,entry,true,a,c,r0,r1,r2,r3⟩
theorem raise_up {a c:Int} (he:1≤entry):raiseZ (kuS r0 r1 r2 r3 entry) a c=kuT r0 r1 r2 r3 entry a c∧raiseE (kuS r0 r1 r2 r3 entry)=0:=by
 have e1:¬ (kuS r0 r1 r2 r3 entry).entry=0:=by show ¬ entry=0;omega
 have e2:¬ (kuS r0 r1 r2 r3 entry).inn=true:=by simp [kuS]
 unfold raiseZ raiseE
 rw [if_neg e1,if_neg e2,if_neg e1,if_neg e2]
 exact ⟨rfl,rfl⟩
theorem raise_in {a c a' c':Int} (he:1≤entry):raiseZ (kuT r0 r1 r2 r3 entry a c) a' c'=kuT r0 r1 r2 r3 entry a c∧raiseE (kuT r0 r1 r2 r3 entry a c)=11:=by
 have e1:¬ (kuT r0 r1 r2 r3 entry a c).entry=0:=by show ¬ entry=0;omega
 have e2:(kuT r0 r1 r2 r3 entry a c).inn=true:=rfl
 unfold raiseZ raiseE
 rw [if_neg e1,if_pos e2,if_neg e1,if_pos e2]
 exact ⟨rfl,rfl⟩
theorem callUp {a:Int} (ha:0≤a∧a<140737488355328) (hd:a % 8=0):callZ6 (if wr then 5 else 4) a 8 (if wr then 1 else 0) 0 0=some { op:=if wr then 5 else 4,addr:=a,size:=8,x:=if wr then 1 else 0 }:=by
 have h1:spotB a 8=true:=by
  unfold spotB
  rw [decide_eq_true (by omega),decide_eq_true hd];rfl
 cases wr
 ·show (if spotB a 8 then finZ { op:=4,addr:=a,size:=8 } [0,0,0] else none)=_
  rw [if_pos h1];rfl
 ·show (if spotB a 8&&fitsC 8 1 then finZ { op:=5,addr:=a,size:=8,x:=1 } [0,0] else none)=_
  rw [h1];rfl
set_option maxRecDepth 20000 in
theorem KernelUps_spec {Q:Bool→AH→Prop} (h:Own l A) (he:0≤entry∧entry<18446744073709551616) (ha:0≤addr∧addr<18446744073709551616) (hr:∀ x ∈ [r0,r1,r2,r3],0≤x∧x<18446744073709551616) (hk:∀ A',Own l A'→Q true A'):qfu_A entry addr r0 r1 r2 r3 wr Q A:=by
 unfold qfu_A qfu_G
 refine ⟨fun A'=>A'=A∧1≤entry∧entry<140737488355328∧addr<140737488355328,fun A0 ⟨e0,g1,g2,g3⟩=>?_,?_⟩
 ·subst e0
  have hmod:Int.tmod addr 8=addr % 8:=Int.tmod_eq_emod_of_nonneg ha.1
  have hwa:IntKind.wrap .u64 (addr-Int.tmod addr 8)=addr-addr % 8:=by rw [hmod,wu64]<;>omega
  rw [hwa]
  have ha2:0≤addr-addr % 8∧addr-addr % 8<140737488355328:=by omega
  have hd:(addr-addr % 8) % 8=0:=by omega
  generalize addr-addr % 8=a at ha2 hd
  have q0:=hr r0 (by simp)
  have q1:=hr r1 (by simp)
  have q2:=hr r2 (by simp)
  have q3:=hr r3 (by simp)
  refine kPlan_spec h (by omega) fun s5 s7 A1 hs5 hs7 h1=>kBoot_spec h1 hs5 hs7 (by omega) (by omega) (by omega) fun c cp kb qb pm pb A2 hN hT h2=>?_
  have hb1:(c.T.bx:Int)=1:=by rw [hT];rfl
  have hq:c.T.q=37:=by rw [hT];rfl
  have hcode:codeZ wr true false=if wr then 6 else 4:=by cases wr<;>rfl
  refine ⟨fun A'=>Bare c cp 1 (kL kb cp qb pm pb 1 0 c.T.bx ts0++l) A',fun A3 h3=>?_,bsel_f rfl (bsel_f rfl (by rw [hb1];exact h2))⟩
  refine ⟨fun x m A'=>∃ i:Nat,x=i∧i≤4∧4-i=m∧Bare c cp 1 (kL kb cp qb pm pb 1 0 c.T.bx (kuR r0 r1 r2 r3 i)++l) A',⟨_,0,rfl,by omega,rfl,h3⟩,?_⟩
  intro x m A4 ⟨i,i1,i2,i3,h4⟩
  subst i1 i3
  refine bsel_in (fun q=>?_) fun q=>?_
  ·have q:i<4:=by simp at q;omega
   refine inB_in (by omega) (by omega) ?_
   obtain rfl | rfl | rfl | rfl:i=0∨i=1∨i=2∨i=3:=by omega
   ·refine ⟨r0,rfl,?_⟩
    refine bare_regs (cl:={ op:=16,id:=0,x:=r0 }) h4 (six_u ⟨⟨by decide,by decide,q0.1,by decide,by decide,by decide⟩,by decide,by decide,q0.2,by decide,by decide,by decide⟩) rfl (.inr (.inr rfl)) (fun _=>.inl rfl) fun A5 h5=>⟨3,by omega,1,rfl,by omega,rfl,h5⟩
   ·refine ⟨r1,rfl,?_⟩
    refine bare_regs (cl:={ op:=16,id:=1,x:=r1 }) h4 (six_u ⟨⟨by decide,by decide,q1.1,by decide,by decide,by decide⟩,by decide,by decide,q1.2,by decide,by decide,by decide⟩) rfl (.inr (.inr rfl)) (fun _=>.inr (.inl rfl)) fun A5 h5=>⟨2,by omega,2,rfl,by omega,rfl,h5⟩
   ·refine ⟨r2,rfl,?_⟩
    refine bare_regs (cl:={ op:=16,id:=2,x:=r2 }) h4 (six_u ⟨⟨by decide,by decide,q2.1,by decide,by decide,by decide⟩,by decide,by decide,q2.2,by decide,by decide,by decide⟩) rfl (.inr (.inr rfl)) (fun _=>.inr (.inr (.inl rfl))) fun A5 h5=>⟨1,by omega,3,rfl,by omega,rfl,h5⟩
   ·refine ⟨r3,rfl,?_⟩
    refine bare_regs (cl:={ op:=16,id:=3,x:=r3 }) h4 (six_u ⟨⟨by decide,by decide,q3.1,by decide,by decide,by decide⟩,by decide,by decide,q3.2,by decide,by decide,by decide⟩) rfl (.inr (.inr rfl)) (fun _=>.inr (.inr (.inr rfl))) fun A5 h5=>⟨0,by omega,4,rfl,by omega,rfl,h5⟩
  ·have q:i=4:=by simp at q;omega
   subst q
   have hc10:callZ6 10 entry 0 0 0 0=some { op:=10,addr:=entry }:=by
    show (if decide (entry≤140737488355327) then finZ { op:=10,addr:=entry } [0,0,0,0] else none)=_
    rw [if_pos (by simp;omega)];rfl
   refine bare_regs (cl:={ op:=10,addr:=entry }) h4 (six_u ⟨⟨by decide,he.1,by decide,by decide,by decide,by decide⟩,by decide,he.2,by decide,by decide,by decide,by decide⟩) hc10 (.inl rfl) (fun e=>by simp at e) fun A5 h5=>?_
   have h5:Bare c cp 1 (kL kb cp qb pm pb 1 0 c.T.bx (kuS r0 r1 r2 r3 entry)++l) A5:=h5
   refine bare_get (N:=40) h5 hT ?_
   refine ⟨fun x c0 c1 c2 c3 c4 c5 A'=>x=codeZ wr true false∧c0=(if wr then 5 else 4)∧c1=a∧c2=8∧c3=(if wr then 1 else 0)∧c4=0∧c5=0∧A'=A5,fun x c0 c1 c2 c3 c4 c5 A6 ⟨e1,e2,e3,e4,e5,e6,e7,e8⟩=>?_,?_⟩
   ·subst e1 e2 e3 e4 e5 e6 e7 e8
    have hb:∀ x ∈ [(if wr then (5:Int) else 4),c1,8,(if wr then 1 else 0),0,0],0≤x∧x<18446744073709551616:=by
     cases wr
     ·exact six_u ⟨⟨by decide,ha2.1,by decide,by decide,by decide,by decide⟩,by decide,by omega,by decide,by decide,by decide,by decide⟩
     ·exact six_u ⟨⟨by decide,ha2.1,by decide,by decide,by decide,by decide⟩,by decide,by omega,by decide,by decide,by decide,by decide⟩
    obtain ⟨z1,z2⟩:=raise_up (r0:=r0) (r1:=r1) (r2:=r2) (r3:=r3) (a:=c1) (c:=codeZ wr true false) g1
    obtain ⟨z3,z4⟩:=raise_in (r0:=r0) (r1:=r1) (r2:=r2) (r3:=r3) (a:=c1) (c:=codeZ wr true false) (a':=c1) (c':=codeZ wr true false) g1
    refine bare_mem (aw:=wr) (addr:=c1) (x0:=if wr then 1 else 0) h5 hb (callUp ha2 hd) (by omega) (by omega) ha2 hd fun A7 h7=>?_
    rw [z1] at h7
    rw [z2]
    refine bare_get (N:=40) h7 hT ?_
    refine bare_mem (aw:=wr) (addr:=c1) (x0:=if wr then 1 else 0) h7 hb (callUp ha2 hd) (by omega) (by omega) ha2 hd fun A8 h8=>?_
    rw [z3] at h8
    rw [z4]
    refine bare_regs (cl:={ op:=11 }) h8 (six_u (by decide)) rfl (.inr (.inl rfl)) (fun e=>by simp at e) fun A9 h9=>?_
    have h9:Bare c cp 1 (kL kb cp qb pm pb 1 0 c.T.bx (kuS r0 r1 r2 r3 entry)++l) A9:=h9
    refine bare_get (N:=40) h9 hT ?_
    refine bare_mem (aw:=wr) (addr:=c1) (x0:=if wr then 1 else 0) h9 hb (callUp ha2 hd) (by omega) (by omega) ha2 hd fun A10 h10=>?_
    rw [z2]
    have hwc:IntKind.wrap .u64 (codeZ wr true false)=codeZ wr true false:=by cases wr<;>rfl
    refine ⟨fun A'=>A'=A10,fun A11 e11=>?_,bsel_f (by simp) (bsel_f (by simp) (bsel_f (by simp) rfl))⟩
    subst e11
    obtain ⟨F,G,W,ls,z,sps,p,root,hf,hs,h12⟩:=h10
    refine awake18_spec (MacL.rest h12).tail.tail.tail.tail.tail.tail fun A12 h13=>bsel_t rfl (bsel_t rfl (bsel_t (by simp [kuT]) (bsel_t (by rw [hwc];simp [kuT]) (bsel_t rfl (bsel_t rfl ?_)))))
    have:=hk A12 h13
    simpa using this
   ·rw [hcode]
    refine bsel_in (fun q=>?_) fun q=>?_
    ·subst q;exact ⟨rfl,rfl,rfl,rfl,rfl,rfl,rfl,rfl⟩
    ·subst q;exact ⟨rfl,rfl,rfl,rfl,rfl,rfl,rfl,rfl⟩
 ·refine bsel_in (fun q=>awake18_spec h fun A1 h1=>hk A1 h1) fun q=>bsel_in (fun q2=>awake18_spec h fun A1 h1=>hk A1 h1) fun q2=>bsel_in (fun q3=>awake18_spec h fun A1 h1=>hk A1 h1) fun q3=>⟨rfl,?_,?_,?_⟩
  ·simpa using q
  ·simpa using q2
  ·simpa using q3
end Go.Dn
