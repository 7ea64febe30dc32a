/- What the proof stands on: Down, Query, Root. -/
import Derived.Test.YtmfmhmipcdgikaaGreatTabs
/- The tables that lead to a page. -/
namespace Go.Dn
variable {A:AH} {l R:List SP} {r:Nat} {fr:Int} {hs:List (Int × Int)} {W:Int→Int→Int} {root:Int} {tab:Tab} {lf:Int→Option Lf}
def preP (p:Int):Nat→Int
 | 0=>0
 | 1=>p / 134217728
 | 2=>p / 262144
 | 3=>p / 512
 | _=>p
def atP (p:Int):Nat→Int
 | 0=>p / 134217728 % 512
 | 1=>p / 262144 % 512
 | 2=>p / 512 % 512
 | _=>p % 512
theorem preP_succ {p:Int} (hp:0≤p∧p<34359738368) {k:Nat} (hk:k<4):preP p (k+1)=preP p k*512+atP p k∧0≤atP p k∧atP p k<512∧(k=0→atP p k<256)∧0≤preP p k:=by
 obtain rfl | rfl | rfl | rfl:k=0∨k=1∨k=2∨k=3:=by omega
 all_goals simp only [preP,atP]
 all_goals omega
theorem path_spec {p:Int} {Q:Int→Int→Int→Int→AH→Prop} (h:Own l A) (hp:0≤p∧p<34359738368) (hk:∀ A',Own l A'→Q (atP p 0) (atP p 1) (atP p 2) (atP p 3) A'):qdj_A p Q A:=by
 unfold qdj_A qdj_G
 rw [wu64 (n:=p) (by omega) (by omega),wu64 (by omega) (by omega)]
 refine Split_spec ⟨by omega,by omega⟩ h fun A' hA=>?_
 have e0:partZ (p*4096) 39=atP p 0:=by simp only [partZ,atP];omega
 have e1:partZ (p*4096) 30=atP p 1:=by simp only [partZ,atP];omega
 have e2:partZ (p*4096) 21=atP p 2:=by simp only [partZ,atP];omega
 have e3:partZ (p*4096) 12=atP p 3:=by simp only [partZ,atP];omega
 rw [e0,e1,e2,e3]
 exact hk A' hA
structure DownOK (tab:Tab) (p:Int) (lst:List Int):Prop where
 pos:0<lst.length
 le:lst.length≤4
 is:∀ c,c<lst.length→tab c (preP p c)=lst[c]?
 no:lst.length<4→tab lst.length (preP p lst.length)=none
def atCells (p:Int):List Value:=[.int .i64 (atP p 0),.int .i64 (atP p 1),.int .i64 (atP p 2),.int .i64 (atP p 3)]
theorem atCells_at {p:Int} {c:Nat} (hc:c<4):(atCells p)[c]? = some (.int .i64 (atP p c)):=by
 obtain rfl | rfl | rfl | rfl:c=0∨c=1∨c=2∨c=3:=by omega
 all_goals rfl
set_option maxRecDepth 100000 in
theorem down_spec {p bx:Int} {pb pt:Option Addr} {Q:Sl→AH→Prop} (h:Own (RamW r fr hs W::R) A) (hT:TabW W root tab lf) (hhas:∀ k q f,tab k q=some f→hasF fr hs f=true) (hp:0≤p∧p<34359738368)
  (hk:∀ lst s A',DownOK tab p lst→s.len=lst.length→s.a≠none→Own (RamW r fr hs W::SlO s 1 (intsV lst)::R) A'→Q s A'):qdn_A (some ⟨r,0,none⟩) pb pt bx root p Q A:=by
 unfold qdn_A qdn_G
 refine path_spec h hp fun A1 h1=>?_
 refine new_C (cs:=[.int .i64 0,.int .i64 0,.int .i64 0,.int .i64 0]) h1 fun b6 A2 h2=>?_
 simp only [add_at]
 refine st_C (i:=0) h2 rfl rfl rfl fun A3 h3=>st_C (i:=0) h3 rfl rfl rfl fun A4 h4=>st_C (i:=0) h4 rfl rfl rfl fun A5 h5=>st_C (i:=0) h5 rfl rfl rfl fun A6 h6=>?_
 have h6:Own (At b6 (atCells p)::RamW r fr hs W::R) A6:=h6
 refine new_C (cs:=intsV [root]) h6 fun b12 A7 h7=>?_
 have h7:Own (SlO ⟨some ⟨b12,0,none⟩,1,1⟩ 1 (intsV [root])::At b6 (atCells p)::RamW r fr hs W::R) A7:=h7.imp fun B hB=>at_slo (k:=1) (sz:=1) rfl hB
 have h7:Own (RamW r fr hs W::SlO ⟨some ⟨b12,0,none⟩,1,1⟩ 1 (intsV [root])::At b6 (atCells p)::R) A7:=h7.rot3
 have hroot:tab 0 0=some root:=(hT.root 0 root).2 ⟨rfl,rfl⟩
 refine ⟨fun s h'=>∃ lst,DownOK tab p lst∧s.len=lst.length∧s.a≠none∧Own (RamW r fr hs W::SlO s 1 (intsV lst)::At b6 (atCells p)::R) h',fun s h' ⟨lst,g1,g2,g3,g4⟩=>hk lst s h' g1 g2 g3 (g4.sub (List.Sublist.cons_cons _ (List.Sublist.cons_cons _ (List.sublist_cons_self _ _)))),?_⟩
 refine ⟨fun s x m h'=>∃ (v:Nat) (lst:List Int),x=v∧v≤3∧3-v=m∧lst.length=v+1∧(∀ c,c<v+1→tab c (preP p c)=lst[c]?)∧s.len=v+1∧s.a≠none∧Own (RamW r fr hs W::SlO s 1 (intsV lst)::At b6 (atCells p)::R) h',
  ⟨_,0,[root],rfl,by omega,rfl,rfl,fun c hc=>?_,rfl,by simp,h7⟩,?_⟩
 ·have:c=0:=by omega
  subst this
  exact hroot
 intro s x m A8 ⟨v,lst,i1,i2,i3,i4,i5,i6,i7,h8⟩
 subst i1 i3
 apply bsel_in
 rotate_left
 ·intro d
  have d:v=3:=by simp at d;omega
  subst d
  exact ⟨lst,⟨by omega,by omega,fun c hc=>i5 c (by omega),fun hc=>by omega⟩,by omega,i7,h8⟩
 intro d
 have d:v<3:=by simp at d;omega
 obtain ⟨f,hf⟩:∃ f,lst[v]? = some f:=⟨lst[v],by simp [i4]⟩
 have hfv:=i5 v (by omega)
 rw [hf] at hfv
 obtain ⟨bb,o,q1,q2⟩:=rd_cell (i:=1) (P:=SlO s 1 (intsV lst)) h8 rfl reads_slo (j:=v) (v:=.int .i64 f) (by simp only [intsV,List.getElem?_map,hf];rfl)
 obtain ⟨e1,e2,e3,e4,e5⟩:=preP_succ hp (k:=v) (by omega)
 have ldf:∀ K:Int→Prop,K f→aI .i64 (Addr.add ⟨bb,o,none⟩ (Int.toNat (v:Int)*1)) A8 K:=fun K hK=>⟨f,by rw [add_at];simpa using q2,hK⟩
 rw [q1]
 refine inB_in (by omega) (by omega) (inB_in (by omega) (by omega) (ldf _ ?_))
 refine ld_I (i:=2) h8 rfl (by rw [show 0+Int.toNat (v:Int)*1=v by omega];exact atCells_at (by omega)) ?_
 refine get_head h8 (hhas _ _ _ hfv) ⟨e2,e3⟩ fun A9 h9=>?_
 have hw:=hT.words v _ f d hfv (atP p v) e2 e3 e4
 rw [←e1] at hw
 cases hn:tab (v+1) (preP p (v+1)) with
 | none=>
  rw [hn] at hw
  have hw:W f (atP p v)=0:=hw
  rw [hw]
  exact bsel_t rfl ⟨lst,⟨by omega,by omega,fun c hc=>i5 c (by omega),fun _=>by rw [i4];exact hn⟩,by omega,i7,h9⟩
 | some g=>
  rw [hn] at hw
  obtain ⟨w1,w2,_,_⟩:=entI_bits hw (hT.range _ _ _ hn)
  rw [w1,w2]
  refine bsel_f rfl ?_
  refine new_C (cs:=intsV [g]) h9 fun b35 A10 h10=>?_
  have h10:Own (SlAt ⟨some ⟨b35,0,none⟩,1,1⟩ 1 (intsV [g])::RamW r fr hs W::SlO s 1 (intsV lst)::At b6 (atCells p)::R) A10:=h10.imp fun B hB=>(at_slo (k:=1) (sz:=1) rfl hB).look
  have h10:Own (SlO s 1 (intsV lst)::SlAt ⟨some ⟨b35,0,none⟩,1,1⟩ 1 (intsV [g])::RamW r fr hs W::At b6 (atCells p)::R) A10:=h10.pick 2 rfl
  refine ap_head (i:=0) h10 rfl (fun q=>by cases q) (fun q=>absurd q i7) rfl (fun x hx=>?_) ⟨by simp only [i6];omega,by simp only [i6];omega⟩ fun s' A11 j1 j2 h11=>?_
  ·simp [intsV] at hx;subst hx;rfl
  rw [←intsV_app] at h11
  refine ⟨3-(v+1),by omega,v+1,lst++[g],by rw [w64]<;>omega,by omega,rfl,by simp [i4],fun c hc=>?_,by simp only [j1,i6],fun q=>by have:=j2 q;simp [intsV] at this,?_⟩
  ·by_cases g1:c<v+1
   ·rw [List.getElem?_append_left (by omega)];exact i5 c g1
   ·have:c=v+1:=by omega
    subst this
    rw [List.getElem?_append_right (by omega),hn,i4];simp
  ·exact (h11.sub (List.Sublist.cons_cons _ (List.sublist_cons_self _ _))).swap
end Go.Dn
/- What a page leads to. -/
namespace Go.Dn
variable {A:AH} {l R:List SP} {r:Nat} {fr:Int} {hs:List (Int × Int)} {W:Int→Int→Int} {root:Int} {tab:Tab} {lf:Int→Option Lf}
theorem TabW.chain (h:TabW W root tab lf) {p:Int} {x:Lf} (hp:0≤p∧p<34359738368) (hx:lf p=some x):∀ c,c<4→tab c (preP p c)≠none:=by
 obtain ⟨f3,h3,_⟩:=h.upL p x hx
 obtain ⟨f2,h2,_⟩:=h.up 2 _ _ h3
 obtain ⟨f1,h1,_⟩:=h.up 1 _ _ h2
 have e2:p / 512 / 512=p / 262144:=by omega
 have e1:p / 262144 / 512=p / 134217728:=by omega
 rw [e2] at h2 h1
 rw [e1] at h1
 have h0:tab 0 0=some root:=(h.root 0 root).2 ⟨rfl,rfl⟩
 intro c hc
 obtain rfl | rfl | rfl | rfl:c=0∨c=1∨c=2∨c=3:=by omega
 ·simp only [preP];rw [h0];simp
 ·simp only [preP];rw [h1];simp
 ·simp only [preP];rw [h2];simp
 ·simp only [preP];rw [h3];simp
theorem DownOK.four {p:Int} {lst:List Int} (h:DownOK tab p lst) (hl:lst.length=4):∃ f,lst[3]? = some f∧tab 3 (p / 512)=some f:=by
 have:=h.is 3 (by omega)
 refine ⟨lst[3],by simp [hl],?_⟩
 rw [show p / 512=preP p 3 from rfl,this]
 simp [hl]
set_option maxRecDepth 100000 in
theorem Query_spec {p bx:Int} {pb pt:Option Addr} {Q:Int→Bool→Bool→Bool→Bool→AH→Prop} (h:Own (RamW r fr hs W::R) A) (hT:TabW W root tab lf) (hhas:∀ k q f,tab k q=some f→hasF fr hs f=true)
  (hn:(p<0∨p≥34359738368∨lf p=none)→∀ A',Own (RamW r fr hs W::R) A'→Q 0 false false false false A')
  (hk:∀ x,0≤p→p<34359738368→lf p=some x→∀ A',Own (RamW r fr hs W::R) A'→Q x.frame x.w x.u x.x true A'):qdo_A (some ⟨r,0,none⟩) pb pt bx root p Q A:=by
 unfold qdo_A qdo_G
 refine ⟨fun _ _ _ h'=>h'=A∧0≤p∧p<34359738368,?_,bsel_in (fun c=>hn (.inl (by simpa using c)) A h) fun c=>bsel_in (fun d=>hn (.inr (.inl (by simpa using d))) A h) fun d=>⟨rfl,by simpa using c,by simpa using d⟩⟩
 intro _ _ _ A0 ⟨e0,p0,p1⟩
 subst e0
 refine down_spec h hT hhas ⟨p0,p1⟩ fun lst s A1 hD hl hsa h1=>?_
 have hle:=hD.le
 refine bsel_in (fun c=>?_) fun c=>?_
 ·have c:lst.length<4:=by simp [hl] at c;omega
  refine hn (.inr (.inr ?_)) A1 (h1.sub (List.Sublist.cons_cons _ (List.sublist_cons_self _ _)))
  cases hx:lf p with
  | none=>rfl
  | some x=>exact absurd (hD.no c) (hT.chain ⟨p0,p1⟩ hx _ c)
 have c:lst.length=4:=by simp [hl] at c;omega
 obtain ⟨f,hf,ht⟩:=hD.four c
 have ld3:∀ B,Own (RamW r fr hs W::SlO s 1 (intsV lst)::R) B→∀ a,s.a=some a→∀ K:Int→Prop,K f→aI .i64 (Addr.add a 3) B K:=by
  intro B hB a ha K hK
  obtain ⟨bb,o,q1,q2⟩:=rd_cell (i:=1) (P:=SlO s 1 (intsV lst)) hB rfl reads_slo (j:=3) (v:=.int .i64 f) (by simp only [intsV,List.getElem?_map,hf];rfl)
  rw [q1] at ha
  cases ha
  exact ⟨f,by rw [add_at];exact q2,hK⟩
 obtain ⟨a,ha⟩:∃ a,s.a=some a:=by
  cases e:s.a with
  | none=>exact absurd e hsa
  | some a=>exact ⟨a,rfl⟩
 have ld3:=fun B hB=>ld3 B hB a ha
 rw [ha]
 refine inB_in (by omega) (by simp [hl,c]) (ld3 _ h1 _ ?_)
 refine path_spec h1 ⟨p0,p1⟩ fun A2 h2=>⟨ld3 _ h2 _ rfl,atP p 3,rfl,?_⟩
 have hj:0≤atP p 3∧atP p 3<512:=by simp only [atP];omega
 refine get_head h2 (hhas _ _ _ ht) hj fun A3 h3=>?_
 have hw:=hT.leaves _ f ht (atP p 3) hj.1 hj.2
 rw [show p / 512*512+atP p 3=p by simp only [atP];omega] at hw
 have h3':Own (RamW r fr hs W::R) A3:=h3.sub (List.Sublist.cons_cons _ (List.sublist_cons_self _ _))
 cases hx:lf p with
 | none=>
  rw [hx] at hw
  have hw:W f (atP p 3)=0:=hw
  rw [hw]
  exact bsel_t rfl (hn (.inr (.inr hx)) A3 h3')
 | some x=>
  rw [hx] at hw
  obtain ⟨b0,b1,b2,b3,b4,_,_⟩:=leafI_bits hw (hT.rangeL _ _ hx)
  rw [b0,b1,b2,b3,b4,Bool.not_not]
  exact bsel_f rfl (hk x p0 p1 hx A3 h3')
end Go.Dn
/- A root with the kernel's tables in it. -/
namespace Go.Dn
variable {A:AH} {l R:List SP} {r b t i:Nat} {fr n:Int} {hs:List (Int × Int)} {W:Int→Int→Int} {F G:Int→Prop} {ns:List Nd} {nd:Nd}
def tab0 (root:Int):Tab:=fun k q=>if k=0∧q=0 then some root else none
theorem TabW.init {root:Int} (hz:∀ j,0≤j→j<256→W root j=0) (hr:0≤root∧root<1048576):TabW W root (tab0 root) (fun _=>none):=by
 have key:∀ k q f,tab0 root k q=some f→k=0∧q=0∧f=root:=by
  intro k q f h
  unfold tab0 at h
  split at h
  ·rename_i e
   cases h
   exact ⟨e.1,e.2,rfl⟩
  ·cases h
 refine ⟨fun q f=>⟨fun h=>⟨(key _ _ _ h).2.1,(key _ _ _ h).2.2⟩,fun h=>?_⟩,fun k q hk=>?_,fun k q f hk hf j h0 h1 h2=>?_,fun q f hf=>?_,fun k q f hf=>?_,fun p x hx=>(by cases hx),fun k1 q1 k2 q2 f h1 h2=>?_,fun k q f hf=>?_,fun p x hx=>(by cases hx)⟩
 ·unfold tab0
  rw [h.1,h.2,if_pos ⟨rfl,rfl⟩]
 ·unfold tab0
  rw [if_neg (by omega)]
 ·obtain ⟨rfl,rfl,rfl⟩:=key _ _ _ hf
  rw [hz j h0 (h2 rfl)]
  unfold tab0
  rw [if_neg (by omega)]
  rfl
 ·have:=(key _ _ _ hf).1
  omega
 ·have:=(key _ _ _ hf).1
  omega
 ·obtain ⟨a1,a2,_⟩:=key _ _ _ h1
  obtain ⟨b1,b2,_⟩:=key _ _ _ h2
  exact ⟨a1.trans b1.symm,a2.trans b2.symm⟩
 ·rw [(key _ _ _ hf).2.2];exact hr
theorem Root_spec {kern:Int} {tk:List Int} {Q:Int→Int→AH→Prop} (h:Own (taken r fr hs W b F G n t ns i nd tk++R) A) (hi:ns[i]? = some nd) (hlv:nd.live=true) (hF:∀ x,F x→hasF fr hs x=true) (hkn:0≤kern∧kern<1048576)
  (hq:nd.quo-nd.use-nd.lent≤tk.length→Q 0 8 A) (hm:tk.length<nd.quo-nd.use-nd.lent→n=tk.length→∀ A',Own (taken r fr hs W b F G n t ns i nd tk++R) A'→Q 0 7 A')
  (hk:tk.length<nd.quo-nd.use-nd.lent→n≠tk.length→∀ f A',F f→f ∉ tk→Own (taken r fr hs (setW (zeroW W f) f 256 (kEnt kern)) b F G n t ns i nd (tk++[f])++R) A'→Q f 0 A') :
  qbz_A (some ⟨r,0,none⟩) (some ⟨b,0,none⟩) (some ⟨t,0,none⟩) i kern Q A:=by
 unfold qbz_A qbz_G
 refine tTake_spec h hi hlv hF (fun c=>bsel_t rfl (hq c)) (fun c d A' hA=>bsel_t rfl (hm c d A' hA)) fun c d f A1 hf hn hA=>bsel_f rfl ?_
 exact put_head hA (hF f hf) ⟨by omega,by omega⟩ hkn fun A2 hA2=>hk c d f A2 hf hn hA2
end Go.Dn
