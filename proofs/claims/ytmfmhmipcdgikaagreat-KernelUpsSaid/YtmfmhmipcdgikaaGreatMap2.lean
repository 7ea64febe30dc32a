/- What the proof stands on: MapL, Map, Map2. -/
import Derived.Test.YtmfmhmipcdgikaaGreatRoot
/- Frames that are given back. -/
namespace Go.Dn
variable {A:AH} {l R:List SP} {r b t i:Nat} {fr n:Int} {hs:List (Int × Int)} {W:Int→Int→Int} {F G:Int→Prop} {ns:List Nd} {nd:Nd} {root:Int} {tab:Tab} {lf:Int→Option Lf}
theorem give_loop {tk:List Int} {s:Sl} {W':Int→Int→Int} {K:AP} (h:Own (taken r fr hs W' b F G n t ns i nd tk++SlO s 1 (intsV tk)::R) A) (hi:ns[i]? = some nd) (hlv:nd.live=true) (hu:0≤nd.use) (hFG:∀ x,F x→¬G x)
  (hF:∀ x ∈ tk,F x) (hnd:tk.Nodup) (hl:tk.length<9223372036854775807) (hk:∀ A',Own (RamW r fr hs W'::Bud b F G n::TreeS t ns::R) A'→K A') :
  ∃ I17:Int→Nat→AH→Prop,(∃ m18,I17 (0:Int) m18 A)∧∀ x21:Int,∀ m18 h20,I17 x21 m18 h20→
   (bsel (decide (x21<(Int.ofNat s.len))) (onSome s.a fun a22=>(inB x21 s.len (aI .i64 (Addr.add a22 (Int.toNat x21*1)) h20 fun n23=>
    (qbi_A (some ⟨r,0,none⟩) (some ⟨b,0,none⟩) (some ⟨t,0,none⟩) i n23 (fun h24=>(∃ m19,m19<m18∧I17 (IntKind.wrap .i64 (x21+(1:Int))) m19 h24)) h20)))) (K h20)):=by
 have hsl:s.len=tk.length:=by
  have:=rd_len (i:=3) (P:=SlO s 1 (intsV tk)) h rfl reads_slo
  simpa [intsV] using this
 refine ⟨fun x m h'=>∃ c:Nat,x=c∧c≤tk.length∧tk.length-c=m∧Own (taken r fr hs W' b F G n t ns i nd (tk.drop c)++SlO s 1 (intsV tk)::R) h',⟨_,0,rfl,by omega,rfl,h⟩,?_⟩
 intro x m A5 ⟨c,e1,e2,e3,hA5⟩
 subst e1 e3
 refine bsel_in (fun d=>?_) fun d=>?_
 ·have d:c<tk.length:=by simp [hsl] at d;omega
  obtain ⟨f,hf⟩:∃ f,tk[c]? = some f:=⟨tk[c],by simp [d]⟩
  have hd:tk.drop c=f::tk.drop (c+1):=by
   rw [List.drop_eq_getElem_cons d]
   have:=(List.getElem?_eq_some_iff.1 hf).2
   rw [this]
  rw [hd] at hA5
  obtain ⟨bb,o,q1,q2⟩:=rd_cell (i:=3) (P:=SlO s 1 (intsV tk)) hA5 rfl reads_slo (j:=c) (v:=.int .i64 f) (by simp only [intsV,List.getElem?_map,hf];rfl)
  rw [q1]
  refine inB_in (by omega) (by omega) ⟨f,by rw [add_at];simpa using q2,?_⟩
  have hfm:f ∈ tk:=List.mem_of_getElem? hf
  refine tGive_spec hA5 hi hlv hu (hF f hfm) (by rw [←hd];exact hnd.sublist (List.drop_sublist _ _)) (hFG f (hF f hfm)) fun A6 hA6=>?_
  exact ⟨tk.length-(c+1),by omega,c+1,by rw [w64]<;>omega,by omega,rfl,hA6⟩
 ·have d:c=tk.length:=by simp [hsl] at d;omega
  rw [d,List.drop_length] at hA5
  refine hk A5 ?_
  have:=taken_back hi hA5
  exact this.sub (List.Sublist.cons_cons _ (List.Sublist.cons_cons _ (List.Sublist.cons_cons _ (List.sublist_cons_self _ _))))
end Go.Dn
/- A page more. -/
namespace Go.Dn
variable {A:AH} {l R:List SP} {r b t i:Nat} {fr n:Int} {hs:List (Int × Int)} {W:Int→Int→Int} {F G:Int→Prop} {ns:List Nd} {nd:Nd} {root:Int} {tab:Tab} {lf:Int→Option Lf}
structure Way (W:Int→Int→Int) (root:Int) (tab:Tab) (lf:Int→Option Lf) (p:Int) (tk:List Int) (W2:Int→Int→Int) (tab1:Tab) (lst:List Int):Prop where
 ok:TabW W2 root tab1 lf
 down:DownOK tab1 p lst
 old:∀ k q f,tab k q=some f→tab1 k q=some f
 new:∀ k q f,tab1 k q=some f→tab k q=some f∨(f ∈ tk∧q=preP p k∧1≤k∧k≤3)
 other:∀ f,f ∉ tk→(∀ k q,tab k q≠some f)→W2 f=W f
 hi:∀ j,256≤j→W2 root j=W root j
theorem Way.step {p:Int} {tk lst:List Int} {W2:Int→Int→Int} {tab1:Tab} (h:Way W root tab lf p tk W2 tab1 lst) (hp:0≤p∧p<34359738368) (hl:lst.length<4) {f g:Int} (hf:lst[lst.length-1]? = some f) (hg:g ∈ tk)
  (hno:∀ k q,tab1 k q≠some g) (hz:∀ j,0≤j→j<512→W2 g j=0) (hr:0≤g∧g<1048576) :
  Way W root tab lf p tk (setW W2 f (atP p (lst.length-1)) (entW g)) (setT tab1 lst.length (preP p lst.length) (some g)) (lst++[g]):=by
 obtain ⟨k,hk⟩:∃ k,lst.length=k+1:=⟨lst.length-1,by have:=h.down.pos;omega⟩
 rw [hk] at hf
 simp only [Nat.add_sub_cancel] at hf
 obtain ⟨e1,e2,e3,e4,e5⟩:=preP_succ hp (k:=k) (by omega)
 have hft:=h.down.is k (by omega)
 rw [hf] at hft
 have hn:=h.down.no hl
 rw [hk,e1] at hn
 have hlink:=h.ok.link (k:=k) (by omega) hft e5 ⟨e2,e3⟩ e4 hn hno hz hr
 rw [hk,Nat.add_sub_cancel,e1]
 have old:∀ k' q' f',tab1 k' q'=some f'→setT tab1 (k+1) (preP p k*512+atP p k) (some g) k' q'=some f':=by
  intro k' q' f' h1
  unfold setT
  split
  ·rename_i e
   rw [e.1,e.2,hn] at h1
   cases h1
  ·exact h1
 refine ⟨hlink,⟨by simp,by simp;omega,fun c hc=>?_,fun hc=>?_⟩,fun k' q' f' h1=>old _ _ _ (h.old _ _ _ h1),fun k' q' f' h1=>?_,fun f' h1 h2=>?_,fun j hj=>?_⟩
 ·by_cases e:c=k+1
  ·subst e
   rw [List.getElem?_append_right (by omega),hk,e1]
   unfold setT
   rw [if_pos ⟨rfl,rfl⟩]
   simp
  ·have:c<k+1:=by simp [hk] at hc;omega
   rw [List.getElem?_append_left (by omega)]
   unfold setT
   rw [if_neg (fun z=>e z.1)]
   exact h.down.is c (by omega)
 ·have e6:(lst++[g]).length=k+2:=by simp [hk]
  rw [e6]
  rw [e6] at hc
  unfold setT
  rw [if_neg (fun z=>by omega)]
  cases e:tab1 (k+2) (preP p (k+2)) with
  | none=>rfl
  | some z=>
   obtain ⟨g',g1,_⟩:=h.ok.up _ _ _ e
   have e7:preP p (k+2) / 512=preP p k*512+atP p k:=by
    obtain ⟨u1,u2,u3,_,_⟩:=preP_succ hp (k:=k+1) (by omega)
    rw [u1,← e1];omega
   rw [e7,hn] at g1
   cases g1
 ·unfold setT at h1
  split at h1
  ·rename_i e
   cases h1
   exact .inr ⟨hg,by rw [e.1,e1];exact e.2,by omega,by omega⟩
  ·exact h.new _ _ _ h1
 ·have hne:f'≠f:=fun e=>by
   rw [e] at h1 h2
   rcases h.new _ _ _ hft with h3 | h3
   ·exact h2 _ _ h3
   ·exact h1 h3.1
  rw [setW_ne hne]
  exact h.other f' h1 h2
 ·unfold setW
  by_cases e:root=f
  ·have h0:tab1 0 0=some f:=(h.ok.root 0 f).2 ⟨rfl,e.symm⟩
   obtain ⟨k0,_⟩:=h.ok.apart _ _ _ _ _ hft h0
   have:=e4 k0
   rw [if_neg (fun z=>by omega)]
   exact h.hi j hj
  ·rw [if_neg (fun z=>e z.1)]
   exact h.hi j hj
end Go.Dn
/- A page more: the call. -/
namespace Go.Dn
variable {A:AH} {l R:List SP} {r b t i:Nat} {fr n:Int} {hs:List (Int × Int)} {W:Int→Int→Int} {F G:Int→Prop} {ns:List Nd} {nd:Nd} {root:Int} {tab:Tab} {lf:Int→Option Lf}
set_option maxRecDepth 100000 in
set_option maxHeartbeats 2000000 in
theorem Map_spec {p fm:Int} {pw pu px:Bool} {Q:Int→AH→Prop} (h:Own (RamW r fr hs W::Bud b F G n::TreeS t ns::R) A) (hi:ns[i]? = some nd) (hlv:nd.live=true) (hF:∀ x,F x→hasF fr hs x=true) (hG:∀ x,G x→hasF fr hs x=true)
  (hT:TabW W root tab lf) (hTG:∀ k q f,tab k q=some f→G f)
  (h1:p<0∨p≥34359738368∨fm<0∨fm≥1048576→Q 1 A)
  (h6:0≤p→p<34359738368→0≤fm→fm<1048576→lf p≠none→∀ A',Own (RamW r fr hs W::Bud b F G n::TreeS t ns::R) A'→Q 6 A')
  (hbad:0≤p→p<34359738368→0≤fm→fm<1048576→lf p=none→∀ lst e W' A',DownOK tab p lst→(e=8∧nd.quo-nd.use-nd.lent<4-lst.length∧nd.quo-nd.use-nd.lent≤n∨e=7∧n<4-lst.length∧n<nd.quo-nd.use-nd.lent)→
   (∀ f,¬F f→W' f=W f)→Own (RamW r fr hs W'::Bud b F G n::TreeS t ns::R) A'→Q e A')
  (hk:0≤p→p<34359738368→0≤fm→fm<1048576→lf p=none→∀ lst tk W' tab' A',DownOK tab p lst→lst.length+tk.length=4→(tk.length:Int)≤nd.quo-nd.use-nd.lent→(tk.length:Int)≤n→tk.Nodup→(∀ x ∈ tk,F x)→
   TabW W' root tab' (setL lf p (some ⟨fm,pw,pu,px⟩))→(∀ k q f,tab k q=some f→tab' k q=some f)→(∀ k q f,tab' k q=some f→tab k q=some f∨(f ∈ tk∧q=preP p k∧1≤k∧k≤3))→
   (∀ f,f ∉ tk→(∀ k q,tab k q≠some f)→W' f=W f)→(∀ j,256≤j→W' root j=W root j)→Own (taken r fr hs W' b F G n t ns i nd tk++R) A'→Q 0 A') :
  qdq_A (some ⟨r,0,none⟩) (some ⟨b,0,none⟩) (some ⟨t,0,none⟩) i root p fm pw pu px Q A:=by
 obtain ⟨mb0,g0,st0,gl0,hB0,hG0,_,_⟩:=Bud.openH h.swap
 have hn0:=hB0.nonneg
 have hFG:∀ x,F x→¬G x:=fun x hx hg=>(hG0.apart x hg).1 hx
 have hnd:nd.OK:=by
  obtain ⟨_,_,_,⟨_,h2⟩,_⟩:=TreeS.openH h.rot3
  exact h2 nd (List.mem_of_getElem? hi)
 have hhas:∀ k q f,tab k q=some f→hasF fr hs f=true:=fun k q f hf=>hG f (hTG k q f hf)
 unfold qdq_A qdq_G
 refine ⟨fun h'=>h'=A∧0≤p∧p<34359738368∧0≤fm∧fm<1048576,?_,bsel_in (fun c=>h1 (.inl (by simpa using c))) fun c=>bsel_in (fun d=>h1 (.inr (.inl (by simpa using d)))) fun d=>bsel_in (fun c2=>h1 (.inr (.inr (.inl (by simpa using c2))))) fun c2=>bsel_in (fun d2=>h1 (.inr (.inr (.inr (by simpa using d2))))) fun d2=>⟨rfl,by simpa using c,by simpa using d,by simpa using c2,by simpa using d2⟩⟩
 intro A0 ⟨e0,p0,p1,f0,f1⟩
 subst e0
 refine path_spec h ⟨p0,p1⟩ fun A1 hA1=>?_
 refine down_spec hA1 hT hhas ⟨p0,p1⟩ fun lst s A2 hD hl hsa hA2=>?_
 refine new_C (cs:=[.int .i64 0,.int .i64 0,.int .i64 0,.int .i64 0]) hA2 fun b10 A3 hA3=>?_
 simp only [add_at]
 refine st_C (i:=0) hA3 rfl rfl rfl fun A4 hA4=>st_C (i:=0) hA4 rfl rfl rfl fun A5 hA5=>st_C (i:=0) hA5 rfl rfl rfl fun A6 hA6=>st_C (i:=0) hA6 rfl rfl rfl fun A7 hA7=>?_
 have hA7:Own (At b10 (atCells p)::RamW r fr hs W::SlO s 1 (intsV lst)::Bud b F G n::TreeS t ns::R) A7:=hA7
 have hA7:Own (RamW r fr hs W::Bud b F G n::TreeS t ns::SlO s 1 (intsV lst)::At b10 (atCells p)::R) A7:=(((hA7.pick 2 rfl).pick 4 rfl).pick 4 rfl).pick 4 rfl
 have hle:=hD.le
 have hj:0≤atP p 3∧atP p 3<512:=by simp only [atP];omega
 refine ⟨fun h'=>lf p=none∧Own (taken r fr hs W b F G n t ns i nd []++SlO s 1 (intsV lst)::At b10 (atCells p)::R) h',?_,?_⟩
 rotate_left
 ·refine bsel_in (fun c=>?_) fun c=>?_
  ·have c:lst.length=4:=by simp [hl] at c;omega
   obtain ⟨f,hf,ht⟩:=hD.four c
   obtain ⟨bb,o,q1,q2⟩:=rd_cell (i:=3) (P:=SlO s 1 (intsV lst)) hA7 rfl reads_slo (j:=3) (v:=.int .i64 f) (by simp only [intsV,List.getElem?_map,hf];rfl)
   rw [q1]
   refine inB_in (by omega) (by simp [hl,c]) ⟨f,by rw [add_at];exact q2,?_⟩
   refine ld_I (i:=4) hA7 rfl (atCells_at (c:=3) (by omega)) ?_
   refine get_head hA7 (hhas _ _ _ ht) hj fun A8 hA8=>?_
   have hw:=hT.leaves _ f ht (atP p 3) hj.1 hj.2
   rw [show p / 512*512+atP p 3=p by simp only [atP];omega] at hw
   cases hx:lf p with
   | none=>
    rw [hx] at hw
    have hw:W f (atP p 3)=0:=hw
    rw [hw]
    exact bsel_f rfl ⟨rfl,taken_nil hi hA8⟩
   | some x=>
    rw [hx] at hw
    rw [(leafI_bits hw (hT.rangeL _ _ hx)).1]
    exact bsel_t rfl (h6 p0 p1 f0 f1 (by rw [hx];simp) A8 (hA8.sub (List.Sublist.cons_cons _ (List.Sublist.cons_cons _ (List.Sublist.cons_cons _ ((List.sublist_cons_self _ _).trans (List.sublist_cons_self _ _)))))))
  ·have c:lst.length<4:=by simp [hl] at c;omega
   refine ⟨?_,taken_nil hi hA7⟩
   cases hx:lf p with
   | none=>rfl
   | some x=>exact absurd (hD.no c) (hT.chain ⟨p0,p1⟩ hx _ c)
 intro A8 ⟨hno,hA8⟩
 have hroom:0≤nd.quo-nd.use-nd.lent:=by have:=hnd.room;omega
 have hA8:Own (taken r fr hs W b F G n t ns i nd []++SlO Sl.nil 1 (intsV [])::SlO s 1 (intsV lst)::At b10 (atCells p)::R) A8:=(Own.nilO (sz:=1) hA8).unrot4
 have hpos:=hD.pos
 refine ⟨fun s35 x m h'=>∃ (tk:List Int) (W1:Int→Int→Int),x=tk.length∧lst.length+tk.length≤4∧4-lst.length-tk.length=m∧s35.len=tk.length∧(s35.a=none→tk=[])∧tk.Nodup∧(∀ x ∈ tk,F x)∧(∀ f,f ∉ tk→W1 f=W f)∧(∀ f ∈ tk,∀ j,W1 f j=0)∧
  (tk.length:Int)≤nd.quo-nd.use-nd.lent∧(tk.length:Int)≤n∧Own (taken r fr hs W1 b F G n t ns i nd tk++SlO s35 1 (intsV tk)::SlO s 1 (intsV lst)::At b10 (atCells p)::R) h',
  ⟨_,[],W,rfl,by simp;omega,rfl,rfl,fun _=>rfl,List.nodup_nil,fun x hx=>by simp at hx,fun _ _=>rfl,fun f hf=>by simp at hf,by simp;omega,by simp;omega,hA8⟩,?_⟩
 intro s35 x m A9 ⟨tk,W1,i1,i2,i3,i4,i5,i6,i7,i8,i9,i10,i11,hA9⟩
 subst i1 i3
 rw [w64 (n:=(4:Int)-Int.ofNat s.len) (by simp [hl];omega) (by simp [hl];omega)]
 apply bsel_in
 ·intro d
  have d:lst.length+tk.length<4:=by simp [hl] at d;omega
  refine tTake_spec hA9 hi hlv hF (fun c2=>bsel_t rfl ?_) (fun c2 d2 A10 hA10=>bsel_t rfl ?_) fun c2 d2 f A10 hf hfn hA10=>bsel_f rfl ?_
  ·exact give_loop hA9 hi hlv hnd.use hFG i7 i6 (by omega) fun A' hA=>hbad p0 p1 f0 f1 hno lst 8 W1 A' hD (.inl ⟨rfl,by omega,by omega⟩) (fun f hf=>i8 f fun hm=>hf (i7 f hm)) (hA.sub (List.Sublist.cons_cons _ (List.Sublist.cons_cons _ (List.Sublist.cons_cons _ ((List.sublist_cons_self _ _).trans (List.sublist_cons_self _ _))))))
  ·exact give_loop hA10 hi hlv hnd.use hFG i7 i6 (by omega) fun A' hA=>hbad p0 p1 f0 f1 hno lst 7 W1 A' hD (.inr ⟨rfl,by omega,by omega⟩) (fun f hf=>i8 f fun hm=>hf (i7 f hm)) (hA.sub (List.Sublist.cons_cons _ (List.Sublist.cons_cons _ (List.Sublist.cons_cons _ ((List.sublist_cons_self _ _).trans (List.sublist_cons_self _ _))))))
  refine new_C (cs:=intsV [f]) hA10 fun b48 A11 hA11=>?_
  have hA11:Own (SlAt ⟨some ⟨b48,0,none⟩,1,1⟩ 1 (intsV [f])::(taken r fr hs (zeroW W1 f) b F G n t ns i nd (tk++[f])++SlO s35 1 (intsV tk)::SlO s 1 (intsV lst)::At b10 (atCells p)::R)) A11:=hA11.imp fun B hB=>(at_slo (k:=1) (sz:=1) rfl hB).look
  have hA11:Own (SlO s35 1 (intsV tk)::SlAt ⟨some ⟨b48,0,none⟩,1,1⟩ 1 (intsV [f])::(taken r fr hs (zeroW W1 f) b F G n t ns i nd (tk++[f])++SlO s 1 (intsV lst)::At b10 (atCells p)::R)) A11:=hA11.pick 4 rfl
  refine ap_head (i:=0) hA11 rfl (fun q=>by cases q) (fun q=>by rw [i5 q];rfl) rfl (fun v hv=>?_) ⟨by simp only [i4];omega,by simp only [i4];omega⟩ fun s' A12 j1 j2 hA12=>?_
  ·simp [intsV] at hv;subst hv;rfl
  rw [←intsV_app] at hA12
  have hlf:(tk++[f]).length=tk.length+1:=by simp
  refine ⟨4-lst.length-(tk.length+1),by omega,tk++[f],zeroW W1 f,by rw [hlf,w64 (by omega) (by omega)];omega,by omega,by omega,by rw [hlf];simp only [j1,i4],fun q=>by have:=j2 q;simp [intsV] at this,?_,fun x hx=>?_,fun g hg=>?_,fun g hg j=>?_,by omega,by omega,?_⟩
  ·exact List.nodup_append.2 ⟨i6,by simp,fun x hx y hy=>by simp at hy;subst hy;exact fun e=>hfn (e ▸ hx)⟩
  ·rcases List.mem_append.1 hx with hx | hx
   ·exact i7 x hx
   ·simp at hx;subst hx;exact hf
  ·simp only [List.mem_append,List.mem_singleton,not_or] at hg
   rw [zeroW_ne hg.2];exact i8 g hg.1
  ·unfold zeroW
   split
   ·rfl
   ·rename_i e
    rcases List.mem_append.1 hg with hg | hg
    ·exact i9 g hg j
    ·simp at hg;exact absurd hg e
  ·exact Own.unrot4 (hA12.sub (List.Sublist.cons_cons _ (List.sublist_cons_self _ _)))
 intro d
 have d:lst.length+tk.length=4:=by simp [hl] at d;omega
 have hft:∀ k q f,tab k q=some f→f ∉ tk:=fun k q f hf hm=>hFG f (i7 f hm) (hTG k q f hf)
 refine ⟨fun s56 x m h'=>∃ (c:Nat) (lst2:List Int) (W2:Int→Int→Int) (tab1:Tab),x=c∧c≤tk.length∧tk.length-c=m∧lst2.length=lst.length+c∧Way W root tab lf p tk W2 tab1 lst2∧s56.len=lst2.length∧s56.a≠none∧
  (∀ f ∈ tk.drop c,(∀ k q,tab1 k q≠some f)∧∀ j,W2 f j=0)∧Own (taken r fr hs W2 b F G n t ns i nd tk++SlO s56 1 (intsV lst2)::SlO s35 1 (intsV tk)::At b10 (atCells p)::R) h',
  ⟨_,0,lst,W1,tab,rfl,by omega,rfl,rfl,⟨hT.congr fun k q f hf=>i8 f (hft k q f hf),hD,fun _ _ _ h=>h,fun _ _ _ h=>.inl h,fun f hf _=>i8 f hf,fun j _=>by rw [i8 root (hft 0 0 root ((hT.root 0 root).2 ⟨rfl,rfl⟩))]⟩,hl,hsa,fun f hf=>⟨fun k q e=>hft k q f e hf,i9 f hf⟩,
   hA9.cons fun C hC=>hC.cons fun C hC=>hC.cons fun C hC=>hC.swap⟩,?_⟩
 intro s56 x m A10 ⟨c,lst2,W2,tab1,k1,k2,k3,k4,hWay,k5,k6,k7,hA10⟩
 subst k1 k3
 have hhas1:∀ k q f,tab1 k q=some f→hasF fr hs f=true:=fun k q f hf=>by
  rcases hWay.new k q f hf with h | h
  ·exact hhas k q f h
  ·exact hF f (i7 f h.1)
 apply bsel_in
 ·intro d2
  have d2:c<tk.length:=by simp [i4] at d2;omega
  obtain ⟨g,hg⟩:∃ g,tk[c]? = some g:=⟨tk[c],by simp [d2]⟩
  have hgm:g ∈ tk:=List.mem_of_getElem? hg
  have hdr:tk.drop c=g::tk.drop (c+1):=by
   rw [List.drop_eq_getElem_cons d2]
   have:=(List.getElem?_eq_some_iff.1 hg).2
   rw [this]
  have hll:lst2.length<4:=by omega
  obtain ⟨f,hf⟩:∃ f,lst2[lst2.length-1]? = some f:=⟨lst2[lst2.length-1],by simp⟩
  have hft2:=hWay.down.is (lst2.length-1) (by omega)
  rw [hf] at hft2
  have hwr:IntKind.wrap .i64 (Int.ofNat s56.len-1)=((lst2.length-1:Nat):Int):=by rw [k5,w64]<;>simp<;>omega
  obtain ⟨bb,o,q1,q2⟩:=rd_cell (i:=4) (P:=SlO s35 1 (intsV tk)) hA10 rfl reads_slo (j:=c) (v:=.int .i64 g) (by simp only [intsV,List.getElem?_map,hg];rfl)
  obtain ⟨bc,o2,q3,q4⟩:=rd_cell (i:=3) (P:=SlO s56 1 (intsV lst2)) hA10 rfl reads_slo (j:=lst2.length-1) (v:=.int .i64 f) (by simp only [intsV,List.getElem?_map,hf];rfl)
  rw [hwr,q1,q3]
  obtain ⟨g0',gz⟩:=k7 g (by rw [hdr];exact List.mem_cons_self)
  have hgr:=hB0.free (i7 g hgm)
  obtain ⟨_,e2,e3,_,_⟩:=preP_succ ⟨p0,p1⟩ (k:=lst2.length-1) (by omega)
  refine inB_in (by omega) (by omega) ⟨g,by rw [add_at];simpa using q2,?_⟩
  refine inB_in (by omega) (by omega) ⟨f,by rw [add_at];simpa using q4,?_⟩
  refine inB_in (by omega) (by omega) ?_
  refine ld_I (i:=5) hA10 rfl (by rw [show 0+Int.toNat ((lst2.length-1:Nat):Int)*1=lst2.length-1 by omega];exact atCells_at (by omega)) ?_
  refine put_head hA10 (hhas1 _ _ _ hft2) ⟨e2,e3⟩ hgr fun A11 hA11=>?_
  have hstep:=hWay.step ⟨p0,p1⟩ hll hf hgm g0' (fun j _ _=>gz j) hgr
  refine new_C (cs:=intsV [g]) hA11 fun b64 A12 hA12=>?_
  have hA12:Own (SlAt ⟨some ⟨b64,0,none⟩,1,1⟩ 1 (intsV [g])::(taken r fr hs (setW W2 f (atP p (lst2.length-1)) (entW g)) b F G n t ns i nd tk++SlO s56 1 (intsV lst2)::SlO s35 1 (intsV tk)::At b10 (atCells p)::R)) A12:=hA12.imp fun B hB=>(at_slo (k:=1) (sz:=1) rfl hB).look
  have hA12:Own (SlO s56 1 (intsV lst2)::SlAt ⟨some ⟨b64,0,none⟩,1,1⟩ 1 (intsV [g])::(taken r fr hs (setW W2 f (atP p (lst2.length-1)) (entW g)) b F G n t ns i nd tk++SlO s35 1 (intsV tk)::At b10 (atCells p)::R)) A12:=hA12.pick 4 rfl
  refine ap_head (i:=0) hA12 rfl (fun q=>by cases q) (fun q=>absurd q k6) rfl (fun v hv=>?_) ⟨by simp only [k5];omega,by simp only [k5];omega⟩ fun s' A13 j1 j2 hA13=>?_
  ·simp [intsV] at hv;subst hv;rfl
  rw [←intsV_app] at hA13
  have hlf:(lst2++[g]).length=lst2.length+1:=by simp
  refine ⟨tk.length-(c+1),by omega,c+1,lst2++[g],_,_,by rw [w64]<;>omega,by omega,rfl,by omega,hstep,by rw [hlf];simp only [j1,k5],fun q=>by have:=j2 q;simp [intsV] at this,fun f' hf'=>?_,Own.unrot4 (hA13.sub (List.Sublist.cons_cons _ (List.sublist_cons_self _ _)))⟩
  have hne:f'≠g:=fun e=>by
   have:=i6.sublist (List.drop_sublist c tk)
   rw [hdr] at this
   exact (List.nodup_cons.1 this).1 (e ▸ hf')
  obtain ⟨m1,m2⟩:=k7 f' (by rw [hdr];exact List.mem_cons_of_mem _ hf')
  refine ⟨fun k q e=>?_,fun j=>?_⟩
  ·unfold setT at e
   split at e
   ·cases e;exact hne rfl
   ·exact m1 k q e
  ·have hnf:f'≠f:=fun e=>m1 _ _ (e ▸ hft2)
   rw [setW_ne hnf];exact m2 j
 intro d2
 have d2:c=tk.length:=by simp [i4] at d2;omega
 obtain ⟨f,hf,ht⟩:=hWay.down.four (by omega)
 obtain ⟨a,ha⟩:∃ a,s56.a=some a:=by
  cases e:s56.a with
  | none=>exact absurd e k6
  | some a=>exact ⟨a,rfl⟩
 have ld3:∀ B,Own (taken r fr hs W2 b F G n t ns i nd tk++SlO s56 1 (intsV lst2)::SlO s35 1 (intsV tk)::At b10 (atCells p)::R) B→∀ K:Int→Prop,K f→aI .i64 (Addr.add a 3) B K:=by
  intro B hB K hK
  obtain ⟨bb,o,q1,q2⟩:=rd_cell (i:=3) (P:=SlO s56 1 (intsV lst2)) hB rfl reads_slo (j:=3) (v:=.int .i64 f) (by simp only [intsV,List.getElem?_map,hf];rfl)
  rw [q1] at ha
  cases ha
  exact ⟨f,by rw [add_at];exact q2,hK⟩
 rw [ha]
 refine inB_in (by omega) (by omega) (ld3 _ hA10 _ ?_)
 refine ld_I (i:=5) hA10 rfl (atCells_at (c:=3) (by omega)) ?_
 unfold qdp_A
 refine ⟨ld_I (i:=5) hA10 rfl (atCells_at (c:=3) (by omega)) rfl,ld3 _ hA10 _ rfl,put_head hA10 (hhas1 _ _ _ ht) hj ⟨f0,f1⟩ fun A11 hA11=>?_⟩
 have hleaf:=hWay.ok.leaf (o:=some ⟨fm,pw,pu,px⟩) ht p0 (fun l hl=>by cases hl;exact ⟨f0,f1⟩)
 refine hk p0 p1 f0 f1 hno lst tk _ tab1 A11 hD d i10 i11 i6 i7 hleaf hWay.old hWay.new (fun g hg1 hg2=>?_) (fun j hj=>?_) (hA11.sub (List.Sublist.cons_cons _ (List.Sublist.cons_cons _ (List.Sublist.cons_cons _ ((List.sublist_cons_self _ _).trans ((List.sublist_cons_self _ _).trans (List.sublist_cons_self _ _)))))))
 ·have hne:g≠f:=fun e=>by
   rw [e] at hg1 hg2
   rcases hWay.new _ _ _ ht with h3 | h3
   ·exact hg2 _ _ h3
   ·exact hg1 h3.1
  rw [setW_ne hne]
  exact hWay.other g hg1 hg2
 ·have hne:root≠f:=fun e=>by
   have h0:tab1 0 0=some f:=(hWay.ok.root 0 f).2 ⟨rfl,e.symm⟩
   have:=(hWay.ok.apart _ _ _ _ _ ht h0).1
   omega
  rw [setW_ne hne]
  exact hWay.hi j hj
end Go.Dn
