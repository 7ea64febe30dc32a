/- What the proof stands on: Child, Sched, Read, Read2. -/
import Derived.Test.YtmfmhmipcdgikaaGreatG
import Derived.Test.YtmfmhmipcdgikaaGreatEntry
import Derived.Test.YtmfmhmipcdgikaaGreatTabs
import Derived.Test.YtmfmhmipcdgikaaGreatTlb2
/- A container more, below another one. -/
namespace Go.Dn
variable {A:AH} {l R:List SP} {t blk cap i:Nat} {ns:List Nd} {rest:List Value} {nd:Nd}
def firstDead:List Nd→Option Nat
 | []=>none
 | d::r=>if d.live then (firstDead r).map (·+1) else some 0
theorem firstDead_lt:∀ {ns:List Nd} {j:Nat},firstDead ns=some j→∃ d,ns[j]? = some d∧d.live=false
 | [],j,h=>by simp [firstDead] at h
 | d::r,j,h=>by
  unfold firstDead at h
  split at h
  ·cases e:firstDead r with
   | none=>rw [e] at h;cases h
   | some k=>
    rw [e] at h
    cases h
    exact firstDead_lt (ns:=r) e
  ·rename_i hd
   cases h
   exact ⟨d,rfl,by simpa using hd⟩
theorem firstDead_drop {ns:List Nd} {v:Nat} {d:Nd} (hv:ns[v]? = some d):firstDead (ns.drop v)=if d.live then (firstDead (ns.drop (v+1))).map (·+1) else some 0:=by
 obtain ⟨h1,h2⟩:=List.getElem?_eq_some_iff.1 hv
 rw [List.drop_eq_getElem_cons h1,h2]
 rfl
theorem rd_nd {P:SP} {k:Nat} {s:Sl} {v c:Nat} {d:Nd} {x:Value} (h:Own l A) (e:l[k]? = some P) (hr:Reads P s 5 (ndCells ns)) (hv:ns[v]? = some d) (hc:c<5) (hx:d.cells[c]? = some x):∃ bb o,s.a=some ⟨bb,o,none⟩∧cellA A ⟨bb,o+(v*5+c),none⟩=some x:=
 rd_cell h e hr (by rw [ndCells_at c hv hc];exact hx)
theorem IndexDead_spec {P:SP} {k:Nat} {s:Sl} {Q:Int→AH→Prop} (h:Own l A) (e:l[k]? = some P) (hr:Reads P s 5 (ndCells ns)) (hb:ns.length≤64) (h0:firstDead ns=none→Q (-1) A) (h1:∀ j,firstDead ns=some j→Q j A) :
  qbw_A s Q A:=by
 have hl:s.len=ns.length:=by have:=rd_len h e hr;rw [ndCells_len] at this;omega
 unfold qbw_A qbw_G
 refine ⟨fun x m h'=>∃ v:Nat,x=v∧m+v=ns.length∧h'=A∧firstDead ns=(firstDead (ns.drop v)).map (·+v),⟨ns.length,0,rfl,rfl,rfl,by rw [List.drop_zero];cases firstDead ns<;>rfl⟩,?_⟩
 intro x m A1 ⟨v,e1,e2,e3,e4⟩
 subst e1 e3
 refine bsel_in (fun c=>?_) fun c=>?_
 ·have c:(v:Int)<s.len:=of_decide_eq_true c
  obtain ⟨d,hd⟩:∃ d,ns[v]? = some d:=⟨ns[v]'(by omega),by simp⟩
  obtain ⟨bb,o,q1,c0⟩:=rd_nd (c:=0) h e hr hd (by omega) rfl
  have same:∀ {c:Nat} {x:Value},c<5→d.cells[c]? = some x→cellA A1 ⟨bb,o+(v*5+c),none⟩=some x:=fun {c x} hc hx=>by
   obtain ⟨b2,o2,q2,c2⟩:=rd_nd h e hr hd hc hx
   rw [q1] at q2
   cases q2
   exact c2
  have ad:∀ c,Addr.add (Addr.add ⟨bb,o,none⟩ (Int.toNat (v:Int)*5)) c=⟨bb,o+(v*5+c),none⟩:=fun c=>by rw [add_at,add_at,Int.toNat_natCast,Nat.add_assoc]
  rw [q1]
  refine inB_in (by omega) c ⟨d.par,by rw [add_at,Int.toNat_natCast];exact c0,⟨d.quo,by rw [ad];exact same (by omega) rfl,⟨d.use,by rw [ad];exact same (by omega) rfl,⟨d.lent,by rw [ad];exact same (by omega) rfl,⟨d.live,by rw [ad];exact same (by omega) rfl,?_⟩⟩⟩⟩⟩
  unfold qbv_A
  rw [firstDead_drop hd] at e4
  refine bsel_in (fun g=>?_) fun g=>?_
  ·have g:d.live=false:=by simpa using g
   rw [g] at e4
   exact h1 v (by rw [e4];simp)
  ·have g:d.live=true:=by simpa using g
   rw [g] at e4
   refine ⟨m-1,by omega,v+1,by rw [w64]<;>omega,by omega,rfl,?_⟩
   rw [e4]
   cases firstDead (ns.drop (v+1)) with
   | none=>rfl
   | some j=>simp;omega
 ·have c:¬(v:Int)<s.len:=of_decide_eq_false c
  refine h0 ?_
  rw [e4,List.drop_eq_nil_of_le (by omega)];rfl
theorem Clone_spec {P:SP} {k:Nat} {s:Sl} {Q:Sl→AH→Prop} (h:Own l A) (e:l[k]? = some P) (hr:Reads P s 5 (ndCells ns)) (hb:ns.length≤64) (hn:s.a≠none)
  (hk:∀ s' A',s'.len=ns.length→(s'.a=none→ndCells ns=[])→Own (SlO s' 5 (ndCells ns)::l) A'→Q s' A'):qbx_A s Q A:=by
 have hl:s.len=ns.length:=by have:=rd_len h e hr;rw [ndCells_len] at this;omega
 unfold qbx_A
 refine bsel_f (by cases ha:s.a with
  | none=>exact absurd ha hn
  | some a=>rfl) ?_
 refine new_C (cs:=[]) h fun b1 A1 h1=>?_
 have h1:Own (SlO ⟨some ⟨b1,0,none⟩,0,0⟩ 5 []::l) A1:=h1.imp fun B _=>⟨⟨by simp,Nat.le_refl _⟩,.inl rfl⟩
 refine ap_reads (i:=k) h1 e hr (fun g=>absurd g hn) (fun g=>by cases g) rfl (fun v hv=>?_) ⟨by simp only [hl];omega,by simp only [hl];omega⟩ fun s' A2 j1 j2 h2=>?_
 ·unfold ndCells at hv
  obtain ⟨d,_,hd⟩:=List.mem_flatMap.1 hv
  simp [Nd.cells] at hd
  rcases hd with rfl | rfl | rfl | rfl | rfl<;>rfl
 ·exact hk s' A2 (by rw [j1,hl];simp) (fun g=>by simpa using j2 g) (by simpa using h2)
theorem ndCells_app (a c:List Nd):ndCells (a++c)=ndCells a++ndCells c:=List.flatMap_append
theorem ndCells_set:∀ {ns:List Nd} {i:Nat} {nd:Nd} (f:Nat) (v:Value) (nd':Nd),ns[i]? = some nd→f<5→nd'.cells=nd.cells.set f v→(ndCells ns).set (i*5+f) v=ndCells (ns.set i nd')
 | [],_,_,_,_,_,e,_,_=>by simp at e
 | d::ns,0,nd,f,v,nd',e,hf,hc=>by
  simp at e;subst e
  show (d.cells++ndCells ns).set (0*5+f) v=nd'.cells++ndCells ns
  rw [hc,List.set_append_left _ _ (by simp [Nd.cells];omega),Nat.zero_mul,Nat.zero_add]
 | d::ns,i+1,nd,f,v,nd',e,hf,hc=>by
  have:=ndCells_set (ns:=ns) (i:=i) (nd:=nd) f v nd' (by simpa using e) hf hc
  show (d.cells++ndCells ns).set ((i+1)*5+f) _=d.cells++ndCells (ns.set i nd')
  rw [List.set_append_right _ _ (by simp [Nd.cells];omega)]
  rw [show (i+1)*5+f-d.cells.length=i*5+f by simp [Nd.cells];omega,this]
theorem st_nd {f:Nat} {v:Value} {nd':Nd} {K:AP} (h:Own (treeL t blk cap ns rest++R) A) (hi:ns[i]? = some nd) (hf:f<5) (hv:v.oneCell'=true) (hc:nd'.cells=nd.cells.set f v) (hK:∀ A',Own (treeL t blk cap (ns.set i nd') rest++R) A'→K A'):aC ⟨blk,i*5+f,none⟩ v A K:=by
 have hl:=(List.getElem?_eq_some_iff.1 hi).1
 have h5:nd.cells[f]? = some (nd.cells[f]'(by simp [Nd.cells];omega)):=by simp
 refine st_C (i:=1) h rfl ?_ hv fun A' h'=>hK A' ?_
 ·rw [cell_ix hi hf h5];rfl
 ·have h':Own (At t [.slice (some ⟨blk,0,none⟩) ns.length cap]::At blk ((ndCells ns++rest).set (i*5+f) v)::R) A':=h'
  rw [List.set_append_left _ _ (by rw [ndCells_len];omega),ndCells_set f v nd' hi hf hc] at h'
  show Own (At t [.slice (some ⟨blk,0,none⟩) (ns.set i nd').length cap]::At blk (ndCells (ns.set i nd')++rest)::R) A'
  rw [List.length_set]
  exact h'
set_option maxHeartbeats 1000000 in
theorem Child_spec {q:Int} {Q:Int→Int→AH→Prop} (h:Own (TreeS t ns::R) A) (hi:ns[i]? = some nd) (hlv:nd.live=true) (h1:q<0→Q 0 1 A) (h8:0≤q→q > nd.quo-nd.use-nd.lent→Q 0 8 A)
  (h4:0≤q→q≤nd.quo-nd.use-nd.lent→firstDead ns=none→64≤ns.length→Q 0 4 A)
  (hnew:0≤q→q≤nd.quo-nd.use-nd.lent→firstDead ns=none→ns.length<64→∀ A',Own (TreeS t (ns.set i { nd with lent:=nd.lent+q }++[⟨i,q,0,0,true⟩])::R) A'→Q ns.length 0 A')
  (hold:0≤q→q≤nd.quo-nd.use-nd.lent→∀ j,firstDead ns=some j→∀ A',Own (TreeS t ((ns.set i { nd with lent:=nd.lent+q }).set j ⟨i,q,0,0,true⟩)::R) A'→Q j 0 A') :
  qby_A (some ⟨t,0,none⟩) i q Q A:=by
 obtain ⟨blk,cap,rest,⟨hlen,hoks⟩,hh⟩:=TreeS.openH h
 have hok:=hoks nd (List.mem_of_getElem? hi)
 obtain ⟨o1,o2,o3,o4⟩:=hok
 have hil:=(List.getElem?_eq_some_iff.1 hi).1
 unfold qby_A qby_G
 refine at_raw hh hi hlv (bsel_f rfl (bsel_in (fun c=>h1 (of_decide_eq_true c)) fun c=>?_))
 have q0:0≤q:=Int.not_lt.1 (of_decide_eq_false c)
 refine Room_raw hh hi hlv ⟨o1,o2,o3,o4⟩ (bsel_in (fun c=>h8 q0 (of_decide_eq_true c)) fun c=>?_)
 have q1:q≤nd.quo-nd.use-nd.lent:=Int.not_lt.1 (of_decide_eq_false c)
 have rdN:∀ {ns:List Nd} {cap:Nat} {rest:List Value},Reads (At blk (ndCells ns++rest)) ⟨some ⟨blk,0,none⟩,ns.length,cap⟩ 5 (ndCells ns):=fun {ns cap rest}=>reads_at (by rw [ndCells_len])
 refine ld_S (i:=0) hh rfl rfl ?_
 have hnd':({ nd with lent:=nd.lent+q }:Nd).OK:=⟨o1,by simp;omega,by simp;omega,o4⟩
 have hnn:(⟨i,q,0,0,true⟩:Nd).OK:=⟨by simp,by simp,by simp;omega,by simp;omega⟩
 have hidx:∀ n8:Int,((n8 = -1∧firstDead ns=none)∨∃ j:Nat,n8=j∧firstDead ns=some j)→
   ∃ R10:AH→Prop,(∀ h13,R10 h13→onSome (some ⟨blk,i*5,none⟩:Option Addr) fun a14=>aI .i64 (Addr.add a14 3) h13 fun n15=>onSome (some ⟨blk,i*5,none⟩:Option Addr) fun a16=>aC (Addr.add a16 3) (.int .i64 (IntKind.wrap .i64 (n15+q))) h13 fun h17=>
    bsel (decide (n8<(0:Int))) (onSome (some ⟨t,0,none⟩:Option Addr) fun a18=>aS a18 h17 fun s19=>
     ((qbx_A s19 (fun s20 h21=>newA h21 (.cells #[(.int .i64 i),(.int .i64 q),(.int .i64 (0:Int)),(.int .i64 (0:Int)),(.bool (true:Bool))] 104) fun b22 h23=>
       apA 5 40 #[(.int .i64 (0:Int)),(.int .i64 (0:Int)),(.int .i64 (0:Int)),(.int .i64 (0:Int)),(.bool false)] 104 s20 (Sl.mk (some (Addr.mk b22 0 none)) 1 1) h23 fun s24 h25=>
        onSome (some ⟨t,0,none⟩:Option Addr) fun a26=>aC a26 (.slice s24.a s24.len s24.cap) h25 fun h27=>onSome (some ⟨t,0,none⟩:Option Addr) fun a28=>aS a28 h27 fun s29=>Q (IntKind.wrap .i64 ((Int.ofNat s29.len)-(1:Int))) (0:Int) h27) h17)∧
     newA h17 (.cells #[(.int .i64 i),(.int .i64 q),(.int .i64 (0:Int)),(.int .i64 (0:Int)),(.bool (true:Bool))] 104) fun b30 h31=>
      (aS a18 h31 fun s32=>(((.slice s32.a s32.len s32.cap):Value)=(.slice s19.a s19.len s19.cap)))∧
      qbx_A s19 (fun s33 h34=>apA 5 40 #[(.int .i64 (0:Int)),(.int .i64 (0:Int)),(.int .i64 (0:Int)),(.int .i64 (0:Int)),(.bool false)] 104 s33 (Sl.mk (some (Addr.mk b30 0 none)) 1 1) h34 fun s35 h36=>
       onSome (some ⟨t,0,none⟩:Option Addr) fun a37=>aC a37 (.slice s35.a s35.len s35.cap) h36 fun h38=>onSome (some ⟨t,0,none⟩:Option Addr) fun a39=>aS a39 h38 fun s40=>Q (IntKind.wrap .i64 ((Int.ofNat s40.len)-(1:Int))) (0:Int) h38) h31))
    (onSome (some ⟨t,0,none⟩:Option Addr) fun a41=>aS a41 h17 fun s42=>onSome s42.a fun a43=>inB n8 s42.len (aC (Addr.add a43 (Int.toNat n8*5)) (.int .i64 i) h17 fun h44=>aC (Addr.add (Addr.add a43 (Int.toNat n8*5)) 1) (.int .i64 q) h44 fun h45=>
     aC (Addr.add (Addr.add a43 (Int.toNat n8*5)) 2) (.int .i64 (0:Int)) h45 fun h46=>aC (Addr.add (Addr.add a43 (Int.toNat n8*5)) 3) (.int .i64 (0:Int)) h46 fun h47=>aC (Addr.add (Addr.add a43 (Int.toNat n8*5)) 4) (.bool (true:Bool)) h47 fun h48=>Q n8 (0:Int) h48)))∧
    (bsel (decide (n8<(0:Int))) (onSome (some ⟨t,0,none⟩:Option Addr) fun a11=>aS a11 A fun s12=>bsel (decide ((Int.ofNat s12.len)≥(64:Int))) (Q (0:Int) (4:Int) A) (R10 A)) (R10 A)):=by
  intro n8 hn8
  refine ⟨fun h'=>h'=A∧(firstDead ns=none→ns.length<64),?_,?_⟩
  ·intro A1 ⟨e1,hsm⟩
   subst e1
   refine ld_nd (f:=3) hh hi (by omega) rfl ?_
   simp only [onSome,add_at]
   rw [w64 (n:=nd.lent+q) (by omega) (by omega)]
   refine st_nd (nd':={ nd with lent:=nd.lent+q }) hh hi (by omega) rfl rfl fun A2 h2=>?_
   have hlen':(ns.set i { nd with lent:=nd.lent+q }).length=ns.length:=List.length_set ..
   rcases hn8 with ⟨e8,hd⟩ | ⟨j,e8,hd⟩
   ·subst e8
    have hsm:=hsm hd
    refine bsel_t rfl (ld_S (i:=0) h2 rfl rfl ⟨?_,?_⟩)
    ·-- first the copy
     refine Clone_spec (k:=1) h2 rfl rdN (by omega) (by simp) fun s20 A3 l20 n20 h3=>?_
     refine new_C (cs:=(⟨i,q,0,0,true⟩:Nd).cells) h3 fun b22 A4 h4=>?_
     refine ap_reads (i:=0) (P:=At b22 ((⟨i,q,0,0,true⟩:Nd).cells++[])) h4.swap (by simp) (reads_at (by simp [Nd.cells])) (fun g=>by cases g) (fun g=>n20 g) rfl (fun v hv=>?_) ⟨by simp only [l20,hlen'];omega,by simp only [l20,hlen'];omega⟩ fun s24 A5 l24 n24 h5=>?_
     ·simp [Nd.cells] at hv
      rcases hv with rfl | rfl | rfl | rfl | rfl<;>rfl
     have h5:Own (SlO s24 5 (ndCells (ns.set i { nd with lent:=nd.lent+q }++[⟨i,q,0,0,true⟩]))::At b22 (⟨i,q,0,0,true⟩:Nd).cells::At t [.slice (some ⟨blk,0,none⟩) (ns.set i { nd with lent:=nd.lent+q }).length cap]::At blk (ndCells (ns.set i { nd with lent:=nd.lent+q })++rest)::R) A5:=by
      have e1:ndCells [(⟨i,q,0,0,true⟩:Nd)]=(⟨i,q,0,0,true⟩:Nd).cells:=by simp [ndCells]
      rw [ndCells_app,e1];exact h5
     refine st_C (i:=2) h5 rfl rfl rfl fun A6 h6=>ld_S (i:=2) h6 rfl rfl ?_
     have h6:Own (SlO s24 5 (ndCells (ns.set i { nd with lent:=nd.lent+q }++[⟨i,q,0,0,true⟩]))::At b22 (⟨i,q,0,0,true⟩:Nd).cells::At t [.slice s24.a s24.len s24.cap]::At blk (ndCells (ns.set i { nd with lent:=nd.lent+q })++rest)::R) A6:=h6
     have e24:s24.len=ns.length+1:=by rw [l24,l20,hlen']
     rw [show IntKind.wrap .i64 (Int.ofNat s24.len-1)=(ns.length:Int) by rw [e24,w64]<;>simp<;>omega]
     refine hnew q0 q1 hd hsm A6 ?_
     obtain ⟨hp,h6⟩:=Own.pure h6
     have hcap:s24.cap≠0:=by omega
     have h6:=h6.imp (P':=fun B=>∃ b rest',s24.a=some ⟨b,0,none⟩∧At b (ndCells (ns.set i { nd with lent:=nd.lent+q }++[⟨i,q,0,0,true⟩])++rest') B) fun B hB=>by
      rcases hB with hB | ⟨b,rest',g1,_,g3⟩
      ·exact absurd hB hcap
      ·exact ⟨b,rest',g1,g3⟩
     obtain ⟨b,h6⟩:=Own.ex h6
     obtain ⟨rest',h6⟩:=Own.ex h6
     obtain ⟨ha,h6⟩:=Own.pure h6
     rw [ha,e24] at h6
     refine TreeS.closeH (ns:=ns.set i { nd with lent:=nd.lent+q }++[⟨i,q,0,0,true⟩]) (blk:=b) (cap:=s24.cap) (rest:=rest') (by simp;omega) (fun d hd'=>?_) ?_
     ·rcases List.mem_append.1 hd' with hd' | hd'
      ·exact set_ok hoks hnd' d hd'
      ·simp at hd';subst hd';exact hnn
     ·have:(ns.set i { nd with lent:=nd.lent+q }++[(⟨i,q,0,0,true⟩:Nd)]).length=ns.length+1:=by simp
      unfold treeL
      rw [this]
      exact (h6.pick 2 rfl).sub (List.Sublist.cons_cons _ (List.Sublist.cons_cons _ ((List.sublist_cons_self _ _).trans (List.sublist_cons_self _ _))))
    ·-- first the new one
     refine new_C (cs:=(⟨i,q,0,0,true⟩:Nd).cells) h2 fun b30 A3 h3=>?_
     refine ⟨ld_S (i:=1) h3 rfl rfl rfl,?_⟩
     refine Clone_spec (k:=2) h3 rfl rdN (by omega) (by simp) fun s20 A4 l20 n20 h4=>?_
     refine ap_reads (i:=0) (P:=At b30 ((⟨i,q,0,0,true⟩:Nd).cells++[])) h4 (by simp) (reads_at (by simp [Nd.cells])) (fun g=>by cases g) (fun g=>n20 g) rfl (fun v hv=>?_) ⟨by simp only [l20,hlen'];omega,by simp only [l20,hlen'];omega⟩ fun s24 A5 l24 n24 h5=>?_
     ·simp [Nd.cells] at hv
      rcases hv with rfl | rfl | rfl | rfl | rfl<;>rfl
     have h5:Own (SlO s24 5 (ndCells (ns.set i { nd with lent:=nd.lent+q }++[⟨i,q,0,0,true⟩]))::At b30 (⟨i,q,0,0,true⟩:Nd).cells::At t [.slice (some ⟨blk,0,none⟩) (ns.set i { nd with lent:=nd.lent+q }).length cap]::At blk (ndCells (ns.set i { nd with lent:=nd.lent+q })++rest)::R) A5:=by
      have e1:ndCells [(⟨i,q,0,0,true⟩:Nd)]=(⟨i,q,0,0,true⟩:Nd).cells:=by simp [ndCells]
      rw [ndCells_app,e1];exact h5
     refine st_C (i:=2) h5 rfl rfl rfl fun A6 h6=>ld_S (i:=2) h6 rfl rfl ?_
     have h6:Own (SlO s24 5 (ndCells (ns.set i { nd with lent:=nd.lent+q }++[⟨i,q,0,0,true⟩]))::At b30 (⟨i,q,0,0,true⟩:Nd).cells::At t [.slice s24.a s24.len s24.cap]::At blk (ndCells (ns.set i { nd with lent:=nd.lent+q })++rest)::R) A6:=h6
     have e24:s24.len=ns.length+1:=by rw [l24,l20,hlen']
     rw [show IntKind.wrap .i64 (Int.ofNat s24.len-1)=(ns.length:Int) by rw [e24,w64]<;>simp<;>omega]
     refine hnew q0 q1 hd hsm A6 ?_
     obtain ⟨hp,h6⟩:=Own.pure h6
     have hcap:s24.cap≠0:=by omega
     have h6:=h6.imp (P':=fun B=>∃ b rest',s24.a=some ⟨b,0,none⟩∧At b (ndCells (ns.set i { nd with lent:=nd.lent+q }++[⟨i,q,0,0,true⟩])++rest') B) fun B hB=>by
      rcases hB with hB | ⟨b,rest',g1,_,g3⟩
      ·exact absurd hB hcap
      ·exact ⟨b,rest',g1,g3⟩
     obtain ⟨b,h6⟩:=Own.ex h6
     obtain ⟨rest',h6⟩:=Own.ex h6
     obtain ⟨ha,h6⟩:=Own.pure h6
     rw [ha,e24] at h6
     refine TreeS.closeH (ns:=ns.set i { nd with lent:=nd.lent+q }++[⟨i,q,0,0,true⟩]) (blk:=b) (cap:=s24.cap) (rest:=rest') (by simp;omega) (fun d hd'=>?_) ?_
     ·rcases List.mem_append.1 hd' with hd' | hd'
      ·exact set_ok hoks hnd' d hd'
      ·simp at hd';subst hd';exact hnn
     ·have:(ns.set i { nd with lent:=nd.lent+q }++[(⟨i,q,0,0,true⟩:Nd)]).length=ns.length+1:=by simp
      unfold treeL
      rw [this]
      exact (h6.pick 2 rfl).sub (List.Sublist.cons_cons _ (List.Sublist.cons_cons _ ((List.sublist_cons_self _ _).trans (List.sublist_cons_self _ _))))
   ·subst e8
    obtain ⟨d,hdj,hdl⟩:=firstDead_lt hd
    have hij:i≠j:=fun g=>by subst g;rw [hi] at hdj;cases hdj;rw [hlv] at hdl;cases hdl
    have hjl:=(List.getElem?_eq_some_iff.1 hdj).1
    have hdj':(ns.set i { nd with lent:=nd.lent+q })[j]? = some d:=by rw [List.getElem?_set_ne hij];exact hdj
    generalize hns:ns.set i { nd with lent:=nd.lent+q } = ns' at *
    refine bsel_f (by simp) (ld_S (i:=0) h2 rfl rfl (inB_in (by omega) (by show (j:Int)<(ns'.length:Int);omega) ?_))
    simp only [add_at,Int.toNat_natCast,Nat.zero_add]
    have at_:∀ {m:List Nd} {x:Nd},j<m.length→(m.set j x)[j]? = some x:=fun hm=>by simp [hm]
    rw [show j*5=j*5+0 by omega]
    refine st_nd (f:=0) (nd':=⟨i,d.quo,d.use,d.lent,d.live⟩) h2 hdj' (by omega) rfl rfl fun A3 h3=>?_
    refine st_nd (f:=1) (nd':=⟨i,q,d.use,d.lent,d.live⟩) h3 (at_ (by omega)) (by omega) rfl rfl fun A4 h4=>?_
    refine st_nd (f:=2) (nd':=⟨i,q,0,d.lent,d.live⟩) h4 (at_ (by simp;omega)) (by omega) rfl rfl fun A5 h5=>?_
    refine st_nd (f:=3) (nd':=⟨i,q,0,0,d.live⟩) h5 (at_ (by simp;omega)) (by omega) rfl rfl fun A6 h6=>?_
    refine st_nd (f:=4) (nd':=⟨i,q,0,0,true⟩) h6 (at_ (by simp;omega)) (by omega) rfl rfl fun A7 h7=>?_
    simp only [List.set_set] at h7
    refine hold q0 q1 j hd A7 (TreeS.closeH (by simp;omega) (fun d' hd'=>?_) h7)
    refine set_ok (fun d2 hd2=>?_) hnn d' hd'
    rw [←hns] at hd2
    exact set_ok hoks hnd' d2 hd2
  ·rcases hn8 with ⟨e8,hd⟩ | ⟨j,e8,hd⟩
   ·subst e8
    refine bsel_t rfl (ld_S (i:=0) hh rfl rfl (bsel_in (fun g=>h4 q0 q1 hd ?_) fun g=>⟨rfl,fun _=>?_⟩))
    ·have:=of_decide_eq_true g
     have e:Int.ofNat ns.length=(ns.length:Int):=rfl
     simp only at this;omega
    ·have:=of_decide_eq_false g
     have e:Int.ofNat ns.length=(ns.length:Int):=rfl
     simp only at this;omega
   ·subst e8
    exact bsel_f (by simp) ⟨rfl,fun g=>by rw [hd] at g;cases g⟩
 exact IndexDead_spec (k:=1) hh rfl rdN hlen (fun g=>hidx (-1) (.inl ⟨rfl,g⟩)) fun j g=>hidx j (.inr ⟨j,rfl,g⟩)
end Go.Dn
/- Lists of numbers; whose turn it is. -/
namespace Go.Dn
variable {A:AH} {l R:List SP} {P:SP} {k q:Nat} {s:Sl} {L:List Int}
def ivC (L:List Int):List Value:=L.map (.int .i64)
theorem ivC_len (L:List Int):(ivC L).length=L.length:=by simp [ivC]
theorem ivC_one {v:Value} (h:v ∈ ivC L):v.oneCell'=true:=by
 obtain ⟨x,_,rfl⟩:=List.mem_map.1 h
 rfl
theorem ivC_at {v:Nat} {x:Int} (h:L[v]? = some x):(ivC L)[v]? = some (.int .i64 x):=by unfold ivC;rw [List.getElem?_map,h];rfl
theorem rd_iv_len (h:Own l A) (e:l[k]? = some P) (hr:Reads P s 1 (ivC L)):s.len=L.length:=by
 have:=rd_len h e hr
 rw [ivC_len] at this
 omega
theorem rd_iv {v:Nat} {x:Int} (h:Own l A) (e:l[k]? = some P) (hr:Reads P s 1 (ivC L)) (hv:L[v]? = some x):∃ a,s.a=some a∧∀ K:Int→Prop,K x→aI .i64 (Addr.add a v) A K:=by
 obtain ⟨bb,o,q0,c0⟩:=rd_cell h e hr (ivC_at hv)
 exact ⟨_,q0,fun K hK=>⟨x,by rw [add_at];exact c0,hK⟩⟩
theorem drop_at {α:Type} {L:List α} {v:Nat} {z:α} (hz:L[v]? = some z):L.drop v=z::L.drop (v+1):=by
 have hlt:=(List.getElem?_eq_some_iff.1 hz).1
 rw [List.drop_eq_getElem_cons hlt]
 rw [List.getElem?_eq_getElem hlt] at hz
 rw [Option.some.inj hz]
theorem IndexI_spec {x:Int} {Q:Int→AP} (h:Own l A) (e:l[k]? = some P) (hr:Reads P s 1 (ivC L)) (hb:L.length≤100000)
  (h0:x ∉ L→Q (-1) A) (h1:∀ v:Nat,L[v]? = some x→x ∉ L.take v→Q v A):qcc_A s x Q A:=by
 have hl:=rd_iv_len h e hr
 unfold qcc_A
 refine ⟨fun y m A'=>∃ v:Nat,y=v∧m+v=L.length∧A'=A∧x ∉ L.take v,⟨L.length,0,rfl,rfl,rfl,by simp⟩,?_⟩
 intro y m A1 ⟨v,e1,e2,e3,e4⟩
 subst e1 e3
 refine bsel_in (fun c=>?_) fun c=>?_
 ·have c:(v:Int)<s.len:=of_decide_eq_true c
  obtain ⟨z,hz⟩:∃ z,L[v]? = some z:=⟨L[v]'(by omega),by simp⟩
  obtain ⟨a,q1,q2⟩:=rd_iv h e hr hz
  rw [q1]
  refine inB_in (by omega) c ?_
  simp only [Int.toNat_natCast,Nat.mul_one]
  refine q2 _ (bsel_in (fun g=>?_) fun g=>?_)
  ·have g:x=z:=eq_of_beq g
   exact h1 v (by rw [hz,g]) e4
  ·have g:¬ x=z:=fun e=>by rw [e] at g;simp at g
   exact ⟨m-1,by omega,v+1,by rw [w64]<;>omega,by omega,trivial,by rw [take_succ hz,List.mem_append];simp [e4,g]⟩
 ·have c:¬ (v:Int)<s.len:=of_decide_eq_false c
  refine h0 ?_
  rw [List.take_of_length_le (by omega)] at e4
  exact e4
theorem ContainsI_spec {x:Int} {Q:Bool→AP} (h:Own l A) (e:l[k]? = some P) (hr:Reads P s 1 (ivC L)) (hb:L.length≤100000) (hk:Q (L.contains x) A):qcd_A s x Q A:=by
 unfold qcd_A qcd_G
 refine IndexI_spec h e hr hb (fun g=>?_) fun v g _=>?_
 ·rw [decide_eq_false (by omega)]
  have:L.contains x=false:=by simpa using g
  rw [this] at hk;exact hk
 ·rw [decide_eq_true (by omega)]
  have:L.contains x=true:=by simpa using List.mem_of_getElem? g
  rw [this] at hk;exact hk
theorem CloneI_spec {Q:Sl→AP} (h:Own l A) (e:l[k]? = some P) (hr:Reads P s 1 (ivC L)) (hb:L.length≤100000) (hn:s.a=none→L=[])
  (hk:∀ s' A',(s'.a=none→L=[])→Own (SlO s' 1 (ivC L)::l) A'→Q s' A'):qce_A s Q A:=by
 have hl:=rd_iv_len h e hr
 unfold qce_A
 refine bsel_in (fun g=>?_) fun g=>?_
 ·have g:s.a=none:=by simpa using g
  have hL:=hn g
  subst hL
  exact hk Sl.nil A (fun _=>rfl) ⟨fun _=>none,A,fun _=>.inl rfl,(fun _ _ e=>nomatch e),Sub.refl A,SlO.nil,h⟩
 ·have g:s.a≠none:=fun z=>by rw [z] at g;cases g
  refine new_C (cs:=[]) h fun b1 A1 h1=>?_
  have h2:Own (SlO ⟨some ⟨b1,0,none⟩,0,0⟩ 1 []::l) A1:=h1.imp fun B _=>⟨⟨by simp,Nat.le_refl _⟩,.inl rfl⟩
  refine ap_reads (i:=k) h2 e hr (fun z=>absurd z g) (fun z=>by cases z) rfl (fun v hv=>ivC_one hv) ⟨by simp only [hl];omega,by simp only [hl];omega⟩ fun s' A3 j1 j2 h3=>?_
  exact hk s' A3 (fun z=>by have:=j2 z;simpa [ivC] using this) (by simpa using h3)
theorem push_iv {x:Int} {t:TypeId} {K:Sl→AP} (h:Own (SlO s 1 (ivC L)::R) A) (hs:s.a=none→L=[]) (hb:L.length≤100000)
  (hk:∀ s' A',s'.a≠none→Own (SlO s' 1 (ivC (L++[x]))::R) A'→K s' A') :
  newA A (.cells #[.int .i64 x] t) fun b h2=>apA 1 8 #[(.int .i64 (0:Int))] t s (Sl.mk (some (Addr.mk b 0 none)) 1 1) h2 K:=by
 have hl:s.len=L.length:=rd_iv_len (k:=0) h rfl reads_slo
 refine new_C (cs:=[.int .i64 x]) h fun b A1 h1=>?_
 have h1:=h1.swap
 refine ap_reads (i:=0) (c1:=ivC L) h1 rfl (reads_at (n:=1) (sz:=1) (cs:=[.int .i64 x]) (rest:=[]) rfl) (fun g=>nomatch g) (fun g=>by rw [hs g];rfl) rfl (fun v hv=>by simp at hv;subst hv;rfl) ⟨by simp only [hl];omega,by simp only [hl];omega⟩ fun s' A2 j1 j2 h2=>?_
 refine hk s' A2 (fun g=>by have:=j2 g;simp at this) ?_
 have:ivC (L++[x])=ivC L++[.int .i64 x]:=by simp [ivC]
 rw [this]
 exact Own.cons (fun C hC=>hC.tail) h2
def QueS (q:Nat) (qn tk:Int) (L:List Int):SP:=fun B=>∃ s:Sl,(s.a=none→L=[])∧Own [At q [.int .i64 qn,.int .i64 tk,.slice s.a s.len s.cap],SlO s 1 (ivC L)] B
theorem QueS.openH {qn tk:Int} (h:Own (QueS q qn tk L::R) A):∃ s:Sl,(s.a=none→L=[])∧Own (At q [.int .i64 qn,.int .i64 tk,.slice s.a s.len s.cap]::SlO s 1 (ivC L)::R) A:=by
 obtain ⟨s,h⟩:=h.ex
 obtain ⟨hs,h⟩:=h.pure
 exact ⟨s,hs,h.flat⟩
theorem QueS.closeH {qn tk:Int} (hs:s.a=none→L=[]) (h:Own (At q [.int .i64 qn,.int .i64 tk,.slice s.a s.len s.cap]::SlO s 1 (ivC L)::R) A):Own (QueS q qn tk L::R) A:=
 (Own.app (l:=[_,_]) h).imp fun _ hB=>⟨s,hs,hB⟩
theorem sNew_spec {qn:Int} {Q:Option Addr→Int→AP} (h:Own l A) (h1:qn<1∨1000<qn→Q none 1 A) (hk:1≤qn→qn≤1000→∀ q A',Own (QueS q qn 0 []::l) A'→Q (some ⟨q,0,none⟩) 0 A'):qbt_A qn Q A:=by
 unfold qbt_A
 refine bsel_in (fun g=>h1 (.inl (of_decide_eq_true g))) fun g=>bsel_in (fun g2=>h1 (.inr (of_decide_eq_true g2))) fun g2=>?_
 have g:=of_decide_eq_false g
 have g2:=of_decide_eq_false g2
 refine new_C (cs:=[.int .i64 qn,.int .i64 0,.slice none 0 0]) h fun b A1 h2=>hk (by omega) (by omega) b A1 ?_
 have h3:Own (SlO Sl.nil 1 (ivC [])::At b [.int .i64 qn,.int .i64 0,.slice none 0 0]::l) A1:=⟨fun _=>none,A1,fun _=>.inl rfl,(fun _ _ e=>nomatch e),Sub.refl A1,SlO.nil,h2⟩
 exact QueS.closeH (s:=Sl.nil) (fun _=>rfl) h3.swap
theorem sAdd_spec {p qn tk:Int} {Q:Int→AP} (h:Own (QueS q qn tk L::R) A) (hb:L.length≤10000) (h1:(p<0∨16≤p)→∀ A',Own (QueS q qn tk L::R) A'→Q 1 A')
  (h6:0≤p→p<16→L.contains p=true→∀ A',Own (QueS q qn tk L::R) A'→Q 6 A') (hk:0≤p→p<16→L.contains p=false→∀ A',Own (QueS q qn tk (L++[p])::R) A'→Q 0 A'):qcf_A (some ⟨q,0,none⟩) p Q A:=by
 unfold qcf_A qcf_G
 refine ⟨fun b A'=>A'=A∧(b=true↔(p<0∨16≤p)),fun b A1 ⟨e1,e2⟩=>?_,bsel_in (fun g=>⟨rfl,by simp [of_decide_eq_true g]⟩) fun g=>⟨rfl,by have:=of_decide_eq_false g;simp only [decide_eq_true_eq];omega⟩⟩
 subst e1
 refine bsel_in (fun g=>h1 (e2.1 g) A1 h) fun g=>?_
 have g:¬ (p<0∨16≤p):=fun z=>by rw [e2.2 z] at g;cases g
 obtain ⟨s,hs,h2⟩:=QueS.openH h
 simp only [onSome,add_at,Nat.zero_add]
 refine ld_S (i:=0) h2 rfl rfl (ContainsI_spec (k:=1) h2 rfl reads_slo (by omega) (bsel_in (fun c=>h6 (by omega) (by omega) c A1 h) fun c=>?_))
 refine ld_S (i:=0) h2 rfl rfl (CloneI_spec (k:=1) h2 rfl reads_slo (by omega) hs fun s2 A2 hs2 h3=>push_iv h3 hs2 (by omega) fun s3 A3 hs3 h4=>?_)
 refine st_C (i:=1) h4 rfl rfl rfl fun A4 h5=>hk (by omega) (by omega) c A4 ?_
 have h5:Own (SlO s3 1 (ivC (L++[p]))::At q [.int .i64 qn,.int .i64 tk,.slice s3.a s3.len s3.cap]::SlO s 1 (ivC L)::R) A4:=h5
 exact QueS.closeH (fun z=>absurd z hs3) ((h5.swap).cons fun C hC=>hC.cons fun D hD=>hD.tail)
theorem sNow_spec {qn tk:Int} {Q:Int→Bool→AP} (h:Own (QueS q qn tk L::R) A) (h0:L=[]→Q 0 false A) (h1:∀ x r,L=x::r→Q x true A):qci_A (some ⟨q,0,none⟩) Q A:=by
 unfold qci_A
 obtain ⟨s,hs,h2⟩:=QueS.openH h
 have hl:s.len=L.length:=rd_iv_len (k:=1) h2 rfl reads_slo
 refine ld_S (i:=0) h2 rfl rfl (bsel_in (fun g=>h0 ?_) fun g=>?_)
 ·have g:(s.len:Int)=0:=eq_of_beq g
  exact List.length_eq_zero_iff.1 (by omega)
 ·have g:¬ (s.len:Int)=0:=fun e=>by
   have:((Int.ofNat s.len)==(0:Int))=true:=by simpa using e
   rw [this] at g;cases g
  cases L with
  | nil=>simp at hl;omega
  | cons x r=>
   refine ld_S (i:=0) h2 rfl rfl ?_
   obtain ⟨a,q1,q2⟩:=rd_iv (k:=1) (v:=0) (x:=x) h2 rfl reads_slo rfl
   rw [q1]
   refine inB_in (by omega) (by simp only [List.length_cons] at hl;show (0:Int)<(s.len:Int);omega) ?_
   have:=q2 (fun n=>Q n true A) (h1 x r rfl)
   simpa [Addr.add] using this
end Go.Dn
/- The words of a call: what call.Read makes of them. -/
namespace Go.Dn
variable {A:AH} {R:List SP} {br bw b c3 i:Nat} {w:List Int}
structure CallR where
 op:Int
 a:Int:=0
 b:Int:=0
 pw:Bool:=false
 pu:Bool:=false
 px:Bool:=false
 addr:Int:=0
 size:Int:=0
 x:Int:=0
 id:Int:=0
 ra:Int:=0
 rb:Int:=0
 rd:Int:=0
def CallR.cells (c:CallR):List Value:=[.int .i64 c.op,.int .i64 c.a,.int .i64 c.b,.bool c.pw,.bool c.pu,.bool c.px,.int .u64 c.addr,.int .i64 c.size,.int .u64 c.x,.int .i64 c.id,.int .i64 c.ra,.int .i64 c.rb,.int .i64 c.rd]
def pagesB (x y:Int):Bool:=decide (x≤34359738367)&&(decide (y≤65536)&&(decide (y≠0)&&decide (x+y≤34359738368)))
def spotB (a s:Int):Bool:=decide (a≤140737488355327)&&((s==1 || s==2 || s==4 || s==8)&&decide (a % s=0))
def fitsC (s x:Int):Bool:=s==8 || decide (x<2 ^ (8*s.toNat))
def finZ (c:CallR) (l:List Int):Option CallR:=if l.all (·==0) then some c else none
def callZ6 (w0 w1 w2 w3 w4 w5:Int):Option CallR:=
  if w0=1∨w0=3 then if pagesB w1 w2&&decide (w3≤3) then finZ { op:=w0,a:=w1,b:=w1+w2,pw:=w3 % 2==1,pu:=true,px:=w3 / 2 % 2==1 } [w4,w5] else none
  else if w0=2 then if pagesB w1 w2 then finZ { op:=w0,a:=w1,b:=w1+w2 } [w3,w4,w5] else none
  else if w0=4 then if spotB w1 w2 then finZ { op:=w0,addr:=w1,size:=w2 } [w3,w4,w5] else none
  else if w0=5 then if spotB w1 w2&&fitsC w2 w3 then finZ { op:=w0,addr:=w1,size:=w2,x:=w3 } [w4,w5] else none
  else if w0=6 then if decide (w1≤34359738367)&&(decide (w2≤15)&&decide (w3≤1)) then finZ { op:=w0,a:=w1,b:=w1+1,id:=w2,pw:=w3==1 } [w4,w5] else none
  else if w0=7 then if decide (w1≤255)&&decide (w2≤34359738367) then finZ { op:=w0,id:=w1,a:=w2,b:=w2+1 } [w3,w4,w5] else none
  else if w0=8∨w0=9 then if decide (w1≤255) then finZ { op:=w0,id:=w1 } [w2,w3,w4,w5] else none
  else if w0=10 then if decide (w1≤140737488355327) then finZ { op:=w0,addr:=w1 } [w2,w3,w4,w5] else none
  else if w0=12 then if decide (w1≤1048576) then finZ { op:=w0,id:=w1 } [w2,w3,w4,w5] else none
  else if w0=15 then if decide (w1≤7)&&(decide (w2≤3)&&(decide (w3≤3)&&decide (w4≤3))) then finZ { op:=w0,id:=1+w1,ra:=w2,rb:=w3,rd:=w4 } [w5] else none
  else if w0=16 then if decide (w1≤3) then finZ { op:=w0,id:=w1,x:=w2 } [w3,w4,w5] else none
  else if w0=11∨w0=13∨w0=14 then finZ { op:=w0 } [w1,w2,w3,w4,w5]
  else none
def callZ:List Int→Option CallR
 | [w0,w1,w2,w3,w4,w5]=>callZ6 w0 w1 w2 w3 w4 w5
 | _=>none
def badV:Value:=.iface ty_call_bad (.agg #[])
def rdS (br bw:Nat) (w:List Int) (i:Nat):SP:=Own [At br [.slice (some ⟨bw,min i 5,none⟩) (6-i) (6-i)],At bw (w.map (.int .u64))]
theorem rdS.open (h:Own (rdS br bw w i::R) A):Own (At br [.slice (some ⟨bw,min i 5,none⟩) (6-i) (6-i)]::At bw (w.map (.int .u64))::R) A:=h.flat
theorem rdS.close (h:Own (At br [.slice (some ⟨bw,min i 5,none⟩) (6-i) (6-i)]::At bw (w.map (.int .u64))::R) A):Own (rdS br bw w i::R) A:=Own.app (l:=[_,_]) h
theorem word_spec {x most:Int} {Q:Int→AP} {Kp:Value→AP} (h:Own (rdS br bw w i::R) A) (hi:i<6) (hx:w[i]? = some x)
  (hq:x≤most→∀ A',Own (rdS br bw w (i+1)::R) A'→Q x A') (hp:most<x→∀ A',Own R A'→Kp badV A'):qcj_A (some ⟨br,0,none⟩) most Q Kp A:=by
 have h:=rdS.open h
 unfold qcj_A
 have hm:min i 5=i:=by omega
 refine ld_S (i:=0) h rfl rfl (inB_in (by omega) (by simp only;omega) (ld_I (i:=1) (n:=x) h rfl (by rw [hm,List.getElem?_map,hx];rfl) ⟨fun A'=>x≤most∧Own (rdS br bw w (i+1)::R) A',fun A' hA=>hq hA.1 A' hA.2,?_⟩))
 refine ld_S (i:=0) h rfl rfl (inB_in (by omega) (by simp only;omega) ?_)
 simp only [onSome]
 refine st_C (i:=0) h rfl rfl rfl fun A' h'=>?_
 have hs:(.slice (if (6-i)=1 then some ⟨bw,min i 5,none⟩ else Option.map (fun x=>Addr.add x (1*1)) (some ⟨bw,min i 5,none⟩)) (6-i-1) (6-i-1):Value) = .slice (some ⟨bw,min (i+1) 5,none⟩) (6-(i+1)) (6-(i+1)):=by
  have:i=0∨i=1∨i=2∨i=3∨i=4∨i=5:=by omega
  rcases this with rfl | rfl | rfl | rfl | rfl | rfl<;>rfl
 have h':Own (At br [.slice (some ⟨bw,min (i+1) 5,none⟩) (6-(i+1)) (6-(i+1))]::At bw (w.map (.int .u64))::R) A':=by
  rw [←hs];exact h'
 refine bsel_in (fun g=>hp (of_decide_eq_true g) A' h'.tail.tail) fun g=>⟨Int.not_lt.1 (of_decide_eq_false g),rdS.close h'⟩
theorem number_spec {x below:Int} {Q:Int→AP} {Kp:Value→AP} (h:Own (rdS br bw w i::R) A) (hi:i<6) (hx:w[i]? = some x) (hb:1≤below∧below≤1152921504606846976) (h0:0≤x)
  (hq:x≤below-1→∀ A',Own (rdS br bw w (i+1)::R) A'→Q x A') (hp:below-1<x→∀ A',Own R A'→Kp badV A'):qck_A (some ⟨br,0,none⟩) below Q Kp A:=by
 unfold qck_A qck_G
 rw [w64 (n:=below-1) (by omega) (by omega),wu64 (by omega) (by omega)]
 refine word_spec h hi hx (fun q A' h'=>?_) hp
 rw [w64 (by omega) (by omega)]
 exact hq q A' h'
theorem pages_spec {x y:Int} {Q:Int→Int→AP} {Kp:Value→AP} (h:Own (rdS br bw w i::R) A) (hi:i<5) (hx:w[i]? = some x) (hy:w[i+1]? = some y) (h0:0≤x) (h1:0≤y)
  (hq:pagesB x y=true→∀ A',Own (rdS br bw w (i+2)::R) A'→Q x (x+y) A') (hp:pagesB x y=false→∀ A',Own R A'→Kp badV A'):qcl_A (some ⟨br,0,none⟩) Q Kp A:=by
 unfold qcl_A qcl_G
 refine number_spec h (by omega) hx (by omega) h0 (fun q1 A1 h1'=>number_spec h1' (by omega) hy (by omega) h1 (fun q2 A2 h2=>?_) fun q2=>hp (by unfold pagesB;simp;omega)) fun q1=>hp (by unfold pagesB;simp;omega)
 rw [w64 (n:=x+1) (by omega) (by omega),w64 (n:=x+1+y) (by omega) (by omega),w64 (n:=x+1+y-1) (by omega) (by omega)]
 refine ⟨fun A'=>pagesB x y=true∧Own (rdS br bw w (i+2)::R) A',fun A' hA=>?_,?_⟩
 ·rw [show x+1+y-1=x+y by omega]
  exact hq hA.1 A' hA.2
 ·refine bsel_in (fun g=>hp (by have:=eq_of_beq g;unfold pagesB;simp;omega) A2 h2.tail) fun g=>bsel_in (fun g2=>hp (by have:=of_decide_eq_true g2;unfold pagesB;simp;omega) A2 h2.tail) fun g2=>⟨?_,h2⟩
  have g:¬ (x+1+y-1=x):=fun e=>by rw [e] at g;simp at g
  have g2:¬ (x+1+y-1 > 34359738368):=of_decide_eq_false g2
  unfold pagesB
  simp
  omega
theorem one_spec {x:Int} {Q:Int→Int→AP} {Kp:Value→AP} (h:Own (rdS br bw w i::R) A) (hi:i<6) (hx:w[i]? = some x) (h0:0≤x)
  (hq:x≤34359738367→∀ A',Own (rdS br bw w (i+1)::R) A'→Q x (x+1) A') (hp:34359738367<x→∀ A',Own R A'→Kp badV A'):qco_A (some ⟨br,0,none⟩) Q Kp A:=by
 unfold qco_A qco_G
 refine number_spec h hi hx (by omega) h0 (fun q A' h'=>?_) fun q=>hp (by omega)
 rw [w64 (n:=x+1) (by omega) (by omega)]
 exact hq (by omega) A' h'
theorem perm_spec {x:Int} {Q:Bool→Bool→Bool→AP} {Kp:Value→AP} (h:Own (rdS br bw w i::R) A) (hi:i<6) (hx:w[i]? = some x) (h0:0≤x)
  (hq:x≤3→∀ A',Own (rdS br bw w (i+1)::R) A'→Q (x % 2==1) true (x / 2 % 2==1) A') (hp:3<x→∀ A',Own R A'→Kp badV A'):qcm_A (some ⟨br,0,none⟩) Q Kp A:=by
 unfold qcm_A qcm_G
 refine word_spec h hi hx (fun q A' h'=>?_) hp
 have:x=0∨x=1∨x=2∨x=3:=by omega
 rcases this with rfl | rfl | rfl | rfl<;>exact hq (by omega) A' h'
theorem spot_spec {x y:Int} {c:CallR} {Q:AP} {Kp:Value→AP} (h:Own (rdS br bw w i::At b c.cells::R) A) (hi:i<5) (hx:w[i]? = some x) (hy:w[i+1]? = some y) (h0:0≤x∧x<18446744073709551616) (h1:0≤y)
  (hq:spotB x y=true→∀ A',Own (rdS br bw w (i+2)::At b { c with addr:=x,size:=y }.cells::R) A'→Q A') (hp:spotB x y=false→∀ A',Own R A'→Kp badV A'):qcn_A (some ⟨br,0,none⟩) (some ⟨b,0,none⟩) Q Kp A:=by
 unfold qcn_A qcn_G
 refine word_spec h (by omega) hx (fun q1 A1 h1'=>?_) fun q1 A' h'=>hp (by unfold spotB;rw [decide_eq_false (by omega)];rfl) A' h'.tail
 simp only [onSome,add_at,Nat.zero_add]
 refine st_C (i:=1) h1' rfl rfl rfl fun A2 h2=>?_
 refine number_spec h2 (by omega) hy (by omega) h1 (fun q2 A3 h3=>?_) fun q2 A' h'=>hp (by unfold spotB;simp;omega) A' h'.tail
 refine st_C (i:=1) h3 rfl rfl rfl fun A4 h4=>?_
 have h4:Own (rdS br bw w (i+2)::At b { c with addr:=x,size:=y }.cells::R) A4:=h4
 have hR:Own R A4:=h4.tail.tail
 refine ld_I (i:=1) h4 rfl rfl (ld_I (i:=1) h4 rfl rfl ?_)
 have fin:(y=1∨y=2∨y=4∨y=8)→bits .and .i64 y (IntKind.wrap .i64 (y-1))=0→IntKind.wrap .u64 y=y→bsel (bits .and .i64 y (IntKind.wrap .i64 (y-1)) != 0) (Kp (.iface 158 (.agg #[])) A4) (aI .i64 ⟨b,7,none⟩ A4 fun n18=>bsel (n18==0) (Kp (.iface 158 (.agg #[])) A4) (aI .u64 ⟨b,6,none⟩ A4 fun n20=>aI .i64 ⟨b,7,none⟩ A4 fun n22=>bsel (IntKind.wrap .u64 n22==0) False (bsel (Int.tmod n20 (IntKind.wrap .u64 n22) != 0) (Kp (.iface 158 (.agg #[])) A4) (Q A4)))):=by
  intro hy4 e1 e2
  refine bsel_f (by rw [e1];rfl) (ld_I (i:=1) h4 rfl rfl (bsel_f (by simp;omega) (ld_I (i:=1) h4 rfl rfl (ld_I (i:=1) h4 rfl rfl (bsel_f (by rw [e2];simp;omega) ?_)))))
  rw [e2,Int.tmod_eq_emod_of_nonneg h0.1]
  have hsz:(y==1 || y==2 || y==4 || y==8)=true:=by rcases hy4 with rfl | rfl | rfl | rfl<;>rfl
  refine bsel_in (fun g=>hp ?_ A4 hR) fun g=>hq ?_ A4 h4
  ·have g:¬ x % y=0:=by simpa using g
   unfold spotB
   rw [decide_eq_false g];simp
  ·have g:x % y=0:=by simpa using g
   unfold spotB
   rw [decide_eq_true (by omega),decide_eq_true g,hsz];rfl
 have no:spotB x y=false→bits .and .i64 y (IntKind.wrap .i64 (y-1))≠0→∀ T,bsel (bits .and .i64 y (IntKind.wrap .i64 (y-1)) != 0) (Kp (.iface 158 (.agg #[])) A4) T:=fun hb e1 T=>bsel_t (by simp [e1]) (hp hb A4 hR)
 have:y=0∨y=1∨y=2∨y=3∨y=4∨y=5∨y=6∨y=7∨y=8:=by omega
 rcases this with rfl | rfl | rfl | rfl | rfl | rfl | rfl | rfl | rfl
 ·exact bsel_f (by show (bits .and .i64 0 (IntKind.wrap .i64 (0-1)) != 0)=false;decide) (ld_I (i:=1) h4 rfl rfl (bsel_t rfl (hp (by unfold spotB;simp) A4 hR)))
 ·exact fin (by omega) rfl rfl
 ·exact fin (by omega) rfl rfl
 ·exact no (by unfold spotB;simp) (by decide) _
 ·exact fin (by omega) rfl rfl
 ·exact no (by unfold spotB;simp) (by decide) _
 ·exact no (by unfold spotB;simp) (by decide) _
 ·exact no (by unfold spotB;simp) (by decide) _
 ·exact fin (by omega) rfl rfl
theorem rest_spec {Q:AP} {Kp:Value→AP} (hw:w.length=6) (hw0:∀ x ∈ w,0≤x) (hi:i≤6) (h:Own (rdS br bw w i::R) A)
  (hq:(w.drop i).all (·==0)=true→∀ A',Own R A'→Q A') (hp:(w.drop i).all (·==0)=false→∀ A',Own R A'→Kp badV A') :
  ∃ I145:Int→Nat→AH→Prop,(∃ m146,I145 (0:Int) m146 A)∧∀ x149:Int,∀ m146 h148,I145 x149 m146 h148→bsel (decide (x149<(Int.ofNat (6-i))))
   (qcj_A (some ⟨br,0,none⟩) (0:Int) (fun _ h151=>∃ m147,m147<m146∧I145 (IntKind.wrap .i64 (x149+(1:Int))) m147 h151) (fun v152 h153=>Kp v152 h153) h148) (Q h148):=by
 refine ⟨fun x m A'=>∃ v:Nat,x=v∧m+v=6-i∧(w.drop i).all (·==0)=(w.drop (i+v)).all (·==0)∧Own (rdS br bw w (i+v)::R) A',⟨6-i,0,rfl,rfl,rfl,h⟩,?_⟩
 intro x m A1 ⟨v,e1,e2,e3,h1⟩
 subst e1
 refine bsel_in (fun g=>?_) fun g=>?_
 ·have g:(v:Int)<((6-i:Nat):Int):=of_decide_eq_true g
  obtain ⟨z,hz⟩:∃ z,w[i+v]? = some z:=⟨w[i+v]'(by omega),by simp⟩
  have hz0:=hw0 z (List.mem_of_getElem? hz)
  have hd:(w.drop (i+v)).all (·==0)=((z==0)&&(w.drop (i+v+1)).all (·==0)):=by
   obtain ⟨q1,q2⟩:=List.getElem?_eq_some_iff.1 hz
   rw [List.drop_eq_getElem_cons q1,q2];rfl
  refine word_spec h1 (by omega) hz (fun q A2 h2=>?_) fun q A2 h2=>hp (by rw [e3,hd,beq_false_of_ne (by omega)];rfl) A2 h2
  have:z=0:=by omega
  subst this
  exact ⟨m-1,by omega,v+1,by rw [w64]<;>omega,by omega,by rw [e3,hd];rfl,by rw [←Nat.add_assoc];exact h2⟩
 ·have g:¬ (v:Int)<((6-i:Nat):Int):=of_decide_eq_false g
  have hv:i+v=6:=by omega
  refine hq ?_ A1 h1.tail
  rw [e3,hv,List.drop_eq_nil_of_le (by omega)];rfl
theorem fdiv_lt {x:Int} (n:Nat) (h0:0≤x):(Int.fdiv x (2 ^ n) != 0) = !decide (x<2 ^ n):=by
 rw [shr_eq]
 have hp:(0:Int)<2 ^ n:=Int.pow_pos (by omega)
 by_cases g:x<2 ^ n
 ·rw [Int.ediv_eq_zero_of_lt h0 g,decide_eq_true g];rfl
 ·have:1≤x / 2 ^ n:=by rw [Int.le_ediv_iff_mul_le hp];omega
  rw [decide_eq_false g]
  simp;omega
theorem read_spec {w0 w1 w2 w3 w4 w5:Int} {Q:Int→Int→Int→Bool→Bool→Bool→Int→Int→Int→Int→Int→Int→Int→AP} {Kp:Value→AP} (hw:w=[w0,w1,w2,w3,w4,w5]) (hb:∀ x ∈ w,0≤x∧x<18446744073709551616) (h:Own (rdS br bw w 0::R) A)
  (hq:∀ c,callZ w=some c→∀ A',Own R A'→Q c.op c.a c.b c.pw c.pu c.px c.addr c.size c.x c.id c.ra c.rb c.rd A') (hp:callZ w=none→∀ A',Own R A'→Kp badV A'):qcp_A (some ⟨br,0,none⟩) Q Kp A:=by
 have hl:w.length=6:=by rw [hw];rfl
 have q0:w[0]? = some w0:=by rw [hw];rfl
 have q1:w[1]? = some w1:=by rw [hw];rfl
 have q2:w[2]? = some w2:=by rw [hw];rfl
 have q3:w[3]? = some w3:=by rw [hw];rfl
 have q4:w[4]? = some w4:=by rw [hw];rfl
 have b0:=hb w0 (List.mem_of_getElem? q0)
 have b1:=hb w1 (List.mem_of_getElem? q1)
 have b2:=hb w2 (List.mem_of_getElem? q2)
 have b3:=hb w3 (List.mem_of_getElem? q3)
 have b4:=hb w4 (List.mem_of_getElem? q4)
 have hcz:callZ w=callZ6 w0 w1 w2 w3 w4 w5:=by rw [hw];rfl
 have dr:∀ i,w.drop i=[w0,w1,w2,w3,w4,w5].drop i:=fun i=>by rw [hw]
 unfold callZ6 at hcz
 unfold qcp_A qcp_G
 refine number_spec h (by omega) q0 (by omega) b0.1 (fun z0 A1 h1=>?_) fun z0=>hp (by rw [hcz];repeat rw [if_neg (by omega)])
 refine new_C (cs:=({ op:=0 }:CallR).cells) h1 fun b A2 h2=>?_
 refine st_C (i:=0) h2 rfl rfl rfl fun _ h3=>st_C (i:=0) h3 rfl rfl rfl fun _ h3=>st_C (i:=0) h3 rfl rfl rfl fun _ h3=>st_C (i:=0) h3 rfl rfl rfl fun _ h3=>st_C (i:=0) h3 rfl rfl rfl fun _ h3=>st_C (i:=0) h3 rfl rfl rfl fun _ h3=>
  st_C (i:=0) h3 rfl rfl rfl fun _ h3=>st_C (i:=0) h3 rfl rfl rfl fun _ h3=>st_C (i:=0) h3 rfl rfl rfl fun _ h3=>st_C (i:=0) h3 rfl rfl rfl fun _ h3=>st_C (i:=0) h3 rfl rfl rfl fun _ h3=>st_C (i:=0) h3 rfl rfl rfl fun _ h3=>st_C (i:=0) h3 rfl rfl rfl fun A3 h3=>?_
 have h3:Own (At b ({ op:=w0 }:CallR).cells::rdS br bw w 1::R) A3:=h3
 have h3:=h3.swap
 clear h h1 h2
 simp only [add_at,Nat.zero_add]
 have out:∀ (i:Nat) (c:CallR) (A':AH),i≤6→callZ w=finZ c ([w0,w1,w2,w3,w4,w5].drop i)→Own (rdS br bw w i::At b c.cells::R) A'→∃ (i:Nat) (c:CallR),i≤6∧callZ w=finZ c (w.drop i)∧Own (rdS br bw w i::At b c.cells::R) A':=fun i c A' k1 k2 k3=>⟨i,c,k1,by rw [dr];exact k2,k3⟩
 refine ⟨fun A'=>∃ (i:Nat) (c:CallR),i≤6∧callZ w=finZ c (w.drop i)∧Own (rdS br bw w i::At b c.cells::R) A',fun A4 ⟨i,c,k1,k2,k3⟩=>?_,?_⟩
 ·have k4:=rdS.open k3
  refine ld_S (i:=0) k4 rfl rfl ?_
  refine rest_spec hl (fun x hx=>(hb x hx).1) k1 k3 (fun z A5 h5=>?_) fun z A5 h5=>hp (by rw [k2];unfold finZ;rw [z];rfl) A5 h5.tail
  have:=hq c (by rw [k2];unfold finZ;rw [z];rfl) A5 h5.tail
  exact ld_I (i:=0) h5 rfl rfl (ld_I (i:=0) h5 rfl rfl (ld_I (i:=0) h5 rfl rfl (ld_B (i:=0) h5 rfl rfl (ld_B (i:=0) h5 rfl rfl (ld_B (i:=0) h5 rfl rfl (ld_I (i:=0) h5 rfl rfl (ld_I (i:=0) h5 rfl rfl (ld_I (i:=0) h5 rfl rfl (ld_I (i:=0) h5 rfl rfl (ld_I (i:=0) h5 rfl rfl (ld_I (i:=0) h5 rfl rfl (ld_I (i:=0) h5 rfl rfl this))))))))))))
 have kp:∀ A',callZ w=none→Own (At b ({ op:=w0 }:CallR).cells::R) A'→Kp badV A':=fun A' z h'=>hp z A' h'.tail
 refine ld_I (i:=1) h3 rfl rfl ⟨fun bb A'=>A'=A3∧bb=(w0==1 || w0==3),fun bb A4 ⟨e1,e2⟩=>?_,bsel_in (fun g=>⟨rfl,by simp only at g ⊢;rw [g];rfl⟩) fun g=>⟨rfl,by simp only at g ⊢;rw [g];rfl⟩⟩
 subst e1 e2
 refine bsel_in (fun g=>?_) fun g=>?_
 ·have g:w0=1∨w0=3:=by simpa using g
  rw [if_pos g] at hcz
  refine pages_spec h3 (by omega) q1 q2 b1.1 b2.1 (fun z A5 h5=>?_) fun z A5 h5=>kp A5 (by rw [hcz,z];rfl) h5
  rw [z,Bool.true_and] at hcz
  refine perm_spec h5 (by omega) q3 b3.1 (fun z A6 h6=>?_) fun z A5 h5=>kp A5 (by rw [hcz,if_neg (by simp;omega)]) h5
  rw [if_pos (by simp;omega)] at hcz
  refine st_C (i:=1) h6 rfl rfl rfl fun _ h6=>st_C (i:=1) h6 rfl rfl rfl fun _ h6=>st_C (i:=1) h6 rfl rfl rfl fun _ h6=>st_C (i:=1) h6 rfl rfl rfl fun _ h6=>st_C (i:=1) h6 rfl rfl rfl fun A7 h7=>?_
  exact out 4 _ _ (by omega) hcz h7
 have g:¬ (w0=1∨w0=3):=by simpa using g
 rw [if_neg g] at hcz
 refine bsel_in (fun g2=>?_) fun g2=>?_
 ·have g2:w0=2:=eq_of_beq g2
  rw [if_pos g2] at hcz
  refine pages_spec h3 (by omega) q1 q2 b1.1 b2.1 (fun z A5 h5=>?_) fun z A5 h5=>kp A5 (by rw [hcz,z];rfl) h5
  rw [if_pos z] at hcz
  refine st_C (i:=1) h5 rfl rfl rfl fun _ h6=>st_C (i:=1) h6 rfl rfl rfl fun A7 h7=>?_
  exact out 3 _ _ (by omega) hcz h7
 have g2:¬ w0=2:=fun e=>by simp [e] at g2
 rw [if_neg g2] at hcz
 refine bsel_in (fun g3=>?_) fun g3=>?_
 ·have g3:w0=4:=eq_of_beq g3
  rw [if_pos g3] at hcz
  refine spot_spec h3 (by omega) q1 q2 b1 b2.1 (fun z A5 h5=>?_) fun z A5 h5=>hp (by rw [hcz,z];rfl) A5 h5
  rw [if_pos z] at hcz
  exact out 3 _ _ (by omega) hcz h5
 have g3:¬ w0=4:=fun e=>by simp [e] at g3
 rw [if_neg g3] at hcz
 refine bsel_in (fun g4=>?_) fun g4=>?_
 ·have g4:w0=5:=eq_of_beq g4
  rw [if_pos g4] at hcz
  refine spot_spec h3 (by omega) q1 q2 b1 b2.1 (fun z A5 h5=>?_) fun z A5 h5=>hp (by rw [hcz,z];rfl) A5 h5
  rw [z,Bool.true_and] at hcz
  refine word_spec h5 (by omega) q3 (fun _ A6 h6=>?_) fun z=>by omega
  refine st_C (i:=1) h6 rfl rfl rfl fun A7 h7=>?_
  have hs:w2=1∨w2=2∨w2=4∨w2=8:=by
   unfold spotB at z
   simp at z
   omega
  have good:fitsC w2 w3=true→∃ i c,i≤6∧callZ w=finZ c (w.drop i)∧Own (rdS br bw w i::At b c.cells::R) A7:=fun z=>by
   rw [if_pos z] at hcz
   exact out 4 _ _ (by omega) hcz h7
  refine ld_I (i:=1) h7 rfl rfl (bsel_in (fun z=>?_) fun z=>?_)
  ·have z:w2<8:=of_decide_eq_true z
   refine ld_I (i:=1) h7 rfl rfl (ld_I (i:=1) h7 rfl rfl ?_)
   simp only
   have hn:IntKind.wrap .i64 (8*w2)=8*w2:=by rw [w64]<;>omega
   rw [hn]
   refine bsel_f (by simp;omega) ?_
   have key:(Int.fdiv w3 (2 ^ min (Int.toNat (8*w2)) 64) != 0) = !(decide (w3<2 ^ (8*w2.toNat))):=by
    rcases hs with rfl | rfl | rfl | rfl
    ·exact fdiv_lt 8 b3.1
    ·exact fdiv_lt 16 b3.1
    ·exact fdiv_lt 32 b3.1
    ·omega
   rw [key]
   have hf:fitsC w2 w3=decide (w3<2 ^ (8*w2.toNat)):=by
    unfold fitsC
    have:(w2==8)=false:=by simp;omega
    rw [this,Bool.false_or]
   refine bsel_in (fun y=>?_) fun y=>good ?_
   ·refine hp ?_ A7 h7.tail.tail
    rw [hcz,hf]
    have:decide (w3<2 ^ (8*w2.toNat))=false:=by simpa using y
    rw [this];rfl
   ·rw [hf];simpa using y
  ·have z:¬ w2<8:=of_decide_eq_false z
   refine good ?_
   have:w2=8:=by omega
   unfold fitsC
   rw [this];rfl
 have g4:¬ w0=5:=fun e=>by simp [e] at g4
 rw [if_neg g4] at hcz
 refine bsel_in (fun g5=>?_) fun g5=>?_
 ·have g5:w0=6:=eq_of_beq g5
  rw [if_pos g5] at hcz
  refine one_spec h3 (by omega) q1 b1.1 (fun z A5 h5=>number_spec h5 (by omega) q2 (by omega) b2.1 (fun z2 A6 h6=>?_) fun z2 A5 h5=>kp A5 (by rw [hcz,if_neg (by simp;omega)]) h5) fun z A5 h5=>kp A5 (by rw [hcz,if_neg (by simp;omega)]) h5
  refine st_C (i:=1) h6 rfl rfl rfl fun _ h6=>st_C (i:=1) h6 rfl rfl rfl fun _ h6=>st_C (i:=1) h6 rfl rfl rfl fun A7 h7=>?_
  refine word_spec h7 (by omega) q3 (fun z3 A8 h8=>?_) fun z A5 h5=>hp (by rw [hcz,if_neg (by simp;omega)]) A5 h5.tail
  rw [if_pos (by simp;omega)] at hcz
  refine st_C (i:=1) h8 rfl rfl rfl fun A9 h9=>?_
  exact out 4 _ _ (by omega) hcz h9
 have g5:¬ w0=6:=fun e=>by simp [e] at g5
 rw [if_neg g5] at hcz
 refine bsel_in (fun g6=>?_) fun g6=>?_
 ·have g6:w0=7:=eq_of_beq g6
  rw [if_pos g6] at hcz
  refine number_spec h3 (by omega) q1 (by omega) b1.1 (fun z A5 h5=>one_spec h5 (by omega) q2 b2.1 (fun z2 A6 h6=>?_) fun z2 A5 h5=>kp A5 (by rw [hcz,if_neg (by simp;omega)]) h5) fun z A5 h5=>kp A5 (by rw [hcz,if_neg (by simp;omega)]) h5
  rw [if_pos (by simp;omega)] at hcz
  refine st_C (i:=1) h6 rfl rfl rfl fun _ h6=>st_C (i:=1) h6 rfl rfl rfl fun _ h6=>st_C (i:=1) h6 rfl rfl rfl fun A7 h7=>?_
  exact out 3 _ _ (by omega) hcz h7
 have g6:¬ w0=7:=fun e=>by simp [e] at g6
 rw [if_neg g6] at hcz
 refine ⟨fun bb A'=>A'=A4∧bb=(w0==8 || w0==9),fun bb A5 ⟨e1,e2⟩=>?_,bsel_in (fun g=>⟨rfl,by simp only at g ⊢;rw [g];rfl⟩) fun g=>⟨rfl,by simp only at g ⊢;rw [g];rfl⟩⟩
 subst e1 e2
 refine bsel_in (fun g7=>?_) fun g7=>?_
 ·have g7:w0=8∨w0=9:=by simpa using g7
  rw [if_pos g7] at hcz
  refine number_spec h3 (by omega) q1 (by omega) b1.1 (fun z A6 h6=>?_) fun z A5 h5=>kp A5 (by rw [hcz,if_neg (by simp;omega)]) h5
  rw [if_pos (by simp;omega)] at hcz
  refine st_C (i:=1) h6 rfl rfl rfl fun A7 h7=>?_
  exact out 2 _ _ (by omega) hcz h7
 have g7:¬ (w0=8∨w0=9):=by simpa using g7
 rw [if_neg g7] at hcz
 refine bsel_in (fun g8=>?_) fun g8=>?_
 ·have g8:w0=10:=eq_of_beq g8
  rw [if_pos g8] at hcz
  refine word_spec h3 (by omega) q1 (fun z A6 h6=>?_) fun z A5 h5=>kp A5 (by rw [hcz,if_neg (by simp;omega)]) h5
  rw [if_pos (by simp;omega)] at hcz
  refine st_C (i:=1) h6 rfl rfl rfl fun A7 h7=>?_
  exact out 2 _ _ (by omega) hcz h7
 have g8:¬ w0=10:=fun e=>by simp [e] at g8
 rw [if_neg g8] at hcz
 refine bsel_in (fun g9=>?_) fun g9=>?_
 ·have g9:w0=12:=eq_of_beq g9
  rw [if_pos g9] at hcz
  refine number_spec h3 (by omega) q1 (by omega) b1.1 (fun z A6 h6=>?_) fun z A5 h5=>kp A5 (by rw [hcz,if_neg (by simp;omega)]) h5
  rw [if_pos (by simp;omega)] at hcz
  refine st_C (i:=1) h6 rfl rfl rfl fun A7 h7=>?_
  exact out 2 _ _ (by omega) hcz h7
 have g9:¬ w0=12:=fun e=>by simp [e] at g9
 rw [if_neg g9] at hcz
 refine bsel_in (fun g10=>?_) fun g10=>?_
 ·have g10:w0=15:=eq_of_beq g10
  rw [if_pos g10] at hcz
  refine number_spec h3 (by omega) q1 (by omega) b1.1 (fun z1 A6 h6=>?_) fun z A5 h5=>kp A5 (by rw [hcz,if_neg (by simp;omega)]) h5
  refine number_spec h6 (by omega) q2 (by omega) b2.1 (fun z2 A6 h6=>?_) fun z A5 h5=>kp A5 (by rw [hcz,if_neg (by simp;omega)]) h5
  refine number_spec h6 (by omega) q3 (by omega) b3.1 (fun z3 A6 h6=>?_) fun z A5 h5=>kp A5 (by rw [hcz,if_neg (by simp;omega)]) h5
  refine number_spec h6 (by omega) q4 (by omega) b4.1 (fun z4 A6 h6=>?_) fun z A5 h5=>kp A5 (by rw [hcz,if_neg (by simp;omega)]) h5
  rw [if_pos (by simp;omega)] at hcz
  rw [w64 (n:=1+w1) (by omega) (by omega)]
  refine st_C (i:=1) h6 rfl rfl rfl fun _ h6=>st_C (i:=1) h6 rfl rfl rfl fun _ h6=>st_C (i:=1) h6 rfl rfl rfl fun _ h6=>st_C (i:=1) h6 rfl rfl rfl fun A7 h7=>?_
  exact out 5 _ _ (by omega) hcz h7
 have g10:¬ w0=15:=fun e=>by simp [e] at g10
 rw [if_neg g10] at hcz
 refine bsel_in (fun g11=>?_) fun g11=>?_
 ·have g11:w0=16:=eq_of_beq g11
  rw [if_pos g11] at hcz
  refine number_spec h3 (by omega) q1 (by omega) b1.1 (fun z A6 h6=>?_) fun z A5 h5=>kp A5 (by rw [hcz,if_neg (by simp;omega)]) h5
  rw [if_pos (by simp;omega)] at hcz
  refine word_spec h6 (by omega) q2 (fun _ A7 h7=>?_) fun z=>by omega
  refine st_C (i:=1) h7 rfl rfl rfl fun _ h7=>st_C (i:=1) h7 rfl rfl rfl fun A8 h8=>?_
  exact out 3 _ _ (by omega) hcz h8
 have g11:¬ w0=16:=fun e=>by simp [e] at g11
 rw [if_neg g11] at hcz
 refine ⟨fun bb A'=>A'=A5∧bb=(w0==11 || (w0==13 || w0==14)),fun bb A6 ⟨e1,e2⟩=>?_,bsel_in (fun g=>⟨rfl,by simp only at g ⊢;rw [g];rfl⟩) fun g=>bsel_in (fun g'=>⟨rfl,by simp only at g g' ⊢;rw [g,g'];rfl⟩) fun g'=>⟨rfl,by simp only at g g' ⊢;rw [g,g'];rfl⟩⟩
 subst e1 e2
 refine bsel_in (fun g12=>?_) fun g12=>?_
 ·have g12:w0=11∨w0=13∨w0=14:=by simpa using g12
  rw [if_pos g12] at hcz
  exact out 1 _ _ (by omega) hcz h3
 ·have g12:¬ (w0=11∨w0=13∨w0=14):=by simpa using g12
  rw [if_neg g12] at hcz
  exact hp hcz A6 h3.tail.tail
end Go.Dn
/- What call.Read hands back. -/
namespace Go.Dn
variable {A:AH} {l:List SP}
theorem Read_spec {w0 w1 w2 w3 w4 w5:Int} {Q:Int→Int→Int→Bool→Bool→Bool→Int→Int→Int→Int→Int→Int→Int→Int→AP} (hb:∀ x ∈ [w0,w1,w2,w3,w4,w5],0≤x∧x<18446744073709551616) (h:Own l A)
  (hq:∀ c,callZ6 w0 w1 w2 w3 w4 w5=some c→∀ A',Own l A'→Q c.op c.a c.b c.pw c.pu c.px c.addr c.size c.x c.id c.ra c.rb c.rd 0 A') (hp:callZ6 w0 w1 w2 w3 w4 w5=none→∀ A',Own l A'→Q 0 0 0 false false false 0 0 0 0 0 0 0 13 A'):qcr_A w0 w1 w2 w3 w4 w5 Q A:=by
 unfold qcr_A qcr_G
 refine new_C (cs:=[w0,w1,w2,w3,w4,w5].map (.int .u64)) h fun bw A1 h1=>new_C (cs:=({ op:=0 }:CallR).cells) h1 fun b3 A2 h2=>new_C (cs:=[.int .i64 0]) h2 fun b5 A3 h3=>new_C (cs:=[.slice (some ⟨bw,0,none⟩) 6 6]) h3 fun br A4 h4=>?_
 have h5:Own (rdS br bw [w0,w1,w2,w3,w4,w5] 0::At b3 ({ op:=0 }:CallR).cells::At b5 [.int .i64 0]::l) A4:=by
  have:Own (At br [.slice (some ⟨bw,0,none⟩) 6 6]::At bw ([w0,w1,w2,w3,w4,w5].map (.int .u64))::At b3 ({ op:=0 }:CallR).cells::At b5 [.int .i64 0]::l) A4:=
   h4.perm (List.Perm.cons _ (by
    refine List.Perm.trans (List.Perm.swap _ _ _) ?_
    refine List.Perm.trans (List.Perm.cons _ (List.Perm.swap _ _ _)) ?_
    exact List.Perm.swap _ _ _))
  exact rdS.close this
 refine read_spec rfl hb h5 (fun c hc A5 h6=>?_) fun hc A5 h6=>?_
 ·simp only [add_at,Nat.zero_add]
  refine st_C (i:=0) h6 rfl rfl rfl fun _ h6=>st_C (i:=0) h6 rfl rfl rfl fun _ h6=>st_C (i:=0) h6 rfl rfl rfl fun _ h6=>st_C (i:=0) h6 rfl rfl rfl fun _ h6=>st_C (i:=0) h6 rfl rfl rfl fun _ h6=>st_C (i:=0) h6 rfl rfl rfl fun _ h6=>
   st_C (i:=0) h6 rfl rfl rfl fun _ h6=>st_C (i:=0) h6 rfl rfl rfl fun _ h6=>st_C (i:=0) h6 rfl rfl rfl fun _ h6=>st_C (i:=0) h6 rfl rfl rfl fun _ h6=>st_C (i:=0) h6 rfl rfl rfl fun _ h6=>st_C (i:=0) h6 rfl rfl rfl fun _ h6=>st_C (i:=0) h6 rfl rfl rfl fun _ h6=>st_C (i:=1) h6 rfl rfl rfl fun A7 h7=>?_
  have h7:Own (At b3 c.cells::At b5 [.int .i64 0]::l) A7:=h7
  unfold qcq_nA
  exact ld_I (i:=0) h7 rfl rfl (ld_I (i:=0) h7 rfl rfl (ld_I (i:=0) h7 rfl rfl (ld_B (i:=0) h7 rfl rfl (ld_B (i:=0) h7 rfl rfl (ld_B (i:=0) h7 rfl rfl (ld_I (i:=0) h7 rfl rfl (ld_I (i:=0) h7 rfl rfl (ld_I (i:=0) h7 rfl rfl (ld_I (i:=0) h7 rfl rfl (ld_I (i:=0) h7 rfl rfl (ld_I (i:=0) h7 rfl rfl (ld_I (i:=0) h7 rfl rfl
   (ld_I (i:=1) h7 rfl rfl (hq c hc A7 h7.tail.tail))))))))))))))
 ·show qcq_pA (some ⟨b3,0,none⟩) (some ⟨b5,0,none⟩) _ A5
  unfold qcq_pA
  simp only [add_at,Nat.zero_add,onSome]
  refine st_C (i:=0) h6 rfl rfl rfl fun _ h6=>st_C (i:=0) h6 rfl rfl rfl fun _ h6=>st_C (i:=0) h6 rfl rfl rfl fun _ h6=>st_C (i:=0) h6 rfl rfl rfl fun _ h6=>st_C (i:=0) h6 rfl rfl rfl fun _ h6=>st_C (i:=0) h6 rfl rfl rfl fun _ h6=>
   st_C (i:=0) h6 rfl rfl rfl fun _ h6=>st_C (i:=0) h6 rfl rfl rfl fun _ h6=>st_C (i:=0) h6 rfl rfl rfl fun _ h6=>st_C (i:=0) h6 rfl rfl rfl fun _ h6=>st_C (i:=0) h6 rfl rfl rfl fun _ h6=>st_C (i:=0) h6 rfl rfl rfl fun _ h6=>st_C (i:=0) h6 rfl rfl rfl fun _ h6=>st_C (i:=1) h6 rfl rfl rfl fun A7 h7=>?_
  have h7:Own (At b3 ({ op:=0 }:CallR).cells::At b5 [.int .i64 13]::l) A7:=h7
  exact ld_I (i:=0) h7 rfl rfl (ld_I (i:=0) h7 rfl rfl (ld_I (i:=0) h7 rfl rfl (ld_B (i:=0) h7 rfl rfl (ld_B (i:=0) h7 rfl rfl (ld_B (i:=0) h7 rfl rfl (ld_I (i:=0) h7 rfl rfl (ld_I (i:=0) h7 rfl rfl (ld_I (i:=0) h7 rfl rfl (ld_I (i:=0) h7 rfl rfl (ld_I (i:=0) h7 rfl rfl (ld_I (i:=0) h7 rfl rfl (ld_I (i:=0) h7 rfl rfl
   (ld_I (i:=1) h7 rfl rfl (hp hc A7 h7.tail.tail))))))))))))))
end Go.Dn
