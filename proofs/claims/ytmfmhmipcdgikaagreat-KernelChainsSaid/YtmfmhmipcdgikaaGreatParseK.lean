/- bootmap.Parse: a range over slices.Chunk, walked with the kit. -/
import Derived.Test.YtmfmhmipcdgikaaGreatParseD
import Derived.Test.YtmfmhmipcdgikaaGreatDnN
import Derived.RangeFuncBox
import Derived.RangeFuncLeaves
import Derived.RangeFuncCalls
import Derived.Shelf.Abstract
import Derived.WalkKit
import Derived.OwnWalkIn
import Derived.TacticsInMore
import Derived.LoopNIn
import Derived.LoopIn
import Derived.BigRegionIn
import Derived.Stop.RegionWithIn
import Derived.Sort.QuietIn
import Derived.Maps.AppendAt
import Derived.Test.YtmfmhmipcdgikaaGreatProg
namespace Go.Dn
open Go Go.RowKit Go.Shelf Go.Proofs
attribute [local go_sem] Oper.semAt_some
theorem aGN {n m:Nat} (h:n<=m):(256:Int) ^ n<=256 ^ m:=by
 have h1:(256:Nat) ^ n<=256 ^ m:=Nat.pow_le_pow_right (by omega) h;have h2:∀ k:Nat,((256 ^ k:Nat):Int)=(256:Int) ^ k:=λk=>by simp
 rw [<-h2,<- h2];omega
theorem nY:∀ (l:List Int),(∀ x ∈ l,0<=x/\x<256)->0<=fV l/\fV l<256 ^ l.length
 | [],_=>by simp [fV]
 | b::r,h=>by
  obtain ⟨h1,h2⟩:=h b (by simp);obtain ⟨h3,h4⟩:=nY r (λx hx=>h x (by simp [hx]));simp only [fV,List.length_cons];rw [Int.pow_succ];omega
set_option maxRecDepth 100000 in
set_option maxHeartbeats 2000000 in
theorem aAc (b o n c:Nat) (bs:List Int) (hn:bs.length=n) (h8:n<=8) (hb:∀ x ∈ bs,0<=x/\x<256) (W:World) (hc:∀ j,j<n->W.cell? ⟨b,o+j,none⟩=some (.int .u8 (bs[j]?.getD 0))) :
  Calls Tryz.prog 130 #[.slice (some ⟨b,o,none⟩) n c] W λe w'=>e = .returned (.int .u64 (fV bs))/\w'=W:=by
 go_enter Tryz.func130,Tryz.ntmps130
 go_wp2
 go_loopw [3,4] (λx i wr=>wr=W/\∃ k:Nat,k<=n/\x = .int .u64 (fV (bs.drop k))/\i = .int .i64 ((k:Int)-1))
  (λ_ i _=>(intOf i+1).toNat)
 case atStart=>exact ⟨rfl,n,Nat.le_refl _,by rw [List.drop_of_length_le (by omega)];rfl,rfl⟩
 case round=>
  obtain ⟨rfl,k,hk,rfl,rfl⟩:=hrel;by_cases h0:k=0
  ·subst h0
   go_wp2
   go_ret
   exact ⟨rfl,rfl⟩
  ·obtain ⟨k,rfl⟩:∃ m,k=m+1:=⟨k-1,by omega⟩;have hx:=hc k (by omega)
   go_wp2
   go_roundw
   case rel=>
    refine ⟨trivial,k,by omega,?_,by simp⟩;have hk:k<bs.length:=by omega
    have e1:bs.drop k=bs[k]::bs.drop (k+1):=List.drop_eq_getElem_cons hk;obtain ⟨h1,h2⟩:=hb bs[k] (List.getElem_mem hk);obtain ⟨h3,h4⟩:=nY (bs.drop (k+1)) (λx hx=>hb x (List.mem_of_mem_drop hx));have h5:(256:Int) ^ (bs.drop (k+1)).length<=256 ^ 7:=aGN (by simp;omega);rw [e1];have h6:=pK (x:=fV (bs.drop (k+1))) (b:=bs[k]) h3 (by omega) h1 h2;rw [show (2:Int) ^ (8:Nat)=256 from rfl] at h6;rw [show bs[k]?.getD 0=bs[k] by simp [hk],h6];rfl
   case measure=>simp [intOf]
def Kp2 (B1 B2:Nat) (W W':World):Prop:=W'.heap[B1]? = W.heap[B1]?/\W'.heap[B2]? = W.heap[B2]?
theorem Kp2.trans {B1 B2:Nat} {A B C:World} (h:Kp2 B1 B2 A B) (k:Kp2 B1 B2 B C):Kp2 B1 B2 A C:=⟨k.1.trans h.1,k.2.trans h.2⟩
def vE (b o:Nat) (i:Nat):Value:=.slice (some ⟨b,o+20*i,none⟩) 20 20
set_option maxRecDepth 100000 in
set_option maxHeartbeats 2000000 in
theorem aFm (n:Nat) (hn:1<=n) (l B1 B2 b o m c:Nat) (a:Option Addr) (ha:0<m->a=some ⟨b,o,none⟩) (hm:m<=64) (hc:20*m<=c) (J Jx:List Nat->World->Prop) (hJd:∀ s A q,J s A->J s (A.drewN q))
  (hY:∀ pre x W,J pre W->x<m->pre.length<m->YieldAt Fence.wide (n-1) Tryz.prog l #[vE b o x] W λe W'=>
   (e = .returned (.bool true)/\J (pre++[x]) W'/\Kp2 B1 B2 W W')\/(e = .returned (.bool false)/\Jx (pre++[x]) W'))
  (W:World) (hB1:W.cell? ⟨B1,0,none⟩=some (.slice a (20*m) c)) (hB2:W.cell? ⟨B2,0,none⟩=some (.int .i64 20)) (h0:J [] W) :
  CallsIn Fence.wide n Tryz.prog 178 #[.func (.yield l) #[] #[],.pointer (some ⟨B1,0,none⟩),.pointer (some ⟨B2,0,none⟩)] W λe W'=>(∃ v,e = .returned v)/\
   ((∃ ys,ys=jA m/\J ys W')\/(∃ pre,(∃ k,k<=m/\pre=jA k)/\Jx pre W')):=by
 refine callsIn_of_wp Tryz.func178 rfl trivial ?_ rfl;simp only [Tryz.ntmps178,List.size_toArray,List.length_cons,List.length_nil,Nat.reduceAdd,Nat.reduceSub,Array.replicate_succ,Array.replicate_zero,List.push_toArray,List.append_toArray,List.nil_append,List.cons_append]
 gi_wp2
 gi_loopw [4] (λi wr=>∃ k:Nat,k<=m/\i = .int .i64 (20*(k:Int))/\J (jA k) wr/\Kp2 B1 B2 W wr)
  (λi _=>20*m-(intOf i).toNat)
 case atStart=>exact ⟨0,Nat.zero_le _,rfl,h0,rfl,rfl⟩
 case round=>
  obtain ⟨k,hk,rfl,hJs,hnx⟩:=hrel;have hB1':=(World.cell?_of_block (a:=⟨B1,0,none⟩) hnx.1).trans hB1;have hB2':=(World.cell?_of_block (a:=⟨B2,0,none⟩) hnx.2).trans hB2;by_cases hlt:k<m
  ·obtain rfl:=ha (by omega);have hYk:=λq=>hY _ k (wr.drewN q) (hJd _ _ q hJs) hlt (by simp [jA];exact hlt);have e1:¬ c=20*k:=by omega
   have e2:(20:Int)<=((20*m-20*k:Nat):Int):=by omega
   have e3:(20*(k:Int)<20*(m:Int)):=by omega
   gi_wp2
   gi_quiet (fail)
   all_goals
    gi_wp2
    obtain ⟨fn,tmps,assign,body,hy,hR⟩:=hYk nq;unfold vE at hy;rw [show 20*k+20-20*k=20 by omega,hy];refine ⟨λ_=>hn,?_⟩;refine hR.mono ?_;rintro e W3 (⟨rfl,hJ3,hk3⟩ | ⟨rfl,hJx3⟩)
    ·have hk4:Kp2 B1 B2 wr W3:=hk3;have hB2'':=(World.cell?_of_block (a:=⟨B2,0,none⟩) hk4.2).trans hB2'
     gi_wp2
     go_roundw
     case rel=>exact ⟨k+1,by omega,by simp;omega,by rw [yR];exact hJ3,hnx.trans hk4⟩
     case measure=>simp [intOf];omega
    ·gi_wp2
     refine bodyPost_ret (results_none rfl _ _ _) rfl ?_;exact ⟨⟨_,rfl⟩,.inr ⟨_,⟨k+1,by omega,(yR _).symm⟩,hJx3⟩⟩
  ·obtain rfl:k=m:=by omega
   gi_wp2
   go_end0
   exact ⟨⟨_,rfl⟩,.inl ⟨_,rfl,hJs⟩⟩
set_option maxHeartbeats 1000000 in
theorem aF8 (n:Nat) (a:Option Addr) (m c:Nat) (w:World) :
  CallsIn Fence.wide n Tryz.prog 129 #[.slice a m c,.int .i64 20] w λe w'=>e = .returned (.func (.func 178) #[] #[.pointer (some ⟨w.heap.size,0,none⟩),.pointer (some ⟨w.heap.size+1,0,none⟩)])/\w'=(w.alloc (.cells #[.slice a m c] 31)).alloc (.cells #[.int .i64 20] 3):=by
 refine callsIn_of_wp Tryz.func129 rfl trivial ?_ rfl;simp only [Tryz.ntmps129,List.size_toArray,List.length_cons,List.length_nil,Nat.reduceAdd,Nat.reduceSub,Array.replicate_succ,Array.replicate_zero,List.push_toArray,List.append_toArray,List.nil_append,List.cons_append]
 gi_wp2
 go_ret
 exact ⟨rfl,rfl⟩
theorem aA0 (n:Nat) (hn:1<=n) (B1 B2 b o m c:Nat) (a:Option Addr) (ha:0<m->a=some ⟨b,o,none⟩) (hm:m<=64) (hc:20*m<=c) (w:World) (h1:B1<w.heap.size) (h2:B2<w.heap.size)
  (hB1:w.cell? ⟨B1,0,none⟩=some (.slice a (20*m) c)) (hB2:w.cell? ⟨B2,0,none⟩=some (.int .i64 20)) :
  SeqStopsK Fence.wide n Tryz.prog 178 #[.pointer (some ⟨B1,0,none⟩),.pointer (some ⟨B2,0,none⟩)] (λk:Fin m=>#[vE b o k.val]) (Kp2 B1 B2) (λys=>ys.map (·.val)=jA m) (λpre=>True) m w:=λl J Jx W hW hJ _ hY h0=>by
 refine (aFm n hn l B1 B2 b o m c a ha hm hc (λs W=>∃ s':List (Fin m),s'.map (·.val)=s/\J s' W) (λs W=>∃ s':List (Fin m),s'.map (·.val)=s/\Jx s' W)
  (λs A q ⟨s',hs',hs⟩=>⟨s',hs',hJ s' A _ none hs ⟨rfl,rfl,rfl,Nat.le_refl _,λ_ _ _=>rfl⟩ (λr e=>by cases e)⟩) (λpre x W1 ⟨s',hs',hs⟩ hx hlen=>?_) W
  ((hW.cell (p:=⟨B1,0,none⟩) h1).trans hB1) ((hW.cell (p:=⟨B2,0,none⟩) h2).trans hB2) ⟨[],rfl,h0⟩).mono ?_
 ·subst hs';obtain ⟨fn,tmps,assign,body,hy,hR⟩:=hY s' ⟨x,hx⟩ W1 hs (by simpa using hlen);refine ⟨fn,tmps,assign,body,hy,hR.mono ?_⟩;rintro e W' (⟨rfl,h3,h4⟩ | ⟨rfl,h3⟩)
  ·exact .inl ⟨rfl,⟨_,by simp,h3⟩,h4⟩
  ·exact .inr ⟨rfl,⟨_,by simp,h3⟩⟩
 ·rintro e W' ⟨hv,⟨ys,rfl,s',h3,h4⟩ | ⟨pre,_,s',_,h4⟩⟩
  ·exact ⟨hv,.inl ⟨s',h3,h4⟩⟩
  ·exact ⟨hv,.inr ⟨s',trivial,h4⟩⟩
theorem eF {F:Fence} {n:Nat} {P:Program} {md:Region.Mode} {ops:Array Oper} {Q:Exit->Act->World->Prop} (l:Nat) (hro:F.round=none) (hd:∀ (i:Nat) (o:Oper),ops[i]? = some o->∀ c,o.op≠.defer c) :
  ∀ (fuel:Nat) (listed:Array Bool) (a:Act) (w:World),wpAnyIn F n P md ops Q fuel listed a w->wpAnyIn (F.inRound l) n P md ops Q fuel listed a w
 | 0,_,_,_,h=>h
 | fuel+1,listed,a,w,h=>⟨h.1,λi hi=>by
  have h1:=h.2 i hi;unfold wpOpIn at h1 ⊢;split
  ·rename_i ho;simp only [ho] at h1;exact eF l hro hd fuel _ _ _ h1
  ·rename_i o ho;simp only [ho] at h1;split
   ·rename_i hw;rw [if_pos hw] at h1;have h2:=Oper.wpIn_mono (λa w h=>eF l hro hd fuel _ a w h) h1;unfold Oper.wpIn at h2 ⊢;rw [Oper.semAt_eq _ _ _ (hd i o ho)] at h2 ⊢;exact h2
   ·rename_i hw;rw [if_neg hw] at h1;exact ⟨h1.1,eF l hro hd fuel _ _ _ h1.2⟩⟩
def aDM (ops:Array Oper):Bool:=ops.toList.all λo=>match o.op with
 | .defer _=>false
 | _=>true
theorem aB7 {ops:Array Oper} (h:aDM ops=true) (i:Nat) (o:Oper) (hi:ops[i]? = some o) (c:Call):o.op≠.defer c:=λe=>by
 have hm:o ∈ ops.toList:=Array.mem_toList_iff.2 (Array.mem_of_getElem? hi);have:=List.all_eq_true.1 h o hm;rw [e] at this;cases this
theorem aAl {n:Nat} {P:Program} {id:Nat} {ops:Array Oper} {Q:Exit->Act->World->Prop} {l:Nat} {a:Act} {w:World} (hm:P.follows .mixedOrders=true) (hd:aDM ops=true)
  (h:wpAnyIn Fence.wide n P .any ops Q ops.size (Array.replicate ops.size false) a w.drew):(Code.region id ops true).wpIn (Fence.wide.inRound l) n P Q a w:=
 wpIn_region_any hm (eF l rfl (aB7 hd) _ _ _ _ h)
end Go.Dn
