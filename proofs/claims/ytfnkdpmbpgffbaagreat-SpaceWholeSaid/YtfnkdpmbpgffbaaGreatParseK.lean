/- bootmap.Parse: a range over slices.Chunk, walked with the kit. -/
import Derived.Test.YtfnkdpmbpgffbaaGreatParseD
import Derived.Test.YtfnkdpmbpgffbaaGreatDnN
import Derived.RangeFuncBox
import Derived.RangeFuncLeaves
import Derived.RangeFuncCalls
import Derived.Shelf.Abstract
import Derived.WalkKit
import Derived.OwnWalkIn
import Derived.TacticsInMore
import Derived.LoopNIn
import Derived.LoopIn
import Derived.BigRegionIn
import Derived.Stop.RegionWithIn
import Derived.Sort.QuietIn
import Derived.Maps.AppendAt
import Derived.Test.YtfnkdpmbpgffbaaGreatProg
namespace Go.Dn
open Go Go.RowKit Go.Shelf Go.Proofs
attribute [local go_sem] Oper.semAt_some
theorem aHv {n m:Nat} (h:n<=m):(256:Int) ^ n<=256 ^ m:=by
 have b:(256:Nat) ^ n<=256 ^ m:=Nat.pow_le_pow_right (by omega) h;have a:∀ k:Nat,((256 ^ k:Nat):Int)=(256:Int) ^ k:=λk=>by simp
 rw [<-a,<- a];omega
theorem pE:∀ (l:List Int),(∀ x ∈ l,0<=x/\x<256)->0<=mG l/\mG l<256 ^ l.length
 | [],_=>by simp [mG]
 | b::r,h=>by
  obtain ⟨c,d⟩:=h b (by simp);obtain ⟨e,f⟩:=pE r (λx a=>h x (by simp [a]));simp only [mG,List.length_cons];rw [Int.pow_succ];omega
set_option maxRecDepth 100000 in
set_option maxHeartbeats 2000000 in
theorem aBt (b o n c:Nat) (a:List Int) (u:a.length=n) (v:n<=8) (f:∀ x ∈ a,0<=x/\x<256) (W:World) (l:∀ j,j<n->W.cell? ⟨b,o+j,none⟩=some (.int .u8 (a[j]?.getD 0))) :
  Calls Tryz.prog 167 #[.slice (some ⟨b,o,none⟩) n c] W λe w'=>e = .returned (.int .u64 (mG a))/\w'=W:=by
 go_enter Tryz.func167,Tryz.ntmps167
 go_wp2
 go_loopw [3,4] (λx i p=>p=W/\∃ k:Nat,k<=n/\x = .int .u64 (mG (a.drop k))/\i = .int .i64 ((k:Int)-1))
  (λ_ i _=>(intOf i+1).toNat)
 case atStart=>exact ⟨rfl,n,Nat.le_refl _,by rw [List.drop_of_length_le (by omega)];rfl,rfl⟩
 case round=>
  obtain ⟨rfl,k,d,rfl,rfl⟩:=hrel;by_cases q:k=0
  .subst q
   go_wp2
   go_ret
   exact ⟨rfl,rfl⟩
  .obtain ⟨k,rfl⟩:∃ m,k=m+1:=⟨k-1,by omega⟩;have g:=l k (by omega)
   go_wp2
   go_roundw
   case rel=>
    refine ⟨trivial,k,by omega,?_,by simp⟩;have d:k<a.length:=by omega
    have e1:a.drop k=a[k]::a.drop (k+1):=List.drop_eq_getElem_cons d;obtain ⟨r,s⟩:=f a[k] (List.getElem_mem d);obtain ⟨t,w⟩:=pE (a.drop (k+1)) (λx g=>f x (List.mem_of_mem_drop g));have y:(256:Int) ^ (a.drop (k+1)).length<=256 ^ 7:=aHv (by simp;omega);rw [e1];have h:=sD (x:=mG (a.drop (k+1))) (b:=a[k]) t (by omega) r s;rw [show (2:Int) ^ (8:Nat)=256 from rfl] at h;rw [show a[k]?.getD 0=a[k] by simp [d],h];rfl
   case measure=>simp [intOf]
def Kp2 (B1 B2:Nat) (W W':World):Prop:=W'.heap[B1]? = W.heap[B1]?/\W'.heap[B2]? = W.heap[B2]?
theorem Kp2.trans {a b:Nat} {A B C:World} (h:Kp2 a b A B) (k:Kp2 a b B C):Kp2 a b A C:=⟨k.1.trans h.1,k.2.trans h.2⟩
def wZ (b o:Nat) (i:Nat):Value:=.slice (some ⟨b,o+20*i,none⟩) 20 20
set_option maxRecDepth 100000 in
set_option maxHeartbeats 2000000 in
theorem aFW (n:Nat) (hn:1<=n) (l B1 B2 b o m c:Nat) (a:Option Addr) (ha:0<m->a=some ⟨b,o,none⟩) (hm:m<=64) (hc:20*m<=c) (J Jx:List Nat->World->Prop) (hJd:∀ s A q,J s A->J s (A.drewN q))
  (hY:∀ pre x W,J pre W->x<m->pre.length<m->YieldAt Fence.wide (n-1) Tryz.prog l #[wZ b o x] W λe W'=>
   (e = .returned (.bool true)/\J (pre++[x]) W'/\Kp2 B1 B2 W W')\/(e = .returned (.bool false)/\Jx (pre++[x]) W'))
  (W:World) (hB1:W.cell? ⟨B1,0,none⟩=some (.slice a (20*m) c)) (hB2:W.cell? ⟨B2,0,none⟩=some (.int .i64 20)) (h0:J [] W) :
  CallsIn Fence.wide n Tryz.prog 190 #[.func (.yield l) #[] #[],.pointer (some ⟨B1,0,none⟩),.pointer (some ⟨B2,0,none⟩)] W λe W'=>(∃ v,e = .returned v)/\
   ((∃ ys,ys=lA m/\J ys W')\/(∃ pre,(∃ k,k<=m/\pre=lA k)/\Jx pre W')):=by
 refine callsIn_of_wp Tryz.func190 rfl trivial ?_ rfl;simp only [Tryz.ntmps190,List.size_toArray,List.length_cons,List.length_nil,Nat.reduceAdd,Nat.reduceSub,Array.replicate_succ,Array.replicate_zero,List.push_toArray,List.append_toArray,List.nil_append,List.cons_append]
 gi_wp2
 gi_loopw [4] (λi wr=>∃ k:Nat,k<=m/\i = .int .i64 (20*(k:Int))/\J (lA k) wr/\Kp2 B1 B2 W wr)
  (λi _=>20*m-(intOf i).toNat)
 case atStart=>exact ⟨0,Nat.zero_le _,rfl,h0,rfl,rfl⟩
 case round=>
  obtain ⟨k,hk,rfl,hJs,hnx⟩:=hrel;have hB1':=(World.cell?_of_block (a:=⟨B1,0,none⟩) hnx.1).trans hB1;have hB2':=(World.cell?_of_block (a:=⟨B2,0,none⟩) hnx.2).trans hB2;by_cases hlt:k<m
  ·obtain rfl:=ha (by omega);have hYk:=λq=>hY _ k (wr.drewN q) (hJd _ _ q hJs) hlt (by simp [lA];exact hlt);have e1:¬ c=20*k:=by omega
   have e2:(20:Int)<=((20*m-20*k:Nat):Int):=by omega
   have e3:(20*(k:Int)<20*(m:Int)):=by omega
   gi_wp2
   gi_quiet (fail)
   all_goals
    gi_wp2
    obtain ⟨fn,tmps,assign,body,hy,hR⟩:=hYk nq;unfold wZ at hy;rw [show 20*k+20-20*k=20 by omega,hy];refine ⟨λ_=>hn,?_⟩;refine hR.mono ?_;rintro e W3 (⟨rfl,hJ3,hk3⟩ | ⟨rfl,hJx3⟩)
    ·have hk4:Kp2 B1 B2 wr W3:=hk3;have hB2'':=(World.cell?_of_block (a:=⟨B2,0,none⟩) hk4.2).trans hB2'
     gi_wp2
     go_roundw
     case rel=>exact ⟨k+1,by omega,by simp;omega,by rw [aAh];exact hJ3,hnx.trans hk4⟩
     case measure=>simp [intOf];omega
    ·gi_wp2
     refine bodyPost_ret (results_none rfl _ _ _) rfl ?_;exact ⟨⟨_,rfl⟩,.inr ⟨_,⟨k+1,by omega,(aAh _).symm⟩,hJx3⟩⟩
  ·obtain rfl:k=m:=by omega
   gi_wp2
   go_end0
   exact ⟨⟨_,rfl⟩,.inl ⟨_,rfl,hJs⟩⟩
set_option maxHeartbeats 1000000 in
theorem aHU (n:Nat) (a:Option Addr) (m c:Nat) (w:World) :
  CallsIn Fence.wide n Tryz.prog 166 #[.slice a m c,.int .i64 20] w λe w'=>e = .returned (.func (.func 190) #[] #[.pointer (some ⟨w.heap.size,0,none⟩),.pointer (some ⟨w.heap.size+1,0,none⟩)])/\w'=(w.alloc (.cells #[.slice a m c] 85)).alloc (.cells #[.int .i64 20] 3):=by
 refine callsIn_of_wp Tryz.func166 rfl trivial ?_ rfl;simp only [Tryz.ntmps166,List.size_toArray,List.length_cons,List.length_nil,Nat.reduceAdd,Nat.reduceSub,Array.replicate_succ,Array.replicate_zero,List.push_toArray,List.append_toArray,List.nil_append,List.cons_append]
 gi_wp2
 go_ret
 exact ⟨rfl,rfl⟩
theorem aC0 (n:Nat) (hn:1<=n) (B1 B2 b o m c:Nat) (a:Option Addr) (ha:0<m->a=some ⟨b,o,none⟩) (hm:m<=64) (hc:20*m<=c) (w:World) (h1:B1<w.heap.size) (h2:B2<w.heap.size)
  (hB1:w.cell? ⟨B1,0,none⟩=some (.slice a (20*m) c)) (hB2:w.cell? ⟨B2,0,none⟩=some (.int .i64 20)) :
  SeqStopsK Fence.wide n Tryz.prog 190 #[.pointer (some ⟨B1,0,none⟩),.pointer (some ⟨B2,0,none⟩)] (λk:Fin m=>#[wZ b o k.val]) (Kp2 B1 B2) (λys=>ys.map (·.val)=lA m) (λpre=>True) m w:=λl J Jx W hW hJ _ hY h0=>by
 refine (aFW n hn l B1 B2 b o m c a ha hm hc (λs W=>∃ s':List (Fin m),s'.map (·.val)=s/\J s' W) (λs W=>∃ s':List (Fin m),s'.map (·.val)=s/\Jx s' W)
  (λs A q ⟨s',hs',hs⟩=>⟨s',hs',hJ s' A _ none hs ⟨rfl,rfl,rfl,Nat.le_refl _,λ_ _ _=>rfl⟩ (λr e=>by cases e)⟩) (λpre x W1 ⟨s',hs',hs⟩ hx hlen=>?_) W
  ((hW.cell (p:=⟨B1,0,none⟩) h1).trans hB1) ((hW.cell (p:=⟨B2,0,none⟩) h2).trans hB2) ⟨[],rfl,h0⟩).mono ?_
 ·subst hs';obtain ⟨fn,tmps,assign,body,hy,hR⟩:=hY s' ⟨x,hx⟩ W1 hs (by simpa using hlen);refine ⟨fn,tmps,assign,body,hy,hR.mono ?_⟩;rintro e W' (⟨rfl,h3,h4⟩ | ⟨rfl,h3⟩)
  ·exact .inl ⟨rfl,⟨_,by simp,h3⟩,h4⟩
  ·exact .inr ⟨rfl,⟨_,by simp,h3⟩⟩
 ·rintro e W' ⟨hv,⟨ys,rfl,s',h3,h4⟩ | ⟨pre,_,s',_,h4⟩⟩
  ·exact ⟨hv,.inl ⟨s',h3,h4⟩⟩
  ·exact ⟨hv,.inr ⟨s',trivial,h4⟩⟩
theorem eS {F:Fence} {n:Nat} {P:Program} {m:Region.Mode} {ops:Array Oper} {Q:Exit->Act->World->Prop} (l:Nat) (e:F.round=none) (f:∀ (i:Nat) (o:Oper),ops[i]? = some o->∀ c,o.op≠.defer c) :
  ∀ (fuel:Nat) (b:Array Bool) (a:Act) (w:World),wpAnyIn F n P m ops Q fuel b a w->wpAnyIn (F.inRound l) n P m ops Q fuel b a w
 | 0,_,_,_,h=>h
 | fuel+1,b,a,w,h=>⟨h.1,λi hi=>by
  have d:=h.2 i hi;unfold wpOpIn at d ⊢;split
  .rename_i g;simp only [g] at d;exact eS l e f fuel _ _ _ d
  .rename_i o g;simp only [g] at d;split
   .rename_i j;rw [if_pos j] at d;have k:=Oper.wpIn_mono (λa w h=>eS l e f fuel _ a w h) d;unfold Oper.wpIn at k ⊢;rw [Oper.semAt_eq _ _ _ (f i o g)] at k ⊢;exact k
   .rename_i j;rw [if_neg j] at d;exact ⟨d.1,eS l e f fuel _ _ _ d.2⟩⟩
def aE7 (ops:Array Oper):Bool:=ops.toList.all λo=>match o.op with
 | .defer _=>false
 | _=>true
theorem aEi {ops:Array Oper} (h:aE7 ops=true) (i:Nat) (o:Oper) (hi:ops[i]? = some o) (c:Call):o.op≠.defer c:=λe=>by
 have a:o ∈ ops.toList:=Array.mem_toList_iff.2 (Array.mem_of_getElem? hi);have:=List.all_eq_true.1 h o a;rw [e] at this;cases this
theorem aBl {n:Nat} {P:Program} {id:Nat} {ops:Array Oper} {Q:Exit->Act->World->Prop} {l:Nat} {a:Act} {w:World} (b:P.follows .mixedOrders=true) (c:aE7 ops=true)
  (h:wpAnyIn Fence.wide n P .any ops Q ops.size (Array.replicate ops.size false) a w.drew):(Code.region id ops true).wpIn (Fence.wide.inRound l) n P Q a w:=
 wpIn_region_any b (eS l rfl (aEi c) _ _ _ _ h)
end Go.Dn
