/- What the proof stands on. -/
import Derived.Test.YtmfmhmipcdgikaaGreatFlat
import Derived.Test.YtmfmhmipcdgikaaGreatAwE
namespace Go.Dn
variable {A:AH} {l R:List SP} {P:SP} {N:Int} {K K':Ke} {par q:Int} {box:Nat} {d:Nd} {n m:Nat}
theorem aFF (hK:KeOK K) (hd:K.M.ns[box]? = some d) (hl:d.live=true) (hlen:K.M.ns.length<64) (hq:0<=q) (hr:d.room<q\/q=0) (hf:freeP K.ps<16) (hd0:0<=d.room) :
  ∃ M',cQ K par box q=({ K with M:=M' },0,8)/\M'.ns[box]? = some d/\M'.ns.length<=K.M.ns.length+1:=by
 unfold cQ;rw [if_neg (by omega)];by_cases c:d.room<q
 ·have hE:kidE K.M.ns d q=8:=by unfold kidE;rw [if_neg (by omega),if_pos (by omega)]
  have e:kidM K.M box q=(K.M,0,8):=by
   unfold kidM;rw [hd];simp only;rw [if_pos (by rw [hE];decide),hE]
  rw [e];exact ⟨K.M,by simp,hd,by omega⟩
 ·have q0:q=0:=by omega
  subst q0;have hE:kidE K.M.ns d 0=0:=by unfold kidE;rw [if_neg (by omega),if_neg (by omega),if_neg (by omega)]
  obtain ⟨j,j1,j2,j3,j4,j5,j6⟩:=jQ (q:=0) hd hl
  have e:kidM K.M box 0=(nsM K.M (kidN K.M.ns box d 0).1,j,0):=by
   unfold kidM;rw [hd];simp only;rw [if_neg (by rw [hE];decide),j1]
  have hro:eF (kidN K.M.ns box d 0).1 j=0:=by unfold eF;rw [j4];rfl
  have hf2:findS (nsM K.M (kidN K.M.ns box d 0).1) K.nsp=none:=by
   unfold findS;rw [List.find?_eq_none];intro s hs;have:=hK.old s hs;simp;omega
  have e2:openM (nsM K.M (kidN K.M.ns box d 0).1) K.nsp j=(nsM K.M (kidN K.M.ns box d 0).1,8):=by
   unfold openM;have:=hK.nsp;rw [if_neg (by omega),if_neg (by rw [hf2];simp),if_pos (by show eF (kidN K.M.ns box d 0).1 j<1;rw [hro];omega)]
  rw [e];simp only;rw [e2]
  have hlk:(kidN K.M.ns box d 0).1.length<=K.M.ns.length+1:=by
   unfold kidN;split
   ·simp
   ·simp
  have hb5:(kidN K.M.ns box d 0).1[box]? = some d:=by rw [j5,Int.add_zero]
  refine ⟨(finM (nsM K.M (kidN K.M.ns box d 0).1) j).1,by simp,?_,?_⟩
  ·unfold finM;show ((match (kidN K.M.ns box d 0).1[j]? with | none=>_ | some d'=>_:Mm × Int)).1.ns[box]? = _
   rw [j4];simp only;split
   ·show (j8 (kidN K.M.ns box d 0).1 j ⟨box,0,0,0,true⟩)[box]? = some d;unfold j8;simp only [Int.toNat_natCast];rw [hb5];simp only;have hbl:box<(kidN K.M.ns box d 0).1.length:=(List.getElem?_eq_some_iff.1 hb5).1;rw [List.getElem?_set,if_neg j2,List.getElem?_set,if_pos rfl,if_pos hbl,Int.sub_zero]
   ·exact hb5
  ·unfold finM;show ((match (kidN K.M.ns box d 0).1[j]? with | none=>_ | some d'=>_:Mm × Int)).1.ns.length<=_
   rw [j4];simp only;split
   ·show (j8 (kidN K.M.ns box d 0).1 j ⟨box,0,0,0,true⟩).length<=_;unfold j8;split
    ·rw [List.length_set,List.length_set];exact hlk
    ·exact hlk
   ·exact hlk
theorem aEz (hK:KeOK K) (hd:K.M.ns[box]? = some d) (hl:d.live=true) (hlen:K.M.ns.length<64) (hq:1<=q) (hr:q<=d.room) (hf:freeP K.ps<16) :
  ∃ M' j,cQ K par box q=(({ K with M:=M',ps:=K.ps++[(⟨freeP K.ps,j,K.nsp,par,ts0⟩:KP)],line:=K.line++[(freeP K.ps:Int)],nsp:=K.nsp+1 }:Ke),(freeP K.ps:Int),0)/\j≠box/\M'.ns[box]? = some { d with lent:=d.lent+q }/\M'.ns[j]? = some ⟨box,q,1,0,true⟩/\M'.ns.length<=K.M.ns.length+1/\
   (∀ i,i≠box->i≠j->M'.ns[i]? = K.M.ns[i]?)/\M'.sps=insS K.M.sps (newS K.nsp j)/\M'.keys=K.M.keys/\M'.wd=K.M.wd:=by
 unfold cQ;rw [if_neg (by omega)];have hE:kidE K.M.ns d q=0:=by unfold kidE;rw [if_neg (by omega),if_neg (by omega),if_neg (by omega)]
 obtain ⟨j,j1,j2,j3,j4,j5,j6⟩:=jQ (q:=q) hd hl
 have e:kidM K.M box q=(nsM K.M (kidN K.M.ns box d q).1,j,0):=by
  unfold kidM;rw [hd];simp only;rw [if_neg (by rw [hE];decide),j1]
 have hro:eF (kidN K.M.ns box d q).1 j=q:=by unfold eF;rw [j4];unfold Nd.room;simp
 have hf2:findS (nsM K.M (kidN K.M.ns box d q).1) K.nsp=none:=by
  unfold findS;rw [List.find?_eq_none];intro s hs;have:=hK.old s hs;simp;omega
 have e2:openM (nsM K.M (kidN K.M.ns box d q).1) K.nsp j=({ nsM K.M (kidN K.M.ns box d q).1 with sps:=insS K.M.sps (newS K.nsp j),ns:=addU (kidN K.M.ns box d q).1 j 1 },0):=by
  unfold openM;have:=hK.nsp;rw [if_neg (by omega),if_neg (by rw [hf2];simp),if_neg (by show ¬ eF (kidN K.M.ns box d q).1 j<1;rw [hro];omega)];rfl
 rw [e];simp only;rw [e2]
 have hlk:(kidN K.M.ns box d q).1.length<=K.M.ns.length+1:=by
  unfold kidN;split
  ·simp
  ·simp
 refine ⟨{ nsM K.M (kidN K.M.ns box d q).1 with sps:=insS K.M.sps (newS K.nsp j),ns:=addU (kidN K.M.ns box d q).1 j 1 },j,by simp,j2,?_,?_,?_,λi hi hij=>?_,rfl,rfl,rfl⟩
 ·show (addU (kidN K.M.ns box d q).1 j 1)[box]? = _;rw [eN,j5];simp [j2]
 ·show (addU (kidN K.M.ns box d q).1 j 1)[j]? = _;rw [eN,j4];simp
 ·show (addU (kidN K.M.ns box d q).1 j 1).length<=_;rw [aAb];exact hlk
 ·show (addU (kidN K.M.ns box d q).1 j 1)[i]? = _;rw [eN,j6 i hi hij];cases K.M.ns[i]? with
  | none=>rfl
  | some z=>simp only [Option.map_some];rw [if_neg (λw=>hij w.symm)]
theorem aDw (hf:16<=freeP K.ps):cQ K par box q=(K,0,4):=by unfold cQ;rw [if_pos hf]
theorem zY {ps:List KP} (h:ps.map (·.pid)=(List.range n).map λi:Nat=>(i:Int)) (hn:n<=16):freeP ps=n:=by
 have any:∀ v:Nat,ps.any (λp=>p.pid==(v:Int))=decide (v<n):=λv=>by
  have e:ps.any (λp=>p.pid==(v:Int))=(ps.map (·.pid)).contains (v:Int):=by
   rw [Bool.eq_iff_iff,List.any_eq_true,List.contains_iff_mem,List.mem_map];simp
  rw [e,h,Bool.eq_iff_iff,List.contains_iff_mem,List.mem_map,decide_eq_true_eq];constructor
  ·rintro ⟨i,hi,e⟩;have:=List.mem_range.1 hi;omega
  ·intro hv;exact ⟨v,List.mem_range.2 hv,rfl⟩
 exact aAz (λu hu=>by rw [any];simpa using hu) (by rw [any];simp) hn
structure kR (N:Int) (K:Ke) (n i:Nat) (left:Int):Prop where
 ok:KeOK K
 pids:K.ps.map (·.pid)=(List.range (n+1)).map λi:Nat=>(i:Int)
 p0:∃ r,K.ps=⟨0,1,0,0,ts0⟩::r
 line:∃ r,K.line=0::r
 len:K.line.length=n+1
 n16:n<=15
 nd:∃ d,K.M.ns[1]? = some d/\d.live=true/\d.room=left
 ns:K.M.ns.length<=i+2
 nsp:K.nsp<=i+1
 lo:0<=left/\left<=N
theorem kR.kGet0 {x:Kx} {left:Int} {i:Nat} {Q:Int->Int->Int->Int->Int->Int->Bool->Int->Int->Int->Int->Int->Int->Int->Int->Int->Int->Int->Bool->AH->Prop} (h:Own (KerS x K::R) A) (hB:kR N K n i left)
  (hk:∀ n0 n1 n2 n3 n4 n5 b6 n7 n8 n9 n10 n11 n12 n13 n14 n15 n17,Q n0 n1 n2 n3 n4 n5 b6 n7 n8 n9 n10 n11 n12 n13 n14 n15 left n17 true A):qfh_A (some ⟨x.kb,0,none⟩) 0 Q A:=by
 obtain ⟨r,hr⟩:=hB.p0;obtain ⟨d,d1,d2,d3⟩:=hB.nd;have hp:findP K 0=some ⟨0,1,0,0,ts0⟩:=by unfold findP;rw [hr];rfl
 refine aLK h hB.ok hp d1 ?_;rw [d3];exact hk _ _ _ _ _ _ _ _ _ _ _ _ _ _ _ _ _
theorem aDn {q:Int} (h1:q<=1048576):fQ 12 q 0 0 0 0=some { op:=12,id:=q }:=by
 show (if decide (q<=1048576) then jP { op:=12,id:=q } [0,0,0,0] else none)=_;rw [if_pos (by simpa using h1)];rfl
theorem kR.same {left:Int} {i:Nat} (hB:kR N K n i left):kR N K n (i+1) left:=⟨hB.ok,hB.pids,hB.p0,hB.line,hB.len,hB.n16,hB.nd,by have:=hB.ns;omega,by have:=hB.nsp;omega,hB.lo⟩
set_option maxRecDepth 20000 in
theorem pC {k:Nat} {s:Sl} {may:List Int} {Q:Bool->AH->Prop} (h:Own l A) (e:l[k]? = some P) (hr:bF P s 1 (fX may)) (hcap:s.len<=s.cap) (hbig:may.length<9223372036854775808) (_hn:s.a=none->may=[]) (hk:∀ A',Own l A'->Q true A'):qfk_A N s Q A:=by
 have hl:s.len=may.length:=fA h e hr;unfold qfk_A qfk_G;refine ⟨λA'=>A'=A/\20<=N/\N<=150,λA0 ⟨e0,g1,g2⟩=>?_,bsel_in (λ_=>aBZ h hk) λc1=>bsel_in (λ_=>aBZ h hk) λc2=>⟨rfl,by have:=of_decide_eq_false c1;omega,by have:=of_decide_eq_false c2;omega⟩⟩;subst e0;refine aEU (k:=0) (ch:=[]) (uC h) rfl dI (λ_=>rfl) (by omega) (Nat.le_refl _) λs5 s7 A1 hs5 hs7 h1=>?_;refine aFq h1 hs5 hs7 (by simp) (by omega) (by omega) (by omega) λx A2 hq hN hK h2=>?_;refine ⟨λA'=>Own (KerS x (k1K N)::SlO Sl.nil 1 (fX [])::l) A',λA3 h3=>?_,bsel_f rfl (bsel_f rfl h2)⟩;have hB0:kR N (k1K N) 0 0 (N-4):=⟨hK,rfl,⟨[],rfl⟩,⟨[],rfl⟩,rfl,by omega,⟨_,rfl,rfl,by show N-3-1-0=N-4;omega⟩,by simp [k1K,k1M],by simp [k1K],by omega,by omega⟩;refine hB0.kGet0 h3 λ_ _ _ _ _ _ _ _ _ _ _ _ _ _ _ _ _=>?_;refine ⟨λx44 x45 x46 m A'=>∃ (i n:Nat) (left:Int) (K:Ke),x46=i/\x45=n/\left=x44/\m+i=may.length/\i<=30/\kR N K n i left/\Own (KerS x K::SlO Sl.nil 1 (fX [])::l) A',⟨may.length,0,0,N-4,k1K N,rfl,rfl,rfl,rfl,by omega,hB0,h3⟩,?_⟩;intro x44 x45 x46 m A4 ⟨i,n,left,K,e1,e2,e3,e4,e5,hB,h4⟩;subst e1 e2 e3
 have fin:qfh_A (some ⟨x.kb,0,none⟩) 0 (λ_ _ _ _ _ _ _ _ _ _ _ _ _ _ _ _ n64 _ _ h67=>qff_A (λb68 h69=>bsel b68 (bsel (n64==left) (qfj_A (some ⟨x.kb,0,none⟩) (λs70 h71=>Q ((Int.ofNat s70.len)==(IntKind.wrap .i64 ((n:Int)+(1:Int)))) h71) h69) (Q false h69)) (Q false h69)) h67) A4:=by
  refine hB.kGet0 h4 λ_ _ _ _ _ _ _ _ _ _ _ _ _ _ _ _ _=>?_;refine aBZ h4 λA5 h5=>aL rfl (aL (by simp) ?_);refine aKI h5 hB.ok λs' A6 _ h6=>?_;have hl6:s'.len=K.line.length:=fA (k:=0) h6 rfl dI;have:=hB.n16;have hw:IntKind.wrap .i64 ((n:Int)+1)=n+1:=bK (by omega) (by omega)
  have hb:((Int.ofNat s'.len)==(IntKind.wrap .i64 ((n:Int)+1)))=true:=by
   rw [hw,hl6,hB.len];simp
  rw [hb];exact hk A6 h6.tail.tail.tail
 refine ⟨λA'=>A'=A4/\i<may.length/\i<30,λA5 ⟨e5',c1,c2⟩=>?_,?_⟩
 rotate_left
 ·refine bsel_in (λc=>bsel_in (λc2=>⟨rfl,?_,?_⟩) λ_=>fin) λ_=>fin
  ·have:=of_decide_eq_true c;have e:(Int.ofNat s.len)=(s.len:Int):=rfl;omega
  ·have:=of_decide_eq_true c2;omega
 subst e5';obtain ⟨z,hz⟩:∃ z,may[i]? = some z:=⟨may[i]'c1,by simp⟩
 have rd:∀ {A':AH} {L':List SP} {k':Nat} {K0:Int->Prop},Own L' A'->L'[k']? = some P->K0 z->aF s.a λa=>bJ (i:Int) s.len (aI .i64 (Addr.add a ((i:Int).toNat*1)) A' K0):=λ{A' L' k' K0} h' e' hK0=>by
  obtain ⟨a,q1,q2⟩:=aE5 h' e' hr hz;rw [q1];refine inB_in (by omega) (by omega) ?_;simp only [Int.toNat_natCast,Nat.mul_one];exact q2 _ hK0
 have e4k:(KerS x K::SlO Sl.nil 1 (fX [])::l)[k+2]? = some P:=by simpa using e
 have nxt:∀ (n':Nat) (left':Int) (K':Ke) A',kR N K' n' (i+1) left'->Own (KerS x K'::SlO Sl.nil 1 (fX [])::l) A'->∃ m42,m42<m/\∃ (i2 n2:Nat) (left2:Int) (K2:Ke),IntKind.wrap .i64 ((i:Int)+1)=i2/\((n':Int))=n2/\left2=left'/\m42+i2=may.length/\i2<=30/\kR N K2 n2 i2 left2/\Own (KerS x K2::SlO Sl.nil 1 (fX [])::l) A':=λn' left' K' A' hB' h'=>
  ⟨m-1,by omega,i+1,n',left',K',by rw [bK]<;>omega,rfl,rfl,by omega,by omega,hB',h'⟩
 refine ⟨λx119 x120 A'=>∃ (n':Nat) (left':Int) (K':Ke),left'=x119/\x120=n'/\kR N K' n' (i+1) left'/\Own (KerS x K'::SlO Sl.nil 1 (fX [])::l) A',λx119 x120 A6 ⟨n',left',K',f1,f2,f3,f4⟩=>by subst f1 f2;exact nxt n' left' K' A6 f3 f4,?_⟩;refine ⟨λA'=>A'=A5/\0<=z/\z<=1048576,λA6 ⟨e6,z0,z1⟩=>?_,?_⟩
 rotate_left
 ·refine rd h4 e4k (bsel_in (λ_=>⟨n,left,K,rfl,rfl,hB.same,h4⟩) λc3=>rd h4 e4k (bsel_in (λ_=>⟨n,left,K,rfl,rfl,hB.same,h4⟩) λc4=>⟨rfl,?_,?_⟩))
  ·have:=of_decide_eq_false c3;omega
  ·have:=of_decide_eq_false c4;omega
 subst e6;refine rd h4 e4k ?_;have hw:IntKind.wrap .u64 z=z:=cL (by omega) (by omega);rw [hw];obtain ⟨r0,hr0⟩:=hB.p0;obtain ⟨r1,hr1⟩:=hB.line;obtain ⟨d,d1,d2,d3⟩:=hB.nd;have hp:findP K 0=some ⟨0,1,0,0,ts0⟩:=by unfold findP;rw [hr0];rfl
 have hns:=hB.ns;have hnsp:=hB.nsp;have hlo:=hB.lo;have hn16:=hB.n16;have hfp:=zY hB.pids (by omega);refine aJI (cl:={ op:=12,id:=z }) (p:=⟨0,1,0,0,ts0⟩) h4 hB.ok (by omega) (aA4 ⟨⟨by decide,z0,by decide,by decide,by decide,by decide⟩,by decide,by omega,by decide,by decide,by decide,by decide⟩) (aDn z1) rfl hr1 hp λA7 hK7 h7=>?_;simp only at hK7 h7 ⊢;by_cases c15:15<=n
 ·have hs:=aDw (K:=K) (par:=0) (box:=1) (q:=z) (by omega);rw [hs] at h7 ⊢;exact aL (by simp;omega) (bsel_f rfl ⟨n,left,K,rfl,rfl,hB.same,h7⟩)
 refine bsel_f (by simp;omega) ?_;have e7k:∀ K'',(KerS x K''::SlO Sl.nil 1 (fX [])::l)[k+2]? = some P:=λ_=>by simpa using e
 by_cases cq:left<z\/z=0
 ·obtain ⟨M',s1,s2,s3⟩:=aFF (par:=0) hB.ok d1 d2 (by omega) z0 (by rw [d3];exact cq) (by omega) (by omega);rw [s1] at hK7 h7 ⊢;have hB':kR N { K with M:=M' } n (i+1) left:=⟨hK7,hB.pids,hB.p0,hB.line,hB.len,hB.n16,⟨d,s2,d2,d3⟩,by show M'.ns.length<=_;omega,by show K.nsp<=_;omega,hB.lo⟩;refine rd h7 (e7k _) (bsel_in (λc3=>bsel_f rfl ⟨n,left,_,rfl,rfl,hB',h7⟩) λc3=>rd h7 (e7k _) (aL ?_ (bsel_f rfl ⟨n,left,_,rfl,rfl,hB',h7⟩)));have:=of_decide_eq_false c3;simp;omega
 ·obtain ⟨M',j,s1,s2,s3,s4,s5,_⟩:=aEz (par:=0) (q:=z) hB.ok d1 d2 (by omega) (by omega) (by omega) (by omega);rw [s1] at hK7 h7 ⊢;rw [hfp] at hK7 h7 ⊢;have hwn:IntKind.wrap .i64 ((n:Int)+1)=((n+1:Nat):Int):=by rw [bK (by omega) (by omega)];rfl
  have hwn2:IntKind.wrap .u64 (((n+1:Nat):Int))=((n+1:Nat):Int):=cL (by omega) (by omega);have hwl:IntKind.wrap .i64 (left-z)=left-z:=bK (by omega) (by omega);refine rd h7 (e7k _) (bsel_f (by simp;omega) (rd h7 (e7k _) (bsel_f (by simp;omega) (rd h7 (e7k _) (bsel_f rfl (bsel_f (by rw [hwn,hwn2];simp) ?_))))));rw [hwn,hwl];refine ⟨n+1,left-z,_,rfl,rfl,⟨hK7,?_,?_,?_,?_,by omega,⟨_,s3,d2,?_⟩,by show M'.ns.length<=_;omega,by show K.nsp+1<=_;omega,by omega,by omega⟩,h7⟩
  ·show (K.ps++[_]).map KP.pid=_;rw [List.map_append,hB.pids,List.range_succ (n:=n+1),List.map_append];rfl
  ·exact ⟨r0++[_],by show K.ps++[_]=_;rw [hr0];rfl⟩
  ·exact ⟨r1++[_],by show K.line++[_]=_;rw [hr1];rfl⟩
  ·show (K.line++[_]).length=_;rw [List.length_append,hB.len];rfl
  ·unfold Nd.room at d3 ⊢;simp only;omega
end Go.Dn
namespace Go.Dn
def ivE (x:Int):List Value:=[.int .i64 x]
theorem aGY {cs:List Value} (h:AllOK [.i .i64] cs):∃ x:Int,cs=ivE x/\True:=by
 obtain ⟨w0,⟨a,rfl,hw⟩,rfl⟩:=aGx h;exact ⟨a,rfl,trivial⟩
theorem aGA (l:List Int):l.flatMap ivE=l.map (.int .i64):=by
 induction l with
 | nil=>rfl
 | cons x l ih=>rw [List.flatMap_cons,ih];rfl
end Go.Dn
