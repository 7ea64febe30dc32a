/- What the proof stands on. -/
import Derived.Test.YtmfmhmipcdgikaaGreatG
import Derived.Test.YtmfmhmipcdgikaaGreatDnN
import Derived.Test.YtmfmhmipcdgikaaGreatMaps
namespace Go.Dn
variable {A:AH} {l:List SP} {r:Nat} {fr:Int} {hs:List (Int × Int)}
theorem Own.nilO {sz:Nat} (h:Own l A):Own (SlO Sl.nil sz []::l) A:=⟨λ_=>none,_,λ_=>.inl rfl,(λb o e=>nomatch e),lA.refl _,SlO.nil,h⟩
def l5 (fr:Int) (p:Int × Int):Bool:=!(decide (p.1<0))&&!(decide (p.2<p.1))&&!(decide (p.2 > fr))
def mZ (fr:Int) (hs:List (Int × Int)):Int:=if fr<1 then 1 else if fr > 1048576 then 4 else if hs.length > 64 then 4 else if hs.all (l5 fr) then 0 else 3
theorem aFK {k:Nat} {s:Sl} {Q:Option Addr->Int->AH->Prop} (h:Own l A) (e:l[k]? = some (dK s 2 (holeCells hs))) (hn:mZ fr hs≠0->Q none (mZ fr hs) A)
  (hk:mZ fr hs=0->∀ r A',Own (RamS r fr hs (λ_=>0)::l) A'->Q (some ⟨r,0,none⟩) 0 A'):qap_A fr s Q A:=by
 have hlen:s.len*2=hs.length*2:=by rw [<-nL];exact zT h e
 have hlen:s.len=hs.length:=by omega
 unfold qap_A;unfold mZ at hn hk;refine aG (λc=>?_) λc=>?_
 ·have c:fr<1:=by simpa using c
  rw [if_pos c] at hn;exact hn (by decide)
 have c:¬ fr<1:=by simpa using c
 rw [if_neg c] at hn hk;refine ⟨λh2=>h2=A/\¬ fr > 1048576/\¬ hs.length > 64,?_,aG (λc2=>?_) λc2=>aG (λc3=>?_) λc3=>⟨rfl,by simpa using c2,by simp [hlen] at c3;omega⟩⟩
 rotate_left
 ·have c2:fr > 1048576:=by simpa using c2
  rw [if_pos c2] at hn;exact hn (by decide)
 ·have c2:¬ fr > 1048576:=by simpa using c2
  rw [if_neg c2] at hn;have c3:hs.length > 64:=by simp [hlen] at c3;omega
  rw [if_pos c3] at hn;exact hn (by decide)
 intro A0 ⟨e0,c2,c3⟩;subst e0;rw [if_neg c2] at hn hk;rw [if_neg c3] at hn hk;refine ⟨λx m h'=>h'=A0/\∃ j:Nat,x=j/\j<=hs.length/\m=hs.length-j/\(hs.take j).all (l5 fr)=true,⟨_,rfl,0,rfl,by omega,rfl,by simp⟩,?_⟩;intro x m h' ⟨e1,j,e2,e3,e4,e5⟩;subst e1 e2 e4;refine aG (λc4=>?_) λc4=>?_
 ·have c4:j<hs.length:=by simp [hlen] at c4;omega
  obtain ⟨p,hp⟩:∃ p,hs[j]? = some p:=⟨hs[j],by simp [c4]⟩;obtain ⟨h1,h2⟩:=jX hp;obtain ⟨b,o,g1,g2⟩:=mG h e h1;obtain ⟨b',o',g3,g4⟩:=mG h e h2;rw [g1] at g3;cases g3;rw [g1];refine inB_in (by omega) (by rw [hlen];omega) ⟨p.1,?_,p.2,?_,?_⟩
  ·rw [add_at];simpa using g2
  ·rw [add_at,add_at];simpa [Nat.add_assoc] using g4
  have hbad:l5 fr p=false->Q none 3 h':=λq=>by
   have:hs.all (l5 fr)=false:=by
    rw [List.all_eq_false];exact ⟨p,List.mem_of_getElem? hp,by simp [q]⟩
   rw [this] at hn;exact hn (by decide)
  refine aG (λc5=>hbad (by unfold l5;rw [c5];rfl)) λc5=>?_;refine aG (λc6=>hbad (by unfold l5;rw [c5,c6];rfl)) λc6=>?_;refine aG (λc7=>hbad (by unfold l5;rw [c5,c6,c7];rfl)) λc7=>?_;refine ⟨hs.length-(j+1),by omega,rfl,j+1,by rw [bG]<;>omega,by omega,rfl,?_⟩;rw [List.take_add_one,hp];simp only [List.all_append,e5,Option.toList_some,List.all_cons,List.all_nil,Bool.and_true,Bool.true_and];unfold l5;rw [c5,c6,c7];rfl
 ·have:j=hs.length:=by simp [hlen] at c4;omega
  subst this;rw [List.take_length] at e5;rw [e5] at hk
  have hnone:s.a=none->holeCells hs=[]:=by
   intro q;obtain ⟨B,_,hB⟩:=Own.get e h;by_cases g:holeCells hs=[]
   ·exact g
   ·obtain ⟨b,pre,rest,hb,_⟩:=hB.2.2 g;rw [q] at hb;cases hb
  refine kF (i:=k) h.nilO e hnone (λ_=>rfl) rfl ?_ ⟨by simp [Sl.nil,hlen];omega,by simp [Sl.nil,hlen];omega⟩ λs' A' hs1 hs2 h1=>?_
  ·intro v hv;simp only [holeCells,List.mem_flatMap] at hv;obtain ⟨p,_,hv⟩:=hv;simp at hv;rcases hv with rfl | rfl<;>rfl
  refine tD (k:=.i64) h1 λmb A2 h2=>?_;refine aX h2 λr A3 h3=>?_;refine hk rfl r A3 ?_;refine Own.imp (P:=Own (tK r fr hs s' mb (λ_=>0) [])) (λB hB=>⟨s',mb,[],⟨by simp,λ_=>by omega,λ_ _ _=>rfl⟩,hB⟩) ?_;refine Own.app ?_;show Own (_::dK s' 2 (holeCells hs)::MapI mb .i64 []::l) A3;refine h3.cons λC hC=>?_;exact Own.imp (λB hB=>hB.look) hC.swap
end Go.Dn
namespace Go.Dn
variable {A:AH} {R:List SP} {r:Nat} {fr:Int} {hs:List (Int × Int)} {M:Int->Int} {W:Int->Int->Int}
def bR (M:Int->Int) (t i:Int):Int:=le M (t*4096+8*i) 8
structure aDb (fr:Int) (hs:List (Int × Int)):Prop where
 holes:hs.length<=64
 lo:0<=fr
 hi:fr<=1048576
def RamW (r:Nat) (fr:Int) (hs:List (Int × Int)) (W:Int->Int->Int):SP:=λB=>∃ M,(aDb fr hs/\∀ t i,0<=t->0<=i->i<512->W t i=bR M t i)/\RamS r fr hs M B
theorem RamW.openH (h:Own (RamW r fr hs W::R) A):∃ M,(aDb fr hs/\∀ t i,0<=t->0<=i->i<512->W t i=bR M t i)/\Own (RamS r fr hs M::R) A:=by
 obtain ⟨M,h⟩:=Own.ex h;obtain ⟨h1,h⟩:=Own.pure h;exact ⟨M,h1,h⟩
theorem RamW.closeH (h1:aDb fr hs) (h2:∀ t i,0<=t->0<=i->i<512->W t i=bR M t i) (h:Own (RamS r fr hs M::R) A):Own (RamW r fr hs W::R) A:=h.imp λ_ hB=>⟨M,⟨h1,h2⟩,hB⟩
theorem eS {t:Int} (h:hasF fr hs t=true) (_hf:fr<=1048576):0<=t/\t<fr:=by
 unfold hasF at h;simp at h;omega
def setW (W:Int->Int->Int) (t i x:Int):Int->Int->Int:=λt' i'=>if t'=t/\i'=i then x else W t' i'
def zeroW (W:Int->Int->Int) (t:Int):Int->Int->Int:=λt' i'=>if t'=t then 0 else W t' i'
theorem aDr {t i x t' i':Int} (hi:0<=i/\i<512) (hi':0<=i'/\i'<512) (hx:qZ x):bR (jK M (t*4096+8*i) 8 x) t' i'=if t'=t/\i'=i then x else bR M t' i':=by
 unfold bR;split
 ·rename_i g;rw [g.1,g.2];exact aIE M _ x 8 hx.1 hx.2
 ·rename_i g;refine qG M _ _ x 8 8 ?_;by_cases e:t'=t
  ·have:i'≠i:=λq=>g ⟨e,q⟩;subst e;omega
  ·omega
theorem aKB (h:Own (RamW r fr hs W::R) A) {t i:Int} (ht:0<=t) (hi:0<=i/\i<512):qZ (W t i):=by
 obtain ⟨M,⟨h1,h2⟩,hh⟩:=RamW.openH h;rw [h2 t i ht hi.1 hi.2];exact qM (i:=0) hh rfl _
theorem sH {Q:Int->AH->Prop} (h:Own (RamW r fr hs W::R) A) (hk:Q fr A):qbh_A (some ⟨r,0,none⟩) Q A:=by
 obtain ⟨M,⟨h1,h2⟩,hh⟩:=RamW.openH h;obtain ⟨s,mb,pm,ok,ho⟩:=RamS.open (i:=0) hh rfl;exact ld_I (i:=0) ho rfl rfl hk
theorem qF {t i bx:Int} {pb pt:Option Addr} {Q:Bool->Bool->Bool->Bool->Bool->Bool->Bool->Bool->Int->AH->Prop} (h:Own (RamW r fr hs W::R) A) (ht:hasF fr hs t=true) (hi:0<=i/\i<512)
  (hk:∀ A',Own (RamW r fr hs W::R) A'->Q (bitZ (W t i) 0) (bitZ (W t i) 1) (bitZ (W t i) 2) (bitZ (W t i) 5) (bitZ (W t i) 6) (bitZ (W t i) 7) (bitZ (W t i) 8) (bitZ (W t i) 63) (cF (W t i)) A') :
  qdp_A (some ⟨r,0,none⟩) pb pt bx t i Q A:=by
 have hU:=aKB h (t:=t) (i:=i) (eS ht (RamW.openH h).choose_spec.1.1.hi).1 hi;obtain ⟨M,⟨h1,h2⟩,hh⟩:=RamW.openH h;have hr:=eS ht h1.hi;have hfr:=h1.hi;unfold qdp_A qdp_G qbm_A;rw [oM ⟨hr.1,by omega⟩ hi];refine mL (n:=8) (i:=0) hh rfl h1.holes ⟨h1.lo,h1.hi⟩ (by omega) ⟨by omega,by omega⟩ ?_;have hok:okA fr hs (t*4096+8*i) ((8:Nat):Int)=true:=(qN hi).trans ht;rw [hok];simp only [↓reduceIte];have hw:le M (t*4096+8*i) 8=W t i:=(h2 t i hr.1 hi.1 hi.2).symm;rw [hw];exact mB hU hh λA' hA=>hk A' (RamW.closeH h1 h2 hA)
theorem aCL {t i x:Int} {Q:Int->AH->Prop} (h:Own (RamW r fr hs W::R) A) (ht:hasF fr hs t=true) (hi:0<=i/\i<512) (hx:qZ x) (hk:∀ A',Own (RamW r fr hs (setW W t i x)::R) A'->Q 0 A') :
  qbp_A (some ⟨r,0,none⟩) (t*4096+8*i) 8 x Q A:=by
 obtain ⟨M,⟨h1,h2⟩,hh⟩:=RamW.openH h;have hr:=eS ht h1.hi;have hfr:=h1.hi;have hok:okA fr hs (t*4096+8*i) ((8:Nat):Int)=true:=(qN hi).trans ht;refine oC (n:=8) hh h1.holes ⟨h1.lo,h1.hi⟩ (by omega) ⟨by omega,by omega⟩ (λq=>by rw [hok] at q;cases q) λ_ A' hA=>hk A' (RamW.closeH h1 (λt' i' q1 q2 q3=>?_) hA);rw [aDr hi ⟨q2,q3⟩ hx];unfold setW;rw [h2 t' i' q1 q2 q3]
theorem aGx {t i:Int} (ht:0<=t/\t<1048576) (hi:0<=i/\i<512) {Q:Int->AH->Prop} (hk:Q (t*4096+8*i) A):qbm_A t i Q A:=by
 unfold qbm_A;rw [oM ht hi];exact hk
theorem lY {t i f bx:Int} {pb pt:Option Addr} {b0 b1 b2 b3 b4 b5 b6 b7:Bool} {Q:AH->Prop} (h:Own (RamW r fr hs W::R) A) (ht:hasF fr hs t=true) (hi:0<=i/\i<512) (hf:0<=f/\f<1048576)
  (hk:∀ A',Own (RamW r fr hs (setW W t i (packZ b0 b1 b2 b3 b4 b5 b6 b7 f))::R) A'->Q A'):qbq_A (some ⟨r,0,none⟩) pb pt bx t i b0 b1 b2 b3 b4 b5 b6 b7 f Q A:=by
 have hr:=eS ht (RamW.openH h).choose_spec.1.1.hi;have hfr:=(RamW.openH h).choose_spec.1.1.hi;unfold qbq_A qbq_G;refine aEc h hf λA1 h1=>aGx ⟨hr.1,by omega⟩ hi ?_;exact aCL h1 ht hi (eN b0 b1 b2 b3 b4 b5 b6 b7 hf).2.2.2.2.2.2.2.2.2 λA2 h2=>hk A2 h2
def nG (M:Int->Int) (f:Int):Int->Int:=λc=>if f*4096<=c/\c<f*4096+4096 then 0 else M c
theorem aKW (pm:Pm) (f:Int) (nd:(pm.map (·.1)).Nodup):delM (nN pm) f=nN (pm.filter λp=>p.1 != f):=by
 induction pm with
 | nil=>rfl
 | cons p pm ih=>
  simp only [List.map_cons,List.nodup_cons] at nd;simp only [nN,List.map_cons,delM] at ih ⊢;by_cases e:p.1=f
  ·rw [if_pos e]
   have:(p::pm).filter (λp=>p.1 != f)=pm:=by
    rw [List.filter_cons,if_neg (by simp [e])];rw [List.filter_eq_self];intro q hq;simp;intro g;exact nd.1 (List.mem_map.2 ⟨q,hq,by rw [g,e]⟩)
   rw [this]
  ·rw [if_neg e,ih nd.2,List.filter_cons,if_pos (by simpa using e)];rfl
theorem aB1 {pm:Pm} {f:Int} (hf:∀ p ∈ pm,p.1≠f):bP (nG M f) pm=bP M pm:=by
 unfold bP;apply List.map_congr_left;intro p hp
 have:aZ (nG M f) p.1=aZ M p.1:=by
  unfold aZ;apply List.map_congr_left;intro i hi;have hi:i<4096:=by simpa using hi
  unfold nG;rw [if_neg (by have:=hf p hp;omega)]
 rw [this]
theorem aFa {t:Int} {Q:Int->AH->Prop} (h:Own (RamW r fr hs W::R) A) (ht:hasF fr hs t=true) (hk:∀ A',Own (RamW r fr hs (zeroW W t)::R) A'->Q 0 A'):qbd_A (some ⟨r,0,none⟩) t Q A:=by
 obtain ⟨M,⟨h1,h2⟩,hh⟩:=RamW.openH h;unfold qbd_A qbd_G;refine pE (i:=0) hh rfl h1.holes (bsel_f (by rw [ht];rfl) ?_);obtain ⟨s,h⟩:=Own.ex hh;obtain ⟨mb,h⟩:=Own.ex h;obtain ⟨pm,h⟩:=Own.ex h;obtain ⟨ok,h⟩:=Own.pure h;have hR:Own (tK r fr hs s mb M pm++R) A:=Own.flat h;rw [show aF (some (⟨r,0,none⟩:Addr))=λf=>f ⟨r,0,none⟩ from rfl];simp only [add_at];refine dY (i:=0) hR rfl rfl (aCI (i:=2) hR rfl λA' hA=>hk A' ?_);rw [aKW pm t ok.nodup] at hA;have hA:Own (At r [.int .i64 fr,.slice s.a s.len s.cap,.map (some mb)]::dK s 2 (holeCells hs)::MapI mb .i64 (nN (pm.filter λp=>p.1 != t))::(bP M pm++R)) A':=hA;have hr:=eS ht h1.hi;refine RamW.closeH (M:=nG M t) h1 (λt' i' q1 q2 q3=>?_) ?_
 ·unfold zeroW;split
  ·rename_i g;subst g;unfold bR
   have:le (nG M t') (t'*4096+8*i') 8=le (λ_=>0) (t'*4096+8*i') 8:=o6 8 _ λc c1 c2=>by
    unfold nG;rw [if_pos (by omega)]
   rw [this];rfl
  ·rename_i g;rw [h2 t' i' q1 q2 q3];unfold bR;refine o6 8 _ λc c1 c2=>?_;unfold nG;rw [if_neg (by omega)]
 ·refine Own.imp (P:=Own (tK r fr hs s mb (nG M t) (pm.filter λp=>p.1 != t))) (λB hB=>⟨s,mb,_,⟨?_,λa=>?_,λa a0 a1=>?_⟩,hB⟩) ?_
  ·exact ok.nodup.sublist (List.filter_sublist.map _)
  ·unfold nG;split
   ·omega
   ·exact ok.byte a
  ·unfold nG;split
   ·rfl
   ·rename_i g;refine ok.zero a a0 λq=>a1 ?_;obtain ⟨p,hp,hpe⟩:=List.mem_map.1 q;refine List.mem_map.2 ⟨p,List.mem_filter.2 ⟨hp,?_⟩,hpe⟩;simp;omega
  ·refine Own.app ?_;unfold tK;rw [aB1 (λp hp=>by simpa using (List.mem_filter.1 hp).2)];refine Own.sub ?_ hA;show List.Sublist (_::_::_::(bP M (pm.filter λp=>p.1 != t)++R)) _;refine List.Sublist.cons_cons _ (List.Sublist.cons_cons _ (List.Sublist.cons_cons _ ?_));exact (List.filter_sublist.map _).append (List.Sublist.refl _)
end Go.Dn
namespace Go.Dn
theorem fI {k:Nat} (hk:k<=20):(2:Int) ^ k<=1048576/\(0:Int)<2 ^ k:=by
 refine ⟨?_,Int.pow_pos (by omega)⟩;have:(2:Nat) ^ k<=2 ^ 20:=Nat.pow_le_pow_right (by omega) hk;have h2:((2 ^ k:Nat):Int)<=((2 ^ 20:Nat):Int):=Int.ofNat_le.2 this;simpa using h2
theorem aGA {k:Nat} (hk:k<=20) (c:Int) (h0:0<=c) (h1:c<=4):IntKind.wrap .i64 (c*2 ^ (min (Int.toNat (k:Int)) 64))=c*2 ^ k:=by
 have:=fI hk;rw [show min (Int.toNat (k:Int)) 64=k by omega];have h2:c*2 ^ k<=4*1048576:=Int.mul_le_mul h1 this.1 (by omega) (by omega);have h3:0<=c*2 ^ k:=Int.mul_nonneg h0 (by omega);rw [bG]<;>omega
theorem aMe (q:Nat):q ^^^ 1=if q % 2=0 then q+1 else q-1:=by
 have h1:(q ^^^ 1) / 2=q / 2:=by simpa using Nat.xor_div_two (a:=q) (b:=1)
 have h2:(q ^^^ 1) % 2=(q+1) % 2:=by
  have h3:(q ^^^ 1) % 2 ^ 1=(q % 2 ^ 1) ^^^ (1 % 2 ^ 1):=Nat.xor_mod_two_pow;rcases Nat.mod_two_eq_zero_or_one q with h | h
  ·simp only [Nat.pow_one,h] at h3;have h3:(q ^^^ 1) % 2=1:=h3;omega
  ·simp only [Nat.pow_one,h] at h3;have h3:(q ^^^ 1) % 2=0:=h3;omega
 split<;>omega
theorem aLG (q k:Nat):(2 ^ k*q) ^^^ 2 ^ k=if q % 2=0 then 2 ^ k*q+2 ^ k else 2 ^ k*q-2 ^ k:=by
 have h:(2 ^ k*q) ^^^ 2 ^ k=2 ^ k*(q ^^^ 1):=by
  have:=Nat.shiftLeft_xor_distrib (a:=q) (b:=1) (i:=k);simp only [Nat.shiftLeft_eq,Nat.one_mul] at this;rw [Nat.mul_comm,<- this,Nat.mul_comm]
 rw [h,aMe];split
 ·rw [Nat.mul_add,Nat.mul_one]
 ·rw [Nat.mul_sub,Nat.mul_one]
theorem aGm {x y:Nat} (hx:x<2 ^ 62) (hy:y<2 ^ 62):bits .xor .i64 x y=((x ^^^ y:Nat):Int):=by
 have h1:x ^^^ y<2 ^ 62:=Nat.xor_lt_two_pow hx hy;have h2:bits .xor .i64 x y=IntKind.wrap .i64 ((BitVec.ofInt 64 x ^^^ BitVec.ofInt 64 y).toNat:Int):=rfl;rw [h2,BitVec.toNat_xor,BitVec.ofInt_natCast,BitVec.ofInt_natCast,BitVec.toNat_ofNat,BitVec.toNat_ofNat,Nat.mod_eq_of_lt (by omega),Nat.mod_eq_of_lt (by omega)];exact bG (by omega) (by omega)
theorem aJU {k:Nat} {q:Int} (hk:k<=20) (h0:0<=q) (h1:2 ^ k*q<=2097152):bits .xor .i64 (2 ^ k*q) (2 ^ k)=if q % 2=0 then 2 ^ k*q+2 ^ k else 2 ^ k*q-2 ^ k:=by
 obtain ⟨q,rfl⟩:=Int.eq_ofNat_of_zero_le h0;have hp:=fI hk;have e1:((2:Int) ^ k*(q:Int))=((2 ^ k*q:Nat):Int):=by simp
 have e2:((2:Int) ^ k)=((2 ^ k:Nat):Int):=by simp
 rw [e1,e2,aGm (by omega) (by omega),aLG];rw [e1] at h1;have e3:((q:Int) % 2=0)↔(q % 2=0):=by omega
 by_cases g:q % 2=0
 ·rw [if_pos g,if_pos (e3.2 g)];omega
 ·rw [if_neg g,if_neg (λh=>g (e3.1 h))];have:2 ^ k<=2 ^ k*q:=Nat.le_mul_of_pos_right _ (by omega);omega
theorem aLw (q k:Nat):(2 ^ k*q)&&& 2 ^ k=if q % 2=0 then 0 else 2 ^ k:=by
 have h:(2 ^ k*q)&&& 2 ^ k=2 ^ k*(q&&& 1):=by
  have:=Nat.shiftLeft_and_distrib (a:=q) (b:=1) (i:=k);simp only [Nat.shiftLeft_eq,Nat.one_mul] at this;rw [Nat.mul_comm,<- this,Nat.mul_comm]
 rw [h,Nat.and_one_is_mod];split
 ·rename_i g;rw [g,Nat.mul_zero]
 ·rw [show q % 2=1 by omega,Nat.mul_one]
theorem aFk {k:Nat} {q:Int} (hk:k<=20) (h0:0<=q) (h1:2 ^ k*q<=2097152):bits .andNot .i64 (2 ^ k*q) (2 ^ k)=if q % 2=0 then 2 ^ k*q else 2 ^ k*q-2 ^ k:=by
 obtain ⟨q,rfl⟩:=Int.eq_ofNat_of_zero_le h0;have hp:=fI hk;have e1:((2:Int) ^ k*(q:Int))=((2 ^ k*q:Nat):Int):=by simp
 have e2:((2:Int) ^ k)=((2 ^ k:Nat):Int):=by simp
 rw [e1] at h1;rw [e1,e2];have h2:bits .andNot .i64 ((2 ^ k*q:Nat):Int) ((2 ^ k:Nat):Int)=IntKind.wrap .i64 ((BitVec.ofInt 64 ((2 ^ k*q:Nat):Int)&&& ~~~ BitVec.ofInt 64 ((2 ^ k:Nat):Int)).toNat:Int):=rfl
 have hb:BitVec.ofInt 64 ((2 ^ k*q:Nat):Int)&&& ~~~ BitVec.ofInt 64 ((2 ^ k:Nat):Int)=BitVec.ofInt 64 ((2 ^ k*q:Nat):Int) ^^^ (BitVec.ofInt 64 ((2 ^ k*q:Nat):Int)&&& BitVec.ofInt 64 ((2 ^ k:Nat):Int)):=by
  ext i hi
  simp;cases (BitVec.ofInt 64 ((2:Int) ^ k*(q:Int)))[i]<;>simp
 rw [h2,hb,BitVec.toNat_xor,BitVec.toNat_and,BitVec.ofInt_natCast,BitVec.ofInt_natCast,BitVec.toNat_ofNat,BitVec.toNat_ofNat,Nat.mod_eq_of_lt (by omega),Nat.mod_eq_of_lt (by omega),aLw];have e3:((q:Int) % 2=0)↔(q % 2=0):=by omega
 by_cases g:q % 2=0
 ·rw [if_pos g,if_pos (e3.2 g),Nat.xor_zero,bG]<;>omega
 ·rw [if_neg g,if_neg (λh=>g (e3.1 h)),aLG,if_neg g];have:2 ^ k<=2 ^ k*q:=Nat.le_mul_of_pos_right _ (by omega);rw [bG]<;>omega
end Go.Dn
namespace Go.Dn
def total (st:Nat->List Int):Nat->Int
 | 0=>0
 | k+1=>total st k+(st k).length*2 ^ k
def pS {α:Type} (st:Nat->α) (o:Nat) (l:α):Nat->α:=λk=>if k=o then l else st k
structure rD (st:Nat->List Int) (F:Int->Prop) (n:Int):Prop where
 rng:∀ o a,o<=10->a ∈ st o->0<=a/\a+2 ^ o<=1048576/\∃ q,a=2 ^ o*q
 nd:∀ o,o<=10->(st o).Nodup
 apart:∀ o a o' a' x,o<=10->o'<=10->a ∈ st o->a' ∈ st o'->a<=x->x<a+2 ^ o->a'<=x->x<a'+2 ^ o'->o=o'/\a=a'
 cov:∀ x,F x↔∃ o a,o<=10/\a ∈ st o/\a<=x/\x<a+2 ^ o
 sum:n=total st 11
theorem t5 (o:Nat):(0:Int)<2 ^ o:=Int.pow_pos (by omega)
theorem dG {α:Type} {st:Nat->α} {o:Nat} {l:α}:pS st o l o=l:=if_pos rfl
theorem fB {α:Type} {st:Nat->α} {o k:Nat} {l:α} (h:k≠o):pS st o l k=st k:=if_neg h
theorem rJ (st:Nat->List Int) (o:Nat) (l:List Int):∀ k,total (pS st o l) k=total st k+if o<k then ((l.length:Int)-(st o).length)*2 ^ o else 0
 | 0=>by simp [total]
 | k+1=>by
  simp only [total,rJ st o l k];by_cases e:k=o
  ·subst e;rw [dG,if_neg (by omega),if_pos (by omega),Int.sub_mul];omega
  ·rw [fB e];by_cases g:o<k
   ·rw [if_pos g,if_pos (by omega)];omega
   ·rw [if_neg g,if_neg (by omega)];omega
theorem kE (st:Nat->List Int):∀ k,0<=total st k
 | 0=>Int.le_refl _
 | k+1=>by
  have:=kE st k;have h2:(0:Int)<=(st k).length*2 ^ k:=Int.mul_nonneg (by omega) (by have:=t5 k;omega);simp only [total];omega
theorem nW {st:Nat->List Int}:∀ k,(∀ o,o<k->st o=[])->total st k=0
 | 0,_=>rfl
 | k+1,h=>by simp [total,nW k (λo ho=>h o (by omega)),h k (by omega)]
theorem aBh {st:Nat->List Int} {o:Nat}:∀ k,o<k->((st o).length:Int)*2 ^ o<=total st k
 | 0,h=>by omega
 | k+1,h=>by
  simp only [total];have h2:(0:Int)<=(st k).length*2 ^ k:=Int.mul_nonneg (by omega) (by have:=t5 k;omega);by_cases e:o=k
  ·subst e;have:=kE st o;omega
  ·have:=aBh (st:=st) (o:=o) k (by omega);omega
variable {st:Nat->List Int} {F F':Int->Prop} {n:Int} {o:Nat} {a:Int}
theorem rD.congr (h:rD st F n) (hF:∀ x,F x↔F' x):rD st F' n:=⟨h.rng,h.nd,h.apart,λx=>(hF x).symm.trans (h.cov x),h.sum⟩
theorem rD.nonneg (h:rD st F n):0<=n:=by rw [h.sum];exact kE _ _
theorem rD.free (h:rD st F n) {x:Int} (hx:F x):0<=x/\x<1048576:=by
 obtain ⟨o,a,h1,h2,h3,h4⟩:=(h.cov x).1 hx;have:=h.rng o a h1 h2;omega
theorem rD.del (h:rD st F n) (ho:o<=10) (ha:a ∈ st o):rD (pS st o ((st o).erase a)) (λx=>F x/\¬(a<=x/\x<a+2 ^ o)) (n-2 ^ o):=by
 have hsub:∀ o' a',a' ∈ pS st o ((st o).erase a) o'->a' ∈ st o':=by
  intro o' a' h1;by_cases e:o'=o
  ·subst e;rw [dG] at h1;exact List.mem_of_mem_erase h1
  ·rw [fB e] at h1;exact h1
 refine ⟨λo' a' h1 h2=>h.rng o' a' h1 (hsub o' a' h2),λo' h1=>?_,λo1 a1 o2 a2 x h1 h2 h3 h4=>h.apart o1 a1 o2 a2 x h1 h2 (hsub _ _ h3) (hsub _ _ h4),λx=>?_,?_⟩
 ·by_cases e:o'=o
  ·subst e;rw [dG];exact (h.nd o' h1).erase a
  ·rw [fB e];exact h.nd o' h1
 ·rw [h.cov x];constructor
  ·rintro ⟨⟨o',a',h1,h2,h3,h4⟩,h5⟩;refine ⟨o',a',h1,?_,h3,h4⟩;by_cases e:o'=o
   ·subst e;rw [dG];refine (List.mem_erase_of_ne λe2=>?_).2 h2;subst e2;exact h5 ⟨h3,h4⟩
   ·rw [fB e];exact h2
  ·rintro ⟨o',a',h1,h2,h3,h4⟩;refine ⟨⟨o',a',h1,hsub _ _ h2,h3,h4⟩,λ⟨h5,h6⟩=>?_⟩;obtain ⟨e1,e2⟩:=h.apart o' a' o a x h1 ho (hsub _ _ h2) ha h3 h4 h5 h6;subst e1 e2;rw [dG] at h2;exact (h.nd o' h1).not_mem_erase h2
 ·rw [rJ,if_pos (by omega),h.sum,List.length_erase_of_mem ha];have:0<(st o).length:=List.length_pos_of_mem ha;have e:(((st o).length-1:Nat):Int)-(st o).length = -1:=by omega
  rw [e];omega
theorem rD.add (h:rD st F n) (ho:o<=10) (h0:0<=a/\a+2 ^ o<=1048576) (hq:∃ q,a=2 ^ o*q) (hF:∀ x,a<=x->x<a+2 ^ o->¬F x) :
  a ∉ st o/\rD (pS st o (st o++[a])) (λx=>F x\/(a<=x/\x<a+2 ^ o)) (n+2 ^ o):=by
 have hp:=t5 o;have hno:a ∉ st o:=λhm=>hF a (Int.le_refl _) (by omega) ((h.cov a).2 ⟨o,a,ho,hm,Int.le_refl _,by omega⟩)
 have hmem:∀ o' a',a' ∈ pS st o (st o++[a]) o'↔a' ∈ st o'\/(o'=o/\a'=a):=by
  intro o' a';by_cases e:o'=o
  ·subst e;rw [dG];simp
  ·rw [fB e];simp [e]
 refine ⟨hno,λo' a' h1 h2=>?_,λo' h1=>?_,λo1 a1 o2 a2 x h1 h2 h3 h4 h5 h6 h7 h8=>?_,λx=>?_,?_⟩
 ·rcases (hmem o' a').1 h2 with h2 | ⟨rfl,rfl⟩
  ·exact h.rng o' a' h1 h2
  ·exact ⟨h0.1,h0.2,hq⟩
 ·by_cases e:o'=o
  ·subst e;rw [dG];exact List.nodup_append.2 ⟨h.nd o' h1,by simp,λx hx y hy=>by simp at hy;subst hy;exact λe=>hno (e ▸ hx)⟩
  ·rw [fB e];exact h.nd o' h1
 ·rcases (hmem o1 a1).1 h3 with g3 | ⟨e1,e2⟩
  ·rcases (hmem o2 a2).1 h4 with g4 | ⟨e1,e2⟩
   ·exact h.apart o1 a1 o2 a2 x h1 h2 g3 g4 h5 h6 h7 h8
   ·rw [e1,e2] at h8;rw [e2] at h7;exact absurd ((h.cov x).2 ⟨o1,a1,h1,g3,h5,h6⟩) (hF x h7 h8)
  ·rw [e1,e2] at h6;rw [e2] at h5;rcases (hmem o2 a2).1 h4 with g4 | ⟨e3,e4⟩
   ·exact absurd ((h.cov x).2 ⟨o2,a2,h2,g4,h7,h8⟩) (hF x h5 h6)
   ·exact ⟨e1.trans e3.symm,e2.trans e4.symm⟩
 ·rw [h.cov x];constructor
  ·rintro (⟨o',a',h1,h2,h3,h4⟩ | ⟨h3,h4⟩)
   ·exact ⟨o',a',h1,(hmem o' a').2 (.inl h2),h3,h4⟩
   ·exact ⟨o,a,ho,(hmem o a).2 (.inr ⟨rfl,rfl⟩),h3,h4⟩
  ·rintro ⟨o',a',h1,h2,h3,h4⟩;rcases (hmem o' a').1 h2 with h2 | ⟨rfl,rfl⟩
   ·exact .inl ⟨o',a',h1,h2,h3,h4⟩
   ·exact .inr ⟨h3,h4⟩
 ·rw [rJ,if_pos (by omega),h.sum];have e:(((st o++[a]).length:Nat):Int)-(st o).length=1:=by simp;omega
  rw [e];omega
theorem rD.empty:rD (λ_=>[]) (λ_=>False) 0:=⟨λ_ _ _ h=>by simp at h,λ_ _=>List.nodup_nil,λ_ _ _ _ _ _ _ h=>by simp at h,λx=>⟨λh=>h.elim,λ⟨_,_,_,h,_⟩=>by simp at h⟩,by rw [nW 11 λ_ _=>rfl]⟩
def iU (l:List Int):List (Int × Value):=l.map λa=>(a,.bool true)
def aFi (l:List Int):List (Int × Value):=l.map λa=>(a,.int .i64 0)
theorem oZ (c:Value) (l:List Int) (x:Int):(l.map λa=>(a,c)).lookup x=if x ∈ l then some c else none:=by
 induction l with
 | nil=>rfl
 | cons y l ih=>
  simp only [List.map_cons,List.lookup];by_cases e:x=y
  ·subst e;simp
  ·have:(x==y)=false:=by simpa using e
   rw [this,ih];simp [e]
end Go.Dn
namespace Go.Dn
variable {A:AH} {l R:List SP} {b g:Nat} {mb:Nat->Nat} {st:Nat->List Int} {gl:List Int} {n:Int} {F G:Int->Prop}
def rU (mb:Nat->Nat) (g:Nat) (n:Int):List Value:=(List.range 11).map (λi=>.map (some (mb i)))++[.map (some g),.int .i64 n]
def qH (mb:Nat->Nat) (st:Nat->List Int):List SP:=(List.range 11).map λi=>MapI (mb i) .i64 (iU (st i))
def dJ (b:Nat) (mb:Nat->Nat) (g:Nat) (st:Nat->List Int) (gl:List Int) (n:Int):List SP:=At b (rU mb g n)::MapI g .i64 (aFi gl)::qH mb st
structure GOK (gl:List Int) (F G:Int->Prop):Prop where
 nodup:gl.Nodup
 mem:∀ x,G x↔x ∈ gl
 apart:∀ x,G x->¬F x/\0<=x/\x<1048576
def Bud (b:Nat) (F G:Int->Prop) (n:Int):SP:=λB=>∃ mb g st gl,rD st F n/\GOK gl F G/\n+gl.length<=1048576/\Own (dJ b mb g st gl n) B
theorem aC1 {k:Nat} (hk:k<=10):(rU mb g n)[k]? = some (.map (some (mb k))):=by
 unfold rU;rw [List.getElem?_append_left (by simp;omega),List.getElem?_map,List.getElem?_range (by omega)];rfl
theorem l7 {k:Nat} (hk:k<=10):(dJ b mb g st gl n++R)[2+k]? = some (MapI (mb k) .i64 (iU (st k))):=by
 rw [List.getElem?_append_left (by simp [dJ,qH];omega)];rw [Nat.add_comm];simp only [dJ,qH,List.getElem?_cons_succ,List.getElem?_map];rw [List.getElem?_range (by omega)];rfl
theorem yM {k:Nat} (hk:k<=10) (x:List Int):(dJ b mb g st gl n++R).set (2+k) (MapI (mb k) .i64 (iU x))=dJ b mb g (pS st k x) gl n++R:=by
 rw [List.set_append_left _ _ (by simp [dJ,qH];omega)];congr 1;rw [Nat.add_comm];simp only [dJ,List.set_cons_succ];congr 2;apply List.ext_getElem?;intro i;rw [List.getElem?_set];by_cases e:k=i
 ·subst e;rw [if_pos rfl,if_pos (by simp [qH];omega)];simp only [qH,List.getElem?_map];rw [List.getElem?_range (by omega)];simp [dG]
 ·rw [if_neg e];simp only [qH,List.getElem?_map];cases hi:(List.range 11)[i]? with
  | none=>rfl
  | some j=>
   have:j=i:=by
    have:=List.getElem?_eq_some_iff.1 hi;obtain ⟨h1,h2⟩:=this;simpa using h2.symm
   subst this;simp [fB (Ne.symm e)]
theorem kR {k:Nat} {K:Option Nat->Prop} (hk:k<=10) (h:Own (dJ b mb g st gl n++R) A) (hK:K (some (mb k))):aM (Addr.add ⟨b,0,none⟩ (Int.toNat (k:Int)*1)) A K:=by
 rw [add_at];refine dY (i:=0) h rfl ?_ hK;rw [show 0+Int.toNat (k:Int)*1=k by omega];exact aC1 hk
theorem xO (c:Value) (l:List Int) (x:Int):delM (l.map λa=>(a,c)) x=(l.erase x).map λa=>(a,c):=by
 induction l with
 | nil=>rfl
 | cons y l ih=>
  simp only [List.map_cons,delM];by_cases e:y=x
  ·subst e;simp
  ·rw [if_neg e,List.erase_cons_tail (by simpa using e),ih,List.map_cons]
theorem y8 (c:Value) (l:List Int) (x:Int) (hx:x ∉ l):putM (l.map λa=>(a,c)) x c=(l++[x]).map λa=>(a,c):=by
 induction l with
 | nil=>rfl
 | cons y l ih=>
  simp only [List.mem_cons,not_or] at hx;simp only [List.map_cons,putM];rw [if_neg (Ne.symm hx.1),ih hx.2];rfl
theorem aIp {k:Nat} {x:Int} {K:Option Value->Prop} (hk:k<=10) (h:Own (dJ b mb g st gl n++R) A) (hK:K (if x ∈ st k then some (.bool true) else none)):qP A (some (mb k)) .i64 x K:=by
 refine kD (i:=2+k) h (l7 hk) ?_;unfold iU;rw [oZ];exact hK
theorem aDL {k:Nat} {x:Int} {K:AP} (hk:k<=10) (h:Own (dJ b mb g st gl n++R) A) (hK:∀ A',Own (dJ b mb g (pS st k ((st k).erase x)) gl n++R) A'->K A'):o5 A (some (mb k)) .i64 x K:=by
 refine aCI (i:=2+k) h (l7 hk) λA' h'=>hK A' ?_;have:delM (iU (st k)) x=iU ((st k).erase x):=xO _ _ _;rw [this,yM hk] at h';exact h'
theorem aDK {k:Nat} {x:Int} {K:AP} (hk:k<=10) (hx:x ∉ st k) (h:Own (dJ b mb g st gl n++R) A) (hK:∀ A',Own (dJ b mb g (pS st k (st k++[x])) gl n++R) A'->K A'):tH A (some (mb k)) .i64 x (.bool true) K:=by
 refine aGQ (i:=2+k) h (l7 hk) λA' h'=>hK A' ?_;have:putM (iU (st k)) x (.bool true)=iU (st k++[x]):=y8 _ _ _ hx;rw [this,yM hk] at h';exact h'
theorem aDI {k:Nat} {a c:Int} {F':Int->Prop} {Q:AH->Prop} (h:Own (dJ b mb g st gl n++R) A) (hk:k<=10) (hb:rD st F' c) (h0:0<=a/\a+2 ^ k<=1048576) (hq:∃ q,a=2 ^ k*q)
  (hF:∀ x,a<=x->x<a+2 ^ k->¬F' x)
  (hQ:∀ st' A',rD st' (λx=>F' x\/(a<=x/\x<a+2 ^ k)) (c+2 ^ k)->Own (dJ b mb g st' gl n++R) A'->Q A'):qaq_A (some ⟨b,0,none⟩) a k Q A:=by
 unfold qaq_A
 refine ⟨λx y m h'=>∃ (k':Nat) (st':Nat->List Int) (F2:Int->Prop) (c':Int),y=k'/\k'<=10/\m=10-k'/\rD st' F2 c'/\0<=x/\x+2 ^ k'<=1048576/\(∃ q,x=2 ^ k'*q)/\
  (∀ z,x<=z->z<x+2 ^ k'->¬F2 z)/\(∀ z,(F2 z\/(x<=z/\z<x+2 ^ k'))↔(F' z\/(a<=z/\z<a+2 ^ k)))/\c'+2 ^ k'=c+2 ^ k/\Own (dJ b mb g st' gl n++R) h',
  ⟨_,k,st,F',c,rfl,hk,rfl,hb,h0.1,h0.2,hq,hF,λ_=>Iff.rfl,rfl,h⟩,?_⟩
 intro x y m h' ⟨k',st',F2,c',e1,e2,e3,e4,e5,e6,⟨q,e7⟩,e8,e9,e10,e11⟩;subst e1 e3;have hp:=fI (k:=k') (by omega)
 have fin:∀ A',(x ∉ st' k'->Own (dJ b mb g (pS st' k' (st' k'++[x])) gl n++R) A')->Q A':=by
  intro A' hA;obtain ⟨g1,g2⟩:=e4.add e2 ⟨e5,e6⟩ ⟨q,e7⟩ e8;refine hQ _ A' ?_ (hA g1);rw [<-e10];exact g2.congr e9
 have hno:x ∉ st' k':=(e4.add e2 ⟨e5,e6⟩ ⟨q,e7⟩ e8).1
 have last:aF (some (⟨b,0,none⟩:Addr)) λa14=>bF (k':Int) 11 (aM (Addr.add a14 (Int.toNat (k':Int)*1)) h' λmp15=>tH h' mp15 .i64 x (.bool true) λh16=>Q h16):=
  inB_in (by omega) (by omega) (kR e2 e11 (aDK e2 hno e11 λA' hA=>fin A' λ_=>hA))
 refine aG (λhc=>?_) λ_=>last;have hc:k'<10:=by simp at hc;omega
 refine inB_in (by omega) (by omega) (kR e2 e11 ?_);refine bsel_f (by simp) ?_;rw [aGA (by omega) 1 (by omega) (by omega),Int.one_mul]
 have q0:0<=q:=by
  rcases Int.lt_or_le q 0 with g | g
  ·have:=Int.mul_neg_of_pos_of_neg hp.2 g;omega
  ·exact g
 have hx:bits .xor .i64 x (2 ^ k')=if q % 2=0 then x+2 ^ k' else x-2 ^ k':=by
  rw [e7,aJU (by omega) q0 (by omega)]
 have hn:bits .andNot .i64 x (2 ^ k')=if q % 2=0 then x else x-2 ^ k':=by
  rw [e7,aFk (by omega) q0 (by omega)]
 refine aIp e2 e11 ?_;by_cases hm:bits .xor .i64 x (2 ^ k') ∈ st' k'
 ·rw [if_pos hm];refine ⟨true,rfl,aN rfl (inB_in (by omega) (by omega) (kR e2 e11 (bsel_f (by simp) (aDL e2 e11 λA' hA=>bsel_f (by simp) ?_))))⟩;have hd:=e4.del e2 hm;obtain ⟨r1,r2,_⟩:=e4.rng k' _ e2 hm;rw [bG (by omega) (by omega)];have hs:(2:Int) ^ (k'+1)=2 ^ k'*2:=Int.pow_succ _ _;have hsub:∀ z,bits .xor .i64 x (2 ^ k')<=z->z<bits .xor .i64 x (2 ^ k')+2 ^ k'->F2 z:=λz z1 z2=>(e4.cov z).2 ⟨k',_,e2,hm,z1,z2⟩;refine ⟨10-(k'+1),by omega,k'+1,_,_,_,by omega,by omega,rfl,hd,?_,?_,⟨q / 2,?_⟩,?_,?_,?_,hA⟩
  ·rw [hn];split
   ·omega
   ·rename_i g;rw [hx,if_neg g] at r1;omega
  ·rw [hn,hs];split
   ·rename_i g;rw [hx,if_pos g] at r2;omega
   ·omega
  ·rw [hn,hs,Int.mul_assoc];split
   ·rename_i g;rw [show 2*(q / 2)=q by omega,e7]
   ·rename_i g;rw [show 2*(q / 2)=q-1 by omega,Int.mul_sub,Int.mul_one,e7]
  ·intro z z1 z2 ⟨z3,z4⟩;rw [hn] at z1 z2;rw [hx] at z4;rw [hs] at z2;by_cases g:q % 2=0
   ·rw [if_pos g] at z1 z2 z4;exact e8 z z1 (by omega) z3
   ·rw [if_neg g] at z1 z2 z4;exact e8 z (by omega) (by omega) z3
  ·intro z;rw [<-e9 z];rw [hn,hx,hs];rw [hx] at hsub;have hs2:=hsub z;by_cases g:q % 2=0
   ·rw [if_pos g] at hs2 ⊢;rw [if_pos g];constructor
    ·rintro (⟨z1,_⟩ | ⟨z1,z2⟩)
     ·exact .inl z1
     ·by_cases w:z<x+2 ^ k'
      ·exact .inr ⟨z1,w⟩
      ·exact .inl (hs2 (by omega) (by omega))
    ·rintro (z1 | ⟨z1,z2⟩)
     ·by_cases w:x+2 ^ k'<=z/\z<x+2 ^ k'+2 ^ k'
      ·exact .inr ⟨by omega,by omega⟩
      ·exact .inl ⟨z1,w⟩
     ·exact .inr ⟨by omega,by omega⟩
   ·rw [if_neg g] at hs2 ⊢;rw [if_neg g];constructor
    ·rintro (⟨z1,_⟩ | ⟨z1,z2⟩)
     ·exact .inl z1
     ·by_cases w:x<=z
      ·exact .inr ⟨w,by omega⟩
      ·exact .inl (hs2 (by omega) (by omega))
    ·rintro (z1 | ⟨z1,z2⟩)
     ·by_cases w:x-2 ^ k'<=z/\z<x-2 ^ k'+2 ^ k'
      ·exact .inr ⟨by omega,by omega⟩
      ·exact .inl ⟨z1,w⟩
     ·exact .inr ⟨by omega,by omega⟩
  ·rw [hs];omega
 ·rw [if_neg hm];exact ⟨false,rfl,bsel_f rfl last⟩
theorem Bud.openH (h:Own (Bud b F G n::R) A):∃ mb g st gl,rD st F n/\GOK gl F G/\n+gl.length<=1048576/\Own (dJ b mb g st gl n++R) A:=by
 obtain ⟨mb,h⟩:=Own.ex h;obtain ⟨g,h⟩:=Own.ex h;obtain ⟨st,h⟩:=Own.ex h;obtain ⟨gl,h⟩:=Own.ex h;obtain ⟨h1,h⟩:=Own.pure h;obtain ⟨h2,h⟩:=Own.pure h;obtain ⟨h3,h⟩:=Own.pure h;exact ⟨mb,g,st,gl,h1,h2,h3,Own.flat h⟩
theorem Bud.closeH (h1:rD st F n) (h2:GOK gl F G) (h3:n+gl.length<=1048576) (h:Own (dJ b mb g st gl n++R) A):Own (Bud b F G n::R) A:=
 h.app.imp λ_ hB=>⟨mb,g,st,gl,h1,h2,h3,hB⟩
theorem aGz:(rU mb g n)[11]? = some (.map (some g)):=rfl
theorem aGb:(rU mb g n)[12]? = some (.int .i64 n):=rfl
theorem aC6 {K:Option Nat->Prop} (h:Own (dJ b mb g st gl n++R) A) (hK:K (some g)):aM (Addr.add ⟨b,0,none⟩ 11) A K:=by
 rw [add_at];exact dY (i:=0) h rfl aGz hK
theorem zN {K:Int->Prop} (h:Own (dJ b mb g st gl n++R) A) (hK:K n):aI .i64 (Addr.add ⟨b,0,none⟩ 12) A K:=by
 rw [add_at];exact ld_I (i:=0) h rfl aGb hK
theorem aB2 {x:Int} {K:AP} (h:Own (dJ b mb g st gl n++R) A) (hK:∀ A',Own (dJ b mb g st gl x++R) A'->K A'):aC (Addr.add ⟨b,0,none⟩ 12) (.int .i64 x) A K:=by
 rw [add_at];exact aJ (i:=0) h rfl rfl rfl λA' h'=>hK A' h'
theorem aEK {f:Int} {Q:Int->AH->Prop} (h:Own (Bud b F G n::R) A) (hf:G f) (hk:∀ A',Own (Bud b (λx=>F x\/x=f) (λx=>G x/\x≠f) (n+1)::R) A'->Q 0 A'):qbe_A (some ⟨b,0,none⟩) f Q A:=by
 obtain ⟨mb,g,st,gl,h1,h2,h3,h⟩:=Bud.openH h;have hm:=(h2.mem f).1 hf;obtain ⟨f1,f2,f3⟩:=h2.apart f hf;have hn:=h1.nonneg;have hl:0<gl.length:=List.length_pos_of_mem hm;unfold qbe_A qbe_G;refine aC6 h ?_;refine kD (i:=1) h rfl ?_;unfold aFi;rw [oZ,if_pos hm];refine ⟨0,rfl,bsel_f rfl ?_⟩;refine aC6 h (aCI (i:=1) h rfl λA1 hA1=>?_);have e1:delM (aFi gl) f=aFi (gl.erase f):=xO _ _ _;rw [e1] at hA1;have hA1:Own (dJ b mb g st (gl.erase f) n++R) A1:=hA1;refine zN hA1 (bsel_f rfl (aB2 hA1 λA2 hA2=>?_))
 have e2:IntKind.wrap .i64 (n+IntKind.wrap .i64 ((1:Int)*2 ^ (min (Int.toNat 0) 64)))=n+1:=by
  rw [show IntKind.wrap .i64 ((1:Int)*2 ^ (min (Int.toNat 0) 64))=1 from rfl,bG]<;>omega
 rw [e2] at hA2;show qaq_A _ f ((0:Nat):Int) _ A2;refine aDI hA2 (by omega) h1 ⟨f2,by simp;omega⟩ ⟨f,by simp⟩ (λx z1 z2=>?_) λst' A3 hB hA3=>?_
 ·have:x=f:=by simp at z2;omega
  rw [this];exact f1
 ·have e3:(gl.erase f).length=gl.length-1:=List.length_erase_of_mem hm;refine hk A3 (Bud.closeH (gl:=gl.erase f) (n:=n+1) (hB.congr λx=>?_) ⟨h2.nodup.erase f,λx=>?_,λx hx=>?_⟩ (by rw [e3];omega) hA3)
  ·constructor
   ·rintro (z | ⟨z1,z2⟩)
    ·exact .inl z
    ·right;simp at z2;omega
   ·rintro (z | z)
    ·exact .inl z
    ·right;simp;omega
  ·rw [h2.nodup.mem_erase_iff,h2.mem x];exact ⟨λh=>⟨h.2,h.1⟩,λh=>⟨h.2,h.1⟩⟩
  ·obtain ⟨g1,g2⟩:=h2.apart x hx.1;exact ⟨λh=>h.elim g1 hx.2,g2⟩
theorem yU {Q:Int->AH->Prop} (h:Own (Bud b F G n::R) A) (hk:Q n A):qas_A (some ⟨b,0,none⟩) Q A:=by
 obtain ⟨mb,g,st,gl,h1,h2,h3,h⟩:=Bud.openH h;exact zN h hk
theorem aFZ {k:Nat} {s:Sl} {ss:List Int} {Q:Int->AH->Prop} (h:Own l A) (e:l[k]? = some (dK s 1 (ss.map (.int .i64)))) (hne:ss≠[]) (hlen:ss.length<9223372036854775807) (hk:∀ x ∈ ss,Q x A):qba_A s Q A:=by
 have hl:s.len=ss.length:=by have:=zT h e;simpa using this
 have hp:0<ss.length:=List.length_pos_iff.2 hne;have cell:∀ j x,ss[j]? = some x->∃ b o,s.a=some ⟨b,o,none⟩/\bM A ⟨b,o+j,none⟩=some (.int .i64 x):=λj x hx=>mG h e (j:=j) (v:=.int .i64 x) (by simp [hx]);unfold qba_A;refine ⟨λh'=>h'=A,?_,bsel_f (by simp [hl];omega) rfl⟩;intro h' e1;subst e1;obtain ⟨x0,hx0⟩:∃ x,ss[0]? = some x:=⟨ss[0],by simp⟩;obtain ⟨b0,o0,c1,c2⟩:=cell 0 x0 hx0;rw [c1];refine inB_in (by omega) (by omega) ⟨x0,by simpa using c2,?_⟩;refine ⟨λx y m h2=>∃ j:Nat,y=j/\j<=ss.length/\m=ss.length-j/\x ∈ ss/\h2=h',⟨_,1,rfl,by omega,rfl,List.mem_of_getElem? hx0,rfl⟩,?_⟩;intro x y m h2 ⟨j,q1,q2,q3,q4,q5⟩;subst q1 q3 q5;refine aG (λc=>?_) λc=>hk x q4;have c:j<ss.length:=by simp [hl] at c;omega
 obtain ⟨y,hy⟩:∃ y,ss[j]? = some y:=⟨ss[j],by simp [c]⟩;obtain ⟨b1,o1,d1,d2⟩:=cell j y hy;rw [c1] at d1;cases d1;refine inB_in (by omega) (by omega) ⟨y,by rw [add_at];simpa using d2,ss.length-(j+1),by omega,j+1,by rw [bG]<;>omega,by omega,rfl,?_,rfl⟩;split
 ·exact List.mem_of_getElem? hy
 ·exact q4
theorem aMI {x:Int} (h0 : -9223372036854775808<=x) (h1:x<9223372036854775808):(Lit.int .i64 x).wf=true:=by
 have e1:IntKind.min .i64 = -9223372036854775808:=rfl;have e2:IntKind.max .i64=9223372036854775807:=rfl;simp [Lit.wf,e1,e2];omega
theorem aHc {j k:Nat} (h:k<=j):(2:Int) ^ k<=2 ^ j:=by
 have:(2:Nat) ^ k<=2 ^ j:=Nat.pow_le_pow_right (by omega) h;have h2:((2 ^ k:Nat):Int)<=((2 ^ j:Nat):Int):=Int.ofNat_le.2 this;simpa using h2
set_option maxHeartbeats 1000000 in
theorem aEX {Q:Int->Int->AH->Prop} (h:Own (Bud b F G n::R) A) (h0:n=0->Q 0 7 A)
  (hk:n≠0->∀ f A',F f->Own (Bud b (λx=>F x/\x≠f) (λx=>G x\/x=f) (n-1)::R) A'->Q f 0 A'):qbb_A (some ⟨b,0,none⟩) 0 Q A:=by
 obtain ⟨mb,g,st,gl,h1,h2,h3,h⟩:=Bud.openH h;have hn:=h1.nonneg;unfold qbb_A qbb_G;refine ⟨λh'=>h'=A,?_,bsel_f rfl (bsel_f rfl rfl)⟩;intro A0 e0;subst e0;refine ⟨λx h'=>h'=A0/\∃ j:Nat,x=j/\j<=11/\(∀ o,o<j->st o=[])/\(j<=10->st j≠[]),?_,λx m h'=>h'=A0/\∃ j:Nat,x=j/\j<=11/\m=11-j/\(∀ o,o<j->st o=[]),⟨_,rfl,0,rfl,by omega,rfl,λo ho=>by omega⟩,?_⟩
 rotate_left
 ·intro x m h' ⟨e1,j,e2,e3,e4,e5⟩;subst e1 e2 e4;refine aG (λc=>?_) λc=>⟨rfl,j,rfl,e3,e5,λg=>absurd c (by simp;omega)⟩;have c:j<=10:=by simp at c;omega
  refine inB_in (by omega) (by omega) (kR c h (aMK (i:=2+j) h (l7 c) ?_));refine aG (λd=>?_) λd=>⟨rfl,j,rfl,e3,e5,λ_ e=>by simp [iU,e] at d⟩
  have d:st j=[]:=by
   apply List.length_eq_zero_iff.1;simp [iU] at d;simp [d]
  refine ⟨11-(j+1),by omega,rfl,j+1,by rw [bG]<;>omega,by omega,rfl,λo ho=>?_⟩;by_cases q:o=j
  ·rw [q];exact d
  ·exact e5 o (by omega)
 intro x h' ⟨e1,j,e2,e3,e5,e6⟩;subst e1 e2;refine aG (λc=>?_) λc=>?_
 ·have c:j=11:=by simp at c;omega
  subst c;exact h0 (by rw [h1.sum];exact nW 11 e5)
 have c:j<=10:=by simp at c;omega
 have hne:=e6 c;have hpj:=fI (k:=j) (by omega);have hlen:=aBh (st:=st) (o:=j) 11 (by omega);rw [<-h1.sum] at hlen;have hlp:0<(st j).length:=List.length_pos_iff.2 hne
 have hn1:n≠0:=by
  have:(0:Int)<(st j).length*2 ^ j:=Int.mul_pos (by omega) hpj.2;omega
 have hl20:((st j).length:Int)<=1048576:=by
  have:((st j).length:Int)*1<=(st j).length*2 ^ j:=Int.mul_le_mul_of_nonneg_left (by omega) (by omega);omega
 refine inB_in (by omega) (by omega) (kR c h ?_);unfold qay_A;show aT h' (.cells [Value.map (some (mb j))].toArray _) _;refine aX h λkb A1 hA1=>?_;show clA 3 (some ⟨kb,0,none⟩) _ A1;refine aL3 (j:=0) (i:=2+j+1) hA1 rfl (l7 c) (by simp [iU];omega) (λp hp=>?_) (λe=>?_) λss s A2 hs hsn hsl hA2=>?_
 ·obtain ⟨a,ha,rfl⟩:=List.mem_map.1 hp;have:=h1.rng j a c ha;exact aMI (by omega) (by omega)
 ·exact absurd (by simpa [iU] using e) hne
 have hss:ss.Perm (st j):=by
  have:(iU (st j)).map (·.1)=st j:=by unfold iU;rw [List.map_map];exact List.map_id' _
  rw [this] at hs;exact hs
 have hssl:ss.length=(st j).length:=hss.length_eq;refine aFZ (k:=0) hA2 rfl hsn (by omega) λa ha=>?_;have ha:=hss.mem_iff.1 ha;have hA3:Own (dJ b mb g st gl n++R) A2:=hA2.tail.tail;refine inB_in (by omega) (by omega) (kR c hA3 (aDL c hA3 λA4 hA4=>?_));obtain ⟨r1,r2,q,r3⟩:=h1.rng j a c ha;have hFa:∀ x,a<=x->x<a+2 ^ j->F x:=λx z1 z2=>(h1.cov x).2 ⟨j,a,c,ha,z1,z2⟩
 refine ⟨λy m h'=>∃ (k:Nat) (st':Nat->List Int),y=k/\k<=j/\k=m/\(∀ o,o<k->st' o=[])/\rD st' (λx=>F x/\¬(a<=x/\x<a+2 ^ k)) (n-2 ^ k)/\Own (dJ b mb g st' gl n++R) h',
  ⟨_,j,_,rfl,Nat.le_refl _,rfl,λo ho=>by rw [fB (by omega)];exact e5 o ho,h1.del c ha,hA4⟩,?_⟩
 intro y m A5 ⟨k,st',i1,i2,i3,i4,i5,i6⟩;subst i1 i3;refine aG (λd=>?_) λd=>?_
 ·have d:0<k:=by simp at d;omega
  obtain ⟨k,rfl⟩:∃ k',k=k'+1:=⟨k-1,by omega⟩;have ek:IntKind.wrap .i64 (((k+1:Nat):Int)-1)=(k:Int):=by rw [bG]<;>omega
  rw [ek];have hk2:=aHc (j:=j) (k:=k+1) i2;have hs:(2:Int) ^ (k+1)=2 ^ k*2:=Int.pow_succ _ _;have hpk:=t5 k;refine inB_in (by omega) (by omega) (kR (by omega) i6 (bsel_f (by simp) ?_));rw [aGA (by omega) 1 (by omega) (by omega),Int.one_mul,bG (by omega) (by omega)];have hnil:st' k=[]:=i4 k (by omega);refine aDK (by omega) (by rw [hnil];simp) i6 λA6 hA6=>?_
  obtain ⟨_,hb⟩:=i5.add (o:=k) (a:=a+2 ^ k) (by omega) ⟨by omega,by omega⟩ ⟨2 ^ (j-k)*q+1,by
   rw [Int.mul_add,Int.mul_one,<- Int.mul_assoc,<- Int.pow_add,show k+(j-k)=j by omega,r3]⟩ (λx z1 z2 ⟨_,z3⟩=>z3 ⟨by omega,by omega⟩)
  refine ⟨k,by omega,k,_,rfl,by omega,rfl,λo ho=>by rw [fB (by omega)];exact i4 o (by omega),?_,hA6⟩;rw [show n-2 ^ k=n-2 ^ (k+1)+2 ^ k by omega];refine hb.congr λx=>?_;rw [hs];constructor
  ·rintro (⟨z1,z2⟩ | ⟨z1,z2⟩)
   ·exact ⟨z1,λz3=>z2 ⟨z3.1,by omega⟩⟩
   ·exact ⟨hFa x (by omega) (by omega),λz3=>by omega⟩
  ·rintro ⟨z1,z2⟩;by_cases w:a<=x/\x<a+2 ^ k*2
   ·exact .inr ⟨by omega,by omega⟩
   ·exact .inl ⟨z1,w⟩
 ·have d:k=0:=by simp at d;omega
  subst d;have hFa0:F a:=hFa a (Int.le_refl _) (by omega);have hga:a ∉ gl:=λhm=>(h2.apart a ((h2.mem a).2 hm)).1 hFa0;have hr:=h1.free hFa0;refine aC6 i6 (aGQ (i:=1) i6 rfl λA6 hA6=>?_);have e1:putM (aFi gl) a (.int .i64 0)=aFi (gl++[a]):=y8 _ _ _ hga;rw [e1] at hA6;have hA6:Own (dJ b mb g st' (gl++[a]) n++R) A6:=hA6;refine zN hA6 (bsel_f rfl (aB2 hA6 λA7 hA7=>?_))
  have e2:IntKind.wrap .i64 (n-IntKind.wrap .i64 ((1:Int)*2 ^ (min (Int.toNat 0) 64)))=n-1:=by
   rw [show IntKind.wrap .i64 ((1:Int)*2 ^ (min (Int.toNat 0) 64))=1 from rfl,bG]<;>omega
  rw [e2] at hA7
  have hb:rD st' (λx=>F x/\x≠a) (n-1):=by
   have:=i5;simp only [Int.pow_zero] at this;refine this.congr λx=>?_;constructor
   ·rintro ⟨z1,z2⟩;exact ⟨z1,λz3=>z2 (by omega)⟩
   ·rintro ⟨z1,z2⟩;exact ⟨z1,λz3=>z2 (by omega)⟩
  refine hk hn1 a A7 hFa0 (Bud.closeH hb ⟨?_,λx=>?_,λx hx=>?_⟩ (by simp;omega) hA7)
  ·exact List.nodup_append.2 ⟨h2.nodup,by simp,λx hx y hy=>by simp at hy;subst hy;exact λe=>hga (e ▸ hx)⟩
  ·rw [List.mem_append,h2.mem x];simp
  ·rcases hx with hx | hx
   ·obtain ⟨g1,g2⟩:=h2.apart x hx;exact ⟨λh=>g1 h.1,g2⟩
   ·rw [hx];exact ⟨λh=>h.2 rfl,hr⟩
end Go.Dn
namespace Go.Dn
variable {A:AH} {l:List SP} {b g:Nat} {mb:Nat->Nat} {st:Nat->List Int} {n:Int}
theorem aJM {k:Nat} {q:Int} (hk:k<=20) (h0:0<=q) (h1:2 ^ k*q<=2097152):(bits .and .i64 (2 ^ k*q) (2 ^ k)==(0:Int))=decide (q % 2=0):=by
 obtain ⟨q,rfl⟩:=Int.eq_ofNat_of_zero_le h0;have hp:=fI hk;have e1:((2:Int) ^ k*(q:Int))=((2 ^ k*q:Nat):Int):=by simp
 have e2:((2:Int) ^ k)=((2 ^ k:Nat):Int):=by simp
 rw [e1] at h1;rw [e1,e2];have h2:bits .and .i64 ((2 ^ k*q:Nat):Int) ((2 ^ k:Nat):Int)=IntKind.wrap .i64 ((BitVec.ofInt 64 ((2 ^ k*q:Nat):Int)&&& BitVec.ofInt 64 ((2 ^ k:Nat):Int)).toNat:Int):=rfl;rw [h2,BitVec.toNat_and,BitVec.ofInt_natCast,BitVec.ofInt_natCast,BitVec.toNat_ofNat,BitVec.toNat_ofNat,Nat.mod_eq_of_lt (by omega),Nat.mod_eq_of_lt (by omega),aLw];have e3:((q:Int) % 2=0)↔(q % 2=0):=by omega
 by_cases g:q % 2=0
 ·rw [if_pos g,decide_eq_true (e3.2 g)];rfl
 ·rw [if_neg g,decide_eq_false (λh=>g (e3.1 h)),bG (by omega) (by omega)];have:0<2 ^ k:=Nat.two_pow_pos k;simp;omega
def fL (rs:List (Int × Int)):List Value:=rs.flatMap λp=>[.int .i64 p.1,.int .i64 p.2]
theorem nJ:∀ {hs:List (Int × Int)} {j:Nat} {p:Int × Int},hs[j]? = some p->(fL hs)[j*2]? = some (.int .i64 p.1)/\(fL hs)[j*2+1]? = some (.int .i64 p.2)
 | [],_,_,e=>by simp at e
 | q::hs,0,p,e=>by simp at e;subst e;exact ⟨rfl,rfl⟩
 | q::hs,j+1,p,e=>by
  have:=nJ (hs:=hs) (j:=j) (p:=p) (by simpa using e);rw [show (j+1)*2=j*2+1+1 by omega];exact this
theorem lF (hs:List (Int × Int)):(fL hs).length=hs.length*2:=by
 induction hs with
 | nil=>rfl
 | cons p hs ih=>simp only [fL,List.flatMap_cons,List.length_append] at ih ⊢;rw [ih];simp;omega
def okR:Int->List (Int × Int)->Bool
 | _,[]=>true
 | last,r::rs=>!(decide (r.1<last))&&!(decide (r.2<=r.1))&&!(decide (r.2 > 1048576))&&okR r.2 rs
def inR (rs:List (Int × Int)) (x:Int):Prop:=∃ r ∈ rs,r.1<=x/\x<r.2
def cA:List (Int × Int)->Int
 | []=>0
 | r::rs=>r.2-r.1+cA rs
theorem aBO:∀ (rs:List (Int × Int)) (last:Int),last<=1048576->okR last rs=true->0<=cA rs/\last+cA rs<=1048576
 | [],last,h,_=>⟨Int.le_refl _,by simp [cA];omega⟩
 | r::rs,last,h,hk=>by
  simp only [okR,Bool.and_eq_true,Bool.not_eq_true',decide_eq_false_iff_not] at hk;obtain ⟨⟨⟨h1,h2⟩,h3⟩,h4⟩:=hk;have:=aBO rs r.2 (by omega) h4;simp only [cA];omega
theorem aCO:∀ (rs:List (Int × Int)) (last:Int),okR last rs=true->∀ r ∈ rs,last<=r.1/\r.1<r.2/\r.2<=1048576
 | [],_,_,r,h=>by simp at h
 | p::rs,last,hk,r,hr=>by
  simp only [okR,Bool.and_eq_true,Bool.not_eq_true',decide_eq_false_iff_not] at hk;obtain ⟨⟨⟨h1,h2⟩,h3⟩,h4⟩:=hk;rcases List.mem_cons.1 hr with rfl | hr
  ·omega
  ·have:=aCO rs p.2 h4 r hr;omega
theorem aDq:∀ (rs:List (Int × Int)) (last:Int) (j:Nat) (r:Int × Int),okR last rs=true->rs[j]? = some r->∀ p ∈ rs.take j,p.2<=r.1
 | [],_,_,_,_,h=>by simp at h
 | p::rs,last,0,r,_,_=>by simp
 | p::rs,last,j+1,r,hk,hr=>by
  simp only [okR,Bool.and_eq_true] at hk;intro p' hp';simp only [List.take_succ_cons,List.mem_cons] at hp';have hr:rs[j]? = some r:=by simpa using hr
  rcases hp' with rfl | hp'
  ·exact (aCO rs _ hk.2 r (List.mem_of_getElem? hr)).1
  ·exact aDq rs p.2 j r hk.2 hr p' hp'
theorem wS:∀ (rs:List (Int × Int)) (j:Nat) (r:Int × Int),rs[j]? = some r->cA (rs.take (j+1))=cA (rs.take j)+(r.2-r.1)
 | [],_,_,h=>by simp at h
 | p::rs,0,r,h=>by simp at h;subst h;simp [cA]
 | p::rs,j+1,r,h=>by
  have:=wS rs j r (by simpa using h);simp only [List.take_succ_cons,cA,this];omega
theorem j7:∀ (rs:List (Int × Int)) (j:Nat),(∀ r ∈ rs,r.1<r.2)->0<=cA (rs.take j)/\cA (rs.take j)<=cA rs
 | [],_,_=>by simp [cA]
 | p::rs,0,h=>by
  have h1:=j7 rs rs.length (λr hr=>h r (List.mem_cons_of_mem _ hr));have h2:=h p List.mem_cons_self;rw [List.take_length] at h1;simp only [List.take_zero,cA];omega
 | p::rs,j+1,h=>by
  have h1:=j7 rs j (λr hr=>h r (List.mem_cons_of_mem _ hr));have h2:=h p List.mem_cons_self;simp only [List.take_succ_cons,cA];omega
def oB (mb:Nat->Nat) (j g:Nat):List Value:=(List.range 11).map (λi=>.map (if i<j then some (mb i) else none))++[.map (some g),.int .i64 0]
theorem aEN:oB mb 11 g=rU mb g 0:=by
 rfl
theorem aCK {j v:Nat} (hj:j<11):(oB mb j g).set j (.map (some v))=oB (pS mb j v) (j+1) g:=by
 unfold oB;rw [List.set_append_left _ _ (by simp;omega)];congr 1;apply List.ext_getElem?;intro i;rw [List.getElem?_set];by_cases e:j=i
 ·subst e;rw [if_pos rfl,if_pos (by simp;omega),List.getElem?_map,List.getElem?_range hj];simp [dG]
 ·rw [if_neg e,List.getElem?_map,List.getElem?_map];cases hi:(List.range 11)[i]? with
  | none=>rfl
  | some q=>
   obtain ⟨h1,h2⟩:=List.getElem?_eq_some_iff.1 hi;have:q=i:=by simpa using h2.symm
   subst this;simp only [Option.map_some];rw [fB (Ne.symm e)];by_cases g:q<j
   ·rw [if_pos g,if_pos (by omega)]
   ·rw [if_neg g,if_neg (by omega)]
def aCG (mb:Nat->Nat) (j:Nat):List SP:=(List.range j).map λi=>MapI (mb i) .i64 []
theorem aET {j v:Nat}:aCG (pS mb j v) (j+1)=aCG mb j++[MapI v .i64 []]:=by
 unfold aCG;rw [List.range_succ,List.map_append];congr 1
 ·apply List.map_congr_left;intro i hi;have:i<j:=by simpa using hi
  rw [fB (by omega)]
 ·simp [dG]
theorem aAY {P:SP} {k j:Nat} {s:Sl} {rs:List (Int × Int)} {r:Int × Int} {K:Int->Int->Prop} (h:Own l A) (e:l[k]? = some P) (hr:bI P s 2 (fL rs)) (hj:rs[j]? = some r) (hK:K r.1 r.2) :
  aF s.a λa=>bF (j:Int) s.len (aI .i64 (Addr.add a (Int.toNat (j:Int)*2)) A λn8=>aI .i64 (Addr.add (Addr.add a (Int.toNat (j:Int)*2)) 1) A λn9=>K n8 n9):=by
 have hl:s.len=rs.length:=by have:=eV h e hr;rw [lF] at this;omega
 have hjl:=(List.getElem?_eq_some_iff.1 hj).1;obtain ⟨q1,q2⟩:=nJ hj;obtain ⟨b,o,c1,c2⟩:=bW h e hr q1;obtain ⟨b',o',c3,c4⟩:=bW h e hr q2;rw [c1] at c3;cases c3;rw [c1];refine inB_in (by omega) (by omega) ⟨r.1,?_,r.2,?_,hK⟩
 ·rw [add_at];simpa using c2
 ·rw [add_at,add_at];simpa [Nat.add_assoc] using c4
theorem aGI {rs:List (Int × Int)} {j:Nat} {r:Int × Int} (hj:rs[j]? = some r) (x:Int):inR (rs.take (j+1)) x↔inR (rs.take j) x\/(r.1<=x/\x<r.2):=by
 have:rs.take (j+1)=rs.take j++[r]:=by
  rw [List.take_add_one,hj];rfl
 unfold inR;rw [this];constructor
 ·rintro ⟨p,hp,h1⟩;rcases List.mem_append.1 hp with hp | hp
  ·exact .inl ⟨p,hp,h1⟩
  ·simp at hp;subst hp;exact .inr h1
 ·rintro (⟨p,hp,h1⟩ | h1)
  ·exact ⟨p,List.mem_append.2 (.inl hp),h1⟩
  ·exact ⟨r,List.mem_append.2 (.inr (by simp)),h1⟩
set_option maxHeartbeats 1000000 in
theorem aER {P:SP} {k:Nat} {s:Sl} {rs:List (Int × Int)} {Q:Option Addr->Int->AH->Prop} (h:Own l A) (e:l[k]? = some P) (hr:bI P s 2 (fL rs))
  (h4:rs.length > 64->Q none 4 A) (h3:rs.length<=64->okR 0 rs=false->Q none 3 A)
  (hk:rs.length<=64->okR 0 rs=true->∀ b A',Own (Bud b (inR rs) (λ_=>False) (cA rs)::l) A'->Q (some ⟨b,0,none⟩) 0 A'):qar_A s Q A:=by
 have hl:s.len=rs.length:=by have:=eV h e hr;rw [lF] at this;omega
 unfold qar_A qar_G;refine aG (λc=>h4 (by simp [hl] at c;omega)) λc=>?_;have c:rs.length<=64:=by simp [hl] at c;omega
 refine ⟨λx y m h'=>h'=A/\∃ j:Nat,y=j/\j<=rs.length/\rs.length-j=m/\okR 0 rs=okR x (rs.drop j),⟨_,rfl,0,rfl,by omega,rfl,by simp⟩,?_⟩;intro x y m h' ⟨e0,j,e1,e2,e3,e4⟩;subst e0 e1 e3;refine aG (λd=>?_) λd=>?_
 ·have d:j<rs.length:=by simp [hl] at d;omega
  obtain ⟨r,hj⟩:∃ r,rs[j]? = some r:=⟨rs[j],by simp [d]⟩
  have hd:rs.drop j=r::rs.drop (j+1):=by
   rw [List.drop_eq_getElem_cons d];have:=(List.getElem?_eq_some_iff.1 hj).2;rw [this]
  rw [hd] at e4;simp only [okR] at e4;refine aAY h e hr hj ?_;refine aG (λg1=>h3 c (by rw [e4,g1];rfl)) λg1=>?_;refine aG (λg2=>h3 c (by rw [e4,g2];simp)) λg2=>?_;refine aG (λg3=>h3 c (by rw [e4,g3];simp)) λg3=>?_;exact ⟨rs.length-(j+1),by omega,rfl,j+1,by rw [bG]<;>omega,by omega,rfl,by rw [e4,g1,g2,g3];rfl⟩
 have d:j=rs.length:=by simp [hl] at d;omega
 have hok:okR 0 rs=true:=by rw [e4,d,List.drop_length];rfl
 clear e4;refine tD (k:=.i64) h λg A1 hA1=>?_;show aT A1 (.cells (oB (λ_=>0) 0 g).toArray _) _;refine aX hA1 λb A2 hA2=>?_;refine ⟨λx m h2=>∃ (j:Nat) (mb:Nat->Nat),x=j/\j<=11/\11-j=m/\Own (At b (oB mb j g)::MapI g .i64 []::(aCG mb j++l)) h2,⟨_,0,_,rfl,by omega,rfl,hA2⟩,?_⟩;intro x m A3 ⟨j,mb,i1,i2,i3,hA3⟩;subst i1 i3;refine aG (λd=>?_) λd=>?_
 ·have d:j<11:=by simp at d;omega
  refine tD (k:=.i64) hA3 λv A4 hA4=>?_;refine inB_in (by omega) (by omega) ?_;rw [add_at];refine aJ (i:=1) hA4 rfl ?_ rfl λA5 hA5=>?_
  ·rw [show 0+Int.toNat (j:Int)*1=j by omega];unfold oB;rw [List.getElem?_append_left (by simp;omega),List.getElem?_map,List.getElem?_range d];rfl
  ·rw [show 0+Int.toNat (j:Int)*1=j by omega,aCK d] at hA5;refine ⟨11-(j+1),by omega,j+1,pS mb j v,by rw [bG]<;>omega,by omega,rfl,hA5.perm ?_⟩;rw [aET];show List.Perm (MapI v .i64 []::At b _::MapI g .i64 []::(aCG mb j++l)) (At b _::MapI g .i64 []::(aCG mb j++[MapI v .i64 []]++l));rw [List.append_assoc];exact (List.perm_middle (l₁:=At b _::MapI g .i64 []::aCG mb j) (l₂:=l)).symm
 have d:j=11:=by simp at d;omega
 subst d;rw [aEN] at hA3;have hA3:Own (dJ b mb g (λ_=>[]) [] 0++l) A3:=hA3;have hlo:=aCO rs 0 hok;have hsz:=aBO rs 0 (by omega) hok
 refine ⟨λx m h2=>∃ (i:Nat) (st:Nat->List Int),x=i/\i<=rs.length/\rs.length-i=m/\rD st (inR (rs.take i)) (cA (rs.take i))/\Own (dJ b mb g st [] (cA (rs.take i))++l) h2,
  ⟨_,0,_,rfl,by omega,rfl,rD.empty.congr (λx=>by simp [inR]),hA3⟩,?_⟩
 intro x m A4 ⟨i,st,i1,i2,i3,hB,hA4⟩;subst i1 i3
 have ek:(dJ b mb g st [] (cA (rs.take i))++l)[13+k]? = some P:=by
  rw [List.getElem?_append_right (by simp [dJ,qH])];rw [show 13+k-(dJ b mb g st [] (cA (rs.take i))).length=k by simp [dJ,qH]];exact e
 refine aG (λd=>?_) λd=>?_
 rotate_left
 ·have d:i=rs.length:=by simp [hl] at d;omega
  subst d;rw [List.take_length] at hB hA4;exact hk c hok b A4 (Bud.closeH hB ⟨List.nodup_nil,λx=>by simp,λx hx=>hx.elim⟩ (by simp;omega) hA4)
 have d:i<rs.length:=by simp [hl] at d;omega
 obtain ⟨r,hj⟩:∃ r,rs[i]? = some r:=⟨rs[i],by simp [d]⟩;obtain ⟨r1,r2,r3⟩:=hlo r (List.mem_of_getElem? hj);have hbef:=aDq rs 0 i r hok hj;have hmono:=j7 rs i (λr hr=>(hlo r hr).2.1);have hmono2:=j7 rs (i+1) (λr hr=>(hlo r hr).2.1);have hst:=wS rs i r hj;refine aAY hA4 ek hr hj ?_
 refine ⟨λx m h2=>∃ st,r.1<=x/\x<=r.2/\(r.2-x).toNat=m/\rD st (λz=>inR (rs.take i) z\/(r.1<=z/\z<x)) (cA (rs.take i)+(x-r.1))/\Own (dJ b mb g st [] (cA (rs.take i))++l) h2,
  ⟨_,st,Int.le_refl _,by omega,rfl,by rw [Int.sub_self,Int.add_zero];exact hB.congr λz=>⟨.inl,λh=>h.elim id λh=>by omega⟩,hA4⟩,?_⟩
 intro x m A5 ⟨st5,j1,j2,j3,hB5,hA5⟩;subst j3;refine aG (λd5=>?_) λd5=>?_
 rotate_left
 ·have d5:x=r.2:=by simp at d5;omega
  subst d5;refine zN hA5 (aB2 hA5 λA6 hA6=>?_)
  have e6:IntKind.wrap .i64 (cA (rs.take i)+IntKind.wrap .i64 (r.2-r.1))=cA (rs.take (i+1)):=by
   rw [hst,bG (n:=r.2-r.1) (by omega) (by omega),bG (by omega) (by omega)]
  rw [e6] at hA6;rw [<-hst] at hB5;exact ⟨rs.length-(i+1),by omega,i+1,st5,by rw [bG]<;>omega,by omega,rfl,hB5.congr λz=>(aGI hj z).symm,hA6⟩
 have d5:x<r.2:=by simpa using d5
 refine ⟨λy m h2=>h2=A5/\∃ o:Nat,y=o/\o<=10/\10-o=m/\(∃ q,x=2 ^ o*q)/\x+2 ^ o<=r.2,⟨_,rfl,0,rfl,by omega,rfl,⟨x,by simp⟩,by simp;omega⟩,?_⟩;intro y m A6 ⟨k0,o,k1,k2,k3,⟨q,k4⟩,k5⟩;subst k0 k1 k3;have hp:=fI (k:=o) (by omega)
 have q0:0<=q:=by
  rcases Int.lt_or_le q 0 with g | g
  ·have:=Int.mul_neg_of_pos_of_neg hp.2 g;omega
  ·exact g
 have fin:qaq_A (some ⟨b,0,none⟩) x (o:Int) (λh40=>bsel (decide ((o:Int)<0)) False (∃ m32,m32<(r.2-x).toNat/\∃ st,r.1<=IntKind.wrap .i64 (x+IntKind.wrap .i64 ((1:Int)*2 ^ (min (Int.toNat (o:Int)) 64)))/\IntKind.wrap .i64 (x+IntKind.wrap .i64 ((1:Int)*2 ^ (min (Int.toNat (o:Int)) 64)))<=r.2/\(r.2-IntKind.wrap .i64 (x+IntKind.wrap .i64 ((1:Int)*2 ^ (min (Int.toNat (o:Int)) 64)))).toNat=m32/\rD st (λz=>inR (rs.take i) z\/(r.1<=z/\z<IntKind.wrap .i64 (x+IntKind.wrap .i64 ((1:Int)*2 ^ (min (Int.toNat (o:Int)) 64))))) (cA (rs.take i)+(IntKind.wrap .i64 (x+IntKind.wrap .i64 ((1:Int)*2 ^ (min (Int.toNat (o:Int)) 64)))-r.1))/\Own (dJ b mb g st [] (cA (rs.take i))++l) h40)) A6:=by
  rw [aGA (by omega) 1 (by omega) (by omega),Int.one_mul,bG (n:=x+2 ^ o) (by omega) (by omega)];refine aDI hA5 k2 hB5 ⟨by omega,by omega⟩ ⟨q,k4⟩ (λz z1 z2=>?_) λst' A7 hB7 hA7=>bsel_f (by simp) ⟨_,?_,st',by omega,by omega,rfl,?_,hA7⟩
  ·rintro (⟨p,hp1,hp2⟩ | hz)
   ·have:=hbef p hp1;omega
   ·omega
  ·omega
  ·rw [show cA (rs.take i)+(x+2 ^ o-r.1)=cA (rs.take i)+(x-r.1)+2 ^ o by omega];refine hB7.congr λz=>?_;constructor
   ·rintro ((z1 | z1) | z1)
    ·exact .inl z1
    ·exact .inr (by omega)
    ·exact .inr (by omega)
   ·rintro (z1 | z1)
    ·exact .inl (.inl z1)
    ·by_cases w:z<x
     ·exact .inl (.inr ⟨z1.1,w⟩)
     ·exact .inr (by omega)
 refine aG (λd6=>?_) λd6=>fin;have d6:o<10:=by simp at d6;omega
 refine bsel_f (by simp) ?_;refine aG (λd7=>?_) λd7=>fin;rw [aGA (by omega) 1 (by omega) (by omega),Int.one_mul] at d7
 have d7:q % 2=0:=by
  rw [k4,aJM (by omega) q0 (by omega)] at d7;simpa using d7
 refine bsel_f (by simp) ?_;have hs:(2:Int) ^ (o+1)=2 ^ o*2:=Int.pow_succ _ _;refine aG (λd8=>?_) λd8=>fin;rw [aGA (by omega) 2 (by omega) (by omega),bG (by omega) (by omega)] at d8;have d8:x+2*2 ^ o<=r.2:=by simpa using d8
 exact ⟨10-(o+1),by omega,rfl,o+1,by rw [bG]<;>omega,by omega,rfl,⟨q / 2,by rw [hs,Int.mul_assoc,show 2*(q / 2)=q by omega,k4]⟩,by rw [hs];omega⟩
end Go.Dn
