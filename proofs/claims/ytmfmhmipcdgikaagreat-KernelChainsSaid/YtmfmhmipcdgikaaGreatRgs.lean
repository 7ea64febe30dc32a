/- What the proof stands on. -/
import Derived.Test.YtmfmhmipcdgikaaGreatG
import Derived.Test.YtmfmhmipcdgikaaGreatDnN
import Derived.Test.YtmfmhmipcdgikaaGreatMaps
import Derived.Test.YtmfmhmipcdgikaaGreatBudNew
import Derived.Test.YtmfmhmipcdgikaaGreatChild
import Derived.Test.YtmfmhmipcdgikaaGreatCut
namespace Go.Dn
variable {A:AH} {l R:List SP} {P:SP} {i k v b o n:Nat} {s:Sl} {L:List Reg} {y:Reg} {cs:List Value}
theorem pJ (h:Own l A) (e:l[i]? = some (At b cs)) (hn:o+n<=cs.length):lC A (some ⟨b,o,none⟩) n ((cs.drop o).take n):=by
 refine ⟨by simp;omega,λj hj=>?_⟩;refine ⟨cs[o+j]'(by omega),?_,?_⟩
 ·rw [List.getElem?_take_of_lt hj,List.getElem?_drop];simp
 ·rw [add_at];exact dH e h (by simp)
theorem aDT {sz m:Nat} {d x:Sl} {vs pre mid post:List Value} {K:Int->AP} (h:Own (At b (pre++mid++post)::R) A) (hd:d.a=some ⟨b,pre.length,none⟩) (hm:Nat.min x.len d.len=m) (hl:mid.length=m*sz)
  (hr:lC A x.a (m*sz) vs) (hvl:vs.length=m*sz) (hv:∀ v ∈ vs,v.oneCell'=true) (hk:∀ A',Own (At b (pre++vs++post)::R) A'->K m A'):cpA sz d x A K:=by
 refine ⟨vs,by rw [hm];exact hr,?_⟩;rw [hm,hd];show qU vs (Addr.add ⟨b,pre.length,none⟩ 0) 0 A _;rw [add_at];exact iC vs 0 A pre mid post _ h (by omega) (by omega) hv hk
theorem kW (L:List Reg) (v:Nat):regC L=regC (L.take v)++regC (L.drop v):=by rw [<-gS,List.take_append_drop]
theorem SlO.openS {sz:Nat} (h:Own (SlO s sz cs::R) A) (hc:s.cap≠0):∃ b rest,s.a=some ⟨b,0,none⟩/\s.len*sz=cs.length/\s.len<=s.cap/\(cs++rest).length=s.cap*sz/\Own (At b (cs++rest)::R) A:=by
 obtain ⟨⟨h1,h2⟩,h⟩:=h.pure
 have h3:Own ((λB=>∃ b rest,s.a=some ⟨b,0,none⟩/\(cs++rest).length=s.cap*sz/\At b (cs++rest) B)::R) A:=h.imp λB hB=>by
  rcases hB with hB | hB
  ·exact absurd hB hc
  ·exact hB
 obtain ⟨b,h3⟩:=h3.ex;obtain ⟨rest,h3⟩:=h3.ex;obtain ⟨ha,h3⟩:=h3.pure;obtain ⟨hl,h3⟩:=h3.pure;exact ⟨b,rest,ha,h1,h2,hl,h3⟩
theorem At.ne {b b':Nat} {cs cs':List Value} (h:Own (At b cs::At b' cs'::R) A):b≠b':=by
 intro e;subst e;obtain ⟨B,C,h3,_,_,⟨t,hB⟩,h5⟩:=h;obtain ⟨D,hD,⟨t2,hD2⟩⟩:=h5.sat;rcases h3 b with g | g
 ·rw [hB] at g;cases g
 ·rw [hD _ _ hD2] at g;cases g
theorem aA8 {Q:Sl->AH->Prop} (h:Own (SlO s 6 (regC L)::At b y.cells::R) A) (hs:s.a=none->L=[]) (hv:v<=L.length) (hb:L.length<=1000)
  (hk:∀ s' A',s'.a≠none->Own (SlO s' 6 (regC (L.take v++y::L.drop v))::At b y.cells::R) A'->Q s' A'):qeo_A s v ⟨some ⟨b,0,none⟩,1,1⟩ Q A:=by
 have hl:s.len=L.length:=dN (k:=0) h rfl aU;have hcap:s.len<=s.cap:=h.sat.elim λB hB=>hB.2.1.2;unfold qeo_A qeo_G;have hy1:regC [y]=y.cells:=by simp [regC]
 have hone:∀ v ∈ y.cells,v.oneCell'=true:=λv hv=>regC_one (L:=[y]) (by rw [hy1];exact hv);refine inB_in (by omega) (by omega) (bsel_f rfl (aG (λg=>?_) λg=>?_))
 ·have g:(v:Int)=(s.len:Int):=eq_of_beq g;have hvl:v=L.length:=by omega
  subst hvl;refine cN (i:=0) (c1:=regC L) h rfl (by simpa using fD (n:=1) (cap:=1) (sz:=6) (cs:=y.cells) (rest:=[]) rfl) (λg=>nomatch g) (λg=>by rw [hs g];rfl) rfl hone ⟨by simp only [hl];omega,by simp only [hl];omega⟩ λs' A3 j1 j2 h4=>?_;refine hk s' A3 (λz=>by have:=j2 z;simp [Reg.cells] at this) ?_;rw [List.take_length,List.drop_length,gS,hy1];exact h4
 ·have g:¬ (v:Int)=(s.len:Int):=λz=>by rw [z] at g;simp at g
  have hvl:v<L.length:=by omega
  obtain ⟨b0,rest,ha,hl6,_,hroom,h⟩:=SlO.openS h (by omega)
  have hw:IntKind.wrap .i64 ((Int.ofNat s.len)+(Int.ofNat 1))=((L.length+1:Nat):Int):=by
   show IntKind.wrap .i64 ((s.len:Int)+1)=_;rw [bG]<;>omega
  have hw1:IntKind.wrap .i64 ((v:Int)+(Int.ofNat 1))=((v+1:Nat):Int):=by
   show IntKind.wrap .i64 ((v:Int)+1)=_;rw [bG]<;>omega
  have hrl:=bX L;have hLl:(L.take v++y::L.drop v).length=L.length+1:=by simp;omega
  have ht:=bX (L.take v);have hd:=bX (L.drop v);simp only [List.length_take,List.length_drop] at ht hd;have htv:(regC (L.take v)).length=v*6:=by rw [ht,Nat.min_eq_left hv]
  have hne:=At.ne h
  have ha0:(if s.cap=0 then s.a else Option.map (λx=>Addr.add x (0*6)) s.a)=some ⟨b0,0,none⟩:=by
   rw [if_neg (by omega),ha];rfl
  have hone2:∀ x ∈ regC (L.drop v),x.oneCell'=true:=λx hx=>regC_one hx
  have hfin:regC (L.take v)++y.cells++regC (L.drop v)=regC (L.take v++y::L.drop v):=by
   rw [gS,show y::L.drop v=[y]++L.drop v from rfl,gS,hy1,List.append_assoc]
  simp only [hw,hw1,ha0,Int.toNat_natCast];refine aG (λg2=>?_) λg2=>?_
  ·-- no room
   have g2:((L.length+1:Nat):Int) > (s.cap:Int):=of_decide_eq_true g2;have hcl:s.cap=L.length:=by omega
   refine inB_in (by omega) (by omega) ?_;have hn:IntKind.wrap .i64 (((L.length+1:Nat):Int)-(v:Int))=((L.length+1-v:Nat):Int):=by rw [bG]<;>omega
   rw [hn];refine ⟨⟨by omega,by omega,by omega⟩,λz=>by simp at z;omega,λ_=>?_⟩;refine ⟨regC (L.take v),?_,by simp;omega,?_,λcap hcap2=>?_⟩
   ·have:=pJ (i:=0) (o:=0) (n:=v*6) h rfl (by simp;omega);rw [List.drop_zero,List.take_append_of_le_length (by omega)] at this
    have e2:(regC L).take (v*6)=regC (L.take v):=by
     rw [kW L v,List.take_append_of_le_length (by omega),List.take_of_length_le (by omega)]
    rw [e2] at this;exact this
   ·have:=growslice_fits (need:=v+(L.length+1-v)) (old:=s.cap) (bytes:=32) (by omega) (by omega);simpa using this
   ·have hz:(zNews 6 #[(.int .i64 (0:Int)),(.int .i64 (0:Int)),(.bool false),(.bool false),(.bool false),(.int .i64 (0:Int))] ((L.length+1-v:Nat):Int)).length=(L.length+1-v)*6:=by
     unfold zNews;rw [if_neg (by rw [Int.toNat_natCast];omega),Array.length_toList,dF,Int.toNat_natCast];rfl
    simp only [Int.toNat_natCast] at hcap2 ⊢;have hsz:=dF (z:=#[Value.int .i64 (0:Int),(.int .i64 (0:Int)),(.bool false),(.bool false),(.bool false),(.int .i64 (0:Int))]) (n:=cap-(v+(L.length+1-v)));generalize Builtin.zeroCells #[Value.int .i64 (0:Int),(.int .i64 (0:Int)),(.bool false),(.bool false),(.bool false),(.int .i64 (0:Int))] (cap-(v+(L.length+1-v)))=zs at hsz ⊢;generalize zNews 6 #[Value.int .i64 (0:Int),(.int .i64 (0:Int)),(.bool false),(.bool false),(.bool false),(.int .i64 (0:Int))] ((L.length+1-v:Nat):Int)=zn at hz ⊢
    have e:(regC (L.take v)).toArray++zn.toArray++zs=(regC (L.take v)++zn.take 6++(zn.drop 6++zs.toList)).toArray:=by
     apply Array.ext';rw [<-List.append_assoc,List.append_assoc (regC (L.take v)),List.take_append_drop];simp
    rw [e];refine aX h λb3 A3 h3=>?_;have hcap3:v+(L.length+1-v)<=cap:=hcap2;have hzs:zs.toList.length=(cap-(v+(L.length+1-v)))*6:=by simpa using hsz
    clear hcap2;generalize updA A b3 _=A3 at h3 ⊢;refine inB_in (by omega) (by omega) ?_;refine aDT (m:=1) (pre:=regC (L.take v)) (vs:=y.cells) h3 ?_ (by show min (_:Nat) _=_;dsimp only;omega) (by simp;omega) ?_ rfl hone λA4 h4=>?_
    ·rw [if_neg (by omega)];show some (Addr.add ⟨b3,0,none⟩ (v*6))=_;rw [add_at,htv,Nat.zero_add]
    ·have:=pJ (i:=2) (o:=0) (n:=6) h3 rfl (by simp [Reg.cells]);simpa [Reg.cells] using this
    refine inB_in (by omega) (by omega) (inB_in (by omega) (by omega) ?_);have hzl:(zn.drop 6).length=(L.length-v)*6:=by simp;omega
    have h4:Own (At b3 ((regC (L.take v)++y.cells)++zn.drop 6++zs.toList)::At b0 (regC L++rest)::At b y.cells::R) A4:=by simpa [List.append_assoc] using h4
    refine aDT (m:=L.length-v) (pre:=regC (L.take v)++y.cells) (vs:=regC (L.drop v)) h4 ?_ (by show min (_:Nat) _=_;dsimp only;omega) hzl ?_ hd hone2 λA5 h5=>?_
    ·rw [if_neg (by omega)];show some (Addr.add ⟨b3,0,none⟩ ((v+1)*6))=_;rw [add_at];congr 2;simp [htv,Reg.cells];omega
    ·rw [if_neg (by omega),ha];show lC A4 (some (Addr.add ⟨b0,0,none⟩ (v*6))) _ _;rw [add_at,Nat.zero_add];have:=pJ (i:=1) (o:=v*6) (n:=(L.length-v)*6) h4 rfl (by simp;omega);rw [List.drop_append_of_le_length (by omega),List.take_append_of_le_length (by simp;omega)] at this
     have e2:((regC L).drop (v*6)).take ((L.length-v)*6)=regC (L.drop v):=by
      rw [List.take_of_length_le (by simp;omega),kW L v,List.drop_append_of_le_length (by omega),List.drop_of_length_le (by omega),List.nil_append]
     rw [e2] at this;exact this
    rw [hfin] at h5;refine hk _ A5 (by simp) ?_;have h6:=(h5.swap).tail;refine h6.imp λB hB=>⟨⟨?_,by simp;omega⟩,.inr ⟨b3,zs.toList,rfl,?_,hB⟩⟩
    ·rw [bX];simp;omega
    ·rw [List.length_append,bX,hzs];simp;omega
  ·-- there is room
   have g2:¬ ((L.length+1:Nat):Int) > (s.cap:Int):=of_decide_eq_false g2;have e1:(s.cap=v+1)=False:=by simp;omega
   have e2:(s.cap=v)=False:=by simp;omega
   simp only [e1,e2,if_false]
   have ea:Option.map (λx:Addr=>x.add (v*6)) (some ⟨b0,0,none⟩)=some ⟨b0,v*6,none⟩:=by
    show some (Addr.add ⟨b0,0,none⟩ (v*6))=_;rw [add_at,Nat.zero_add]
   have ea1:Option.map (λx:Addr=>x.add ((v+1)*6)) (some ⟨b0,0,none⟩)=some ⟨b0,(v+1)*6,none⟩:=by
    show some (Addr.add ⟨b0,0,none⟩ ((v+1)*6))=_;rw [add_at,Nat.zero_add]
   simp only [ea,ea1];refine inB_in (by omega) (by omega) (inB_in (by omega) (by omega) ?_);obtain ⟨t1,ht1⟩:=h.at (i:=1) (b:=b) rfl;obtain ⟨t0,ht0⟩:=h.at (i:=0) (b:=b0) rfl
   refine ⟨λz=>hne z.symm,⟨_,t1,ht1⟩,⟨_,t0,ht0,by
    have:(regC L++rest).length≠0:=by rw [List.length_append,hrl];omega
    simpa using this⟩,?_⟩
   refine aN rfl (inB_in (by omega) (by omega) (inB_in (by omega) (by omega) ?_));have hrest:rest.length=(s.cap-L.length)*6:=by rw [List.length_append,hrl] at hroom;omega
   have h2:Own (At b0 ((regC (L.take (v))++(regC (L.drop v)).take 6)++((regC (L.drop v)).drop 6++rest.take 6)++rest.drop 6)::At b y.cells::R) A:=by
    have:(regC (L.take (v))++(regC (L.drop v)).take 6)++((regC (L.drop v)).drop 6++rest.take 6)++rest.drop 6=regC L++rest:=by
     rw [kW L v,List.append_assoc (regC (L.take v)),<- List.append_assoc ((regC (L.drop v)).take 6),List.take_append_drop];simp
    rw [this];exact h
   refine aDT (m:=L.length-v) (vs:=regC (L.drop v)) h2 ?_ (by show min (_:Nat) _=_;dsimp only;omega) (by simp;omega) ?_ hd hone2 λA3 h3=>?_
   ·have e9:(regC (L.take v)++(regC (L.drop v)).take 6).length=(v+1)*6:=by rw [List.length_append,List.length_take,htv,hd];omega
    rw [e9]
   ·have:=pJ (i:=0) (o:=v*6) (n:=(L.length-v)*6) h rfl (by simp;omega);rw [List.drop_append_of_le_length (by omega),List.take_append_of_le_length (by simp;omega)] at this
    have e2:((regC L).drop (v*6)).take ((L.length-v)*6)=regC (L.drop v):=by
     rw [List.take_of_length_le (by simp;omega),kW L v,List.drop_append_of_le_length (by omega),List.drop_of_length_le (by omega),List.nil_append]
    rw [e2] at this;exact this
   refine inB_in (by omega) (by omega) ?_;have h3:Own (At b0 (regC (L.take v)++(regC (L.drop v)).take 6++(regC (L.drop v)++rest.drop 6))::At b y.cells::R) A3:=by simpa [List.append_assoc] using h3
   refine aDT (m:=1) (vs:=y.cells) h3 ?_ (by show min (_:Nat) _=_;dsimp only;omega) (by simp;omega) ?_ rfl hone λA4 h4=>?_
   ·rw [htv]
   ·have:=pJ (i:=1) (o:=0) (n:=6) h3 rfl (by simp [Reg.cells]);simpa [Reg.cells] using this
   rw [<-List.append_assoc,hfin] at h4;refine hk _ A4 (by simp) ?_;refine h4.imp λB hB=>⟨⟨?_,by simp;omega⟩,.inr ⟨b0,rest.drop 6,rfl,?_,hB⟩⟩
   ·rw [bX];simp;omega
   ·rw [List.length_append,bX,hLl,List.length_drop,hrest];show _=s.cap*6;omega
theorem aIB (out:List Reg) (r:Reg):kU out r≠[]:=by
 unfold kU;split
 ·split<;>simp
 ·simp
theorem aFd (h:L≠[]):mergedR L≠[]:=by
 have:∀ (L:List Reg) (o:List Reg),(L≠[]\/o≠[])->L.foldl kU o≠[]:=by
  intro L
  induction L with
  | nil=>intro o h;simpa using h
  | cons y L ih=>intro o _;exact ih _ (.inr (aIB o y))
 exact this L [] (.inl h)
def atS (y:Reg):List Reg->Nat->Nat->Option Nat
 | [],_,a=>some a
 | x::L,i,a=>if x.b<=y.a then atS y L (i+1) (i+1) else if x.a<y.b then none else atS y L (i+1) a
def addL (L:List Reg) (y:Reg):List Reg:=match atS y L 0 0 with
 | none=>[]
 | some v=>mergedR (L.take v++y::L.drop v)
def iB (L:List Reg) (y:Reg):Int:=if rightB y.a y.b=false then 1 else if goodB L=false then 3 else match atS y L 0 0 with
 | none=>6
 | some _=>if (addL L y).length > 64 then 4 else 0
theorem aEk (h:goodB L=true):L.length<=64:=by
 unfold goodB at h;rw [Bool.and_eq_true] at h;exact of_decide_eq_true h.1
theorem aGt {Q:Sl->Int->AH->Prop} (h:Own l A) (e:l[k]? = some P) (hr:bI P s 6 (regC L)) (hn:s.a=none->L=[])
  (hk0:∀ A',Own l A'->iB L y≠0->Q Sl.nil (iB L y) A') (hk:∀ s' A',iB L y=0->s'.a≠none->Own (SlO s' 6 (regC (addL L y))::l) A'->Q s' 0 A'):qer_A s y.a y.b y.w y.u y.x y.k Q A:=by
 have hl:=dN h e hr;unfold qer_A qer_G;refine aDa ?_;cases hrb:rightB y.a y.b with
 | false=>
  have:iB L y=1:=by unfold iB;rw [if_pos hrb]
  rw [this] at hk0;exact aN rfl (hk0 A h (by decide))
 | true=>
 refine bsel_f rfl (aEp h e hr ?_);cases hg:goodB L with
 | false=>
  have:iB L y=3:=by unfold iB;rw [if_neg (by simp [hrb]),if_pos hg]
  rw [this] at hk0;exact aN rfl (hk0 A h (by decide))
 | true=>
 have hlen:=aEk hg
 have hE:iB L y=match atS y L 0 0 with
  | none=>6
  | some _=>if (addL L y).length > 64 then 4 else 0:=by unfold iB;rw [if_neg (by simp [hrb]),if_neg (by simp [hg])]
 refine bsel_f rfl ⟨λa x m A'=>∃ v t:Nat,x=v/\a=t/\t<=v/\m+v=L.length/\A'=A/\atS y L 0 0=atS y (L.drop v) v t,⟨L.length,0,0,rfl,rfl,Nat.le_refl _,rfl,rfl,by simp⟩,?_⟩;intro a x m A1 ⟨v,t,e1,e2,e3,e4,e5,e6⟩;subst e1 e2 e5;refine aG (λc=>?_) λc=>?_
 ·have c:(v:Int)<s.len:=of_decide_eq_true c;obtain ⟨z,hz⟩:∃ z,L[v]? = some z:=⟨L[v]'(by omega),by simp⟩
  have hd:L.drop v=z::L.drop (v+1):=by
   have hlt:=(List.getElem?_eq_some_iff.1 hz).1;rw [List.drop_eq_getElem_cons hlt];rw [List.getElem?_eq_getElem hlt] at hz;rw [Option.some.inj hz]
  rw [hd,atS] at e6;refine ⟨λa' A'=>∃ t':Nat,a'=t'/\t'<=v+1/\A'=A1/\atS y L 0 0=atS y (L.drop (v+1)) (v+1) t',λa' A' ⟨t',f1,f2,f3,f4⟩=>⟨m-1,by omega,v+1,t',by rw [bG]<;>omega,f1,f2,by omega,f3,f4⟩,?_⟩;obtain ⟨ad,q1,q2⟩:=nX h e hr hz;rw [q1];refine inB_in (by omega) c (q2 _ ?_);refine aG (λg=>?_) λg=>?_
  ·rw [if_pos (of_decide_eq_true g)] at e6;exact ⟨v+1,by rw [bG]<;>omega,Nat.le_refl _,rfl,e6⟩
  ·rw [if_neg (of_decide_eq_false g)] at e6;refine aG (λg2=>?_) λg2=>?_
   ·rw [if_pos (of_decide_eq_true g2)] at e6;rw [e6] at hE;have hE:iB L y=6:=hE;rw [hE] at hk0;exact hk0 A1 h (by decide)
   ·rw [if_neg (of_decide_eq_false g2)] at e6;exact ⟨t,rfl,by omega,rfl,e6⟩
 ·have c:¬ (v:Int)<s.len:=of_decide_eq_false c;have hv:v=L.length:=by omega
  subst hv;rw [List.drop_length,atS] at e6;have hL:addL L y=mergedR (L.take t++y::L.drop t):=by unfold addL;rw [e6]
  rw [e6] at hE;have hE:iB L y=if (addL L y).length > 64 then 4 else 0:=hE
  have hll:(L.take t++y::L.drop t).length=L.length+1:=by simp;omega
  have last:∀ (s5:Sl) (A4:AH),(s5.a=none->mergedR (L.take t++y::L.drop t)=[])->Own (SlO s5 6 (regC (mergedR (L.take t++y::L.drop t)))::l) A4->qeq_A s5 (λs n h31=>Q s n h31) A4:=by
   intro s5 A4 hs5 h5;rw [<-hL] at hs5 h5;unfold qeq_A;have hl5:s5.len=(addL L y).length:=dN (k:=0) h5 rfl aU;refine aG (λg=>?_) λg=>?_
   ·have g:(s5.len:Int) > 64:=of_decide_eq_true g;rw [if_pos (by omega)] at hE;rw [hE] at hk0;exact hk0 A4 h5.tail (by decide)
   ·have g:¬ (s5.len:Int) > 64:=of_decide_eq_false g;rw [if_neg (by omega)] at hE;refine hk s5 A4 hE (λz=>?_) h5;have h0:=hs5 z;rw [hL] at h0;have:=aFd (L:=L.take t++y::L.drop t) (by intro z;simp at z);exact this h0
  have ins:∀ (s3:Sl) (b:Nat) (A3:AH),(s3.a=none->L=[])->Own (SlO s3 6 (regC L)::At b y.cells::l) A3->qeo_A s3 t (Sl.mk (some (Addr.mk b 0 none)) 1 1) (λs25 h26=>qep_A s25 (λs27 h28=>qeq_A s27 (λs29 n30 h31=>Q s29 n30 h31) h28) h26) A3:=by
   intro s3 b A3 hs3 h3;refine aA8 h3 hs3 (by omega) (by omega) λs4 A4 hs4 h4=>?_;exact aAz (k:=0) h4 rfl aU (by omega) λs5 A5 hs5 h5=>last s5 A5 hs5 (h5.cons λC hC=>hC.tail.tail)
  refine ⟨?_,?_⟩
  ·refine sV h e hr (by omega) hn λs3 A3 _ hs3 h3=>?_;refine aX (cs:=y.cells) h3 λb A4 h4=>ins s3 b A4 hs3 h4.swap
  ·refine aX (cs:=y.cells) h λb A3 h3=>?_;exact sV (k:=k+1) h3 (by simpa using e) hr (by omega) hn λs4 A4 _ hs4 h4=>ins s4 b A4 hs4 h4
end Go.Dn
namespace Go.Dn
variable {L:List Reg} {y q:Reg}
def attrR (y:Reg):Bool × Bool × Bool × Int:=(y.w,y.u,y.x,y.k)
def lookR (L:List Reg) (p:Int):Option (Bool × Bool × Bool × Int):=(findR L p).map attrR
def iZ:List Reg->Prop
 | []=>True
 | y::r=>(0<=y.a/\y.a<y.b/\y.b<=34359738368)/\(∀ z ∈ r,y.b<=z.a)/\iZ r
def njR:List Reg->Prop
 | []=>True
 | y::r=>(∀ z,r.head? = some z->eH y z=false)/\njR r
theorem kV:∀ {a b:List Reg},iZ (a++b)↔iZ a/\iZ b/\∀ x ∈ a,∀ z ∈ b,x.b<=z.a
 | [],b=>by simp [iZ]
 | y::a,b=>by
  simp only [List.cons_append,iZ,kV (a:=a),List.mem_append,List.mem_cons];constructor
  ·rintro ⟨h1,h2,h3,h4,h5⟩;exact ⟨⟨h1,λz hz=>h2 z (.inl hz),h3⟩,h4,λx hx z hz=>hx.elim (λe=>by rw [e];exact h2 z (.inr hz)) λhx=>h5 x hx z hz⟩
  ·rintro ⟨⟨h1,h2,h3⟩,h4,h5⟩;exact ⟨h1,λz hz=>hz.elim (h2 z) λhz=>h5 y (.inl rfl) z hz,h3,h4,λx hx z hz=>h5 x (.inr hx) z hz⟩
theorem aD6:∀ {L:List Reg},iZ L->∀ x ∈ L,0<=x.a/\x.a<x.b/\x.b<=34359738368
 | y::r,h,x,hx=>by
  rcases List.mem_cons.1 hx with e | hx
  ·rw [e];exact h.1
  ·exact aD6 h.2.2 x hx
theorem uE:∀ {a:List Reg} {q:Reg},njR (a++[q])↔njR a/\∀ l,a.getLast? = some l->eH l q=false
 | [],q=>by simp [njR]
 | [x],q=>by simp [njR]
 | x::z::a,q=>by
  have ih:=uE (a:=z::a) (q:=q);have e:(x::z::a).getLast? = (z::a).getLast?:=by simp [List.getLast?_cons_cons]
  rw [e,List.cons_append,njR,njR,ih];simp only [List.cons_append,List.head?_cons,Option.some.injEq,forall_eq'];constructor
  ·rintro ⟨h1,h2,h3⟩;exact ⟨⟨h1,h2⟩,h3⟩
  ·rintro ⟨⟨h1,h2⟩,h3⟩;exact ⟨h1,h2,h3⟩
theorem qY {p q:Reg}:eH p q=true↔p.b=q.a/\attrR p=attrR q:=by
 unfold eH attrR;simp only [Bool.and_eq_true,beq_iff_eq,Bool.and_true,Prod.mk.injEq];constructor
 ·rintro ⟨h1,⟨h2,h3,h4⟩,h5⟩;exact ⟨h1,h2,h3,h4,h5⟩
 ·rintro ⟨h1,h2,h3,h4,h5⟩;exact ⟨h1,⟨h2,h3,h4⟩,h5⟩
theorem aCF {p p' q q':Reg} (h1:p.b=p'.b) (h2:attrR p=attrR p') (h3:q.a=q'.a) (h4:attrR q=attrR q'):eH p q=eH p' q':=by
 rw [Bool.eq_iff_iff,qY,qY,h1,h2,h3,h4]
theorem mS {a b:List Reg} {p:Int}:lookR (a++b) p=(lookR a p).or (lookR b p):=by
 unfold lookR findR;rw [List.find?_append];cases List.find? (λr=>decide (r.a<=p)&&decide (p<r.b)) a<;>rfl
theorem jW {a:Reg} {b:List Reg} {p:Int}:lookR (a::b) p=if a.a<=p/\p<a.b then some (attrR a) else lookR b p:=by
 unfold lookR findR;rw [List.find?_cons];by_cases h:a.a<=p/\p<a.b
 ·rw [if_pos h,decide_eq_true h.1,decide_eq_true h.2];rfl
 ·rw [if_neg h];have:(decide (a.a<=p)&&decide (p<a.b))=false:=by simp;omega
  rw [this]
theorem aGS {acc r:List Reg} {y:Reg} (h:iZ (acc++y::r)) (hj:njR acc):iZ (kU acc y++r)/\njR (kU acc y)/\∀ p,lookR (kU acc y++r) p=lookR (acc++y::r) p:=by
 unfold kU;split
 ·rename_i q hq;have hne:acc≠[]:=λz=>by rw [z] at hq;simp at hq
  have hdl:acc=acc.dropLast++[q]:=by
   have:=List.dropLast_concat_getLast hne;rw [List.getLast?_eq_some_getLast hne] at hq;rw [<-Option.some.inj hq];exact this.symm
  generalize acc.dropLast=a0 at hdl;subst hdl;split
  ·rename_i hjo;obtain ⟨e1,e2⟩:=qY.1 hjo;rw [List.append_assoc] at h;have h1:=kV.1 h;have hq1:=(kV.1 h1.2.1);have hy:=kV (a:=[y]) (b:=r);have hs:iZ ([q]++y::r):=h1.2.1;obtain ⟨hqq,hqr,hyr⟩:=(hs:(0<=q.a/\q.a<q.b/\q.b<=34359738368)/\(∀ z ∈ y::r,q.b<=z.a)/\iZ (y::r));obtain ⟨hyy,hyz,hr⟩:=hyr;have hnj:=uE.1 hj;refine ⟨?_,?_,λp=>?_⟩
   ·rw [List.append_assoc];refine kV.2 ⟨h1.1,⟨⟨hqq.1,by show q.a<y.b;omega,hyy.2.2⟩,λz hz=>hyz z hz,hr⟩,λx hx z hz=>?_⟩;rcases List.mem_cons.1 hz with e | hz
    ·rw [e];exact h1.2.2 x hx q (by simp)
    ·exact h1.2.2 x hx z (List.mem_append_right _ (List.mem_cons_of_mem _ hz))
   ·refine uE.2 ⟨hnj.1,λl hl=>?_⟩;have:=hnj.2 l hl;rw [<-this];exact aCF rfl rfl rfl rfl
   ·have e4:a0++[{ q with b:=y.b }]++r=a0++({ q with b:=y.b }::r):=by simp
    have e5:a0++[q]++y::r=a0++(q::y::r):=by simp
    rw [e4,e5,mS,mS];congr 1;rw [jW,jW,jW];have e3:attrR { q with b:=y.b } = attrR q:=rfl;rw [e3];by_cases c1:q.a<=p/\p<q.b
    ·rw [if_pos c1,if_pos (show q.a<=p/\p<y.b by omega)]
    ·rw [if_neg c1];by_cases c2:y.a<=p/\p<y.b
     ·rw [if_pos c2,if_pos (show q.a<=p/\p<y.b by omega),e2]
     ·rw [if_neg c2,if_neg (show ¬ (q.a<=p/\p<y.b) by omega)]
  ·rename_i hjo;refine ⟨by rw [List.append_assoc];exact h,uE.2 ⟨hj,λl hl=>?_⟩,λp=>by rw [List.append_assoc];rfl⟩;rw [hq] at hl;cases hl;simpa using hjo
 ·rename_i hq;have:acc=[]:=List.getLast?_eq_none_iff.1 hq;subst this;exact ⟨h,⟨λz hz=>by simp at hz,trivial⟩,λp=>rfl⟩
theorem aBV:∀ (rest acc:List Reg),iZ (acc++rest)->njR acc->iZ (rest.foldl kU acc)/\njR (rest.foldl kU acc)/\∀ p,lookR (rest.foldl kU acc) p=lookR (acc++rest) p
 | [],acc,h,hj=>by rw [List.append_nil] at h;exact ⟨h,hj,λp=>by rw [List.append_nil];rfl⟩
 | y::r,acc,h,hj=>by
  obtain ⟨h1,h2,h3⟩:=aGS h hj;obtain ⟨k1,k2,k3⟩:=aBV r (kU acc y) h1 h2;exact ⟨k1,k2,λp=>(k3 p).trans (h3 p)⟩
theorem aCV (h:iZ L):iZ (mergedR L)/\njR (mergedR L)/\∀ p,lookR (mergedR L) p=lookR L p:=aBV L [] h trivial
theorem aDh {o:Option Reg}:okP o y=true↔(0<=y.a/\y.a<y.b/\y.b<=34359738368)/\∀ q,o=some q->q.b<=y.a/\eH q y=false:=by
 unfold okP;cases o with
 | none=>
  simp only [Bool.and_eq_true,Bool.not_eq_true',decide_eq_false_iff_not,reduceCtorEq,false_implies,implies_true,and_true];omega
 | some q=>
  simp only [Bool.and_eq_true,Bool.not_eq_true',decide_eq_false_iff_not,Option.some.injEq,forall_eq'];constructor
  ·rintro ⟨k1,k2,k3,k4,k5⟩;exact ⟨⟨by omega,by omega,by omega⟩,by omega,k5⟩
  ·rintro ⟨⟨k1,k2,k3⟩,k4,k5⟩;exact ⟨by omega,by omega,by omega,by omega,k5⟩
theorem aFB:∀ (L:List Reg) (o:Option Reg),(∀ v,v<L.length->okP (if v=0 then o else L[v-1]?) (L[v]?.getD y)=true)->iZ L/\njR L/\(∀ q z,o=some q->L.head? = some z->eH q z=false)/\∀ q,o=some q->∀ z ∈ L,q.b<=z.a
 | [],o,_=>⟨trivial,trivial,by simp,by simp⟩
 | x::r,o,h=>by
  have h0:=aDh.1 (h 0 (by simp));simp only [if_true,List.getElem?_cons_zero,Option.getD_some] at h0
  obtain ⟨k1,k2,k3,k4⟩:=aFB r (some x) λv hv=>by
   have:=h (v+1) (by simp;omega);rw [if_neg (by omega),List.getElem?_cons_succ] at this;cases v with
   | zero=>simpa using this
   | succ v=>simpa using this
  refine ⟨⟨h0.1,λz hz=>k4 x rfl z hz,k1⟩,⟨λz hz=>k3 x z rfl hz,k2⟩,λq z hq hz=>?_,λq hq z hz=>?_⟩
  ·simp at hz;subst hz;exact (h0.2 q hq).2
  ·have:=(h0.2 q hq).1;rcases List.mem_cons.1 hz with e | hz
   ·rw [e];exact this
   ·have:=k4 x rfl z hz;omega
theorem aJq:∀ (L:List Reg) (o:Option Reg),iZ L->njR L->(∀ q z,o=some q->L.head? = some z->q.b<=z.a/\eH q z=false)->∀ v z,L[v]? = some z->okP (if v=0 then o else L[v-1]?) z=true
 | [],o,_,_,_,v,z,h=>by simp at h
 | x::r,o,h1,h2,h3,0,z,h=>by
  simp at h;subst h;exact aDh.2 ⟨h1.1,λq hq=>h3 q x hq rfl⟩
 | x::r,o,h1,h2,h3,v+1,z,h=>by
  have:=aJq r (some x) h1.2.2 h2.2 (λq z hq hz=>by
   cases hq;exact ⟨h1.2.1 z (List.mem_of_head? hz),h2.1 z hz⟩) v z (by simpa using h)
  rw [if_neg (by omega),show v+1-1=v by omega];cases v with
  | zero=>simpa using this
  | succ v=>simpa using this
theorem pL:goodB L=true↔L.length<=64/\iZ L/\njR L:=by
 unfold goodB;rw [Bool.and_eq_true,decide_eq_true_eq,List.all_eq_true];constructor
 ·rintro ⟨h1,h2⟩
  have:=aFB (y:=aM0) L none λv hv=>by
   have:=h2 v (by simpa using hv);unfold okR6 at this;rw [List.getElem?_eq_getElem hv] at this ⊢;exact this
  exact ⟨h1,this.1,this.2.1⟩
 ·rintro ⟨h1,h2,h3⟩;refine ⟨h1,λv hv=>?_⟩;unfold okR6;cases h:L[v]? with
  | none=>rfl
  | some z=>exact aJq L none h2 h3 (λq z hq=>by cases hq) v z h
theorem tV:∀ {L:List Reg} {i a v:Nat},iZ L->atS y L i a=some v->∃ c,c<=L.length/\(v=if c=0 then a else i+c)/\(∀ x ∈ L.take c,x.b<=y.a)/\∀ x ∈ L.drop c,y.b<=x.a/\y.a<x.b
 | [],i,a,v,_,h=>by
  simp [atS] at h;exact ⟨0,by simp,by simp [h],by simp,by simp⟩
 | x::L,i,a,v,hs,h=>by
  rw [atS] at h;split at h
  ·rename_i g;obtain ⟨c,h1,h2,h3,h4⟩:=tV hs.2.2 h;refine ⟨c+1,by simp;omega,by rw [if_neg (by omega)];split at h2<;>omega,λz hz=>?_,λz hz=>h4 z (by simpa using hz)⟩;rw [List.take_succ_cons] at hz;rcases List.mem_cons.1 hz with e | hz
   ·rw [e];exact g
   ·exact h3 z hz
  ·rename_i g;split at h
   ·cases h
   ·rename_i g2;obtain ⟨c,h1,h2,h3,h4⟩:=tV hs.2.2 h
    have hc:c=0:=by
     cases L with
     | nil=>simp at h1;exact h1
     | cons z L=>
      cases c with
      | zero=>rfl
      | succ c=>
       have q1:=h3 z (by simp);have q2:=hs.2.1 z (by simp);have q3:=hs.2.2.1;omega
    subst hc;refine ⟨0,by simp,by simpa using h2,by simp,λz hz=>?_⟩;rw [List.drop_zero] at hz;rcases List.mem_cons.1 hz with e | hz
    ·rw [e];omega
    ·exact h4 z (by simpa using hz)
theorem rY (hg:goodB L=true) (hr:rightB y.a y.b=true) (he:iB L y=0):goodB (addL L y)=true/\(addL L y).length<=L.length+1/\∀ p,lookR (addL L y) p=if y.a<=p/\p<y.b then some (attrR y) else lookR L p:=by
 obtain ⟨g1,g2,g3⟩:=pL.1 hg;unfold iB at he;rw [if_neg (by simp [hr]),if_neg (by simp [hg])] at he;cases hv:atS y L 0 0 with
 | none=>rw [hv] at he;cases he
 | some v=>
  rw [hv] at he;have he:(if (addL L y).length > 64 then (4:Int) else 0)=0:=he
  have hlen:(addL L y).length<=64:=by
   by_cases h:(addL L y).length > 64
   ·rw [if_pos h] at he;cases he
   ·omega
  have hL:addL L y=mergedR (L.take v++y::L.drop v):=by unfold addL;rw [hv]
  obtain ⟨c,h1,h2,h3,h4⟩:=tV g2 hv;have hvc:v=c:=by split at h2<;>omega
  subst hvc
  have hrr:0<=y.a/\y.a<y.b/\y.b<=34359738368:=by
   unfold rightB at hr;simp at hr;omega
  have hs:=kV.1 (by rw [List.take_append_drop];exact g2:iZ (L.take v++L.drop v))
  have hM:iZ (L.take v++y::L.drop v):=kV.2 ⟨hs.1,⟨hrr,λz hz=>(h4 z hz).1,hs.2.1⟩,λx hx z hz=>by
   rcases List.mem_cons.1 hz with e | hz
   ·rw [e];exact h3 x hx
   ·exact hs.2.2 x hx z hz⟩
  obtain ⟨m1,m2,m3⟩:=aCV hM;rw [<-hL] at m1 m2 m3;refine ⟨pL.2 ⟨hlen,m1,m2⟩,?_,λp=>?_⟩
  ·rw [hL];have:=zA (L.take v++y::L.drop v);simp at this;omega
  ·rw [m3 p,mS,jW];have e1:lookR L p=(lookR (L.take v) p).or (lookR (L.drop v) p):=by rw [<-mS,List.take_append_drop]
   by_cases c:y.a<=p/\p<y.b
   ·rw [if_pos c]
    have:lookR (L.take v) p=none:=by
     unfold lookR findR;rw [Option.map_eq_none_iff,List.find?_eq_none];intro x hx;have:=h3 x hx;simp;omega
    rw [this,if_pos c];rfl
   ·rw [if_neg c,if_neg c,e1]
theorem aCo {p:Int}:(∃ x ∈ L,x.a<=p/\p<x.b)↔lookR L p≠none:=by
 unfold lookR findR;rw [Ne,Option.map_eq_none_iff,List.find?_eq_none];constructor
 ·rintro ⟨x,hx,h1,h2⟩ h;exact h x hx (by simp [h1,h2])
 ·intro h;by_cases c:∃ x ∈ L,x.a<=p/\p<x.b
  ·exact c
  ·exact absurd (λx hx hh=>c ⟨x,hx,by simpa using hh⟩) h
end Go.Dn
namespace Go.Dn
structure Pg where
 num:Int
 key:Int
 lent:Int
structure Sm where
 id:Int
 box:Nat
 regs:List Reg
 pgs:List Pg
structure Mm where
 sps:List Sm
 ns:List Nd
 keys:Int
 wd:Int->Int->Int
def kdR (L:List Reg) (p:Int):Int:=match lookR L p with | some a=>a.2.2.2 | none=>0
def nums (s:Sm):List Int:=s.pgs.map (·.num)
def ownP (s:Sm):List Pg:=s.pgs.filter λg=>kdR s.regs g.num==0
def borP (s:Sm):List Pg:=s.pgs.filter λg=>kdR s.regs g.num != 0
def ownK (l:List Sm):List Int:=l.flatMap λs=>(ownP s).map (·.key)
def borK (l:List Sm):List Int:=l.flatMap λs=>(borP s).map (·.key)
def costS (s:Sm):Int:=(kY (nums s):Int)+(ownP s).length
def pgAt (s:Sm) (p:Int):Option Pg:=s.pgs.find? λg=>g.num==p
def costB (i:Nat) (s:Sm):Int:=if s.box=i then costS s else 0
structure InvL (M:Mm):Prop where
 srt:(M.sps.map (·.id)).Pairwise (· < ·)
 good:∀ s ∈ M.sps,goodB s.regs=true
 pgs:∀ s ∈ M.sps,(nums s).Pairwise (· < ·)
 reg:∀ s ∈ M.sps,∀ g ∈ s.pgs,lookR s.regs g.num≠none
 own:(ownK M.sps).Nodup
 src:∀ s ∈ M.sps,∀ g ∈ s.pgs,g.key ∈ ownK M.sps
 key:∀ k ∈ ownK M.sps,1<=k/\k<=M.keys
 zero:∀ k i,M.keys<k->M.wd k i=0
 keys0:0<=M.keys
 tree:TreeOK M.ns
 live:∀ s ∈ M.sps,liveN M.ns s.box=true
 use:∀ (i:Nat) d,M.ns[i]? = some d->d.live=true->d.use=(if i=0 then 2 else 0)+sumZ (costB i) M.sps
structure InvM (M:Mm):Prop extends InvL M where
 kind:∀ s ∈ M.sps,∀ q a,lookR s.regs q=some a->a.2.2.2=0\/a.2.2.2=1
 bor:∀ s ∈ M.sps,∀ q a,lookR s.regs q=some a->a.2.2.2=1->∃ g ∈ s.pgs,g.num=q/\g.lent=0
 lent:∀ s ∈ M.sps,∀ g ∈ ownP s,g.lent=((borK M.sps).count g.key:Nat)
variable {M:Mm} {s s':Sm} {pre post l:List Sm} {g:Pg} {p q:Int}
theorem t8:pgAt s p=none↔p ∉ nums s:=by
 unfold pgAt nums;rw [List.find?_eq_none];constructor
 ·intro h hm;obtain ⟨g,h1,h2⟩:=List.mem_map.1 hm;exact h g h1 (by simp [h2])
 ·intro h g hg e;exact h (List.mem_map.2 ⟨g,hg,by simpa using e⟩)
theorem eT (h:pgAt s p=some g):g ∈ s.pgs/\g.num=p:=by
 unfold pgAt at h;exact ⟨List.mem_of_find?_eq_some h,by simpa using List.find?_some h⟩
theorem jD (hs:(nums s).Pairwise (· < ·)) (h:g ∈ s.pgs):pgAt s g.num=some g:=by
 unfold pgAt;unfold nums at hs;generalize s.pgs=l at *
 induction l with
 | nil=>simp at h
 | cons x r ih=>
  rw [List.map_cons] at hs;obtain ⟨h1,h2⟩:=List.pairwise_cons.1 hs;rcases List.mem_cons.1 h with rfl | h
  ·simp
  ·have:x.num≠g.num:=by have:=h1 g.num (List.mem_map.2 ⟨g,h,rfl⟩);omega
   rw [List.find?_cons,show (x.num==g.num)=false by simpa using this];exact ih h2 h
theorem j8:g ∈ ownP s↔g ∈ s.pgs/\kdR s.regs g.num=0:=by unfold ownP;simp
theorem aDm:g ∈ borP s↔g ∈ s.pgs/\kdR s.regs g.num≠0:=by unfold borP;simp
theorem dV {a b:List Sm}:ownK (a++b)=ownK a++ownK b:=List.flatMap_append
theorem fO {b:List Sm}:ownK (s::b)=(ownP s).map (·.key)++ownK b:=List.flatMap_cons
theorem jF {a b:List Sm}:borK (a++b)=borK a++borK b:=List.flatMap_append
theorem mP {b:List Sm}:borK (s::b)=(borP s).map (·.key)++borK b:=List.flatMap_cons
theorem gX:(ownK (pre++s::post)).Perm ((ownP s).map (·.key)++ownK (pre++post)):=by
 rw [dV,fO,dV,<- List.append_assoc,<- List.append_assoc];exact List.Perm.append_right _ List.perm_append_comm
theorem vM:(borK (pre++s::post)).Perm ((borP s).map (·.key)++borK (pre++post)):=by
 rw [jF,mP,jF,<- List.append_assoc,<- List.append_assoc];exact List.Perm.append_right _ List.perm_append_comm
theorem fM:1<=costS s:=by
 unfold costS;have:=xV (nums s);omega
theorem aF5 {k:Int}:k ∈ ownK l↔∃ s ∈ l,∃ g ∈ ownP s,g.key=k:=by
 unfold ownK;simp only [List.mem_flatMap,List.mem_map]
theorem aA4 {k:Int}:k ∈ borK l↔∃ s ∈ l,∃ g ∈ borP s,g.key=k:=by
 unfold borK;simp only [List.mem_flatMap,List.mem_map]
theorem mid_iff {b:Sm}:b ∈ pre++s::post↔b=s\/b ∈ pre++post:=by
 simp only [List.mem_append,List.mem_cons];constructor
 ·rintro (h | h | h)
  ·exact .inr (.inl h)
  ·exact .inl h
  ·exact .inr (.inr h)
 ·rintro (h | h | h)
  ·exact .inr (.inl h)
  ·exact .inl h
  ·exact .inr (.inr h)
theorem pF {f:Sm->Int}:sumZ f (pre++s::post)=sumZ f (pre++post)+f s:=by
 rw [qK,qK];simp only [sumZ];omega
def findS (M:Mm) (id:Int):Option Sm:=M.sps.find? λs=>s.id==id
theorem rS (h:(l.map (·.id)).Pairwise (· < ·)):(l.map (·.id)).Nodup:=h.imp λh=>by omega
def putS (l:List Sm) (s:Sm):List Sm:=l.map λx=>if x.id==s.id then s else x
theorem aAP (h:((pre++s::post).map (·.id)).Nodup) (hi:s'.id=s.id):putS (pre++s::post) s'=pre++s'::post:=by
 unfold putS;rw [List.map_append,List.map_cons]
 have ne:∀ x ∈ pre++post,x.id≠s.id:=λx hx e=>by
  have hp:((pre++s::post).map (·.id)).Perm (s.id::(pre++post).map (·.id)):=by
   rw [List.map_append,List.map_cons,List.map_append];exact List.perm_middle
  have:=hp.nodup_iff.1 h;rw [List.nodup_cons] at this;exact this.1 (List.mem_map.2 ⟨x,hx,e⟩)
 have same:∀ l:List Sm,(∀ x ∈ l,x.id≠s.id)->l.map (λx=>if x.id==s'.id then s' else x)=l:=λl hl=>by
  induction l with
  | nil=>rfl
  | cons x r ih=>
   have:(x.id==s'.id)=false:=by rw [hi];simpa using hl x (by simp)
   rw [List.map_cons,this,ih λy hy=>hl y (by simp [hy])];rfl
 rw [same pre λx hx=>ne x (List.mem_append_left _ hx),same post λx hx=>ne x (List.mem_append_right _ hx)];simp [hi]
def payM (M:Mm) (s t:Sm):Mm:={ M with sps:=putS M.sps t,ns:=addU M.ns s.box (costS t-costS s) }
theorem InvL.pay (h:InvL M) (hs:M.sps=pre++s::post) (hi:s'.id=s.id) (hb:s'.box=s.box) (hg:goodB s'.regs=true) (hp:(nums s').Pairwise (· < ·)) (hr:∀ g ∈ s'.pgs,lookR s'.regs g.num≠none)
  {k':Int} {wd':Int->Int->Int} (ho:(ownK (pre++s'::post)).Nodup) (hsr:∀ x ∈ pre++s'::post,∀ g ∈ x.pgs,g.key ∈ ownK (pre++s'::post)) (hk:∀ k ∈ ownK (pre++s'::post),1<=k/\k<=k') (hz:∀ k i,k'<k->wd' k i=0) (hk0:0<=k')
  (hroom:∀ d,M.ns[s.box]? = some d->costS s'-costS s<=d.room):InvL ⟨pre++s'::post,addU M.ns s.box (costS s'-costS s),k',wd'⟩:=by
 have hin:∀ x,x ∈ pre++post->x ∈ M.sps:=λx hx=>by rw [hs];exact mid_iff.2 (.inr hx)
 have hsm:s ∈ M.sps:=by rw [hs];exact mid_iff.2 (.inl rfl)
 have hlv:=h.live s hsm
 obtain ⟨d,hd,hdl⟩:∃ d,M.ns[s.box]? = some d/\d.live=true:=by
  unfold liveN at hlv;cases e:M.ns[s.box]? with
  | none=>rw [e] at hlv;cases hlv
  | some d=>rw [e] at hlv;exact ⟨d,rfl,hlv⟩
 have hu:=h.use s.box d hd hdl
 have hge:costS s<=sumZ (costB s.box) M.sps:=by
  have:=kS (f:=costB s.box) (l:=M.sps) (λx _=>by unfold costB;split;have:=fM (s:=x);omega;exact Int.le_refl _) s hsm;unfold costB at this;rw [if_pos rfl] at this;exact this
 refine ⟨?_,λx hx=>?_,λx hx=>?_,λx hx=>?_,ho,hsr,hk,hz,hk0,?_,λx hx=>?_,λi e he hl=>?_⟩
 ·have e:(pre++s'::post).map (·.id)=M.sps.map (·.id):=by rw [hs];simp [hi]
  show ((pre++s'::post).map (·.id)).Pairwise (· < ·);rw [e];exact h.srt
 ·rcases mid_iff.1 hx with rfl | hx
  ·exact hg
  ·exact h.good x (hin x hx)
 ·rcases mid_iff.1 hx with rfl | hx
  ·exact hp
  ·exact h.pgs x (hin x hx)
 ·rcases mid_iff.1 hx with rfl | hx
  ·exact hr
  ·exact h.reg x (hin x hx)
 ·refine h.tree.addU hd ?_ (hroom d hd);have:=fM (s:=s');split at hu<;>omega
 ·show liveN (addU M.ns s.box _) x.box=true;rw [fH];rcases mid_iff.1 hx with rfl | hx
  ·rw [hb];exact hlv
  ·exact h.live x (hin x hx)
 ·have he:(addU M.ns s.box (costS s'-costS s))[i]? = some e:=he;rw [gH] at he;cases e2:M.ns[i]? with
  | none=>rw [e2] at he;cases he
  | some x=>
   rw [e2] at he;simp only [Option.map_some,Option.some.injEq] at he;have hlx:x.live=true:=by rw [<-he] at hl;split at hl<;>exact hl
   have hux:=h.use i x e2 hlx;rw [hs,pF] at hux;show e.use=_+sumZ (costB i) (pre++s'::post);rw [pF];by_cases g:s.box=i
   ·rw [if_pos g] at he;have e1:costB i s=costS s:=by unfold costB;rw [if_pos g]
    have e3:costB i s'=costS s':=by unfold costB;rw [hb,if_pos g]
    rw [<-he,e3];rw [e1] at hux;simp only;omega
   ·rw [if_neg g] at he;have e1:costB i s=0:=by unfold costB;rw [if_neg g]
    have e3:costB i s'=0:=by unfold costB;rw [hb,if_neg g]
    rw [<-he,e3];rw [e1] at hux;exact hux
end Go.Dn
namespace Go.Dn
variable {A:AH} {l:List SP} {r t i:Nat} {fr:Int} {hs:List (Int × Int)}
theorem aBc (t i:Int):bR (λ_=>0) t i=0:=by
 unfold bR;simp [le]
theorem aH5 (h:Own l A):Own ((λ_=>True)::l) A:=⟨λ_=>none,A,λ_=>.inl rfl,(λ_ _ e=>nomatch e),lA.refl _,trivial,h⟩
theorem aKg (h:Own l A) {sz:Nat}:Own (dK Sl.nil sz []::l) A:=(aH5 h).imp λ_ _=>⟨by simp [Sl.nil],by simp [Sl.nil],λq=>absurd rfl q⟩
theorem aFt {Q:Option Addr->Int->AH->Prop} (h:Own l A) (hf:1<=fr/\fr<=1048576) (hk:∀ r A',Own (RamW r fr [] (λ_ _=>0)::l) A'->Q (some ⟨r,0,none⟩) 0 A'):qap_A fr Sl.nil Q A:=by
 have hc:mZ fr []=0:=by
  unfold mZ;rw [if_neg (by omega),if_neg (by omega)];rfl
 refine aFK (hs:=[]) (k:=0) (aKg h (sz:=2)) rfl (λg=>absurd hc g) λ_ r A1 h1=>hk r A1 ?_;exact RamW.closeH (M:=λ_=>0) ⟨by simp,by omega,hf.2⟩ (λt i _ _ _=>(aBc t i).symm) (h1.cons λC hC=>hC.tail)
end Go.Dn
namespace Go.Dn
variable {A:AH} {R:List SP} {r b t i:Nat} {fr n u:Int} {hs:List (Int × Int)} {W W':Int->Int->Int} {F G:Int->Prop} {ns:List Nd} {nd:Nd} {root:Int} {tab:Tab} {lf:Int->Option Lf} {tl:List Int}
theorem mO (h:Own (Bud b F G n::R) A):(∀ x,F x->¬G x)/\0<=n:=by
 obtain ⟨mb,g,st,gl,h1,h2,_,_⟩:=Bud.openH h;exact ⟨λx hx hg=>(h2.apart x hg).1 hx,h1.nonneg⟩
theorem aE6 {p fm:Int} {pw pu px:Bool} {Q:Int->AH->Prop} (h:Own (RamW r fr hs W::Bud b F G n::TreeS t ns::R) A) (hi:ns[i]? = some nd) (hlv:nd.live=true) (hF:∀ x,F x->hasF fr hs x=true) (hG:∀ x,G x->hasF fr hs x=true)
  (hR:Rest G W root tab lf tl)
  (h1:p<0\/p>=34359738368\/fm<0\/fm>=1048576->Q 1 A)
  (h6:0<=p->p<34359738368->0<=fm->fm<1048576->lf p≠none->∀ A',Own (RamW r fr hs W::Bud b F G n::TreeS t ns::R) A'->Q 6 A')
  (hbad:0<=p->p<34359738368->0<=fm->fm<1048576->lf p=none->∀ e W' A',(e=8/\nd.quo-nd.use-nd.lent<lK tab p/\nd.quo-nd.use-nd.lent<=n\/e=7/\n<lK tab p/\n<nd.quo-nd.use-nd.lent)->
   (∀ f,¬F f->W' f=W f)->Rest G W' root tab lf tl->(∀ j,256<=j->W' root j=W root j)->Own (RamW r fr hs W'::Bud b F G n::TreeS t ns::R) A'->Q e A')
  (hk:0<=p->p<34359738368->0<=fm->fm<1048576->lf p=none->∀ tk W' tab' A',tk.length=lK tab p->(tk.length:Int)<=nd.quo-nd.use-nd.lent->(tk.length:Int)<=n->(∀ x ∈ tk,F x)->
   Rest (λx=>G x\/x ∈ tk) W' root tab' (kJ lf p (some ⟨fm,pw,pu,px⟩)) (tl++tk)->(∀ f,f ∉ tk->f ∉ tl->W' f=W f)->(∀ j,256<=j->W' root j=W root j)->
   Own (RamW r fr hs W'::Bud b (λx=>F x/\x ∉ tk) (λx=>G x\/x ∈ tk) (n-tk.length)::TreeS t (useN ns i nd (nd.use+tk.length))::R) A'->Q 0 A') :
  qdt_A (some ⟨r,0,none⟩) (some ⟨b,0,none⟩) (some ⟨t,0,none⟩) i root p fm pw pu px Q A:=by
 have hFG:=(mO h.swap).1;refine aGL h hi hlv hF hG hR.T (λk q f e=>hR.tg e) h1 h6 (λp0 p1 f0 f1 hl lst e W' A' hD he hW hA=>?_) λp0 p1 f0 f1 hl lst tk W' tab' A' hD hlen q1 q2 hnd htk hT hold hnew hW hHi hA=>?_
 ·have hn:=hD.need hR.T ⟨p0,p1⟩;refine hbad p0 p1 f0 f1 hl e W' A' ?_ hW (hR.keep (λf hf=>hW f λg=>hFG f g (hR.inG f hf)) hR.inG) (λj _=>by rw [hW root λg=>hFG root g (hR.tg ((hR.T.root 0 root).2 ⟨rfl,rfl⟩))]) hA;rcases he with ⟨e1,e2,e3⟩ | ⟨e1,e2,e3⟩
  ·exact .inl ⟨e1,by omega,e3⟩
  ·exact .inr ⟨e1,by omega,e3⟩
 ·have hn:=hD.need hR.T ⟨p0,p1⟩;exact hk p0 p1 f0 f1 hl tk W' tab' A' (by omega) q1 q2 htk (hR.map p0 p1 hl hD hlen hnd (λy hy=>hFG y (htk y hy)) hT hold hnew) (λf g1 g2=>hW f g1 λk q e=>g2 ((hR.mem f).2 ⟨k,q,e⟩)) hHi hA
theorem aAQ {p bx:Int} {pb pt:Option Addr} {Q:Int->Bool->Bool->Bool->Bool->AH->Prop} (h:Own (RamW r fr hs W::R) A) (hG:∀ x,G x->hasF fr hs x=true) (hR:Rest G W root tab lf tl)
  (hn:lf p=none->∀ A',Own (RamW r fr hs W::R) A'->Q 0 false false false false A')
  (hk:∀ x,lf p=some x->∀ A',Own (RamW r fr hs W::R) A'->Q x.frame x.w x.u x.x true A'):qdr_A (some ⟨r,0,none⟩) pb pt bx root p Q A:=by
 refine aC4 h hR.T (λk q f e=>hG f (hR.tg e)) (λc A' hA=>hn ?_ A' hA) λx _ _ hx A' hA=>hk x hx A' hA;rcases c with c | c | c
 ·cases e:lf p with
  | none=>rfl
  | some x=>have:=hR.pr p x e;omega
 ·cases e:lf p with
  | none=>rfl
  | some x=>have:=hR.pr p x e;omega
 ·exact c
theorem sZ {bx:Int} {pb pt:Option Addr} {Q:Sl->AH->Prop} (h:Own (RamW r fr hs W::R) A) (hG:∀ x,G x->hasF fr hs x=true) (hR:Rest G W root tab lf tl)
  (hk:∀ s ps A',s.len=ps.length->(s.a=none->ps=[])->ps.Pairwise (· < ·)->(∀ p,p ∈ ps↔lf p≠none)->Own (RamW r fr hs W::SlO s 1 (intsV ps)::R) A'->Q s A'):qfn_A (some ⟨r,0,none⟩) pb pt bx root Q A:=by
 refine aB6 h hR.T (λk q f e=>hG f (hR.tg e)) λs ps A' h1 h2 h3 h4 hA=>hk s ps A' h1 h2 h3 (λp=>?_) hA;rw [h4];constructor
 ·exact λz=>z.1
 ·intro z
  obtain ⟨x,hx⟩:∃ x,lf p=some x:=by
   cases e2:lf p with
   | none=>exact absurd e2 z
   | some x=>exact ⟨x,rfl⟩
  exact ⟨z,hR.pr p x hx⟩
theorem aCr {Q:Int->AH->Prop} (h:Own (RamW r fr hs W::Bud b F G n::TreeS t ns::R) A) (hi:ns[i]? = some nd) (hlv:nd.live=true) (hu:1<=nd.use) (hG:∀ x,G x->hasF fr hs x=true) (hR:Rest G W root tab lf tl)
  (hb:(∃ p,lf p≠none)->∀ A',Own (RamW r fr hs W::Bud b F G n::TreeS t ns::R) A'->Q 11 A')
  (hk:(∀ p,lf p=none)->∀ A',Own (RamW r fr hs W::Bud b (λx=>F x\/x=root) (λx=>G x/\x≠root) (n+1)::TreeS t (useN ns i nd (nd.use-1))::R) A'->Q 0 A') :
  qfu_A (some ⟨r,0,none⟩) (some ⟨b,0,none⟩) (some ⟨t,0,none⟩) i root Q A:=by
 have hroot:G root:=hR.tg ((hR.T.root 0 root).2 ⟨rfl,rfl⟩);unfold qfu_A qfu_G;refine sZ h hG hR λs ps A1 h1 _ _ h4 hA=>?_;have hA:Own (RamW r fr hs W::Bud b F G n::TreeS t ns::R) A1:=hA.sub (List.Sublist.cons_cons _ (List.sublist_cons_self _ _));refine aG (λc=>hb ?_ A1 hA) λc=>?_
 ·have c:0<ps.length:=by simp [h1] at c;omega
  obtain ⟨p,hp⟩:=List.exists_mem_of_length_pos c;exact ⟨p,(h4 p).1 hp⟩
 ·have c:ps=[]:=by
   have:ps.length=0:=by
    have c:=of_decide_eq_false c;rw [h1] at c;have e:Int.ofNat ps.length=(ps.length:Int):=rfl;omega
   exact List.length_eq_zero_iff.1 this
  refine nV hA hi hlv hroot hu λA2 h2=>hk (λp=>?_) A2 h2;cases e:lf p with
  | none=>rfl
  | some x=>have:=(h4 p).2 (by rw [e];simp);rw [c] at this;simp at this
end Go.Dn
namespace Go.Dn
structure Tr where
 ns:Int->List Nd
 bx:Nat
 q:Int
 fr:Int
 at_:∀ u,∃ par quo len,(ns u)[bx]? = some ⟨par,quo,u,len,true⟩/\quo-len=q
 set:∀ u u' nd,(ns u)[bx]? = some nd->useN (ns u) bx nd u'=ns u'
 le:q<=fr
variable {A:AH} {R:List SP} {r b t:Nat} {T:Tr} {N u:Int} {W W':Int->Int->Int} {F G:Int->Prop}
structure aJW (N:Int) (F G:Int->Prop):Prop where
 inF:∀ x,F x->hasF N [] x=true
 inG:∀ x,G x->hasF N [] x=true
def zW (N:Int) (r b t:Nat) (T:Tr) (F G:Int->Prop) (W:Int->Int->Int) (u:Int) (R:List SP):List SP:=RamW r N [] W::Bud b F G (T.fr-u)::TreeS t (T.ns u)::R
theorem aBn {N x:Int}:hasF N [] x=true↔0<=x/\x<N:=by simp [hasF]
def tr0 (n:Int):Tr:=⟨λu=>[⟨-1,n,u,0,true⟩],0,n,n,λu=>⟨-1,n,0,rfl,by omega⟩,λu u' nd h=>by cases h;rfl,Int.le_refl _⟩
theorem aHT {Q:Int->Int->AH->Prop} {n:Int} (h:Own (zW N r b t (tr0 n) F G W 0 R) A) (hp:aJW N F G) (hN:4<=N/\N<=262144) (hn2:2<=n)
  (hk:∀ top mid A' W',F top->F mid->KOK N W top [mid] W'->aJW N (λx=>F x/\x ∉ [top,mid]) (λx=>G x\/x ∈ [top,mid])->Own (zW N r b t (tr0 n) (λx=>F x/\x ∉ [top,mid]) (λx=>G x\/x ∈ [top,mid]) W' 2 R) A'->Q top 0 A') :
  qbr_A (some ⟨r,0,none⟩) (some ⟨b,0,none⟩) (some ⟨t,0,none⟩) 0 Q A:=by
 have hn:needK N=1:=by unfold needK;omega
 have h:Own (RamW r N [] W::Bud b F G (n-0)::TreeS t [⟨-1,n,0,0,true⟩]::R) A:=h
 refine aBw (i:=0) h rfl rfl hp.inF (by omega) (λe W' A' he _ _=>by
  simp only [hn] at he;omega) λ_ _ top ms W' A' hlen hms hK hA=>?_
 rw [hn] at hlen;obtain ⟨mid,rfl⟩:=List.length_eq_one_iff.1 hlen;refine hk top mid A' W' (hms _ (by simp)) (hms _ (by simp)) hK ⟨λx hx=>hp.inF x hx.1,λx hx=>?_⟩ ?_
 ·rcases hx with hx | hx
  ·exact hp.inG x hx
  ·exact hp.inF x (hms x hx)
 ·have hA:Own (RamW r N [] W'::Bud b (λx=>F x/\x ∉ [top,mid]) (λx=>G x\/x ∈ [top,mid]) (n-0-2)::TreeS t [⟨-1,n,0+2,0,true⟩]::R) A':=hA;rw [show n-0-2=n-2 by omega,show (0:Int)+2=2 by omega] at hA;exact hA
end Go.Dn
namespace Go.Dn
abbrev Rg:=Int × Int
def aFq (r:Rg) (n:Int):Prop:=r.1<=n/\n<r.2
def memR (l:List Rg) (n:Int):Prop:=∃ r ∈ l,aFq r n
def NF (l:List Rg):Prop:=(∀ r ∈ l,r.1<r.2)/\l.Pairwise λa b=>a.2<b.1
theorem qA (n:Int):¬ memR [] n:=λ⟨_,h,_⟩=>nomatch h
theorem y6 {r:Rg} {l:List Rg} {n:Int}:memR (r::l) n↔aFq r n\/memR l n:=by simp [memR]
theorem cD {l m:List Rg} {n:Int}:memR (l++m) n↔memR l n\/memR m n:=by
 simp only [memR,List.mem_append];constructor
 ·rintro ⟨r,h | h,k⟩
  ·exact .inl ⟨r,h,k⟩
  ·exact .inr ⟨r,h,k⟩
 ·rintro (⟨r,h,k⟩ | ⟨r,h,k⟩)
  ·exact ⟨r,.inl h,k⟩
  ·exact ⟨r,.inr h,k⟩
theorem eC {r:Rg} {n:Int}:memR [r] n↔aFq r n:=by simp [memR]
theorem NF.nil:NF []:=⟨λ_ h=>(nomatch h),List.Pairwise.nil⟩
theorem NF.tail {r:Rg} {l:List Rg} (h:NF (r::l)):NF l:=⟨λs hs=>h.1 s (by simp [hs]),(List.pairwise_cons.1 h.2).2⟩
theorem NF.push {r:Rg} {l:List Rg} (h:NF l) (hr:r.1<r.2) (hl:∀ q ∈ l,q.2<r.1):NF (l++[r]):=by
 refine ⟨λs hs=>?_,List.pairwise_append.2 ⟨h.2,List.pairwise_singleton _ _,λa ha b hb=>?_⟩⟩
 ·rcases List.mem_append.1 hs with g | g
  ·exact h.1 s g
  ·rw [List.mem_singleton.1 g];exact hr
 ·rw [List.mem_singleton.1 hb];exact hl a ha
theorem NF.first {r:Rg} {l:List Rg} (h:NF (r::l)) {n:Int} (hn:memR (r::l) n):r.1<=n:=by
 obtain ⟨s,hs,h1,h2⟩:=hn;rcases List.mem_cons.1 hs with rfl | g
 ·exact h1
 ·have h3:=(List.pairwise_cons.1 h.2).1 s g;have h4:=h.1 r (by simp);omega
theorem NF.eq:∀ {l m:List Rg},NF l->NF m->(∀ n,memR l n↔memR m n)->l=m
 | [],[],_,_,_=>rfl
 | [],r::m,_,hm,h=>by
  have h1:=hm.1 r (by simp);exact absurd ((h r.1).2 ⟨r,by simp,Int.le_refl _,h1⟩) (qA _)
 | r::l,[],hl,_,h=>by
  have h1:=hl.1 r (by simp);exact absurd ((h r.1).1 ⟨r,by simp,Int.le_refl _,h1⟩) (qA _)
 | r::l,s::m,hl,hm,h=>by
  have hr:=hl.1 r (by simp);have hs:=hm.1 s (by simp);have a1:s.1<=r.1:=hm.first ((h r.1).1 ⟨r,by simp,Int.le_refl _,hr⟩)
  have a2:r.1<=s.1:=hl.first ((h s.1).2 ⟨s,by simp,Int.le_refl _,hs⟩)
  have out:∀ {q:Rg} {l:List Rg},NF (q::l)->∀ n,n=q.2->¬ memR (q::l) n:=by
   rintro q l hq n rfl ⟨t,ht,h1,h2⟩;rcases List.mem_cons.1 ht with rfl | g
   ·omega
   ·have:=(List.pairwise_cons.1 hq.2).1 t g;omega
  have a3:r.2=s.2:=by
   rcases Int.lt_trichotomy r.2 s.2 with g | g | g
   ·exact absurd ((h r.2).2 ⟨s,by simp,by omega,g⟩) (out hl _ rfl)
   ·exact g
   ·exact absurd ((h s.2).1 ⟨r,by simp,by omega,g⟩) (out hm _ rfl)
  have e:r=s:=Prod.ext (by omega) a3;subst e
  have rest:∀ n,memR l n↔memR m n:=λn=>by
   have h1:=h n;rw [y6,y6] at h1
   have no:∀ {l:List Rg},NF (r::l)->memR l n->¬ aFq r n:=by
    rintro l hl ⟨t,ht,h2,h3⟩ ⟨h4,h5⟩;have:=(List.pairwise_cons.1 hl.2).1 t ht;omega
   constructor
   ·intro g;rcases h1.1 (.inr g) with k | k
    ·exact absurd k (no hl g)
    ·exact k
   ·intro g;rcases h1.2 (.inr g) with k | k
    ·exact absurd k (no hm g)
    ·exact k
  rw [NF.eq hl.tail hm.tail rest]
def oG (out:List Rg) (r:Rg):List Rg:=match out.getLast? with
 | some q=>if r.1<=q.2 then out.dropLast++[(q.1,if r.2 > q.2 then r.2 else q.2)] else out++[r]
 | none=>[r]
structure MgI (pre out:List Rg):Prop where
 nf:NF out
 mem:∀ n,memR out n↔memR pre n
 last:∀ q ∈ out,∃ p ∈ pre,q.1<=p.1
theorem aE4 {pre out:List Rg} {r:Rg} (h:MgI pre out) (hr:r.1<r.2) (hs:∀ p ∈ pre,p.1<=r.1):MgI (pre++[r]) (oG out r):=by
 unfold oG;cases e:out.getLast? with
 | none=>
  have h0:out=[]:=List.getLast?_eq_none_iff.1 e;subst h0;refine ⟨⟨λs hs=>by rw [List.mem_singleton.1 hs];exact hr,List.pairwise_singleton _ _⟩,λn=>?_,λq hq=>⟨r,by simp,by rw [List.mem_singleton.1 hq];exact Int.le_refl _⟩⟩;rw [cD,eC,<- h.mem n];simp [memR]
 | some q=>
  obtain ⟨l,rfl⟩:∃ l,out=l++[q]:=List.getLast?_eq_some_iff.1 e;have hq:q.1<q.2:=h.nf.1 q (by simp)
  have hqr:q.1<=r.1:=by
   obtain ⟨p,hp,h1⟩:=h.last q (by simp);exact Int.le_trans h1 (hs p hp)
  have hl:NF l:=⟨λs hs=>h.nf.1 s (by simp [hs]),(List.pairwise_append.1 h.nf.2).1⟩;have hlq:∀ t ∈ l,t.2<q.1:=λt ht=>(List.pairwise_append.1 h.nf.2).2.2 t ht q (by simp)
  dsimp only
  split
  ·rename_i hle;rw [List.dropLast_concat];have hm:q.2<=(if r.2 > q.2 then r.2 else q.2)/\r.2<=(if r.2 > q.2 then r.2 else q.2)/\((if r.2 > q.2 then r.2 else q.2)=q.2\/(if r.2 > q.2 then r.2 else q.2)=r.2):=by split<;>omega
   generalize (if r.2 > q.2 then r.2 else q.2)=t at hm ⊢;refine ⟨hl.push (by simp only;omega) hlq,λn=>?_,λs hs=>?_⟩
   ·have h1:=h.mem n;rw [cD,eC] at h1;rw [cD,cD,eC,eC,<- h1];constructor
    ·rintro (g | ⟨g1,g2⟩)
     ·exact .inl (.inl g)
     ·simp only at g1 g2;by_cases g3:n<q.2
      ·exact .inl (.inr ⟨g1,g3⟩)
      ·exact .inr ⟨by omega,by omega⟩
    ·rintro ((g | ⟨g1,g2⟩) | ⟨g1,g2⟩)
     ·exact .inl g
     ·exact .inr ⟨g1,by simp only;omega⟩
     ·exact .inr ⟨by simp only;omega,by simp only;omega⟩
   ·rcases List.mem_append.1 hs with g | g
    ·obtain ⟨p,hp,h1⟩:=h.last s (by simp [g]);exact ⟨p,by simp [hp],h1⟩
    ·rw [List.mem_singleton.1 g];exact ⟨r,by simp,hqr⟩
  ·rename_i hle;refine ⟨h.nf.push hr λt ht=>?_,λn=>?_,λs hs=>?_⟩
   ·rcases List.mem_append.1 ht with g | g
    ·have:=hlq t g;omega
    ·rw [List.mem_singleton.1 g];omega
   ·rw [cD (m:=[r]),cD (m:=[r]),h.mem n]
   ·rcases List.mem_append.1 hs with g | g
    ·obtain ⟨p,hp,h1⟩:=h.last s g;exact ⟨p,by simp [hp],h1⟩
    ·rw [List.mem_singleton.1 g];exact ⟨r,by simp,Int.le_refl _⟩
theorem MgI.nil:MgI [] []:=⟨NF.nil,λ_=>Iff.rfl,λ_ h=>nomatch h⟩
structure LsI (M:Int->Prop) (r:Rg) (cut cpre:List Rg) (out:List Rg) (at_:Int):Prop where
 nf:NF out
 ge:r.1<=at_
 lo:∀ q ∈ out,q.2<at_
 hi:∀ q ∈ out,q.2<=r.2
 mem:∀ n,memR out n↔(M n\/(r.1<=n/\n<at_/\n<r.2))/\¬ memR cut n
 done:∀ c ∈ cpre,c.2<=at_\/r.2<=c.1
variable {M:Int->Prop} {r c:Rg} {cut cpre crest out:List Rg} {at_:Int}
theorem LsI.skip (h:LsI M r cut cpre out at_) (hc:c.2<=at_\/r.2<=c.1):LsI M r cut (cpre++[c]) out at_:=
 ⟨h.nf,h.ge,h.lo,h.hi,h.mem,λd hd=>by
  rcases List.mem_append.1 hd with g | g
  ·exact h.done d g
  ·rw [List.mem_singleton.1 g];exact hc⟩
theorem LsI.far (h:LsI M r cut cpre out at_) (e:cut=cpre++c::crest) (hn:NF cut) (h1:¬ c.2<=at_) (h2:¬ c.1>=r.2) (h3:c.1 > at_):LsI M r cut (cpre++[c]) (out++[(at_,c.1)]) c.2:=by
 have hc:c.1<c.2:=hn.1 c (by simp [e])
 have hnot:∀ n,at_<=n->n<c.1->¬ memR cut n:=by
  rintro n a1 a2 ⟨d,hd,a3,a4⟩;rw [e] at hd;rcases List.mem_append.1 hd with g | g
  ·rcases h.done d g with k | k<;>omega
  ·rcases List.mem_cons.1 g with rfl | g
   ·omega
   ·have h5:=hn.2;rw [e] at h5;have:=(List.pairwise_cons.1 (List.pairwise_append.1 h5).2.1).1 d g;omega
 refine ⟨h.nf.push h3 h.lo,by have:=h.ge;omega,λq hq=>?_,λq hq=>?_,λn=>?_,λd hd=>?_⟩
 ·rcases List.mem_append.1 hq with g | g
  ·have:=h.lo q g;omega
  ·rw [List.mem_singleton.1 g];exact hc
 ·rcases List.mem_append.1 hq with g | g
  ·exact h.hi q g
  ·rw [List.mem_singleton.1 g];simp only;omega
 ·rw [cD,eC,h.mem n];have h6:=h.ge;constructor
  ·rintro (⟨g1 | ⟨g1,g2,g3⟩,g4⟩ | ⟨g1,g2⟩)
   ·exact ⟨.inl g1,g4⟩
   ·exact ⟨.inr ⟨g1,by omega,g3⟩,g4⟩
   ·simp only at g1 g2;exact ⟨.inr ⟨by omega,by omega,by omega⟩,hnot n g1 g2⟩
  ·rintro ⟨g1 | ⟨g1,g2,g3⟩,g4⟩
   ·exact .inl ⟨.inl g1,g4⟩
   ·by_cases g5:n<at_
    ·exact .inl ⟨.inr ⟨g1,g5,g3⟩,g4⟩
    ·refine .inr ⟨by simp only;omega,?_⟩;simp only;rcases Int.lt_or_le n c.1 with g6 | g6
     ·exact g6
     ·exact absurd ⟨c,by simp [e],g6,g2⟩ g4
 ·rcases List.mem_append.1 hd with g | g
  ·rcases h.done d g with k | k
   ·exact .inl (by omega)
   ·exact .inr k
  ·rw [List.mem_singleton.1 g];exact .inl (Int.le_refl _)
theorem LsI.near (h:LsI M r cut cpre out at_) (e:cut=cpre++c::crest) (h1:¬ c.2<=at_) (h3:¬ c.1 > at_):LsI M r cut (cpre++[c]) out c.2:=by
 refine ⟨h.nf,by have:=h.ge;omega,λq hq=>by have:=h.lo q hq;omega,h.hi,λn=>?_,λd hd=>?_⟩
 ·rw [h.mem n];constructor
  ·rintro ⟨g1 | ⟨g1,g2,g3⟩,g4⟩
   ·exact ⟨.inl g1,g4⟩
   ·exact ⟨.inr ⟨g1,by omega,g3⟩,g4⟩
  ·rintro ⟨g1 | ⟨g1,g2,g3⟩,g4⟩
   ·exact ⟨.inl g1,g4⟩
   ·refine ⟨.inr ⟨g1,?_,g3⟩,g4⟩;rcases Int.lt_or_le n at_ with g5 | g5
    ·exact g5
    ·exact absurd ⟨c,by simp [e],by omega,g2⟩ g4
 ·rcases List.mem_append.1 hd with g | g
  ·rcases h.done d g with k | k
   ·exact .inl (by omega)
   ·exact .inr k
  ·rw [List.mem_singleton.1 g];exact .inl (Int.le_refl _)
structure LsO (cut pre out:List Rg):Prop where
 nf:NF out
 mem:∀ n,memR out n↔memR pre n/\¬ memR cut n
 hi:∀ q ∈ out,∃ p ∈ pre,q.2<=p.2
theorem LsO.nil {cut:List Rg}:LsO cut [] []:=⟨NF.nil,λn=>⟨λh=>absurd h (qA n),λh=>absurd h.1 (qA n)⟩,λ_ h=>nomatch h⟩
theorem LsO.start {pre:List Rg} (h:LsO cut pre out) (hr:r.1<r.2) (hp:∀ p ∈ pre,p.2<r.1):LsI (memR pre) r cut [] out r.1:=by
 have h1:∀ q ∈ out,q.2<r.1:=λq hq=>by
  obtain ⟨p,hp',h2⟩:=h.hi q hq;have:=hp p hp';omega
 refine ⟨h.nf,Int.le_refl _,h1,λq hq=>by have:=h1 q hq;omega,λn=>?_,λ_ h=>nomatch h⟩;rw [h.mem n];constructor
 ·rintro ⟨g1,g2⟩;exact ⟨.inl g1,g2⟩
 ·rintro ⟨g1 | ⟨g1,g2,_⟩,g3⟩
  ·exact ⟨g1,g3⟩
  ·omega
theorem LsI.rest {pre:List Rg} (h:LsI (memR pre) r cut cut out at_) (ho:∀ q ∈ out,q.2<=r.2) (hat:at_<r.2):LsO cut (pre++[r]) (out++[(at_,r.2)]):=by
 refine ⟨h.nf.push hat h.lo,λn=>?_,λq hq=>⟨r,by simp,?_⟩⟩
 ·rw [cD,eC,h.mem n,cD,eC];have h6:=h.ge;constructor
  ·rintro (⟨g1 | ⟨g1,g2,g3⟩,g4⟩ | ⟨g1,g2⟩)
   ·exact ⟨.inl g1,g4⟩
   ·exact ⟨.inr ⟨g1,g3⟩,g4⟩
   ·simp only at g1 g2;refine ⟨.inr ⟨by omega,g2⟩,?_⟩;rintro ⟨c,hc,a1,a2⟩;rcases h.done c hc with k | k<;>omega
  ·rintro ⟨g1 | ⟨g1,g2⟩,g4⟩
   ·exact .inl ⟨.inl g1,g4⟩
   ·by_cases g5:n<at_
    ·exact .inl ⟨.inr ⟨g1,g5,g2⟩,g4⟩
    ·exact .inr ⟨by simp only;omega,g2⟩
 ·rcases List.mem_append.1 hq with g | g
  ·exact ho q g
  ·rw [List.mem_singleton.1 g];exact Int.le_refl _
theorem LsI.none {pre:List Rg} (h:LsI (memR pre) r cut cut out at_) (hat:¬ at_<r.2):LsO cut (pre++[r]) out:=by
 refine ⟨h.nf,λn=>?_,λq hq=>⟨r,by simp,h.hi q hq⟩⟩;rw [h.mem n,cD,eC];constructor
 ·rintro ⟨g1 | ⟨g1,g2,g3⟩,g4⟩
  ·exact ⟨.inl g1,g4⟩
  ·exact ⟨.inr ⟨g1,g3⟩,g4⟩
 ·rintro ⟨g1 | ⟨g1,g2⟩,g4⟩
  ·exact ⟨.inl g1,g4⟩
  ·exact ⟨.inr ⟨g1,by omega,g2⟩,g4⟩
variable {l:List Rg} {e:Int}
variable {n:Int} {pre:List Int} {done:Bool}
end Go.Dn
namespace Go.Dn
variable {A:AH} {l R:List SP} {P:SP} {k:Nat} {s:Sl} {L:List Rg}
def dB (L:List Rg):List Value:=L.flatMap uD
theorem cI:∀ L:List Rg,(dB L).length=L.length*2
 | []=>rfl
 | y::L=>by
  have:=cI L;unfold dB at this ⊢;rw [List.flatMap_cons,List.length_append,this];simp [uD];omega
theorem aDo (a c:List Rg):dB (a++c)=dB a++dB c:=List.flatMap_append
theorem aCD:∀ {L:List Rg} {v:Nat} {y:Rg} {c:Nat} {x:Value},L[v]? = some y->(uD y)[c]? = some x->(dB L)[v*2+c]? = some x
 | [],v,a,c,x,h,_=>by simp at h
 | b::r,0,a,c,x,h,hc=>by
  simp at h;subst h;have hlt:c<2:=(List.getElem?_eq_some_iff.1 hc).1;unfold dB;rw [List.flatMap_cons,List.getElem?_append_left (by simp [uD];omega),Nat.zero_mul,Nat.zero_add];exact hc
 | b::r,v+1,a,c,x,h,hc=>by
  have h:r[v]? = some a:=by simpa using h
  unfold dB;rw [List.flatMap_cons,List.getElem?_append_right (by simp [uD];omega)];have:(v+1)*2+c-(uD b).length=v*2+c:=by simp [uD];omega
  rw [this];exact aCD h hc
theorem rgs_one:∀ {L:List Rg} {v:Value},v ∈ dB L->v.oneCell'=true:=λ{L v} h=>by
 obtain ⟨d,_,hd⟩:=List.mem_flatMap.1 h;simp [uD] at hd;rcases hd with rfl | rfl<;>rfl
theorem tZ {L:List Rg} (h:dB L=[]):L=[]:=by
 have:=cI L;rw [h] at this;exact List.length_eq_zero_iff.1 (by simp at this;omega)
theorem mQ (h:Own l A) (e:l[k]? = some P) (hr:bI P s 2 (dB L)):s.len=L.length:=by
 have:=eV h e hr;rw [cI] at this;omega
theorem vG {v:Nat} {y:Rg} (h:Own l A) (e:l[k]? = some P) (hr:bI P s 2 (dB L)) (hv:L[v]? = some y) :
  ∃ a,s.a=some a/\(∀ K:Int->Prop,K y.1->aI .i64 (Addr.add a (Int.toNat (v:Int)*2)) A K)/\∀ K:Int->Prop,K y.2->aI .i64 (Addr.add (Addr.add a (Int.toNat (v:Int)*2)) 1) A K:=by
 obtain ⟨bb,o,q1,c0⟩:=bW h e hr (j:=v*2+0) (aCD hv (c:=0) rfl);obtain ⟨b2,o2,q2,c1⟩:=bW h e hr (j:=v*2+1) (aCD hv (c:=1) rfl);rw [q1] at q2;cases q2;refine ⟨_,q1,λK hK=>⟨_,?_,hK⟩,λK hK=>⟨_,?_,hK⟩⟩
 ·rw [add_at,Int.toNat_natCast];exact c0
 ·rw [add_at,add_at,Int.toNat_natCast,Nat.add_assoc];exact c1
theorem mX {t:TypeId} {x y:Int} {K:Sl->AP} (h:Own (SlO s 2 (dB L)::R) A) (hs:s.a=none->L=[]) (hb:L.length<=1000000)
  (hk:∀ s' A',(s'.a=none->L++[(x,y)]=[])->Own (SlO s' 2 (dB (L++[(x,y)]))::R) A'->K s' A') :
  aT A (.cells #[.int .i64 x,.int .i64 y] t) λb h2=>jZ 2 16 #[.int .i64 0,.int .i64 0] t s (Sl.mk (some (Addr.mk b 0 none)) 1 1) h2 K:=by
 have hl:s.len=L.length:=by
  obtain ⟨B,_,hB⟩:=h.sat;have:=hB.1.1;rw [cI] at this;omega
 refine aX (cs:=[.int .i64 x,.int .i64 y]) h λb A1 h1=>?_;have h1:=h1.swap;refine cN (i:=0) h1 rfl (fD (n:=1) (sz:=2) (cs:=[.int .i64 x,.int .i64 y]) (rest:=[]) rfl) (λg=>nomatch g) (λg=>by rw [hs g];rfl) rfl (λv hv=>?_) ⟨by simp only [hl];omega,by simp only [hl];omega⟩ λs' A2 j1 j2 h2=>?_
 ·simp at hv;rcases hv with rfl | rfl<;>rfl
 ·refine hk s' A2 (λg=>?_) ?_
  ·have:=j2 g;simp at this
  ·rw [aDo];exact Own.cons (λC hC=>hC.tail) h2
theorem bS {sz:Nat} {cs:List Value}:bI (SlO s sz cs) s sz cs:=λ_ _ h u=>⟨h.look.1,λ_ _ hv=>h.look.cell u hv⟩
theorem Own.rgs_len (h:Own (SlO s 2 (dB L)::R) A):s.len=L.length:=mQ (k:=0) h rfl bS
theorem aCf {sz j:Nat} {cs:List Value} {v:Value} {a:Addr} {K:AP} (h:Own (SlO s sz cs::R) A) (ha:s.a=some a) (hj:j<cs.length) (hv:v.oneCell'=true) (hk:∀ A',Own (SlO s sz (cs.set j v)::R) A'->K A'):aC (Addr.add a j) v A K:=by
 obtain ⟨⟨h1,h2⟩,h3⟩:=h.pure
 have h4:Own ((λB=>∃ b rest,s.a=some ⟨b,0,none⟩/\(cs++rest).length=s.cap*sz/\At b (cs++rest) B)::R) A:=h3.imp λB hB=>by
  rcases hB with hB | hB
  ·exfalso;have h5:s.len=0:=by omega
   rw [h5] at h1;simp at h1;omega
  ·exact hB
 obtain ⟨b,h4⟩:=h4.ex;obtain ⟨rest,h4⟩:=h4.ex;obtain ⟨ha2,h4⟩:=h4.pure;obtain ⟨hc,h4⟩:=h4.pure;rw [ha] at ha2;cases ha2;rw [add_at,Nat.zero_add];refine aJ (i:=0) h4 rfl (by simp;omega) hv λA' h'=>hk A' ?_;have e:(cs++rest).set j v=cs.set j v++rest:=List.set_append_left _ _ hj;refine Own.imp (P:=At b (cs.set j v++rest)) (λB hB=>⟨⟨by simpa using h1,h2⟩,.inr ⟨b,rest,ha,by simpa using hc,hB⟩⟩) ?_;rw [<-e];exact h'
theorem aAu:∀ {L:List Rg} {i:Nat} {r:Rg} (y:Int),L[i]? = some r->(dB L).set (i*2+1) (.int .i64 y)=dB (L.set i (r.1,y))
 | [],_,_,_,e=>by simp at e
 | d::L,0,r,y,e=>by
  simp at e;subst e;rfl
 | d::L,i+1,r,y,e=>by
  have:=aAu (L:=L) (i:=i) y (by simpa using e);show (uD d++dB L).set ((i+1)*2+1) _=uD d++dB (L.set i (r.1,y));rw [List.set_append_right _ _ (by simp [uD];omega)];rw [show (i+1)*2+1-(uD d).length=i*2+1 by simp [uD];omega,this]
theorem aBR:∀ {L:List Rg} {i:Nat} {r:Rg} (y:Int),L[i]? = some r->(dB L).set (i*2) (.int .i64 y)=dB (L.set i (y,r.2))
 | [],_,_,_,e=>by simp at e
 | d::L,0,r,y,e=>by
  simp at e;subst e;rfl
 | d::L,i+1,r,y,e=>by
  have:=aBR (L:=L) (i:=i) y (by simpa using e);show (uD d++dB L).set ((i+1)*2) _=uD d++dB (L.set i (y,r.2));rw [List.set_append_right _ _ (by simp [uD];omega)];rw [show (i+1)*2-(uD d).length=i*2 by simp [uD];omega,this]
theorem Own.nilS {sz:Nat} (h:Own l A):Own (SlO Sl.nil sz []::l) A:=⟨λ_=>none,A,λ_=>.inl rfl,(λ_ _ e=>nomatch e),lA.refl A,SlO.nil,h⟩
theorem Own.openS {sz:Nat} {cs:List Value} (h:Own (SlO s sz cs::R) A) (hne:cs≠[]):∃ b rest,s.a=some ⟨b,0,none⟩/\(cs++rest).length=s.cap*sz/\s.len*sz=cs.length/\s.len<=s.cap/\Own (At b (cs++rest)::R) A:=by
 obtain ⟨⟨h1,h2⟩,h3⟩:=h.pure
 have h4:Own ((λB=>∃ b rest,s.a=some ⟨b,0,none⟩/\(cs++rest).length=s.cap*sz/\At b (cs++rest) B)::R) A:=h3.imp λB hB=>by
  rcases hB with hB | hB
  ·exfalso;have h5:s.len=0:=by omega
   rw [h5] at h1;simp at h1;exact hne (List.length_eq_zero_iff.1 h1.symm)
  ·exact hB
 obtain ⟨b,h4⟩:=h4.ex;obtain ⟨rest,h4⟩:=h4.ex;obtain ⟨ha2,h4⟩:=h4.pure;obtain ⟨hc,h4⟩:=h4.pure;exact ⟨b,rest,ha2,hc,h1,h2,h4⟩
theorem Own.shutS {sz b:Nat} {cs rest:List Value} (h:Own (At b (cs++rest)::R) A) (ha:s.a=some ⟨b,0,none⟩) (hc:(cs++rest).length=s.cap*sz) (h1:s.len*sz=cs.length) (h2:s.len<=s.cap):Own (SlO s sz cs::R) A:=
 h.imp λ_ hB=>⟨⟨h1,h2⟩,.inr ⟨b,rest,ha,hc,hB⟩⟩
end Go.Dn
