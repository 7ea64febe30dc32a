/- What the proof stands on. -/
import Derived.Test.YtfnkdpmbpgffbaaGreatBits
import Derived.Test.YtfnkdpmbpgffbaaGreatChild
import Derived.Test.YtfnkdpmbpgffbaaGreatCut
namespace Go.Dn
variable {A:AH} {l R:List SP} {P:SP} {i k v b o n:Nat} {s:Sl} {L:List Reg} {y:Reg} {cs:List Value}
theorem rN (h:Own l A) (e:l[i]? = some (At b cs)) (a:o+n<=cs.length):oU A (some ⟨b,o,none⟩) n ((cs.drop o).take n):=by
 refine ⟨by simp;omega,λj c=>?_⟩;refine ⟨cs[o+j]'(by omega),?_,?_⟩
 .simp_all
 .rw [add_at];exact dW e h (by simp)
theorem aFe {sz m:Nat} {d x:Sl} {vs pre mid post:List Value} {K:Int->AP} (h:Own (At b (pre++mid++post)::R) A) (e:d.a=some ⟨b,pre.length,none⟩) (a:Nat.min x.len d.len=m) (q:mid.length=m*sz)
  (f:oU A x.a (m*sz) vs) (g:vs.length=m*sz) (j:∀ v ∈ vs,v.oneCell'=true) (p:∀ c,Own (At b (pre++vs++post)::R) c->K m c):cpA sz d x A K:=by
 refine ⟨vs,by rw [a];exact f,?_⟩;rw [a,e];show vB vs (Addr.add ⟨b,pre.length,none⟩ 0) 0 A _;rw [add_at];exact iW vs 0 A pre mid post _ h (by omega) (by omega) j p
theorem mB (L:List Reg) (v:Nat):regC L=regC (L.take v)++regC (L.drop v):=by rw [<-iV,List.take_append_drop]
theorem SlO.openS {sz:Nat} (h:Own (SlO s sz cs::R) A) (g:s.cap≠0):∃ b rest,s.a=some ⟨b,0,none⟩/\s.len*sz=cs.length/\s.len<=s.cap/\(cs++rest).length=s.cap*sz/\Own (At b (cs++rest)::R) A:=by
 obtain ⟨⟨c,d⟩,h⟩:=h.pure;have a:Own ((λB=>∃ b rest,s.a=some ⟨b,0,none⟩/\(cs++rest).length=s.cap*sz/\At b (cs++rest) B)::R) A:=h.imp λB j=>by simp_all
 obtain ⟨b,a⟩:=a.ex;obtain ⟨rest,a⟩:=a.ex;obtain ⟨e,a⟩:=a.pure;obtain ⟨f,a⟩:=a.pure;exact ⟨b,rest,e,c,d,f,a⟩
theorem At.ne {b d:Nat} {cs a:List Value} (h:Own (At b cs::At d a::R) A):b≠d:=by
 intro e;subst e;obtain ⟨B,C,f,_,_,⟨t,p⟩,j⟩:=h;obtain ⟨D,m,⟨t2,c⟩⟩:=j.sat;rcases f b with g | g
 .simp_all
 .rw [m _ _ c] at g;cases g
theorem aDe {Q:Sl->AH->Prop} (h:Own (SlO s 6 (regC L)::At b y.cells::R) A) (hs:s.a=none->L=[]) (hv:v<=L.length) (hb:L.length<=1000)
  (hk:∀ s' A',s'.a≠none->Own (SlO s' 6 (regC (L.take v++y::L.drop v))::At b y.cells::R) A'->Q s' A'):qcu_A s v ⟨some ⟨b,0,none⟩,1,1⟩ Q A:=by
 have hl:s.len=L.length:=bF (k:=0) h rfl aR;have hcap:s.len<=s.cap:=h.sat.elim λB hB=>hB.2.1.2;unfold qcu_A qcu_G;have hy1:regC [y]=y.cells:=by simp [regC]
 have hone:∀ v ∈ y.cells,v.oneCell'=true:=λv hv=>regC_one (L:=[y]) (by simp_all);refine inB_in (by omega) (by omega) (bsel_f rfl (bsel_in (λg=>?_) λg=>?_))
 ·have g:(v:Int)=(s.len:Int):=eq_of_beq g;have hvl:v=L.length:=by omega
  subst hvl;refine dJ (i:=0) (c1:=regC L) h rfl (by simpa using eI (n:=1) (cap:=1) (sz:=6) (cs:=y.cells) (rest:=[]) rfl) (λg=>nomatch g) (λg=>by rw [hs g];rfl) rfl hone ⟨by simp only [hl];omega,by simp only [hl];omega⟩ λs' A3 j1 j2 h4=>?_;refine hk s' A3 (λz=>by have:=j2 z;simp [Reg.cells] at this) ?_;rw [List.take_length,List.drop_length,iV,hy1];exact h4
 ·have g:¬ (v:Int)=(s.len:Int):=λz=>by rw [z] at g;simp at g
  have hvl:v<L.length:=by omega
  obtain ⟨b0,rest,ha,hl6,_,hroom,h⟩:=SlO.openS h (by omega)
  have hw:IntKind.wrap .i64 ((Int.ofNat s.len)+(Int.ofNat 1))=((L.length+1:Nat):Int):=by
   show IntKind.wrap .i64 ((s.len:Int)+1)=_;rw [w64]<;>omega
  have hw1:IntKind.wrap .i64 ((v:Int)+(Int.ofNat 1))=((v+1:Nat):Int):=by
   show IntKind.wrap .i64 ((v:Int)+1)=_;rw [w64]<;>omega
  have hrl:=cD L;have hLl:(L.take v++y::L.drop v).length=L.length+1:=by simp;omega
  have ht:=cD (L.take v);have hd:=cD (L.drop v);simp only [List.length_take,List.length_drop] at ht hd;have htv:(regC (L.take v)).length=v*6:=by rw [ht,Nat.min_eq_left hv]
  have hne:=At.ne h
  have ha0:(if s.cap=0 then s.a else Option.map (λx=>Addr.add x (0*6)) s.a)=some ⟨b0,0,none⟩:=by
   rw [if_neg (by omega),ha];rfl
  have hone2:∀ x ∈ regC (L.drop v),x.oneCell'=true:=λx hx=>regC_one hx
  have hfin:regC (L.take v)++y.cells++regC (L.drop v)=regC (L.take v++y::L.drop v):=by
   rw [iV,show y::L.drop v=[y]++L.drop v from rfl,iV,hy1,List.append_assoc]
  simp only [hw,hw1,ha0,Int.toNat_natCast];refine bsel_in (λg2=>?_) λg2=>?_
  ·-- no room
   have g2:((L.length+1:Nat):Int) > (s.cap:Int):=of_decide_eq_true g2;have hcl:s.cap=L.length:=by omega
   refine inB_in (by omega) (by omega) ?_;have hn:IntKind.wrap .i64 (((L.length+1:Nat):Int)-(v:Int))=((L.length+1-v:Nat):Int):=by rw [w64]<;>omega
   rw [hn];refine ⟨⟨by omega,by omega,by omega⟩,λz=>by simp at z;omega,λ_=>?_⟩;refine ⟨regC (L.take v),?_,by simp;omega,?_,λcap hcap2=>?_⟩
   ·have:=rN (i:=0) (o:=0) (n:=v*6) h rfl (by simp;omega);rw [List.drop_zero,List.take_append_of_le_length (by omega)] at this
    have e2:(regC L).take (v*6)=regC (L.take v):=by
     rw [mB L v,List.take_append_of_le_length (by omega),List.take_of_length_le (by omega)]
    rw [e2] at this;exact this
   ·have:=growslice_fits (need:=v+(L.length+1-v)) (old:=s.cap) (bytes:=32) (by omega) (by omega);simpa using this
   ·have hz:(zNews 6 #[(.int .i64 (0:Int)),(.int .i64 (0:Int)),(.bool false),(.bool false),(.bool false),(.int .i64 (0:Int))] ((L.length+1-v:Nat):Int)).length=(L.length+1-v)*6:=by
     unfold zNews;rw [if_neg (by omega),Array.length_toList,eL,Int.toNat_natCast];rfl
    simp only [Int.toNat_natCast] at hcap2 ⊢;have hsz:=eL (z:=#[Value.int .i64 (0:Int),(.int .i64 (0:Int)),(.bool false),(.bool false),(.bool false),(.int .i64 (0:Int))]) (n:=cap-(v+(L.length+1-v)));generalize Builtin.zeroCells #[Value.int .i64 (0:Int),(.int .i64 (0:Int)),(.bool false),(.bool false),(.bool false),(.int .i64 (0:Int))] (cap-(v+(L.length+1-v)))=zs at hsz ⊢;generalize zNews 6 #[Value.int .i64 (0:Int),(.int .i64 (0:Int)),(.bool false),(.bool false),(.bool false),(.int .i64 (0:Int))] ((L.length+1-v:Nat):Int)=zn at hz ⊢;have e:(regC (L.take v)).toArray++zn.toArray++zs=(regC (L.take v)++zn.take 6++(zn.drop 6++zs.toList)).toArray:=by grind
    rw [e];refine aT h λb3 A3 h3=>?_;have hcap3:v+(L.length+1-v)<=cap:=hcap2;have hzs:zs.toList.length=(cap-(v+(L.length+1-v)))*6:=by simpa using hsz
    clear hcap2;generalize updA A b3 _=A3 at h3 ⊢;refine inB_in (by omega) (by omega) ?_;refine aFe (m:=1) (pre:=regC (L.take v)) (vs:=y.cells) h3 ?_ (by grind) (by simp;omega) ?_ rfl hone λA4 h4=>?_
    ·rw [if_neg (by omega)];show some (Addr.add ⟨b3,0,none⟩ (v*6))=_;rw [add_at,htv,Nat.zero_add]
    ·have:=rN (i:=2) (o:=0) (n:=6) h3 rfl (by simp [Reg.cells]);simpa [Reg.cells] using this
    refine inB_in (by omega) (by omega) (inB_in (by omega) (by omega) ?_);have hzl:(zn.drop 6).length=(L.length-v)*6:=by simp;omega
    have h4:Own (At b3 ((regC (L.take v)++y.cells)++zn.drop 6++zs.toList)::At b0 (regC L++rest)::At b y.cells::R) A4:=by simpa [List.append_assoc] using h4
    refine aFe (m:=L.length-v) (pre:=regC (L.take v)++y.cells) (vs:=regC (L.drop v)) h4 ?_ (by grind) hzl ?_ hd hone2 λA5 h5=>?_
    ·rw [if_neg (by omega)];show some (Addr.add ⟨b3,0,none⟩ ((v+1)*6))=_;rw [add_at];congr 2;simp [htv,Reg.cells];omega
    ·rw [if_neg (by omega),ha];show oU A4 (some (Addr.add ⟨b0,0,none⟩ (v*6))) _ _;rw [add_at,Nat.zero_add];have:=rN (i:=1) (o:=v*6) (n:=(L.length-v)*6) h4 rfl (by simp;omega);rw [List.drop_append_of_le_length (by omega),List.take_append_of_le_length (by simp;omega)] at this
     have e2:((regC L).drop (v*6)).take ((L.length-v)*6)=regC (L.drop v):=by
      rw [List.take_of_length_le (by simp;omega),mB L v,List.drop_append_of_le_length (by omega),List.drop_of_length_le (by omega),List.nil_append]
     rw [e2] at this;exact this
    rw [hfin] at h5;refine hk _ A5 (by simp) ?_;have h6:=(h5.swap).tail;refine h6.imp λB hB=>⟨⟨?_,by simp;omega⟩,.inr ⟨b3,zs.toList,rfl,?_,hB⟩⟩
    ·rw [cD];simp;omega
    ·rw [List.length_append,cD,hzs];simp;omega
  ·-- there is room
   have g2:¬ ((L.length+1:Nat):Int) > (s.cap:Int):=of_decide_eq_false g2;have e1:(s.cap=v+1)=False:=by simp;omega
   have e2:(s.cap=v)=False:=by simp;omega
   simp only [e1,e2,if_false]
   have ea:Option.map (λx:Addr=>x.add (v*6)) (some ⟨b0,0,none⟩)=some ⟨b0,v*6,none⟩:=by
    show some (Addr.add ⟨b0,0,none⟩ (v*6))=_;rw [add_at,Nat.zero_add]
   have ea1:Option.map (λx:Addr=>x.add ((v+1)*6)) (some ⟨b0,0,none⟩)=some ⟨b0,(v+1)*6,none⟩:=by
    show some (Addr.add ⟨b0,0,none⟩ ((v+1)*6))=_;rw [add_at,Nat.zero_add]
   simp only [ea,ea1];refine inB_in (by omega) (by omega) (inB_in (by omega) (by omega) ?_);obtain ⟨t1,ht1⟩:=h.at (i:=1) (b:=b) rfl;obtain ⟨t0,ht0⟩:=h.at (i:=0) (b:=b0) rfl
   refine ⟨λz=>hne z.symm,⟨_,t1,ht1⟩,⟨_,t0,ht0,by
    have:(regC L++rest).length≠0:=by rw [List.length_append,hrl];omega
    simpa using this⟩,?_⟩
   refine aG rfl (inB_in (by omega) (by omega) (inB_in (by omega) (by omega) ?_));have hrest:rest.length=(s.cap-L.length)*6:=by rw [List.length_append,hrl] at hroom;omega
   have h2:Own (At b0 ((regC (L.take (v))++(regC (L.drop v)).take 6)++((regC (L.drop v)).drop 6++rest.take 6)++rest.drop 6)::At b y.cells::R) A:=by
    have:(regC (L.take (v))++(regC (L.drop v)).take 6)++((regC (L.drop v)).drop 6++rest.take 6)++rest.drop 6=regC L++rest:=by
     rw [mB L v,List.append_assoc (regC (L.take v)),<- List.append_assoc ((regC (L.drop v)).take 6),List.take_append_drop];simp
    rw [this];exact h
   refine aFe (m:=L.length-v) (vs:=regC (L.drop v)) h2 ?_ (by show min (_:Nat) _=_;dsimp only;omega) (by simp;omega) ?_ hd hone2 λA3 h3=>?_
   ·have e9:(regC (L.take v)++(regC (L.drop v)).take 6).length=(v+1)*6:=by rw [List.length_append,List.length_take,htv,hd];omega
    rw [e9]
   ·have:=rN (i:=0) (o:=v*6) (n:=(L.length-v)*6) h rfl (by simp;omega);rw [List.drop_append_of_le_length (by omega),List.take_append_of_le_length (by simp;omega)] at this
    have e2:((regC L).drop (v*6)).take ((L.length-v)*6)=regC (L.drop v):=by
     rw [List.take_of_length_le (by simp;omega),mB L v,List.drop_append_of_le_length (by omega),List.drop_of_length_le (by omega),List.nil_append]
    rw [e2] at this;exact this
   refine inB_in (by omega) (by omega) ?_;have h3:Own (At b0 (regC (L.take v)++(regC (L.drop v)).take 6++(regC (L.drop v)++rest.drop 6))::At b y.cells::R) A3:=by simpa [List.append_assoc] using h3
   refine aFe (m:=1) (vs:=y.cells) h3 ?_ (by show min (_:Nat) _=_;dsimp only;omega) (by simp;omega) ?_ rfl hone λA4 h4=>?_
   ·rw [htv]
   ·have:=rN (i:=1) (o:=0) (n:=6) h3 rfl (by simp [Reg.cells]);simpa [Reg.cells] using this
   rw [<-List.append_assoc,hfin] at h4;refine hk _ A4 (by simp) ?_;refine h4.imp λB hB=>⟨⟨?_,by simp;omega⟩,.inr ⟨b0,rest.drop 6,rfl,?_,hB⟩⟩
   ·rw [cD];simp;omega
   ·rw [List.length_append,cD,hLl,List.length_drop,hrest];show _=s.cap*6;omega
theorem aKm (out:List Reg) (r:Reg):l6 out r≠[]:=by
 unfold l6;split
 .split<;>simp
 .simp
theorem aFA (h:L≠[]):mergedR L≠[]:=by
 have:∀ (L:List Reg) (o:List Reg),(L≠[]\/o≠[])->L.foldl l6 o≠[]:=by
  intro L
  induction L with
  | nil=>intro o h;simpa using h
  | cons y L ih=>intro o _;exact ih _ (.inr (aKm o y))
 exact this L [] (.inl h)
def atS (y:Reg):List Reg->Nat->Nat->Option Nat
 | [],_,a=>some a
 | x::L,i,a=>if x.b<=y.a then atS y L (i+1) (i+1) else if x.a<y.b then none else atS y L (i+1) a
def addL (L:List Reg) (y:Reg):List Reg:=match atS y L 0 0 with
 | none=>[]
 | some v=>mergedR (L.take v++y::L.drop v)
def cG (L:List Reg) (y:Reg):Int:=if rightB y.a y.b=false then 1 else if goodB L=false then 3 else match atS y L 0 0 with
 | none=>6
 | some _=>if (addL L y).length > 64 then 4 else 0
theorem lB (h:goodB L=true):L.length<=64:=by
 unfold goodB at h;rw [Bool.and_eq_true] at h;exact of_decide_eq_true h.1
theorem wS {Q:Sl->Int->AH->Prop} (h:Own l A) (e:l[k]? = some P) (G:Reads P s 6 (regC L)) (Z:s.a=none->L=[])
  (d:∀ f,Own l f->cG L y≠0->Q Sl.nil (cG L y) f) (hk:∀ s' f,cG L y=0->s'.a≠none->Own (SlO s' 6 (regC (addL L y))::l) f->Q s' 0 f):qcx_A s y.a y.b y.w y.u y.x y.k Q A:=by
 have hl:=bF h e G;unfold qcx_A qcx_G;refine pQ ?_;cases r:rightB y.a y.b with
 | false=>
  have:cG L y=1:=by unfold cG;rw [if_pos r]
  rw [this] at d;exact aG rfl (d A h (by decide))
 | true=>
 refine bsel_f rfl (uH h e G ?_);cases S:goodB L with
 | false=>
  have:cG L y=3:=by unfold cG;rw [if_neg (by simp [r]),if_pos S]
  rw [this] at d;exact aG rfl (d A h (by decide))
 | true=>
 have hlen:=lB S
 have u:cG L y=match atS y L 0 0 with
  | none=>6
  | some _=>if (addL L y).length > 64 then 4 else 0:=by unfold cG;rw [if_neg (by simp [r]),if_neg (by simp [S])]
 refine bsel_f rfl ⟨λa x m f=>∃ v t:Nat,x=v/\a=t/\t<=v/\m+v=L.length/\f=A/\atS y L 0 0=atS y (L.drop v) v t,⟨L.length,0,0,rfl,rfl,Nat.le_refl _,rfl,rfl,by simp⟩,?_⟩;intro a x m A1 ⟨v,t,e1,e2,e3,e4,e5,w⟩;subst e1 e2 e5;refine bsel_in (λc=>?_) λc=>?_
 .have c:(v:Int)<s.len:=of_decide_eq_true c;obtain ⟨z,O⟩:∃ z,L[v]? = some z:=⟨L[v]'(by omega),by simp⟩
  have hd:L.drop v=z::L.drop (v+1):=by
   have H:=(List.getElem?_eq_some_iff.1 O).1;rw [List.drop_eq_getElem_cons H];rw [List.getElem?_eq_getElem H] at O;rw [Option.some.inj O]
  rw [hd,atS] at w;refine ⟨λa' f=>∃ t':Nat,a'=t'/\t'<=v+1/\f=A1/\atS y L 0 0=atS y (L.drop (v+1)) (v+1) t',λa' f ⟨t',f1,f2,f3,f4⟩=>⟨m-1,by omega,v+1,t',by rw [w64]<;>omega,f1,f2,by omega,f3,f4⟩,?_⟩;obtain ⟨ad,q1,q2⟩:=dT h e G O;rw [q1];refine inB_in (by omega) c (q2 _ ?_);refine bsel_in (λg=>?_) λg=>?_
  .rw [if_pos (of_decide_eq_true g)] at w;exact ⟨v+1,by rw [w64]<;>omega,Nat.le_refl _,rfl,w⟩
  .rw [if_neg (of_decide_eq_false g)] at w;refine bsel_in (λg2=>?_) λg2=>?_
   .simp_all
   .grind
 .have c:¬ (v:Int)<s.len:=of_decide_eq_false c;have hv:v=L.length:=by omega
  subst hv;rw [List.drop_length,atS] at w;have hL:addL L y=mergedR (L.take t++y::L.drop t):=by unfold addL;rw [w]
  rw [w] at u;have u:cG L y=if (addL L y).length > 64 then 4 else 0:=u
  have hll:(L.take t++y::L.drop t).length=L.length+1:=by simp;omega
  have last:∀ (j:Sl) (p:AH),(j.a=none->mergedR (L.take t++y::L.drop t)=[])->Own (SlO j 6 (regC (mergedR (L.take t++y::L.drop t)))::l) p->qcw_A j (λs n B=>Q s n B) p:=by
   intro j p q E;rw [<-hL] at q E;unfold qcw_A;have hl5:j.len=(addL L y).length:=bF (k:=0) E rfl aR;refine bsel_in (λg=>?_) λg=>?_
   .have g:(j.len:Int) > 64:=of_decide_eq_true g;rw [if_pos (by omega)] at u;rw [u] at d;exact d p E.tail (by decide)
   .have g:¬ (j.len:Int) > 64:=of_decide_eq_false g;rw [if_neg (by omega)] at u;refine hk j p u (λz=>?_) E;have h0:=q z;rw [hL] at h0;have:=aFA (L:=L.take t++y::L.drop t) (by simp_all);exact this h0
  have I:∀ (F:Sl) (b:Nat) (J:AH),(F.a=none->L=[])->Own (SlO F 6 (regC L)::At b y.cells::l) J->qcu_A F t (Sl.mk (some (Addr.mk b 0 none)) 1 1) (λT U=>qcv_A T (λV W=>qcw_A V (λX Y B=>Q X Y B) W) U) J:=by
   intro F b J D K;refine aDe K D (by omega) (by omega) λs4 p M N=>?_;exact mR (k:=0) N rfl aR (by omega) λj A5 q E=>last j A5 q (E.cons λC hC=>hC.tail.tail)
  refine ⟨?_,?_⟩
  .refine mV h e G (by omega) Z λF J _ D K=>?_;refine aT (cs:=y.cells) K λb p N=>I F b p D N.swap
  .refine aT (cs:=y.cells) h λb J K=>?_;exact mV (k:=k+1) K (by simp_all) G (by omega) Z λs4 p _ M N=>I s4 b p M N
end Go.Dn
namespace Go.Dn
variable {L:List Reg} {y q:Reg}
def attrR (y:Reg):Bool × Bool × Bool × Int:=(y.w,y.u,y.x,y.k)
def lookR (L:List Reg) (p:Int):Option (Bool × Bool × Bool × Int):=(findR L p).map attrR
def srtR:List Reg->Prop
 | []=>True
 | y::r=>(0<=y.a/\y.a<y.b/\y.b<=34359738368)/\(∀ z ∈ r,y.b<=z.a)/\srtR r
def njR:List Reg->Prop
 | []=>True
 | y::r=>(∀ z,r.head? = some z->cQ y z=false)/\njR r
theorem cK:∀ {a b:List Reg},srtR (a++b)↔srtR a/\srtR b/\∀ x ∈ a,∀ z ∈ b,x.b<=z.a
 | [],b=>by simp [srtR]
 | y::a,b=>by
  simp only [List.cons_append,srtR,cK (a:=a),List.mem_append,List.mem_cons];constructor
  .simp_all
  .grind
theorem srt_mem:∀ {L:List Reg},srtR L->∀ x ∈ L,0<=x.a/\x.a<x.b/\x.b<=34359738368
 | y::r,h,x,a=>by
  rcases List.mem_cons.1 a with e | a
  .rw [e];exact h.1
  .exact srt_mem h.2.2 x a
theorem lL:∀ {a:List Reg} {q:Reg},njR (a++[q])↔njR a/\∀ l,a.getLast? = some l->cQ l q=false
 | [],q=>by simp [njR]
 | [x],q=>by simp [njR]
 | x::z::a,q=>by
  have b:=lL (a:=z::a) (q:=q);have e:(x::z::a).getLast? = (z::a).getLast?:=by simp [List.getLast?_cons_cons]
  rw [e,List.cons_append,njR,njR,b];simp only [List.cons_append,List.head?_cons,Option.some.injEq,forall_eq'];constructor
  .simp_all
  .simp_all
theorem lD {p q:Reg}:cQ p q=true↔p.b=q.a/\attrR p=attrR q:=by
 unfold cQ attrR;simp only [Bool.and_eq_true,beq_iff_eq,Bool.and_true,Prod.mk.injEq];constructor
 .simp_all
 .simp_all
theorem yP {p a q b:Reg} (c:p.b=a.b) (d:attrR p=attrR a) (e:q.a=b.a) (f:attrR q=attrR b):cQ p q=cQ a b:=by
 rw [Bool.eq_iff_iff,lD,lD,c,d,e,f]
theorem dB {a b:List Reg} {p:Int}:lookR (a++b) p=(lookR a p).or (lookR b p):=by
 unfold lookR findR;rw [List.find?_append];cases List.find? (λr=>decide (r.a<=p)&&decide (p<r.b)) a<;>rfl
theorem bE {a:Reg} {b:List Reg} {p:Int}:lookR (a::b) p=if a.a<=p/\p<a.b then some (attrR a) else lookR b p:=by
 unfold lookR findR;rw [List.find?_cons];by_cases h:a.a<=p/\p<a.b
 .simp_all
 .grind
theorem aHo {c r:List Reg} {y:Reg} (h:srtR (c++y::r)) (v:njR c):srtR (l6 c y++r)/\njR (l6 c y)/\∀ p,lookR (l6 c y++r) p=lookR (c++y::r) p:=by
 unfold l6;split
 .rename_i q d;have i:c≠[]:=λz=>by rw [z] at d;simp at d
  have j:c=c.dropLast++[q]:=by
   have:=List.dropLast_concat_getLast i;rw [List.getLast?_eq_some_getLast i] at d;rw [<-Option.some.inj d];exact this.symm
  generalize c.dropLast=a0 at j;subst j;split
  .rename_i f;obtain ⟨e1,F⟩:=lD.1 f;rw [List.append_assoc] at h;have n:=cK.1 h;have w:=(cK.1 n.2.1);have G:=cK (a:=[y]) (b:=r);have hs:srtR ([q]++y::r):=n.2.1;obtain ⟨o,A,s⟩:=(hs:(0<=q.a/\q.a<q.b/\q.b<=34359738368)/\(∀ z ∈ y::r,q.b<=z.a)/\srtR (y::r));obtain ⟨t,u,B⟩:=s;have k:=lL.1 v;refine ⟨?_,?_,λp=>?_⟩
   .rw [List.append_assoc];refine cK.2 ⟨n.1,⟨⟨o.1,by show q.a<y.b;omega,t.2.2⟩,λz g=>u z g,B⟩,λx H z g=>?_⟩;rcases List.mem_cons.1 g with e | g
    .simp_all
    .simp_all
   .refine lL.2 ⟨k.1,λl m=>?_⟩;have:=k.2 l m;rw [<-this];exact yP rfl rfl rfl rfl
   .have C:a0++[{ q with b:=y.b }]++r=a0++({ q with b:=y.b }::r):=by simp
    have D:a0++[q]++y::r=a0++(q::y::r):=by simp
    rw [C,D,dB,dB];congr 1;rw [bE,bE,bE];have E:attrR { q with b:=y.b } = attrR q:=rfl;rw [E];by_cases c1:q.a<=p/\p<q.b
    .grind
    .grind
  .rename_i f;refine ⟨by rw [List.append_assoc];exact h,lL.2 ⟨v,λl m=>?_⟩,λp=>by rw [List.append_assoc];rfl⟩;rw [d] at m;cases m;simpa using f
 .rename_i d;have:c=[]:=List.getLast?_eq_none_iff.1 d;subst this;exact ⟨h,⟨λz g=>by simp at g,trivial⟩,λp=>rfl⟩
theorem aDd:∀ (rest a:List Reg),srtR (a++rest)->njR a->srtR (rest.foldl l6 a)/\njR (rest.foldl l6 a)/\∀ p,lookR (rest.foldl l6 a) p=lookR (a++rest) p
 | [],a,h,hj=>by rw [List.append_nil] at h;exact ⟨h,hj,λp=>by rw [List.append_nil];rfl⟩
 | y::r,a,h,hj=>by
  obtain ⟨b,c,d⟩:=aHo h hj;obtain ⟨k1,k2,e⟩:=aDd r (l6 a y) b c;exact ⟨k1,k2,λp=>(e p).trans (d p)⟩
theorem gE (h:srtR L):srtR (mergedR L)/\njR (mergedR L)/\∀ p,lookR (mergedR L) p=lookR L p:=aDd L [] h trivial
theorem aBc {o:Option Reg}:okP o y=true↔(0<=y.a/\y.a<y.b/\y.b<=34359738368)/\∀ q,o=some q->q.b<=y.a/\cQ q y=false:=by
 unfold okP;cases o with
 | none=>
  simp only [Bool.and_eq_true,Bool.not_eq_true',decide_eq_false_iff_not,reduceCtorEq,false_implies,implies_true,and_true];omega
 | some q=>
  simp only [Bool.and_eq_true,Bool.not_eq_true',decide_eq_false_iff_not,Option.some.injEq,forall_eq'];constructor
  .simp_all
  .simp_all
theorem aGW:∀ (L:List Reg) (o:Option Reg),(∀ v,v<L.length->okP (if v=0 then o else L[v-1]?) (L[v]?.getD y)=true)->srtR L/\njR L/\(∀ q z,o=some q->L.head? = some z->cQ q z=false)/\∀ q,o=some q->∀ z ∈ L,q.b<=z.a
 | [],o,_=>⟨trivial,trivial,by simp,by simp⟩
 | x::r,o,h=>by
  have b:=aBc.1 (h 0 (by simp));simp only [if_true,List.getElem?_cons_zero,Option.getD_some] at b
  obtain ⟨k1,k2,c,d⟩:=aGW r (some x) λv f=>by
   have:=h (v+1) (by simp;omega);rw [if_neg (by omega),List.getElem?_cons_succ] at this;cases v with
   | zero=>simpa using this
   | succ v=>simpa using this
  refine ⟨⟨b.1,λz a=>d x rfl z a,k1⟩,⟨λz a=>c x z rfl a,k2⟩,λq z e a=>?_,λq e z a=>?_⟩
  .simp_all
  .grind
theorem aHJ:∀ (L:List Reg) (o:Option Reg),srtR L->njR L->(∀ q z,o=some q->L.head? = some z->q.b<=z.a/\cQ q z=false)->∀ v z,L[v]? = some z->okP (if v=0 then o else L[v-1]?) z=true
 | [],o,_,_,_,v,z,h=>by simp at h
 | x::r,o,h1,h2,h3,0,z,h=>by
  simp at h;subst h;exact aBc.2 ⟨h1.1,λq a=>h3 q x a rfl⟩
 | x::r,o,h1,h2,h3,v+1,z,h=>by
  have:=aHJ r (some x) h1.2.2 h2.2 (λq z a b=>by
   cases a;exact ⟨h1.2.1 z (List.mem_of_head? b),h2.1 z b⟩) v z (by simp_all)
  rw [if_neg (by omega),show v+1-1=v by omega];cases v with
  | zero=>simpa using this
  | succ v=>simpa using this
theorem bJ:goodB L=true↔L.length<=64/\srtR L/\njR L:=by
 unfold goodB;rw [Bool.and_eq_true,decide_eq_true_eq,List.all_eq_true];constructor
 .rintro ⟨a,b⟩
  have:=aGW (y:=aLO) L none λv c=>by
   have:=b v (by simp_all);unfold okR6 at this;rw [List.getElem?_eq_getElem c] at this ⊢;exact this
  exact ⟨a,this.1,this.2.1⟩
 .rintro ⟨a,b,d⟩;refine ⟨a,λv c=>?_⟩;unfold okR6;cases h:L[v]? with
  | none=>rfl
  | some z=>exact aHJ L none b d (λq z e=>by cases e) v z h
theorem sJ:∀ {L:List Reg} {i a:Nat},atS y L i a=none↔∃ x ∈ L,y.a<x.b/\x.a<y.b
 | [],i,a=>by simp [atS]
 | x::L,i,a=>by
  rw [atS];split
  .rw [sJ (L:=L)];constructor
   .simp_all
   .grind
  .split
   .simp_all
   .rw [sJ (L:=L)];constructor
    .simp_all
    .grind
theorem rW:∀ {L:List Reg} {i a v:Nat},srtR L->atS y L i a=some v->∃ c,c<=L.length/\(v=if c=0 then a else i+c)/\(∀ x ∈ L.take c,x.b<=y.a)/\∀ x ∈ L.drop c,y.b<=x.a/\y.a<x.b
 | [],i,a,v,_,h=>by
  simp [atS] at h;exact ⟨0,by simp,by simp [h],by simp,by simp⟩
 | x::L,i,a,v,hs,h=>by
  rw [atS] at h;split at h
  .rename_i g;obtain ⟨c,d,f,j,k⟩:=rW hs.2.2 h;refine ⟨c+1,by simp;omega,by rw [if_neg (by omega)];split at f<;>omega,λz b=>?_,λz b=>k z (by simp_all)⟩;rw [List.take_succ_cons] at b;rcases List.mem_cons.1 b with e | b
   .simp_all
   .exact j z b
  .rename_i g;split at h
   .cases h
   .rename_i m;obtain ⟨c,d,f,j,k⟩:=rW hs.2.2 h
    have l:c=0:=by
     cases L with
     | nil=>simp at d;exact d
     | cons z L=>
      cases c with
      | zero=>rfl
      | succ c=>
       have n:=j z (by simp);have o:=hs.2.1 z (by simp);have p:=hs.2.2.1;omega
    subst l;refine ⟨0,by simp,by simpa using f,by simp,λz b=>?_⟩;rw [List.drop_zero] at b;rcases List.mem_cons.1 b with e | b
    .rw [e];omega
    .simp_all
theorem kN (k:goodB L=true) (h:rightB y.a y.b=true) (a:cG L y=0):goodB (addL L y)=true/\(addL L y).length<=L.length+1/\∀ p,lookR (addL L y) p=if y.a<=p/\p<y.b then some (attrR y) else lookR L p:=by
 obtain ⟨A,l,B⟩:=bJ.1 k;unfold cG at a;rw [if_neg (by simp [h]),if_neg (by simp [k])] at a;cases f:atS y L 0 0 with
 | none=>rw [f] at a;cases a
 | some v=>
  rw [f] at a;have a:(if (addL L y).length > 64 then (4:Int) else 0)=0:=a;have b:(addL L y).length<=64:=by omega
  have m:addL L y=mergedR (L.take v++y::L.drop v):=by unfold addL;rw [f]
  obtain ⟨c,C,t,n,u⟩:=rW l f;have i:v=c:=by split at t<;>omega
  subst i
  have j:0<=y.a/\y.a<y.b/\y.b<=34359738368:=by
   unfold rightB at h;simp at h;omega
  have hs:=cK.1 (by rw [List.take_append_drop];exact l:srtR (L.take v++L.drop v))
  have w:srtR (L.take v++y::L.drop v):=cK.2 ⟨hs.1,⟨j,λz d=>(u z d).1,hs.2.1⟩,λx g z d=>by
   rcases List.mem_cons.1 d with e | d
   .rw [e];exact n x g
   .exact hs.2.2 x g z d⟩
  obtain ⟨o,r,s⟩:=gE w;rw [<-m] at o r s;refine ⟨bJ.2 ⟨b,o,r⟩,?_,λp=>?_⟩
  .rw [m];have:=oF (L.take v++y::L.drop v);simp at this;omega
  .rw [s p,dB,bE];have e1:lookR L p=(lookR (L.take v) p).or (lookR (L.drop v) p):=by rw [<-dB,List.take_append_drop]
   by_cases c:y.a<=p/\p<y.b
   .rw [if_pos c]
    have:lookR (L.take v) p=none:=by
     unfold lookR findR;rw [Option.map_eq_none_iff,List.find?_eq_none];intro x g;have:=n x g;simp;omega
    rw [this,if_pos c];rfl
   .rw [if_neg c,if_neg c,e1]
theorem pO {p:Int}:(∃ x ∈ L,x.a<=p/\p<x.b)↔lookR L p≠none:=by
 unfold lookR findR;rw [Ne,Option.map_eq_none_iff,List.find?_eq_none];constructor
 .simp_all
 .simp_all
end Go.Dn
namespace Go.Dn
variable {A:AH} {l:List SP} {P:SP} {k:Nat} {s:Sl} {L:List Reg} {y:Reg} {p q:Int} {pw pu px:Bool}
def spl1 (ch:Reg->List Reg) (p q:Int) (y:Reg):List Reg:=if (inR6 y p q).b<=(inR6 y p q).a then [y] else
 (if (aheadR y p).b > y.a then [aheadR y p] else [])++ch (inR6 y p q)++(if y.b > (behR y q).a then [behR y q] else [])
def noR (_:Reg):List Reg:=[]
def asR (pw pu px:Bool) (y:Reg):List Reg:=[{ y with w:=pw,u:=pu,x:=px }]
theorem aBz:cut1 p q=spl1 noR p q:=by
 funext y;unfold cut1 spl1 noR;split
 .rfl
 .rw [List.append_nil]
def protR (L:List Reg) (p q:Int) (pw pu px:Bool):List Reg:=mergedR (L.flatMap (spl1 (asR pw pu px) p q))
def gU (L:List Reg) (p q:Int):Int:=if rightB p q=false then 1 else if goodB L=false then 3 else if (cutR L p q).length > 64 then 4 else 0
def cntZ (L:List Reg) (p q:Int):Int:=match L with
 | []=>0
 | y::r=>(if (if q<y.b then q else y.b)-(if p > y.a then p else y.a) > 0 then (if q<y.b then q else y.b)-(if p > y.a then p else y.a) else 0)+cntZ r p q
def eC (L:List Reg) (p q:Int) (pw pu px:Bool):Int:=if rightB p q=false then 1 else if goodB L=false then 3 else if cntZ L p q≠q-p then 5 else if (protR L p q pw pu px).length > 64 then 4 else 0
theorem aAe {s':Sl} {M:List Reg} {Q:Sl->Int->AH->Prop} (h:Own (SlO s' 6 (regC M)::l) A) (a:M.length > 64->Q Sl.nil 4 A) (b:¬ M.length > 64->Q s' 0 A):qcw_A s' Q A:=by
 have c:=bF (k:=0) h rfl aR;unfold qcw_A;refine bsel_in (λg=>a ?_) λg=>b ?_
 .have g:(s'.len:Int) > 64:=of_decide_eq_true g;omega
 .have g:¬ (s'.len:Int) > 64:=of_decide_eq_false g;omega
theorem zO {Q:Sl->Int->AH->Prop} (h:Own l A) (e:l[k]? = some P) (m:Reads P s 6 (regC L))
  (a:∀ c,Own l c->gU L p q≠0->Q Sl.nil (gU L p q) c) (r:∀ s' c,gU L p q=0->(s'.a=none->cutR L p q=[])->Own (SlO s' 6 (regC (cutR L p q))::l) c->Q s' 0 c):qdm_A s p q Q A:=by
 unfold qdm_A qdm_G;refine pQ ?_;cases b:rightB p q with
 | false=>
  have:=a A h;unfold gU at this;rw [if_pos b] at this;exact aG rfl (this (by decide))
 | true=>
 refine bsel_f rfl (uH h e m ?_);cases f:goodB L with
 | false=>
  have:=a A h;unfold gU at this;rw [if_neg (by simp [b]),if_pos f] at this;exact aG rfl (this (by decide))
 | true=>
 have d:gU L p q=if (cutR L p q).length > 64 then 4 else 0:=by unfold gU;rw [if_neg (by simp [b]),if_neg (by simp [f])]
 have n:=lB f;refine bsel_f rfl (aD1 h e m (by omega) λs' o i j=>aAe j (λg=>?_) λg=>?_)
 .rw [if_pos g] at d;have:=a o j.tail (by rw [d];decide);rw [d] at this;exact this
 .rw [if_neg g] at d;exact r s' o d i j
theorem aE8:∀ {L:List Reg},srtR L->0<=cntZ L p q/\∀ lo,(∀ z ∈ L,lo<=z.a)->0<=lo->cntZ L p q<=34359738368-lo\/L=[]
 | [],_=>⟨Int.le_refl _,λ_ _ _=>.inr rfl⟩
 | y::r,h=>by
  obtain ⟨i,c,d⟩:=h;obtain ⟨j,f⟩:=aE8 d;refine ⟨?_,λlo b m=>.inl ?_⟩
  .simp only [cntZ];split<;>omega
  .have:=b y (by simp);have a:=f y.b (λz g=>c z g) (by omega)
   have e:(if (if q<y.b then q else y.b)-(if p > y.a then p else y.a) > 0 then (if q<y.b then q else y.b)-(if p > y.a then p else y.a) else 0)<=y.b-y.a:=by
    split
    .split<;>split<;>omega
    .omega
   simp only [cntZ];rcases a with a | a
   .omega
   .subst a;simp only [cntZ];omega
theorem nC (h:srtR L):0<=cntZ L p q/\cntZ L p q<=34359738368:=by
 obtain ⟨b,c⟩:=aE8 (p:=p) (q:=q) h;refine ⟨b,?_⟩;rcases c 0 (λz d=>(srt_mem h z d).1) (Int.le_refl _) with a | a
 .omega
 .subst a;simp [cntZ]
theorem yC:∀ {a b:List Reg},cntZ (a++b) p q=cntZ a p q+cntZ b p q
 | [],b=>by simp [cntZ]
 | y::a,b=>by simp only [List.cons_append,cntZ,yC (a:=a)];omega
theorem aEe {Q:Int->AH->Prop} (h:Own l A) (e:l[k]? = some P) (g:Reads P s 6 (regC L)) (hs:srtR L) (E:L.length<=1000) (j:0<=p/\p<=34359738368/\0<=q/\q<=34359738368) (o:Q (cntZ L p q) A):qeq_A s p q Q A:=by
 have F:=bF h e g;unfold qeq_A;refine ⟨λn x m r=>∃ v:Nat,x=v/\m+v=L.length/\r=A/\n=cntZ (L.take v) p q,⟨L.length,0,rfl,rfl,rfl,rfl⟩,?_⟩;intro n x m G ⟨v,e1,H,t,u⟩;subst e1 t u;have d:srtR (L.take v):=(cK.1 (by rw [List.take_append_drop];exact hs:srtR (L.take v++L.drop v))).1;refine bsel_in (λc=>?_) λc=>?_
 .have c:(v:Int)<s.len:=of_decide_eq_true c;obtain ⟨y,f⟩:∃ y,L[v]? = some y:=⟨L[v]'(by omega),by simp⟩;have w:=cN f;have b:srtR (L.take (v+1)):=(cK.1 (by rw [List.take_append_drop];exact hs:srtR (L.take (v+1)++L.drop (v+1)))).1;have z:=srt_mem hs y (List.mem_of_getElem? f);have I:=nC (p:=p) (q:=q) d;have i:=nC (p:=p) (q:=q) b;obtain ⟨a,B,C⟩:=dT h e g f;rw [B];refine inB_in (by omega) c (C _ ⟨m-1,by omega,v+1,by rw [w64]<;>omega,by omega,rfl,?_⟩);rw [w,yC] at i ⊢;simp only [cntZ,Int.add_zero] at i ⊢
  have D:IntKind.wrap .i64 ((if q<y.b then q else y.b)-(if p > y.a then p else y.a))=(if q<y.b then q else y.b)-(if p > y.a then p else y.a):=by
   refine w64 ?_ ?_
   .split<;>split<;>omega
   .split<;>split<;>omega
  rw [D];exact w64 (by omega) (by omega)
 .have c:¬(v:Int)<s.len:=of_decide_eq_false c;rw [List.take_of_length_le (by omega)];exact o
theorem aHa {ch:Reg->List Reg} (a:∀ y,(ch y).length<=1) (y:Reg):(spl1 ch p q y).length<=3:=by
 have:=a (inR6 y p q);unfold spl1;split
 .simp
 .split<;>split<;>simp<;>omega
theorem aCO {ch:Reg->List Reg} (a:∀ y,(ch y).length<=1):∀ L:List Reg,(L.flatMap (spl1 ch p q)).length<=3*L.length
 | []=>by simp
 | y::L=>by
  have b:=aCO a L;have c:=aHa (p:=p) (q:=q) a y;rw [List.flatMap_cons,List.length_append,List.length_cons];omega
theorem aCP {b:Nat} {Q:Sl->AH->Prop} {kb:Nat} (h:Own l A) (e:l[k]? = some P) (T:Reads P s 6 (regC L)) (hb:L.length<=1000) (eb:l[kb]? = some (At b [.bool pw,.bool pu,.bool px]))
  (U:∀ s' r,(s'.a=none->protR L p q pw pu px=[])->Own (SlO s' 6 (regC (protR L p q pw pu px))::l) r->Q s' r):qes_A s p q (some ⟨b,0,none⟩) Q A:=by
 have hl:=bF h e T;have V:=aCO (p:=p) (q:=q) (ch:=asR pw pu px) λ_=>Nat.le_refl _;unfold qes_A qes_G;generalize t:spl1 (asR pw pu px) p q=f at *;refine ⟨λo x m r=>∃ v:Nat,x=v/\m+v=L.length/\(o.a=none->(L.take v).flatMap f=[])/\Own (SlO o 6 (regC ((L.take v).flatMap f))::l) r,⟨L.length,0,rfl,rfl,λ_=>rfl,h.nil6⟩,?_⟩;intro o x m A1 ⟨v,e1,e2,G,H⟩;subst e1;refine bsel_in (λc=>?_) λc=>?_
 .have c:(v:Int)<s.len:=of_decide_eq_true c;obtain ⟨y,W⟩:∃ y,L[v]? = some y:=⟨L[v]'(by omega),by simp⟩;have X:(L.take (v+1)).flatMap f=(L.take v).flatMap f++f y:=by rw [cN W,List.flatMap_append];simp
  have hfl:((L.take v).flatMap f).length<=3000:=Nat.le_trans (V _) (by simp;omega);refine ⟨λB r=>(B.a=none->(L.take v).flatMap f++f y=[])/\Own (SlO B 6 (regC ((L.take v).flatMap f++f y))::l) r,λB J ⟨M,I⟩=>⟨m-1,by omega,v+1,by rw [w64]<;>omega,by omega,by rw [X];exact M,by rw [X];exact I⟩,?_⟩;generalize (L.take v).flatMap f=out at *;obtain ⟨a,q1,q2⟩:=dT (k:=k+1) H (by simpa using e) T W;rw [q1];refine inB_in (by omega) c (q2 _ (xN (p:=p) (q:=q) H λJ E=>?_));refine bsel_in (λg=>?_) λg=>?_
  .have g:(inR6 y p q).b<=(inR6 y p q).a:=of_decide_eq_true g;have N:f y=[y]:=by rw [<-t];unfold spl1;rw [if_pos g]
   rw [N];exact fM E G (by omega) λs' Y D h3=>⟨λz=>absurd z D,h3⟩
  .have g:¬ (inR6 y p q).b<=(inR6 y p q).a:=of_decide_eq_false g;have N:f y=(if (aheadR y p).b > y.a then [aheadR y p] else [])++[{ inR6 y p q with w:=pw,u:=pu,x:=px }]++(if y.b > (behR y q).a then [behR y q] else []):=by rw [<-t];unfold spl1;rw [if_neg g];rfl
   rw [N];refine ⟨λB r=>(B.a=none->out++(if (aheadR y p).b > y.a then [aheadR y p] else [])=[])/\Own (SlO B 6 (regC (out++(if (aheadR y p).b > y.a then [aheadR y p] else [])))::l) r,λB Y ⟨M,I⟩=>?_,?_⟩
   .have Z:(out++(if (aheadR y p).b > y.a then [aheadR y p] else [])).length<=4000:=by
     rw [List.length_append];split<;>simp<;>omega
    rw [<-List.append_assoc,<- List.append_assoc];generalize out++(if (aheadR y p).b > y.a then [aheadR y p] else [])=n at *;refine ⟨λO r=>O.a≠none/\Own (SlO O 6 (regC (n++[{ inR6 y p q with w:=pw,u:=pu,x:=px }]))::l) r,λO A4 ⟨k1,k2⟩=>?_,?_⟩
    .have hl3:(n++[{ inR6 y p q with w:=pw,u:=pu,x:=px }]).length<=5000:=by simp;omega
     generalize n++[{ inR6 y p q with w:=pw,u:=pu,x:=px }]=out3 at *;refine bsel_in (λd=>?_) λd=>?_
     .have d:y.b > (behR y q).a:=of_decide_eq_true d;rw [if_pos d];refine fM (y:=behR y q) k2 (λz=>absurd z k1) ?_ λs' A5 D F=>⟨λz=>absurd z D,F⟩;omega
     .have d:¬ y.b > (behR y q).a:=of_decide_eq_false d;rw [if_neg d,List.append_nil];exact ⟨λz=>absurd z k1,k2⟩
    .unfold qer_A;have R:∀ (j:Nat) (z:Bool),[(.bool pw:Value),.bool pu,.bool px][j]? = some (.bool z)->∀ K:Bool->Prop,K z->aB ⟨b,j,none⟩ Y K:=λ_ _ hj _ hK=>nL (i:=kb+1) I (by simpa using eb) hj hK;simp only [aJ,add_at,Nat.zero_add];refine R 0 _ rfl _ (R 1 _ rfl _ (R 2 _ rfl _ (aG rfl ?_)));exact fM (y:={ inR6 y p q with w:=pw,u:=pu,x:=px }) I M (by omega) λs' A5 D F=>⟨D,F⟩
   .refine bsel_in (λd=>?_) λd=>?_
    .have d:(aheadR y p).b > y.a:=of_decide_eq_true d;rw [if_pos d];exact fM (y:=aheadR y p) E G (by omega) λs' A5 D F=>⟨λz=>absurd z D,F⟩
    .have d:¬ (aheadR y p).b > y.a:=of_decide_eq_false d;rw [if_neg d,List.append_nil];exact ⟨G,E⟩
 .have c:¬(v:Int)<s.len:=of_decide_eq_false c;have hv:v=L.length:=by omega
  subst hv;rw [List.take_length] at G H;have hm:protR L p q pw pu px=mergedR (L.flatMap f):=by unfold protR;rw [t]
  rw [hm] at U;refine mR (k:=0) H rfl aR (by have:=V L;omega) λs5 J S E=>U s5 J S (E.cons λC hC=>hC.tail)
theorem aDx {Q:Sl->Int->AH->Prop} (h:Own l A) (e:l[k]? = some P) (m:Reads P s 6 (regC L))
  (c:∀ i,Own l i->eC L p q pw pu px≠0->Q Sl.nil (eC L p q pw pu px) i) (x:∀ s' i,eC L p q pw pu px=0->(s'.a=none->protR L p q pw pu px=[])->Own (SlO s' 6 (regC (protR L p q pw pu px))::l) i->Q s' 0 i):qet_A s p q pw pu px Q A:=by
 unfold qet_A qet_G;refine aT (cs:=[.bool pw,.bool pu,.bool px]) h λb o f=>?_;have r:(At b [.bool pw,.bool pu,.bool px]::l)[k+1]? = some P:=by simpa using e
 refine pQ ?_;cases a:rightB p q with
 | false=>
  have:=c o f.tail;unfold eC at this;rw [if_pos a] at this;exact aG rfl (this (by decide))
 | true=>
 refine bsel_f rfl (uH f r m ?_);cases j:goodB L with
 | false=>
  have:=c o f.tail;unfold eC at this;rw [if_neg (by simp [a]),if_pos j] at this;exact aG rfl (this (by decide))
 | true=>
 have z:0<=p/\p<q/\q<=34359738368:=by unfold rightB at a;simp at a;omega
 have d:eC L p q pw pu px=if cntZ L p q≠q-p then 5 else if (protR L p q pw pu px).length > 64 then 4 else 0:=by unfold eC;rw [if_neg (by simp [a]),if_neg (by simp [j])]
 have v:=lB j;refine bsel_f rfl (aEe f r m (bJ.1 j).2.1 (by omega) (by omega) ?_);rw [w64 (n:=q-p) (by omega) (by omega)];refine bsel_in (λg=>?_) λg=>?_
 .have g:cntZ L p q≠q-p:=by simpa using g
  rw [if_pos g] at d;have:=c o f.tail (by rw [d];decide);rw [d] at this;exact this
 .have g:¬ cntZ L p q≠q-p:=by simpa using g
  rw [if_neg g] at d;refine aCP (kb:=0) f r m (by omega) rfl λs' w t u=>aAe u (λg=>?_) λg=>?_
  .rw [if_pos g] at d;have:=c w u.tail.tail (by rw [d];decide);rw [d] at this;exact this
  .rw [if_neg g] at d;exact x s' w d t (u.cons λC B=>B.tail)
theorem aJi {ch:Reg->List Reg} (m:∀ y,ch y=[]\/∃ z,ch y=[z]/\z.a=y.a/\z.b=y.b) (H:p<q) (I:0<=y.a/\y.a<y.b/\y.b<=34359738368) :
  srtR (spl1 ch p q y)/\(∀ z ∈ spl1 ch p q y,y.a<=z.a/\z.b<=y.b)/\∀ x,lookR (spl1 ch p q y) x=if y.a<=x/\x<y.b then (if p<=x/\x<q then lookR (ch (inR6 y p q)) x else some (attrR y)) else none:=by
 have r:∀ x,lookR [y] x=if y.a<=x/\x<y.b then some (attrR y) else none:=λx=>by rw [bE];rfl
 unfold spl1;by_cases g:(inR6 y p q).b<=(inR6 y p q).a
 .rw [if_pos g];refine ⟨⟨I,by simp,trivial⟩,by simp,λx=>?_⟩;rw [r];by_cases c:y.a<=x/\x<y.b
  .rw [if_pos c,if_pos c,if_neg];intro c2;simp only [inR6] at g;split at g<;>split at g<;>omega
  .rw [if_neg c,if_neg c]
 .rw [if_neg g];have O:(inR6 y p q).a<(inR6 y p q).b:=by omega
  have n:(inR6 y p q).a=(if p > y.a then p else y.a)/\(inR6 y p q).b=(if q<y.b then q else y.b):=⟨rfl,rfl⟩;have t:(aheadR y p).a=y.a/\(aheadR y p).b=(if p<y.b then p else y.b):=⟨rfl,rfl⟩;have u:(behR y q).a=(if q > y.a then q else y.a)/\(behR y q).b=y.b:=⟨rfl,rfl⟩
  have b:∀ z ∈ ch (inR6 y p q),z.a=(inR6 y p q).a/\z.b=(inR6 y p q).b:=λz a=>by
   rcases m (inR6 y p q) with e | ⟨w,e,e1,h⟩
   .rw [e] at a;simp at a
   .rw [e] at a;simp at a;subst a;exact ⟨e1,h⟩
  have v:srtR (ch (inR6 y p q)):=by
   rcases m (inR6 y p q) with e | ⟨w,e,e1,h⟩
   .rw [e];trivial
   .rw [e];refine ⟨?_,by simp,trivial⟩;rw [e1,h];obtain ⟨J,K⟩:=n;split at J<;>split at K<;>omega
  have B:∀ z ∈ (if (aheadR y p).b > y.a then [aheadR y p] else []),z=aheadR y p/\(aheadR y p).b > y.a:=λz a=>by
   split at a
   .rename_i c;simp at a;exact ⟨a,c⟩
   .simp at a
  have G:∀ z ∈ (if y.b > (behR y q).a then [behR y q] else []),z=behR y q/\y.b > (behR y q).a:=λz a=>by
   split at a
   .rename_i c;simp at a;exact ⟨a,c⟩
   .simp at a
  obtain ⟨C,D⟩:=n;obtain ⟨E,j⟩:=t;obtain ⟨o,F⟩:=u;refine ⟨cK.2 ⟨cK.2 ⟨?_,v,λx i z a=>?_⟩,?_,λx i z a=>?_⟩,λz a=>?_,λx=>?_⟩
  .split
   .refine ⟨?_,by simp,trivial⟩;rw [E];split at j<;>omega
   .trivial
  .obtain ⟨e,_⟩:=B x i;rw [(b z a).1,e,j,C];split<;>split<;>omega
  .split
   .refine ⟨?_,by simp,trivial⟩;rw [F];split at o<;>omega
   .trivial
  .obtain ⟨e,_⟩:=G z a;rw [e,o];rcases List.mem_append.1 i with i | i
   .obtain ⟨e,_⟩:=B x i;rw [e,j];split<;>split<;>omega
   .rw [(b x i).2,D];split<;>split<;>omega
  .rcases List.mem_append.1 a with a | a
   .rcases List.mem_append.1 a with a | a
    .obtain ⟨e,_⟩:=B z a;rw [e,E,j];refine ⟨Int.le_refl _,?_⟩;split<;>omega
    .obtain ⟨e1,h⟩:=b z a;rw [e1,h,C,D];constructor
     .split<;>omega
     .split<;>omega
   .obtain ⟨e,_⟩:=G z a;rw [e,F,o];refine ⟨?_,Int.le_refl _⟩;split<;>omega
  .rw [dB,dB]
   have M:lookR (if (aheadR y p).b > y.a then [aheadR y p] else []) x=if y.a<=x/\x<y.b/\x<p then some (attrR y) else none:=by
    split
    .rename_i c;rw [bE,E,j];by_cases d:y.a<=x/\x<y.b/\x<p
     .rw [if_pos d,if_pos]
      .rfl
      .split<;>omega
     .rw [if_neg d,if_neg]
      .rfl
      .split<;>omega
    .rename_i c;rw [if_neg]
     .rfl
     .rw [j] at c;split at c<;>omega
   have N:lookR (if y.b > (behR y q).a then [behR y q] else []) x=if y.a<=x/\x<y.b/\q<=x then some (attrR y) else none:=by
    split
    .rename_i c;rw [bE,o,F];by_cases d:y.a<=x/\x<y.b/\q<=x
     .rw [if_pos d,if_pos]
      .rfl
      .split<;>omega
     .rw [if_neg d,if_neg]
      .rfl
      .split<;>omega
    .rename_i c;rw [if_neg]
     .rfl
     .rw [o] at c;split at c<;>omega
   have l2:¬(y.a<=x/\x<y.b/\p<=x/\x<q)->lookR (ch (inR6 y p q)) x=none:=λd=>by
    unfold lookR findR;rw [Option.map_eq_none_iff,List.find?_eq_none];intro z a;obtain ⟨e1,h⟩:=b z a;rw [e1,h,C,D];simp only [Bool.and_eq_true,decide_eq_true_eq];split<;>split<;>omega
   rw [M,N];by_cases c:y.a<=x/\x<y.b
   .rw [if_pos c];by_cases d:p<=x/\x<q
    .rw [if_pos d,if_neg (by omega),if_neg (by omega)];simp
    .rw [if_neg d,l2 (by omega)];by_cases f:x<p
     .rw [if_pos ⟨c.1,c.2,f⟩];rfl
     .rw [if_neg (by omega),if_pos (by omega)];rfl
   .rw [if_neg c,if_neg (by omega),if_neg (by omega),l2 (by omega)];rfl
theorem sC {ch:Reg->List Reg} (b:∀ y,ch y=[]\/∃ z,ch y=[z]/\z.a=y.a/\z.b=y.b) (e:p<q) (f:Bool × Bool × Bool × Int->Option (Bool × Bool × Bool × Int))
  (m:∀ y x,(inR6 y p q).a<=x->x<(inR6 y p q).b->lookR (ch (inR6 y p q)) x=f (attrR y)):∀ {L:List Reg},srtR L->srtR (L.flatMap (spl1 ch p q))/\(∀ z ∈ L.flatMap (spl1 ch p q),∃ y ∈ L,y.a<=z.a/\z.b<=y.b)/\∀ x,lookR (L.flatMap (spl1 ch p q)) x=if p<=x/\x<q then (lookR L x).bind f else lookR L x
 | [],_=>⟨trivial,by simp,λx=>by simp [lookR,findR]⟩
 | y::r,h=>by
  obtain ⟨u,n,v⟩:=h;obtain ⟨B,o,C⟩:=sC b e f m v;obtain ⟨D,t,E⟩:=aJi b e u;rw [List.flatMap_cons];refine ⟨cK.2 ⟨D,B,λx F z a=>?_⟩,λz a=>?_,λx=>?_⟩
  .obtain ⟨w,g,G,_⟩:=o z a;have:=n w g;have:=(t x F).2;omega
  .rcases List.mem_append.1 a with a | a
   .exact ⟨y,by simp,t z a⟩
   .obtain ⟨w,g,i⟩:=o z a;exact ⟨w,by simp [g],i⟩
  .rw [dB,E,C,bE];by_cases c:y.a<=x/\x<y.b
   .rw [if_pos c,if_pos c]
    have j:lookR r x=none:=by
     unfold lookR findR;rw [Option.map_eq_none_iff,List.find?_eq_none];intro z a;have:=n z a;simp;omega
    rw [j];by_cases d:p<=x/\x<q
    .rw [if_pos d,if_pos d,if_pos d,m y x (by simp only [inR6];split<;>omega) (by simp only [inR6];split<;>omega)];simp
    .rw [if_neg d,if_neg d,if_neg d];simp
   .rw [if_neg c,if_neg c];simp
theorem tK (c:goodB L=true) (a:gU L p q=0):goodB (cutR L p q)=true/\∀ x,lookR (cutR L p q) x=if p<=x/\x<q then none else lookR L x:=by
 unfold gU at a;split at a
 .omega
 rename_i f;rw [if_neg (by simp [c])] at a;have d:¬ (cutR L p q).length > 64:=λz=>by rw [if_pos z] at a;omega
 have e:rightB p q=true:=by simpa using f
 have b:p<q:=by unfold rightB at e;simp at e;omega
 obtain ⟨_,g,_⟩:=bJ.1 c;obtain ⟨h,_,i⟩:=sC (ch:=noR) (λ_=>.inl rfl) b (λ_=>none) (λ_ _ _ _=>rfl) g;unfold cutR at d ⊢;rw [aBz] at d ⊢;obtain ⟨j,m,n⟩:=gE h;refine ⟨bJ.2 ⟨by omega,j,m⟩,λx=>?_⟩;rw [n,i];simp
theorem pG (f:goodB L=true) (b:eC L p q pw pu px=0):goodB (protR L p q pw pu px)=true/\∀ x,lookR (protR L p q pw pu px) x=if p<=x/\x<q then (lookR L x).map λa=>(pw,pu,px,a.2.2.2) else lookR L x:=by
 unfold eC at b;split at b
 .omega
 rename_i c;rw [if_neg (by simp [f])] at b;split at b
 .omega
 have d:¬ (protR L p q pw pu px).length > 64:=λz=>by rw [if_pos z] at b;omega
 have g:rightB p q=true:=by simpa using c
 have e:p<q:=by unfold rightB at g;simp at g;omega
 obtain ⟨_,h,_⟩:=bJ.1 f
 obtain ⟨i,_,j⟩:=sC (ch:=asR pw pu px) (λy=>.inr ⟨_,rfl,rfl,rfl⟩) e (λa=>some (pw,pu,px,a.2.2.2)) (λy x c d=>by
  unfold asR;rw [bE,if_pos ⟨c,d⟩];rfl) h
 unfold protR at d ⊢;obtain ⟨m,n,o⟩:=gE i;refine ⟨bJ.2 ⟨by omega,m,n⟩,λx=>?_⟩;rw [o,j];cases lookR L x<;>rfl
end Go.Dn
namespace Go.Dn
structure Pg where
 num:Int
 key:Int
 lent:Int
structure Sm where
 id:Int
 box:Nat
 regs:List Reg
 pgs:List Pg
structure Mm where
 sps:List Sm
 ns:List Nd
 keys:Int
 wd:Int->Int->Int
def kdR (L:List Reg) (p:Int):Int:=match lookR L p with | some a=>a.2.2.2 | none=>0
def nums (s:Sm):List Int:=s.pgs.map (·.num)
def ownP (s:Sm):List Pg:=s.pgs.filter λg=>kdR s.regs g.num==0
def borP (s:Sm):List Pg:=s.pgs.filter λg=>kdR s.regs g.num != 0
def ownK (l:List Sm):List Int:=l.flatMap λs=>(ownP s).map (·.key)
def borK (l:List Sm):List Int:=l.flatMap λs=>(borP s).map (·.key)
def costS (s:Sm):Int:=(tabsN (nums s):Int)+(ownP s).length
def pgAt (s:Sm) (p:Int):Option Pg:=s.pgs.find? λg=>g.num==p
def costB (i:Nat) (s:Sm):Int:=if s.box=i then costS s else 0
structure InvL (M:Mm):Prop where
 srt:(M.sps.map (·.id)).Pairwise (· < ·)
 good:∀ s ∈ M.sps,goodB s.regs=true
 pgs:∀ s ∈ M.sps,(nums s).Pairwise (· < ·)
 reg:∀ s ∈ M.sps,∀ g ∈ s.pgs,lookR s.regs g.num≠none
 own:(ownK M.sps).Nodup
 src:∀ s ∈ M.sps,∀ g ∈ s.pgs,g.key ∈ ownK M.sps
 key:∀ k ∈ ownK M.sps,1<=k/\k<=M.keys
 zero:∀ k i,M.keys<k->M.wd k i=0
 keys0:0<=M.keys
 tree:TreeOK M.ns
 live:∀ s ∈ M.sps,liveN M.ns s.box=true
 use:∀ (i:Nat) d,M.ns[i]? = some d->d.live=true->d.use=(if i=0 then 2 else 0)+sumZ (costB i) M.sps
structure bA (M:Mm):Prop extends InvL M where
 kind:∀ s ∈ M.sps,∀ q a,lookR s.regs q=some a->a.2.2.2=0\/a.2.2.2=1
 bor:∀ s ∈ M.sps,∀ q a,lookR s.regs q=some a->a.2.2.2=1->∃ g ∈ s.pgs,g.num=q/\g.lent=0
 lent:∀ s ∈ M.sps,∀ g ∈ ownP s,g.lent=((borK M.sps).count g.key:Nat)
variable {M:Mm} {s s':Sm} {pre post l:List Sm} {g:Pg} {p q:Int}
theorem iB:pgAt s p=none↔p ∉ nums s:=by
 unfold pgAt nums;rw [List.find?_eq_none];constructor
 .simp_all
 .simp_all
theorem aL (h:pgAt s p=some g):g ∈ s.pgs/\g.num=p:=by
 unfold pgAt at h;exact ⟨List.mem_of_find?_eq_some h,by simpa using List.find?_some h⟩
theorem bR (hs:(nums s).Pairwise (· < ·)) (h:g ∈ s.pgs):pgAt s g.num=some g:=by
 unfold pgAt;unfold nums at hs;generalize s.pgs=l at *
 induction l with
 | nil=>simp at h
 | cons x r ih=>
  rw [List.map_cons] at hs;obtain ⟨a,b⟩:=List.pairwise_cons.1 hs;rcases List.mem_cons.1 h with rfl | h
  .simp
  .have:x.num≠g.num:=by have:=a g.num (List.mem_map.2 ⟨g,h,rfl⟩);omega
   rw [List.find?_cons,show (x.num==g.num)=false by simpa using this];exact ih b h
theorem cJ:g ∈ ownP s↔g ∈ s.pgs/\kdR s.regs g.num=0:=by unfold ownP;simp
theorem lP:g ∈ borP s↔g ∈ s.pgs/\kdR s.regs g.num≠0:=by unfold borP;simp
theorem bY {a b:List Sm}:ownK (a++b)=ownK a++ownK b:=List.flatMap_append
theorem bZ {b:List Sm}:ownK (s::b)=(ownP s).map (·.key)++ownK b:=List.flatMap_cons
theorem dG {a b:List Sm}:borK (a++b)=borK a++borK b:=List.flatMap_append
theorem cT {b:List Sm}:borK (s::b)=(borP s).map (·.key)++borK b:=List.flatMap_cons
theorem cO:(ownK (pre++s::post)).Perm ((ownP s).map (·.key)++ownK (pre++post)):=by
 rw [bY,bZ,bY,<- List.append_assoc,<- List.append_assoc];exact List.Perm.append_right _ List.perm_append_comm
theorem dQ:(borK (pre++s::post)).Perm ((borP s).map (·.key)++borK (pre++post)):=by
 rw [dG,cT,dG,<- List.append_assoc,<- List.append_assoc];exact List.Perm.append_right _ List.perm_append_comm
theorem cE:1<=costS s:=by
 unfold costS;have:=aAv (nums s);omega
theorem aB7 {k:Int}:k ∈ ownK l↔∃ s ∈ l,∃ g ∈ ownP s,g.key=k:=by
 unfold ownK;simp only [List.mem_flatMap,List.mem_map]
theorem rF {k:Int}:k ∈ borK l↔∃ s ∈ l,∃ g ∈ borP s,g.key=k:=by
 unfold borK;simp only [List.mem_flatMap,List.mem_map]
theorem mid_iff {b:Sm}:b ∈ pre++s::post↔b=s\/b ∈ pre++post:=by grind
theorem sK {f:Sm->Int}:sumZ f (pre++s::post)=sumZ f (pre++post)+f s:=by
 rw [jD,jD];simp only [sumZ];omega
def findS (M:Mm) (id:Int):Option Sm:=M.sps.find? λs=>s.id==id
theorem iG (h:(l.map (·.id)).Pairwise (· < ·)):(l.map (·.id)).Nodup:=h.imp λh=>by omega
def putS (l:List Sm) (s:Sm):List Sm:=l.map λx=>if x.id==s.id then s else x
theorem xB (h:((pre++s::post).map (·.id)).Nodup) (hi:s'.id=s.id):putS (pre++s::post) s'=pre++s'::post:=by
 unfold putS;rw [List.map_append,List.map_cons];have ne:∀ x ∈ pre++post,x.id≠s.id:=λx a e=>by grind
 have same:∀ l:List Sm,(∀ x ∈ l,x.id≠s.id)->l.map (λx=>if x.id==s'.id then s' else x)=l:=λl b=>by
  induction l with
  | nil=>rfl
  | cons x r ih=>
   have:(x.id==s'.id)=false:=by rw [hi];simpa using b x (by simp)
   rw [List.map_cons,this,ih λy c=>b y (by simp [c])];rfl
 rw [same pre λx a=>ne x (List.mem_append_left _ a),same post λx a=>ne x (List.mem_append_right _ a)];simp [hi]
def payM (M:Mm) (s t:Sm):Mm:={ M with sps:=putS M.sps t,ns:=addU M.ns s.box (costS t-costS s) }
theorem InvL.pay (h:InvL M) (hs:M.sps=pre++s::post) (hi:s'.id=s.id) (B:s'.box=s.box) (C:goodB s'.regs=true) (D:(nums s').Pairwise (· < ·)) (E:∀ g ∈ s'.pgs,lookR s'.regs g.num≠none)
  {k':Int} {wd':Int->Int->Int} (F:(ownK (pre++s'::post)).Nodup) (r:∀ x ∈ pre++s'::post,∀ g ∈ x.pgs,g.key ∈ ownK (pre++s'::post)) (G:∀ k ∈ ownK (pre++s'::post),1<=k/\k<=k') (H:∀ k i,k'<k->wd' k i=0) (t:0<=k')
  (n:∀ d,M.ns[s.box]? = some d->costS s'-costS s<=d.room):InvL ⟨pre++s'::post,addU M.ns s.box (costS s'-costS s),k',wd'⟩:=by
 have j:∀ x,x ∈ pre++post->x ∈ M.sps:=λx a=>by rw [hs];exact mid_iff.2 (.inr a)
 have o:s ∈ M.sps:=by rw [hs];exact mid_iff.2 (.inl rfl)
 have c:=h.live s o
 obtain ⟨d,u,v⟩:∃ d,M.ns[s.box]? = some d/\d.live=true:=by
  unfold liveN at c;cases e:M.ns[s.box]? with
  | none=>rw [e] at c;cases c
  | some d=>rw [e] at c;exact ⟨d,rfl,c⟩
 have I:=h.use s.box d u v
 have J:costS s<=sumZ (costB s.box) M.sps:=by
  have:=nY (f:=costB s.box) (l:=M.sps) (λx _=>by unfold costB;split;have:=cE (s:=x);omega;exact Int.le_refl _) s o;unfold costB at this;rw [if_pos rfl] at this;exact this
 refine ⟨?_,λx a=>?_,λx a=>?_,λx a=>?_,F,r,G,H,t,?_,λx a=>?_,λi e b w=>?_⟩
 .have e:(pre++s'::post).map (·.id)=M.sps.map (·.id):=by rw [hs];simp [hi]
  show ((pre++s'::post).map (·.id)).Pairwise (· < ·);rw [e];exact h.srt
 .rcases mid_iff.1 a with rfl | a
  .exact C
  .exact h.good x (j x a)
 .rcases mid_iff.1 a with rfl | a
  .exact D
  .exact h.pgs x (j x a)
 .rcases mid_iff.1 a with rfl | a
  .exact E
  .exact h.reg x (j x a)
 .refine h.tree.addU u ?_ (n d u);have:=cE (s:=s');split at I<;>omega
 .show liveN (addU M.ns s.box _) x.box=true;rw [oS];rcases mid_iff.1 a with rfl | a
  .simp_all
  .exact h.live x (j x a)
 .have b:(addU M.ns s.box (costS s'-costS s))[i]? = some e:=b;rw [dL] at b;cases y:M.ns[i]? with
  | none=>rw [y] at b;cases b
  | some x=>
   rw [y] at b;simp only [Option.map_some,Option.some.injEq] at b;have z:x.live=true:=by rw [<-b] at w;split at w<;>exact w
   have m:=h.use i x y z;rw [hs,sK] at m;show e.use=_+sumZ (costB i) (pre++s'::post);rw [sK];by_cases g:s.box=i
   .rw [if_pos g] at b;have e1:costB i s=costS s:=by unfold costB;rw [if_pos g]
    have A:costB i s'=costS s':=by unfold costB;rw [B,if_pos g]
    rw [<-b,A];rw [e1] at m;simp only;omega
   .rw [if_neg g] at b;have e1:costB i s=0:=by unfold costB;rw [if_neg g]
    have A:costB i s'=0:=by unfold costB;rw [B,if_neg g]
    rw [<-b,A];rw [e1] at m;exact m
end Go.Dn
namespace Go.Dn
variable {A:AH} {l:List SP} {r t i:Nat} {fr:Int} {hs:List (Int × Int)}
theorem aBM (t i:Int):fO (λ_=>0) t i=0:=by
 unfold fO;simp [le]
theorem aIL (h:Own l A):Own ((λ_=>True)::l) A:=⟨λ_=>none,A,λ_=>.inl rfl,(λ_ _ e=>nomatch e),eU.refl _,trivial,h⟩
theorem aHG (h:Own l A) {sz:Nat}:Own (SlAt Sl.nil sz []::l) A:=(aIL h).imp λ_ _=>⟨by simp [Sl.nil],by simp [Sl.nil],λq=>absurd rfl q⟩
theorem aG1 {Q:Option Addr->Int->AH->Prop} (h:Own l A) (b:1<=fr/\fr<=1048576) (c:∀ r a,Own (RamW r fr [] (λ_ _=>0)::l) a->Q (some ⟨r,0,none⟩) 0 a):qao_A fr Sl.nil Q A:=by
 have d:nZ fr []=0:=by
  unfold nZ;rw [if_neg (by omega),if_neg (by omega)];rfl
 refine aIe (hs:=[]) (k:=0) (aHG h (sz:=2)) rfl (λg=>absurd d g) λ_ r e f=>c r e ?_;exact RamW.closeH (M:=λ_=>0) ⟨by simp,by omega,b.2⟩ (λt i _ _ _=>(aBM t i).symm) (f.cons λC j=>j.tail)
end Go.Dn
