/- What the proof stands on. -/
import Derived.Test.YtfnkdpmbpgffbaaGreatStart
import Derived.Test.YtfnkdpmbpgffbaaGreatForT
import Derived.Test.YtfnkdpmbpgffbaaGreatMacT2
import Derived.Test.YtfnkdpmbpgffbaaGreatMmL
import Derived.Test.YtfnkdpmbpgffbaaGreatReg10
namespace Go.Dn
variable {A:AH} {l R:List SP} {P:SP} {k:Nat} {s:Sl} {L:List Reg} {x y:Reg} {p q i n:Int} {es:List Int} {v:Nat}
theorem fN {Q:Int->Int->Bool->Bool->Bool->Int->Bool->AH->Prop} (h:Own l A) (e:l[k]? = some P) (f:Reads P s 6 (regC L)) (D:L.length<=1000000)
  (j:findR L p=none->Q 0 0 false false false 0 false A) (u:∀ y,findR L p=some y->Q y.a y.b y.w y.u y.x y.k true A):qcd_A s p Q A:=by
 have E:=bF h e f;unfold qcd_A;unfold findR at j u;refine ⟨λx _ _ _ _ _ _ m w=>∃ v:Nat,x=v/\m+v=L.length/\w=A/\L.find? (λr=>decide (r.a<=p)&&decide (p<r.b))=(L.drop v).find? (λr=>decide (r.a<=p)&&decide (p<r.b)),⟨L.length,0,rfl,rfl,rfl,rfl⟩,?_⟩;intro x _ _ _ _ _ _ m F ⟨v,e1,G,z,b⟩;subst e1 z;refine bsel_in (λc=>?_) λc=>?_
 .have c:(v:Int)<s.len:=of_decide_eq_true c;obtain ⟨y,o⟩:∃ y,L[v]? = some y:=⟨L[v]'(by omega),by simp⟩;rw [jR o,List.find?_cons] at b;obtain ⟨a,B,C⟩:=dT h e f o;rw [B];refine inB_in (by omega) c (C _ ?_);refine bsel_in (λg=>bsel_in (λt=>?_) λt=>?_) λg=>?_
  .simp_all
  .have d:(decide (y.a<=p)&&decide (p<y.b))=false:=by rw [t,Bool.and_false]
   rw [d] at b;exact ⟨m-1,by omega,v+1,by rw [w64]<;>omega,by omega,rfl,b⟩
  .have d:(decide (y.a<=p)&&decide (p<y.b))=false:=by grind
   rw [d] at b;exact ⟨m-1,by omega,v+1,by rw [w64]<;>omega,by omega,rfl,b⟩
 .have c:¬(v:Int)<s.len:=of_decide_eq_false c;rw [List.drop_eq_nil_of_le (by omega)] at b;exact j b
theorem y9 {a b:Int} {Q:Bool->AH->Prop} (f:Q (rightB a b) A):qcz_A a b Q A:=by
 unfold qcz_A;have e:rightB a b=(decide (0<=a)&&(decide (a<b)&&(decide (b<=34359738368)&&decide (b-a<=65536)))):=rfl;rw [e] at f;refine bsel_in (λg=>bsel_in (λc=>bsel_in (λd=>?_) λd=>?_) λc=>?_) λg=>?_
 .rw [g,c,d] at f;have g:=of_decide_eq_true g;have d:=of_decide_eq_true d;have c:=of_decide_eq_true c;rw [w64 (by omega) (by omega)];exact f
 .simp_all
 .simp_all
 .simp_all
theorem aBk {Q:Bool->AH->Prop} (h:Own l A) (e:l[k]? = some P) (j:Reads P s 6 (regC L)) (F:goodB L=true) (G:Q true A):qda_A s Q A:=by
 have W:=bF h e j;obtain ⟨X,H,I⟩:=bJ.1 F;unfold qda_A;refine ⟨λb x m g=>∃ v:Nat,x=v/\m+v=L.length/\g=A/\b=true,⟨L.length,0,rfl,rfl,rfl,decide_eq_true (by grind)⟩,?_⟩;intro b x m u ⟨v,e1,Y,J,K⟩;subst e1 J K;refine bsel_in (λc=>?_) λc=>G;have c:(v:Int)<s.len:=of_decide_eq_true c;obtain ⟨y,w⟩:∃ y,L[v]? = some y:=⟨L[v]'(by omega),by simp⟩;obtain ⟨a,B,M⟩:=dT h e j w;have f:=aBc.1 (aHJ L none H I (λq z N=>by cases N) v y w);refine ⟨λb g=>b=true/\g=u,λb O ⟨o,r⟩=>⟨m-1,by omega,v+1,by rw [w64]<;>omega,by omega,r,o⟩,?_⟩;rw [B];refine inB_in (by omega) c (M _ ?_);refine ⟨λb g=>b=true/\g=u,λb O ⟨o,r⟩=>?_,aG rfl (aG (decide_eq_true f.1.1) (aG (decide_eq_true f.1.2.1) ⟨decide_eq_true f.1.2.2,rfl⟩))⟩;subst o r;refine bsel_in (λd=>?_) λd=>⟨rfl,rfl⟩;have d:(v:Int) > 0:=of_decide_eq_true d;obtain ⟨z,S⟩:∃ z,L[v-1]? = some z:=⟨L[v-1]'(by omega),by simp⟩;obtain ⟨T,t⟩:=f.2 z (by grind);have U:IntKind.wrap .i64 ((v:Int)-1)=((v-1:Nat):Int):=by rw [w64 (by omega) (by omega)];omega
 rw [U];obtain ⟨Z,C,V⟩:=dT h e j S;rw [B] at C;cases C;refine inB_in (by omega) (by omega) (V _ (aG rfl (aG (decide_eq_true T) ?_)));unfold cQ at t;refine bsel_in (λD=>bsel_in (λE=>?_) λE=>⟨rfl,rfl⟩) λD=>⟨rfl,rfl⟩;rw [D,E] at t;exact ⟨by rw [show (z.k==y.k)=false by simpa using t];rfl,rfl⟩
theorem zF {Q:Int->AH->Prop} (h:Own l A) (e:l[k]? = some P) (r:Reads P s 6 (regC L)) (hs:srtR L) (I:L.length<=1000) (t:0<=p/\p<=34359738368/\0<=q/\q<=34359738368) (u:Q (cntZ L p q) A):qdb_A s p q Q A:=by
 have J:=bF h e r;unfold qdb_A;refine ⟨λn x m d=>∃ v:Nat,x=v/\m+v=L.length/\d=A/\n=cntZ (L.take v) p q,⟨L.length,0,rfl,rfl,rfl,rfl⟩,?_⟩;intro n x m w ⟨v,e1,K,z,B⟩;subst e1 z B;have f:srtR (L.take v):=(cK.1 (by rw [List.take_append_drop];exact hs:srtR (L.take v++L.drop v))).1;refine bsel_in (λc=>?_) λc=>?_
 .have c:(v:Int)<s.len:=of_decide_eq_true c;obtain ⟨y,j⟩:∃ y,L[v]? = some y:=⟨L[v]'(by omega),by simp⟩;have C:=dX j;have b:srtR (L.take (v+1)):=(cK.1 (by rw [List.take_append_drop];exact hs:srtR (L.take (v+1)++L.drop (v+1)))).1;have D:=srt_mem hs y (List.mem_of_getElem? j);have M:=nC (p:=p) (q:=q) f;have N:=nC (p:=p) (q:=q) b;obtain ⟨a,E,F⟩:=dT h e r j
  have o:cntZ (L.take (v+1)) p q=cntZ (L.take v) p q+(if (if q<y.b then q else y.b)-(if p > y.a then p else y.a) > 0 then (if q<y.b then q else y.b)-(if p > y.a then p else y.a) else 0):=by
   rw [C,yC];simp only [cntZ,Int.add_zero]
  refine ⟨λn d=>n=cntZ (L.take (v+1)) p q/\d=w,λn O ⟨G,H⟩=>⟨m-1,by omega,v+1,by rw [w64]<;>omega,by omega,H,G⟩,?_⟩;rw [E];refine inB_in (by omega) c (F _ ?_);generalize (if q<y.b then q else y.b)=m1 at *;generalize (if p > y.a then p else y.a)=m2 at *;refine bsel_in (λg=>⟨?_,rfl⟩) λg=>⟨?_,rfl⟩
  .have g:=of_decide_eq_true g;rw [if_pos (by omega)] at o;rw [w64 (n:=m1-m2) (by omega) (by omega),w64 (by omega) (by omega)];exact o.symm
  .have g:=of_decide_eq_false g;rw [if_neg (by omega)] at o;omega
 .have c:¬(v:Int)<s.len:=of_decide_eq_false c;rw [List.take_of_length_le (by omega)];exact u
theorem oD (L:List Int):(intsV L).length=L.length:=by simp [intsV]
theorem Own.lenV (h:Own (SlO s 1 (intsV es)::R) A):s.len=es.length:=by
 obtain ⟨B,_,a⟩:=h.sat;have:=a.1.1;rw [oD] at this;omega
theorem aAw {y:Int} (h:Own l A) (e:l[k]? = some P) (b:Reads P s 1 (intsV es)) (c:es[v]? = some y) :
  ∃ a,s.a=some a/\∀ K:Int->Prop,K y->aI .i64 (Addr.add a (Int.toNat (v:Int)*1)) A K:=by
 obtain ⟨m,o,d,f⟩:=bK h e b (j:=v) (v:=.int .i64 y) (by simp [intsV,c]);exact ⟨_,d,λK g=>⟨_,by rw [add_at,Int.toNat_natCast,Nat.mul_one];exact f,g⟩⟩
theorem aAJ {i b:Nat} {t:TypeId} {x:Int} {K:Sl->AP} (h:Own (SlO s 1 (intsV es)::R) A) (e:R[i]? = some (At b [.int .i64 x])) (hs:s.a=none->es=[]) (o:es.length<=1000000)
  (f:∀ s' a,s'.a≠none->Own (SlO s' 1 (intsV (es++[x]))::R) a->K s' a):dM 1 8 #[.int .i64 0] t s (Sl.mk (some (Addr.mk b 0 none)) 1 1) A K:=by
 have c:=h.lenV;refine dJ (i:=i) h e (eI (n:=1) (sz:=1) (cs:=[.int .i64 x]) (rest:=[]) rfl) (λg=>nomatch g) (λg=>by rw [hs g];rfl) rfl (λv d=>?_) ⟨by simp only [c];omega,by simp only [c];omega⟩ λs' j r u m=>?_
 .simp at d;rw [d];rfl
 .refine f s' j (λg=>?_) ?_
  .simp_all
  .rw [iJ];exact m
theorem oE {t t2:TypeId} {x:Int} {K:Sl->AP} (h:Own (SlO s 1 (intsV es)::R) A) (hs:s.a=none->es=[]) (e:es.length<=1000000)
  (f:∀ s' a,s'.a≠none->Own (SlO s' 1 (intsV (es++[x]))::R) a->K s' a) :
  aN A (.cells #[.int .i64 x] t) λb c=>dM 1 8 #[.int .i64 0] t2 s (Sl.mk (some (Addr.mk b 0 none)) 1 1) c K:=
 aT (cs:=[.int .i64 x]) h λ_ _ g=>aAJ (i:=0) g.swap rfl hs e λs' a d c=>f s' a d (c.cons λ_ j=>j.tail)
def aIg (L:List Reg) (p q z:Int):Prop:=(z=p\/z=q)\/∃ r ∈ L,z=r.a\/z=r.b
def allE (L:List Reg) (p q:Int):List Int:=p::q::L.flatMap λr=>[r.a,r.b]
theorem aFQ {v:Nat} (a:L[v]? = some y):allE (L.take (v+1)) p q=allE (L.take v) p q++[y.a]++[y.b]:=by
 unfold allE;rw [dX a,List.flatMap_append];simp
theorem aCq:(allE L p q).length=2*L.length+2:=by
 have:∀ L:List Reg,(L.flatMap λr=>[r.a,r.b]).length=2*L.length:=λL=>by
  induction L with
  | nil=>rfl
  | cons y r ih=>rw [List.flatMap_cons,List.length_append,ih,List.length_cons];simp;omega
 unfold allE;rw [List.length_cons,List.length_cons,this]
theorem aG5 {z:Int}:z ∈ allE L p q↔aIg L p q z:=by
 unfold allE aIg;simp only [List.mem_cons,List.mem_flatMap,List.not_mem_nil,or_false];exact or_assoc.symm
set_option maxHeartbeats 1000000 in
theorem aA6 {Q:Sl->AH->Prop} (h:Own l A) (e:l[k]? = some P) (hr:Reads P s 6 (regC L)) (hb:L.length<=200)
  (hk:∀ es,EndsOf (aIg L p q) es->es.length<=2*L.length+2->∀ s' f,s'.a≠none->Own (SlO s' 1 (intsV es)::l) f->Q s' f):qdc_A s p q Q A:=by
 have hl:=bF h e hr;unfold qdc_A;refine aT (cs:=[]) h λU A1 h1=>?_;have h1:Own (SlO ⟨some ⟨U,0,none⟩,0,0⟩ 1 (intsV [])::l) A1:=h1.imp λB _=>⟨⟨by simp [intsV],Nat.le_refl _⟩,.inl rfl⟩;refine aT (cs:=[.int .i64 p,.int .i64 q]) h1 λb3 A2 h2=>?_;have h2:Own (SlO ⟨some ⟨b3,0,none⟩,2,2⟩ 1 (intsV [p,q])::SlO ⟨some ⟨U,0,none⟩,0,0⟩ 1 (intsV [])::l) A2:=h2.imp λB hB=>⟨⟨rfl,Nat.le_refl _⟩,.inr ⟨b3,[],rfl,rfl,hB⟩⟩;refine ⟨λo x m f=>∃ v:Nat,x=v/\m+v=L.length/\o.a≠none/\Own (SlO o 1 (intsV (allE (L.take v) p q))::SlO ⟨some ⟨U,0,none⟩,0,0⟩ 1 (intsV [])::l) f,⟨L.length,0,rfl,rfl,(λg=>nomatch g),h2⟩,?_⟩;intro o x m A3 ⟨v,e1,e2,ho,K⟩;subst e1;refine bsel_in (λc=>?_) λc=>?_
 .have c:(v:Int)<s.len:=of_decide_eq_true c;obtain ⟨y,hy⟩:∃ y,L[v]? = some y:=⟨L[v]'(by omega),by simp⟩;obtain ⟨a,q1,q2⟩:=dT (k:=k+2) K (by simp_all) hr hy;rw [q1];refine inB_in (by omega) c (q2 _ ?_);have hal:(allE (L.take v) p q).length<=1000:=by rw [aCq];have:=List.length_take_le v L;omega
  have N:∀ s' f,s'.a≠none->Own (SlO s' 1 (intsV (allE (L.take v) p q++[y.a]++[y.b]))::SlO ⟨some ⟨U,0,none⟩,0,0⟩ 1 (intsV [])::l) f->∃ m',m'<m/\∃ v':Nat,IntKind.wrap .i64 ((v:Int)+1)=v'/\m'+v'=L.length/\s'.a≠none/\Own (SlO s' 1 (intsV (allE (L.take v') p q))::SlO ⟨some ⟨U,0,none⟩,0,0⟩ 1 (intsV [])::l) f:=λs' f hs' h'=>⟨m-1,by omega,v+1,by rw [w64]<;>omega,by omega,hs',by rw [aFQ hy];exact h'⟩;generalize allE (L.take v) p q=j at K hal N;have G:(j++[y.a]).length<=1000000:=by simp;omega
  refine ⟨aT (cs:=[.int .i64 y.a]) K λb18 A4 O=>⟨aAJ (i:=0) O.swap rfl (λg=>absurd g ho) (by omega) λs20 A5 hs5 E=>oE (E.cons λ_ t=>t.tail) (λg=>absurd g hs5) G N,aT (cs:=[.int .i64 y.b]) O λb26 A5 E=>?_⟩,aT (cs:=[.int .i64 y.b]) K λb32 A4 O=>aT (cs:=[.int .i64 y.a]) O λb34 A5 E=>?_⟩
  .have E:Own (SlO o 1 (intsV j)::At b26 [.int .i64 y.b]::At b18 [.int .i64 y.a]::SlO ⟨some ⟨U,0,none⟩,0,0⟩ 1 (intsV [])::l) A5:=(E.cons λ_ t=>t.swap).swap;refine aAJ (i:=1) E rfl (λg=>absurd g ho) (by omega) λs28 A6 V H=>aAJ (i:=0) H rfl (λg=>absurd g V) G λW A7 X Y=>N W A7 X (Y.cons λ_ t=>t.tail.tail)
  .have E:Own (SlO o 1 (intsV j)::At b34 [.int .i64 y.a]::At b32 [.int .i64 y.b]::SlO ⟨some ⟨U,0,none⟩,0,0⟩ 1 (intsV [])::l) A5:=(E.cons λ_ t=>t.swap).swap;refine aAJ (i:=0) E rfl (λg=>absurd g ho) (by omega) λs28 A6 V H=>aAJ (i:=1) H rfl (λg=>absurd g V) G λW A7 X Y=>N W A7 X (Y.cons λ_ t=>t.tail.tail)
 .have c:¬(v:Int)<s.len:=of_decide_eq_false c;rw [List.take_of_length_le (by omega)] at K;have hlo:=K.lenV;have T:∀ z,z ∈ allE L p q↔aIg L p q z:=λz=>aG5;have hlen:(allE L p q).length=2*L.length+2:=aCq;generalize allE L p q=j at K hlo T hlen;have K:=K.swap;refine ⟨λM x m f=>∃ (w:Nat) (es:List Int),x=w/\m+w=j.length/\EndsOf (λz=>z ∈ j.take w) es/\es.length<=w/\M.a≠none/\Own (SlO M 1 (intsV es)::SlO o 1 (intsV j)::l) f,⟨j.length,0,[],rfl,rfl,⟨List.Pairwise.nil,by simp⟩,by simp,(λg=>nomatch g),K⟩,?_⟩;intro M x m A4 ⟨w,es,e1,e2,Z,hle,ho2,O⟩;subst e1;refine bsel_in (λc2=>?_) λc2=>?_
  .have c2:(w:Int)<o.len:=of_decide_eq_true c2;obtain ⟨n,hn⟩:∃ n,j[w]? = some n:=⟨j[w]'(by omega),by simp⟩;obtain ⟨a,q1,q2⟩:=aAw (k:=1) O rfl aY hn;rw [q1];refine inB_in (by omega) c2 (q2 _ (aT (cs:=[]) O λb48 A5 E=>?_));have E:Own (SlO ⟨some ⟨b48,0,none⟩,0,0⟩ 1 (intsV [])::SlO M 1 (intsV es)::SlO o 1 (intsV j)::l) A5:=E.imp λB _=>⟨⟨by simp [intsV],Nat.le_refl _⟩,.inl rfl⟩;have hlo2:=O.lenV;refine ⟨λnx dn x m' f=>∃ (u:Nat) (next:List Int),x=u/\u<=es.length/\m'+u=es.length/\InsI n (es.take u) next dn/\next.length<=u+1/\nx.a≠none/\Own (SlO nx 1 (intsV next)::SlO M 1 (intsV es)::SlO o 1 (intsV j)::l) f,⟨es.length,0,[],rfl,by omega,by omega,InsI.nil,by simp,λg=>(nomatch g),E⟩,?_⟩
   intro nx dn x m' A6 ⟨u,next,f1,f2,f3,S,hnl,F,H⟩
   subst f1
   have I:dn=false->next.length<=u:=λhd=>by
    subst hd
    have J:∀ z ∈ next,z ∈ es.take u:=λz hz=>by
     rcases (S.mem z).1 hz with q | ⟨q,_⟩
     .exact q
     .cases q
    have:=List.Nodup.length_le_of_subset (S.srt.imp λ{a b} q=>(by omega)) J;simp at this;omega
   refine bsel_in (λc3=>?_) λc3=>?_
   .have c3:(u:Int)<M.len:=of_decide_eq_true c3;obtain ⟨y,hy⟩:∃ y,es[u]? = some y:=⟨es[u]'(by omega),by simp⟩;obtain ⟨a3,r1,r2⟩:=aAw (k:=1) H rfl aY hy;rw [r1];refine inB_in (by omega) c3 (r2 _ ?_)
    have D:∀ z ∈ es.take u,z<y:=λz hz=>by
     obtain ⟨i,hi⟩:=List.mem_iff_getElem?.1 hz
     have hlt:i<u:=by
      have:=(List.getElem?_eq_some_iff.1 hi).1;simp at this;omega
     rw [List.getElem?_take_of_lt hlt] at hi;obtain ⟨hi1,hi2⟩:=List.getElem?_eq_some_iff.1 hi;obtain ⟨hv1,hv2⟩:=List.getElem?_eq_some_iff.1 hy;have:=List.pairwise_iff_getElem.1 Z.1 i u hi1 hv1 hlt;rw [hi2,hv2] at this;exact this
    refine ⟨λs' b' f=>∃ d,InsI n (es.take (u+1)) (d++[y]) b'/\d.length<=u+1/\s'.a≠none/\Own (SlO s' 1 (intsV d)::SlO M 1 (intsV es)::SlO o 1 (intsV j)::l) f,λs' b' A7 ⟨d,i1,i2,i3,Y⟩=>?_,?_⟩
    .refine oE Y (λg=>absurd g i3) (by omega) λs'' A8 k1 h8=>?_;exact ⟨m'-1,by omega,u+1,d++[y],by rw [w64]<;>omega,by omega,by omega,i1,by simp;omega,k1,h8⟩
    .rw [dX hy];refine ⟨λbb f=>f=A6/\bb=(!dn&&decide (y>=n)),λbb A7 ⟨g1,g2⟩=>?_,?_⟩
     .subst g1 g2;refine bsel_in (λg=>?_) λg=>?_
      .rw [Bool.and_eq_true,Bool.not_eq_true',decide_eq_true_eq] at g;obtain ⟨g1,g2⟩:=g;have hsh:=I g1;subst g1;refine ⟨λs' f=>∃ d,InsI n (es.take u++[y]) (d++[y]) true/\d.length<=u+1/\s'.a≠none/\Own (SlO s' 1 (intsV d)::SlO M 1 (intsV es)::SlO o 1 (intsV j)::l) f,λs' A8 h8=>h8,?_⟩
       refine bsel_in (λg4=>?_) λg4=>?_
       .have g4:y > n:=of_decide_eq_true g4;refine oE H (λq=>absurd q F) (by omega) λs' A10 k1 h10=>?_;exact ⟨next++[n],S.before D g4,by simp;omega,k1,h10⟩
       .have g4:¬ y > n:=of_decide_eq_false g4;exact ⟨next,S.same D (by omega),hnl,F,H⟩
      .rw [Bool.and_eq_false_iff,Bool.not_eq_false',decide_eq_false_iff_not] at g;by_cases ey:y=n
       .rcases g with g | g
        .subst g;exact ⟨next,S.same D ey,hnl,F,H⟩
        .omega
       .exact ⟨next,S.pass D ey (g.imp_right λg=>by omega),hnl,F,H⟩
     .refine bsel_in (λg=>⟨rfl,?_⟩) λg=>⟨rfl,?_⟩
      .rw [g];rfl
      .rw [g];rfl
   .have c3:¬ (u:Int)<M.len:=of_decide_eq_false c3;have hu:u=es.length:=by omega
    subst hu;rw [List.take_length] at S;have hcong:∀ z,(z ∈ es\/z=n)↔z ∈ j.take (w+1):=λz=>by rw [dX hn,Z.2 z];simp
    have ecg:∀ {r:List Int},EndsOf (λz=>z ∈ es\/z=n) r->EndsOf (λz=>z ∈ j.take (w+1)) r:=λhh=>⟨hh.1,λz=>(hh.2 z).trans (hcong z)⟩;refine ⟨λs' f=>∃ r,EndsOf (λz=>z ∈ j.take (w+1)) r/\r.length<=w+1/\s'.a≠none/\Own (SlO s' 1 (intsV r)::SlO o 1 (intsV j)::l) f,λs' A7 ⟨r,i1,i2,i3,Y⟩=>⟨m-1,by omega,w+1,r,by rw [w64]<;>omega,by omega,i1,i2,i3,Y⟩,?_⟩;refine bsel_in (λg=>?_) λg=>?_
    .have g:dn=false:=by simpa using g
     have hsh:=I g;subst g;refine oE H (λq=>absurd q F) (by omega) λs' A9 k1 h9=>?_;exact ⟨next++[n],ecg S.end0,by simp;omega,k1,h9.cons λC t=>t.tail⟩
    .have g:dn=true:=by simpa using g
     subst g;exact ⟨next,ecg S.end1,by omega,F,H.cons λC t=>t.tail⟩
  .have c2:¬ (w:Int)<o.len:=of_decide_eq_false c2;rw [List.take_of_length_le (by omega)] at Z;have hE2:EndsOf (aIg L p q) es:=⟨Z.1,λz=>(Z.2 z).trans (T z)⟩;refine hk es hE2 ?_ M A4 ho2 (O.cons λC t=>t.tail);have J:∀ z ∈ es,z ∈ j:=λz hz=>(Z.2 z).1 hz;have:=List.Nodup.length_le_of_subset (Z.1.imp λ{a b} q=>(by omega:a≠b)) J;omega
end Go.Dn
namespace Go.Dn
variable {A:AH} {l:List SP} {P:SP} {k:Nat} {s:Sl} {L:List Reg} {x y:Reg} {p q how i n:Int} {es:List Int} {v:Nat}
theorem vV {es:List Int} (h:es.Pairwise (· < ·)) {i j:Nat} {a b:Int} (hi:es[i]? = some a) (d:es[j]? = some b) (c:i<=j):a<=b:=by
 obtain ⟨e,f⟩:=List.getElem?_eq_some_iff.1 hi;obtain ⟨m,o⟩:=List.getElem?_eq_some_iff.1 d;rcases Nat.lt_or_eq_of_le c with g | g
 .have:=List.pairwise_iff_getElem.1 h i j e m g;rw [f,o] at this;omega
 .simp_all
theorem aBi {es:List Int} (h:es.Pairwise (· < ·)) {v:Nat} {e b z:Int} (c:es[v]? = some e) (a:es[v+1]? = some b) (d:z ∈ es):z<=e\/b<=z:=by
 obtain ⟨i,hi⟩:=List.mem_iff_getElem?.1 d;rcases Nat.lt_or_ge v i with g | g
 .exact .inr (vV h a hi g)
 .exact .inl (vV h hi c g)
theorem aHu {e a n:Int} (b:∀ r ∈ L,(r.a<=e\/a<=r.a)/\(r.b<=e\/a<=r.b)) (d:e<=n) (f:n<a):findR L n=findR L e:=by
 unfold findR
 induction L with
 | nil=>rfl
 | cons y r ih=>
  have g:=b y (by simp);rw [List.find?_cons,List.find?_cons,ih λz c=>b z (by simp [c])];have:(decide (y.a<=n)&&decide (n<y.b))=(decide (y.a<=e)&&decide (e<y.b)):=by grind
  rw [this]
set_option maxHeartbeats 1000000 in
theorem mQ {Q:Sl->AH->Prop} (h:Own l A) (e:l[k]? = some P) (hr:Reads P s 6 (regC L)) (hb:L.length<=100) (hs:srtR L) (hpq:0<=p/\p<q/\q<=34359738368) (hw:how=1\/how=2\/how=3)
  (hk:∀ C s' A',srtR C->njR C->(∀ n,lookR C n=uO L p q how x n)->C.length<=1000->s'.a≠none->Own (SlO s' 6 (regC C)::l) A'->Q s' A'):qdd_A s p q how x.a x.b x.w x.u x.x x.k Q A:=by
 unfold qdd_A qdd_G;refine aT (cs:=[]) h λb1 A1 h1=>?_;have h1:Own (SlO ⟨some ⟨b1,0,none⟩,0,0⟩ 6 (regC [])::l) A1:=h1.imp λB _=>⟨⟨by simp [regC],Nat.le_refl _⟩,.inl rfl⟩;refine aA6 (k:=k+1) h1 (by simp_all) hr (by omega) λes hE hel s3 A2 hs3 h2=>?_;have h2:=h2.swap;have hpe:p ∈ es:=(hE.2 p).2 (.inl (.inl rfl));have hqe:q ∈ es:=(hE.2 q).2 (.inl (.inr rfl));have hre:∀ r ∈ L,r.a ∈ es/\r.b ∈ es:=λr hr=>⟨(hE.2 _).2 (.inr ⟨r,hr,.inl rfl⟩),(hE.2 _).2 (.inr ⟨r,hr,.inr rfl⟩)⟩
 have hrng:∀ z ∈ es,0<=z/\z<=34359738368:=λz hz=>by
  rcases (hE.2 z).1 hz with (g | g) | ⟨r,hr,g | g⟩
  ·omega
  ·omega
  ·have:=srt_mem hs r hr;omega
  ·have:=srt_mem hs r hr;omega
 have hne:es≠[]:=λz=>by rw [z] at hpe;cases hpe
 have hst:∀ e0,es[0]? = some e0->ChI (uO L p q how x) e0 []:=λe0 he0=>ChI.start λn hn=>by
  have h3:∀ z ∈ es,e0<=z:=λz hz=>by
   obtain ⟨i,hi⟩:=List.mem_iff_getElem?.1 hz;exact vV hE.1 he0 hi (Nat.zero_le _)
  have h4:=h3 p hpe;unfold uO;rw [if_neg (by omega),wF hs λr hr=>by have:=h3 r.a (hre r hr).1;omega]
 refine ⟨λo z m A'=>∃ (v:Nat) (out:List Reg),z=v/\m+v=es.length/\(∀ e0,es[v]? = some e0->ChI (uO L p q how x) e0 out)/\v<es.length/\out.length<=v/\o.a≠none/\Own (SlO o 6 (regC out)::SlO s3 1 (intsV es)::l) A',
  ⟨es.length,0,[],rfl,by omega,hst,List.length_pos_iff.2 hne,by simp,(λg=>nomatch g),h2⟩,?_⟩
 intro o z m A3 ⟨v,out,e3,e4,hI,hlt,hol,ho,h3⟩;subst e3
 have hl3:s3.len=es.length:=by
  have:=dV (i:=1) h3 rfl aY;rw [oD] at this;omega
 have hw1:IntKind.wrap .i64 ((v:Int)+1)=((v+1:Nat):Int):=by rw [w64]<;>omega
 rw [hw1];have hlo:=bF (k:=0) h3 rfl aY;refine bsel_in (λc=>?_) λc=>?_
 ·have c:((v+1:Nat):Int)<s3.len:=of_decide_eq_true c;obtain ⟨e0,he0⟩:∃ e0,es[v]? = some e0:=⟨es[v]'(by omega),by simp⟩;obtain ⟨e1,he1⟩:∃ e1,es[v+1]? = some e1:=⟨es[v+1]'(by omega),by simp⟩;have hI:=hI e0 he0
  have hlt01:e0<e1:=by
   obtain ⟨i1,i2⟩:=List.getElem?_eq_some_iff.1 he0;obtain ⟨j1,j2⟩:=List.getElem?_eq_some_iff.1 he1;have:=List.pairwise_iff_getElem.1 hE.1 v (v+1) i1 j1 (by omega);rw [i2,j2] at this;exact this
  have hr0:=hrng e0 (List.mem_of_getElem? he0);have hr1:=hrng e1 (List.mem_of_getElem? he1);have gp:=aBi hE.1 he0 he1 hpe;have gq:=aBi hE.1 he0 he1 hqe;have hfe:∀ n,e0<=n->n<e1->findR L n=findR L e0:=λn n1 n2=>aHu (λr hr=>⟨aBi hE.1 he0 he1 (hre r hr).1,aBi hE.1 he0 he1 (hre r hr).2⟩) n1 n2
  have hcon:∀ n,e0<=n->n<e1->uO L p q how x n=uO L p q how x e0:=λn n1 n2=>by
   have hl:lookR L n=lookR L e0:=by unfold lookR;rw [hfe n n1 n2]
   unfold uO;rw [hl];by_cases g:p<=e0/\e0<q
   ·grind
   ·grind
  refine ⟨λo' A'=>∃ out',ChI (uO L p q how x) e1 out'/\out'.length<=v+1/\o'.a≠none/\Own (SlO o' 6 (regC out')::SlO s3 1 (intsV es)::l) A',λo' A4 ⟨out',f1,f2,f3,h4⟩=>⟨m-1,by omega,v+1,out',by rfl,by omega,λe' he'=>by rw [he1] at he';cases he';exact f1,by omega,by omega,f3,h4⟩,?_⟩;obtain ⟨a3,q3,t3⟩:=aAw (k:=1) h3 rfl aY he0;obtain ⟨a4,q4,t4⟩:=aAw (k:=1) h3 rfl aY he1;rw [q3] at q4;cases q4;rw [q3];have b0:∀ {K:Prop},K->bB (v:Int) s3.len K:=λhK=>inB_in (by omega) (by omega) hK;have b1:∀ {K:Prop},K->bB ((v+1:Nat):Int) s3.len K:=λhK=>inB_in (by omega) c hK;refine b0 (t3 _ ?_);have hlook:lookR L e0=(findR L e0).map attrR:=rfl
  have fnd:∀ {Q:Int->Int->Bool->Bool->Bool->Int->Bool->AH->Prop},(∀ (ok:Bool) (ra rb:Int) (w u xx:Bool) (kk:Int),lookR L e0=(if ok then some (w,u,xx,kk) else none)->Q ra rb w u xx kk ok A3)->qcd_A s e0 Q A3:=λhQ=>
   fN (k:=k+2) h3 (by simp_all) hr (by omega) (λg=>hQ false 0 0 false false false 0 (by simp_all)) λy g=>hQ true y.a y.b y.w y.u y.x y.k (by rw [hlook,g];rfl)
  refine fnd λok ra rb w u xx kk hok=>?_;refine ⟨λ(b27:Bool) (_ _:Int) (c30 c31 c32:Bool) (c33:Int) (A':AH)=>A'=A3/\uO L p q how x e0=(if b27 then some (c30,c31,c32,c33) else none),?_,?_⟩
  ·intro ok2 _ _ w2 u2 x2 k2 A4 ⟨f1,f2⟩;subst f1;refine bsel_in (λg=>?_) λg=>?_
   ·have g:ok2=false:=by simpa using g
    subst g;exact ⟨out,hI.skip (by omega) λn n1 n2=>by rw [hcon n n1 n2,f2];rfl,by omega,ho,h3⟩
   have g:ok2=true:=by simpa using g
   subst g;have f2:uO L p q how x e0=some (w2,u2,x2,k2):=f2;refine b0 (t3 _ (b1 (t4 _ ?_)));obtain ⟨y,hy⟩:∃ y:Reg,y=⟨e0,e1,w2,u2,x2,k2⟩:=⟨_,rfl⟩
   have push:(∀ z,out.getLast? = some z->cQ z y=false)->∀ (t t2:TypeId),aN A4 (.cells #[.int .i64 e0,.int .i64 e1,.bool w2,.bool u2,.bool x2,.int .i64 k2] t) λb h2=>dM 6 32 #[(.int .i64 (0:Int)),(.int .i64 (0:Int)),(.bool false),(.bool false),(.bool false),(.int .i64 (0:Int))] t2 o (Sl.mk (some (Addr.mk b 0 none)) 1 1) h2 λs' h'=>∃ out',ChI (uO L p q how x) e1 out'/\out'.length<=v+1/\s'.a≠none/\Own (SlO s' 6 (regC out')::SlO s3 1 (intsV es)::l) h':=λhq t t2=>by
    have:=aEN (f:=Reg.cells) (y:=y) (t:=t) (t2:=t2) (bytes:=32) (zc:=#[(.int .i64 (0:Int)),(.int .i64 (0:Int)),(.bool false),(.bool false),(.bool false),(.int .i64 (0:Int))]) (K:=λs' h'=>∃ out',ChI (uO L p q how x) e1 out'/\out'.length<=v+1/\s'.a≠none/\Own (SlO s' 6 (regC out')::SlO s3 1 (intsV es)::l) h') (λ_=>rfl) (λz v hv=>regC_one (L:=[z]) (by simpa [regC] using hv)) (by decide) h3 (λg=>absurd g ho) rfl (by omega) (by omega) λs' A5 j1 h5=>
     ⟨out++[y],hI.new hlt01 hr0.1 hr1.2 (by rw [hy]) (by rw [hy]) (λn n1 n2=>by rw [hcon n n1 n2,f2,hy];rfl) hq,by simp;omega,j1,h5⟩
    rw [hy] at this;exact this
   refine bsel_in (λg=>?_) λg=>?_
   ·have g:(o.len:Int) > 0:=of_decide_eq_true g;obtain ⟨z,hz⟩:∃ z,out[out.length-1]? = some z:=⟨out[out.length-1]'(by omega),by simp⟩;have hlast:out.getLast? = some z:=by rw [List.getLast?_eq_getElem?];exact hz
    obtain ⟨ol,hol'⟩:=List.getLast?_eq_some_iff.1 hlast
    have ew:IntKind.wrap .i64 ((Int.ofNat o.len)-(1:Int))=((out.length-1:Nat):Int):=by
     show IntKind.wrap .i64 ((o.len:Int)-1)=_;rw [w64]<;>omega
    rw [ew];obtain ⟨a2,p1,p0,p2⟩:=rdG (f:=Reg.cells) (λ_=>rfl) (by decide) (k:=0) h3 rfl aY hz;obtain ⟨b,rest,ha,_⟩:=h3.openS (λg=>by have:=aBN g;rw [this] at hz;simp at hz);rw [ha] at p1;cases p1;rw [ha];have bl:∀ {K:Prop},K->bB ((out.length-1:Nat):Int) o.len K:=λhK=>inB_in (by omega) (by omega) hK;have jn:cQ z y=(z.b==e0&&((z.w==w2&&(z.u==u2&&(z.x==x2&&true)))&&z.k==k2)):=by rw [hy];rfl
    have no:cQ z y=false->∀ z',out.getLast? = some z'->cQ z' y=false:=λhh z' hz'=>by rw [hlast] at hz';cases hz';exact hh
    have aa:∀ c d,Addr.add (Addr.add (Addr.add ⟨b,0,none⟩ (Int.toNat ((out.length-1:Nat):Int)*6)) c) d=Addr.add (Addr.add ⟨b,0,none⟩ (Int.toNat ((out.length-1:Nat):Int)*6)) (c+d):=λc d=>by simp only [add_at,Nat.add_assoc]
    refine bl ⟨z.b,p2 1 _ rfl,?_⟩;refine bsel_in (λg1=>?_) λg1=>?_
    ·refine bl ⟨z.w,p2 2 _ rfl,z.u,by rw [aa];exact p2 3 _ rfl,z.x,by rw [aa];exact p2 4 _ rfl,?_⟩;refine bsel_in (λg2=>?_) λg2=>?_
     ·refine bl ⟨z.k,p2 5 _ rfl,?_⟩;refine bsel_in (λg3=>?_) λg3=>?_
      ·have hj:cQ z y=true:=by rw [jn,g1,g2,g3];rfl
       obtain ⟨j1,j2⟩:=lD.1 hj;refine bl ?_;have ea:Addr.add (Addr.add ⟨b,0,none⟩ (Int.toNat ((out.length-1:Nat):Int)*6)) 1=Addr.add ⟨b,0,none⟩ ((out.length-1)*6+1):=by simp only [add_at,Int.toNat_natCast,Nat.zero_add]
       rw [ea];refine aLm h3 ha (by omega) rfl λA6 h6=>?_;have hl1:out.length-1=ol.length:=by rw [hol'];simp
       rw [hl1,hol',aAD (r:=z)] at h6;refine ⟨ol++[{ z with b:=e1 }],?_,?_,ho,h6⟩
       ·rw [hol'] at hI;exact hI.more hlt01 hr1.2 (by rw [j1,hy]) λn n1 n2=>by rw [hcon n n1 n2,f2,j2,hy];rfl
       ·grind
      ·simp_all
     ·simp_all
    ·simp_all
   ·simp_all
  ·refine b0 (t3 _ ?_);have out0:¬ (p<=e0/\e0<q)->uO L p q how x e0=(if ok then some (w,u,xx,kk) else none):=λg=>by unfold uO;rw [if_neg g];exact hok
   refine bsel_in (λg=>?_) λg=>?_
   ·have g:e0>=p:=of_decide_eq_true g;refine b0 (t3 _ ?_);refine bsel_in (λg2=>?_) λg2=>?_
    ·have g2:e0<q:=of_decide_eq_true g2;have hin:uO L p q how x e0=if how=1 then some (attrR x) else if how=2 then none else if how=3 then (lookR L e0).map (λa=>(x.w,x.u,x.x,a.2.2.2)) else lookR L e0:=by unfold uO;rw [if_pos ⟨g,g2⟩]
     rcases hw with rfl | rfl | rfl
     ·exact aG rfl ⟨rfl,by rw [hin];rfl⟩
     ·exact bsel_f rfl (aG rfl ⟨rfl,by rw [hin];rfl⟩)
     ·refine bsel_f rfl (bsel_f rfl (aG rfl ⟨rfl,?_⟩));rw [hin,hok];cases ok<;>rfl
    ·simp_all
   ·grind
 ·have c:¬ ((v+1:Nat):Int)<s3.len:=of_decide_eq_false c;obtain ⟨e0,he0⟩:∃ e0,es[v]? = some e0:=⟨es[v]'(by omega),by simp⟩;have hI:=hI e0 he0
  have h3':∀ z ∈ es,z<=e0:=λz hz=>by
   obtain ⟨i,hi⟩:=List.mem_iff_getElem?.1 hz;have:=(List.getElem?_eq_some_iff.1 hi).1;exact vV hE.1 hi he0 (by omega)
  refine hk out o A3 hI.srt hI.nj (λn=>?_) (by omega) ho (h3.cons λC hC=>hC.tail);rw [hI.look];by_cases gn:n<e0
  ·simp_all
  ·rw [if_neg gn];have:=h3' q hqe;unfold uO;rw [if_neg (show ¬ (p<=n/\n<q) by omega),aAR λr hr=>by have:=h3' r.b (hre r hr).2;omega]
def chE (L:List Reg) (p q how:Int) (C:List Reg):Int:=if rightB p q=false then 1 else if how=1/\cntZ L p q > 0 then 6 else if how=3/\cntZ L p q≠q-p then 5 else if C.length > 64 then 4 else 0
theorem dC:rightB p q=true↔0<=p/\p<q/\q<=34359738368/\q-p<=65536:=by
 unfold rightB;simp only [Bool.and_eq_true,decide_eq_true_eq]
theorem j8 {C:List Reg} {Q:Int->AH->Prop} (h:Own l A) (e:l[k]? = some P) (j:Reads P s 6 (regC L)) (o:goodB L=true) (r:how=1\/how=2\/how=3)
  (u:rightB p q=true->(how=1->¬ cntZ L p q > 0)->srtR C/\njR C/\∀ n,lookR C n=uO L p q how x n) (d:∀ b,Own l b->Q (chE L p q how C) b):qde_A s p q how x.a x.b x.w x.u x.x x.k Q A:=by
 obtain ⟨N,t,O⟩:=bJ.1 o;unfold qde_A qde_G;refine y9 ?_;cases a:rightB p q with
 | false=>
  have:=d A h;unfold chE at this;rw [if_pos a] at this;exact aG rfl this
 | true=>
 obtain ⟨B,E,F,R⟩:=dC.1 a;have G:chE L p q how C=if how=1/\cntZ L p q > 0 then 6 else if how=3/\cntZ L p q≠q-p then 5 else if C.length > 64 then 4 else 0:=by unfold chE;rw [if_neg (by simp [a])]
 rw [G] at d;refine bsel_f rfl (aBk h e j o (bsel_f rfl ?_));have f:∀ {Q:Int->AH->Prop},Q (cntZ L p q) A->qdb_A s p q Q A:=λhQ=>zF h e j t (by omega) (by omega) hQ
 have c:(how=1->¬ cntZ L p q > 0)->(∀ b,Own l b->Q (if C.length > 64 then 4 else 0) b)->qdd_A s p q how x.a x.b x.w x.u x.x x.k (λH g=>bsel (decide ((Int.ofNat H.len) > (64:Int))) (Q (4:Int) g) (Q (0:Int) g)) A:=λm hQ=>by
  obtain ⟨c1,c2,I⟩:=u a m
  exact mQ h e j (by omega) t ⟨B,E,F⟩ r λD s' b J K M _ _ h'=>by
   have:D=C:=aBo J K c1 c2 λn=>by rw [M,I]
   subst this;have S:=bF (k:=0) h' rfl aY;have T:=hQ b h'.tail;refine bsel_in (λw=>?_) λw=>?_
   .grind
   .grind
 rcases r with rfl | rfl | rfl
 .refine aG rfl (f ?_);refine bsel_in (λw=>?_) λw=>bsel_f rfl (c (λ_=>of_decide_eq_false w) ?_)
  .simp_all
  .grind
 .refine bsel_f rfl (bsel_f rfl (c (λz=>absurd z (by decide)) ?_));rw [if_neg (λz=>absurd z.1 (by decide)),if_neg (λz=>absurd z.1 (by decide))] at d;exact d
 .refine bsel_f rfl (aG rfl (f ?_));rw [w64 (n:=q-p) (by omega) (by omega)];rw [if_neg (λz=>absurd z.1 (by decide))] at d;refine bsel_in (λw=>?_) λw=>c (λz=>absurd z (by decide)) ?_
  .simp_all
  .simp_all
theorem aBn (hs:srtR L) (b:p<q):cntZ L p q > 0↔∃ r ∈ L,p<r.b/\r.a<q:=by
 induction L with
 | nil=>simp [cntZ]
 | cons y r a=>
  have c:=(nC (p:=p) (q:=q) hs.2.2).1;have a:=a hs.2.2;have d:=hs.1;simp only [cntZ,List.mem_cons,exists_eq_or_imp];rw [<-a];have key:(if q<y.b then q else y.b)-(if p > y.a then p else y.a) > 0↔p<y.b/\y.a<q:=by omega
  rw [<-key];by_cases g:(if q<y.b then q else y.b)-(if p > y.a then p else y.a) > 0
  .omega
  .omega
theorem wA (hg:goodB L=true):cG L y=chE L y.a y.b 1 (addL L y):=by
 obtain ⟨g1,g2,g3⟩:=bJ.1 hg;unfold cG chE;by_cases hrt:rightB y.a y.b=false
 ·simp_all
 ·rw [if_neg hrt,if_neg hrt,if_neg (show ¬ goodB L=false by simp [hg])];have hpq:=(dC.1 (by simpa using hrt)).2.1;cases hv:atS y L 0 0 with
  | none=>rw [if_pos (show (1:Int)=1/\cntZ L y.a y.b > 0 from ⟨rfl,(aBn g2 hpq).2 (sJ.1 hv)⟩)]
  | some v=>
   rw [if_neg (show ¬ ((1:Int)=1/\cntZ L y.a y.b > 0) from λz=>by have:=(sJ (y:=y) (i:=0) (a:=0)).2 ((aBn g2 hpq).1 z.2);rw [hv] at this;cases this),if_neg (show ¬ ((1:Int)=3/\cntZ L y.a y.b≠y.b-y.a) from λz=>absurd z.1 (by decide))]
theorem aIC (a:goodB L=true):gU L p q=chE L p q 2 (cutR L p q):=by
 unfold gU chE;rw [if_neg (show ¬ goodB L=false by simp [a]),if_neg (show ¬ ((2:Int)=1/\cntZ L p q > 0) from λz=>absurd z.1 (by decide)),if_neg (show ¬ ((2:Int)=3/\cntZ L p q≠q-p) from λz=>absurd z.1 (by decide))]
theorem aCs {pw pu px:Bool} (a:goodB L=true):eC L p q pw pu px=chE L p q 3 (protR L p q pw pu px):=by
 unfold eC chE;rw [if_neg (show ¬ goodB L=false by simp [a]),if_neg (show ¬ ((3:Int)=1/\cntZ L p q > 0) from λz=>absurd z.1 (by decide))];simp only [true_and]
end Go.Dn
namespace Go.Dn
variable {A:AH} {l:List SP} {P:SP} {k:Nat} {s:Sl}
def dif (d:Int) (prev:Option Int) (p:Int):Int:=match prev with | none=>1 | some q=>if q / d=p / d then 0 else 1
def tz:Option Int->List Int->Int
 | _,[]=>0
 | prev,p::r=>dif 512 prev p+dif 262144 prev p+dif 134217728 prev p+tz (some p) r
theorem tQ (d:Int) (prev:Option Int) (p:Int):dif d prev p=0\/dif d prev p=1:=by
 unfold dif;split
 .exact .inr rfl
 .split
  .exact .inl rfl
  .exact .inr rfl
theorem aIw:∀ (prev:Option Int) (ps:List Int),0<=tz prev ps/\tz prev ps<=3*ps.length
 | _,[]=>by simp [tz]
 | prev,p::r=>by
  obtain ⟨d,e⟩:=aIw (some p) r;have a:=tQ 512 prev p;have b:=tQ 262144 prev p;have c:=tQ 134217728 prev p;simp only [tz,List.length_cons];omega
def eE (ps:List Int) (v:Nat):Option Int:=if v=0 then none else ps[v-1]?
def aFC:List Int:=[9,18,27]
set_option maxRecDepth 100000 in
set_option maxHeartbeats 1000000 in
theorem y8 {ps:List Int} {Q:Int->AH->Prop} (h:Own l A) (e:l[k]? = some P) (W:Reads P s 1 (intsV ps)) (hb:ps.length<=1000000)
  (hk:∀ z,Own l z->Q (1+tz none ps) z):qcc_A s Q A:=by
 have hl:s.len=ps.length:=by have:=dV h e W;simp only [intsV,List.length_map] at this;omega
 have rd:∀ {l':List SP} {k':Nat} {z:AH} {v:Nat} {x:Int},Own l' z->l'[k']? = some P->ps[v]? = some x->∃ a,s.a=some a/\∀ K:Int->Prop,K x->aI .i64 (Addr.add a (Int.toNat (v:Int)*1)) z K:=λ{l' k' z v x} h' e' X=>by
  obtain ⟨bb,o,q1,q2⟩:=bK h' e' W (j:=v) (v:=.int .i64 x) (by simp [intsV,X]);exact ⟨_,q1,λK J=>⟨x,by rw [add_at,show Int.toNat (v:Int)*1=v by omega];exact q2,J⟩⟩
 unfold qcc_A;refine ⟨λu Y m h'=>∃ v:Nat,Y=v/\m+v=ps.length/\1+tz none ps=u+tz (eE ps v) (ps.drop v)/\0<=u/\u<=1+3*v/\Own l h',⟨ps.length,0,rfl,rfl,by rw [List.drop_zero];rfl,by omega,by omega,h⟩,?_⟩;intro u Y m A1 ⟨v,e1,e2,L,e4,e5,M⟩;subst e1;refine bsel_in (λc=>?_) λc=>?_
 .have c:(v:Int)<Int.ofNat s.len:=of_decide_eq_true c;have c:(v:Int)<s.len:=c;obtain ⟨p,N⟩:∃ p,ps[v]? = some p:=⟨ps[v]'(by omega),by simp⟩;have hd:=jR N;obtain ⟨a,ha,O⟩:=rd M e N;have C:∀ {K:Addr->Prop},K a->aF s.a K:=λJ=>by rw [ha];exact J
  refine C (inB_in (by omega) c (O _ (aT (cs:=intsV aFC) M λD A2 h2=>?_)))
  refine ⟨λb E R h'=>∃ j:Nat,E=j/\R+j=3/\b=u+(if 0<j then dif 512 (eE ps v) p else 0)+(if 1<j then dif 262144 (eE ps v) p else 0)+(if 2<j then dif 134217728 (eE ps v) p else 0)/\Own (At D (intsV aFC)::l) h',
   ⟨3,0,rfl,rfl,by simp,h2⟩,?_⟩
  have a1:=tQ 512 (eE ps v) p;have a2:=tQ 262144 (eE ps v) p;have a3:=tQ 134217728 (eE ps v) p;intro b E R F ⟨j,f1,f2,r,f⟩;subst f1;have G:Own l F:=f.tail;refine bsel_in (λd=>?_) λd=>?_
  .have d:(j:Int)<3:=of_decide_eq_true d
   have X:0<=b/\b<=1+3*v+3:=by
    obtain rfl | rfl | rfl:j=0\/j=1\/j=2:=by omega
    all_goals simp at r
    all_goals omega
   -- one divisor
   have one:∀ (B:Int) (n:Nat) (t:Int),B=n->t=2 ^ n->n<64->∀ (Z:Int->Prop),(dif t (eE ps v) p=1->Z (b+1))->(dif t (eE ps v) p=0->Z b)->
     (bsel ((v:Int)==0) (Z (IntKind.wrap .i64 (b+1))) (aF s.a λS=>bB (IntKind.wrap .i64 ((v:Int)-1)) s.len (aI .i64 (Addr.add S (Int.toNat (IntKind.wrap .i64 ((v:Int)-1))*1)) F λT=>
      bsel (decide (B<0)) False (bsel (decide (B<0)) False (bsel ((Int.fdiv T (2 ^ (min (Int.toNat B) 64))) != (Int.fdiv p (2 ^ (min (Int.toNat B) 64)))) (Z (IntKind.wrap .i64 (b+1))) (Z b)))))):=by
    intro B n t U V hn Z r1 r0;subst U;rw [w64 (n:=b+1) (by omega) (by omega)];refine bsel_in (λg=>?_) λg=>?_
    .have g:v=0:=by simp at g;omega
     subst g;exact r1 rfl
    .have g:v≠0:=by simp at g;omega
     obtain ⟨q,hq⟩:∃ q,ps[v-1]? = some q:=⟨ps[v-1]'(by omega),by simp⟩;have hp:eE ps v=some q:=by unfold eE;rw [if_neg g];exact hq
     rw [w64 (n:=(v:Int)-1) (by omega) (by omega),show (v:Int)-1=((v-1:Nat):Int) by omega];obtain ⟨a',H,I⟩:=rd G e hq;have ea:a'=a:=by rw [ha] at H;exact (Option.some.inj H).symm
     subst ea;refine C (inB_in (by omega) (by omega) (I _ (bsel_f (by simp) (bsel_f (by simp) ?_))));rw [show min (Int.toNat (n:Int)) 64=n by omega,qC,qC,<- V];refine bsel_in (λw=>?_) λw=>?_
     .have w:¬q / t=p / t:=by simpa using w
      exact r1 (by rw [hp];unfold dif;simp only;rw [if_neg w])
     .have w:q / t=p / t:=by simpa using w
      exact r0 (by rw [hp];unfold dif;simp only;rw [if_pos w])
   refine ⟨λy h'=>y=u+(if 0<j+1 then dif 512 (eE ps v) p else 0)+(if 1<j+1 then dif 262144 (eE ps v) p else 0)+(if 2<j+1 then dif 134217728 (eE ps v) p else 0)/\Own (At D (intsV aFC)::l) h',λy A4 ⟨g1,g2⟩=>⟨R-1,by omega,j+1,by rw [w64]<;>omega,by omega,g1,g2⟩,?_⟩;refine inB_in (by omega) (by omega) ?_;rw [show Int.toNat (j:Int)*1=j by omega,add_at,Nat.zero_add];obtain rfl | rfl | rfl:j=0\/j=1\/j=2:=by omega
   .refine bQ (i:=0) f rfl (n:=9) rfl (one 9 9 512 rfl rfl (by omega) (λy=>y=_/\Own (At D (intsV aFC)::l) F) (λg=>⟨?_,f⟩) λg=>⟨?_,f⟩)
    .simp at r ⊢;omega
    .simp at r ⊢;omega
   .refine bQ (i:=0) f rfl (n:=18) rfl (one 18 18 262144 rfl rfl (by omega) (λy=>y=_/\Own (At D (intsV aFC)::l) F) (λg=>⟨?_,f⟩) λg=>⟨?_,f⟩)
    .simp at r ⊢;omega
    .simp at r ⊢;omega
   .refine bQ (i:=0) f rfl (n:=27) rfl (one 27 27 134217728 rfl rfl (by omega) (λy=>y=_/\Own (At D (intsV aFC)::l) F) (λg=>⟨?_,f⟩) λg=>⟨?_,f⟩)
    .simp at r ⊢;omega
    .simp at r ⊢;omega
  .have d:¬(j:Int)<3:=of_decide_eq_false d;have hj:j=3:=by omega
   subst hj;simp at r;refine ⟨m-1,by omega,v+1,by rw [w64]<;>omega,by omega,?_,by omega,by omega,G⟩;rw [L,hd,r];have:eE ps (v+1)=some p:=by unfold eE;rw [if_neg (by omega)];exact N
   rw [this];simp only [tz];omega
 .have c:¬(v:Int)<Int.ofNat s.len:=of_decide_eq_false c;have c:¬(v:Int)<s.len:=c;rw [List.drop_eq_nil_of_le (by omega)] at L;have:u=1+tz none ps:=by rw [L];simp [tz]
  rw [this];exact hk A1 M
def cz (d:Int):Option Int->List Int->Int
 | _,[]=>0
 | prev,p::r=>dif d prev p+cz d (some p) r
theorem aKD:∀ (prev:Option Int) (ps:List Int),tz prev ps=cz 512 prev ps+cz 262144 prev ps+cz 134217728 prev ps
 | _,[]=>rfl
 | prev,p::r=>by
  simp only [tz,cz,aKD (some p) r];omega
def aBA (d:Int):List Int->Int
 | []=>0
 | p::r=>newD d r p+aBA d r
theorem wB {d:Int} (f:0<d):∀ (r:List Int) (p:Int),(p::r).Pairwise (· < ·)->cz d (some p) r+1=aBA d (p::r)
 | [],p,_=>by simp [cz,aBA,newD]
 | y::r,p,h=>by
  obtain ⟨j,i⟩:=List.pairwise_cons.1 h;have m:=wB f r y i;have mono:∀ {a c:Int},a<=c->a / d<=c / d:=λh=>Int.ediv_le_ediv f h;have n:=j y (by simp)
  have e:(newD d (y::r) p:Int)=dif d (some p) y:=by
   unfold dif;simp only;by_cases g:p / d=y / d
   .rw [if_pos g,fY.2 ⟨y,by simp,g.symm⟩];rfl
   .have:newD d (y::r) p≠0:=λz=>by
     obtain ⟨q,b,o⟩:=fY.1 z;have k1:=mono (Int.le_of_lt n);rcases List.mem_cons.1 b with rfl | b
     .exact g o.symm
     .have k2:=mono (Int.le_of_lt ((List.pairwise_cons.1 i).1 q b));omega
    have:=oC (ps:=y::r) (p:=p) (d:=d);rw [if_neg g];omega
  have t:aBA d (p::y::r)=newD d (y::r) p+aBA d (y::r):=rfl;rw [t,<- m,e];simp only [cz];omega
theorem aBJ:∀ ps:List Int,(tabsN ps:Int)=1+aBA 512 ps+aBA 262144 ps+aBA 134217728 ps
 | []=>rfl
 | p::r=>by
  have:=aBJ r;simp only [tabsN,aBA,eN];omega
theorem aFj {ps:List Int} (h:ps.Pairwise (· < ·)):1+tz none ps=tabsN ps:=by
 rw [aKD,aBJ];cases ps with
 | nil=>rfl
 | cons p r=>
  have a:=wB (d:=512) (by omega) r p h;have b:=wB (d:=262144) (by omega) r p h;have c:=wB (d:=134217728) (by omega) r p h;simp only [cz,dif];omega
end Go.Dn
namespace Go.Dn
structure Sx where
 id:Int
 box:Int
 rs:Sl
 ps:Sl
def Sx.cells (x:Sx):List Value:=[.int .i64 x.id,.int .i64 x.box,.slice x.rs.a x.rs.len x.rs.cap,.slice x.ps.a x.ps.len x.ps.cap]
def Pg.cells (g:Pg):List Value:=[.int .i64 g.num,.int .i64 g.key,.int .i64 g.lent]
abbrev pgC (L:List Pg):List Value:=L.flatMap Pg.cells
abbrev sxC (X:List (Sx × Sm)):List Value:=X.flatMap λx=>x.1.cells
structure qJ (B:AH) (x:Sx) (s:Sm):Prop where
 id:x.id=s.id
 box:x.box=(s.box:Int)
 rs:RdF B x.rs 6 (regC s.regs)
 ps:RdF B x.ps 3 (pgC s.pgs)
def SpsR (B:AH) (sp:Sl) (l:List Sm):Prop:=∃ X:List (Sx × Sm),X.map (·.2)=l/\RdF B sp 4 (sxC X)/\∀ x ∈ X,qJ B x.1 x.2
variable {A B B':AH} {R:List SP} {l:List Sm} {L:List Pg} {sp bx:Sl} {x:Sx} {s:Sm} {g:Pg} {keys id p q a b:Int} {v:Nat} {ll:List SP} {P:SP} {k:Nat} {sl:Sl}
theorem qJ.mono (h:qJ B x s) (u:eU B B'):qJ B' x s:=⟨h.id,h.box,h.rs.mono u,h.ps.mono u⟩
theorem SpsR.mono (h:SpsR B sp l) (u:eU B B'):SpsR B' sp l:=by
 obtain ⟨X,c,d,e⟩:=h;exact ⟨X,c,d.mono u,λx f=>(e x f).mono u⟩
theorem sY (x:Sx × Sm):x.1.cells.length=4:=rfl
theorem nD (g:Pg):g.cells.length=3:=rfl
theorem aLx (g:Pg):∀ v ∈ g.cells,v.oneCell'=true:=λv c=>by
 simp [Pg.cells] at c;rcases c with rfl | rfl | rfl<;>rfl
theorem aL5 (x:Sx × Sm):∀ v ∈ x.1.cells,v.oneCell'=true:=λv c=>by
 simp [Sx.cells] at c;rcases c with rfl | rfl | rfl | rfl<;>rfl
theorem aAt (h:Own ll A) (e:ll[k]? = some P) (d:Reads P sl 3 (pgC L)) (f:L[v]? = some g) :
  ∃ a,sl.a=some a/\∀ K:Int->Int->Int->Prop,K g.num g.key g.lent->
   aI .i64 (Addr.add a (Int.toNat (v:Int)*3)) A λi=>aI .i64 (Addr.add (Addr.add a (Int.toNat (v:Int)*3)) 1) A λj=>aI .i64 (Addr.add (Addr.add a (Int.toNat (v:Int)*3)) 2) A λm=>K i j m:=by
 obtain ⟨a,n,o,c⟩:=rdG nD (by decide) h e d f;exact ⟨a,n,λK r=>⟨g.num,o,g.key,c 1 _ rfl,g.lent,c 2 _ rfl,r⟩⟩
theorem aE1 {X:List (Sx × Sm)} {y:Sx × Sm} (h:Own ll A) (e:ll[k]? = some P) (d:Reads P sl 4 (sxC X)) (i:X[v]? = some y) :
  ∃ a,sl.a=some a/\∀ K:Int->Int->Sl->Sl->Prop,K y.1.id y.1.box y.1.rs y.1.ps->
   aI .i64 (Addr.add a (Int.toNat (v:Int)*4)) A λj=>aI .i64 (Addr.add (Addr.add a (Int.toNat (v:Int)*4)) 1) A λm=>aS (Addr.add (Addr.add a (Int.toNat (v:Int)*4)) 2) A λn=>aS (Addr.add (Addr.add a (Int.toNat (v:Int)*4)) 3) A λo=>K j m n o:=by
 obtain ⟨a,r,t,c⟩:=rdG (f:=λx:Sx × Sm=>x.1.cells) sY (by decide) h e d i;exact ⟨a,r,λK u=>⟨y.1.id,t,y.1.box,c 1 _ rfl,y.1.rs,c 2 _ rfl,y.1.ps,c 3 _ rfl,u⟩⟩
theorem wD {t t2:TypeId} {K:Sl->AP} (h:Own (SlO sl 3 (pgC L)::R) A) (hs:sl.a=none->L=[]) (d:L.length<=1000000) (e:∀ s' c,s'.a≠none->Own (SlO s' 3 (pgC (L++[g]))::R) c->K s' c) :
  aN A (.cells #[.int .i64 g.num,.int .i64 g.key,.int .i64 g.lent] t) λb i=>dM 3 24 #[(.int .i64 (0:Int)),(.int .i64 (0:Int)),(.int .i64 (0:Int))] t2 sl (Sl.mk (some (Addr.mk b 0 none)) 1 1) i K:=
 aEN (f:=Pg.cells) nD aLx (by decide) h hs rfl (by omega) d e
theorem vY {X:List (Sx × Sm)} {y:Sx} {s:Sm} {t t2:TypeId} {K:Sl->AP} (h:Own (SlO sl 4 (sxC X)::R) A) (hs:sl.a=none->X=[]) (d:X.length<=1000000) (e:∀ s' c,s'.a≠none->Own (SlO s' 4 (sxC (X++[(y,s)]))::R) c->K s' c) :
  aN A (.cells #[.int .i64 y.id,.int .i64 y.box,.slice y.rs.a y.rs.len y.rs.cap,.slice y.ps.a y.ps.len y.ps.cap] t) λb i=>dM 4 64 #[(.int .i64 (0:Int)),(.int .i64 (0:Int)),(.slice none 0 0),(.slice none 0 0)] t2 sl (Sl.mk (some (Addr.mk b 0 none)) 1 1) i K:=
 aEN (f:=λx:Sx × Sm=>x.1.cells) (y:=(y,s)) sY aL5 (by decide) h hs rfl (by omega) d e
theorem fP {Q:Int->Int->Sl->Sl->Bool->AH->Prop} (h:Own (Fz B::R) A) (n:SpsR B sp l) (o:l.length<=1000000)
  (r:l.find? (λs=>s.id==id)=none->Q 0 0 Sl.nil Sl.nil false A) (D:∀ x s,l.find? (λs=>s.id==id)=some s->qJ B x s->Q x.id x.box x.rs x.ps true A):qca_A sp bx keys id Q A:=by
 obtain ⟨X,rfl,j,t⟩:=n;have E:=cZ (f:=λx:Sx × Sm=>x.1.cells) sY (by decide) (k:=0) h rfl j.rd;rw [List.length_map] at o;unfold qca_A;refine ⟨λx _ _ _ _ m u=>∃ v:Nat,x=v/\m+v=X.length/\u=A/\(X.map (·.2)).find? (λs=>s.id==id)=((X.drop v).map (·.2)).find? (λs=>s.id==id),⟨X.length,0,rfl,rfl,rfl,rfl⟩,?_⟩;intro x _ _ _ _ m F ⟨v,e1,G,w,d⟩;subst e1 w;refine bsel_in (λc=>?_) λc=>?_
 .have c:(v:Int)<sp.len:=of_decide_eq_true c;obtain ⟨y,e⟩:∃ y,X[v]? = some y:=⟨X[v]'(by omega),by simp⟩;rw [jR e,List.map_cons,List.find?_cons] at d;obtain ⟨a,z,C⟩:=aE1 (k:=0) h rfl j.rd e;have i:=t y (List.mem_of_getElem? e);rw [z];refine inB_in (by omega) c (C _ ?_);rw [<-i.id] at d;refine bsel_in (λg=>?_) λg=>?_
  .grind
  .rw [g] at d;exact ⟨m-1,by omega,v+1,by rw [w64]<;>omega,by omega,rfl,d⟩
 .have c:¬(v:Int)<sp.len:=of_decide_eq_false c;rw [List.drop_eq_nil_of_le (by omega)] at d;exact r d
theorem rS {Q:Int->Int->Int->Bool->AH->Prop} (h:Own (Fz B::R) A) (e:RdF B x.ps 3 (pgC s.pgs)) (w:s.pgs.length<=1000000)
  (i:pgAt s p=none->Q 0 0 0 false A) (n:∀ g,pgAt s p=some g->Q g.num g.key g.lent true A):qfb_A a b sl x.ps p Q A:=by
 have z:=cZ (f:=Pg.cells) nD (by decide) (k:=0) h rfl e.rd;unfold qfb_A;unfold pgAt at i n;generalize s.pgs=L at *;refine ⟨λx _ _ _ m o=>∃ v:Nat,x=v/\m+v=L.length/\o=A/\L.find? (λg=>g.num==p)=(L.drop v).find? (λg=>g.num==p),⟨L.length,0,rfl,rfl,rfl,rfl⟩,?_⟩;intro y _ _ _ m C ⟨v,e1,D,r,d⟩;subst e1 r;refine bsel_in (λc=>?_) λc=>?_
 .have c:(v:Int)<x.ps.len:=of_decide_eq_true c;obtain ⟨y,j⟩:∃ y,L[v]? = some y:=⟨L[v]'(by omega),by simp⟩;rw [jR j,List.find?_cons] at d;obtain ⟨a,t,u⟩:=aAt (k:=0) h rfl e.rd j;rw [t];refine inB_in (by omega) c (u _ ?_);refine bsel_in (λg=>?_) λg=>?_
  .simp_all
  .rw [g] at d;exact ⟨m-1,by omega,v+1,by rw [w64]<;>omega,by omega,rfl,d⟩
 .have c:¬(v:Int)<x.ps.len:=of_decide_eq_false c;rw [List.drop_eq_nil_of_le (by omega)] at d;exact i d
theorem qM {id box:Int} {sl:Sl} {Q:Sl->AH->Prop} (h:Own (Fz B::R) A) (d:qJ B x s) (F:s.pgs.length<=1000000) (n:∀ s' e,s'.a≠none->Own (SlO s' 1 (intsV (nums s))::Fz B::R) e->Q s' e):qcb_A id box sl x.ps Q A:=by
 have G:=cZ (f:=Pg.cells) nD (by decide) (k:=0) h rfl d.ps.rd;have d:=d.ps;unfold qcb_A;unfold nums at n;generalize s.pgs=L at *;refine aT (cs:=[]) h λH I u=>?_;refine ⟨λo z m e=>∃ v:Nat,z=v/\m+v=L.length/\o.a≠none/\Own (SlO o 1 (intsV ((L.take v).map (·.num)))::Fz B::R) e,⟨L.length,0,rfl,rfl,(λg=>nomatch g),u.slo0⟩,?_⟩;intro o z m w ⟨v,e1,J,r,i⟩;subst e1;refine bsel_in (λc=>?_) λc=>?_
 .have c:(v:Int)<x.ps.len:=of_decide_eq_true c;obtain ⟨y,t⟩:∃ y,L[v]? = some y:=⟨L[v]'(by omega),by simp⟩;obtain ⟨a,C,D⟩:=aAt (k:=1) i rfl d.rd t;rw [C];refine inB_in (by omega) c (D _ (oE i (λg=>absurd g r) (by simp;omega) λs' K j E=>?_));refine ⟨m-1,by omega,v+1,by rw [w64]<;>omega,by omega,j,?_⟩;rw [dX t,List.map_append];exact E
 .have c:¬(v:Int)<x.ps.len:=of_decide_eq_false c;rw [List.take_of_length_le (by omega)] at i;exact n o w r i
theorem vL {L:List Reg} {n:Int}:(findR L n=none->kdR L n=0)/\∀ y,findR L n=some y->kdR L n=y.k:=by
 unfold kdR lookR;exact ⟨λh=>by rw [h];rfl,λy h=>by rw [h];rfl⟩
theorem cU {id box:Int} {Q:Int->AH->Prop} (h:Own (Fz B::R) A) (j:qJ B x s) (V:s.pgs.length<=100000) (D:s.regs.length<=1000) (hs:(nums s).Pairwise (· < ·)) (E:∀ d,Own (Fz B::R) d->Q (costS s) d):qce_A id box x.rs x.ps Q A:=by
 unfold qce_A qce_G;refine qM h j (by omega) λs1 W F G=>?_;have H:(nums s).length=s.pgs.length:=by unfold nums;simp
 refine y8 (k:=0) G rfl aY (by omega) λo i=>?_;have i:Own (Fz B::R) o:=i.tail;have X:=cZ (f:=Pg.cells) nD (by decide) (k:=0) i rfl j.ps.rd;have I:=aIw none (nums s);rw [aFj hs] at *;have r:=aFj hs;refine ⟨λn z m d=>∃ v:Nat,z=v/\m+v=s.pgs.length/\n=(tabsN (nums s):Int)+((s.pgs.take v).filter λg=>kdR s.regs g.num==0).length/\d=o,⟨s.pgs.length,0,rfl,rfl,by simp,rfl⟩,?_⟩;intro n z m t ⟨v,e1,Y,J,K⟩;subst e1 J K;refine bsel_in (λc=>?_) λc=>?_
 .have c:(v:Int)<x.ps.len:=of_decide_eq_true c;obtain ⟨y,u⟩:∃ y,s.pgs[v]? = some y:=⟨s.pgs[v]'(by omega),by simp⟩;obtain ⟨a,M,N⟩:=aAt (k:=0) i rfl j.ps.rd u;have O:((s.pgs.take v).filter λg=>kdR s.regs g.num==0).length<=v:=Nat.le_trans (List.length_filter_le _ _) (by simp;omega);refine ⟨λn d=>n=(tabsN (nums s):Int)+((s.pgs.take (v+1)).filter λg=>kdR s.regs g.num==0).length/\d=t,λn Z ⟨S,T⟩=>⟨m-1,by omega,v+1,by rw [w64]<;>omega,by omega,S,T⟩,?_⟩;rw [M];refine inB_in (by omega) c (N _ ?_)
  have U:((s.pgs.take (v+1)).filter λg=>kdR s.regs g.num==0).length=((s.pgs.take v).filter λg=>kdR s.regs g.num==0).length+if kdR s.regs y.num=0 then 1 else 0:=by
   rw [dX u,List.filter_append,List.length_append];by_cases e:kdR s.regs y.num=0
   .simp_all
   .simp_all
  rw [U]
  have C:kdR s.regs y.num=0->IntKind.wrap .i64 ((tabsN (nums s):Int)+((s.pgs.take v).filter λg=>kdR s.regs g.num==0).length+1)=(tabsN (nums s):Int)+(((s.pgs.take v).filter λg=>kdR s.regs g.num==0).length+if kdR s.regs y.num=0 then 1 else 0:Nat):=λe=>by
   rw [if_pos e,w64 (by omega) (by omega)];omega
  refine fN (k:=0) i rfl j.rs.rd (by omega) (λg=>?_) λz g=>?_
  .have e:=vL.1 g;exact aG rfl ⟨C e,rfl⟩
  .have e:=vL.2 z g;refine bsel_in (λw=>⟨C (by simp_all),rfl⟩) λw=>⟨?_,rfl⟩;rw [if_neg (by simp_all)];rfl
 .have c:¬(v:Int)<x.ps.len:=of_decide_eq_false c;rw [List.take_of_length_le (by omega)];exact E t i
def wthL {α:Type} (key:α->Int) (s:α):Bool->List α->List α
 | d,[]=>if d then [] else [s]
 | d,x::r=>(if d then [] else if key x>=key s then [s] else [])++(if key x=key s then [] else [x])++wthL key s (d || decide (key x>=key s)) r
theorem aCE {α:Type} {key:α->Int} {s x:α} {d:Bool} {r:List α}:wthL key s d (x::r)=(if d then [] else if key x>=key s then [s] else [])++(if key x=key s then [] else [x])++wthL key s (d || decide (key x>=key s)) r:=rfl
theorem aEz {α β:Type} {key:β->Int} {f:α->β} {s:α}:∀ {d:Bool} {l:List α},(wthL (λx=>key (f x)) s d l).map f=wthL key (f s) d (l.map f)
 | d,[]=>by unfold wthL;cases d<;>rfl
 | d,x::r=>by
  rw [List.map_cons];unfold wthL;rw [List.map_append,List.map_append,aEz (l:=r)];congr 2
  .grind
  .split<;>rfl
theorem wth_mem {α:Type} {key:α->Int} {s x:α}:∀ {d:Bool} {l:List α},x ∈ wthL key s d l->x=s\/x ∈ l
 | d,[],h=>by
  unfold wthL at h;cases d
  .simp_all
  .simp at h
 | d,y::r,h=>by
  unfold wthL at h;rcases List.mem_append.1 h with h | h
  .grind
  .rcases wth_mem h with h | h
   .exact .inl h
   .simp_all
theorem aAM {α:Type} {key:α->Int} {s:α}:∀ {d:Bool} {l:List α},(wthL key s d l).length<=l.length+if d then 0 else 1
 | d,[]=>by unfold wthL;cases d<;>simp
 | d,y::r=>by
  unfold wthL;have c:=aAM (key:=key) (s:=s) (d:=d || decide (key y>=key s)) (l:=r)
  rw [List.length_append,List.length_append,List.length_cons];cases d
  .grind
  .grind
set_option maxHeartbeats 1000000 in
theorem gP {Q:Sl->Sl->Int->AH->Prop} (h:Own (Fz B::R) A) (hm:SpsR B sp l) (V:qJ B x s) (hb:l.length<=100000)
  (hk:∀ t B' r,eU B B'->SpsR B' t (wthL (·.id) s false l)->Own (Fz B'::R) r->Q t bx keys r):qci_A sp bx keys x.id x.box x.rs x.ps Q A:=by
 obtain ⟨X,rfl,W,Y⟩:=hm;have hl:=cZ (f:=λx:Sx × Sm=>x.1.cells) sY (by decide) (k:=0) h rfl W.rd;rw [List.length_map] at hb;unfold qci_A;obtain ⟨key,j⟩:∃ key:Sx × Sm->Int,key=λx=>x.2.id:=⟨_,rfl⟩;have I:=aAM (key:=key) (s:=(x,s)) (d:=false) (l:=X);simp only [Bool.false_eq_true,if_false] at I;have J:key (x,s)=s.id:=by rw [j]
 refine aT (cs:=[]) h λb1 A1 h1=>?_;refine ⟨λo d z m r=>∃ (v:Nat) (out:List (Sx × Sm)),z=v/\m+v=X.length/\out++wthL key (x,s) d (X.drop v)=wthL key (x,s) false X/\o.a≠none/\Own (SlO o 4 (sxC out)::Fz B::R) r,⟨X.length,0,[],rfl,rfl,rfl,(λg=>nomatch g),h1.slo0⟩,?_⟩;intro o d z m A2 ⟨v,out,e1,e2,u,K,H⟩;subst e1;have hol:out.length<=200000:=by grind
 refine bsel_in (λc=>?_) λc=>?_
 .have c:(v:Int)<sp.len:=of_decide_eq_true c;obtain ⟨y,M⟩:∃ y,X[v]? = some y:=⟨X[v]'(by omega),by simp⟩;obtain ⟨a,q1,q2⟩:=aE1 (k:=1) H rfl W.rd M;have N:=Y y (List.mem_of_getElem? M);have C:key y=y.1.id:=by rw [j,N.id]
  rw [jR M,aCE] at u;refine ⟨λi d' r=>∃ e,e++wthL key (x,s) d' (X.drop (v+1))=wthL key (x,s) false X/\i.a≠none/\Own (SlO i 4 (sxC e)::Fz B::R) r,λi d' O ⟨e,D,E,S⟩=>⟨m-1,by omega,v+1,e,by rw [w64]<;>omega,by omega,D,E,S⟩,?_⟩;rw [q1];refine inB_in (by omega) c (q2 _ ?_);have F:key (x,s)=x.id:=by rw [J,V.id]
  refine ⟨λi d' r=>∃ e,e=out++(if d then [] else if key y>=key (x,s) then [(x,s)] else [])/\d'=(d || decide (key y>=key (x,s)))/\i.a≠none/\Own (SlO i 4 (sxC e)::Fz B::R) r,λi d' O ⟨e,D,E,S,f4⟩=>?_,?_⟩
  .subst E;have Z:e.length<=200001:=by grind
   refine bsel_in (λg=>?_) λg=>?_
   .have g:¬ key y=key (x,s):=by rw [C,F];simpa using g
    refine vY (y:=y.1) (s:=y.2) f4 (λw=>absurd w S) (by omega) λs' A4 n G=>⟨e++[y],?_,n,G⟩;rw [D,<- u,if_neg g];simp only [List.append_assoc]
   .grind
  .refine bsel_in (λg=>?_) λg=>?_
   .have g:d=false:=by simpa using g
    subst g;refine bsel_in (λw=>?_) λw=>?_
    .have w':key y>=key (x,s):=by rw [C,F];exact of_decide_eq_true w
     refine vY (y:=x) (s:=s) H (λw=>absurd w K) (by omega) λs' A4 n G=>⟨out++[(x,s)],?_,?_,n,G⟩
     .simp_all
     .simp_all
    .grind
   .simp_all
 .have c:¬(v:Int)<sp.len:=of_decide_eq_false c;rw [List.drop_eq_nil_of_le (by omega)] at u;refine ⟨λi r=>i.a≠none/\Own (SlO i 4 (sxC (wthL key (x,s) false X))::Fz B::R) r,λi O ⟨D,E⟩=>?_,?_⟩
  .obtain ⟨B',T,u2,u3⟩:=E.frzS λg=>absurd g D;refine hk i B' O T ⟨wthL key (x,s) false X,?_,u2,λw U=>?_⟩ u3
   .rw [j];exact aEz (key:=λs:Sm=>s.id) (f:=λw:Sx × Sm=>w.2)
   .rcases wth_mem U with rfl | U
    .exact V.mono T
    .exact (Y w U).mono T
  .refine bsel_in (λg=>?_) λg=>?_
   .have g:d=false:=by simpa using g
    subst g;refine vY (y:=x) (s:=s) H (λw=>absurd w K) (by omega) λs' A4 n G=>⟨n,?_⟩;rw [<-u];exact G
   .have g:d=true:=by simpa using g
    subst g;refine ⟨K,?_⟩;rw [<-u];simp only [wthL,if_true,List.append_nil];exact H
set_option maxHeartbeats 1000000 in
theorem l9 {n kk ln:Int} {Q:Int->Int->Sl->Sl->AH->Prop} (h:Own (Fz B::R) A) (G:qJ B x s) (hb:s.pgs.length<=100000)
  (H:∀ j B' i,eU B B'->qJ B' { x with ps:=j } { s with pgs:=wthL (·.num) ⟨n,kk,ln⟩ false s.pgs }->Own (Fz B'::R) i->Q x.id x.box x.rs j i):qfd_A x.id x.box x.rs x.ps n kk ln Q A:=by
 have hl:=cZ (f:=Pg.cells) nD (by decide) (k:=0) h rfl G.ps.rd;unfold qfd_A;have U:=G.ps.rd;have H:∀ j B' i,eU B B'->RdF B' j 3 (pgC (wthL (·.num) ⟨n,kk,ln⟩ false s.pgs))->Own (Fz B'::R) i->Q x.id x.box x.rs j i:=λj B' i T V W=>H j B' i T ⟨G.id,G.box,G.rs.mono T,V⟩ W;generalize s.pgs=X at *;obtain ⟨key,u⟩:∃ key:Pg->Int,key=λx=>x.num:=⟨_,rfl⟩;rw [<-u] at H;obtain ⟨w,Y⟩:∃ w:Pg,w=⟨n,kk,ln⟩:=⟨_,rfl⟩;rw [<-Y] at H;have Z:=aAM (key:=key) (s:=w) (d:=false) (l:=X);simp only [Bool.false_eq_true,if_false] at Z;have I:key w=n:=by rw [u,Y]
 refine aT (cs:=[]) h λb1 A1 h1=>?_;refine ⟨λo d z m i=>∃ (v:Nat) (out:List Pg),z=v/\m+v=X.length/\out++wthL key w d (X.drop v)=wthL key w false X/\o.a≠none/\Own (SlO o 3 (pgC out)::Fz B::R) i,⟨X.length,0,[],rfl,rfl,rfl,(λg=>nomatch g),h1.slo0⟩,?_⟩;intro o d z m A2 ⟨v,out,e1,e2,J,ho,F⟩;subst e1;have hol:out.length<=200000:=by grind
 have C:∀ {E:AH} {sl:Sl} {L:List Pg} {t t2:TypeId} {K:Sl->AP},Own (SlO sl 3 (pgC L)::Fz B::R) E->sl.a≠none->L.length<=1000000->(∀ s' i,s'.a≠none->Own (SlO s' 3 (pgC (L++[w]))::Fz B::R) i->K s' i)->
   aN E (.cells #[.int .i64 n,.int .i64 kk,.int .i64 ln] t) λb F=>dM 3 24 #[(.int .i64 (0:Int)),(.int .i64 (0:Int)),(.int .i64 (0:Int))] t2 sl (Sl.mk (some (Addr.mk b 0 none)) 1 1) F K:=λ{E sl L t t2 K} h3 hs3 hb3 hk3=>by
  have:=wD (g:=w) (t:=t) (t2:=t2) h3 (λw=>absurd w hs3) hb3 hk3;rw [Y] at this;exact this
 refine bsel_in (λc=>?_) λc=>?_
 .have c:(v:Int)<x.ps.len:=of_decide_eq_true c;obtain ⟨y,hy⟩:∃ y,X[v]? = some y:=⟨X[v]'(by omega),by simp⟩;obtain ⟨a,q1,q2⟩:=aAt (k:=1) F rfl U hy;have M:key y=y.num:=by rw [u]
  rw [jR hy,aCE] at J;refine ⟨λr d' i=>∃ e,e++wthL key w d' (X.drop (v+1))=wthL key w false X/\r.a≠none/\Own (SlO r 3 (pgC e)::Fz B::R) i,λr d' E ⟨e,N,O,f3⟩=>⟨m-1,by omega,v+1,e,by rw [w64]<;>omega,by omega,N,O,f3⟩,?_⟩;rw [q1];refine inB_in (by omega) c (q2 _ ?_);refine ⟨λr d' i=>∃ e,e=out++(if d then [] else if key y>=key w then [w] else [])/\d'=(d || decide (key y>=key w))/\r.a≠none/\Own (SlO r 3 (pgC e)::Fz B::R) i,λr d' E ⟨e,N,O,f3,f4⟩=>?_,?_⟩
  .subst O;have hol':e.length<=200001:=by grind
   refine bsel_in (λg=>?_) λg=>?_
   .have g:¬ key y=key w:=by rw [M,I];simpa using g
    refine wD f4 (λw=>absurd w f3) (by omega) λs' A4 D S=>⟨e++[y],?_,D,S⟩;rw [N,<- J,if_neg g];simp only [List.append_assoc]
   .grind
  .refine bsel_in (λg=>?_) λg=>?_
   .have g:d=false:=by simpa using g
    subst g;refine bsel_in (λw1=>?_) λw1=>?_
    .have w':key y>=key w:=by rw [M,I];exact of_decide_eq_true w1
     refine C F ho (by omega) λs' A4 D S=>⟨out++[w],?_,?_,D,S⟩
     .simp_all
     .simp_all
    .grind
   .simp_all
 .have c:¬(v:Int)<x.ps.len:=of_decide_eq_false c;rw [List.drop_eq_nil_of_le (by omega)] at J;refine ⟨λr i=>r.a≠none/\Own (SlO r 3 (pgC (wthL key w false X))::Fz B::R) i,λr E ⟨N,O⟩=>?_,?_⟩
  .obtain ⟨B',T,V,W⟩:=O.frzS λg=>absurd g N;exact H r B' E T V W
  .refine bsel_in (λg=>?_) λg=>?_
   .have g:d=false:=by simpa using g
    subst g;refine C F ho (by omega) λs' A4 D S=>⟨D,?_⟩;rw [<-J];exact S
   .have g:d=true:=by simpa using g
    subst g;refine ⟨ho,?_⟩;rw [<-J];simp only [wthL,if_true,List.append_nil];exact F
theorem mF {Q:Int->Int->Sl->Sl->AH->Prop} (h:Own (Fz B::R) A) (r:qJ B x s) (W:s.pgs.length<=100000)
  (D:∀ d B' i,eU B B'->qJ B' { x with ps:=d } { s with pgs:=s.pgs.filter λg=>!inZ p q g.num }->Own (Fz B'::R) i->Q x.id x.box x.rs d i):qdg_A x.id x.box x.rs x.ps p q Q A:=by
 have Y:=cZ (f:=Pg.cells) nD (by decide) (k:=0) h rfl r.ps.rd;unfold qdg_A;have E:=r.ps.rd;have D:∀ d B' i,eU B B'->RdF B' d 3 (pgC (s.pgs.filter λg=>!inZ p q g.num))->Own (Fz B'::R) i->Q x.id x.box x.rs d i:=λd B' i u F G=>D d B' i u ⟨r.id,r.box,r.rs.mono u,F⟩ G;generalize s.pgs=X at *;refine aT (cs:=[]) h λZ A1 M=>?_;refine ⟨λo z m i=>∃ v:Nat,z=v/\m+v=X.length/\o.a≠none/\Own (SlO o 3 (pgC ((X.take v).filter λg=>!inZ p q g.num))::Fz B::R) i,⟨X.length,0,rfl,rfl,(λg=>nomatch g),M.slo0⟩,?_⟩;intro o z m N ⟨v,e1,e2,C,n⟩;subst e1;refine bsel_in (λc=>?_) λc=>?_
 .have c:(v:Int)<x.ps.len:=of_decide_eq_true c;obtain ⟨y,J⟩:∃ y,X[v]? = some y:=⟨X[v]'(by omega),by simp⟩;obtain ⟨a,O,S⟩:=aAt (k:=1) n rfl E J;have T:((X.take v).filter λg=>!inZ p q g.num).length<=v:=Nat.le_trans (List.length_filter_le _ _) (by simp;omega);refine ⟨λH i=>H.a≠none/\Own (SlO H 3 (pgC ((X.take (v+1)).filter λg=>!inZ p q g.num))::Fz B::R) i,λH K ⟨U,V⟩=>⟨m-1,by omega,v+1,by rw [w64]<;>omega,by omega,U,V⟩,?_⟩;rw [O];refine inB_in (by omega) c (S _ ?_);rw [dX J,List.filter_append];have keep:inZ p q y.num=false->[y].filter (λg=>!inZ p q g.num)=[y]:=λe=>by rw [List.filter_cons_of_pos (by rw [e];rfl)];rfl
  refine bsel_in (λg=>?_) λg=>?_
  .have g:y.num<p:=of_decide_eq_true g;refine wD n (λw=>absurd w C) (by omega) λs' K j I=>⟨j,?_⟩;rw [keep (by unfold inZ;rw [decide_eq_false (by omega)];rfl)];exact I
  .have g:¬ y.num<p:=of_decide_eq_false g;refine bsel_in (λt=>?_) λt=>?_
   .have t:y.num>=q:=of_decide_eq_true t;refine wD n (λw=>absurd w C) (by omega) λs' K j I=>⟨j,?_⟩;rw [keep (by unfold inZ;rw [decide_eq_false (p:=y.num<q) (by omega),Bool.and_false])];exact I
   .have t:¬ y.num>=q:=of_decide_eq_false t;refine ⟨C,?_⟩;have:inZ p q y.num=true:=by unfold inZ;rw [decide_eq_true (by omega),decide_eq_true (by omega)];rfl
    rw [List.filter_cons_of_neg (by simp_all)];simpa using n
 .have c:¬(v:Int)<x.ps.len:=of_decide_eq_false c;rw [List.take_of_length_le (by omega)] at n;obtain ⟨B',u,F,G⟩:=n.frzS λg=>absurd g C;exact D o B' N u F G
end Go.Dn
