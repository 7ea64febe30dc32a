/- What the proof stands on. -/
import Derived.Test.YtfnkdpmbpgffbaaGreatBits
import Derived.Test.YtfnkdpmbpgffbaaGreatPages
import Derived.Test.YtfnkdpmbpgffbaaGreatChild
import Derived.Test.YtfnkdpmbpgffbaaGreatCut
import Derived.Test.YtfnkdpmbpgffbaaGreatStart
import Derived.Test.YtfnkdpmbpgffbaaGreatForT
namespace Go.Dn
open Go.MapKept
variable {A:AH} {l R:List SP} {P:SP} {i k k2 v b lm pp:Nat} {s:Sl} {L:List Reg} {y:Reg} {p q box root:Int} {lent:List (Int × Int)}
def regBusy (L:List Reg) (p q:Int):Bool:=L.any λr=>r.k==1&&(decide (r.a<q)&&decide (p<r.b))
def jJ (m:List (Int × Int)) (p q:Int):Bool:=m.any λx=>decide (x.1>=p)&&decide (x.1<q)
theorem y6 {Q:Bool->AH->Prop} (h:Own l A) (e:l[k]? = some P) (t:Reads P s 6 (regC L)) (u:l[k2]? = some (At b [.int .i64 p,.int .i64 q])) (M:L.length<=1000) (w:Q (regBusy L p q) A):qdp_A s (some ⟨b,0,none⟩) Q A:=by
 have N:=bF h e t;unfold qdp_A qdp_G qdo_A qdo_G;refine ⟨λx m E=>∃ v:Nat,x=v/\m+v=L.length/\E=A/\regBusy L p q=regBusy (L.drop v) p q,⟨L.length,0,rfl,rfl,rfl,by simp⟩,?_⟩;intro x m j ⟨v,F,O,G,B⟩;subst F G;refine bsel_in (λc=>?_) λc=>?_
 .have c:(v:Int)<s.len:=of_decide_eq_true c;obtain ⟨y,f⟩:∃ y,L[v]? = some y:=⟨L[v]'(by omega),by simp⟩;obtain ⟨a,H,I⟩:=dT h e t f;rw [H]
  have J:L.drop v=y::L.drop (v+1):=by
   have d:=(List.getElem?_eq_some_iff.1 f).1;rw [List.drop_eq_getElem_cons d];rw [List.getElem?_eq_getElem d] at f;rw [Option.some.inj f]
  have n:regBusy L p q=((y.k==1&&(decide (y.a<q)&&decide (p<y.b))) || regBusy (L.drop (v+1)) p q):=by rw [B,J];rfl
  refine inB_in (by omega) c (I _ ?_);unfold qdn_A
  have next:(y.k==1&&(decide (y.a<q)&&decide (p<y.b)))=false->∃ C,C<m/\∃ o:Nat,IntKind.wrap .i64 ((v:Int)+1)=o/\C+o=L.length/\j=j/\regBusy L p q=regBusy (L.drop o) p q:=λz=>
   ⟨m-1,by omega,v+1,by rw [w64]<;>omega,by omega,rfl,by rw [n,z];rfl⟩
  have r:(y.k==1&&(decide (y.a<q)&&decide (p<y.b)))=true->Q (decide ((v:Int)>=0)) j:=λz=>by simp_all
  refine bsel_in (λg=>bQ h u rfl (bsel_in (λD=>bQ h u rfl (bsel_in (λK=>r (by simp_all)) λK=>next (by simp_all))) λD=>bsel_f rfl (next (by rw [g,D];rfl)))) λg=>bsel_f rfl (next (by rw [g];rfl))
 .have c:¬(v:Int)<s.len:=of_decide_eq_false c;have:regBusy L p q=false:=by rw [B,List.drop_eq_nil_of_le (by omega)];rfl
  rw [this] at w;exact w
theorem iE {α β:Type} {f:α->β}:∀ {l:List α},(l.map f).Nodup->∀ {a b:α},a ∈ l->b ∈ l->f a=f b->a=b
 | [],_,_,_,h,_,_=>by cases h
 | x::l,h,a,b,d,c,e=>by
  rw [List.map_cons,List.nodup_cons] at h;cases d with
  | head=>
   cases c with
   | head=>rfl
   | tail _ hb'=>exact (h.1 (List.mem_map.2 ⟨b,hb',e.symm⟩)).elim
  | tail _ ha'=>
   cases c with
   | head=>exact (h.1 (List.mem_map.2 ⟨a,ha',e⟩)).elim
   | tail _ hb'=>exact iE h.2 ha' hb' e
theorem aAF {α:Type} {p q:α->Bool}:∀ {l:List α},(∀ x ∈ l,q x=true->p x=true)->(∃ x ∈ l,p x=true/\q x=false)->(l.filter q).length<(l.filter p).length
 | [],_,h=>by obtain ⟨x,d,_⟩:=h;cases d
 | x::l,h1,h2=>by
  have le:∀ l:List α,(∀ x ∈ l,q x=true->p x=true)->(l.filter q).length<=(l.filter p).length:=λl=>by
   induction l with
   | nil=>intro _;simp
   | cons z l f=>
    intro c;have:=f λx d=>c x (by simp [d]);cases a:q z with
    | true=>rw [List.filter_cons_of_pos a,List.filter_cons_of_pos (c z (by simp) a)];simpa using this
    | false=>
     rw [List.filter_cons_of_neg (by simp [a])];cases e:p z with
     | true=>rw [List.filter_cons_of_pos e,List.length_cons];omega
     | false=>rw [List.filter_cons_of_neg (by simp [e])];exact this
  obtain ⟨z,c,g,j⟩:=h2;rcases List.mem_cons.1 c with rfl | c
  .grind
  .have f:=aAF (λx d=>h1 x (by simp [d])) ⟨z,c,g,j⟩;cases a:q x with
   | true=>rw [List.filter_cons_of_pos a,List.filter_cons_of_pos (h1 x (by simp) a)];simpa using f
   | false=>
    rw [List.filter_cons_of_neg (by simp [a])];cases e:p x with
    | true=>rw [List.filter_cons_of_pos e,List.length_cons];omega
    | false=>rw [List.filter_cons_of_neg (by simp [e])];exact f
def ExM (lm:Nat) (es:Array MapEntry) (c:Nat) (m:List (Int × Value)):SP:=λB=>B lm=some (.map es c)/\aJc .i64 es m/\Stamped es c
def ItM (it lm:Nat) (c:Nat) (seen:Array Nat):SP:=λB=>B it=some (.mapIter (some lm) c seen c)
theorem aFH {Q:Bool->AH->Prop} (h:Own (mY pp lm box root s L lent++R) A) (hb:L.length<=1000)
  (hk:∀ r,Own (mY pp lm box root s L lent++R) r->Q (jJ lent p q || regBusy L p q) r):qdq_A (some ⟨pp,0,none⟩) p q Q A:=by
 have F:Own (MapI lm .i64 (ivs lent)::At pp [.int .i64 box,.int .i64 root,.slice s.a s.len s.cap,.map (some lm)]::SlO s 6 (regC L)::R) A:=h.pick 2 rfl;obtain ⟨d,F⟩:=Own.ex F;obtain ⟨c,F⟩:=Own.ex F;have F:Own (ExM lm d c (ivs lent)::At pp [.int .i64 box,.int .i64 root,.slice s.a s.len s.cap,.map (some lm)]::SlO s 6 (regC L)::R) A:=F
 have bk:∀ r,Own (ExM lm d c (ivs lent)::At pp [.int .i64 box,.int .i64 root,.slice s.a s.len s.cap,.map (some lm)]::SlO s 6 (regC L)::R) r->Own (mY pp lm box root s L lent++R) r:=λr h'=>by
  have h':Own (MapI lm .i64 (ivs lent)::At pp [.int .i64 box,.int .i64 root,.slice s.a s.len s.cap,.map (some lm)]::SlO s 6 (regC L)::R) r:=h'.imp λB T=>⟨d,c,T⟩;exact h'.swap.cons λC hC=>hC.swap
 obtain ⟨B0,u0,hm0,U,u⟩:=F.sat;unfold qdq_A qdq_G;refine aT (cs:=[.int .i64 p,.int .i64 q]) F λb A1 h1=>?_;refine fC (i:=2) h1 rfl rfl ?_;obtain ⟨B1,u1,hm1,_⟩:=h1.tail.sat;refine ⟨d,c,u1 _ _ hm1,λH hit=>?_⟩;have h2:Own (ItM H lm c #[]::At b [.int .i64 p,.int .i64 q]::ExM lm d c (ivs lent)::At pp [.int .i64 box,.int .i64 root,.slice s.a s.len s.cap,.map (some lm)]::SlO s 6 (regC L)::R) _:=h1.new (o:=.mapIter (some lm) c #[] c) hit λB T=>T
 have V:∀ x ∈ d.toList,∃ n w,x.key = .int .i64 n/\(n,w) ∈ lent:=λx j=>by
  have:(x.key,x.val) ∈ (ivs lent).map λt=>((.int .i64 t.1:Value),t.2):=by rw [<-show d.toList.map (λe=>(e.key,e.val))=_ from U];exact List.mem_map.2 ⟨x,j,rfl⟩
  obtain ⟨t,ht,N⟩:=List.mem_map.1 this;obtain ⟨z,W,rfl⟩:=List.mem_map.1 ht;simp only [Prod.mk.injEq] at N;exact ⟨z.1,z.2,N.1.symm,W⟩
 have I:∀ z ∈ lent,∃ x ∈ d.toList,x.key = .int .i64 z.1:=λz W=>by
  have:((.int .i64 z.1:Value),(.int .i64 z.2:Value)) ∈ d.toList.map λe=>(e.key,e.val):=by
   rw [show d.toList.map (λe=>(e.key,e.val))=_ from U];exact List.mem_map.2 ⟨(z.1,.int .i64 z.2),List.mem_map.2 ⟨z,W,rfl⟩,rfl⟩
  obtain ⟨x,j,N⟩:=List.mem_map.1 this;simp only [Prod.mk.injEq] at N;exact ⟨x,j,N.1⟩
 refine ⟨λmm r=>∃ a:Array Nat,(∀ x ∈ d.toList,a.contains x.born=true->∀ n,x.key = .int .i64 n->(decide (n>=p)&&decide (n<q))=false)/\mm=(d.toList.filter λx=>!a.contains x.born).length/\
   Own (ItM H lm c a::At b [.int .i64 p,.int .i64 q]::ExM lm d c (ivs lent)::At pp [.int .i64 box,.int .i64 root,.slice s.a s.len s.cap,.map (some lm)]::SlO s 6 (regC L)::R) r,⟨_,#[],λx _ j=>by simp at j,rfl,h2⟩,?_⟩
 intro mm O ⟨a,J,hmm,S⟩;obtain ⟨B2,u2,hB2⟩:=S.sat;obtain ⟨B3,u3,hB3,_⟩:=S.tail.tail.sat;have hA2:O H=some (.mapIter (some lm) c a c):=u2 _ _ hB2;have hA3:O lm=some (.map d c):=u3 _ _ hB3
 have X:(!a.isEmpty&&!d.isEmpty&&d.all (λx=>decide (x.born>=c)))=false:=by
  cases N:d.isEmpty with
  | true=>simp
  | false=>
   have:d.all (λx=>decide (x.born>=c))=false:=by
    rw [Array.all_eq_false];have Y:0<d.size:=by grind
    refine ⟨0,Y,?_⟩;have:=u.1 d[0] (by simp);simpa using this
   rw [this];simp
 refine ⟨some lm,c,a,c,rfl,hA2,d,c,hA3,X,λG=>?_,λx j hns=>?_⟩
 .have Z:∀ x ∈ d.toList,a.contains x.born=true:=λx j=>by
   cases hc:a.contains x.born with
   | true=>rfl
   | false=>
    have h5:x ∈ (d.filter λe=>!a.contains e.born).filter λe=>decide (e.born<c):=by
     rw [Array.mem_filter,Array.mem_filter];exact ⟨⟨by simpa using j,by rw [hc];rfl⟩,by simpa using u.1 x j⟩
    rw [Array.isEmpty_iff] at G;rw [G] at h5;simp at h5
  have K:jJ lent p q=false:=by
   unfold jJ;rw [List.any_eq_false];intro z W;obtain ⟨x,j,m⟩:=I z W;rw [J x j (Z x j) z.1 m];simp
  refine ld_S (i:=3) S rfl rfl ?_;refine y6 (k:=4) (k2:=1) S rfl aR rfl hb ?_;have:=hk O (bk O S.tail.tail);rw [K,Bool.false_or] at this;exact this
 .have D:x ∈ d.toList:=by simpa using j
  obtain ⟨n,w,m,hxm⟩:=V x D;refine ⟨n,m,?_⟩
  have h4:Own (ItM H lm c (a.push x.born)::At b [.int .i64 p,.int .i64 q]::ExM lm d c (ivs lent)::At pp [.int .i64 box,.int .i64 root,.slice s.a s.len s.cap,.map (some lm)]::SlO s 6 (regC L)::R) (updA O H (.mapIter (some lm) c (a.push x.born) c)):=
   S.upd0 (λB T=>T) λB _=>fG
  obtain ⟨B4,u4,hB4,_⟩:=h4.tail.tail.sat
  have M:d.find? (λe=>e.born==x.born)=some x:=by
   cases hf:d.find? (λe=>e.born==x.born) with
   | none=>
    rw [Array.find?_eq_none] at hf;exact absurd (hf x j) (by simp)
   | some z=>
    have h6:=Array.find?_some hf;have h7:=Array.mem_of_find?_eq_some hf;have:z=x:=iE u.2.1 (by simp_all) D (by simp_all);rw [this]
  refine ⟨lm,c,a.push x.born,c,x.born,d,c,x,n,rfl,fG,by simp,u4 _ _ hB4,rfl,M,m,?_⟩;refine bQ (i:=1) h4 rfl rfl ?_
  have next:(decide (n>=p)&&decide (n<q))=false->∃ m9,m9<mm/\∃ f:Array Nat,(∀ x ∈ d.toList,f.contains x.born=true->∀ n,x.key = .int .i64 n->(decide (n>=p)&&decide (n<q))=false)/\m9=(d.toList.filter λx=>!f.contains x.born).length/\
    Own (ItM H lm c f::At b [.int .i64 p,.int .i64 q]::ExM lm d c (ivs lent)::At pp [.int .i64 box,.int .i64 root,.slice s.a s.len s.cap,.map (some lm)]::SlO s 6 (regC L)::R) (updA O H (.mapIter (some lm) c (a.push x.born) c)):=λz=>by
   refine ⟨_,?_,a.push x.born,λy hy E n' hn'=>?_,rfl,h4⟩
   .rw [hmm];refine aAF (λy _ hy=>?_) ⟨x,D,by rw [hns];rfl,by simp⟩;simp only [Array.contains_push,Bool.not_or,Bool.and_eq_true] at hy;exact hy.1
   .rw [Array.contains_push,Bool.or_eq_true] at E;rcases E with E | E
    .grind
    .have:y=x:=iE u.2.1 hy D (by simp_all);subst this;rw [m] at hn';cases hn';exact z
  refine bsel_in (λg=>bQ (i:=1) h4 rfl rfl (bsel_in (λg2=>?_) λg2=>next (by simp_all))) λg=>next (by rw [g];rfl)
  have K:jJ lent p q=true:=by
   unfold jJ;rw [List.any_eq_true];exact ⟨(n,w),hxm,by simp only;rw [g,g2];rfl⟩
  have:=hk _ (bk _ h4.tail.tail);rw [K,Bool.true_or] at this;exact this
end Go.Dn
namespace Go.Dn
structure Mc where
 N:Int
 r:Nat
 b:Nat
 t:Nat
 m:Nat
 tl:Nat
 tg:Nat
 sp:Nat
 kern:Int
 mid:Int
structure Sg where
 F:Int->Prop
 G:Int->Prop
 W:Int->Int->Int
 n:Int
 ns:List Nd
 ls:List Ln
 z:PcZ
 sps:List (Int × Value)
structure Cs where
 p:Nat
 root:Int
 s:Sl
 lent:List (Int × Int)
 tab:Tab
 tl:List Int
abbrev Sc:=Sm × Cs
def mcC (c:Mc):List Value:=[.pointer (some ⟨c.r,0,none⟩),.pointer (some ⟨c.b,0,none⟩),.pointer (some ⟨c.t,0,none⟩),.pointer (some ⟨c.tl,0,none⟩),.pointer (some ⟨c.tg,0,none⟩),.int .i64 c.kern,.map (some c.sp)]
def macG (c:Mc) (g:Sg) (R:List SP):List SP:=RamW c.r c.N [] g.W::Bud c.b g.F g.G g.n::TreeS c.t g.ns::At c.m (mcC c)::MapI c.sp .i64 g.sps::TlbS c.tl g.ls::PcS c.tg g.z::R
def ownC (a:Sc):SP:=OneS a.2.p a.1.box a.2.root a.2.s a.1.regs a.2.lent
def lfS (φ:Int->Int) (s:Sm):Int->Option Lf:=λq=>match pgAt s q,lookR s.regs q with
 | some g,some a=>some ⟨φ g.key,a.1,a.2.1,a.2.2.1⟩
 | _,_=>none
def lfL (φ:Int->Int) (l:List Sm) (id:Int):Int->Option Lf:=match l.find? (λs=>s.id==id) with
 | some s=>lfS φ s
 | none=>λ_=>none
def frC (φ:Int->Int) (a:Sc):List Int:=a.2.tl++(ownP a.1).map λg=>φ g.key
def frs (c:Mc) (φ:Int->Int) (L:List Sc):List Int:=c.kern::c.mid::L.flatMap (frC φ)
structure RtOK (c:Mc) (W:Int->Int->Int) (root:Int):Prop where
 k:∃ a d,W root 256=packZ true true false a d false false false c.kern
 z:∀ j,256<j->j<512->W root j=0
structure SpOK (c:Mc) (g:Sg) (φ:Int->Int) (a:Sc):Prop where
 rest:Rest g.G g.W a.2.root a.2.tab (lfS φ a.1) a.2.tl
 rt:RtOK c g.W a.2.root
 lnd:(a.2.lent.map (·.1)).Nodup
 lent:∀ q,a.2.lent.lookup q=(pgAt a.1 q).bind λg=>if g.lent=0 then none else some g.lent
 sl:a.2.s.a=none->a.1.regs=[]
def entC (L:List Sc):List (Int × Value):=L.map λa=>(a.1.id,ptrV a.2.p)
structure aZ (c:Mc) (g:Sg) (L:List Sc) (M:Mm) (φ:Int->Int):Prop where
 inv:InvL M
 abs:L.map (·.1)=M.sps
 ns:g.ns=M.ns
 n:g.n=sumZ rmN M.ns
 sps:g.sps.Perm (entC L)
 nd:(frs c φ L).Nodup
 G:∀ f,g.G f↔f ∈ frs c φ L
 rng:∀ f,g.F f\/g.G f↔1<=f/\f<c.N
 one:∀ a ∈ L,SpOK c g φ a
 wd:∀ k ∈ ownK M.sps,∀ i,g.W (φ k) i=M.wd k i
 kw:∀ q:Nat,q<512->g.W c.kern q=if q=0 then kEnt c.mid else 0
 pc:PcOK g.z
 ln:LnOK (vw g.z (lfL φ M.sps)) g.ls
 N:4<=c.N/\c.N<=262144
def MacS (c:Mc) (M:Mm) (φ:Int->Int):SP:=λB=>∃ g L,aZ c g L M φ/\Own (macG c g (L.map ownC)) B
variable {A:AH} {l R R':List SP} {c:Mc} {g:Sg} {L pre post:List Sc} {M:Mm} {φ:Int->Int} {a:Sc} {s:Sm}
theorem MacS.openH (h:Own (MacS c M φ::R) A):∃ g L,aZ c g L M φ/\Own (macG c g (L.map ownC++R)) A:=by
 obtain ⟨g,h⟩:=Own.ex h;obtain ⟨L,h⟩:=Own.ex h;obtain ⟨b,h⟩:=Own.pure h;exact ⟨g,L,b,by have:=h.flat;exact this⟩
theorem MacS.closeH (b:aZ c g L M φ) (h:Own (macG c g (L.map ownC++R)) A):Own (MacS c M φ::R) A:=by
 have h:Own (macG c g (L.map ownC)++R) A:=h;exact h.app.imp λ_ d=>⟨g,L,b,d⟩
theorem macG.mapR (f:∀ C,Own R C->Own R' C) (h:Own (macG c g R) A):Own (macG c g R') A:=
 h.cons λ_ h=>h.cons λ_ h=>h.cons λ_ h=>h.cons λ_ h=>h.cons λ_ h=>h.cons λ_ h=>h.cons f
theorem macG.focus (h:Own (macG c g ((pre++a::post).map ownC++R)) A):Own (macG c g (ownC a::((pre++post).map ownC++R))) A:=by
 refine macG.mapR (λC b=>b.perm ?_) h;rw [List.map_append,List.map_cons,List.map_append,List.append_assoc,List.append_assoc,List.cons_append];exact List.perm_middle
theorem macG.unfocus (h:Own (macG c g (ownC a::((pre++post).map ownC++R))) A):Own (macG c g ((pre++a::post).map ownC++R)) A:=by
 refine macG.mapR (λC b=>b.perm (List.Perm.symm ?_)) h;rw [List.map_append,List.map_cons,List.map_append,List.append_assoc,List.append_assoc,List.cons_append];exact List.perm_middle
theorem macG.pick (i:Nat) {P:SP} (e:(macG c g R)[i]? = some P) (h:Own (macG c g R) A):Own (P::(macG c g R).eraseIdx i) A:=Own.pick i e h
theorem macG.tlb (h:Own (macG c g R) A):Own (TlbS c.tl g.ls::(macG c g R).eraseIdx 5) A:=Own.pick 5 rfl h
theorem macG.tlbB {b:List Ln} (h:Own (TlbS c.tl b::(macG c g R).eraseIdx 5) A):Own (macG c { g with ls:=b } R) A:=
 Own.back (l:=macG c g R) (P:=TlbS c.tl g.ls) (P':=TlbS c.tl b) 5 rfl h
theorem macG.tags (h:Own (macG c g R) A):Own (PcS c.tg g.z::(macG c g R).eraseIdx 6) A:=Own.pick 6 rfl h
theorem macG.tree (h:Own (macG c g R) A):Own (TreeS c.t g.ns::(macG c g R).eraseIdx 2) A:=Own.pick 2 rfl h
theorem macG.treeB {b:List Nd} (h:Own (TreeS c.t b::(macG c g R).eraseIdx 2) A):Own (macG c { g with ns:=b } R) A:=
 Own.back (l:=macG c g R) (P:=TreeS c.t g.ns) (P':=TreeS c.t b) 2 rfl h
theorem macG.backX {X:SP} (h:Own (X::macG c g R) A):Own (macG c g (X::R)) A:=
 Own.back (l:=macG c g (X::R)) (P:=X) (P':=X) 7 rfl h
theorem macG.frontX {X:SP} (h:Own (macG c g (X::R)) A):Own (X::macG c g R) A:=Own.pick 7 rfl h
theorem prs {k:Nat} {box:Int} {Q:Option Addr->Option Addr->Option Addr->Int->AH->Prop} (h:Own l A) (e:l[k]? = some (At c.m (mcC c))) (b:Q (some ⟨c.r,0,none⟩) (some ⟨c.b,0,none⟩) (some ⟨c.t,0,none⟩) box A) :
  qat_A (some ⟨c.m,0,none⟩) box Q A:=by
 unfold qat_A;simp only [aJ,add_at,Nat.zero_add];exact mE h e rfl (mE h e rfl (mE h e rfl b))
theorem macG.openOne (h:Own (macG c g (ownC a::R)) A):∃ lm,Own (macG c g (mY a.2.p lm a.1.box a.2.root a.2.s a.1.regs a.2.lent++R)) A:=by
 obtain ⟨lm,h⟩:=OneS.openH (macG.frontX h);refine ⟨lm,?_⟩;have b:=h.perm (l':=macG c g []++(mY a.2.p lm a.1.box a.2.root a.2.s a.1.regs a.2.lent++R)) ?_
 .exact b
 .rw [<-List.append_assoc];exact (List.perm_append_comm.append_right R).symm.trans (by rw [List.append_assoc];exact List.Perm.append_left _ (by exact List.Perm.refl (macG c g []++R))) |>.symm
theorem macG.closeOne {lm:Nat} (h:Own (macG c g (mY a.2.p lm a.1.box a.2.root a.2.s a.1.regs a.2.lent++R)) A):Own (macG c g (ownC a::R)) A:=macG.mapR (λ_ b=>OneS.closeH b) h
end Go.Dn
namespace Go.Dn
variable {l:List SP} {c:Mc} {g g':Sg} {L pre post:List Sc} {M M':Mm} {φ φ':Int->Int} {a a':Sc} {s:Sm} {nw gn:List Int}
theorem aBa:(frs c φ (pre++a::post)).Perm (frC φ a++frs c φ (pre++post)):=by
 unfold frs;have h:((pre++a::post).flatMap (frC φ)).Perm (frC φ a++(pre++post).flatMap (frC φ)):=by grind
 refine ((h.cons c.mid).cons c.kern).trans ?_;refine List.Perm.trans ?_ List.perm_middle.symm;exact List.Perm.cons _ List.perm_middle.symm
theorem aFY (h:∀ q ∈ a.1.pgs,φ' q.key=φ q.key):frC φ' a=frC φ a:=by
 unfold frC;congr 1;exact List.map_congr_left λq b=>h q (cJ.1 b).1
theorem aGj (h:∀ b ∈ L,∀ q ∈ b.1.pgs,φ' q.key=φ q.key):frs c φ' L=frs c φ L:=by
 unfold frs;congr 2
 induction L with
 | nil=>rfl
 | cons x r ih=>
  rw [List.flatMap_cons,List.flatMap_cons,aFY (h x (by simp)),ih λb d=>h b (by simp [d])]
theorem zL {s:Sm} (h:∀ q ∈ s.pgs,φ' q.key=φ q.key):lfS φ' s=lfS φ s:=by
 funext q;unfold lfS;cases e:pgAt s q with
 | none=>rfl
 | some x=>
  cases lookR s.regs q with
  | none=>rfl
  | some y=>simp only;rw [h x (aL e).1]
theorem cmid_iff {b:Sc}:b ∈ pre++a::post↔b=a\/b ∈ pre++post:=by grind
theorem aIn (b:a'.1.id=a.1.id) (d:a'.2.p=a.2.p):entC (pre++a'::post)=entC (pre++a::post):=by simp [entC,b,d]
theorem aZ.oth (h:aZ c g (pre++a::post) M φ):(frC φ a).Nodup/\(frs c φ (pre++post)).Nodup/\(∀ f ∈ frC φ a,f ∉ frs c φ (pre++post))/\∀ f,g.G f↔f ∈ frC φ a\/f ∈ frs c φ (pre++post):=by
 have d:=aBa (c:=c) (φ:=φ) (pre:=pre) (post:=post) (a:=a);have:=d.nodup_iff.1 h.nd;rw [List.nodup_append] at this;refine ⟨this.1,this.2.1,λf e b=>this.2.2 f e f b rfl,λf=>?_⟩;rw [h.G,d.mem_iff,List.mem_append]
theorem SpOK.keep (h:SpOK c g φ a) (d:∀ f ∈ a.2.tl,g'.W f=g.W f) (e:∀ f ∈ a.2.tl,g'.G f) (hφ:∀ q ∈ a.1.pgs,φ' q.key=φ q.key):SpOK c g' φ' a:=by
 have b:a.2.root ∈ a.2.tl:=(h.rest.mem _).2 ⟨0,0,(h.rest.T.root 0 _).2 ⟨rfl,rfl⟩⟩;refine ⟨?_,⟨?_,λj=>?_⟩,h.lnd,h.lent,h.sl⟩
 .rw [zL hφ];exact h.rest.keep d e
 .rw [d _ b];exact h.rt.k
 .rw [d _ b];exact h.rt.z j
theorem aZ.upd (h:aZ c g (pre++a::post) M φ) (hid:a'.1.id=a.1.id) (hp:a'.2.p=a.2.p) (hM:M'.sps=(pre++a'::post).map (·.1)) (hinv:InvL M')
  (hsp:g'.sps=g.sps) (hns:g'.ns=M'.ns) (hn:g'.n=sumZ rmN M'.ns) (hpc:PcOK g'.z) (hx:(frC φ' a').Nodup) (hdis:∀ f ∈ frC φ' a',f ∉ frs c φ (pre++post)) (hG:∀ f,g'.G f↔f ∈ frC φ' a'\/f ∈ frs c φ (pre++post))
  (hrng:∀ f,g'.F f\/g'.G f↔1<=f/\f<c.N) (hone:SpOK c g' φ' a') (hφ:∀ b ∈ pre++post,∀ q ∈ b.1.pgs,φ' q.key=φ q.key) (hW:∀ f,f=c.kern\/(∃ b ∈ pre++post,f ∈ b.2.tl)->g'.W f=g.W f)
  (hwd:∀ k ∈ ownK M'.sps,∀ i,g'.W (φ' k) i=M'.wd k i) (hln:LnOK (vw g'.z (lfL φ' M'.sps)) g'.ls):aZ c g' (pre++a'::post) M' φ':=by
 have hp1:=aBa (c:=c) (φ:=φ') (pre:=pre) (post:=post) (a:=a');rw [aGj (L:=pre++post) hφ] at hp1
 have hin:∀ b ∈ pre++post,∀ f ∈ b.2.tl,f ∈ frs c φ (pre++post):=λb hb f hf=>by
  unfold frs;exact List.mem_cons_of_mem _ (List.mem_cons_of_mem _ (List.mem_flatMap.2 ⟨b,hb,List.mem_append_left _ hf⟩))
 refine ⟨hinv,hM.symm,hns,hn,by rw [hsp,aIn hid hp];exact h.sps,hp1.nodup_iff.2 (List.nodup_append.2 ⟨hx,h.oth.2.1,λf hf f2 hf2 e=>hdis f hf (by simp_all)⟩),λf=>by rw [hG,hp1.mem_iff,List.mem_append],hrng,λb hb=>?_,hwd,λq hq=>?_,hpc,hln,h.N⟩
 ·rcases cmid_iff.1 hb with rfl | hb
  ·exact hone
  ·exact (h.one b (cmid_iff.2 (.inr hb))).keep (λf hf=>hW f (.inr ⟨b,hb,hf⟩)) (λf hf=>(hG f).2 (.inr (hin b hb f hf))) (hφ b hb)
 ·rw [hW _ (.inl rfl)];exact h.kw q hq
theorem aZ.grow (h:aZ c g (pre++a::post) M φ) (o:∀ x,g.F x->¬ g.G x) (p:a'.1.id=a.1.id) (I:a'.2.p=a.2.p) (J:M'.sps=(pre++a'::post).map (·.1)) (j:InvL M')
  (r:g'.sps=g.sps) (t:g'.ns=M'.ns) (K:g'.n=sumZ rmN M'.ns) (u:PcOK g'.z) (v:(frC φ' a').Perm (frC φ a++nw)) (w:nw.Nodup) (z:∀ x ∈ nw,g.F x) (A:∀ x,g'.F x↔g.F x/\x ∉ nw) (B:∀ x,g'.G x↔g.G x\/x ∈ nw)
  (m:SpOK c g' φ' a') (hφ:∀ b ∈ pre++post,∀ q ∈ b.1.pgs,φ' q.key=φ q.key) (N:∀ f,g.G f->f ∉ a.2.tl->g'.W f=g.W f)
  (C:∀ k ∈ ownK M'.sps,∀ i,g'.W (φ' k) i=M'.wd k i) (D:LnOK (vw g'.z (lfL φ' M'.sps)) g'.ls):aZ c g' (pre++a'::post) M' φ':=by
 obtain ⟨O,R,P,E⟩:=h.oth;have F:∀ x ∈ nw,¬ g.G x:=λx H=>o x (z x H);refine h.upd p I J j r t K u (v.nodup_iff.2 (List.nodup_append.2 ⟨O,w,λx H y Q e=>F y Q ((E y).2 (.inl (by simp_all)))⟩)) (λf d n=>?_) (λf=>?_) (λf=>?_) m hφ (λf d=>N f ?_ ?_) C D
 .grind
 .grind
 .rw [A,B,<- h.rng f];constructor
  .grind
  .grind
 .rcases d with rfl | ⟨b,G,d⟩
  .exact (E _).2 (.inr (by unfold frs;simp))
  .exact (E _).2 (.inr (by unfold frs;exact List.mem_cons_of_mem _ (List.mem_cons_of_mem _ (List.mem_flatMap.2 ⟨b,G,List.mem_append_left _ d⟩))))
 .intro n;refine P f (List.mem_append_left _ n) ?_;rcases d with rfl | ⟨b,G,d⟩
  .unfold frs;simp
  .unfold frs;exact List.mem_cons_of_mem _ (List.mem_cons_of_mem _ (List.mem_flatMap.2 ⟨b,G,List.mem_append_left _ d⟩))
theorem aZ.less (h:aZ c g (pre++a::post) M φ) (n:a'.1.id=a.1.id) (C:a'.2.p=a.2.p) (D:M'.sps=(pre++a'::post).map (·.1)) (e:InvL M')
  (o:g'.sps=g.sps) (p:g'.ns=M'.ns) (E:g'.n=sumZ rmN M'.ns) (q:PcOK g'.z) (j:(frC φ a).Perm (frC φ a'++gn)) (r:∀ x,g'.F x↔g.F x\/x ∈ gn) (t:∀ x,g'.G x↔g.G x/\x ∉ gn)
  (m:SpOK c g' φ a') (F:∀ f,g.G f->f ∉ a.2.tl->g'.W f=g.W f)
  (u:∀ k ∈ ownK M'.sps,∀ i,g'.W (φ k) i=M'.wd k i) (v:LnOK (vw g'.z (lfL φ M'.sps)) g'.ls):aZ c g' (pre++a'::post) M' φ:=by
 obtain ⟨G,H,A,B⟩:=h.oth;have w:=List.nodup_append.1 (j.nodup_iff.1 G);refine h.upd n C D e o p E q w.1 (λf d=>A f (j.mem_iff.2 (List.mem_append_left _ d))) (λf=>?_) (λf=>?_) m (λ_ _ _ _=>rfl) (λf d=>F f ?_ ?_) u v
 .grind
 .rw [r,t,<- h.rng f];constructor
  .grind
  .grind
 .rcases d with rfl | ⟨b,y,d⟩
  .exact (B _).2 (.inr (by unfold frs;simp))
  .exact (B _).2 (.inr (by unfold frs;exact List.mem_cons_of_mem _ (List.mem_cons_of_mem _ (List.mem_flatMap.2 ⟨b,y,List.mem_append_left _ d⟩))))
 .intro z;refine A f (List.mem_append_left _ z) ?_;rcases d with rfl | ⟨b,y,d⟩
  .unfold frs;simp
  .unfold frs;exact List.mem_cons_of_mem _ (List.mem_cons_of_mem _ (List.mem_flatMap.2 ⟨b,y,List.mem_append_left _ d⟩))
theorem aZ.nodupI (h:aZ c g L M φ):(M.sps.map (·.id)).Nodup:=iG h.inv.srt
theorem aZ.look (h:aZ c g L M φ) (id:Int):g.sps.lookup id=(L.find? (λa=>a.1.id==id)).map λa=>ptrV a.2.p:=by
 have b:((entC L).map (·.1)).Nodup:=by
  have e:(entC L).map (·.1)=M.sps.map (·.id):=by rw [<-h.abs];simp [entC]
  rw [e];exact h.nodupI
 have d:(g.sps.map (·.1)).Nodup:=(h.sps.map (·.1)).nodup_iff.2 b
 have lk:∀ {f l2:List (Int × Value)},f.Perm l2->(f.map (·.1)).Nodup->∀ k,f.lookup k=l2.lookup k:=λ{f l2} o=>by
  induction o with
  | nil=>intro _ k;rfl
  | cons x _ ih=>
   intro b k;rw [List.map_cons,List.nodup_cons] at b;obtain ⟨i,p⟩:=x;rw [List.lookup_cons,List.lookup_cons,ih b.2 k]
  | swap x y l=>
   intro b k;obtain ⟨i,p⟩:=x;obtain ⟨m,t⟩:=y;simp only [List.map_cons,List.nodup_cons,List.mem_cons,not_or] at b;rw [List.lookup_cons,List.lookup_cons,List.lookup_cons,List.lookup_cons];cases e1:(k==m) with
   | false=>rfl
   | true=>
    cases q:(k==i) with
    | false=>rfl
    | true=>
     have j:k=m:=by simpa using e1
     have n:k=i:=by simpa using q
     exact absurd (j.symm.trans n) b.1.1
  | trans j n i1 i2=>
   intro b k;rw [i1 b k,i2 ((j.map _).nodup_iff.1 b) k]
 rw [lk h.sps d];clear lk b d h
 induction L with
 | nil=>rfl
 | cons x r ih=>
  unfold entC at ih ⊢;rw [List.map_cons,List.lookup_cons,List.find?_cons,ih];have:(id==x.1.id)=(x.1.id==id):=by grind
  rw [this];cases (x.1.id==id)<;>rfl
theorem aZ.has (h:aZ c g L M φ) {id:Int} {s:Sm} (hs:findS M id=some s):∃ a pre post,a.1=s/\s.id=id/\L=pre++a::post/\g.sps.lookup id=some (ptrV a.2.p):=by
 have e:findS M id=(L.find? (λa=>a.1.id==id)).map (·.1):=by
  unfold findS;rw [<-h.abs,List.find?_map];rfl
 rw [e] at hs;obtain ⟨a,b,rfl⟩:=Option.map_eq_some_iff.1 hs;obtain ⟨pre,post,d⟩:=List.append_of_mem (List.mem_of_find?_eq_some b);exact ⟨a,pre,post,rfl,by simpa using List.find?_some b,d,by rw [h.look,b];rfl⟩
theorem aZ.hno (h:aZ c g L M φ) {id:Int} (hs:findS M id=none):g.sps.lookup id=none:=by
 have e:findS M id=(L.find? (λa=>a.1.id==id)).map (·.1):=by
  unfold findS;rw [<-h.abs,List.find?_map];rfl
 rw [e] at hs;rw [h.look,Option.map_eq_none_iff.1 hs];rfl
theorem eV (h:((pre++a::post).map λx=>x.1.id).Nodup) (f:a'.1.id=a.1.id) (hφ:∀ b ∈ pre++post,∀ q ∈ b.1.pgs,φ' q.key=φ q.key) (id:Int) :
  lfL φ' ((pre++a'::post).map (·.1)) id=if id=a.1.id then lfS φ' a'.1 else lfL φ ((pre++a::post).map (·.1)) id:=by
 have ne:∀ b ∈ pre++post,b.1.id≠a.1.id:=λb i e=>by grind
 have d:∀ x:Sc,x.1.id=a.1.id->((pre++x::post).map (·.1)).find? (λs=>s.id==id)=if id=a.1.id then .some x.1 else ((pre++post).map (·.1)).find? (λs=>s.id==id):=λx k=>by grind
 unfold lfL;rw [d a' f,d a rfl];by_cases e:id=a.1.id
 .simp_all
 .rw [if_neg e,if_neg e,if_neg e];cases j:((pre++post).map (·.1)).find? (λs=>s.id==id) with
  | none=>rfl
  | some s=>
   obtain ⟨b,i,rfl⟩:=List.mem_map.1 (List.mem_of_find?_eq_some j);simp only;exact zL (hφ b i)
end Go.Dn
namespace Go.Dn
variable {M:Mm} {s s':Sm} {pre post l:List Sm} {g:Pg} {p q k:Int} {φ φ':Int->Int}
def insG:List Pg->Pg->List Pg
 | [],g=>[g]
 | x::r,g=>if g.num<x.num then g::x::r else x::insG r g
theorem insG_perm:∀ l:List Pg,(insG l g).Perm (g::l)
 | []=>List.Perm.refl _
 | x::r=>by
  unfold insG;split
  .exact List.Perm.refl _
  .exact ((insG_perm r).cons x).trans (List.Perm.swap _ _ _)
theorem aCo:∀ {l:List Pg},(l.map (·.num)).Pairwise (· < ·)->(∀ x ∈ l,x.num≠g.num)->((insG l g).map (·.num)).Pairwise (· < ·)
 | [],_,_=>by simp [insG]
 | x::r,h,hn=>by
  rw [List.map_cons,List.pairwise_cons] at h;have d:=hn x (by simp);unfold insG;split
  .rename_i c;rw [List.map_cons,List.map_cons,List.pairwise_cons,List.pairwise_cons];refine ⟨λy a=>?_,h⟩;rcases List.mem_cons.1 a with rfl | a
   .exact c
   .have:=h.1 y a;omega
  .rename_i c;rw [List.map_cons,List.pairwise_cons];refine ⟨λy a=>?_,aCo h.2 λz b=>hn z (by simp [b])⟩;obtain ⟨z,b,rfl⟩:=List.mem_map.1 a;rcases List.mem_cons.1 ((insG_perm r).mem_iff.1 b) with rfl | b
   .omega
   .exact h.1 _ (List.mem_map.2 ⟨z,b,rfl⟩)
def addP (s:Sm) (p k:Int):Sm:={ s with pgs:=insG s.pgs ⟨p,k,0⟩ }
theorem zY:(nums (addP s p k)).Perm (p::nums s):=by
 have h:=(insG_perm (g:=⟨p,k,0⟩) s.pgs).map (·.num);exact h
theorem mW (h:(nums s).Pairwise (· < ·)) (a:pgAt s p=none):(nums (addP s p k)).Pairwise (· < ·):=
 aCo h λx b e=>iB.1 a (List.mem_map.2 ⟨x,b,e⟩)
theorem mem_addP:g ∈ (addP s p k).pgs↔g=⟨p,k,0⟩\/g ∈ s.pgs:=by
 rw [show (addP s p k).pgs=insG s.pgs ⟨p,k,0⟩ from rfl,(insG_perm s.pgs).mem_iff,List.mem_cons]
theorem vW (h:(nums s).Pairwise (· < ·)) (b:pgAt s p=none):pgAt (addP s p k) q=if q=p then some ⟨p,k,0⟩ else pgAt s q:=by
 have hs:=mW (k:=k) h b;by_cases e:q=p
 .subst e;rw [if_pos rfl];exact bR (g:=⟨q,k,0⟩) hs (mem_addP.2 (.inl rfl))
 .rw [if_neg e];cases a:pgAt s q with
  | some x=>
   obtain ⟨c,d⟩:=aL a;rw [<-d];exact bR hs (mem_addP.2 (.inr c))
  | none=>
   rw [iB] at a ⊢;rw [zY.mem_iff,List.mem_cons];rintro (z | z)
   .exact e z
   .exact a z
theorem lF:(ownP (addP s p k)).Perm (if kdR s.regs p=0 then ⟨p,k,0⟩::ownP s else ownP s):=by
 have:=(insG_perm (g:=⟨p,k,0⟩) s.pgs).filter λg=>kdR s.regs g.num==0;refine this.trans ?_;rw [List.filter_cons];by_cases e:kdR s.regs p=0
 .rw [if_pos (by simpa using e),if_pos e];exact List.Perm.refl _
 .rw [if_neg (by simpa using e),if_neg e];exact List.Perm.refl _
theorem aC2:(borP (addP s p k)).Perm (if kdR s.regs p=0 then borP s else ⟨p,k,0⟩::borP s):=by
 have:=(insG_perm (g:=⟨p,k,0⟩) s.pgs).filter λg=>kdR s.regs g.num != 0;refine this.trans ?_;rw [List.filter_cons];by_cases e:kdR s.regs p=0
 .rw [if_neg (by simpa using e),if_pos e];exact List.Perm.refl _
 .rw [if_pos (by simpa using e),if_neg e];exact List.Perm.refl _
theorem nT:costS (addP s p k)=costS s+eN (nums s) p+if kdR s.regs p=0 then 1 else 0:=by
 unfold costS;rw [xJ zY,lF.length_eq];simp only [tabsN];split<;>simp<;>omega
theorem aFq (h:(nums s).Pairwise (· < ·)) (b:pgAt s p=none) {y:Bool × Bool × Bool × Int} (c:lookR s.regs p=some y) (hφ:∀ x ∈ s.pgs,φ' x.key=φ x.key) :
  lfS φ' (addP s p k)=setL (lfS φ s) p (some ⟨φ' k,y.1,y.2.1,y.2.2.1⟩):=by
 funext q
 have d:lfS φ' (addP s p k) q=match pgAt (addP s p k) q,lookR s.regs q with
  | some g,some a=>some ⟨φ' g.key,a.1,a.2.1,a.2.2.1⟩
  | _,_=>none:=rfl
 rw [d,vW h b];unfold setL;by_cases e:q=p
 .subst e;rw [if_pos rfl,if_pos rfl,c]
 .rw [if_neg e,if_neg e];unfold lfS;cases f:pgAt s q with
  | none=>cases lookR s.regs q<;>rfl
  | some x=>
   cases lookR s.regs q with
   | none=>rfl
   | some a=>simp only;rw [hφ x (aL f).1]
def roomN (ns:List Nd) (i:Nat):Int:=match ns[i]? with | some d=>d.room | none=>0
def touchM (M:Mm) (id page:Int) (aw au af:Bool):Mm × Int × Int × Int:=
 match findS M id with
 | none=>(M,0,0,5)
 | some s=>match lookR s.regs page with
  | none=>(M,0,gX aw au af,9)
  | some y=>if mayZ y.1 y.2.1 y.2.2.1 aw au af=false then (M,0,gX aw au af+(if (pgAt s page).isNone then 0 else 1),9)
   else match pgAt s page with
    | some g=>(M,g.key,0,0)
    | none=>if roomN M.ns s.box<costS (addP s page (M.keys+1))-costS s then (M,0,0,8)
     else ({ payM M s (addP s page (M.keys+1)) with keys:=M.keys+1 },M.keys+1,0,0)
theorem zV (h:InvL M):M.keys+1 ∉ ownK M.sps:=λz=>by have:=h.key _ z;omega
theorem bA.kd0 (h:bA M) (hs:s ∈ M.sps) {y:Bool × Bool × Bool × Int} (a:lookR s.regs p=some y) (b:pgAt s p=none):kdR s.regs p=0:=by
 unfold kdR;rw [a];simp only;rcases h.kind s hs p y a with e | e
 .exact e
 .obtain ⟨g,c,d,_⟩:=h.bor s hs p y a e;exact absurd (List.mem_map.2 ⟨g,c,d⟩) (iB.1 b)
theorem bA.touch (h:bA M) (hs:M.sps=pre++s::post) {y:Bool × Bool × Bool × Int} (D:lookR s.regs p=some y) (E:pgAt s p=none) (f:¬ roomN M.ns s.box<costS (addP s p (M.keys+1))-costS s) :
  bA ⟨pre++addP s p (M.keys+1)::post,addU M.ns s.box (costS (addP s p (M.keys+1))-costS s),M.keys+1,M.wd⟩:=by
 have e:s ∈ M.sps:=by rw [hs];exact mid_iff.2 (.inl rfl)
 have m:∀ x,x ∈ pre++post->x ∈ M.sps:=λx b=>by rw [hs];exact mid_iff.2 (.inr b)
 have B:=h.kd0 e D E;have o:=lF (s:=s) (p:=p) (k:=M.keys+1);have t:=aC2 (s:=s) (p:=p) (k:=M.keys+1);rw [if_pos B] at o t
 have r:(ownK (pre++addP s p (M.keys+1)::post)).Perm ((M.keys+1)::ownK M.sps):=by
  rw [hs];refine cO.trans ((List.Perm.append_right _ (o.map (·.key))).trans ?_);exact (cO.symm.cons (M.keys+1))
 have C:(borK (pre++addP s p (M.keys+1)::post)).Perm (borK M.sps):=by
  rw [hs];exact dQ.trans ((List.Perm.append_right _ (t.map (·.key))).trans dQ.symm)
 have u:=h.pgs s e
 have H:InvL ⟨pre++addP s p (M.keys+1)::post,addU M.ns s.box (costS (addP s p (M.keys+1))-costS s),M.keys+1,M.wd⟩:=by
  refine h.toInvL.pay (s':=addP s p (M.keys+1)) hs rfl rfl (h.good s e) (mW u E) (λx b=>?_) (r.nodup_iff.2 (List.nodup_cons.2 ⟨zV h.toInvL,h.own⟩)) (λx b z n=>?_) (λj A=>?_) (λj i A=>h.zero j i (by omega)) (by have:=h.keys0;omega) λd I=>?_
  .rcases mem_addP.1 b with rfl | b
   .show lookR s.regs p≠none;rw [D];simp
   .exact h.reg s e x b
  .rw [r.mem_iff,List.mem_cons];rcases mid_iff.1 b with rfl | b
   .rcases mem_addP.1 n with rfl | n
    .exact .inl rfl
    .exact .inr (h.src s e z n)
   .exact .inr (h.src x (m x b) z n)
  .rcases List.mem_cons.1 (r.mem_iff.1 A) with rfl | A
   .have:=h.keys0;omega
   .have:=h.key j A;omega
  .unfold roomN at f;rw [I] at f;simp only at f;omega
 refine { H with kind:=λx b=>?_,bor:=λx b q a F G=>?_,lent:=λx b z n=>?_ }
 .rcases mid_iff.1 b with rfl | b
  .exact h.kind s e
  .exact h.kind x (m x b)
 .rcases mid_iff.1 b with rfl | b
  .obtain ⟨z,J,K⟩:=h.bor s e q a F G;exact ⟨z,mem_addP.2 (.inr J),K⟩
  .exact h.bor x (m x b) q a F G
 .show z.lent=((borK (pre++addP s p (M.keys+1)::post)).count z.key:Nat);rw [C.count_eq];rcases mid_iff.1 b with rfl | b
  .rcases List.mem_cons.1 (o.mem_iff.1 n) with rfl | n
   .have:(borK M.sps).count (M.keys+1)=0:=List.count_eq_zero.2 λc=>by
     obtain ⟨w,L,v,N,O⟩:=rF.1 c;have:=h.src w L v (lP.1 N).1;rw [O] at this;exact zV h.toInvL this
    show (0:Int)=_;rw [this];rfl
   .exact h.lent s e z n
  .exact h.lent x (m x b) z n
end Go.Dn
namespace Go.Dn
variable {A:AH} {l:List SP} {c:Mc} {g g':Sg} {a:Sc} {s:Sm} {lf:Int->Option Lf} {nd:Nd}
theorem aAS {b:Nat} {F d G e:Int->Prop} {n f:Int} (h:∀ x,F x↔d x) (i:∀ x,G x↔e x) (j:n=f):Bud b F G n=Bud b d e f:=by
 have e1:F=d:=funext λx=>propext (h x);have k:G=e:=funext λx=>propext (i x);rw [e1,k,j]
theorem aKW {id page:Int} {aw au af:Bool} {Q:Int->Int->Int->AH->Prop} (h:Own (macG c g (ownC a::l)) A) (hs:g.sps.lookup id=some (ptrV a.2.p)) (hN:c.N<=262144) (Z:∀ f,g.F f\/g.G f->1<=f/\f<c.N)
  (N:Rest g.G g.W a.2.root a.2.tab lf a.2.tl) (hrl:a.1.regs.length<=64) (hpr:∀ y ∈ a.1.regs,0<=y.a/\y.b<=34359738368) (hi:g.ns[a.1.box]? = some nd) (D:nd.live=true) (hq:nd.room<=g.n)
  (h9:findR a.1.regs page=none->∀ b,Own (macG c g (ownC a::l)) b->Q 0 (gX aw au af) 9 b)
  (hno:∀ y,findR a.1.regs page=some y->mayZ y.w y.u y.x aw au af=false->∀ b,Own (macG c g (ownC a::l)) b->Q 0 (gX aw au af+if lf page=none then 0 else 1) 9 b)
  (h0:∀ y x,findR a.1.regs page=some y->mayZ y.w y.u y.x aw au af=true->lf page=some x->∀ b,Own (macG c g (ownC a::l)) b->Q x.frame 0 0 b)
  (h8:∀ y,findR a.1.regs page=some y->mayZ y.w y.u y.x aw au af=true->lf page=none->nd.room<1+iR a.2.tab page->∀ W' b,(∀ f,¬ g.F f->W' f=g.W f)->Own (macG c { g with W:=W' } (ownC a::l)) b->Q 0 0 8 b)
  (hk:∀ y,findR a.1.regs page=some y->mayZ y.w y.u y.x aw au af=true->lf page=none->1+iR a.2.tab page<=nd.room->∀ f tk W' t b,g.F f->tk.length=iR a.2.tab page->(∀ x ∈ tk,g.F x/\x≠f)->
   Rest (λx=>g.G x\/x ∈ f::tk) W' a.2.root t (setL lf page (some ⟨f,y.w,y.u,y.x⟩)) (a.2.tl++tk)->(∀ x,x ∉ tk->x ∉ a.2.tl->W' x=zeroW g.W f x)->(∀ j,256<=j->W' a.2.root j=g.W a.2.root j)->
   Own (macG c { g with F:=λx=>g.F x/\x ∉ f::tk,G:=λx=>g.G x\/x ∈ f::tk,W:=W',n:=g.n-(1+tk.length),ns:=useN g.ns a.1.box nd (nd.use+(1+tk.length)) } (ownC a::l)) b->Q f 0 0 b) :
  qez_A (some ⟨c.m,0,none⟩) id page aw au af Q A:=by
 have u:∀ x,g.F x->hasF c.N [] x=true:=λx d=>vJ.2 (by grind);have C:∀ x,g.G x->hasF c.N [] x=true:=λx d=>vJ.2 (by grind);have hFG:=(iF h.tail).1;obtain ⟨lm,h⟩:=macG.openOne h;have E:∀ {g':Sg} b,Own (macG c g' (mY a.2.p lm a.1.box a.2.root a.2.s a.1.regs a.2.lent++l)) b->Own (macG c g' (ownC a::l)) b:=λb h'=>macG.closeOne h';unfold qez_A qez_G;simp only [aJ,add_at,Nat.zero_add];refine fC (i:=3) h rfl rfl (iD (i:=4) h rfl ?_);rw [hs];refine ⟨some ⟨a.2.p,0,none⟩,rfl,bsel_f rfl ?_⟩;refine aT (cs:=[.bool aw,.bool au]) h λb5 A1 w=>?_;refine ⟨λx v m b=>b=A1/\((v=0/\m=2/\x=0)\/(v=1/\m=1/\x=if aw then 2 else 0)\/(v=2/\m=0/\x=(if aw then 2 else 0)+(if au then 4 else 0))),⟨2,rfl,.inl ⟨rfl,rfl,rfl⟩⟩,?_⟩;intro x v m A2 ⟨e1,B⟩;subst e1;refine bsel_in (λP=>?_) λP=>?_
 .have P:v<2:=of_decide_eq_true P;refine ⟨λr b=>b=A2/\((v=0/\m=2/\r=if aw then 2 else 0)\/(v=1/\m=1/\r=(if aw then 2 else 0)+(if au then 4 else 0))),λr A3 ⟨V,H⟩=>?_,?_⟩
  .rcases H with ⟨H,f3,f4⟩ | ⟨H,f3,f4⟩
   .subst H f3;exact ⟨1,by omega,V,.inr (.inl ⟨rfl,rfl,f4⟩)⟩
   .subst H f3;exact ⟨0,by omega,V,.inr (.inr ⟨rfl,rfl,f4⟩)⟩
  .rcases B with ⟨B,e3,e4⟩ | ⟨B,e3,e4⟩ | ⟨B,_⟩
   .subst B e3 e4;refine inB_in (by omega) (by omega) (nL (i:=0) w rfl rfl ?_);refine bsel_in (λg=>bsel_f rfl ⟨rfl,.inl ⟨rfl,rfl,?_⟩⟩) λg=>⟨rfl,.inl ⟨rfl,rfl,by rw [g];rfl⟩⟩;rw [g];decide
   .subst B e3 e4;refine inB_in (by omega) (by omega) (nL (i:=0) w rfl rfl ?_);refine bsel_in (λg=>bsel_f rfl ⟨rfl,.inr ⟨rfl,rfl,?_⟩⟩) λg=>⟨rfl,.inr ⟨rfl,rfl,by rw [g];cases aw<;>rfl⟩⟩;rw [g];cases aw<;>decide
   .omega
 .have P:¬ v<2:=of_decide_eq_false P;have ex:x=(if aw then 2 else 0)+(if au then 4 else 0):=by omega
  subst ex;have w:=w.tail;refine ⟨λr b=>r=gX aw au af/\b=A2,λr A3 ⟨V,H⟩=>?_,?_⟩
  .subst V H;refine ld_S (i:=7) w rfl rfl ?_;refine gH (k:=8) w rfl aR (by omega) (λI=>aG rfl (h9 I A3 (E _ w))) λy I hy hy1 hy2=>bsel_f rfl ?_;refine bQ (i:=7) w rfl rfl (prs (k:=3) w rfl ?_);refine bQ (i:=7) w rfl rfl ?_;refine fE w C N (λJ R K=>?_) λx J R K=>?_
   .refine aC3 ?_;refine bsel_in (λo=>?_) λo=>?_
    .have o:mayZ y.w y.u y.x aw au af=false:=by simpa using o
     refine ⟨λr b=>r=gX aw au af/\b=R,λr X ⟨k1,k2⟩=>?_,bsel_f rfl ⟨rfl,rfl⟩⟩;subst k1 k2;have:=hno y I o X (E _ K);rw [if_pos J,Int.add_zero] at this;exact this
    .have o:mayZ y.w y.u y.x aw au af=true:=by simpa using o
     refine bsel_f rfl ?_;have S:=h8 y I o J;have hk':=hk y I o J;have hpg:=hpr y hy;refine yW (i:=a.1.box) K hi D u (λhr=>aG rfl (S (by unfold Nd.room;omega) g.W R (λ_ _=>rfl) (E _ K))) (λhr hn0=>?_) λhr hn0 f X p h5=>bsel_f rfl ?_
     .unfold Nd.room at hq;omega
     refine bQ (i:=7) h5 rfl rfl ?_;have hff0:=Z f (.inl p);have L:¬ g.G f:=hFG f p;have hR5:Rest (λx=>g.G x\/x=f) (zeroW g.W f) a.2.root a.2.tab lf a.2.tl:=N.keep (λx d=>eK λe=>L (by rw [<-e];exact N.inG x d)) λx d=>.inl (N.inG x d);refine aAn (i:=a.1.box) (nd:={ nd with use:=nd.use+1 }) h5 (useN_at hi _) D (λx d=>u x d.1) (λx d=>by rcases d with d | rfl;exact C x d;exact u _ p) hR5 (λc1=>?_) (λ_ _ _ _ c1=>absurd J c1) (λ_ _ _ _ _ e W' A6 he hW' _ _ O=>?_) λ_ _ _ _ _ tk W' t A6 T M _ htk U hW6 hHi O=>bsel_f rfl ?_
     .omega
     .have he8:e=8/\nd.room<1+iR a.2.tab page:=by
       unfold Nd.room at hq ⊢;simp only at he;omega
      obtain ⟨rfl,he2⟩:=he8;refine aG rfl ?_
      refine jH (i:=a.1.box) (nd:={ nd with use:=nd.use+1 }) O (useN_at hi _) D (.inr rfl) (by
       obtain ⟨_,_,_,⟨_,h2⟩,_⟩:=TreeS.openH K.rot3;have:=(h2 nd (List.mem_of_getElem? hi)).use;simp;omega) λA7 Y=>?_
      have hWk:∀ x,¬ g.F x->W' x=g.W x:=λx d=>by
       rw [hW' x λz=>d z.1];exact eK λe=>d (by rw [e];exact p)
      refine S he2 W' A7 hWk (E _ ?_)
      have e1:Bud c.b (λx=>(g.F x/\x≠f)\/x=f) (λx=>(g.G x\/x=f)/\x≠f) (g.n-1+1)=Bud c.b g.F g.G g.n:=aAS (λx=>⟨λz=>by rcases z with z | rfl;exact z.1;exact p,λz=>by
       by_cases q:x=f
       .exact .inr q
       .exact .inl ⟨z,q⟩⟩) (λx=>⟨λz=>by rcases z with ⟨z | z,z2⟩;exact z;exact absurd z z2,λz=>⟨.inl z,λq=>L (by rw [<-q];exact z)⟩⟩) (by omega)
      have B:useN (useN g.ns a.1.box nd (nd.use+1)) a.1.box { nd with use:=nd.use+1 } (nd.use+1-1)=g.ns:=by
       rw [show nd.use+1-1=nd.use by omega];exact aAH hi _
      have Y:Own (RamW c.r c.N [] W'::Bud c.b (λx=>(g.F x/\x≠f)\/x=f) (λx=>(g.G x\/x=f)/\x≠f) (g.n-1+1)::TreeS c.t (useN (useN g.ns a.1.box nd (nd.use+1)) a.1.box { nd with use:=nd.use+1 } (nd.use+1-1))::At c.m (mcC c)::MapI c.sp .i64 g.sps::TlbS c.tl g.ls::PcS c.tg g.z::(mY a.2.p lm a.1.box a.2.root a.2.s a.1.regs a.2.lent++l)) A7:=Y;rw [e1,B] at Y;exact Y
     .simp only at M;refine hk' (by unfold Nd.room;omega) f tk W' t A6 p T htk (U.keep (λ_ _=>rfl) λx d=>?_) hW6 (λj hj=>?_) (E _ ?_)
      .rcases U.inG x d with (z | z) | z
       .exact .inl z
       .exact .inr (by rw [z];simp)
       .exact .inr (List.mem_cons_of_mem _ z)
      .rw [hHi j hj];have:a.2.root≠f:=λz=>L (by rw [<-z];exact N.tg ((N.T.root 0 _).2 ⟨rfl,rfl⟩));rw [eK this]
      .have e1:Bud c.b (λx=>(g.F x/\x≠f)/\x ∉ tk) (λx=>(g.G x\/x=f)\/x ∈ tk) (g.n-1-tk.length)=Bud c.b (λx=>g.F x/\x ∉ f::tk) (λx=>g.G x\/x ∈ f::tk) (g.n-(1+tk.length)):=aAS (λx=>by simp only [List.mem_cons,not_or];exact and_assoc) (λx=>by simp only [List.mem_cons];exact or_assoc) (by omega)
       have B:useN (useN g.ns a.1.box nd (nd.use+1)) a.1.box { nd with use:=nd.use+1 } (nd.use+1+tk.length)=useN g.ns a.1.box nd (nd.use+(1+tk.length)):=by
        unfold useN;rw [List.set_set,Int.add_assoc]
       have O:Own (RamW c.r c.N [] W'::Bud c.b (λx=>(g.F x/\x≠f)/\x ∉ tk) (λx=>(g.G x\/x=f)\/x ∈ tk) (g.n-1-tk.length)::TreeS c.t (useN (useN g.ns a.1.box nd (nd.use+1)) a.1.box { nd with use:=nd.use+1 } (nd.use+1+tk.length))::At c.m (mcC c)::MapI c.sp .i64 g.sps::TlbS c.tl g.ls::PcS c.tg g.z::(mY a.2.p lm a.1.box a.2.root a.2.s a.1.regs a.2.lent++l)) A6:=O;rw [e1,B] at O;exact O
   .refine aC3 ?_;refine bsel_in (λo=>?_) λo=>?_
    .have o:mayZ y.w y.u y.x aw au af=false:=by simpa using o
     refine ⟨λr b=>r=gX aw au af+1/\b=R,λr X ⟨k1,k2⟩=>?_,aG rfl ⟨aHX,rfl⟩⟩;subst k1 k2;have:=hno y I o X (E _ K);rw [if_neg (by rw [J];simp)] at this;exact this
    .have o:mayZ y.w y.u y.x aw au af=true:=by simpa using o
     exact aG rfl (h0 y x I o J R (E _ K))
  .refine bsel_in (λg=>⟨?_,rfl⟩) λg=>⟨?_,rfl⟩
   .subst g;exact aIH
   .subst g;simp [gX]
end Go.Dn
namespace Go.Dn
variable {A:AH} {l:List SP} {c:Mc} {g g':Sg} {L pre post:List Sc} {M M':Mm} {φ φ':Int->Int} {a a':Sc} {s:Sm} {nd:Nd} {k:Int}
theorem aZ.mem (h:aZ c g (pre++a::post) M φ):M.sps=pre.map (·.1)++a.1::post.map (·.1):=by rw [<-h.abs];simp
theorem aZ.in_ (h:aZ c g L M φ) {b:Sc} (d:b ∈ L):b.1 ∈ M.sps:=by rw [<-h.abs];exact List.mem_map_of_mem d
theorem aZ.fr_tl (h:aZ c g L M φ) {b:Sc} (d:b ∈ L) {f:Int} (e:f ∈ b.2.tl):g.G f:=(h.G f).2 (List.mem_cons_of_mem _ (List.mem_cons_of_mem _ (List.mem_flatMap.2 ⟨b,d,List.mem_append_left _ e⟩)))
theorem aZ.data (h:aZ c g L M φ) (p:k ∈ ownK M.sps):g.G (φ k)/\(∀ b ∈ L,φ k ∉ b.2.tl)/\φ k≠c.kern:=by
 rw [<-h.abs] at p;obtain ⟨s,hs,x,j,rfl⟩:=aB7.1 p;obtain ⟨q,f,rfl⟩:=List.mem_map.1 hs;have m:φ x.key ∈ L.flatMap (frC φ):=List.mem_flatMap.2 ⟨q,f,List.mem_append_right _ (List.mem_map.2 ⟨x,j,rfl⟩)⟩;have d:=h.nd;unfold frs at d;rw [List.nodup_cons,List.nodup_cons] at d;refine ⟨(h.G _).2 (List.mem_cons_of_mem _ (List.mem_cons_of_mem _ m)),λb i r=>?_,λe=>d.1 (by simp_all)⟩;have t:=d.2.2
 -- both in one list, at two places
 obtain ⟨u,v,e⟩:=List.append_of_mem f;rw [e] at t i
 have n:(frC φ q++(u++v).flatMap (frC φ)).Nodup:=by
  refine (List.Perm.nodup_iff ?_).1 t;rw [List.flatMap_append,List.flatMap_cons,List.flatMap_append,<- List.append_assoc,<- List.append_assoc];exact List.Perm.append_right _ List.perm_append_comm
 rw [List.nodup_append] at n;rcases cmid_iff.1 i with rfl | i
 .have o:=n.1;unfold frC at o;rw [List.nodup_append] at o;exact o.2.2 _ r _ (List.mem_map.2 ⟨x,j,rfl⟩) rfl
 .exact n.2.2 _ (List.mem_append_right _ (List.mem_map.2 ⟨x,j,rfl⟩)) _ (List.mem_flatMap.2 ⟨b,i,List.mem_append_left _ r⟩) rfl
theorem aZ.key_le (h:aZ c g L M φ) {b:Sc} (d:b ∈ L) {x:Pg} (e:x ∈ b.1.pgs):x.key<=M.keys/\x.key ∈ ownK M.sps:=by
 have:=h.inv.src b.1 (h.in_ d) x e;exact ⟨(h.inv.key _ this).2,this⟩
theorem aZ.ps (h:aZ c g L M φ) {b:Sc} (f:b ∈ L) (p:Int):p ∈ nums b.1↔lfS φ b.1 p≠none:=by
 constructor
 .intro d;obtain ⟨x,i,rfl⟩:=List.mem_map.1 d;have e1:=bR (h.inv.pgs _ (h.in_ f)) i;obtain ⟨y,j⟩:=Option.ne_none_iff_exists'.1 (h.inv.reg _ (h.in_ f) x i);unfold lfS;rw [e1,j];simp
 .intro d;unfold lfS at d;cases e:pgAt b.1 p with
  | none=>rw [e] at d;simp at d
  | some x=>
   obtain ⟨m,n⟩:=aL e;exact List.mem_map.2 ⟨x,m,n⟩
theorem aZ.lf_none (h:aZ c g L M φ) {b:Sc} (d:b ∈ L) {p:Int}:lfS φ b.1 p=none↔pgAt b.1 p=none:=by
 rw [iB,h.ps d,Classical.not_not]
theorem aZ.node (h:aZ c g L M φ) {b:Sc} (f:b ∈ L):∃ nd,g.ns[b.1.box]? = some nd/\nd.live=true/\roomN M.ns b.1.box=nd.room/\nd.room<=g.n/\0<=nd.room:=by
 have d:=h.inv.live _ (h.in_ f);unfold liveN at d;cases e:M.ns[b.1.box]? with
 | none=>rw [e] at d;cases d
 | some nd=>
  rw [e] at d;have:=h.inv.tree.room e d;exact ⟨nd,by rw [h.ns];exact e,d,by unfold roomN;rw [e],by rw [h.n];exact this.2,this.1⟩
theorem aZ.regs (h:aZ c g L M φ) {b:Sc} (d:b ∈ L):b.1.regs.length<=64/\∀ y ∈ b.1.regs,0<=y.a/\y.b<=34359738368:=by
 obtain ⟨e,f,_⟩:=bJ.1 (h.inv.good _ (h.in_ d));exact ⟨e,λy i=>by have:=srt_mem f y i;omega⟩
theorem bO {L:List Reg} {p:Int}:lookR L p=(findR L p).map attrR:=rfl
theorem aZ.w (h:aZ c g L M φ) {W':Int->Int->Int} (d:∀ f,g.G f->W' f=g.W f):aZ c { g with W:=W' } L M φ:=
 ⟨h.inv,h.abs,h.ns,h.n,h.sps,h.nd,h.G,h.rng,λb e=>(h.one b e).keep (λf j=>d f (h.fr_tl e j)) (λf j=>h.fr_tl e j) λ_ _=>rfl,λk m i=>by show W' (φ k) i=_;rw [d _ (h.data m).1];exact h.wd k m i,
  λq n=>by show W' c.kern q=_;rw [d _ ((h.G _).2 (by unfold frs;simp))];exact h.kw q n,h.pc,h.ln,h.N⟩
theorem aEW (h:aZ c g (pre++a::post) M φ):findS M a.1.id=some a.1:=by
 have b:=h.mem;unfold findS;rw [b,List.find?_append];have d:=h.nodupI;rw [b,List.map_append,List.map_cons,List.nodup_append] at d
 have e:(pre.map (·.1)).find? (λs=>s.id==a.1.id)=none:=by
  rw [List.find?_eq_none];intro s hs f;exact d.2.2 _ (List.mem_map_of_mem hs) a.1.id (by simp) (by simp_all)
 rw [e];simp
theorem aJn {tk:List Int} {f:Int} {p:Int} {cs:Cs} (e:∀ x ∈ a.1.pgs,φ' x.key=φ x.key) (h:φ' k=f) (b:kdR a.1.regs p=0) (i:cs.tl=a.2.tl++tk):(frC φ' (addP a.1 p k,cs)).Perm (frC φ a++(f::tk)):=by
 unfold frC;have d:=lF (s:=a.1) (p:=p) (k:=k);rw [if_pos b] at d
 have j:((ownP (addP a.1 p k)).map λg=>φ' g.key).Perm (f::(ownP a.1).map λg=>φ g.key):=by
  refine (d.map _).trans ?_;rw [List.map_cons];simp only [h];rw [List.map_congr_left λx m=>e x (cJ.1 m).1]
 show (cs.tl++(ownP (addP a.1 p k)).map λg=>φ' g.key).Perm _;rw [i,List.append_assoc,List.append_assoc];refine List.Perm.append_left _ ((List.Perm.append_left _ j).trans ?_);refine List.perm_middle.trans (List.Perm.trans ?_ List.perm_middle.symm);exact List.Perm.cons _ List.perm_append_comm
theorem aK7 {page:Int} {aw au af:Bool} {Q:Int->Int->Int->AH->Prop} (d:aZ c g (pre++a::post) M φ) (hM:bA M) (h:Own (macG c g (ownC a::l)) A)
  (hno:∀ M' k R e,touchM M a.1.id page aw au af=(M',k,R,e)->e≠0->M'=M/\k=0->∀ W' Z,aZ c { g with W:=W' } (pre++a::post) M φ->Own (macG c { g with W:=W' } (ownC a::l)) Z->Q 0 R e Z)
  (hk:∀ y M' k,lookR a.1.regs page=some y->mayZ y.1 y.2.1 y.2.2.1 aw au af=true->touchM M a.1.id page aw au af=(M',k,0,0)->∀ g' a' φ' Z,aZ c g' (pre++a'::post) M' φ'->bA M'->g'.z=g.z->g'.ls=g.ls->g'.sps=g.sps->a'.2.root=a.2.root->a'.2.p=a.2.p->a'.1.id=a.1.id->
   (∀ j,j<=M.keys->φ' j=φ j)->lfS φ' a'.1 page=some ⟨φ' k,y.1,y.2.1,y.2.2.1⟩->k ∈ ownK M'.sps->Own (macG c g' (ownC a'::l)) Z->Q (φ' k) 0 0 Z) :
  qez_A (some ⟨c.m,0,none⟩) a.1.id page aw au af Q A:=by
 have m:a ∈ pre++a::post:=cmid_iff.2 (.inl rfl);have H:=(iF h.tail).1;obtain ⟨nd,n1,n2,n3,n4,n5⟩:=d.node m;have r:=d.one a m;have C:=aEW d
 have hlk:g.sps.lookup a.1.id=some (ptrV a.2.p):=by
  obtain ⟨b,p1,p2,e1,e2,e3,e4⟩:=d.has C;rw [d.look]
  have:(pre++a::post).find? (λx=>x.1.id==a.1.id)=some a:=by
   rw [List.find?_append];have J:=d.nodupI;rw [d.mem,List.map_append,List.map_cons,List.nodup_append] at J
   have e:pre.find? (λx=>x.1.id==a.1.id)=none:=by
    rw [List.find?_eq_none];intro x u hq;exact J.2.2 x.1.id (List.mem_map.2 ⟨x.1,List.mem_map_of_mem u,rfl⟩) a.1.id (by simp) (by simpa using hq)
   rw [e];simp
  rw [this];rfl
 have hS0:∀ W',(∀ f,g.G f->W' f=g.W f)->aZ c { g with W:=W' } (pre++a::post) M φ:=λW' Y=>d.w Y;have T:=hS0 g.W λ_ _=>rfl
 have t:∀ {o:Prop} [Decidable o],(if lfS φ a.1 page=none then (0:Int) else 1)=if (pgAt a.1 page).isNone then 0 else 1:=λ{_ _}=>by
  by_cases e:lfS φ a.1 page=none
  .rw [if_pos e,(d.lf_none m).1 e];rfl
  .rw [if_neg e];have:=λz=>e ((d.lf_none m).2 z);cases e2:pgAt a.1 page with
   | none=>exact absurd e2 this
   | some x=>rfl
 refine aKW h hlk d.N.2 (λf w=>(d.rng f).1 w) r.rest (d.regs m).1 (d.regs m).2 n1 n2 n4 (λw K N=>?_) (λy w O K N=>?_) (λy x w O E K N=>?_) (λy w O E hr W1 K Y N=>?_) λy w O E hr f tk W1 tab1 K U hlen P hR Y hHi N=>?_
 .refine hno M 0 _ 9 ?_ (by decide) ⟨rfl,rfl⟩ g.W K T N;unfold touchM;rw [C];simp only;rw [bO,w];rfl
 .refine hno M 0 _ 9 ?_ (by decide) ⟨rfl,rfl⟩ g.W K T N;unfold touchM;rw [C];simp only;rw [bO,w,t (o:=True)];show (if mayZ y.w y.u y.x aw au af=false then _ else _)=_;rw [if_pos O]
 .have hpg:pgAt a.1 page≠none:=λz=>by rw [(d.lf_none m).2 z] at E;cases E
  obtain ⟨q,hq⟩:=Option.ne_none_iff_exists'.1 hpg
  have u:x=⟨φ q.key,y.w,y.u,y.x⟩:=by
   unfold lfS at E;rw [hq,bO,w] at E;simp only [Option.map_some,Option.some.injEq] at E;exact E.symm
  subst u;refine hk (attrR y) M q.key (by rw [bO,w];rfl) O ?_ g a φ K T hM rfl rfl rfl rfl rfl rfl (λ_ _=>rfl) E (d.key_le m (aL hq).1).2 N;unfold touchM;rw [C];simp only;rw [bO,w];show (if mayZ y.w y.u y.x aw au af=false then _ else _)=_;rw [if_neg (by rw [O];simp),hq]
 .have t:=(d.lf_none m).1 E;have v:lookR a.1.regs page=some (attrR y):=by rw [bO,w];rfl
  have D:=hM.kd0 (d.in_ m) v t;have hnd:=r.rest.need (p:=page) (ps:=nums a.1) (d.ps m);refine hno M 0 0 8 ?_ (by decide) ⟨rfl,rfl⟩ W1 K (hS0 W1 λf w=>Y f λz=>H f z w) N;unfold touchM;rw [C];simp only;rw [v];show (if mayZ y.w y.u y.x aw au af=false then _ else _)=_;rw [if_neg (by rw [O];simp),t];simp only;rw [if_pos];rw [nT,if_pos D,n3];omega
 .have t:=(d.lf_none m).1 E;have v:lookR a.1.regs page=some (attrR y):=by rw [bO,w];rfl
  have D:=hM.kd0 (d.in_ m) v t;have hnd:=r.rest.need (p:=page) (ps:=nums a.1) (d.ps m)
  have B:costS (addP a.1 page (M.keys+1))-costS a.1=1+(tk.length:Int):=by
   rw [nT,if_pos D];omega
  have hrm:¬ roomN M.ns a.1.box<costS (addP a.1 page (M.keys+1))-costS a.1:=by rw [B,n3];omega
  have ht:touchM M a.1.id page aw au af=({ payM M a.1 (addP a.1 page (M.keys+1)) with keys:=M.keys+1 },M.keys+1,0,0):=by
   unfold touchM;rw [C];simp only;rw [v];show (if mayZ y.w y.u y.x aw au af=false then _ else _)=_;rw [if_neg (by rw [O];simp),t];simp only;rw [if_neg hrm]
  have hM':({ payM M a.1 (addP a.1 page (M.keys+1)) with keys:=M.keys+1 }:Mm)=⟨pre.map (·.1)++addP a.1 page (M.keys+1)::post.map (·.1),addU M.ns a.1.box (costS (addP a.1 page (M.keys+1))-costS a.1),M.keys+1,M.wd⟩:=by
   unfold payM;have J:=d.nodupI;rw [d.mem] at J ⊢;rw [xB (s':=addP a.1 page (M.keys+1)) J rfl]
  have S:=hM.touch d.mem v t hrm;rw [hM'] at ht;obtain ⟨φ2,hφ2⟩:∃ φ2:Int->Int,φ2=λj=>if j=M.keys+1 then f else φ j:=⟨_,rfl⟩
  have hφk:φ2 (M.keys+1)=f:=by rw [hφ2];simp
  have hφo:∀ j,j<=M.keys->φ2 j=φ j:=λj hj=>by rw [hφ2];simp only;rw [if_neg (by omega)]
  have hφp:∀ b ∈ pre++a::post,∀ x ∈ b.1.pgs,φ2 x.key=φ x.key:=λb hb x u=>hφo _ (d.key_le hb u).1;have V:=aFq (φ:=φ) (φ':=φ2) (k:=M.keys+1) (d.inv.pgs _ (d.in_ m)) t v (hφp a m);have htlk:∀ x,g.G x->x ∉ tk:=λx u z=>H x (P x z).1 u
  have hWk:∀ x,g.G x->x ∉ a.2.tl->W1 x=g.W x:=λx u hx2=>by
   rw [Y x (htlk x u) hx2];exact eK λe=>H f U (by rw [<-e];exact u)
  have hftl:f ∉ a.2.tl:=λz=>H f U (d.fr_tl m z)
  have hnn:(f::tk).Nodup:=by
   have:=hR.nd;rw [List.nodup_append] at this;exact List.nodup_cons.2 ⟨λz=>(P f z).2 rfl,this.2.1⟩
  rw [<-hφk];refine hk (attrR y) _ _ v O ht { g with F:=λx=>g.F x/\x ∉ f::tk,G:=λx=>g.G x\/x ∈ f::tk,W:=W1,n:=g.n-(1+tk.length),ns:=useN g.ns a.1.box nd (nd.use+(1+tk.length)) } (addP a.1 page (M.keys+1),{ a.2 with tab:=tab1,tl:=a.2.tl++tk }) φ2 K (d.grow (g':={ g with F:=λx=>g.F x/\x ∉ f::tk,G:=λx=>g.G x\/x ∈ f::tk,W:=W1,n:=g.n-(1+tk.length),ns:=useN g.ns a.1.box nd (nd.use+(1+tk.length)) }) (nw:=f::tk) H rfl rfl (by simp) S.toInvL rfl ?_ ?_ d.pc (aJn (hφp a m) hφk D rfl) hnn (λx u=>?_) (λ_=>Iff.rfl) (λ_=>Iff.rfl) ⟨?_,⟨?_,λj j1 j2=>?_⟩,r.lnd,λq=>?_,r.sl⟩ (λb hb=>hφp b (cmid_iff.2 (.inr hb))) hWk (λj hj i=>?_) ?_) S rfl rfl rfl rfl rfl rfl hφo ?_ ?_ N
  .rw [B,jU (by rw [<-d.ns];exact n1),d.ns]
  .show g.n-(1+(tk.length:Int))=_;rw [B,jB (by rw [<-d.ns];exact n1) n2,d.n]
  .rcases List.mem_cons.1 u with rfl | u
   .exact U
   .exact (P x u).1
  .rw [V,hφk];exact hR
  .obtain ⟨b1,b2,b3⟩:=r.rt.k;exact ⟨b1,b2,by show W1 a.2.root 256=_;rw [hHi 256 (by omega)];exact b3⟩
  .show W1 a.2.root j=0;rw [hHi j (by omega)];exact r.rt.z j j1 j2
  .show a.2.lent.lookup q=_;rw [vW (d.inv.pgs _ (d.in_ m)) t];by_cases e:q=page
   .subst e;rw [if_pos rfl,r.lent,t];rfl
   .rw [if_neg e];exact r.lent q
  .show W1 (φ2 j) i=M.wd j i;have hj':j ∈ ownK (pre.map (·.1)++addP a.1 page (M.keys+1)::post.map (·.1)):=hj;by_cases e:j=M.keys+1
   .subst e;rw [hφk,Y f (λz=>(P f z).2 rfl) hftl,d.inv.zero _ _ (by omega)];unfold zeroW;rw [if_pos rfl]
   .have I:=lF (s:=a.1) (p:=page) (k:=M.keys+1);rw [if_pos D] at I
    have X:j ∈ ownK M.sps:=by
     rw [d.mem,cO.mem_iff];rw [cO.mem_iff,List.mem_append,(I.map (·.key)).mem_iff,List.map_cons,List.mem_cons] at hj';rcases hj' with (z | z) | z
     .exact absurd z e
     .exact List.mem_append_left _ z
     .exact List.mem_append_right _ z
    have hd:=d.data X;rw [hφo j (d.inv.key j X).2,hWk _ hd.1 (hd.2.1 a m)];exact d.wd j X i
  .have hln:=d.ln;rw [d.mem] at hln;refine hln.mono (LF:=lfL φ (pre.map (·.1)++a.1::post.map (·.1))) λid q x u=>?_;have J:=d.nodupI;rw [d.mem] at J;have e1:pre.map (·.1)++addP a.1 page (M.keys+1)::post.map (·.1)=(pre++(addP a.1 page (M.keys+1),a.2)::post).map (·.1):=by simp
   have e2:pre.map (·.1)++a.1::post.map (·.1)=(pre++a::post).map (·.1):=by simp
   have hn2:((pre++a::post).map λx=>x.1.id).Nodup:=by rw [e2,List.map_map] at J;exact J
   show lfL φ2 (pre.map (·.1)++addP a.1 page (M.keys+1)::post.map (·.1)) id q=some x;rw [e2] at u;rw [e1,eV (a:=a) (a':=(addP a.1 page (M.keys+1),a.2)) (φ:=φ) hn2 rfl λb hb=>hφp b (cmid_iff.2 (.inr hb))];by_cases e:id=a.1.id
   .rw [if_pos e];rw [eV (a:=a) (a':=a) (φ:=φ) hn2 rfl λ_ _ _ _=>rfl,if_pos e] at u;show lfS φ2 (addP a.1 page (M.keys+1)) q=some x;rw [V];unfold setL;rw [if_neg λz=>by rw [z,E] at u;cases u];exact u
   .rw [if_neg e];exact u
  .show lfS φ2 (addP a.1 page (M.keys+1)) page=_;rw [V];unfold setL;rw [if_pos rfl]
  .have I:=lF (s:=a.1) (p:=page) (k:=M.keys+1);rw [if_pos D] at I;show M.keys+1 ∈ ownK (pre.map (·.1)++addP a.1 page (M.keys+1)::post.map (·.1));rw [cO.mem_iff,List.mem_append,(I.map (·.key)).mem_iff];exact .inl (by simp)
end Go.Dn
