/- What the proof stands on: Rng, Rgs, Merge, Less, Frames, EntryB, PlainM. -/
import Derived.Test.YtmfmhmipcdgikaaGreatG
import Derived.Test.YtmfmhmipcdgikaaGreatDnN
import Derived.Test.YtmfmhmipcdgikaaGreatEntry
import Derived.Test.YtmfmhmipcdgikaaGreatBudNew
/- Ranges of whole numbers: lists in order that don't meet; merging; taking away. Plain. -/
namespace Go.Dn
abbrev Rg:=Int × Int
def inRg (r:Rg) (n:Int):Prop:=r.1≤n∧n<r.2
def memR (l:List Rg) (n:Int):Prop:=∃ r ∈ l,inRg r n
def NF (l:List Rg):Prop:=(∀ r ∈ l,r.1<r.2)∧l.Pairwise fun a b=>a.2<b.1
theorem memR_nil (n:Int):¬ memR [] n:=fun ⟨_,h,_⟩=>nomatch h
theorem memR_cons {r:Rg} {l:List Rg} {n:Int}:memR (r::l) n↔inRg r n∨memR l n:=by simp [memR]
theorem memR_append {l m:List Rg} {n:Int}:memR (l++m) n↔memR l n∨memR m n:=by
 simp only [memR,List.mem_append]
 constructor
 ·rintro ⟨r,h | h,k⟩
  ·exact .inl ⟨r,h,k⟩
  ·exact .inr ⟨r,h,k⟩
 ·rintro (⟨r,h,k⟩ | ⟨r,h,k⟩)
  ·exact ⟨r,.inl h,k⟩
  ·exact ⟨r,.inr h,k⟩
theorem memR_one {r:Rg} {n:Int}:memR [r] n↔inRg r n:=by simp [memR]
theorem NF.nil:NF []:=⟨fun _ h=>(nomatch h),List.Pairwise.nil⟩
theorem NF.tail {r:Rg} {l:List Rg} (h:NF (r::l)):NF l:=⟨fun s hs=>h.1 s (by simp [hs]),(List.pairwise_cons.1 h.2).2⟩
theorem NF.push {r:Rg} {l:List Rg} (h:NF l) (hr:r.1<r.2) (hl:∀ q ∈ l,q.2<r.1):NF (l++[r]):=by
 refine ⟨fun s hs=>?_,List.pairwise_append.2 ⟨h.2,List.pairwise_singleton _ _,fun a ha b hb=>?_⟩⟩
 ·rcases List.mem_append.1 hs with g | g
  ·exact h.1 s g
  ·rw [List.mem_singleton.1 g];exact hr
 ·rw [List.mem_singleton.1 hb];exact hl a ha
theorem NF.first {r:Rg} {l:List Rg} (h:NF (r::l)) {n:Int} (hn:memR (r::l) n):r.1≤n:=by
 obtain ⟨s,hs,h1,h2⟩:=hn
 rcases List.mem_cons.1 hs with rfl | g
 ·exact h1
 ·have h3:=(List.pairwise_cons.1 h.2).1 s g
  have h4:=h.1 r (by simp)
  omega
theorem NF.eq:∀ {l m:List Rg},NF l→NF m→(∀ n,memR l n↔memR m n)→l=m
 | [],[],_,_,_=>rfl
 | [],r::m,_,hm,h=>by
  have h1:=hm.1 r (by simp)
  exact absurd ((h r.1).2 ⟨r,by simp,Int.le_refl _,h1⟩) (memR_nil _)
 | r::l,[],hl,_,h=>by
  have h1:=hl.1 r (by simp)
  exact absurd ((h r.1).1 ⟨r,by simp,Int.le_refl _,h1⟩) (memR_nil _)
 | r::l,s::m,hl,hm,h=>by
  have hr:=hl.1 r (by simp)
  have hs:=hm.1 s (by simp)
  have a1:s.1≤r.1:=hm.first ((h r.1).1 ⟨r,by simp,Int.le_refl _,hr⟩)
  have a2:r.1≤s.1:=hl.first ((h s.1).2 ⟨s,by simp,Int.le_refl _,hs⟩)
  have out:∀ {q:Rg} {l:List Rg},NF (q::l)→∀ n,n=q.2→¬ memR (q::l) n:=by
   rintro q l hq n rfl ⟨t,ht,h1,h2⟩
   rcases List.mem_cons.1 ht with rfl | g
   ·omega
   ·have:=(List.pairwise_cons.1 hq.2).1 t g
    omega
  have a3:r.2=s.2:=by
   rcases Int.lt_trichotomy r.2 s.2 with g | g | g
   ·exact absurd ((h r.2).2 ⟨s,by simp,by omega,g⟩) (out hl _ rfl)
   ·exact g
   ·exact absurd ((h s.2).1 ⟨r,by simp,by omega,g⟩) (out hm _ rfl)
  have e:r=s:=Prod.ext (by omega) a3
  subst e
  have rest:∀ n,memR l n↔memR m n:=fun n=>by
   have h1:=h n
   rw [memR_cons,memR_cons] at h1
   have no:∀ {l:List Rg},NF (r::l)→memR l n→¬ inRg r n:=by
    rintro l hl ⟨t,ht,h2,h3⟩ ⟨h4,h5⟩
    have:=(List.pairwise_cons.1 hl.2).1 t ht
    omega
   constructor
   ·intro g
    rcases h1.1 (.inr g) with k | k
    ·exact absurd k (no hl g)
    ·exact k
   ·intro g
    rcases h1.2 (.inr g) with k | k
    ·exact absurd k (no hm g)
    ·exact k
  rw [NF.eq hl.tail hm.tail rest]
def mgStep (out:List Rg) (r:Rg):List Rg:=match out.getLast? with
 | some q=>if r.1≤q.2 then out.dropLast++[(q.1,if r.2 > q.2 then r.2 else q.2)] else out++[r]
 | none=>[r]
structure MgI (pre out:List Rg):Prop where
 nf:NF out
 mem:∀ n,memR out n↔memR pre n
 last:∀ q ∈ out,∃ p ∈ pre,q.1≤p.1
theorem mgStep_ok {pre out:List Rg} {r:Rg} (h:MgI pre out) (hr:r.1<r.2) (hs:∀ p ∈ pre,p.1≤r.1):MgI (pre++[r]) (mgStep out r):=by
 unfold mgStep
 cases e:out.getLast? with
 | none=>
  have h0:out=[]:=List.getLast?_eq_none_iff.1 e
  subst h0
  refine ⟨⟨fun s hs=>by rw [List.mem_singleton.1 hs];exact hr,List.pairwise_singleton _ _⟩,fun n=>?_,fun q hq=>⟨r,by simp,by rw [List.mem_singleton.1 hq];exact Int.le_refl _⟩⟩
  rw [memR_append,memR_one,← h.mem n]
  simp [memR]
 | some q=>
  obtain ⟨l,rfl⟩:∃ l,out=l++[q]:=List.getLast?_eq_some_iff.1 e
  have hq:q.1<q.2:=h.nf.1 q (by simp)
  have hqr:q.1≤r.1:=by
   obtain ⟨p,hp,h1⟩:=h.last q (by simp)
   exact Int.le_trans h1 (hs p hp)
  have hl:NF l:=⟨fun s hs=>h.nf.1 s (by simp [hs]),(List.pairwise_append.1 h.nf.2).1⟩
  have hlq:∀ t ∈ l,t.2<q.1:=fun t ht=>(List.pairwise_append.1 h.nf.2).2.2 t ht q (by simp)
  dsimp only
  split
  ·rename_i hle
   rw [List.dropLast_concat]
   have hm:q.2≤(if r.2 > q.2 then r.2 else q.2)∧r.2≤(if r.2 > q.2 then r.2 else q.2)∧((if r.2 > q.2 then r.2 else q.2)=q.2∨(if r.2 > q.2 then r.2 else q.2)=r.2):=by split<;>omega
   generalize (if r.2 > q.2 then r.2 else q.2)=t at hm ⊢
   refine ⟨hl.push (by simp only;omega) hlq,fun n=>?_,fun s hs=>?_⟩
   ·have h1:=h.mem n
    rw [memR_append,memR_one] at h1
    rw [memR_append,memR_append,memR_one,memR_one,← h1]
    constructor
    ·rintro (g | ⟨g1,g2⟩)
     ·exact .inl (.inl g)
     ·simp only at g1 g2
      by_cases g3:n<q.2
      ·exact .inl (.inr ⟨g1,g3⟩)
      ·exact .inr ⟨by omega,by omega⟩
    ·rintro ((g | ⟨g1,g2⟩) | ⟨g1,g2⟩)
     ·exact .inl g
     ·exact .inr ⟨g1,by simp only;omega⟩
     ·exact .inr ⟨by simp only;omega,by simp only;omega⟩
   ·rcases List.mem_append.1 hs with g | g
    ·obtain ⟨p,hp,h1⟩:=h.last s (by simp [g])
     exact ⟨p,by simp [hp],h1⟩
    ·rw [List.mem_singleton.1 g]
     exact ⟨r,by simp,hqr⟩
  ·rename_i hle
   refine ⟨h.nf.push hr fun t ht=>?_,fun n=>?_,fun s hs=>?_⟩
   ·rcases List.mem_append.1 ht with g | g
    ·have:=hlq t g;omega
    ·rw [List.mem_singleton.1 g];omega
   ·rw [memR_append (m:=[r]),memR_append (m:=[r]),h.mem n]
   ·rcases List.mem_append.1 hs with g | g
    ·obtain ⟨p,hp,h1⟩:=h.last s g
     exact ⟨p,by simp [hp],h1⟩
    ·rw [List.mem_singleton.1 g]
     exact ⟨r,by simp,Int.le_refl _⟩
theorem MgI.nil:MgI [] []:=⟨NF.nil,fun _=>Iff.rfl,fun _ h=>nomatch h⟩
structure LsI (M:Int→Prop) (r:Rg) (cut cpre:List Rg) (out:List Rg) (at_:Int):Prop where
 nf:NF out
 ge:r.1≤at_
 lo:∀ q ∈ out,q.2<at_
 hi:∀ q ∈ out,q.2≤r.2
 mem:∀ n,memR out n↔(M n∨(r.1≤n∧n<at_∧n<r.2))∧¬ memR cut n
 done:∀ c ∈ cpre,c.2≤at_∨r.2≤c.1
variable {M:Int→Prop} {r c:Rg} {cut cpre crest out:List Rg} {at_:Int}
theorem LsI.skip (h:LsI M r cut cpre out at_) (hc:c.2≤at_∨r.2≤c.1):LsI M r cut (cpre++[c]) out at_:=
 ⟨h.nf,h.ge,h.lo,h.hi,h.mem,fun d hd=>by
  rcases List.mem_append.1 hd with g | g
  ·exact h.done d g
  ·rw [List.mem_singleton.1 g];exact hc⟩
theorem LsI.far (h:LsI M r cut cpre out at_) (e:cut=cpre++c::crest) (hn:NF cut) (h1:¬ c.2≤at_) (h2:¬ c.1≥r.2) (h3:c.1 > at_):LsI M r cut (cpre++[c]) (out++[(at_,c.1)]) c.2:=by
 have hc:c.1<c.2:=hn.1 c (by simp [e])
 have hnot:∀ n,at_≤n→n<c.1→¬ memR cut n:=by
  rintro n a1 a2 ⟨d,hd,a3,a4⟩
  rw [e] at hd
  rcases List.mem_append.1 hd with g | g
  ·rcases h.done d g with k | k<;>omega
  ·rcases List.mem_cons.1 g with rfl | g
   ·omega
   ·have h5:=hn.2
    rw [e] at h5
    have:=(List.pairwise_cons.1 (List.pairwise_append.1 h5).2.1).1 d g
    omega
 refine ⟨h.nf.push h3 h.lo,by have:=h.ge;omega,fun q hq=>?_,fun q hq=>?_,fun n=>?_,fun d hd=>?_⟩
 ·rcases List.mem_append.1 hq with g | g
  ·have:=h.lo q g;omega
  ·rw [List.mem_singleton.1 g];exact hc
 ·rcases List.mem_append.1 hq with g | g
  ·exact h.hi q g
  ·rw [List.mem_singleton.1 g];simp only;omega
 ·rw [memR_append,memR_one,h.mem n]
  have h6:=h.ge
  constructor
  ·rintro (⟨g1 | ⟨g1,g2,g3⟩,g4⟩ | ⟨g1,g2⟩)
   ·exact ⟨.inl g1,g4⟩
   ·exact ⟨.inr ⟨g1,by omega,g3⟩,g4⟩
   ·simp only at g1 g2
    exact ⟨.inr ⟨by omega,by omega,by omega⟩,hnot n g1 g2⟩
  ·rintro ⟨g1 | ⟨g1,g2,g3⟩,g4⟩
   ·exact .inl ⟨.inl g1,g4⟩
   ·by_cases g5:n<at_
    ·exact .inl ⟨.inr ⟨g1,g5,g3⟩,g4⟩
    ·refine .inr ⟨by simp only;omega,?_⟩
     simp only
     rcases Int.lt_or_le n c.1 with g6 | g6
     ·exact g6
     ·exact absurd ⟨c,by simp [e],g6,g2⟩ g4
 ·rcases List.mem_append.1 hd with g | g
  ·rcases h.done d g with k | k
   ·exact .inl (by omega)
   ·exact .inr k
  ·rw [List.mem_singleton.1 g];exact .inl (Int.le_refl _)
theorem LsI.near (h:LsI M r cut cpre out at_) (e:cut=cpre++c::crest) (h1:¬ c.2≤at_) (h3:¬ c.1 > at_):LsI M r cut (cpre++[c]) out c.2:=by
 refine ⟨h.nf,by have:=h.ge;omega,fun q hq=>by have:=h.lo q hq;omega,h.hi,fun n=>?_,fun d hd=>?_⟩
 ·rw [h.mem n]
  constructor
  ·rintro ⟨g1 | ⟨g1,g2,g3⟩,g4⟩
   ·exact ⟨.inl g1,g4⟩
   ·exact ⟨.inr ⟨g1,by omega,g3⟩,g4⟩
  ·rintro ⟨g1 | ⟨g1,g2,g3⟩,g4⟩
   ·exact ⟨.inl g1,g4⟩
   ·refine ⟨.inr ⟨g1,?_,g3⟩,g4⟩
    rcases Int.lt_or_le n at_ with g5 | g5
    ·exact g5
    ·exact absurd ⟨c,by simp [e],by omega,g2⟩ g4
 ·rcases List.mem_append.1 hd with g | g
  ·rcases h.done d g with k | k
   ·exact .inl (by omega)
   ·exact .inr k
  ·rw [List.mem_singleton.1 g];exact .inl (Int.le_refl _)
structure LsO (cut pre out:List Rg):Prop where
 nf:NF out
 mem:∀ n,memR out n↔memR pre n∧¬ memR cut n
 hi:∀ q ∈ out,∃ p ∈ pre,q.2≤p.2
theorem LsO.nil {cut:List Rg}:LsO cut [] []:=⟨NF.nil,fun n=>⟨fun h=>absurd h (memR_nil n),fun h=>absurd h.1 (memR_nil n)⟩,fun _ h=>nomatch h⟩
theorem LsO.start {pre:List Rg} (h:LsO cut pre out) (hr:r.1<r.2) (hp:∀ p ∈ pre,p.2<r.1):LsI (memR pre) r cut [] out r.1:=by
 have h1:∀ q ∈ out,q.2<r.1:=fun q hq=>by
  obtain ⟨p,hp',h2⟩:=h.hi q hq
  have:=hp p hp'
  omega
 refine ⟨h.nf,Int.le_refl _,h1,fun q hq=>by have:=h1 q hq;omega,fun n=>?_,fun _ h=>nomatch h⟩
 rw [h.mem n]
 constructor
 ·rintro ⟨g1,g2⟩;exact ⟨.inl g1,g2⟩
 ·rintro ⟨g1 | ⟨g1,g2,_⟩,g3⟩
  ·exact ⟨g1,g3⟩
  ·omega
theorem LsI.rest {pre:List Rg} (h:LsI (memR pre) r cut cut out at_) (ho:∀ q ∈ out,q.2≤r.2) (hat:at_<r.2):LsO cut (pre++[r]) (out++[(at_,r.2)]):=by
 refine ⟨h.nf.push hat h.lo,fun n=>?_,fun q hq=>⟨r,by simp,?_⟩⟩
 ·rw [memR_append,memR_one,h.mem n,memR_append,memR_one]
  have h6:=h.ge
  constructor
  ·rintro (⟨g1 | ⟨g1,g2,g3⟩,g4⟩ | ⟨g1,g2⟩)
   ·exact ⟨.inl g1,g4⟩
   ·exact ⟨.inr ⟨g1,g3⟩,g4⟩
   ·simp only at g1 g2
    refine ⟨.inr ⟨by omega,g2⟩,?_⟩
    rintro ⟨c,hc,a1,a2⟩
    rcases h.done c hc with k | k<;>omega
  ·rintro ⟨g1 | ⟨g1,g2⟩,g4⟩
   ·exact .inl ⟨.inl g1,g4⟩
   ·by_cases g5:n<at_
    ·exact .inl ⟨.inr ⟨g1,g5,g2⟩,g4⟩
    ·exact .inr ⟨by simp only;omega,g2⟩
 ·rcases List.mem_append.1 hq with g | g
  ·exact ho q g
  ·rw [List.mem_singleton.1 g];exact Int.le_refl _
theorem LsI.none {pre:List Rg} (h:LsI (memR pre) r cut cut out at_) (hat:¬ at_<r.2):LsO cut (pre++[r]) out:=by
 refine ⟨h.nf,fun n=>?_,fun q hq=>⟨r,by simp,h.hi q hq⟩⟩
 rw [h.mem n,memR_append,memR_one]
 constructor
 ·rintro ⟨g1 | ⟨g1,g2,g3⟩,g4⟩
  ·exact ⟨.inl g1,g4⟩
  ·exact ⟨.inr ⟨g1,g3⟩,g4⟩
 ·rintro ⟨g1 | ⟨g1,g2⟩,g4⟩
  ·exact ⟨.inl g1,g4⟩
  ·exact ⟨.inr ⟨g1,by omega,g2⟩,g4⟩
variable {l away:List Rg} {e e':Int}
variable {n x:Int} {pre next:List Int} {done:Bool}
end Go.Dn
/- Slices of ranges: reading, pushing, storing. -/
namespace Go.Dn
variable {A:AH} {l R:List SP} {P:SP} {k:Nat} {s:Sl} {L:List Rg}
def rgs (L:List Rg):List Value:=L.flatMap rgE
theorem rgs_len:∀ L:List Rg,(rgs L).length=L.length*2
 | []=>rfl
 | y::L=>by
  have:=rgs_len L
  unfold rgs at this ⊢
  rw [List.flatMap_cons,List.length_append,this];simp [rgE];omega
theorem rgs_app (a c:List Rg):rgs (a++c)=rgs a++rgs c:=List.flatMap_append
theorem rgs_at:∀ {L:List Rg} {v:Nat} {y:Rg} {c:Nat} {x:Value},L[v]? = some y→(rgE y)[c]? = some x→(rgs L)[v*2+c]? = some x
 | [],v,a,c,x,h,_=>by simp at h
 | b::r,0,a,c,x,h,hc=>by
  simp at h;subst h
  have hlt:c<2:=(List.getElem?_eq_some_iff.1 hc).1
  unfold rgs
  rw [List.flatMap_cons,List.getElem?_append_left (by simp [rgE];omega),Nat.zero_mul,Nat.zero_add]
  exact hc
 | b::r,v+1,a,c,x,h,hc=>by
  have h:r[v]? = some a:=by simpa using h
  unfold rgs
  rw [List.flatMap_cons,List.getElem?_append_right (by simp [rgE];omega)]
  have:(v+1)*2+c-(rgE b).length=v*2+c:=by simp [rgE];omega
  rw [this]
  exact rgs_at h hc
theorem rgs_one:∀ {L:List Rg} {v:Value},v ∈ rgs L→v.oneCell'=true:=fun {L v} h=>by
 obtain ⟨d,_,hd⟩:=List.mem_flatMap.1 h
 simp [rgE] at hd
 rcases hd with rfl | rfl<;>rfl
theorem rgs_nil {L:List Rg} (h:rgs L=[]):L=[]:=by
 have:=rgs_len L
 rw [h] at this
 exact List.length_eq_zero_iff.1 (by simp at this;omega)
theorem rd_rg_len (h:Own l A) (e:l[k]? = some P) (hr:Reads P s 2 (rgs L)):s.len=L.length:=by
 have:=rd_len h e hr
 rw [rgs_len] at this
 omega
theorem rd_rg {v:Nat} {y:Rg} (h:Own l A) (e:l[k]? = some P) (hr:Reads P s 2 (rgs L)) (hv:L[v]? = some y) :
  ∃ a,s.a=some a∧(∀ K:Int→Prop,K y.1→aI .i64 (Addr.add a (Int.toNat (v:Int)*2)) A K)∧∀ K:Int→Prop,K y.2→aI .i64 (Addr.add (Addr.add a (Int.toNat (v:Int)*2)) 1) A K:=by
 obtain ⟨bb,o,q1,c0⟩:=rd_cell h e hr (j:=v*2+0) (rgs_at hv (c:=0) rfl)
 obtain ⟨b2,o2,q2,c1⟩:=rd_cell h e hr (j:=v*2+1) (rgs_at hv (c:=1) rfl)
 rw [q1] at q2
 cases q2
 refine ⟨_,q1,fun K hK=>⟨_,?_,hK⟩,fun K hK=>⟨_,?_,hK⟩⟩
 ·rw [add_at,Int.toNat_natCast];exact c0
 ·rw [add_at,add_at,Int.toNat_natCast,Nat.add_assoc];exact c1
theorem push_rg {t:TypeId} {x y:Int} {K:Sl→AP} (h:Own (SlO s 2 (rgs L)::R) A) (hs:s.a=none→L=[]) (hb:L.length≤1000000)
  (hk:∀ s' A',(s'.a=none→L++[(x,y)]=[])→Own (SlO s' 2 (rgs (L++[(x,y)]))::R) A'→K s' A') :
  newA A (.cells #[.int .i64 x,.int .i64 y] t) fun b h2=>apA 2 16 #[.int .i64 0,.int .i64 0] t s (Sl.mk (some (Addr.mk b 0 none)) 1 1) h2 K:=by
 have hl:s.len=L.length:=by
  obtain ⟨B,_,hB⟩:=h.sat
  have:=hB.1.1
  rw [rgs_len] at this
  omega
 refine new_C (cs:=[.int .i64 x,.int .i64 y]) h fun b A1 h1=>?_
 have h1:=h1.swap
 refine ap_reads (i:=0) h1 rfl (reads_at (n:=1) (sz:=2) (cs:=[.int .i64 x,.int .i64 y]) (rest:=[]) rfl) (fun g=>nomatch g) (fun g=>by rw [hs g];rfl) rfl (fun v hv=>?_) ⟨by simp only [hl];omega,by simp only [hl];omega⟩ fun s' A2 j1 j2 h2=>?_
 ·simp at hv;rcases hv with rfl | rfl<;>rfl
 ·refine hk s' A2 (fun g=>?_) ?_
  ·have:=j2 g
   simp at this
  ·rw [rgs_app]
   exact Own.cons (fun C hC=>hC.tail) h2
theorem reads_slB {sz:Nat} {cs:List Value}:Reads (SlO s sz cs) s sz cs:=fun _ _ h u=>⟨h.look.1,fun _ _ hv=>h.look.cell u hv⟩
theorem Own.rgs_len (h:Own (SlO s 2 (rgs L)::R) A):s.len=L.length:=rd_rg_len (k:=0) h rfl reads_slB
theorem st_slo {sz j:Nat} {cs:List Value} {v:Value} {a:Addr} {K:AP} (h:Own (SlO s sz cs::R) A) (ha:s.a=some a) (hj:j<cs.length) (hv:v.oneCell'=true) (hk:∀ A',Own (SlO s sz (cs.set j v)::R) A'→K A'):aC (Addr.add a j) v A K:=by
 obtain ⟨⟨h1,h2⟩,h3⟩:=h.pure
 have h4:Own ((fun B=>∃ b rest,s.a=some ⟨b,0,none⟩∧(cs++rest).length=s.cap*sz∧At b (cs++rest) B)::R) A:=h3.imp fun B hB=>by
  rcases hB with hB | hB
  ·exfalso
   have h5:s.len=0:=by omega
   rw [h5] at h1
   simp at h1
   omega
  ·exact hB
 obtain ⟨b,h4⟩:=h4.ex
 obtain ⟨rest,h4⟩:=h4.ex
 obtain ⟨ha2,h4⟩:=h4.pure
 obtain ⟨hc,h4⟩:=h4.pure
 rw [ha] at ha2
 cases ha2
 rw [add_at,Nat.zero_add]
 refine st_C (i:=0) h4 rfl (by simp;omega) hv fun A' h'=>hk A' ?_
 have e:(cs++rest).set j v=cs.set j v++rest:=List.set_append_left _ _ hj
 refine Own.imp (P:=At b (cs.set j v++rest)) (fun B hB=>⟨⟨by simpa using h1,h2⟩,.inr ⟨b,rest,ha,by simpa using hc,hB⟩⟩) ?_
 rw [←e]
 exact h'
theorem rgs_set:∀ {L:List Rg} {i:Nat} {r:Rg} (y:Int),L[i]? = some r→(rgs L).set (i*2+1) (.int .i64 y)=rgs (L.set i (r.1,y))
 | [],_,_,_,e=>by simp at e
 | d::L,0,r,y,e=>by
  simp at e;subst e
  rfl
 | d::L,i+1,r,y,e=>by
  have:=rgs_set (L:=L) (i:=i) y (by simpa using e)
  show (rgE d++rgs L).set ((i+1)*2+1) _=rgE d++rgs (L.set i (r.1,y))
  rw [List.set_append_right _ _ (by simp [rgE];omega)]
  rw [show (i+1)*2+1-(rgE d).length=i*2+1 by simp [rgE];omega,this]
theorem rgs_set0:∀ {L:List Rg} {i:Nat} {r:Rg} (y:Int),L[i]? = some r→(rgs L).set (i*2) (.int .i64 y)=rgs (L.set i (y,r.2))
 | [],_,_,_,e=>by simp at e
 | d::L,0,r,y,e=>by
  simp at e;subst e
  rfl
 | d::L,i+1,r,y,e=>by
  have:=rgs_set0 (L:=L) (i:=i) y (by simpa using e)
  show (rgE d++rgs L).set ((i+1)*2) _=rgE d++rgs (L.set i (y,r.2))
  rw [List.set_append_right _ _ (by simp [rgE];omega)]
  rw [show (i+1)*2-(rgE d).length=i*2 by simp [rgE];omega,this]
theorem Own.nilS {sz:Nat} (h:Own l A):Own (SlO Sl.nil sz []::l) A:=⟨fun _=>none,A,fun _=>.inl rfl,(fun _ _ e=>nomatch e),Sub.refl A,SlO.nil,h⟩
theorem Own.openS {sz:Nat} {cs:List Value} (h:Own (SlO s sz cs::R) A) (hne:cs≠[]):∃ b rest,s.a=some ⟨b,0,none⟩∧(cs++rest).length=s.cap*sz∧s.len*sz=cs.length∧s.len≤s.cap∧Own (At b (cs++rest)::R) A:=by
 obtain ⟨⟨h1,h2⟩,h3⟩:=h.pure
 have h4:Own ((fun B=>∃ b rest,s.a=some ⟨b,0,none⟩∧(cs++rest).length=s.cap*sz∧At b (cs++rest) B)::R) A:=h3.imp fun B hB=>by
  rcases hB with hB | hB
  ·exfalso
   have h5:s.len=0:=by omega
   rw [h5] at h1
   simp at h1
   exact hne (List.length_eq_zero_iff.1 h1.symm)
  ·exact hB
 obtain ⟨b,h4⟩:=h4.ex
 obtain ⟨rest,h4⟩:=h4.ex
 obtain ⟨ha2,h4⟩:=h4.pure
 obtain ⟨hc,h4⟩:=h4.pure
 exact ⟨b,rest,ha2,hc,h1,h2,h4⟩
theorem Own.shutS {sz b:Nat} {cs rest:List Value} (h:Own (At b (cs++rest)::R) A) (ha:s.a=some ⟨b,0,none⟩) (hc:(cs++rest).length=s.cap*sz) (h1:s.len*sz=cs.length) (h2:s.len≤s.cap):Own (SlO s sz cs::R) A:=
 h.imp fun _ hB=>⟨⟨h1,h2⟩,.inr ⟨b,rest,ha,hc,hB⟩⟩
end Go.Dn
/- bootmap.Merge. -/
namespace Go.Dn
open Go.Proofs
variable {A:AH} {l R:List SP} {P:SP} {k:Nat} {s:Sl} {L:List Rg}
theorem CloneR_spec {Q:Sl→AH→Prop} (h:Own l A) (e:l[k]? = some P) (hr:Reads P s 2 (rgs L)) (hb:L.length≤1000000) (hn:s.a=none→L=[])
  (hk:∀ s' A',(s'.a=none→L=[])→Own (SlO s' 2 (rgs L)::l) A'→Q s' A'):qaf_A s Q A:=by
 have hl:=rd_rg_len h e hr
 unfold qaf_A
 refine bsel_in (fun c=>?_) fun c=>?_
 ·have h0:=hn (by simpa using c)
  subst h0
  exact hk _ A (fun _=>rfl) h.nilS
 ·refine new_C (cs:=[]) h fun b1 A1 h1=>?_
  have h1:Own (SlO ⟨some ⟨b1,0,none⟩,0,0⟩ 2 []::l) A1:=h1.imp fun B _=>⟨⟨by simp,Nat.le_refl _⟩,.inl rfl⟩
  refine ap_reads (i:=k) h1 e hr (fun g=>by rw [hn g];rfl) (fun g=>by cases g) rfl (fun v hv=>rgs_one hv) ⟨by simp only [hl];omega,by simp only [hl];omega⟩ fun s' A2 j1 j2 h2=>?_
  exact hk s' A2 (fun g=>rgs_nil (by simpa using j2 g)) (by simpa using h2)
def bad (r:Rg):Bool:=decide (r.2≤r.1)
def firstBad:List Rg→Option Nat
 | []=>none
 | d::r=>if bad d then some 0 else (firstBad r).map (·+1)
theorem firstBad_none:∀ {L:List Rg},firstBad L=none→∀ r ∈ L,bad r=false
 | [],_,_,h=>nomatch h
 | d::L,h,r,hr=>by
  unfold firstBad at h
  split at h
  ·cases h
  ·rename_i g
   rcases List.mem_cons.1 hr with rfl | hr
   ·simpa using g
   ·exact firstBad_none (by cases e:firstBad L with | none=>rfl | some j=>rw [e] at h;cases h) r hr
theorem firstBad_some:∀ {L:List Rg} {j:Nat},firstBad L=some j→∃ r,L[j]? = some r∧bad r=true∧∀ r ∈ L.take j,bad r=false
 | [],_,h=>by simp [firstBad] at h
 | d::L,j,h=>by
  unfold firstBad at h
  split at h
  ·rename_i g
   cases h
   exact ⟨d,rfl,g,fun _ h=>by simp at h⟩
  ·rename_i g
   cases e:firstBad L with
   | none=>rw [e] at h;cases h
   | some i=>
    rw [e] at h
    cases h
    obtain ⟨r,h1,h2,h3⟩:=firstBad_some e
    refine ⟨r,by simpa using h1,h2,fun q hq=>?_⟩
    simp at hq
    rcases hq with rfl | hq
    ·simpa using g
    ·exact h3 q hq
theorem drop_at {α:Type} {L:List α} {v:Nat} {y:α} (h:L[v]? = some y):L.drop v=y::L.drop (v+1):=by
 obtain ⟨hv,e⟩:=List.getElem?_eq_some_iff.1 h
 rw [List.drop_eq_getElem_cons hv,e]
theorem firstBad_drop {v:Nat} {d:Rg} (hd:L[v]? = some d):firstBad (L.drop v)=if bad d then some 0 else (firstBad (L.drop (v+1))).map (·+1):=by
 rw [drop_at hd]
 rfl
theorem take_at {α:Type} {L:List α} {v:Nat} {y:α} (h:L[v]? = some y):L.take (v+1)=L.take v++[y]:=by
 obtain ⟨hv,e⟩:=List.getElem?_eq_some_iff.1 h
 rw [List.take_add_one,h];rfl
theorem IndexBad_spec {Q:Int→AH→Prop} (h:Own l A) (e:l[k]? = some P) (hr:Reads P s 2 (rgs L)) (hb:L.length≤1000000) (h0:firstBad L=none→Q (-1) A) (h1:∀ j:Nat,firstBad L=some j→Q j A) :
  qah_A s Q A:=by
 have hl:=rd_rg_len h e hr
 unfold qah_A qah_G
 refine ⟨fun x m h'=>∃ v:Nat,x=v∧m+v=L.length∧h'=A∧firstBad L=(firstBad (L.drop v)).map (·+v),⟨L.length,0,rfl,rfl,rfl,by rw [List.drop_zero];cases firstBad L<;>rfl⟩,?_⟩
 intro x m A1 ⟨v,e1,e2,e3,e4⟩
 subst e1 e3
 refine bsel_in (fun c=>?_) fun c=>?_
 ·have c:(v:Int)<s.len:=of_decide_eq_true c
  obtain ⟨d,hd⟩:∃ d,L[v]? = some d:=⟨L[v]'(by omega),by simp⟩
  obtain ⟨a,q1,r1,r2⟩:=rd_rg h e hr hd
  rw [q1]
  refine inB_in (by omega) c (r1 _ (r2 _ ?_))
  unfold qag_A
  rw [firstBad_drop hd] at e4
  refine bsel_in (fun g=>?_) fun g=>?_
  ·rw [if_pos (show bad d=true from g)] at e4
   exact h1 v (by rw [e4];simp)
  ·rw [if_neg (by rw [show bad d=false from g];simp)] at e4
   refine ⟨m-1,by omega,v+1,by rw [w64]<;>omega,by omega,rfl,?_⟩
   rw [e4]
   cases firstBad (L.drop (v+1)) with
   | none=>rfl
   | some j=>simp;omega
 ·have c:¬(v:Int)<s.len:=of_decide_eq_false c
  refine h0 ?_
  rw [e4,List.drop_eq_nil_of_le (by omega)];rfl
theorem zeroCells_one {z:Array Value} {n:Nat} (hz:∀ v ∈ z.toList,v.oneCell'=true):∀ v ∈ (Builtin.zeroCells z n).toList,v.oneCell'=true:=fun v hv=>by
 have hv:=Array.mem_toList_iff.1 hv
 unfold Builtin.zeroCells at hv
 obtain ⟨i,hi,rfl⟩:=Array.mem_map.1 hv
 have hi:=Array.mem_range.1 hi
 have h0:0<z.size:=by
  rcases Nat.eq_zero_or_pos z.size with q | q
  ·rw [q] at hi;simp at hi
  ·exact q
 have hlt:i % z.size<z.size:=Nat.mod_lt _ h0
 rw [getElem!_pos z _ hlt]
 exact hz _ (by simp)
def good (r:Rg):Bool:=!bad r
theorem set_set_at {C:List Rg} {i:Nat} {y:Rg} (hi:i<C.length):(C.set i y).take (i+1)=C.take i++[y]:=by
 rw [take_at (v:=i) (y:=y) (by simp [hi]),List.take_set_of_le (Nat.le_refl _)]
theorem Delete_spec {Q:Sl→AH→Prop} (h:Own (SlO s 2 (rgs L)::R) A) (hs:s.a=none→L=[]) (hb:L.length≤1000000)
  (hk:∀ s' A',(s'.a=none→L.filter good=[])→Own (SlO s' 2 (rgs (L.filter good))::R) A'→Q s' A'):qai_A s Q A:=by
 have hl:=h.rgs_len
 unfold qai_A qai_G
 refine IndexBad_spec (k:=0) h rfl reads_slB hb (fun h0=>?_) fun j hj=>?_
 ·refine bsel_t (by simp) ?_
  have:L.filter good=L:=List.filter_eq_self.2 fun r hr=>by simp [good,firstBad_none h0 r hr]
  exact hk s A (fun g=>by rw [this];exact hs g) (by rw [this];exact h)
 ·refine bsel_f (by simp) ?_
  obtain ⟨r0,g1,g2,g3⟩:=firstBad_some hj
  have hjl:=(List.getElem?_eq_some_iff.1 g1).1
  have hf0:L.take j=(L.take j).filter good:=(List.filter_eq_self.2 fun r hr=>by simp [good,g3 r hr]).symm
  refine ⟨fun x y m h'=>∃ (i v:Nat) (C:List Rg),x=i∧y=v∧m+v=L.length∧C.length=L.length∧i<v∧v≤L.length∧C.take i=(L.take v).filter good∧C.drop v=L.drop v∧Own (SlO s 2 (rgs C)::R) h',
   ⟨L.length-(j+1),j,j+1,L,rfl,by rw [w64]<;>omega,by omega,rfl,by omega,by omega,?_,rfl,h⟩,?_⟩
  ·rw [take_at g1,List.filter_append,← hf0]
   simp [good,g2]
  ·intro x y m A1 ⟨i,v,C,e1,e2,e3,e4,e5,e6,e7,e8,h1⟩
   subst e1 e2
   have hl1:=h1.rgs_len
   refine bsel_in (fun c=>?_) fun c=>?_
   ·have c:(v:Int)<s.len:=of_decide_eq_true c
    refine ⟨fun x h'=>∃ (i':Nat) (C':List Rg),x=i'∧C'.length=L.length∧i'<v+1∧C'.take i'=(L.take (v+1)).filter good∧C'.drop (v+1)=L.drop (v+1)∧Own (SlO s 2 (rgs C')::R) h',?_,?_⟩
    ·intro x A2 ⟨i',C',f1,f2,f3,f4,f5,h2⟩
     subst f1
     exact ⟨m-1,by omega,i',v+1,C',rfl,by rw [w64]<;>omega,by omega,f2,f3,by omega,f4,f5,h2⟩
    ·obtain ⟨d,hd⟩:∃ d,L[v]? = some d:=⟨L[v]'(by omega),by simp⟩
     have hdC:C[v]? = some d:=by
      have:=congrArg (·[0]?) e8
      simpa [hd] using this
     have hdrop:C.drop (v+1)=L.drop (v+1):=by
      have:=congrArg (List.drop 1) e8
      simpa [Nat.add_comm] using this
     obtain ⟨a,q1,r1,r2⟩:=rd_rg (k:=0) h1 rfl reads_slB hdC
     rw [q1]
     refine inB_in (by omega) c (r1 _ (r2 _ ?_))
     unfold qag_A
     have hbd:bad d=decide (d.2≤d.1):=rfl
     refine bsel_in (fun g=>?_) fun g=>?_
     ·have g:bad d=false:=by rw [hbd];simpa using g
      have hi:i<C.length:=by omega
      refine inB_in (by omega) (by omega) ?_
      obtain ⟨y0,hy0⟩:∃ y0,C[i]? = some y0:=⟨C[i],by simp⟩
      rw [Int.toNat_natCast]
      refine st_slo h1 q1 (by rw [rgs_len];omega) rfl fun A2 h2=>?_
      rw [rgs_set0 d.1 hy0] at h2
      have had:Addr.add (Addr.add a (i*2)) 1=Addr.add a (i*2+1):=by
       obtain ⟨b,rest,ha,_⟩:=h2.openS (fun g=>by have:=rgs_len (C.set i (d.1,y0.2));rw [g] at this;simp at this;omega)
       rw [q1] at ha
       cases ha
       rw [add_at,add_at,add_at]
       congr 1
      rw [had]
      refine st_slo h2 q1 (by rw [rgs_len];simp;omega) rfl fun A3 h3=>?_
      rw [rgs_set (r:=(d.1,y0.2)) d.2 (by simp [hi]),List.set_set] at h3
      refine ⟨i+1,C.set i d,by rw [w64]<;>omega,by simpa using e4,by omega,?_,?_,h3⟩
      ·rw [set_set_at hi,e7,take_at hd,List.filter_append]
       simp [good,g]
      ·rw [List.drop_set_of_lt (by omega),hdrop]
     ·have g:bad d=true:=by rw [hbd];simpa using g
      refine ⟨i,C,rfl,e4,by omega,?_,hdrop,h1⟩
      rw [e7,take_at hd,List.filter_append]
      simp [good,g]
   ·have c:¬(v:Int)<s.len:=of_decide_eq_false c
    have hv:v=L.length:=by omega
    subst hv
    have hC:rgs C≠[]:=fun g=>by have:=rgs_nil g;rw [this] at e4;simp at e4;omega
    obtain ⟨b,rest,ha,hc,hn1,hn2,h2⟩:=h1.openS hC
    refine inB_in (by omega) (by omega) ?_
    have hsl:(if s.cap=Int.toNat (i:Int) then s.a else Option.map (fun x=>Addr.add x (Int.toNat (i:Int)*2)) s.a)=some ⟨b,i*2,none⟩:=by
     rw [if_neg (by omega),ha]
     simp [add_at]
    rw [hsl,Int.toNat_natCast]
    show aStL (Builtin.zeroCells _ _).toList (Addr.add ⟨b,i*2,none⟩ 0) 0 A1 _
    rw [add_at,Nat.add_zero]
    have hsplit:rgs C++rest=rgs (C.take i)++rgs (C.drop i)++rest:=by
     rw [←rgs_app]
     rw [List.take_append_drop]
    rw [hsplit] at h2
    refine stL_spec _ 0 A1 (rgs (C.take i)) (rgs (C.drop i)) rest _ h2 ?_ ?_ (zeroCells_one (fun v hv=>by simp at hv;subst hv;rfl)) fun A2 h3=>?_
    ·have hz:=zeroCells_len (z:=#[Value.int IntKind.i64 0,Value.int IntKind.i64 0]) (n:=s.len-i)
     have hz2:(#[Value.int IntKind.i64 0,Value.int IntKind.i64 0]:Array Value).size=2:=rfl
     rw [hz2] at hz
     show (rgs (C.drop i)).length=(Builtin.zeroCells #[Value.int IntKind.i64 0,Value.int IntKind.i64 0] (s.len-i)).size
     rw [rgs_len,hz,List.length_drop]
     omega
    ·rw [rgs_len];simp;omega
    ·refine inB_in (by omega) (by omega) ?_
     have hsa:(if s.cap=0 then s.a else Option.map (fun x=>Addr.add x (0*2)) s.a)=some ⟨b,0,none⟩:=by
      rw [if_neg (by omega),ha]
      simp [add_at]
     rw [hsa]
     refine hk _ A2 (fun g=>nomatch g) ?_
     rw [e7,List.take_length,List.append_assoc] at h3
     refine Own.shutS h3 rfl ?_ ?_ ?_
     ·have hz:=zeroCells_len (z:=#[Value.int IntKind.i64 0,Value.int IntKind.i64 0]) (n:=s.len-i)
      have hz2:(#[Value.int IntKind.i64 0,Value.int IntKind.i64 0]:Array Value).size=2:=rfl
      rw [hz2] at hz
      have h5:=congrArg List.length e7
      rw [List.take_length,List.length_take] at h5
      have h6:(rgs C++rest).length=C.length*2+rest.length:=by rw [List.length_append,rgs_len]
      rw [h6] at hc
      show (rgs (L.filter good)++((Builtin.zeroCells #[Value.int IntKind.i64 0,Value.int IntKind.i64 0] (s.len-i)).toList++rest)).length=s.cap*2
      have hz':(Builtin.zeroCells #[Value.int IntKind.i64 0,Value.int IntKind.i64 0] (s.len-i)).toList.length=(s.len-i)*2:=hz
      rw [List.length_append,List.length_append,hz',rgs_len,← h5]
      omega
     ·have h5:=congrArg List.length e7
      rw [rgs_len]
      simp only [List.length_take,Int.toNat_natCast] at h5 ⊢
      rw [List.take_length] at h5
      omega
     ·simp only [Int.toNat_natCast];omega
theorem Sort_spec {K:AP} (h:Own (SlO s 2 (rgs L)::R) A) (hs:s.a=none→L=[]) (hb:L.length≤1000000)
  (hk:∀ d':List Rg,d'.Perm L→d'.Pairwise (fun x y=>x.1≤y.1)→∀ A',Own (SlO s 2 (rgs d')::R) A'→K A'):qaj_A s K A:=by
 have hl:=h.rgs_len
 unfold qaj_A
 have hsrt:∀ d':List Rg,d'.Pairwise (fun x y=>ltOf rgCf y x=false)→d'.Pairwise (fun x y=>x.1≤y.1):=fun d' hd=>hd.imp fun {x y} g=>by rw [rgLt] at g;simp at g;exact g
 by_cases hne:L=[]
 ·subst hne
  have h0:s.len=0:=by simpa using hl
  refine ⟨[],by simp [h0],by omega,?_,fun a ha i hi=>by rw [h0] at hi;omega,fun d' hp hd=>?_⟩
  ·cases ha:s.a with
   | none=>rfl
   | some a=>exact ⟨by simp [h0],fun i hi=>by rw [h0] at hi;omega⟩
  ·have:=hp.eq_nil
   subst this
   have hst:aStR s.a 0 [] A K↔K A:=by cases s.a<;>exact Iff.rfl
   show aStR s.a 0 [] A K
   rw [hst]
   exact hk [] (List.Perm.refl _) List.Pairwise.nil A h
 ·have hr:rgs L≠[]:=fun g=>hne (rgs_nil g)
  obtain ⟨b,rest,ha,hc,hn1,hn2,h2⟩:=h.openS hr
  obtain ⟨B,u,hB⟩:=h.sat
  obtain ⟨t,ht⟩:=h2.at (i:=0) rfl
  refine ⟨L,hl.symm,by omega,?_,fun a ha' i hi=>?_,fun d' hp hd=>?_⟩
  ·exact rowA_of hB.look u (fun g=>by rw [ha] at g;cases g)
  ·rw [ha] at ha'
   cases ha'
   rw [add_at]
   simp [frozA,ht]
  ·rw [ha]
   have hlen:d'.length=L.length:=hp.length_eq
   show aStL (rgs d') (Addr.add ⟨b,0,none⟩ 0) 0 A K
   rw [add_at]
   refine stL_spec (rgs d') 0 A [] (rgs L) rest K h2 (by rw [rgs_len,rgs_len,hlen]) rfl (fun v hv=>rgs_one hv) fun A' h'=>?_
   refine hk d' hp (hsrt d' hd) A' (Own.shutS h' ha ?_ ?_ hn2)
   ·rw [←hc];simp [rgs_len,hlen]
   ·rw [hn1,rgs_len,rgs_len,hlen]
theorem mg_none {out:List Rg} {r:Rg} (h:out.getLast? = none):mgStep out r=out++[r]:=by
 have h0:out=[]:=List.getLast?_eq_none_iff.1 h
 subst h0
 rfl
theorem mem_filter_good {L:List Rg} {n:Int}:memR (L.filter good) n↔memR L n:=by
 constructor
 ·rintro ⟨r,hr,h⟩
  exact ⟨r,(List.mem_filter.1 hr).1,h⟩
 ·rintro ⟨r,hr,h1,h2⟩
  refine ⟨r,List.mem_filter.2 ⟨hr,?_⟩,h1,h2⟩
  have:bad r=false:=by unfold bad;simp;omega
  simp [good,this]
theorem Merge_spec {Q:Sl→AH→Prop} (h:Own l A) (e:l[k]? = some P) (hr:Reads P s 2 (rgs L)) (hb:L.length≤100000) (hn:s.a=none→L=[])
  (hk:∀ m:List Rg,NF m→(∀ n,memR m n↔memR L n)→m.length≤L.length→∀ s' A',(s'.a=none→m=[])→Own (SlO s' 2 (rgs m)::l) A'→Q s' A'):qak_A s Q A:=by
 unfold qak_A qak_G
 refine CloneR_spec h e hr (by omega) hn fun s1 A1 hs1 h1=>?_
 refine Delete_spec h1 hs1 (by omega) fun s3 A2 hs3 h2=>?_
 have hfl:(L.filter good).length≤L.length:=List.length_filter_le _ _
 refine Sort_spec h2 hs3 (by omega) fun d hp hd A3 h3=>?_
 have hdl:d.length≤L.length:=by rw [hp.length_eq];exact hfl
 have hs3':s3.a=none→d=[]:=fun g=>by
  have:=hs3 g
  rw [this] at hp
  exact hp.eq_nil
 have hdlt:∀ r ∈ d,r.1<r.2:=fun r hr'=>by
  have:=(List.mem_filter.1 (hp.mem_iff.1 hr')).2
  simp [good,bad] at this
  exact this
 have hmem:∀ n,memR d n↔memR L n:=fun n=>by
  rw [←mem_filter_good (L:=L)]
  constructor
  ·rintro ⟨r,hr',g⟩;exact ⟨r,hp.mem_iff.1 hr',g⟩
  ·rintro ⟨r,hr',g⟩;exact ⟨r,hp.mem_iff.2 hr',g⟩
 have hl3:=h3.rgs_len
 refine ⟨fun o x m h'=>∃ (v:Nat) (out:List Rg),x=v∧m+v=d.length∧MgI (d.take v) out∧out.length≤v∧(o.a=none→out=[])∧Own (SlO o 2 (rgs out)::SlO s3 2 (rgs d)::l) h',
  ⟨d.length,0,[],rfl,by omega,by simpa using MgI.nil,by simp,fun _=>rfl,h3.nilS⟩,?_⟩
 intro o x m A4 ⟨v,out,e1,e2,hI,hol,hon,h4⟩
 subst e1
 have hol4:=h4.rgs_len
 refine bsel_in (fun c=>?_) fun c=>?_
 ·have c:(v:Int)<s3.len:=of_decide_eq_true c
  obtain ⟨r,hrv⟩:∃ r,d[v]? = some r:=⟨d[v]'(by omega),by simp⟩
  have hrm:r ∈ d:=List.mem_of_getElem? hrv
  have hstep:MgI (d.take (v+1)) (mgStep out r):=by
   rw [take_at hrv]
   refine mgStep_ok hI (hdlt r hrm) fun p hp'=>?_
   obtain ⟨i,hi⟩:=List.mem_iff_getElem?.1 hp'
   have hlt:i<v:=by
    have:=(List.getElem?_eq_some_iff.1 hi).1
    simp at this;omega
   rw [List.getElem?_take_of_lt hlt] at hi
   obtain ⟨hi1,hi2⟩:=List.getElem?_eq_some_iff.1 hi
   obtain ⟨hv1,hv2⟩:=List.getElem?_eq_some_iff.1 hrv
   have:=List.pairwise_iff_getElem.1 hd i v hi1 hv1 hlt
   rw [hi2,hv2] at this
   exact this
  refine ⟨fun o' h'=>∃ out',out'=mgStep out r∧out'.length≤v+1∧(o'.a=none→out'=[])∧Own (SlO o' 2 (rgs out')::SlO s3 2 (rgs d)::l) h',?_,?_⟩
  ·intro o' A5 ⟨out',f1,f2,f3,h5⟩
   refine ⟨m-1,by omega,v+1,out',by rw [w64]<;>omega,by omega,?_,f2,f3,h5⟩
   rw [f1];exact hstep
  ·obtain ⟨a,q1,r1,r2⟩:=rd_rg (k:=1) h4 rfl reads_slB hrv
   rw [q1]
   refine inB_in (by omega) c (r1 _ (r2 _ ?_))
   refine ⟨fun b h'=>h'=A4∧b=(match out.getLast? with | some q=>decide (r.1≤q.2) | none=>false),?_,?_⟩
   ·intro b A5 ⟨f1,f2⟩
    subst f1
    cases hlast:out.getLast? with
    | none=>
     rw [hlast] at f2
     subst f2
     refine bsel_f rfl ?_
     refine push_rg h4 hon (by omega) fun s' A6 g1 h6=>?_
     exact ⟨out++[r],(mg_none hlast).symm,by simp;omega,g1,h6⟩
    | some q=>
     rw [hlast] at f2
     have hmg:mgStep out r=if r.1≤q.2 then out.dropLast++[(q.1,if r.2 > q.2 then r.2 else q.2)] else out++[r]:=by unfold mgStep;rw [hlast]
     obtain ⟨ol,hol'⟩:=List.getLast?_eq_some_iff.1 hlast
     have hpos:0<out.length:=by rw [hol'];simp
     have hqi:out[out.length-1]? = some q:=by rw [hol'];simp
     by_cases hle:r.1≤q.2
     ·refine bsel_t (by rw [f2];simpa using hle) ?_
      have hw:IntKind.wrap .i64 (Int.ofNat o.len-1)=((out.length-1:Nat):Int):=by
       rw [w64]<;>simp only [Int.ofNat_eq_natCast]<;>omega
      rw [hw]
      obtain ⟨a2,q2,t1,t2⟩:=rd_rg (k:=0) h4 rfl reads_slB hqi
      rw [q2]
      refine inB_in (by omega) (by omega) (t2 _ ?_)
      refine inB_in (by omega) (by omega) ?_
      have had:Addr.add (Addr.add a2 (Int.toNat ((out.length-1:Nat):Int)*2)) 1=Addr.add a2 ((out.length-1)*2+1):=by
       obtain ⟨b,rest,ha,_⟩:=h4.openS (fun g=>by have:=rgs_nil g;rw [this] at hpos;simp at hpos)
       rw [q2] at ha
       cases ha
       rw [add_at,add_at,add_at,Int.toNat_natCast]
       congr 1
      rw [had]
      refine st_slo h4 q2 (by rw [rgs_len];omega) rfl fun A6 h6=>?_
      rw [rgs_set _ hqi] at h6
      refine ⟨_,rfl,?_,fun g=>?_,?_⟩
      ·rw [hmg,if_pos hle,hol'];simp;rw [hol'] at hol;simp at hol;omega
      ·rw [q2] at g;cases g
      ·rw [hmg,if_pos hle]
       have:out.set (out.length-1) (q.1,if r.2 > q.2 then r.2 else q.2)=out.dropLast++[(q.1,if r.2 > q.2 then r.2 else q.2)]:=by
        rw [hol']
        simp [List.dropLast_concat,List.set_append_right]
       rw [←this]
       exact h6
     ·refine bsel_f (by rw [f2];simpa using hle) ?_
      refine push_rg h4 hon (by omega) fun s' A6 g1 h6=>?_
      exact ⟨out++[r],by rw [hmg,if_neg hle],by simp;omega,g1,h6⟩
   ·refine bsel_in (fun g=>?_) fun g=>?_
    ·have g:(0:Int)<o.len:=by simpa using g
     have hpos:0<out.length:=by omega
     obtain ⟨q,hq⟩:∃ q,out.getLast? = some q:=by
      cases e':out.getLast? with
      | none=>rw [List.getLast?_eq_none_iff.1 e'] at hpos;simp at hpos
      | some q=>exact ⟨q,rfl⟩
     obtain ⟨ol,hol'⟩:=List.getLast?_eq_some_iff.1 hq
     have hqi:out[out.length-1]? = some q:=by rw [hol'];simp
     have hw:IntKind.wrap .i64 (Int.ofNat o.len-1)=((out.length-1:Nat):Int):=by
      rw [w64]<;>simp only [Int.ofNat_eq_natCast]<;>omega
     rw [hw]
     obtain ⟨a2,q2,t1,t2⟩:=rd_rg (k:=0) h4 rfl reads_slB hqi
     rw [q2]
     exact inB_in (by omega) (by omega) (t2 _ ⟨rfl,by rw [hq]⟩)
    ·have g:¬ (0:Int)<o.len:=by simpa using g
     have h0:out=[]:=List.length_eq_zero_iff.1 (by omega)
     exact ⟨rfl,by rw [h0];rfl⟩
 ·have c:¬(v:Int)<s3.len:=of_decide_eq_false c
  have hv:v=d.length:=by omega
  subst hv
  rw [List.take_length] at hI
  exact hk out hI.nf (fun n=>(hI.mem n).trans (hmem n)) (by omega) o A4 hon (h4.cons fun C hC=>hC.tail)
end Go.Dn
/- bootmap.Less. -/
namespace Go.Dn
variable {A:AH} {l R:List SP} {P P2:SP} {k k2:Nat} {s s2:Sl} {L AW:List Rg}
theorem Less_spec {Q:Sl→AH→Prop} (h:Own l A) (e:l[k]? = some P) (hr:Reads P s 2 (rgs L)) (hb:L.length≤100000) (hn:s.a=none→L=[])
  (e2:l[k2]? = some P2) (hr2:Reads P2 s2 2 (rgs AW)) (hb2:AW.length≤100000) (hn2:s2.a=none→AW=[]) (hbb:L.length*(AW.length+1)≤900000)
  (hk:∀ m:List Rg,NF m→(∀ n,memR m n↔memR L n∧¬ memR AW n)→m.length≤L.length*(AW.length+1)→∀ s' A',(s'.a=none→m=[])→Own (SlO s' 2 (rgs m)::l) A'→Q s' A'):qal_A s s2 Q A:=by
 unfold qal_A qal_G
 refine Merge_spec h e2 hr2 (by omega) hn2 fun cut hcut hcm hcl s1 A1 hs1 h1=>?_
 refine Merge_spec (k:=k+1) h1 (by simpa using e) hr (by omega) hn fun ml hml hmm hmll s3 A2 hs3 h2=>?_
 have hl3:=h2.rgs_len
 have hN:∀ v:Nat,v≤ml.length→v*(cut.length+1)≤L.length*(AW.length+1):=fun v hv=>Nat.mul_le_mul (Nat.le_trans hv hmll) (Nat.add_le_add_right hcl 1)
 generalize L.length*(AW.length+1)=BB at *
 obtain ⟨N,hNe⟩:∃ N,N=cut.length+1:=⟨_,rfl⟩
 rw [←hNe] at hN
 refine ⟨fun o x m h'=>∃ (v:Nat) (out:List Rg),x=v∧m+v=ml.length∧LsO cut (ml.take v) out∧out.length≤v*N∧(o.a=none→out=[])∧Own (SlO o 2 (rgs out)::SlO s3 2 (rgs ml)::SlO s1 2 (rgs cut)::l) h',
  ⟨ml.length,0,[],rfl,by omega,by simpa using LsO.nil,by simp,fun _=>rfl,h2.nilS⟩,?_⟩
 intro o x m A3 ⟨v,out,e3,e4,hI,hol,hon,h3⟩
 subst e3
 refine bsel_in (fun c=>?_) fun c=>?_
 ·have c:(v:Int)<s3.len:=of_decide_eq_true c
  obtain ⟨r,hrv⟩:∃ r,ml[v]? = some r:=⟨ml[v]'(by omega),by simp⟩
  have hrm:r ∈ ml:=List.mem_of_getElem? hrv
  have hr12:=hml.1 r hrm
  have hNv:=hN (v+1) (by omega)
  rw [Nat.add_mul,Nat.one_mul] at hNv
  have hpre:∀ p ∈ ml.take v,p.2<r.1:=fun p hp=>by
   obtain ⟨i,hi⟩:=List.mem_iff_getElem?.1 hp
   have hlt:i<v:=by
    have:=(List.getElem?_eq_some_iff.1 hi).1
    simp at this;omega
   rw [List.getElem?_take_of_lt hlt] at hi
   obtain ⟨hi1,hi2⟩:=List.getElem?_eq_some_iff.1 hi
   obtain ⟨hv1,hv2⟩:=List.getElem?_eq_some_iff.1 hrv
   have:=List.pairwise_iff_getElem.1 hml.2 i v hi1 hv1 hlt
   rw [hi2,hv2] at this
   exact this
  refine ⟨fun o' h'=>∃ out',LsO cut (ml.take (v+1)) out'∧out'.length≤v*N+N∧(o'.a=none→out'=[])∧Own (SlO o' 2 (rgs out')::SlO s3 2 (rgs ml)::SlO s1 2 (rgs cut)::l) h',?_,?_⟩
  ·intro o' A4 ⟨out',f1,f2,f3,h4⟩
   exact ⟨m-1,by omega,v+1,out',by rw [w64]<;>omega,by omega,f1,by rw [Nat.add_mul,Nat.one_mul];exact f2,f3,h4⟩
  ·obtain ⟨a,q1,r1,r2⟩:=rd_rg (k:=1) h3 rfl reads_slB hrv
   rw [q1]
   refine inB_in (by omega) c (r1 _ (r2 _ ?_))
   refine ⟨fun o' at_ y m' h'=>∃ (w:Nat) (out':List Rg),y=w∧m'+w=cut.length∧LsI (memR (ml.take v)) r cut (cut.take w) out' at_∧out'.length≤v*N+w∧(o'.a=none→out'=[])∧Own (SlO o' 2 (rgs out')::SlO s3 2 (rgs ml)::SlO s1 2 (rgs cut)::l) h',
    ⟨cut.length,0,out,rfl,by omega,by simpa using hI.start hr12 hpre,by omega,hon,h3⟩,?_⟩
   intro o' at_ y m' A4 ⟨w,out',e5,e6,hI2,hol2,hon2,h4⟩
   subst e5
   have hlc:s1.len=cut.length:=rd_rg_len (k:=2) h4 rfl reads_slB
   refine bsel_in (fun d=>?_) fun d=>?_
   ·have d:(w:Int)<s1.len:=of_decide_eq_true d
    obtain ⟨cc,hcv⟩:∃ cc,cut[w]? = some cc:=⟨cut[w]'(by omega),by simp⟩
    have hsplit:cut=cut.take w++cc::cut.drop (w+1):=by rw [←drop_at hcv,List.take_append_drop]
    refine ⟨fun o2 at2 h'=>∃ out2,LsI (memR (ml.take v)) r cut (cut.take (w+1)) out2 at2∧out2.length≤v*N+(w+1)∧(o2.a=none→out2=[])∧Own (SlO o2 2 (rgs out2)::SlO s3 2 (rgs ml)::SlO s1 2 (rgs cut)::l) h',?_,?_⟩
    ·intro o2 at2 A5 ⟨out2,f1,f2,f3,h5⟩
     exact ⟨m'-1,by omega,w+1,out2,by rw [w64]<;>omega,by omega,f1,by omega,f3,h5⟩
    ·obtain ⟨a2,q2,t1,t2⟩:=rd_rg (k:=2) h4 rfl reads_slB hcv
     rw [q2]
     refine inB_in (by omega) d (t1 _ (t2 _ ?_))
     refine bsel_in (fun g=>?_) fun g=>?_
     ·have g:cc.2≤at_:=of_decide_eq_true g
      exact ⟨out',by rw [take_at hcv];exact hI2.skip (.inl g),by omega,hon2,h4⟩
     have g:¬ cc.2≤at_:=of_decide_eq_false g
     refine bsel_in (fun g2=>?_) fun g2=>?_
     ·have g2:cc.1≥r.2:=of_decide_eq_true g2
      exact ⟨out',by rw [take_at hcv];exact hI2.skip (.inr g2),by omega,hon2,h4⟩
     have g2:¬ cc.1≥r.2:=of_decide_eq_false g2
     have hmax:(if cc.2 > at_ then cc.2 else at_)=cc.2:=if_pos (by omega)
     refine ⟨fun o2 h'=>∃ out2,LsI (memR (ml.take v)) r cut (cut.take (w+1)) out2 cc.2∧out2.length≤v*N+(w+1)∧(o2.a=none→out2=[])∧Own (SlO o2 2 (rgs out2)::SlO s3 2 (rgs ml)::SlO s1 2 (rgs cut)::l) h',?_,?_⟩
     ·intro o2 A5 ⟨out2,f1,f2,f3,h5⟩
      rw [hmax]
      exact ⟨out2,f1,f2,f3,h5⟩
     ·refine bsel_in (fun g3=>?_) fun g3=>?_
      ·have g3:cc.1 > at_:=of_decide_eq_true g3
       refine push_rg h4 hon2 (by omega) fun s' A6 j1 h6=>?_
       exact ⟨_,by rw [take_at hcv];exact hI2.far hsplit hcut g g2 g3,by simp;omega,j1,h6⟩
      ·have g3:¬ cc.1 > at_:=of_decide_eq_false g3
       exact ⟨out',by rw [take_at hcv];exact hI2.near hsplit g g3,by omega,hon2,h4⟩
   ·have d:¬ (w:Int)<s1.len:=of_decide_eq_false d
    have hw:w=cut.length:=by omega
    subst hw
    rw [List.take_length] at hI2
    refine bsel_in (fun g=>?_) fun g=>?_
    ·have g:at_<r.2:=of_decide_eq_true g
     refine push_rg h4 hon2 (by omega) fun s' A6 j1 h6=>?_
     exact ⟨_,by rw [take_at hrv];exact hI2.rest hI2.hi g,by simp;omega,j1,h6⟩
    ·have g:¬ at_<r.2:=of_decide_eq_false g
     exact ⟨out',by rw [take_at hrv];exact hI2.none g,by omega,hon2,h4⟩
 ·have c:¬(v:Int)<s3.len:=of_decide_eq_false c
  have hv:v=ml.length:=by omega
  subst hv
  rw [List.take_length] at hI
  have:=hN ml.length (Nat.le_refl _)
  exact hk out hI.nf (fun n=>by rw [hI.mem n,hmm n,hcm n]) (by omega) o A3 hon (h3.cons fun C hC=>hC.tail.tail)
end Go.Dn
/- bootmap.Frames. -/
namespace Go.Dn
abbrev Ar:=Int × Int × Int
variable {A:AH} {l R:List SP} {P P2:SP} {k k2:Nat} {s s2:Sl} {bs:List Int}
def arsC (L:List Ar):List Value:=L.flatMap areaC
def areaB (x:Ar):Bool:=!decide (IntKind.u64.wrap (x.1+x.2.1)<x.1)
theorem areaB_iff {x:Ar}:areaB x=true↔areaOK x:=by simp [areaB,areaOK]
def parseP (bs:List Int):Int × List Ar:=
 if 1280<bs.length then (4,[]) else if bs.length % 20≠0 then (14,[]) else
 if (upto (bs.length / 20)).all (fun i=>areaB (areaZ bs i)) then (0,(upto (bs.length / 20)).map (areaZ bs)) else (3,[])
theorem arsC_len:∀ L:List Ar,(arsC L).length=L.length*3
 | []=>rfl
 | y::L=>by
  have:=arsC_len L
  unfold arsC at this ⊢
  rw [List.flatMap_cons,List.length_append,this];simp [areaC];omega
theorem arsC_at:∀ {L:List Ar} {v:Nat} {y:Ar} {c:Nat} {x:Value},L[v]? = some y→(areaC y)[c]? = some x→(arsC L)[v*3+c]? = some x
 | [],v,a,c,x,h,_=>by simp at h
 | b::r,0,a,c,x,h,hc=>by
  simp at h;subst h
  have hlt:c<3:=(List.getElem?_eq_some_iff.1 hc).1
  unfold arsC
  rw [List.flatMap_cons,List.getElem?_append_left (by simp [areaC];omega),Nat.zero_mul,Nat.zero_add]
  exact hc
 | b::r,v+1,a,c,x,h,hc=>by
  have h:r[v]? = some a:=by simpa using h
  unfold arsC
  rw [List.flatMap_cons,List.getElem?_append_right (by simp [areaC];omega)]
  have:(v+1)*3+c-(areaC b).length=v*3+c:=by simp [areaC];omega
  rw [this]
  exact arsC_at h hc
theorem rd_ar {L:List Ar} {v:Nat} {y:Ar} (h:Own l A) (e:l[k]? = some P) (hr:Reads P s 3 (arsC L)) (hv:L[v]? = some y) :
  ∃ a,s.a=some a∧(∀ K:Int→Prop,K y.1→aI .u64 (Addr.add a (Int.toNat (v:Int)*3)) A K)∧(∀ K:Int→Prop,K y.2.1→aI .u64 (Addr.add (Addr.add a (Int.toNat (v:Int)*3)) 1) A K)∧
   ∀ K:Int→Prop,K y.2.2→aI .u32 (Addr.add (Addr.add a (Int.toNat (v:Int)*3)) 2) A K:=by
 obtain ⟨bb,o,q1,c0⟩:=rd_cell h e hr (j:=v*3+0) (arsC_at hv (c:=0) rfl)
 obtain ⟨b2,o2,q2,c1⟩:=rd_cell h e hr (j:=v*3+1) (arsC_at hv (c:=1) rfl)
 obtain ⟨b3,o3,q3,c2⟩:=rd_cell h e hr (j:=v*3+2) (arsC_at hv (c:=2) rfl)
 rw [q1] at q2 q3
 cases q2
 cases q3
 refine ⟨_,q1,fun K hK=>⟨_,?_,hK⟩,fun K hK=>⟨_,?_,hK⟩,fun K hK=>⟨_,?_,hK⟩⟩
 ·rw [add_at,Int.toNat_natCast];exact c0
 ·rw [add_at,add_at,Int.toNat_natCast,Nat.add_assoc];exact c1
 ·rw [add_at,add_at,Int.toNat_natCast,Nat.add_assoc];exact c2
theorem rd_ar_len {L:List Ar} (h:Own l A) (e:l[k]? = some P) (hr:Reads P s 3 (arsC L)):s.len=L.length:=by
 have:=rd_len h e hr
 rw [arsC_len] at this
 omega
def byV (x:Int):Value:=.int .u8 x
theorem Parse_spec {K:Sl→Int→AP} (h:Own l A) (e:l[k]? = some P) (hr:Reads P s 1 (bs.map byV)) (hcap:s.len≤s.cap) (hn:s.a=none→bs=[]) (hb:∀ x ∈ bs,0≤x∧x<256)
  (hk:∀ s' A',(s'.a=none→(parseP bs).2=[])→Own (SlO s' 3 (arsC (parseP bs).2)::l) A'→K s' (parseP bs).1 A'):qad_A s K A:=by
 have hl:s.len=bs.length:=by have:=rd_len h e hr;simp at this;omega
 obtain ⟨B,u,hB⟩:=h.get e
 have hrow:rowA A s.a s.len (bs.map (.int .u8)):=by
  have h1:=hr B A hB u
  have h2:=rowA_rd h1 (fun g=>by rw [hn g];rfl)
  rw [Nat.mul_one] at h2
  exact h2
 unfold qad_A
 refine ⟨bs,hl.symm,hcap,hb,hrow,fun g=>?_,fun g1 g2=>?_,fun g1 g2 g3=>?_,fun g1 g2 g3=>⟨fun g4=>?_,fun cap cur g4 g5 g6 g7=>?_⟩⟩
 ·have hp:parseP bs=(4,[]):=by unfold parseP;rw [if_pos g]
  rw [hp] at hk
  exact hk Sl.nil A (fun _=>rfl) h.nilS
 ·have hp:parseP bs=(14,[]):=by unfold parseP;rw [if_neg (by omega),if_pos g2]
  rw [hp] at hk
  exact hk Sl.nil A (fun _=>rfl) h.nilS
 ·have hp:parseP bs=(3,[]):=by
   unfold parseP
   rw [if_neg (by omega),if_neg (by omega),if_neg]
   intro g4
   obtain ⟨i,hi,hbad⟩:=g3
   exact hbad (areaB_iff.1 (List.all_eq_true.1 g4 i (by simpa [upto] using hi)))
  rw [hp] at hk
  exact hk Sl.nil A (fun _=>rfl) h.nilS
 all_goals
  have hp:parseP bs=(0,(upto (bs.length / 20)).map (areaZ bs)):=by
   unfold parseP
   rw [if_neg (by omega),if_neg (by omega),if_pos]
   exact List.all_eq_true.2 fun i hi=>areaB_iff.2 (g3 i (by simpa [upto] using hi))
  rw [hp] at hk
 ·rw [g4] at hk
  exact hk Sl.nil A (fun _=>rfl) h.nilS
 ·intro g hg
  have hC:arsC ((upto (bs.length / 20)).map (areaZ bs))=(upto (bs.length / 20)).flatMap fun i=>areaC (areaZ bs i):=by unfold arsC;rw [List.flatMap_map]
  refine hk _ _ (fun q=>nomatch q) ?_
  dsimp only
  rw [hC,← g7]
  have hlen:(cur.toList.take (bs.length / 20*3)).length=bs.length / 20*3:=by
   have hc:cur.toList.length=cap*3:=g6
   rw [List.length_take,hc]
   have:=Nat.mul_le_mul_right 3 g5
   omega
  have h2:(cur.toList.take (bs.length / 20*3)++cur.toList.drop (bs.length / 20*3)).toArray=cur:=by rw [List.take_append_drop]
  have h3:(cur.toList.take (bs.length / 20*3)++cur.toList.drop (bs.length / 20*3)).length=cap*3:=by rw [List.take_append_drop];exact g6
  exact h.new hg fun B hB=>⟨⟨hlen.symm,g5⟩,.inr ⟨g,cur.toList.drop (bs.length / 20*3),rfl,h3,⟨_,by rw [h2];exact hB⟩⟩⟩
theorem pw256 {n m:Nat} (h:n≤m):(256:Int) ^ n≤256 ^ m:=by
 have h1:(256:Nat) ^ n≤256 ^ m:=Nat.pow_le_pow_right (by omega) h
 have h2:∀ k:Nat,((256 ^ k:Nat):Int)=(256:Int) ^ k:=fun k=>by simp
 rw [←h2,← h2]
 omega
theorem numZ_bd:∀ (l:List Int),(∀ x ∈ l,0≤x∧x<256)→0≤numZ l∧numZ l<256 ^ l.length
 | [],_=>by simp [numZ]
 | b::r,h=>by
  obtain ⟨h1,h2⟩:=h b (by simp)
  obtain ⟨h3,h4⟩:=numZ_bd r (fun x hx=>h x (by simp [hx]))
  simp only [numZ,List.length_cons]
  rw [Int.pow_succ]
  omega
def frP (a:Ar) (most:Int):Rg:=
 let f:=if a.2.2=1 then (a.1+4095) / 4096 else a.1 / 4096
 let t:=if a.2.1=0 then f else if a.2.2=1 then (a.1+a.2.1) / 4096 else (a.1+a.2.1+4095) / 4096
 (if most<f then most else f,if most<t then most else t)
def ArB (a:Ar):Prop:=0≤a.1∧0≤a.2.1∧a.1+a.2.1<18446744073709551616∧0≤a.2.2∧a.2.2<4294967296
theorem frames_spec {a:Ar} {most:Int} {Q:Int→Int→AH→Prop} (ha:ArB a) (h1:1≤most) (h2:most≤2097152) (hk:Q (frP a most).1 (frP a most).2 A):qae_A a.1 a.2.1 a.2.2 most Q A:=by
 obtain ⟨x,n,kd⟩:=a
 obtain ⟨a1,a2,a3,a4,a5⟩:=ha
 simp only at a1 a2 a3 a4 a5 hk ⊢
 unfold qae_A
 have w1:IntKind.wrap .u64 (x+n)=x+n:=wu64 (by omega) (by omega)
 have w2:IntKind.wrap .u64 most=most:=wu64 (by omega) (by omega)
 have t1:Int.tdiv x 4096=x / 4096:=tdiv4096 a1
 have t2:Int.tdiv (x+n) 4096=(x+n) / 4096:=tdiv4096 (by omega)
 have m1:Int.tmod x 4096=x % 4096:=tmod4096 a1
 have m2:Int.tmod (x+n) 4096=(x+n) % 4096:=tmod4096 (by omega)
 have w3:IntKind.wrap .u64 (x / 4096)=x / 4096:=wu64 (by omega) (by omega)
 have w4:IntKind.wrap .u64 ((x+n) / 4096)=(x+n) / 4096:=wu64 (by omega) (by omega)
 have w5:IntKind.wrap .u64 (x / 4096+1)=x / 4096+1:=wu64 (by omega) (by omega)
 have w6:IntKind.wrap .u64 ((x+n) / 4096+1)=(x+n) / 4096+1:=wu64 (by omega) (by omega)
 rw [w1,w2,t1,t2,m1,m2,w3,w4,w5,w6]
 have hmin:∀ y:Int,0≤y→IntKind.wrap .i64 (if most<y then most else y)=if most<y then most else y:=fun y hy=>by rw [w64]<;>split<;>omega
 refine ⟨fun f t h'=>h'=A∧0≤f∧0≤t∧f=(if kd=1 then (x+4095) / 4096 else x / 4096)∧(n≠0→t=if kd=1 then (x+n) / 4096 else (x+n+4095) / 4096),?_,?_⟩
 ·intro f t A1 ⟨e1,e2,e3,e4,e5⟩
  subst e1
  refine ⟨fun t' h'=>h'=A1∧0≤t'∧t'=if n=0 then f else if kd=1 then (x+n) / 4096 else (x+n+4095) / 4096,?_,?_⟩
  ·intro t' A2 ⟨f1,f2,f3⟩
   subst f1
   rw [hmin f e2,hmin t' f2,f3,e4]
   exact hk
  ·refine bsel_in (fun g=>?_) fun g=>?_
   ·have g:n=0:=by simpa using g
    exact ⟨rfl,e2,by rw [if_pos g]⟩
   ·have g:n≠0:=by simpa using g
    exact ⟨rfl,e3,by rw [if_neg g];exact e5 g⟩
 ·refine bsel_in (fun g=>bsel_in (fun g2=>?_) fun g2=>?_) fun g=>bsel_in (fun g2=>?_) fun g2=>?_
  ·have g:kd=1:=by simpa using g
   have g2:x % 4096≠0:=by simpa using g2
   exact ⟨rfl,by omega,by omega,by rw [if_pos g];omega,fun _=>by rw [if_pos g]⟩
  ·have g:kd=1:=by simpa using g
   have g2:x % 4096=0:=by simpa using g2
   exact ⟨rfl,by omega,by omega,by rw [if_pos g];omega,fun _=>by rw [if_pos g]⟩
  ·have g:kd≠1:=by simpa using g
   have g2:(x+n) % 4096≠0:=by simpa using g2
   exact ⟨rfl,by omega,by omega,by rw [if_neg g],fun _=>by rw [if_neg g];omega⟩
  ·have g:kd≠1:=by simpa using g
   have g2:(x+n) % 4096=0:=by simpa using g2
   exact ⟨rfl,by omega,by omega,by rw [if_neg g],fun _=>by rw [if_neg g];omega⟩
theorem areaZ_ok (hb:∀ x ∈ bs,0≤x∧x<256) {a:Ar} (ha:a ∈ (parseP bs).2):ArB a:=by
 unfold parseP at ha
 split at ha
 ·cases ha
 split at ha
 ·cases ha
 split at ha
 ·rename_i h1 h2 h3
  obtain ⟨i,hi,rfl⟩:=List.mem_map.1 ha
  have h4:=areaB_iff.1 (List.all_eq_true.1 h3 i hi)
  have bd:∀ o r:Nat,r≤8→0≤numZ ((bs.drop o).take r)∧numZ ((bs.drop o).take r)<256 ^ r:=fun o r hr=>by
   obtain ⟨g1,g2⟩:=numZ_bd ((bs.drop o).take r) (fun y hy=>hb y (List.mem_of_mem_drop (List.mem_of_mem_take hy)))
   exact ⟨g1,Int.lt_of_lt_of_le g2 (pw256 (by simp;omega))⟩
  have b1:=bd (20*i) 8 (by omega)
  have b2:=bd (20*i+8) 8 (by omega)
  have b3:=bd (20*i+16) 4 (by omega)
  rw [show (256:Int) ^ 8=18446744073709551616 from rfl] at b1 b2
  rw [show (256:Int) ^ 4=4294967296 from rfl] at b3
  have h5:¬ IntKind.u64.wrap ((areaZ bs i).1+(areaZ bs i).2.1)<(areaZ bs i).1:=h4
  refine ⟨b1.1,b2.1,?_,b3.1,b3.2⟩
  have c1:(areaZ bs i).1=numZ ((bs.drop (20*i)).take 8):=rfl
  have c2:(areaZ bs i).2.1=numZ ((bs.drop (20*i+8)).take 8):=rfl
  rw [←c1] at b1
  rw [←c2] at b2
  rcases Int.lt_or_le ((areaZ bs i).1+(areaZ bs i).2.1) 18446744073709551616 with g | g
  ·exact g
  ·exfalso
   refine h5 ?_
   rw [wu64m]
   omega
 ·cases ha
theorem parseP_len:(parseP bs).2.length≤64:=by
 unfold parseP
 split
 ·simp
 split
 ·simp
 split
 ·simp [upto];omega
 ·simp
def useL (ars:List Ar) (f:Int):List Rg:=(ars.filter fun a=>a.2.2==1).map fun a=>frP a f
def awayL (ars:List Ar) (f:Int) (kn:Rg):List Rg:=kn::(ars.filter fun a=>!(a.2.2==1)).map fun a=>frP a f
def badArg (f:Int) (kn:Rg):Prop:=f<1∨f > 1048576∨kn.1<0∨kn.2<kn.1∨kn.2 > f
def frOut (bs:List Int) (f:Int) (kn:Rg) (e:Int) (m:List Rg):Prop:=
 (badArg f kn∧e=1∧m=[])∨(¬ badArg f kn∧(parseP bs).1≠0∧e=(parseP bs).1∧m=[])∨
 (¬ badArg f kn∧(parseP bs).1=0∧NF m∧(∀ n,memR m n↔memR (useL (parseP bs).2 f) n∧¬ memR (awayL (parseP bs).2 f kn) n)∧e=if m=[] then 7 else 0)
theorem Frames_spec {f:Int} {kn:Rg} {Q:Sl→Int→AH→Prop} (h:Own l A) (e:l[k]? = some P) (hr:Reads P s 1 (bs.map byV)) (hcap:s.len≤s.cap) (hn:s.a=none→bs=[]) (hb:∀ x ∈ bs,0≤x∧x<256)
  (hk:∀ er m s' A',frOut bs f kn er m→m.length≤4224→(s'.a=none→m=[])→Own (SlO s' 2 (rgs m)::l) A'→Q s' er A'):qam_A s f kn.1 kn.2 Q A:=by
 unfold qam_A qam_G
 have nil:∀ er (A':AH),Own l A'→frOut bs f kn er []→Q Sl.nil er A':=fun er A' h' ho=>hk er [] Sl.nil A' ho (by simp) (fun _=>rfl) h'.nilS
 refine ⟨fun h'=>Own l h'∧¬ badArg f kn,?_,?_⟩
 ·intro A1 ⟨h1,hbad⟩
  have hf:1≤f∧f≤1048576:=by unfold badArg at hbad;omega
  refine Parse_spec h1 e hr hcap hn hb fun s3 A2 hs3 h2=>?_
  refine bsel_in (fun g=>?_) fun g=>?_
  ·have g:(parseP bs).1≠0:=by simpa using g
   exact nil _ A2 h2.tail (.inr (.inl ⟨hbad,g,rfl,rfl⟩))
  ·have g:(parseP bs).1=0:=by simpa using g
   have hl3:=rd_ar_len (k:=0) h2 rfl reads_slB
   have h64:=parseP_len (bs:=bs)
   refine new_C (cs:=[.int .i64 kn.1,.int .i64 kn.2]) h2 fun b A3 h3=>?_
   have h3':Own (SlO ⟨some ⟨b,0,none⟩,1,1⟩ 2 (rgs [kn])::SlO s3 3 (arsC (parseP bs).2)::l) A3:=h3.imp fun B hB=>⟨⟨rfl,Nat.le_refl _⟩,.inr ⟨b,[],rfl,rfl,hB⟩⟩
   refine ⟨fun u w x m h'=>∃ v:Nat,x=v∧m+v=(parseP bs).2.length∧(u.a=none→useL ((parseP bs).2.take v) f=[])∧(w.a=none→awayL ((parseP bs).2.take v) f kn=[])∧
     Own (SlO u 2 (rgs (useL ((parseP bs).2.take v) f))::SlO w 2 (rgs (awayL ((parseP bs).2.take v) f kn))::SlO s3 3 (arsC (parseP bs).2)::l) h',
    ⟨(parseP bs).2.length,0,rfl,by omega,fun _=>rfl,fun g=>(nomatch g),by have h9:=h3'.nilS (sz:=2);simp only [useL,awayL,List.take_zero,List.filter_nil,List.map_nil];exact h9⟩,?_⟩
   intro u w x m A4 ⟨v,e1,e2,hu,hw,h4⟩
   subst e1
   have hul:∀ v,(useL ((parseP bs).2.take v) f).length≤64:=fun v=>by
    unfold useL
    rw [List.length_map]
    have:=List.length_filter_le (fun a:Ar=>a.2.2==1) ((parseP bs).2.take v)
    have:=(List.take_sublist v (parseP bs).2).length_le
    omega
   have hwl:∀ v,(awayL ((parseP bs).2.take v) f kn).length≤65:=fun v=>by
    unfold awayL
    rw [List.length_cons,List.length_map]
    have:=List.length_filter_le (fun a:Ar=>!(a.2.2==1)) ((parseP bs).2.take v)
    have:=(List.take_sublist v (parseP bs).2).length_le
    omega
   refine bsel_in (fun c=>?_) fun c=>?_
   ·have c:(v:Int)<s3.len:=of_decide_eq_true c
    obtain ⟨a,hav⟩:∃ a,(parseP bs).2[v]? = some a:=⟨(parseP bs).2[v]'(by omega),by simp⟩
    have haB:ArB a:=areaZ_ok hb (List.mem_of_getElem? hav)
    refine ⟨fun u' w' h'=>(u'.a=none→useL ((parseP bs).2.take (v+1)) f=[])∧(w'.a=none→awayL ((parseP bs).2.take (v+1)) f kn=[])∧
     Own (SlO u' 2 (rgs (useL ((parseP bs).2.take (v+1)) f))::SlO w' 2 (rgs (awayL ((parseP bs).2.take (v+1)) f kn))::SlO s3 3 (arsC (parseP bs).2)::l) h',?_,?_⟩
    ·intro u' w' A5 ⟨f1,f2,h5⟩
     exact ⟨m-1,by omega,v+1,by rw [w64]<;>omega,by omega,f1,f2,h5⟩
    ·obtain ⟨ad,q1,r1,r2,r3⟩:=rd_ar (k:=2) h4 rfl reads_slB hav
     rw [q1]
     refine inB_in (by omega) c (r1 _ (r2 _ (r3 _ ?_)))
     refine frames_spec haB hf.1 (by omega) ?_
     refine bsel_in (fun g2=>?_) fun g2=>?_
     ·have hU:useL ((parseP bs).2.take (v+1)) f=useL ((parseP bs).2.take v) f++[((frP a f).1,(frP a f).2)]:=by
       rw [take_at hav];unfold useL;rw [List.filter_append,List.map_append]
       simp [List.filter_cons,g2]
      have hW:awayL ((parseP bs).2.take (v+1)) f kn=awayL ((parseP bs).2.take v) f kn:=by
       rw [take_at hav];unfold awayL;rw [List.filter_append]
       simp [List.filter_cons,g2]
      refine push_rg h4 hu (by have:=hul v;omega) fun s' A6 j1 h6=>?_
      rw [hU,hW]
      exact ⟨j1,hw,h6⟩
     ·have hU:useL ((parseP bs).2.take (v+1)) f=useL ((parseP bs).2.take v) f:=by
       rw [take_at hav];unfold useL;rw [List.filter_append]
       simp [List.filter_cons,g2]
      have hW:awayL ((parseP bs).2.take (v+1)) f kn=awayL ((parseP bs).2.take v) f kn++[((frP a f).1,(frP a f).2)]:=by
       rw [take_at hav];unfold awayL;rw [List.filter_append,List.map_append]
       simp [List.filter_cons,g2]
      refine push_rg h4.swap hw (by have:=hwl v;omega) fun s' A6 j1 h6=>?_
      rw [hU,hW]
      exact ⟨hu,j1,h6.swap⟩
   ·have c:¬(v:Int)<s3.len:=of_decide_eq_false c
    have hv:v=(parseP bs).2.length:=by omega
    subst hv
    rw [List.take_length] at hu hw h4
    have hul:=hul (parseP bs).2.length
    have hwl:=hwl (parseP bs).2.length
    rw [List.take_length] at hul hwl
    refine Less_spec (k:=0) (k2:=1) h4 rfl reads_slB (by omega) hu rfl reads_slB (by omega) hw (Nat.le_trans (Nat.mul_le_mul hul (Nat.add_le_add_right hwl 1)) (by omega)) fun m' hm hmm hml s' A5 hs' h5=>?_
    have hml:m'.length≤64*66:=Nat.le_trans hml (Nat.mul_le_mul hul (Nat.add_le_add_right hwl 1))
    have hl5:=h5.rgs_len
    have h6:Own (SlO s' 2 (rgs m')::l) A5:=h5.cons fun C hC=>hC.tail.tail.tail
    refine bsel_in (fun g2=>?_) fun g2=>?_
    ·have g2:(s'.len:Int)=0:=by simpa using g2
     have h0:m'=[]:=List.length_eq_zero_iff.1 (by omega)
     subst h0
     exact nil _ A5 h6.tail (.inr (.inr ⟨hbad,g,hm,hmm,by simp⟩))
    ·have g2:(s'.len:Int)≠0:=by simpa using g2
     have h0:m'≠[]:=fun q=>by subst q;simp at hl5;omega
     exact hk _ m' s' A5 (.inr (.inr ⟨hbad,g,hm,hmm,by rw [if_neg h0]⟩)) (by omega) hs' h6
 ·have bad1:badArg f kn→Q Sl.nil 1 A:=fun g=>nil _ A h (.inl ⟨g,rfl,rfl⟩)
  refine bsel_in (fun g=>bad1 (.inl (of_decide_eq_true g))) fun g1=>bsel_in (fun g=>bad1 (.inr (.inl (of_decide_eq_true g)))) fun g2=>bsel_in (fun g=>bad1 (.inr (.inr (.inl (of_decide_eq_true g))))) fun g3=>bsel_in (fun g=>bad1 (.inr (.inr (.inr (.inl (of_decide_eq_true g)))))) fun g4=>bsel_in (fun g=>bad1 (.inr (.inr (.inr (.inr (of_decide_eq_true g)))))) fun g5=>⟨h,?_⟩
  have g1:=of_decide_eq_false g1
  have g2:=of_decide_eq_false g2
  have g3:=of_decide_eq_false g3
  have g4:=of_decide_eq_false g4
  have g5:=of_decide_eq_false g5
  unfold badArg
  omega
end Go.Dn
/- An area's bytes. -/
namespace Go.Dn
variable {A:AH} {l R:List SP} {P P2:SP} {k k2:Nat} {s s2:Sl} {bs:List Int}
def leB:Nat→Int→List Int
 | 0,_=>[]
 | k+1,n=>n % 256::leB k (n / 256)
theorem leB_len:∀ (k:Nat) (n:Int),(leB k n).length=k
 | 0,_=>rfl
 | k+1,n=>by simp [leB,leB_len k]
theorem leB_get:∀ (k:Nat) (n:Int) (i:Nat),i<k→(leB k n)[i]? = some (n / 2 ^ (8*i) % 256)
 | 0,_,_,h=>by omega
 | k+1,n,0,_=>by simp [leB]
 | k+1,n,i+1,h=>by
  have h1:=leB_get k (n / 256) i (by omega)
  have h2:n / 256 / 2 ^ (8*i)=n / 2 ^ (8*(i+1)):=by
   rw [Int.ediv_ediv_of_nonneg (by omega)]
   congr 1
   rw [Nat.mul_add,Int.pow_add,Int.mul_comm]
   rfl
  rw [h2] at h1
  simpa [leB] using h1
theorem numZ_leB:∀ (k:Nat) (n:Int),0≤n→n<256 ^ k→numZ (leB k n)=n
 | 0,n,h0,h1=>by simp at h1;simp [leB,numZ];omega
 | k+1,n,h0,h1=>by
  rw [Int.pow_succ] at h1
  have:=numZ_leB k (n / 256) (by omega) (by omega)
  simp only [leB,numZ,this]
  omega
theorem leB_rng:∀ (k:Nat) (n:Int),∀ x ∈ leB k n,0≤x∧x<256
 | 0,_,_,h=>nomatch h
 | k+1,n,x,h=>by
  rcases List.mem_cons.1 h with rfl | h
  ·omega
  ·exact leB_rng k _ x h
def entB (a:Ar):List Int:=leB 8 a.1++leB 8 a.2.1++leB 4 a.2.2
theorem entB_len (a:Ar):(entB a).length=20:=by simp [entB,leB_len]
theorem entB_rng (a:Ar):∀ x ∈ entB a,0≤x∧x<256:=fun x h=>by
 rcases List.mem_append.1 h with h | h
 ·rcases List.mem_append.1 h with h | h
  ·exact leB_rng _ _ x h
  ·exact leB_rng _ _ x h
 ·exact leB_rng _ _ x h
theorem shrB {n:Int} {i c:Nat} (h:8*i≤c) (hi:i<8):IntKind.wrap .u8 (Int.fdiv n (2 ^ (min (Int.toNat (IntKind.wrap .i64 ((8:Int)*(i:Int)))) c)))=n / 2 ^ (8*i) % 256:=by
 have h1:IntKind.wrap .i64 ((8:Int)*(i:Int))=((8*i:Nat):Int):=by rw [w64]<;>omega
 rw [h1,Int.toNat_natCast,Nat.min_eq_left h,shr_eq,wu8]
theorem Entry_spec {a:Ar} {Q:Sl→AH→Prop} (h:Own l A) (hk:∀ s' A',s'.a≠none→Own (SlO s' 1 ((entB a).map byV)::l) A'→Q s' A'):qaa_A a.1 a.2.1 a.2.2 Q A:=by
 unfold qaa_A
 have hmade:(madeCells #[Value.int .u8 0] (20*1))=((List.replicate 20 (byV 0)).toArray):=by
  have hf:(fun x:Nat=>(#[Value.int .u8 0]:Array Value)[x % (#[Value.int .u8 0]:Array Value).size]!)=fun _=>byV 0:=by
   funext x
   simp [Nat.mod_one,byV]
  show Array.map (fun x:Nat=>(#[Value.int .u8 0]:Array Value)[x % (#[Value.int .u8 0]:Array Value).size]!) (Array.range (20*1))=_
  rw [hf]
  apply Array.ext'
  simp only [Array.toList_map,Array.toList_range]
  rfl
 rw [hmade]
 refine new_C (cs:=List.replicate 20 (byV 0)) h fun b A1 h1=>?_
 refine ⟨fun x m h'=>∃ (v:Nat) (cs:List Int),x=v∧m+v=8∧cs.length=20∧(∀ i,i<v→cs[i]? = some (a.1 / 2 ^ (8*i) % 256)∧cs[8+i]? = some (a.2.1 / 2 ^ (8*i) % 256))∧Own (At b (cs.map byV)::l) h',
  ⟨8,0,List.replicate 20 0,rfl,rfl,rfl,fun i hi=>by omega,by simpa using h1⟩,?_⟩
 intro x m A2 ⟨v,cs,e1,e2,e3,e4,h2⟩
 subst e1
 refine bsel_in (fun c=>?_) fun c=>?_
 ·have c:(v:Int)<8:=of_decide_eq_true c
  have hw:¬ IntKind.wrap .i64 ((8:Int)*(v:Int))<0:=by rw [w64]<;>omega
  refine bsel_f (by simpa using hw) (inB_in (by omega) (by omega) ?_)
  rw [add_at,Int.toNat_natCast,shrB (by omega) (by omega)]
  refine st_C (i:=0) h2 rfl (by simp [e3];omega) rfl fun A3 h3=>?_
  refine bsel_f (by simpa using hw) ?_
  have hw2:IntKind.wrap .i64 ((8:Int)+(v:Int))=((8+v:Nat):Int):=by rw [w64]<;>omega
  rw [hw2,shrB (by omega) (by omega)]
  refine inB_in (by omega) (by omega) ?_
  rw [add_at,Int.toNat_natCast]
  refine st_C (i:=0) h3 rfl (by simp [e3];omega) rfl fun A4 h4=>?_
  refine ⟨m-1,by omega,v+1,(cs.set v (a.1 / 2 ^ (8*v) % 256)).set (8+v) (a.2.1 / 2 ^ (8*v) % 256),by rw [w64]<;>omega,by omega,by simp [e3],fun i hi=>?_,?_⟩
  ·rcases Nat.lt_or_eq_of_le (Nat.le_of_lt_succ hi) with g | g
   ·obtain ⟨f1,f2⟩:=e4 i g
    refine ⟨?_,?_⟩
    ·rw [List.getElem?_set_ne (by omega),List.getElem?_set_ne (by omega)];exact f1
    ·rw [List.getElem?_set_ne (by omega),List.getElem?_set_ne (by omega)];exact f2
   ·subst g
    refine ⟨?_,?_⟩
    ·rw [List.getElem?_set_ne (by omega),List.getElem?_set_self (by omega)]
    ·rw [List.getElem?_set_self (by simp;omega)]
  ·rw [List.map_set,List.map_set]
   simp only [Nat.zero_add,Nat.mul_one,List.set_cons_zero] at h4
   exact h4
 ·have c:¬ (v:Int)<8:=of_decide_eq_false c
  have hv:v=8:=by omega
  subst hv
  refine ⟨fun x m h'=>∃ (v:Nat) (cs:List Int),x=v∧m+v=4∧cs.length=20∧(∀ i,i<8→cs[i]? = some (a.1 / 2 ^ (8*i) % 256)∧cs[8+i]? = some (a.2.1 / 2 ^ (8*i) % 256))∧(∀ i,i<v→cs[16+i]? = some (a.2.2 / 2 ^ (8*i) % 256))∧Own (At b (cs.map byV)::l) h',
   ⟨4,0,cs,rfl,rfl,e3,e4,fun i hi=>by omega,h2⟩,?_⟩
  intro x m2 A3 ⟨v,cs,e5,e6,e7,e8,e9,h3⟩
  subst e5
  refine bsel_in (fun c=>?_) fun c=>?_
  ·have c:(v:Int)<4:=of_decide_eq_true c
   have hw:¬ IntKind.wrap .i64 ((8:Int)*(v:Int))<0:=by rw [w64]<;>omega
   refine bsel_f (by simpa using hw) ?_
   have hw2:IntKind.wrap .i64 ((16:Int)+(v:Int))=((16+v:Nat):Int):=by rw [w64]<;>omega
   rw [hw2,shrB (by omega) (by omega)]
   refine inB_in (by omega) (by omega) ?_
   rw [add_at,Int.toNat_natCast]
   refine st_C (i:=0) h3 rfl (by simp [e7];omega) rfl fun A4 h4=>?_
   refine ⟨m2-1,by omega,v+1,cs.set (16+v) (a.2.2 / 2 ^ (8*v) % 256),by rw [w64]<;>omega,by omega,by simp [e7],fun i hi=>?_,fun i hi=>?_,?_⟩
   ·obtain ⟨f1,f2⟩:=e8 i hi
    rw [List.getElem?_set_ne (by omega),List.getElem?_set_ne (by omega)]
    exact ⟨f1,f2⟩
   ·rcases Nat.lt_or_eq_of_le (Nat.le_of_lt_succ hi) with g | g
    ·rw [List.getElem?_set_ne (by omega)];exact e9 i g
    ·subst g
     rw [List.getElem?_set_self (by omega)]
   ·rw [List.map_set]
    simp only [Nat.zero_add,Nat.mul_one,List.set_cons_zero] at h4
    exact h4
  ·have c:¬ (v:Int)<4:=of_decide_eq_false c
   have hv:v=4:=by omega
   subst hv
   have hcs:cs=entB a:=by
    apply List.ext_getElem?
    intro j
    by_cases j1:j<8
    ·rw [(e8 j j1).1]
     unfold entB
     rw [List.append_assoc,List.getElem?_append_left (by rw [leB_len];exact j1),leB_get 8 _ j j1]
    ·by_cases j2:j<16
     ·have:=(e8 (j-8) (by omega)).2
      rw [show 8+(j-8)=j by omega] at this
      rw [this]
      unfold entB
      rw [List.getElem?_append_left (by simp [leB_len];omega),List.getElem?_append_right (by rw [leB_len];omega),leB_len,leB_get 8 _ (j-8) (by omega)]
     ·by_cases j3:j<20
      ·have:=e9 (j-16) (by omega)
       rw [show 16+(j-16)=j by omega] at this
       rw [this]
       unfold entB
       rw [List.getElem?_append_right (by simp [leB_len];omega),List.length_append,leB_len,leB_len,leB_get 4 _ (j-16) (by omega)]
      ·rw [List.getElem?_eq_none (by omega),List.getElem?_eq_none (by rw [entB_len];omega)]
   rw [hcs] at h3
   refine hk _ A3 (fun q=>nomatch q) (Own.imp (fun B hB=>⟨⟨by simp [entB_len],Nat.le_refl _⟩,.inr ⟨b,[],rfl,by simp [entB_len],by simpa using hB⟩⟩) h3)
end Go.Dn
/- A plain memory's map: one area, all of it. -/
namespace Go.Dn
def ArW (a:Ar):Prop:=(0≤a.1∧a.1<18446744073709551616)∧(0≤a.2.1∧a.2.1<18446744073709551616)∧0≤a.2.2∧a.2.2<4294967296
theorem areaZ_one {a:Ar} (hw:ArW a):areaZ (entB a) 0=a:=by
 obtain ⟨⟨w1,w2⟩,⟨w3,w4⟩,w5,w6⟩:=hw
 have tk:∀ (k:Nat) (n:Int) (r:List Int),(leB k n++r).take k=leB k n:=fun k n r=>by
  rw [List.take_append_of_le_length (by rw [leB_len];omega),List.take_of_length_le (by rw [leB_len];omega)]
 have h0:entB a=leB 8 a.1++(leB 8 a.2.1++leB 4 a.2.2):=by unfold entB;simp
 have h8:(entB a).drop 8=leB 8 a.2.1++leB 4 a.2.2:=by
  rw [h0,List.drop_append_of_le_length (by simp [leB_len]),List.drop_of_length_le (by simp [leB_len])];rfl
 have h16:(entB a).drop 16=leB 4 a.2.2:=by
  rw [show 16=8+8 from rfl,← List.drop_drop,h8,List.drop_append_of_le_length (by simp [leB_len]),List.drop_of_length_le (by simp [leB_len])];rfl
 have e1:((entB a).drop (20*0)).take 8=leB 8 a.1:=by rw [Nat.mul_zero,List.drop_zero,h0,tk]
 have e2:((entB a).drop (20*0+8)).take 8=leB 8 a.2.1:=by rw [Nat.mul_zero,Nat.zero_add,h8,tk]
 have e3:((entB a).drop (20*0+16)).take 4=leB 4 a.2.2:=by rw [Nat.mul_zero,Nat.zero_add,h16,List.take_of_length_le (by simp [leB_len])]
 unfold areaZ
 rw [e1,e2,e3,numZ_leB _ _ w1 (by simpa using w2),numZ_leB _ _ w3 (by simpa using w4),numZ_leB _ _ w5 (by simpa using w6)]
theorem parse_one {a:Ar} (hw:ArW a) (hb:areaB a=true):parseP (entB a)=(0,[a]):=by
 unfold parseP
 rw [entB_len,if_neg (by omega),if_neg (by omega)]
 have:upto (20 / 20)=[0]:=rfl
 rw [this]
 simp [areaZ_one hw,hb]
theorem plain_out {N er:Int} {m:List Rg} (hN:2≤N∧N≤1048576) (h:frOut (entB (0,N*4096,1)) N (0,1) er m):er=0∧m=[(1,N)]:=by
 have hw:ArW (0,N*4096,1):=⟨⟨by simp,by simp⟩,⟨by simp only;omega,by simp only;omega⟩,by simp,by simp⟩
 have hok:areaB (0,N*4096,1)=true:=by
  unfold areaB
  simp only
  rw [wu64 (by omega) (by omega)]
  simp;omega
 unfold frOut at h
 rw [parse_one hw hok] at h
 have hbad:¬ badArg N (0,1):=by unfold badArg;simp only;omega
 rcases h with ⟨q,_⟩ | ⟨_,q,_⟩ | ⟨_,_,h1,h2,h3⟩
 ·exact absurd q hbad
 ·exact absurd rfl q
 ·have hu:useL [((0,N*4096,1):Ar)] N=[(0,N)]:=by
   have hf:frP (0,N*4096,1) N=(0,N):=by
    unfold frP
    simp only [if_true]
    rw [if_neg (by omega:¬ N*4096=0)]
    refine Prod.ext ?_ ?_
    ·simp only;split<;>omega
    ·simp only;split<;>omega
   simp [useL,hf]
  have hwl:awayL [((0,N*4096,1):Ar)] N (0,1)=[(0,1)]:=by simp [awayL]
  simp only [hu,hwl,memR_one] at h2
  have hm:m=[(1,N)]:=by
   refine NF.eq h1 ⟨fun r hr=>?_,by simp⟩ fun n=>?_
   ·simp at hr;subst hr;simp only;omega
   ·rw [h2 n,memR_one]
    unfold inRg
    simp only
    omega
  subst hm
  exact ⟨by simpa using h3,rfl⟩
end Go.Dn
