/- What the proof stands on. -/
import Derived.Test.YtmfmhmipcdgikaaGreatG
import Derived.Test.YtmfmhmipcdgikaaGreatMaps
import Derived.Test.YtmfmhmipcdgikaaGreatMap
namespace Go.Dn
open Go.MapKept
variable {A:AH} {l:List SP}
def aJr (b:Nat) (k:IntKind) (m:List (Int × Value)) (key st:Int):SP:=λB=>∃ es c,B b=some (.map es c)/\aHY k es m/\Stamped es c/\∃ (j:Nat) (e:MapEntry),es[j]? = some e/\e.key = .int k key/\(e.born:Int)=st
theorem xP {key:Int} {v:Value}:∀ {m:List (Int × Value)},m.lookup key=some v->putM m key v=m
 | [],h=>by simp at h
 | p::m,h=>by
  unfold putM;by_cases e:p.1=key
  ·rw [if_pos e];have:(key==p.1)=true:=by simp [e]
   simp only [List.lookup,this,Option.some.injEq] at h;rw [<-h,<- e]
  ·rw [if_neg e];have:(key==p.1)=false:=by simpa using λg=>e g.symm
   simp only [List.lookup,this] at h;rw [xP h]
theorem xB {key:Int} {v w:Value}:∀ {m:List (Int × Value)},putM (putM m key v) key w=putM m key w
 | []=>by simp [putM]
 | p::m=>by
  by_cases e:p.1=key
  ·simp [putM,e]
  ·simp [putM,e,xB (m:=m)]
theorem aEt {A:AH} {b:Nat} {o:Obj} (h:A b=some o):updA A b o=A:=by
 funext c;unfold updA;split
 ·rename_i e;rw [e,h]
 ·rfl
theorem aKo {i b:Nat} {k:IntKind} {key:Int} {z:Value} {m:List (Int × Value)} {K:Value->Int->AP} (h:Own l A) (e:l[i]? = some (MapI b k m))
  (hk:∀ st A',Own (l.set i (aJr b k (putM m key ((m.lookup key).getD z)) key st)) A'->K ((m.lookup key).getD z) st A'):aBe A (some b) k key z K:=by
 obtain ⟨es,c,h1,h2,hst⟩:=h.map e;obtain ⟨r,k1,k2,k3,k4⟩:=fL (k:=k) (key:=key) es.toList m 0 h2;refine ⟨b,es,c,rfl,h1,r,k1,?_⟩;cases r with
 | none=>
  have h5:m.lookup key=none:=by rw [<-k2];rfl
  rw [h5] at hk;refine hk c _ (h.upd e (λB ⟨_,_,hb,_⟩=>⟨_,hb⟩) λB _=>⟨_,_,dG,?_,stamped_push hst λx hx g=>?_,es.size,{ key:=.int k key,val:=z,born:=c },by simp,rfl,rfl⟩)
  ·show (es.push _).toList.map _=_;simp only [Array.toList_push,List.map_append,List.map_cons,List.map_nil,Option.getD_none];rw [k4 rfl z,List.map_append];rw [show es.toList.map (λe=>(e.key,e.val))=_ from h2];rfl
  ·have h6:(x.key,x.val) ∈ m.map λp=>((.int k p.1:Value),p.2):=by rw [<-h2];exact List.mem_map.2 ⟨x,hx,rfl⟩
   obtain ⟨p,hp,hpe⟩:=List.mem_map.1 h6;simp only [Prod.mk.injEq] at hpe;rw [g] at hpe;have hk:p.1=key:=by have:=hpe.1;injection this
   exact qC h5 (List.mem_map.2 ⟨p,hp,hk⟩)
 | some p=>
  obtain ⟨j,v0⟩:=p;obtain ⟨_,e',he',hek,hev⟩:=eI _ _ _ _ k1;have he':es[j]? = some e':=by simpa using he'
  have h5:m.lookup key=some v0:=by rw [<-k2];rfl
  rw [h5] at hk;simp only [Option.getD_some] at hk;rw [xP h5] at hk;refine ⟨e',he',hk _ A ?_⟩;obtain ⟨bs,rest⟩:∃ o,A b=some o:=⟨_,h1⟩;have h7:=h.upd (P':=aJr b k m key e'.born) (o':=.map es c) e (λB ⟨_,_,hb,_⟩=>⟨_,hb⟩) λB _=>⟨es,c,dG,h2,hst,j,e',he',hek,rfl⟩;rwa [aEt h1] at h7
theorem aKP {i b:Nat} {k:IntKind} {key st:Int} {v:Value} {m:List (Int × Value)} {K:AP} (h:Own l A) (e:l[i]? = some (aJr b k m key st))
  (hk:∀ A',Own (l.set i (MapI b k (putM m key v))) A'->K A'):aBs A (some b) st v K:=by
 obtain ⟨B0,u0,es,c,h1,h2,hst,j,e',he',hek,hb⟩:=h.get e;have h1:=u0 _ _ h1;obtain ⟨r,k1,k2,k3,k4⟩:=fL (k:=k) (key:=key) es.toList m 0 h2;have hjl:=(Array.getElem?_eq_some_iff.1 he').1;have hjv:=(Array.getElem?_eq_some_iff.1 he').2
 have hfi:es.findIdx? (λe=>(e.born:Int)==st)=some j:=by
  rw [Array.findIdx?_eq_some_iff_getElem];refine ⟨hjl,by rw [hjv];simpa using hb,λt ht g=>?_⟩;have g:(es[t].born:Int)=st:=by simpa using g
  have hnd:=hst.2.1;rw [List.nodup_iff_pairwise_ne,List.pairwise_map,List.pairwise_iff_getElem] at hnd;refine hnd t j (by simpa using Nat.lt_trans ht hjl) (by simpa using hjl) ht ?_;simp only [Array.getElem_toList];rw [hjv];omega
 refine ⟨b,es,c,j,rfl,h1,hfi,hk _ ?_⟩;refine h.upd e (λB ⟨_,_,hb,_⟩=>⟨_,hb⟩) λB _=>⟨_,_,dG,?_,stamped_modify hst j _ (λ_ _=>rfl) (λ_ _ _=>rfl)⟩;cases r with
 | none=>
  exfalso;have h5:m.lookup key=none:=by rw [<-k2];rfl
  have h6:(e'.key,e'.val) ∈ m.map λp=>((.int k p.1:Value),p.2):=by rw [<-h2];exact List.mem_map.2 ⟨e',by rw [<-hjv];simp,rfl⟩
  obtain ⟨p,hp,hpe⟩:=List.mem_map.1 h6;simp only [Prod.mk.injEq] at hpe;rw [hek] at hpe;have hk:p.1=key:=by have:=hpe.1;injection this
  exact qC h5 (List.mem_map.2 ⟨p,hp,hk⟩)
 | some p=>
  obtain ⟨t,v0⟩:=p;obtain ⟨_,e2,he2,hek2,_⟩:=eI _ _ _ _ k1;have he2:es[t]? = some e2:=by simpa using he2
  have htl:=(Array.getElem?_eq_some_iff.1 he2).1;have htv:=(Array.getElem?_eq_some_iff.1 he2).2
  have htj:t=j:=by
   have hnd:=hst.2.2;rw [List.nodup_iff_pairwise_ne,List.pairwise_map,List.pairwise_iff_getElem] at hnd;rcases Nat.lt_trichotomy t j with g | g | g
   ·exact absurd (by rw [Array.getElem_toList,Array.getElem_toList,htv,hjv,hek,hek2]) (hnd t j (by simpa using htl) (by simpa using hjl) g)
   ·exact g
   ·exact absurd (by rw [Array.getElem_toList,Array.getElem_toList,htv,hjv,hek,hek2]) (hnd j t (by simpa using hjl) (by simpa using htl) g)
  subst htj;obtain ⟨k5,k6⟩:=k3 t v0 rfl;show (es.modify t _).toList.map _=_;rw [Array.toList_modify,<- k6 v,Nat.sub_zero];congr 1;apply List.ext_getElem?;intro q;rw [List.getElem?_modify,List.getElem?_modify];by_cases g:t=q
  ·subst g;have:es.toList[t]? = some e':=by simpa using he'
   rw [this];simp [hek]
  ·simp [g]
end Go.Dn
namespace Go.Dn
def ivs (m:List (Int × Int)):List (Int × Value):=m.map λp=>(p.1,.int .i64 p.2)
def putZ (m:List (Int × Int)) (key v:Int):List (Int × Int):=match m with
 | []=>[(key,v)]
 | p::m=>if p.1=key then (key,v)::m else p::putZ m key v
theorem jD (k:Int):∀ m:List (Int × Int),(ivs m).lookup k=(m.lookup k).map λv=>(.int .i64 v:Value)
 | []=>rfl
 | p::m=>by
  have:=jD k m;unfold ivs at this ⊢;simp only [List.map_cons,List.lookup];cases h:k==p.1 with
  | true=>rfl
  | false=>exact this
theorem zM (k v:Int):∀ m:List (Int × Int),putM (ivs m) k (.int .i64 v)=ivs (putZ m k v)
 | []=>rfl
 | p::m=>by
  have:=zM k v m;unfold ivs at this ⊢;simp only [List.map_cons,putM,putZ];by_cases h:p.1=k
  ·rw [if_pos h,if_pos h];rfl
  ·rw [if_neg h,if_neg h,this];rfl
theorem fJ (key key' v:Int):∀ m:List (Int × Int),(putZ m key v).lookup key'=if key'=key then some v else m.lookup key'
 | []=>by
  by_cases e:key'=key
  ·subst e;simp [putZ,List.lookup]
  ·have:(key'==key)=false:=by simpa using e
   simp [putZ,List.lookup,this,e]
 | p::m=>by
  have ih:=fJ key key' v m;by_cases e:p.1=key
  ·by_cases e2:key'=key
   ·subst e2;simp [putZ,List.lookup,e]
   ·have h1:(key'==key)=false:=by simpa using e2
    have h2:(key'==p.1)=false:=by simpa using λg=>e2 (by rw [g,e])
    simp [putZ,List.lookup,e,e2,h1,h2]
  ·by_cases e2:key'=p.1
   ·have h1:(key'==p.1)=true:=by simpa using e2
    have h3:key'≠key:=λg=>e (by rw [<-e2,g]);simp [putZ,List.lookup,e,h1,h3]
   ·have h1:(key'==p.1)=false:=by simpa using e2
    simp [putZ,List.lookup,e,h1,ih]
theorem aG {a:Addr} {K:Addr->Prop}:aF (some a) K=K a:=rfl
structure PcZ where
 most:Int
 next:Int
 gen:Int
 own:List (Int × Int)
 tag:List (Int × Int)
def PcZ.OK (z:PcZ):Prop:=1<=z.most/\z.most<=4095/\1<=z.next/\z.next<=z.most+1
def iL (most:Int):PcZ:=⟨most,1,0,[],[]⟩
def pcL (p bo bt:Nat) (z:PcZ):List SP:=[At p [.int .i64 z.most,.int .i64 z.next,.int .i64 z.gen,.map (some bo),.map (some bt)],MapI bo .i64 (ivs z.own),MapI bt .i64 (ivs z.tag)]
def PcS (p:Nat) (z:PcZ):SP:=λB=>∃ bo bt,Own (pcL p bo bt z) B
def getZ (z:PcZ) (id:Int):PcZ × Int × Bool:=match z.tag.lookup id with
 | some n=>(z,n,false)
 | none=>if z.next > z.most then (⟨z.most,2,IntKind.wrap .i64 (z.gen+1),[(1,id)],[(id,1)]⟩,1,true)
  else (⟨z.most,z.next+1,z.gen,putZ z.own z.next id,putZ z.tag id z.next⟩,z.next,false)
theorem aHD {z:PcZ} (h:z.OK) (id:Int):(getZ z id).1.OK:=by
 obtain ⟨h1,h2,h3,h4⟩:=h;unfold getZ;split
 ·exact ⟨h1,h2,h3,h4⟩
 ·split
  ·exact ⟨h1,h2,by simp,by simp;omega⟩
  ·exact ⟨h1,h2,by simp;omega,by simp;omega⟩
variable {A:AH} {l R:List SP} {p bo bt:Nat} {z:PcZ}
theorem PcS.openH (h:Own (PcS p z::R) A):∃ bo bt,Own (pcL p bo bt z++R) A:=by
 obtain ⟨bo,h⟩:=Own.ex h;obtain ⟨bt,h⟩:=Own.ex h;exact ⟨bo,bt,Own.flat h⟩
theorem PcS.closeH (h:Own (pcL p bo bt z++R) A):Own (PcS p z::R) A:=h.app.imp λ_ hB=>⟨bo,bt,hB⟩
theorem uX {most x y:Int} {u v:Value} {Q:AH->Prop} (h:Own (At p [.int .i64 most,.int .i64 x,.int .i64 y,u,v]::R) A)
  (hk:∀ bo bt A',Own (pcL p bo bt ⟨most,1,y,[],[]⟩++R) A'->Q A'):qan_A (some ⟨p,0,none⟩) Q A:=by
 unfold qan_A;simp only [aG,add_at,Nat.zero_add];refine rM (k:=.i64) h λb1 A1 h1=>rM (k:=.i64) h1 λb2 A2 h2=>?_;refine aJ (i:=2) h2 rfl rfl rfl λA3 h3=>?_;refine aJ (i:=2) h3 rfl rfl rfl λA4 h4=>?_;refine aJ (i:=2) h4 rfl rfl rfl λA5 h5=>hk b1 b2 A5 ?_;have h5:Own (MapI b2 .i64 []::MapI b1 .i64 []::At p [.int .i64 most,.int .i64 1,.int .i64 y,.map (some b1),.map (some b2)]::R) A5:=h5;exact h5.perm (List.Perm.trans (List.Perm.cons _ (List.Perm.swap _ _ _)) (List.Perm.trans (List.Perm.swap _ _ _) (List.Perm.cons _ (List.Perm.swap _ _ _))))
theorem aEw {most:Int} {Q:Option Addr->Int->AH->Prop} (h:Own l A) (h1:1<=most) (h2:most<=4095) (hk:∀ p A',Own (PcS p (iL most)::l) A'->Q (some ⟨p,0,none⟩) 0 A'):qao_A most Q A:=by
 unfold qao_A qao_G;refine bsel_f (by simp;omega) (bsel_f (by simp;omega) ?_);refine aW (cs:=[.int .i64 most,.int .i64 0,.int .i64 0,.map none,.map none]) h λp A1 h3=>?_;exact uX h3 λbo bt A2 h4=>hk p A2 (PcS.closeH (z:=iL most) h4)
theorem aDN {id:Int} {Q:Int->Bool->AH->Prop} (h:Own (PcS p z::R) A) (hz:z.OK) (hk:∀ A',Own (PcS p (getZ z id).1::R) A'->Q (getZ z id).2.1 (getZ z id).2.2 A'):qcz_A (some ⟨p,0,none⟩) id Q A:=by
 obtain ⟨z1,z2,z3,z4⟩:=hz;obtain ⟨bo,bt,hh⟩:=PcS.openH h;unfold qcz_A qcz_G;simp only [aG,add_at,Nat.zero_add];refine iD (i:=0) hh rfl rfl (pE (i:=2) hh rfl ?_);rw [jD];unfold getZ at hk;cases hl:z.tag.lookup id with
 | some n=>
  rw [hl] at hk;exact ⟨n,rfl,hk A h⟩
 | none=>
  rw [hl] at hk;simp only at hk;refine ⟨0,rfl,?_⟩;refine ld_I (i:=0) hh rfl rfl ?_;refine ld_I (i:=0) hh rfl rfl ?_
  -- what follows once there is a tag to give
  have fin:∀ (y:PcZ) (bo bt:Nat) (A1:AH),Own (pcL p bo bt y++R) A1->1<=y.next->y.next<=4095->y.tag.lookup id=none->∀ (b:Bool),
    (∀ A',Own (PcS p ⟨y.most,y.next+1,y.gen,putZ y.own y.next id,putZ y.tag id y.next⟩::R) A'->Q y.next b A')->
    aI .i64 ⟨p,1,none⟩ A1 λn17=>aI .i64 ⟨p,1,none⟩ A1 λn19=>aC ⟨p,1,none⟩ (.int .i64 (IntKind.wrap .i64 (n19+(1:Int)))) A1 λh21=>
     aM ⟨p,4,none⟩ h21 λmp24=>aM ⟨p,3,none⟩ h21 λmp25=>aBe h21 mp24 .i64 id (.int .i64 (0:Int)) λv26 n27 h28=>(∃ n29:Int,(v26:Value)=(.int .i64 n29)/\
     aBs h28 mp24 n27 (.int .i64 n17) λh30=>aBe h30 mp25 .i64 n17 (.int .i64 (0:Int)) λv31 n32 h33=>(∃ n34:Int,(v31:Value)=(.int .i64 n34)/\
     aBs h33 mp25 n32 (.int .i64 id) λh35=>Q n17 b h35)):=λy bo bt A1 h1 y1 y2 hno b hq=>by
   refine ld_I (i:=0) h1 rfl rfl (ld_I (i:=0) h1 rfl rfl (aJ (i:=0) h1 rfl rfl rfl λA2 h2=>?_));refine iD (i:=0) h2 rfl rfl (iD (i:=0) h2 rfl rfl ?_);refine aKo (i:=2) h2 rfl λst A3 h3=>?_;rw [jD,hno];refine ⟨0,rfl,?_⟩;refine aKP (i:=2) (key:=id) h3 rfl λA4 h4=>?_;refine aKo (i:=1) h4 rfl λst2 A5 h5=>?_
   have hv:∃ w:Int,((ivs y.own).lookup y.next).getD (.int .i64 0)=(.int .i64 w:Value):=by
    rw [jD];cases y.own.lookup y.next with
    | none=>exact ⟨0,rfl⟩
    | some w=>exact ⟨w,rfl⟩
   obtain ⟨w,hw⟩:=hv;refine ⟨w,hw,?_⟩;refine aKP (i:=1) (key:=y.next) h5 rfl λA6 h6=>hq A6 ?_
   refine PcS.closeH (bo:=bo) (bt:=bt) (h6.perm (List.Perm.of_eq ?_));have e1:IntKind.wrap .i64 (y.next+1)=y.next+1:=by rw [bK]<;>omega
   rw [e1];simp only [pcL,List.cons_append,List.nil_append,List.set_cons_succ,List.set_cons_zero,xB,zM]
  by_cases g:z.next > z.most
  ·rw [if_pos g] at hk;refine ⟨λA1=>∃ bo bt,Own (pcL p bo bt ⟨z.most,1,IntKind.wrap .i64 (z.gen+1),[],[]⟩++R) A1,λA1 ⟨bo,bt,h1⟩=>?_,?_⟩
   ·have:=fin _ bo bt A1 h1 (by simp) (by simp) rfl (decide (z.next > z.most)) (λA' h'=>by
     rw [decide_eq_true g];exact hk A' h')
    exact this
   ·refine aL (by simpa using g) ?_;refine uX (hh.cons λC hC=>(hC.tail.tail)) λbo bt A1 h1=>?_;refine ld_I (i:=0) h1 rfl rfl ?_;exact aJ (i:=0) h1 rfl rfl rfl λA2 h2=>⟨bo,bt,h2⟩
  ·rw [if_neg g] at hk;refine ⟨λA1=>A1=A,λA1 e=>?_,?_⟩
   ·subst e
    have:=fin z bo bt A1 hh z3 (by omega) hl (decide (z.next > z.most)) (λA' h'=>by
     rw [decide_eq_false g];exact hk A' h')
    exact this
   ·exact bsel_f (by simpa using g) rfl
end Go.Dn
namespace Go.Dn
structure Ln where
 v:Bool
 tag:Int
 page:Int
 frame:Int
 w:Bool
 u:Bool
 x:Bool
 g:Bool
 d:Bool
def Ln.cells (l:Ln):List Value:=[.bool l.v,.int .i64 l.tag,.int .i64 l.page,.int .i64 l.frame,.bool l.w,.bool l.u,.bool l.x,.bool l.g,.bool l.d]
def ln0:Ln:=⟨false,0,0,0,false,false,false,false,false⟩
def oY (ls:List Ln):List Value:=ls.flatMap Ln.cells
variable {A:AH} {l R:List SP} {p i k o:Nat} {ls:List Ln} {y m:Ln}
theorem qM:∀ {ls:List Ln} {k:Nat} {y:Ln},ls[k]? = some y->∃ pre post,oY ls=pre++y.cells++post/\pre.length=k*9/\∀ m,oY (ls.set k m)=pre++m.cells++post
 | [],k,y,h=>by simp at h
 | z::ls,0,y,h=>by
  simp at h;subst h;exact ⟨[],oY ls,rfl,rfl,λm=>rfl⟩
 | z::ls,k+1,y,h=>by
  obtain ⟨pre,post,h1,h2,h3⟩:=qM (ls:=ls) (k:=k) (y:=y) (by simpa using h);refine ⟨z.cells++pre,post,?_,by simp [Ln.cells,h2];omega,λm=>?_⟩
  ·show z.cells++oY ls=_;rw [h1];simp
  ·show z.cells++oY (ls.set k m)=_;rw [h3];simp
theorem gQ (hk:ls[k]? = some y) {c:Nat} (hc:c<9):(oY ls)[k*9+c]? = y.cells[c]?:=by
 obtain ⟨pre,post,h1,h2,_⟩:=qM hk;rw [h1,<- h2,List.append_assoc,List.getElem?_append_right (by omega),List.getElem?_append_left (by simp [Ln.cells];omega)];congr 1;omega
theorem aCX {K:Bool->Int->Int->Int->Bool->Bool->Bool->Bool->Bool->Prop} (h:Own l A) (e:l[i]? = some (At p (oY ls))) (hk:ls[k]? = some y) (ho:o=k*9) (hK:K y.v y.tag y.page y.frame y.w y.u y.x y.g y.d) :
  aB ⟨p,o,none⟩ A λb0=>aI .i64 ⟨p,o+1,none⟩ A λn1=>aI .i64 ⟨p,o+2,none⟩ A λn2=>aI .i64 ⟨p,o+3,none⟩ A λn3=>aB ⟨p,o+4,none⟩ A λb4=>aB ⟨p,o+5,none⟩ A λb5=>aB ⟨p,o+6,none⟩ A λb6=>aB ⟨p,o+7,none⟩ A λb7=>aB ⟨p,o+8,none⟩ A λb8=>K b0 n1 n2 n3 b4 b5 b6 b7 b8:=by
 subst ho;refine aU h e (by rw [<-Nat.add_zero (k*9)];exact gQ hk (c:=0) (by omega)) ?_;refine ld_I h e (gQ hk (c:=1) (by omega)) (ld_I h e (gQ hk (c:=2) (by omega)) (ld_I h e (gQ hk (c:=3) (by omega)) ?_));exact aU h e (gQ hk (c:=4) (by omega)) (aU h e (gQ hk (c:=5) (by omega)) (aU h e (gQ hk (c:=6) (by omega)) (aU h e (gQ hk (c:=7) (by omega)) (aU h e (gQ hk (c:=8) (by omega)) hK))))
theorem aG8 {pre mid post:List Value} {c n:Nat} {v:Value} (hn:pre.length=n) (hc:c<mid.length):(pre++mid++post).set (n+c) v=pre++mid.set c v++post:=by
 subst hn;rw [List.append_assoc,List.set_append_right _ _ (by omega),show pre.length+c-pre.length=c by omega,List.set_append_left _ _ hc,List.append_assoc]
theorem aHa {pre mid post:List Value} {c n:Nat} (hn:pre.length=n) (hc:c<mid.length):((pre++mid++post)[n+c]?).isSome=true:=by
 subst hn;rw [List.append_assoc,List.getElem?_append_right (by omega),List.getElem?_append_left (by omega)];simp;omega
theorem aCS {K:AP} (h:Own (At p (oY ls)::R) A) (hk:ls[k]? = some y) (ho:o=k*9) (hK:∀ A',Own (At p (oY (ls.set k m))::R) A'->K A') :
  aC ⟨p,o,none⟩ (.bool m.v) A λh0=>aC ⟨p,o+1,none⟩ (.int .i64 m.tag) h0 λh1=>aC ⟨p,o+2,none⟩ (.int .i64 m.page) h1 λh2=>aC ⟨p,o+3,none⟩ (.int .i64 m.frame) h2 λh3=>aC ⟨p,o+4,none⟩ (.bool m.w) h3 λh4=>aC ⟨p,o+5,none⟩ (.bool m.u) h4 λh5=>aC ⟨p,o+6,none⟩ (.bool m.x) h5 λh6=>aC ⟨p,o+7,none⟩ (.bool m.g) h6 λh7=>aC ⟨p,o+8,none⟩ (.bool m.d) h7 K:=by
 subst ho;obtain ⟨pre,post,h1,h2,h3⟩:=qM hk;rw [h1] at h;have hK:=λA'=>hK A';simp only [h3 m] at hK
 have step:∀ {mid:List Value} {c:Nat} {v:Value} {A:AH} {K:AP},mid.length=9->c<9->v.oneCell'=true->Own (At p (pre++mid++post)::R) A->(∀ A',Own (At p (pre++mid.set c v++post)::R) A'->K A')->aC ⟨p,k*9+c,none⟩ v A K:=λ{mid c v A K} hm hc hv hA hq=>
  aJ (i:=0) hA rfl (aHa h2 (by omega)) hv λA' h'=>hq A' (by
   have h':Own (At p ((pre++mid++post).set (k*9+c) v)::R) A':=h';rwa [aG8 h2 (by omega)] at h')
 refine step (c:=0) rfl (by omega) rfl h λA0 h=>?_;refine step (c:=1) rfl (by omega) rfl h λA1 h=>?_;refine step (c:=2) rfl (by omega) rfl h λA2 h=>?_;refine step (c:=3) rfl (by omega) rfl h λA3 h=>?_;refine step (c:=4) rfl (by omega) rfl h λA4 h=>?_;refine step (c:=5) rfl (by omega) rfl h λA5 h=>?_;refine step (c:=6) rfl (by omega) rfl h λA6 h=>?_;refine step (c:=7) rfl (by omega) rfl h λA7 h=>?_;exact step (c:=8) rfl (by omega) rfl h λA8 h=>hK A8 h
def fV (f:Ln->Ln) (k:Nat) (ls:List Ln):List Ln:=(ls.take k).map f++ls.drop k
theorem aBS (f:Ln->Ln):fV f 0 ls=ls:=by simp [fV]
theorem aD4 (f:Ln->Ln) (h:ls.length<=k):fV f k ls=ls.map f:=by simp [fV,List.take_of_length_le h,List.drop_eq_nil_of_le h]
theorem uM {f:Ln->Ln} (hk:ls[k]? = some y):(fV f k ls)[k]? = some y:=by
 have hlt:=(List.getElem?_eq_some_iff.1 hk).1;unfold fV;rw [List.getElem?_append_right (by simp;omega)];simp only [List.length_map,List.length_take,Nat.min_eq_left (Nat.le_of_lt hlt),Nat.sub_self,List.getElem?_drop,Nat.add_zero];exact hk
theorem sZ {f:Ln->Ln} (hk:ls[k]? = some y):(fV f k ls).set k (f y)=fV f (k+1) ls:=by
 have hlt:=(List.getElem?_eq_some_iff.1 hk).1;unfold fV;rw [List.set_append_right _ _ (by simp;omega)]
 have e1:ls.drop k=y::ls.drop (k+1):=by
  rw [List.drop_eq_getElem_cons hlt];rw [List.getElem?_eq_getElem hlt] at hk;rw [Option.some.inj hk]
 have e2:ls.take (k+1)=ls.take k++[y]:=by
  rw [List.take_add_one,hk];rfl
 rw [e1,e2];simp [Nat.min_eq_left (Nat.le_of_lt hlt)]
theorem aBz {f:Ln->Ln} (hk:ls[k]? = some y) (hf:f y=y):fV f (k+1) ls=fV f k ls:=by
 rw [<-sZ hk,hf];have:=uM (f:=f) hk;apply List.ext_getElem?;intro j;rw [List.getElem?_set];split
 ·rename_i e;subst e;rw [if_pos (List.getElem?_eq_some_iff.1 this).1,this]
 ·rfl
def TlbS (p:Nat) (ls:List Ln):SP:=λB=>ls.length=16/\At p (oY ls) B
theorem TlbS.openH (h:Own (TlbS p ls::R) A):ls.length=16/\Own (At p (oY ls)::R) A:=Own.pure h
theorem TlbS.closeH (hl:ls.length=16) (h:Own (At p (oY ls)::R) A):Own (TlbS p ls::R) A:=h.imp λ_ hB=>⟨hl,hB⟩
def allF (stay:Bool) (y:Ln):Ln:=if (!stay || !y.g)=true then ln0 else y
theorem aEZ {stay:Bool} {Q:AH->Prop} (h:Own (TlbS p ls::R) A) (hk:∀ A',Own (TlbS p (ls.map (allF stay))::R) A'->Q A'):qdc_A (some ⟨p,0,none⟩) stay Q A:=by
 obtain ⟨hl,h⟩:=TlbS.openH h;unfold qdc_A qdc_G qdb_A qdb_G;refine aW (cs:=[.bool stay]) h λb A1 h1=>?_;have h1:=h1.swap;refine ⟨λx mm A'=>∃ i:Nat,x=i/\mm+i=8/\Own (At p (oY (fV (allF stay) (i*2) ls))::At b [.bool stay]::R) A',⟨8,0,rfl,rfl,by simpa [aBS] using h1⟩,?_⟩;intro x mm A2 ⟨i,e1,e2,h2⟩;subst e1;refine bsel_in (λc=>?_) λc=>?_
 ·have c:(i:Int)<8:=of_decide_eq_true c;refine ⟨λx m2 A'=>∃ j:Nat,x=j/\m2+j=2/\Own (At p (oY (fV (allF stay) (i*2+j) ls))::At b [.bool stay]::R) A',⟨2,0,rfl,rfl,h2⟩,?_⟩;intro x m2 A3 ⟨j,e3,e4,h3⟩;subst e3;refine bsel_in (λc2=>?_) λc2=>?_
  ·have c2:(j:Int)<2:=of_decide_eq_true c2;obtain ⟨y,hy⟩:∃ y,ls[i*2+j]? = some y:=⟨ls[i*2+j]'(by omega),by simp⟩;refine ⟨λA'=>Own (At p (oY (fV (allF stay) (i*2+(j+1)) ls))::At b [.bool stay]::R) A',λA4 h4=>⟨m2-1,by omega,j+1,by rw [bK]<;>omega,by omega,h4⟩,?_⟩;simp only [aG,add_at,Nat.zero_add,Int.toNat_natCast];refine inB_in (by omega) c (inB_in (by omega) c2 ?_);refine aCX (i:=0) (k:=i*2+j) h3 rfl (uM hy) (by omega) ?_;unfold qda_A;simp only [aG];refine aU (i:=1) h3 rfl rfl ?_
   have keep:(!stay || !y.g)=false->Own (At p (oY (fV (allF stay) (i*2+(j+1)) ls))::At b [.bool stay]::R) A3:=λg=>by
    rw [<-Nat.add_assoc,aBz hy (by unfold allF;rw [g];rfl)];exact h3
   have go:(!stay || !y.g)=true->_:=λg=>inB_in (by omega) c (inB_in (by omega) c2 (aCS (m:=ln0) (K:=λA'=>Own (At p (oY (fV (allF stay) (i*2+(j+1)) ls))::At b [.bool stay]::R) A') h3 (uM hy) (o:=i*18+j*9) (by omega) λA4 h4=>by
    have e:allF stay y=ln0:=by unfold allF;rw [if_pos g]
    rw [<-e,sZ hy,Nat.add_assoc] at h4;exact h4))
   refine bsel_in (λg=>aL rfl (go (by rw [g];rfl))) λg=>?_;cases hg:y.g with
   | false=>exact aL rfl (go (by rw [hg,g];rfl))
   | true=>exact bsel_f rfl (keep (by rw [hg,g];rfl))
  ·have c2:¬(j:Int)<2:=of_decide_eq_false c2;have hj:j=2:=by omega
   subst hj;exact ⟨mm-1,by omega,i+1,by rw [bK]<;>omega,by omega,by rw [show (i+1)*2=i*2+2 by omega];exact h3⟩
 ·have c:¬(i:Int)<8:=of_decide_eq_false c;have hi:i=8:=by omega
  subst hi;rw [aD4 _ (by omega)] at h2;exact hk A2 (TlbS.closeH (by simpa using hl) (h2.cons λC hC=>hC.tail))
end Go.Dn
namespace Go.Dn
variable {A:AH} {R:List SP} {p i k o:Nat} {ls:List Ln} {y m:Ln} {s:Sl}
theorem wQ {α:Type} {L:List α} {v:Nat} {z:α} (h:L[v]? = some z):L.take (v+1)=L.take v++[z]:=by rw [List.take_add_one,h];rfl
def fitsB (tag page:Int) (y:Ln):Bool:=y.v&&(y.page==page&&(y.tag==tag || y.g))
def clrF (tag page:Int) (g:Bool) (y:Ln):Ln:=if (fitsB tag page y || (g&&(y.v&&y.page==page)))=true then ln0 else y
def fillJ (s j:Nat) (f:Ln->Ln) (ls:List Ln):List Ln:=ls.mapIdx λt z=>if s*2<=t/\t<s*2+j then f z else z
def zG (ls:List Ln) (way:Nat) (m:Ln):List Ln:=(fillJ (m.page % 8).toNat 2 (clrF m.tag m.page m.g) ls).set ((m.page % 8).toNat*2+way) m
theorem aEf {s j:Nat} {f:Ln->Ln}:(fillJ s j f ls).length=ls.length:=by simp [fillJ]
theorem aBf {s:Nat} {f:Ln->Ln}:fillJ s 0 f ls=ls:=by
 apply List.ext_getElem?;intro t;unfold fillJ;rw [List.getElem?_mapIdx];cases ls[t]? with
 | none=>rfl
 | some z=>
  simp only [Option.map_some];rw [if_neg (by omega)]
theorem lF {s j:Nat} {f:Ln->Ln} (hy:ls[s*2+j]? = some y):(fillJ s j f ls)[s*2+j]? = some y:=by
 unfold fillJ;rw [List.getElem?_mapIdx,hy];simp only [Option.map_some];rw [if_neg (by omega)]
theorem tY {s j:Nat} {f:Ln->Ln} (hy:ls[s*2+j]? = some y):(fillJ s j f ls).set (s*2+j) (f y)=fillJ s (j+1) f ls:=by
 have hlt:=(List.getElem?_eq_some_iff.1 hy).1;apply List.ext_getElem?;intro t;rw [List.getElem?_set];unfold fillJ;by_cases e:s*2+j=t
 ·subst e;rw [if_pos rfl,if_pos (by simp;omega),List.getElem?_mapIdx,hy];simp only [Option.map_some];rw [if_pos (by omega)]
 ·rw [if_neg e,List.getElem?_mapIdx,List.getElem?_mapIdx];cases ls[t]? with
  | none=>rfl
  | some z=>
   simp only [Option.map_some];by_cases q:s*2<=t/\t<s*2+j
   ·rw [if_pos q,if_pos (by omega)]
   ·rw [if_neg q,if_neg (by omega)]
theorem aCn {s j:Nat} {f:Ln->Ln} (hy:ls[s*2+j]? = some y) (hf:f y=y):fillJ s (j+1) f ls=fillJ s j f ls:=by
 rw [<-tY hy,hf];have:=lF (f:=f) hy;apply List.ext_getElem?;intro t;rw [List.getElem?_set];split
 ·rename_i e;subst e;rw [if_pos (List.getElem?_eq_some_iff.1 this).1,this]
 ·rfl
theorem aK3 {x:Int} (h0:0<=x) (h1:x<9223372036854775808):bits .and .i64 x 7=x % 8:=by
 obtain ⟨n,rfl⟩:∃ n:Nat,x=n:=⟨x.toNat,by omega⟩;have h2:bits .and .i64 (n:Int) 7=IntKind.wrap .i64 ((BitVec.ofInt 64 n&&& BitVec.ofInt 64 7).toNat:Int):=rfl;have h3:n&&& 7=n % 8:=Nat.and_two_pow_sub_one_eq_mod n 3;rw [h2,BitVec.toNat_and,BitVec.ofInt_natCast,show BitVec.ofInt 64 7=BitVec.ofNat 64 7 from rfl,BitVec.toNat_ofNat,BitVec.toNat_ofNat,Nat.mod_eq_of_lt (by omega),Nat.mod_eq_of_lt (by omega),h3,bK]<;>omega
theorem aDT {way:Nat} {Q:Int->AH->Prop} (h:Own (TlbS p ls::R) A) (hw:way<2) (hv:m.v=true) (ht:0<=m.tag/\m.tag<4096) (hp:0<=m.page/\m.page<9223372036854775808) (hf:0<=m.frame) (hk:∀ A',Own (TlbS p (zG ls way m)::R) A'->Q 0 A') :
  qec_A (some ⟨p,0,none⟩) way m.v m.tag m.page m.frame m.w m.u m.x m.g m.d Q A:=by
 obtain ⟨hl,h⟩:=TlbS.openH h;unfold qec_A qec_G;refine ⟨λA'=>A'=A,λA1 e=>?_,?_⟩
 ·subst e;unfold qde_A qdf_A;simp only [aG,add_at,Nat.zero_add,aK3 hp.1 hp.2];obtain ⟨s,hs⟩:∃ s:Nat,m.page % 8=s:=⟨(m.page % 8).toNat,by omega⟩;have hs8:s<8:=by omega
  have hfz:zG ls way m=(fillJ s 2 (clrF m.tag m.page m.g) ls).set (s*2+way) m:=by unfold zG;rw [hs,Int.toNat_natCast]
  rw [hfz] at hk;rw [hs];simp only [Int.toNat_natCast];refine inB_in (by omega) (by omega) ?_;refine ⟨λx mm A'=>∃ j:Nat,x=j/\mm+j=2/\Own (At p (oY (fillJ s j (clrF m.tag m.page m.g) ls))::R) A',⟨2,0,rfl,rfl,by rw [aBf];exact h⟩,?_⟩;intro x mm A2 ⟨j,e1,e2,h2⟩;subst e1;refine bsel_in (λc=>?_) λc=>?_
  ·have c:(j:Int)<2:=of_decide_eq_true c;obtain ⟨y,hy⟩:∃ y,ls[s*2+j]? = some y:=⟨ls[s*2+j]'(by omega),by simp⟩;simp only [Int.toNat_natCast];refine ⟨λA'=>Own (At p (oY (fillJ s (j+1) (clrF m.tag m.page m.g) ls))::R) A',λA3 h3=>⟨mm-1,by omega,j+1,by rw [bK]<;>omega,by omega,h3⟩,?_⟩;refine inB_in (by omega) c (aCX (i:=0) (k:=s*2+j) h2 rfl (lF hy) (by omega) ?_)
   have keep:(fitsB m.tag m.page y || (m.g&&(y.v&&y.page==m.page)))=false->Own (At p (oY (fillJ s (j+1) (clrF m.tag m.page m.g) ls))::R) A2:=λg=>by
    rw [aCn hy (by unfold clrF;rw [g];rfl)];exact h2
   have go:(fitsB m.tag m.page y || (m.g&&(y.v&&y.page==m.page)))=true->_:=λg=>inB_in (by omega) c (aCS (m:=ln0) (K:=λA'=>Own (At p (oY (fillJ s (j+1) (clrF m.tag m.page m.g) ls))::R) A') h2 (lF hy) (o:=s*18+j*9) (by omega) λA4 h4=>by
    have e:clrF m.tag m.page m.g y=ln0:=by unfold clrF;rw [if_pos g]
    rw [<-e,tY hy] at h4;exact h4)
   have rest:fitsB m.tag m.page y=false->_:=λgf=>(bsel_in (b:=m.g) (X:=bJ (j:Int) 2 (aB ⟨p,s*18+j*9,none⟩ A2 λb32=>bsel b32 (bJ (j:Int) 2 (aI .i64 ⟨p,s*18+j*9+2,none⟩ A2 λn33=>bsel (n33==m.page) (bJ (j:Int) 2 (aC ⟨p,s*18+j*9,none⟩ (.bool false) A2 λh0=>aC ⟨p,s*18+j*9+1,none⟩ (.int .i64 0) h0 λh1=>aC ⟨p,s*18+j*9+2,none⟩ (.int .i64 0) h1 λh2=>aC ⟨p,s*18+j*9+3,none⟩ (.int .i64 0) h2 λh3=>aC ⟨p,s*18+j*9+4,none⟩ (.bool false) h3 λh4=>aC ⟨p,s*18+j*9+5,none⟩ (.bool false) h4 λh5=>aC ⟨p,s*18+j*9+6,none⟩ (.bool false) h5 λh6=>aC ⟨p,s*18+j*9+7,none⟩ (.bool false) h6 λh7=>aC ⟨p,s*18+j*9+8,none⟩ (.bool false) h7 λA'=>Own (At p (oY (fillJ s (j+1) (clrF m.tag m.page m.g) ls))::R) A')) (Own (At p (oY (fillJ s (j+1) (clrF m.tag m.page m.g) ls))::R) A2))) (Own (At p (oY (fillJ s (j+1) (clrF m.tag m.page m.g) ls))::R) A2))) (Y:=Own (At p (oY (fillJ s (j+1) (clrF m.tag m.page m.g) ls))::R) A2)
    (λg1=>inB_in (by omega) c (aU (i:=0) h2 rfl (by have:=gQ (lF (f:=clrF m.tag m.page m.g) hy) (c:=0) (by omega);rwa [show (s*2+j)*9+0=s*18+j*9 by omega] at this) (bsel_in (λg2=>inB_in (by omega) c (ld_I (i:=0) h2 rfl (by have:=gQ (lF (f:=clrF m.tag m.page m.g) hy) (c:=2) (by omega);rwa [show (s*2+j)*9+2=s*18+j*9+2 by omega] at this) (bsel_in (λg3=>go (by rw [gf,g1,g2,g3];rfl)) λg3=>keep (by rw [gf,g1,g2,g3];rfl)))) λg2=>keep (by rw [gf,g1,g2];rfl))))
    λg1=>keep (by rw [gf,g1];rfl))
   refine bsel_in (λa1=>bsel_in (λa2=>bsel_in (λa3=>aL rfl (go (by unfold fitsB;rw [a1,a2,a3];rfl))) λa3=>?_) λa2=>bsel_f rfl (rest (by unfold fitsB;rw [a1,a2];rfl))) λa1=>bsel_f rfl (rest (by unfold fitsB;rw [a1];rfl));refine bsel_in (λa4=>go (by unfold fitsB;rw [a1,a2,a3,a4];rfl)) λa4=>rest (by unfold fitsB;rw [a1,a2,a3,a4];rfl)
  ·have c:¬(j:Int)<2:=of_decide_eq_false c;have hj:j=2:=by omega
   subst hj;have hlen:(fillJ s 2 (clrF m.tag m.page m.g) ls).length=16:=by rw [aEf,hl]
   refine inB_in (by omega) (by omega) ?_;obtain ⟨y,hy⟩:∃ y,(fillJ s 2 (clrF m.tag m.page m.g) ls)[s*2+way]? = some y:=⟨(fillJ s 2 (clrF m.tag m.page m.g) ls)[s*2+way]'(by omega),by simp⟩;refine aCS (m:=m) h2 hy (o:=s*18+way*9) (by omega) λA3 h3=>hk A3 (TlbS.closeH (by simp [hlen]) h3)
 ·refine bsel_f (by simp) (bsel_f (by simp;omega) (bsel_f (by simp;omega) (bsel_f (by simp;omega) (bsel_f (by simp;omega) (bsel_f (by simp;omega) (bsel_f (by rw [hv];rfl) rfl))))))
end Go.Dn
namespace Go.Dn
structure Reg where
 a:Int
 b:Int
 w:Bool
 u:Bool
 x:Bool
 k:Int
def Reg.cells (r:Reg):List Value:=[.int .i64 r.a,.int .i64 r.b,.bool r.w,.bool r.u,.bool r.x,.int .i64 r.k]
def regC (L:List Reg):List Value:=L.flatMap Reg.cells
variable {A:AH} {l R:List SP} {P:SP} {i k v:Nat} {s:Sl} {L:List Reg} {y:Reg}
theorem bV:∀ L:List Reg,(regC L).length=L.length*6
 | []=>rfl
 | y::L=>by
  have:=bV L;unfold regC at this ⊢;rw [List.flatMap_cons,List.length_append,this,List.length_cons];simp [Reg.cells];omega
theorem gN (a b:List Reg):regC (a++b)=regC a++regC b:=List.flatMap_append
theorem yM:∀ {L:List Reg} {v:Nat} {y:Reg} {c:Nat} {z:Value},L[v]? = some y->y.cells[c]? = some z->(regC L)[v*6+c]? = some z
 | [],v,a,c,x,h,_=>by simp at h
 | b::r,0,a,c,x,h,hc=>by
  simp at h;subst h;have hlt:c<6:=(List.getElem?_eq_some_iff.1 hc).1;unfold regC;rw [List.flatMap_cons,List.getElem?_append_left (by simp [Reg.cells];omega),Nat.zero_mul,Nat.zero_add];exact hc
 | b::r,v+1,a,c,x,h,hc=>by
  have h:r[v]? = some a:=by simpa using h
  unfold regC;rw [List.flatMap_cons,List.getElem?_append_right (by simp [Reg.cells];omega)];have:(v+1)*6+c-b.cells.length=v*6+c:=by simp [Reg.cells];omega
  rw [this];exact yM h hc
theorem regC_one {v:Value} (h:v ∈ regC L):v.oneCell'=true:=by
 obtain ⟨d,_,hd⟩:=List.mem_flatMap.1 h;simp [Reg.cells] at hd;rcases hd with rfl | rfl | rfl | rfl | rfl | rfl<;>rfl
theorem aFh {L:List Reg} (h:regC L=[]):L=[]:=by
 have:=bV L;rw [h] at this;exact List.length_eq_zero_iff.1 (by simp at this;omega)
theorem eA (h:Own l A) (e:l[k]? = some P) (hr:bF P s 6 (regC L)):s.len=L.length:=by
 have:=eP h e hr;rw [bV] at this;omega
theorem pM (h:Own l A) (e:l[k]? = some P) (hr:bF P s 6 (regC L)) (hv:L[v]? = some y) :
  ∃ a,s.a=some a/\∀ K:Int->Int->Bool->Bool->Bool->Int->Prop,K y.a y.b y.w y.u y.x y.k->
   aI .i64 (Addr.add a (Int.toNat (v:Int)*6)) A λn0=>aI .i64 (Addr.add (Addr.add a (Int.toNat (v:Int)*6)) 1) A λn1=>aB (Addr.add (Addr.add a (Int.toNat (v:Int)*6)) 2) A λb2=>
    aB (Addr.add (Addr.add a (Int.toNat (v:Int)*6)) 3) A λb3=>aB (Addr.add (Addr.add a (Int.toNat (v:Int)*6)) 4) A λb4=>aI .i64 (Addr.add (Addr.add a (Int.toNat (v:Int)*6)) 5) A λn5=>K n0 n1 b2 b3 b4 n5:=by
 obtain ⟨bb,o,q0,c0⟩:=bU h e hr (j:=v*6+0) (yM hv (c:=0) rfl);refine ⟨_,q0,λK hK=>?_⟩
 have hc:∀ c z,y.cells[c]? = some z->bM A ⟨bb,o+v*6+c,none⟩=some z:=λc z hz=>by
  obtain ⟨b2,o2,q1,c1⟩:=bU h e hr (j:=v*6+c) (yM hv hz);rw [q0] at q1;cases q1;rw [Nat.add_assoc];exact c1
 simp only [add_at,Int.toNat_natCast];exact ⟨_,by simpa using hc 0 _ rfl,_,hc 1 _ rfl,_,hc 2 _ rfl,_,hc 3 _ rfl,_,hc 4 _ rfl,_,hc 5 _ rfl,hK⟩
theorem aAm {t:TypeId} {K:Sl->AP} (h:Own (SlO s 6 (regC L)::R) A) (hs:s.a=none->L=[]) (hb:L.length<=1000000)
  (hk:∀ s' A',s'.a≠none->Own (SlO s' 6 (regC (L++[y]))::R) A'->K s' A') :
  aT A (.cells #[.int .i64 y.a,.int .i64 y.b,.bool y.w,.bool y.u,.bool y.x,.int .i64 y.k] t) λb h2=>
   mK 6 32 #[(.int .i64 (0:Int)),(.int .i64 (0:Int)),(.bool false),(.bool false),(.bool false),(.int .i64 (0:Int))] t s (Sl.mk (some (Addr.mk b 0 none)) 1 1) h2 K:=by
 have hl:s.len=L.length:=by
  obtain ⟨B,_,hB⟩:=h.sat;have:=hB.1.1;rw [bV] at this;omega
 refine aW (cs:=y.cells) h λb A1 h1=>?_;have h1:=h1.swap;refine cP (i:=0) h1 rfl (fI (n:=1) (sz:=6) (cs:=y.cells) (rest:=[]) rfl) (λg=>nomatch g) (λg=>by rw [hs g];rfl) rfl (λv hv=>?_) ⟨by simp only [hl];omega,by simp only [hl];omega⟩ λs' A2 j1 j2 h2=>?_
 ·exact regC_one (L:=[y]) (by simpa [regC] using hv)
 ·refine hk s' A2 (λg=>?_) ?_
  ·have:=j2 g;simp [Reg.cells] at this
  ·rw [gN];have:regC [y]=y.cells:=by simp [regC]
   rw [this];exact Own.cons (λC hC=>hC.tail) h2
def dY (p q:Reg):Bool:=p.b==q.a&&((p.w==q.w&&(p.u==q.u&&(p.x==q.x&&true)))&&p.k==q.k)
theorem uE {p q:Reg} {Q:Bool->AH->Prop} (hk:Q (dY p q) A):qej_A p.a p.b p.w p.u p.x p.k q.a q.b q.w q.u q.x q.k Q A:=by
 unfold qej_A;unfold dY at hk;refine bsel_in (λg=>bsel_in (λg2=>?_) λg2=>?_) λg=>?_
 ·rw [g,g2] at hk;exact hk
 ·rw [g,g2] at hk;exact hk
 ·rw [g] at hk;exact hk
def rightB (a b:Int):Bool:=decide (a>=0)&&(decide (b > a)&&(decide (b<=34359738368)&&decide (b-a<=65536)))
theorem aBP {a b:Int} {Q:Bool->AH->Prop} (hk:Q (rightB a b) A):qei_A a b Q A:=by
 unfold qei_A;unfold rightB at hk;refine bsel_in (λg=>bsel_in (λg2=>bsel_in (λg3=>?_) λg3=>?_) λg2=>?_) λg=>?_
 ·have g':=of_decide_eq_true g;have g2':=of_decide_eq_true g2;have g3':=of_decide_eq_true g3;rw [bK (by omega) (by omega)];rw [g,g2,g3] at hk;exact hk
 ·rw [g,g2,g3] at hk;exact hk
 ·rw [g,g2] at hk;exact hk
 ·rw [g] at hk;exact hk
def jX (out:List Reg) (r:Reg):List Reg:=match out.getLast? with
 | some q=>if dY q r=true then out.dropLast++[{ q with b:=r.b }] else out++[r]
 | none=>[r]
def mergedR (L:List Reg):List Reg:=L.foldl jX []
theorem aE9 (out:List Reg) (r:Reg):(jX out r).length<=out.length+1:=by
 unfold jX;split
 ·split<;>simp<;>omega
 ·simp
theorem aCc {α β:Type} (f:β->α->β) (z:β) (L:List α) {v:Nat} {y:α} (h:L[v]? = some y):(L.take (v+1)).foldl f z=f ((L.take v).foldl f z) y:=by
 rw [wQ h,List.foldl_append];rfl
theorem wT:∀ (L:List Reg),(mergedR L).length<=L.length:=by
 intro L;unfold mergedR
 have:∀ (L:List Reg) (o:List Reg),(L.foldl jX o).length<=o.length+L.length:=by
  intro L
  induction L with
  | nil=>intro o;simp
  | cons y L ih=>
   intro o;have h1:=ih (jX o y);have h2:=aE9 o y;simp only [List.foldl_cons,List.length_cons];omega
 simpa using this L []
theorem aDE {o:List Reg} {q r:Reg} (n:Int):(regC (o++[q])).set (o.length*6+1) (.int .i64 n)=regC (o++[{ q with b:=n }]):=by
 rw [gN,gN,List.set_append_right _ _ (by rw [bV];omega),bV,show o.length*6+1-o.length*6=1 by omega];rfl
theorem aAn {Q:Sl->AH->Prop} (h:Own l A) (e:l[k]? = some P) (hr:bF P s 6 (regC L)) (hb:L.length<=100000)
  (hk:∀ s' A',(s'.a=none->mergedR L=[])->Own (SlO s' 6 (regC (mergedR L))::l) A'->Q s' A'):qep_A s Q A:=by
 have hl:=eA h e hr;unfold qep_A qep_G
 refine ⟨λo x m A'=>∃ v:Nat,x=v/\m+v=L.length/\(o.a=none->mergedR (L.take v)=[])/\Own (SlO o 6 (regC (mergedR (L.take v)))::l) A',⟨L.length,0,rfl,rfl,λ_=>rfl,
  ⟨λ_=>none,A,λ_=>.inl rfl,(λ_ _ e=>nomatch e),mA.refl A,SlO.nil,h⟩⟩,?_⟩
 intro o x m A1 ⟨v,e1,e2,ho,h1⟩;subst e1;refine bsel_in (λc=>?_) λc=>?_
 ·have c:(v:Int)<s.len:=of_decide_eq_true c;obtain ⟨y,hy⟩:∃ y,L[v]? = some y:=⟨L[v]'(by omega),by simp⟩;have hst:mergedR (L.take (v+1))=jX (mergedR (L.take v)) y:=aCc _ _ _ hy;have hml:(mergedR (L.take v)).length<=v:=Nat.le_trans (wT _) (by simp;omega);refine ⟨λo' A'=>(o'.a=none->mergedR (L.take (v+1))=[])/\Own (SlO o' 6 (regC (mergedR (L.take (v+1))))::l) A',λo' A2 ⟨f1,f2⟩=>⟨m-1,by omega,v+1,by rw [bK]<;>omega,by omega,f1,f2⟩,?_⟩;obtain ⟨a,q1,q2⟩:=pM (k:=k+1) h1 (by simpa using e) hr hy;rw [q1];refine inB_in (by omega) c (q2 _ ?_)
  have hol:o.len=(mergedR (L.take v)).length:=by
   obtain ⟨B,_,hB⟩:=h1.sat;have:=hB.1.1;rw [bV] at this;omega
  rw [hst];generalize mergedR (L.take v)=out at *;refine bsel_in (λg=>?_) λg=>?_
  ·have g:(o.len:Int) > 0:=of_decide_eq_true g
   have e1:IntKind.wrap .i64 ((Int.ofNat o.len)-(1:Int))=((out.length-1:Nat):Int):=by
    show IntKind.wrap .i64 ((o.len:Int)-1)=_;rw [bK]<;>omega
   rw [e1];obtain ⟨q,hq⟩:∃ q,out[out.length-1]? = some q:=⟨out[out.length-1]'(by omega),by simp⟩;have hlast:out.getLast? = some q:=by rw [List.getLast?_eq_getElem?];exact hq
   have hdl:out=out.dropLast++[q]:=by
    have hne:out≠[]:=λz=>by rw [z] at hlast;simp at hlast
    have:=List.dropLast_concat_getLast hne;rw [List.getLast?_eq_some_getLast hne] at hlast;rw [<-Option.some.inj hlast];exact this.symm
   obtain ⟨a2,p1,p2⟩:=pM (k:=0) h1 rfl bC hq;rw [p1];refine inB_in (by omega) (by omega) (p2 _ (uE ?_));have hm:jX out y=if dY q y=true then out.dropLast++[{ q with b:=y.b }] else out++[y]:=by unfold jX;rw [hlast]
   refine bsel_in (λj=>?_) λj=>?_
   ·rw [hm,if_pos j];refine inB_in (by omega) (by omega) ?_
    -- the last one's end is moved
    obtain ⟨B,C,d1,d2,d3,d4,d5⟩:=h1;have hne:¬ o.cap=0:=by have:=d4.1.2;omega
    have h1':Own ((λB=>∃ b rest,o.a=some ⟨b,0,none⟩/\((o.len*6=(regC out).length/\o.len<=o.cap)/\(regC out++rest).length=o.cap*6)/\At b (regC out++rest) B)::l) A1:=by
     rcases d4.2 with g0 | ⟨b,rest,g1,g2,g3⟩
     ·exact absurd g0 hne
     ·exact ⟨B,C,d1,d2,d3,⟨b,rest,g1,⟨d4.1,g2⟩,g3⟩,d5⟩
    obtain ⟨b,h1'⟩:=Own.ex h1';obtain ⟨rest,h1'⟩:=Own.ex h1';obtain ⟨ha,h1'⟩:=Own.pure h1';obtain ⟨⟨hlen,hroom⟩,h1'⟩:=Own.pure h1';rw [ha] at p1;cases p1;simp only [add_at,Nat.zero_add,Int.toNat_natCast];have hrl:=bV out;refine aJ (i:=0) h1' rfl (by rw [List.getElem?_append_left (by omega)];simp;omega) rfl λA2 h2=>?_;have h2:Own (At b ((regC out++rest).set ((out.length-1)*6+1) (.int .i64 y.b))::l) A2:=h2;rw [List.set_append_left _ _ (by omega)] at h2
    have hcl:(regC out).set ((out.length-1)*6+1) (.int .i64 y.b)=regC (out.dropLast++[{ q with b:=y.b }]):=by
     have hd:out.length-1=out.dropLast.length:=by simp
     conv=>lhs;rw [hdl]
     rw [show (out.dropLast++[q]).length-1=out.dropLast.length by simp];exact aDE (r:=y) y.b
    rw [hcl] at h2
    have hl2:(regC (out.dropLast++[{ q with b:=y.b }])).length=(regC out).length:=by
     rw [bV,bV];have:=congrArg List.length hdl;simp at this ⊢;omega
    refine ⟨λz=>(by rw [ha] at z;cases z),Own.imp (λB hB=>⟨⟨by rw [hl2];exact hlen.1,hlen.2⟩,.inr ⟨b,rest,ha,by rw [List.length_append,hl2,<- List.length_append];exact hroom,hB⟩⟩) h2⟩
   ·have j:¬ dY q y=true:=by rw [j];simp
    rw [hm,if_neg j];exact aAm h1 ho (by omega) λs' A2 j1 h2=>⟨λz=>absurd z j1,h2⟩
  ·have g:¬ (o.len:Int) > 0:=of_decide_eq_false g;have h0:out=[]:=List.length_eq_zero_iff.1 (by omega);subst h0;exact aAm h1 ho (by simp) λs' A2 j1 h2=>⟨λz=>absurd z j1,h2⟩
 ·have c:¬(v:Int)<s.len:=of_decide_eq_false c;have hv:v=L.length:=by omega
  subst hv;rw [List.take_length] at ho h1;exact hk o A1 ho h1
end Go.Dn
namespace Go.Dn
variable {A:AH} {l:List SP} {P:SP} {k v:Nat} {s:Sl} {L:List Reg} {y:Reg}
def okP (o:Option Reg) (y:Reg):Bool:=!decide (y.a<0)&&(!decide (y.b<=y.a)&&(!decide (y.b > 34359738368)&&match o with
 | none=>true
 | some q=>!decide (q.b > y.a)&&!dY q y))
def okR6 (L:List Reg) (v:Nat):Bool:=match L[v]? with
 | none=>true
 | some y=>okP (if v=0 then none else L[v-1]?) y
theorem Own.nil6 {sz:Nat} (h:Own l A):Own (SlO Sl.nil sz []::l) A:=⟨λ_=>none,A,λ_=>.inl rfl,(λ_ _ e=>nomatch e),mA.refl A,SlO.nil,h⟩
def goodB (L:List Reg):Bool:=decide (L.length<=64)&&(List.range L.length).all (okR6 L)
theorem aHQ {v:Nat} (hv:v<L.length) (h:okR6 L v=false):goodB L=false:=by
 unfold goodB;rw [Bool.and_eq_false_iff];right;rw [List.all_eq_false];exact ⟨v,by simpa using hv,by rw [h];simp⟩
theorem aEE {Q:Bool->AH->Prop} (h:Own l A) (e:l[k]? = some P) (hr:bF P s 6 (regC L)) (hk:Q (goodB L) A):qek_A s Q A:=by
 have hl:=eA h e hr;unfold qek_A qek_G;refine bsel_in (λg=>?_) λg=>?_
 ·have g:(s.len:Int) > 64:=of_decide_eq_true g;have:goodB L=false:=by unfold goodB;rw [decide_eq_false (by omega)];rfl
  rwa [this] at hk
 have g:¬ (s.len:Int) > 64:=of_decide_eq_false g;refine ⟨λx m A'=>∃ v:Nat,x=v/\m+v=L.length/\A'=A/\∀ t,t<v->okR6 L t=true,⟨L.length,0,rfl,rfl,rfl,λt ht=>by omega⟩,?_⟩;intro x m A1 ⟨v,e1,e2,e3,e4⟩;subst e1 e3;refine bsel_in (λc=>?_) λc=>?_
 ·have c:(v:Int)<s.len:=of_decide_eq_true c;obtain ⟨y,hy⟩:∃ y,L[v]? = some y:=⟨L[v]'(by omega),by simp⟩;obtain ⟨a,q1,q2⟩:=pM h e hr hy;rw [q1];refine inB_in (by omega) c (q2 _ ?_);have no:okR6 L v=false->Q false A1:=λz=>by rw [aHQ (by omega) z] at hk;exact hk
  have next:okR6 L v=true->∃ m3,m3<m/\∃ v':Nat,IntKind.wrap .i64 ((v:Int)+1)=v'/\m3+v'=L.length/\A1=A1/\∀ t,t<v'->okR6 L t=true:=λz=>
   ⟨m-1,by omega,v+1,by rw [bK]<;>omega,by omega,rfl,λt ht=>by
    rcases Nat.lt_or_eq_of_le (Nat.le_of_lt_succ ht) with q | q
    ·exact e4 t q
    ·subst q;exact z⟩
  have hdef:okR6 L v=okP (if v=0 then none else L[v-1]?) y:=by unfold okR6;rw [hy]
  unfold okP at hdef;refine bsel_in (λg1=>no (by rw [hdef,g1];rfl)) λg1=>bsel_in (λg2=>no (by rw [hdef,g1,g2];rfl)) λg2=>bsel_in (λg3=>no (by rw [hdef,g1,g2,g3];rfl)) λg3=>?_;refine bsel_in (λg4=>?_) λg4=>?_
  ·have g4:(v:Int) > 0:=of_decide_eq_true g4;obtain ⟨u,rfl⟩:∃ u,v=u+1:=⟨v-1,by omega⟩;have ew:IntKind.wrap .i64 (((u+1:Nat):Int)-1)=(u:Int):=by rw [bK]<;>omega
   rw [ew];obtain ⟨q,hq⟩:∃ q,L[u]? = some q:=⟨L[u]'(by omega),by simp⟩;obtain ⟨a2,p1,p2⟩:=pM h e hr hq;have ea:a2=a:=by rw [p1] at q1;exact Option.some.inj q1
   subst ea;rw [if_neg (by omega),Nat.add_sub_cancel,hq] at hdef;simp only at hdef;refine inB_in (by omega) (by omega) ?_
   have hb1:aI .i64 (Addr.add (Addr.add a2 (Int.toNat (u:Int)*6)) 1) A1 λn=>n=q.b:=by
    have:=p2 (λ_ n _ _ _ _=>n=q.b) rfl;obtain ⟨_,_,n,h1,_,_,_,_,_,_,_,_,h2⟩:=this;exact ⟨n,h1,h2⟩
   obtain ⟨n,hb1,hb2⟩:=hb1;refine ⟨n,hb1,?_⟩;rw [hb2];refine bsel_in (λg5=>no (by rw [hdef,g1,g2,g3,g5];rfl)) λg5=>?_;refine inB_in (by omega) (by omega) (p2 _ (uE ?_));refine bsel_in (λg6=>no (by rw [hdef,g1,g2,g3,g5,g6];rfl)) λg6=>next (by rw [hdef,g1,g2,g3,g5,g6];rfl)
  ·have g4:¬ (v:Int) > 0:=of_decide_eq_false g4;have hv:v=0:=by omega
   subst hv;exact next (by rw [hdef,if_pos rfl,g1,g2,g3];rfl)
 ·have c:¬(v:Int)<s.len:=of_decide_eq_false c
  have:goodB L=true:=by
   unfold goodB;rw [decide_eq_true (by omega),Bool.true_and,List.all_eq_true];intro t ht
   exact e4 t (by have:t<L.length:=by simpa using ht
                  omega)
  rwa [this] at hk
def findR (L:List Reg) (p:Int):Option Reg:=L.find? λr=>decide (r.a<=p)&&decide (p<r.b)
theorem aEp {p:Int} {Q:Int->Int->Bool->Bool->Bool->Int->Bool->AH->Prop} (h:Own l A) (e:l[k]? = some P) (hr:bF P s 6 (regC L)) (hb:L.length<=100000)
  (h0:findR L p=none->Q 0 0 false false false 0 false A) (h1:∀ y,findR L p=some y->y ∈ L->y.a<=p->p<y.b->Q y.a y.b y.w y.u y.x y.k true A):qdk_A s p Q A:=by
 have hl:=eA h e hr;unfold qdk_A;refine ⟨λx c6 c7 c8 c9 c10 c11 m A'=>∃ v:Nat,x=v/\m+v=L.length/\A'=A/\findR L p=findR (L.drop v) p/\c6=0/\c7=0/\c8=false/\c9=false/\c10=false/\c11=0,⟨L.length,0,rfl,rfl,rfl,by simp,rfl,rfl,rfl,rfl,rfl,rfl⟩,?_⟩;intro x c6 c7 c8 c9 c10 c11 m A1 ⟨v,e1,e2,e3,e4,z1,z2,z3,z4,z5,z6⟩;subst e1 e3 z1 z2 z3 z4 z5 z6;refine bsel_in (λc=>?_) λc=>?_
 ·have c:(v:Int)<s.len:=of_decide_eq_true c;obtain ⟨y,hy⟩:∃ y,L[v]? = some y:=⟨L[v]'(by omega),by simp⟩;obtain ⟨a,q1,q2⟩:=pM h e hr hy;rw [q1];refine inB_in (by omega) c (q2 _ ?_)
  have hd:L.drop v=y::L.drop (v+1):=by
   have hlt:=(List.getElem?_eq_some_iff.1 hy).1;rw [List.drop_eq_getElem_cons hlt];rw [List.getElem?_eq_getElem hlt] at hy;rw [Option.some.inj hy]
  have next:(decide (y.a<=p)&&decide (p<y.b))=false->∃ m3,m3<m/\∃ v':Nat,IntKind.wrap .i64 ((v:Int)+1)=v'/\m3+v'=L.length/\A1=A1/\findR L p=findR (L.drop v') p/\(0:Int)=0/\(0:Int)=0/\false=false/\false=false/\false=false/\(0:Int)=0:=λz=>
   ⟨m-1,by omega,v+1,by rw [bK]<;>omega,by omega,rfl,by rw [e4,hd];unfold findR;rw [List.find?_cons,z],rfl,rfl,rfl,rfl,rfl,rfl⟩
  refine bsel_in (λg=>bsel_in (λg2=>?_) λg2=>next (by rw [g,g2];rfl)) λg=>next (by rw [g];rfl)
  refine h1 y ?_ (List.mem_of_getElem? hy) (of_decide_eq_true g) (of_decide_eq_true g2);rw [e4,hd];unfold findR;rw [List.find?_cons,g,g2];rfl
 ·have c:¬(v:Int)<s.len:=of_decide_eq_false c;refine h0 ?_;rw [e4,List.drop_eq_nil_of_le (by omega)];rfl
end Go.Dn
namespace Go.Dn
variable {A:AH} {l:List SP} {P:SP} {i k v:Nat} {s:Sl} {L:List Reg}
def aLn:Reg:=⟨0,0,false,false,false,0⟩
theorem rQ {Q:Sl->AH->Prop} (h:Own l A) (e:l[k]? = some P) (hr:bF P s 6 (regC L)) (hb:L.length<=1000) (hn:s.a=none->L=[])
  (hk:∀ s' A',s'.len=L.length->(s'.a=none->L=[])->Own (SlO s' 6 (regC L)::l) A'->Q s' A'):qel_A s Q A:=by
 have hl:=eA h e hr;unfold qel_A;refine bsel_in (λg=>?_) λg=>?_
 ·have g:s.a=none:=by simpa using g
  have hL:=hn g;subst hL;exact hk Sl.nil A rfl (λ_=>rfl) h.nil6
 ·have g:s.a≠none:=λz=>by rw [z] at g;cases g
  refine aW (cs:=[]) h λb1 A1 h1=>?_;have h2:Own (SlO ⟨some ⟨b1,0,none⟩,0,0⟩ 6 []::l) A1:=h1.imp λB _=>⟨⟨by simp,Nat.le_refl _⟩,.inl rfl⟩;refine cP (i:=k) h2 e hr (λz=>absurd z g) (λz=>by cases z) rfl (λv hv=>regC_one hv) ⟨by simp only [hl];omega,by simp only [hl];omega⟩ λs' A3 j1 j2 h3=>?_;exact hk s' A3 (by simp [j1,hl]) (λz=>aFh (by simpa using j2 z)) (by simpa using h3)
end Go.Dn
