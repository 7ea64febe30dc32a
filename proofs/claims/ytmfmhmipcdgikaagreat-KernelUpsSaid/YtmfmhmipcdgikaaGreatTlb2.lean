/- What the proof stands on: MapsE, Pcid, Tlb, Tlb2. -/
import Derived.Test.YtmfmhmipcdgikaaGreatG
import Derived.Test.YtmfmhmipcdgikaaGreatEntry
import Derived.Test.YtmfmhmipcdgikaaGreatWords
/- An entry of a map that is read and written again. -/
namespace Go.Dn
open Go.MapKept
variable {A:AH} {l R:List SP}
def MapB (b:Nat) (k:IntKind) (m:List (Int × Value)) (key st:Int):SP:=fun B=>∃ es c,B b=some (.map es c)∧MapE k es m∧Stamped es c∧∃ (j:Nat) (e:MapEntry),es[j]? = some e∧e.key = .int k key∧(e.born:Int)=st
theorem putM_same {key:Int} {v:Value}:∀ {m:List (Int × Value)},m.lookup key=some v→putM m key v=m
 | [],h=>by simp at h
 | p::m,h=>by
  unfold putM
  by_cases e:p.1=key
  ·rw [if_pos e]
   have:(key==p.1)=true:=by simp [e]
   simp only [List.lookup,this,Option.some.injEq] at h
   rw [←h,← e]
  ·rw [if_neg e]
   have:(key==p.1)=false:=by simpa using fun g=>e g.symm
   simp only [List.lookup,this] at h
   rw [putM_same h]
theorem putM_putM {key:Int} {v w:Value}:∀ {m:List (Int × Value)},putM (putM m key v) key w=putM m key w
 | []=>by simp [putM]
 | p::m=>by
  by_cases e:p.1=key
  ·simp [putM,e]
  ·simp [putM,e,putM_putM (m:=m)]
theorem updA_same {A:AH} {b:Nat} {o:Obj} (h:A b=some o):updA A b o=A:=by
 funext c
 unfold updA
 split
 ·rename_i e;rw [e,h]
 ·rfl
theorem en_M {i b:Nat} {k:IntKind} {key:Int} {z:Value} {m:List (Int × Value)} {K:Value→Int→AP} (h:Own l A) (e:l[i]? = some (MapI b k m))
  (hk:∀ st A',Own (l.set i (MapB b k (putM m key ((m.lookup key).getD z)) key st)) A'→K ((m.lookup key).getD z) st A'):aMEn A (some b) k key z K:=by
 obtain ⟨es,c,h1,h2,hst⟩:=h.map e
 obtain ⟨r,k1,k2,k3,k4⟩:=find_lookup (k:=k) (key:=key) es.toList m 0 h2
 refine ⟨b,es,c,rfl,h1,r,k1,?_⟩
 cases r with
 | none=>
  have h5:m.lookup key=none:=by rw [←k2];rfl
  rw [h5] at hk
  refine hk c _ (h.upd e (fun B ⟨_,_,hb,_⟩=>⟨_,hb⟩) fun B _=>⟨_,_,updA_self,?_,stamped_push hst fun x hx g=>?_,es.size,{ key:=.int k key,val:=z,born:=c },by simp,rfl,rfl⟩)
  ·show (es.push _).toList.map _=_
   simp only [Array.toList_push,List.map_append,List.map_cons,List.map_nil,Option.getD_none]
   rw [k4 rfl z,List.map_append]
   rw [show es.toList.map (fun e=>(e.key,e.val))=_ from h2]
   rfl
  ·have h6:(x.key,x.val) ∈ m.map fun p=>((.int k p.1:Value),p.2):=by rw [←h2];exact List.mem_map.2 ⟨x,hx,rfl⟩
   obtain ⟨p,hp,hpe⟩:=List.mem_map.1 h6
   simp only [Prod.mk.injEq] at hpe
   rw [g] at hpe
   have hk:p.1=key:=by have:=hpe.1;injection this
   exact lookup_no h5 (List.mem_map.2 ⟨p,hp,hk⟩)
 | some p=>
  obtain ⟨j,v0⟩:=p
  obtain ⟨_,e',he',hek,hev⟩:=findNow_key _ _ _ _ k1
  have he':es[j]? = some e':=by simpa using he'
  have h5:m.lookup key=some v0:=by rw [←k2];rfl
  rw [h5] at hk
  simp only [Option.getD_some] at hk
  rw [putM_same h5] at hk
  refine ⟨e',he',hk _ A ?_⟩
  obtain ⟨bs,rest⟩:∃ o,A b=some o:=⟨_,h1⟩
  have h7:=h.upd (P':=MapB b k m key e'.born) (o':=.map es c) e (fun B ⟨_,_,hb,_⟩=>⟨_,hb⟩) fun B _=>⟨es,c,updA_self,h2,hst,j,e',he',hek,rfl⟩
  rwa [updA_same h1] at h7
theorem es_M {i b:Nat} {k:IntKind} {key st:Int} {v:Value} {m:List (Int × Value)} {K:AP} (h:Own l A) (e:l[i]? = some (MapB b k m key st))
  (hk:∀ A',Own (l.set i (MapI b k (putM m key v))) A'→K A'):aMES A (some b) st v K:=by
 obtain ⟨B0,u0,es,c,h1,h2,hst,j,e',he',hek,hb⟩:=h.get e
 have h1:=u0 _ _ h1
 obtain ⟨r,k1,k2,k3,k4⟩:=find_lookup (k:=k) (key:=key) es.toList m 0 h2
 have hjl:=(Array.getElem?_eq_some_iff.1 he').1
 have hjv:=(Array.getElem?_eq_some_iff.1 he').2
 have hfi:es.findIdx? (fun e=>(e.born:Int)==st)=some j:=by
  rw [Array.findIdx?_eq_some_iff_getElem]
  refine ⟨hjl,by rw [hjv];simpa using hb,fun t ht g=>?_⟩
  have g:(es[t].born:Int)=st:=by simpa using g
  have hnd:=hst.2.1
  rw [List.nodup_iff_pairwise_ne,List.pairwise_map,List.pairwise_iff_getElem] at hnd
  refine hnd t j (by simpa using Nat.lt_trans ht hjl) (by simpa using hjl) ht ?_
  simp only [Array.getElem_toList]
  rw [hjv];omega
 refine ⟨b,es,c,j,rfl,h1,hfi,hk _ ?_⟩
 refine h.upd e (fun B ⟨_,_,hb,_⟩=>⟨_,hb⟩) fun B _=>⟨_,_,updA_self,?_,stamped_modify hst j _ (fun _ _=>rfl) (fun _ _ _=>rfl)⟩
 cases r with
 | none=>
  exfalso
  have h5:m.lookup key=none:=by rw [←k2];rfl
  have h6:(e'.key,e'.val) ∈ m.map fun p=>((.int k p.1:Value),p.2):=by rw [←h2];exact List.mem_map.2 ⟨e',by rw [←hjv];simp,rfl⟩
  obtain ⟨p,hp,hpe⟩:=List.mem_map.1 h6
  simp only [Prod.mk.injEq] at hpe
  rw [hek] at hpe
  have hk:p.1=key:=by have:=hpe.1;injection this
  exact lookup_no h5 (List.mem_map.2 ⟨p,hp,hk⟩)
 | some p=>
  obtain ⟨t,v0⟩:=p
  obtain ⟨_,e2,he2,hek2,_⟩:=findNow_key _ _ _ _ k1
  have he2:es[t]? = some e2:=by simpa using he2
  have htl:=(Array.getElem?_eq_some_iff.1 he2).1
  have htv:=(Array.getElem?_eq_some_iff.1 he2).2
  have htj:t=j:=by
   have hnd:=hst.2.2
   rw [List.nodup_iff_pairwise_ne,List.pairwise_map,List.pairwise_iff_getElem] at hnd
   rcases Nat.lt_trichotomy t j with g | g | g
   ·exact absurd (by rw [Array.getElem_toList,Array.getElem_toList,htv,hjv,hek,hek2]) (hnd t j (by simpa using htl) (by simpa using hjl) g)
   ·exact g
   ·exact absurd (by rw [Array.getElem_toList,Array.getElem_toList,htv,hjv,hek,hek2]) (hnd j t (by simpa using hjl) (by simpa using htl) g)
  subst htj
  obtain ⟨k5,k6⟩:=k3 t v0 rfl
  show (es.modify t _).toList.map _=_
  rw [Array.toList_modify,← k6 v,Nat.sub_zero]
  congr 1
  apply List.ext_getElem?
  intro q
  rw [List.getElem?_modify,List.getElem?_modify]
  by_cases g:t=q
  ·subst g
   have:es.toList[t]? = some e':=by simpa using he'
   rw [this]
   simp [hek]
  ·simp [g]
end Go.Dn
/- Tags for spaces. -/
namespace Go.Dn
def ivs (m:List (Int × Int)):List (Int × Value):=m.map fun p=>(p.1,.int .i64 p.2)
def putZ (m:List (Int × Int)) (key v:Int):List (Int × Int):=match m with
 | []=>[(key,v)]
 | p::m=>if p.1=key then (key,v)::m else p::putZ m key v
theorem ivs_lookup (k:Int):∀ m:List (Int × Int),(ivs m).lookup k=(m.lookup k).map fun v=>(.int .i64 v:Value)
 | []=>rfl
 | p::m=>by
  have:=ivs_lookup k m
  unfold ivs at this ⊢
  simp only [List.map_cons,List.lookup]
  cases h:k==p.1 with
  | true=>rfl
  | false=>exact this
theorem putM_ivs (k v:Int):∀ m:List (Int × Int),putM (ivs m) k (.int .i64 v)=ivs (putZ m k v)
 | []=>rfl
 | p::m=>by
  have:=putM_ivs k v m
  unfold ivs at this ⊢
  simp only [List.map_cons,putM,putZ]
  by_cases h:p.1=k
  ·rw [if_pos h,if_pos h];rfl
  ·rw [if_neg h,if_neg h,this];rfl
theorem lookup_putZ (key key' v:Int):∀ m:List (Int × Int),(putZ m key v).lookup key'=if key'=key then some v else m.lookup key'
 | []=>by
  by_cases e:key'=key
  ·subst e;simp [putZ,List.lookup]
  ·have:(key'==key)=false:=by simpa using e
   simp [putZ,List.lookup,this,e]
 | p::m=>by
  have ih:=lookup_putZ key key' v m
  by_cases e:p.1=key
  ·by_cases e2:key'=key
   ·subst e2;simp [putZ,List.lookup,e]
   ·have h1:(key'==key)=false:=by simpa using e2
    have h2:(key'==p.1)=false:=by simpa using fun g=>e2 (by rw [g,e])
    simp [putZ,List.lookup,e,e2,h1,h2]
  ·by_cases e2:key'=p.1
   ·have h1:(key'==p.1)=true:=by simpa using e2
    have h3:key'≠key:=fun g=>e (by rw [←e2,g])
    simp [putZ,List.lookup,e,h1,h3]
   ·have h1:(key'==p.1)=false:=by simpa using e2
    simp [putZ,List.lookup,e,h1,ih]
theorem onSome_some {a:Addr} {K:Addr→Prop}:onSome (some a) K=K a:=rfl
structure PcZ where
 most:Int
 next:Int
 gen:Int
 own:List (Int × Int)
 tag:List (Int × Int)
def PcZ.OK (z:PcZ):Prop:=1≤z.most∧z.most≤4095∧1≤z.next∧z.next≤z.most+1
def pcNew (most:Int):PcZ:=⟨most,1,0,[],[]⟩
def pcL (p bo bt:Nat) (z:PcZ):List SP:=[At p [.int .i64 z.most,.int .i64 z.next,.int .i64 z.gen,.map (some bo),.map (some bt)],MapI bo .i64 (ivs z.own),MapI bt .i64 (ivs z.tag)]
def PcS (p:Nat) (z:PcZ):SP:=fun B=>∃ bo bt,Own (pcL p bo bt z) B
def getZ (z:PcZ) (id:Int):PcZ × Int × Bool:=match z.tag.lookup id with
 | some n=>(z,n,false)
 | none=>if z.next > z.most then (⟨z.most,2,IntKind.wrap .i64 (z.gen+1),[(1,id)],[(id,1)]⟩,1,true)
  else (⟨z.most,z.next+1,z.gen,putZ z.own z.next id,putZ z.tag id z.next⟩,z.next,false)
theorem getZ_ok {z:PcZ} (h:z.OK) (id:Int):(getZ z id).1.OK:=by
 obtain ⟨h1,h2,h3,h4⟩:=h
 unfold getZ
 split
 ·exact ⟨h1,h2,h3,h4⟩
 ·split
  ·exact ⟨h1,h2,by simp,by simp;omega⟩
  ·exact ⟨h1,h2,by simp;omega,by simp;omega⟩
variable {A:AH} {l R:List SP} {p bo bt:Nat} {z:PcZ}
theorem PcS.openH (h:Own (PcS p z::R) A):∃ bo bt,Own (pcL p bo bt z++R) A:=by
 obtain ⟨bo,h⟩:=Own.ex h
 obtain ⟨bt,h⟩:=Own.ex h
 exact ⟨bo,bt,Own.flat h⟩
theorem PcS.closeH (h:Own (pcL p bo bt z++R) A):Own (PcS p z::R) A:=h.app.imp fun _ hB=>⟨bo,bt,hB⟩
theorem begin_spec {most x y:Int} {u v:Value} {Q:AH→Prop} (h:Own (At p [.int .i64 most,.int .i64 x,.int .i64 y,u,v]::R) A)
  (hk:∀ bo bt A',Own (pcL p bo bt ⟨most,1,y,[],[]⟩++R) A'→Q A'):qan_A (some ⟨p,0,none⟩) Q A:=by
 unfold qan_A
 simp only [onSome_some,add_at,Nat.zero_add]
 refine new_M (k:=.i64) h fun b1 A1 h1=>new_M (k:=.i64) h1 fun b2 A2 h2=>?_
 refine st_C (i:=2) h2 rfl rfl rfl fun A3 h3=>?_
 refine st_C (i:=2) h3 rfl rfl rfl fun A4 h4=>?_
 refine st_C (i:=2) h4 rfl rfl rfl fun A5 h5=>hk b1 b2 A5 ?_
 have h5:Own (MapI b2 .i64 []::MapI b1 .i64 []::At p [.int .i64 most,.int .i64 1,.int .i64 y,.map (some b1),.map (some b2)]::R) A5:=h5
 exact h5.perm (List.Perm.trans (List.Perm.cons _ (List.Perm.swap _ _ _)) (List.Perm.trans (List.Perm.swap _ _ _) (List.Perm.cons _ (List.Perm.swap _ _ _))))
theorem pNew_spec {most:Int} {Q:Option Addr→Int→AH→Prop} (h:Own l A) (h1:1≤most) (h2:most≤4095) (hk:∀ p A',Own (PcS p (pcNew most)::l) A'→Q (some ⟨p,0,none⟩) 0 A'):qao_A most Q A:=by
 unfold qao_A qao_G
 refine bsel_f (by simp;omega) (bsel_f (by simp;omega) ?_)
 refine new_C (cs:=[.int .i64 most,.int .i64 0,.int .i64 0,.map none,.map none]) h fun p A1 h3=>?_
 exact begin_spec h3 fun bo bt A2 h4=>hk p A2 (PcS.closeH (z:=pcNew most) h4)
theorem pGet_spec {id:Int} {Q:Int→Bool→AH→Prop} (h:Own (PcS p z::R) A) (hz:z.OK) (hk:∀ A',Own (PcS p (getZ z id).1::R) A'→Q (getZ z id).2.1 (getZ z id).2.2 A'):qcw_A (some ⟨p,0,none⟩) id Q A:=by
 obtain ⟨z1,z2,z3,z4⟩:=hz
 obtain ⟨bo,bt,hh⟩:=PcS.openH h
 unfold qcw_A qcw_G
 simp only [onSome_some,add_at,Nat.zero_add]
 refine ld_M (i:=0) hh rfl rfl (lk_M (i:=2) hh rfl ?_)
 rw [ivs_lookup]
 unfold getZ at hk
 cases hl:z.tag.lookup id with
 | some n=>
  rw [hl] at hk
  exact ⟨n,rfl,hk A h⟩
 | none=>
  rw [hl] at hk
  simp only at hk
  refine ⟨0,rfl,?_⟩
  refine ld_I (i:=0) hh rfl rfl ?_
  refine ld_I (i:=0) hh rfl rfl ?_
  -- what follows once there is a tag to give
  have fin:∀ (y:PcZ) (bo bt:Nat) (A1:AH),Own (pcL p bo bt y++R) A1→1≤y.next→y.next≤4095→y.tag.lookup id=none→∀ (b:Bool),
    (∀ A',Own (PcS p ⟨y.most,y.next+1,y.gen,putZ y.own y.next id,putZ y.tag id y.next⟩::R) A'→Q y.next b A')→
    aI .i64 ⟨p,1,none⟩ A1 fun n17=>aI .i64 ⟨p,1,none⟩ A1 fun n19=>aC ⟨p,1,none⟩ (.int .i64 (IntKind.wrap .i64 (n19+(1:Int)))) A1 fun h21=>
     aM ⟨p,4,none⟩ h21 fun mp24=>aM ⟨p,3,none⟩ h21 fun mp25=>aMEn h21 mp24 .i64 id (.int .i64 (0:Int)) fun v26 n27 h28=>(∃ n29:Int,(v26:Value)=(.int .i64 n29)∧
     aMES h28 mp24 n27 (.int .i64 n17) fun h30=>aMEn h30 mp25 .i64 n17 (.int .i64 (0:Int)) fun v31 n32 h33=>(∃ n34:Int,(v31:Value)=(.int .i64 n34)∧
     aMES h33 mp25 n32 (.int .i64 id) fun h35=>Q n17 b h35)):=fun y bo bt A1 h1 y1 y2 hno b hq=>by
   refine ld_I (i:=0) h1 rfl rfl (ld_I (i:=0) h1 rfl rfl (st_C (i:=0) h1 rfl rfl rfl fun A2 h2=>?_))
   refine ld_M (i:=0) h2 rfl rfl (ld_M (i:=0) h2 rfl rfl ?_)
   refine en_M (i:=2) h2 rfl fun st A3 h3=>?_
   rw [ivs_lookup,hno]
   refine ⟨0,rfl,?_⟩
   refine es_M (i:=2) (key:=id) h3 rfl fun A4 h4=>?_
   refine en_M (i:=1) h4 rfl fun st2 A5 h5=>?_
   have hv:∃ w:Int,((ivs y.own).lookup y.next).getD (.int .i64 0)=(.int .i64 w:Value):=by
    rw [ivs_lookup]
    cases y.own.lookup y.next with
    | none=>exact ⟨0,rfl⟩
    | some w=>exact ⟨w,rfl⟩
   obtain ⟨w,hw⟩:=hv
   refine ⟨w,hw,?_⟩
   refine es_M (i:=1) (key:=y.next) h5 rfl fun A6 h6=>hq A6 ?_
   refine PcS.closeH (bo:=bo) (bt:=bt) (h6.perm (List.Perm.of_eq ?_))
   have e1:IntKind.wrap .i64 (y.next+1)=y.next+1:=by rw [w64]<;>omega
   rw [e1]
   simp only [pcL,List.cons_append,List.nil_append,List.set_cons_succ,List.set_cons_zero,putM_putM,putM_ivs]
  by_cases g:z.next > z.most
  ·rw [if_pos g] at hk
   refine ⟨fun A1=>∃ bo bt,Own (pcL p bo bt ⟨z.most,1,IntKind.wrap .i64 (z.gen+1),[],[]⟩++R) A1,fun A1 ⟨bo,bt,h1⟩=>?_,?_⟩
   ·have:=fin _ bo bt A1 h1 (by simp) (by simp) rfl (decide (z.next > z.most)) (fun A' h'=>by
     rw [decide_eq_true g]
     exact hk A' h')
    exact this
   ·refine bsel_t (by simpa using g) ?_
    refine begin_spec (hh.cons fun C hC=>(hC.tail.tail)) fun bo bt A1 h1=>?_
    refine ld_I (i:=0) h1 rfl rfl ?_
    exact st_C (i:=0) h1 rfl rfl rfl fun A2 h2=>⟨bo,bt,h2⟩
  ·rw [if_neg g] at hk
   refine ⟨fun A1=>A1=A,fun A1 e=>?_,?_⟩
   ·subst e
    have:=fin z bo bt A1 hh z3 (by omega) hl (decide (z.next > z.most)) (fun A' h'=>by
     rw [decide_eq_false g]
     exact hk A' h')
    exact this
   ·exact bsel_f (by simpa using g) rfl
end Go.Dn
/- Translations that are kept. -/
namespace Go.Dn
structure Ln where
 v:Bool
 tag:Int
 page:Int
 frame:Int
 w:Bool
 u:Bool
 x:Bool
 g:Bool
 d:Bool
def Ln.cells (l:Ln):List Value:=[.bool l.v,.int .i64 l.tag,.int .i64 l.page,.int .i64 l.frame,.bool l.w,.bool l.u,.bool l.x,.bool l.g,.bool l.d]
def ln0:Ln:=⟨false,0,0,0,false,false,false,false,false⟩
def lnC (ls:List Ln):List Value:=ls.flatMap Ln.cells
variable {A:AH} {l R:List SP} {p i k o:Nat} {ls:List Ln} {y m:Ln}
theorem lnC_split:∀ {ls:List Ln} {k:Nat} {y:Ln},ls[k]? = some y→∃ pre post,lnC ls=pre++y.cells++post∧pre.length=k*9∧∀ m,lnC (ls.set k m)=pre++m.cells++post
 | [],k,y,h=>by simp at h
 | z::ls,0,y,h=>by
  simp at h;subst h
  exact ⟨[],lnC ls,rfl,rfl,fun m=>rfl⟩
 | z::ls,k+1,y,h=>by
  obtain ⟨pre,post,h1,h2,h3⟩:=lnC_split (ls:=ls) (k:=k) (y:=y) (by simpa using h)
  refine ⟨z.cells++pre,post,?_,by simp [Ln.cells,h2];omega,fun m=>?_⟩
  ·show z.cells++lnC ls=_
   rw [h1];simp
  ·show z.cells++lnC (ls.set k m)=_
   rw [h3];simp
theorem lnC_at (hk:ls[k]? = some y) {c:Nat} (hc:c<9):(lnC ls)[k*9+c]? = y.cells[c]?:=by
 obtain ⟨pre,post,h1,h2,_⟩:=lnC_split hk
 rw [h1,← h2,List.append_assoc,List.getElem?_append_right (by omega),List.getElem?_append_left (by simp [Ln.cells];omega)]
 congr 1;omega
theorem rd_ln {K:Bool→Int→Int→Int→Bool→Bool→Bool→Bool→Bool→Prop} (h:Own l A) (e:l[i]? = some (At p (lnC ls))) (hk:ls[k]? = some y) (ho:o=k*9) (hK:K y.v y.tag y.page y.frame y.w y.u y.x y.g y.d) :
  aB ⟨p,o,none⟩ A fun b0=>aI .i64 ⟨p,o+1,none⟩ A fun n1=>aI .i64 ⟨p,o+2,none⟩ A fun n2=>aI .i64 ⟨p,o+3,none⟩ A fun n3=>aB ⟨p,o+4,none⟩ A fun b4=>aB ⟨p,o+5,none⟩ A fun b5=>aB ⟨p,o+6,none⟩ A fun b6=>aB ⟨p,o+7,none⟩ A fun b7=>aB ⟨p,o+8,none⟩ A fun b8=>K b0 n1 n2 n3 b4 b5 b6 b7 b8:=by
 subst ho
 refine ld_B h e (by rw [←Nat.add_zero (k*9)];exact lnC_at hk (c:=0) (by omega)) ?_
 refine ld_I h e (lnC_at hk (c:=1) (by omega)) (ld_I h e (lnC_at hk (c:=2) (by omega)) (ld_I h e (lnC_at hk (c:=3) (by omega)) ?_))
 exact ld_B h e (lnC_at hk (c:=4) (by omega)) (ld_B h e (lnC_at hk (c:=5) (by omega)) (ld_B h e (lnC_at hk (c:=6) (by omega)) (ld_B h e (lnC_at hk (c:=7) (by omega)) (ld_B h e (lnC_at hk (c:=8) (by omega)) hK))))
theorem set_mid {pre mid post:List Value} {c n:Nat} {v:Value} (hn:pre.length=n) (hc:c<mid.length):(pre++mid++post).set (n+c) v=pre++mid.set c v++post:=by
 subst hn
 rw [List.append_assoc,List.set_append_right _ _ (by omega),show pre.length+c-pre.length=c by omega,List.set_append_left _ _ hc,List.append_assoc]
theorem get_mid {pre mid post:List Value} {c n:Nat} (hn:pre.length=n) (hc:c<mid.length):((pre++mid++post)[n+c]?).isSome=true:=by
 subst hn
 rw [List.append_assoc,List.getElem?_append_right (by omega),List.getElem?_append_left (by omega)]
 simp;omega
theorem wr_ln {K:AP} (h:Own (At p (lnC ls)::R) A) (hk:ls[k]? = some y) (ho:o=k*9) (hK:∀ A',Own (At p (lnC (ls.set k m))::R) A'→K A') :
  aC ⟨p,o,none⟩ (.bool m.v) A fun h0=>aC ⟨p,o+1,none⟩ (.int .i64 m.tag) h0 fun h1=>aC ⟨p,o+2,none⟩ (.int .i64 m.page) h1 fun h2=>aC ⟨p,o+3,none⟩ (.int .i64 m.frame) h2 fun h3=>aC ⟨p,o+4,none⟩ (.bool m.w) h3 fun h4=>aC ⟨p,o+5,none⟩ (.bool m.u) h4 fun h5=>aC ⟨p,o+6,none⟩ (.bool m.x) h5 fun h6=>aC ⟨p,o+7,none⟩ (.bool m.g) h6 fun h7=>aC ⟨p,o+8,none⟩ (.bool m.d) h7 K:=by
 subst ho
 obtain ⟨pre,post,h1,h2,h3⟩:=lnC_split hk
 rw [h1] at h
 have hK:=fun A'=>hK A'
 simp only [h3 m] at hK
 have step:∀ {mid:List Value} {c:Nat} {v:Value} {A:AH} {K:AP},mid.length=9→c<9→v.oneCell'=true→Own (At p (pre++mid++post)::R) A→(∀ A',Own (At p (pre++mid.set c v++post)::R) A'→K A')→aC ⟨p,k*9+c,none⟩ v A K:=fun {mid c v A K} hm hc hv hA hq=>
  st_C (i:=0) hA rfl (get_mid h2 (by omega)) hv fun A' h'=>hq A' (by
   have h':Own (At p ((pre++mid++post).set (k*9+c) v)::R) A':=h'
   rwa [set_mid h2 (by omega)] at h')
 refine step (c:=0) rfl (by omega) rfl h fun A0 h=>?_
 refine step (c:=1) rfl (by omega) rfl h fun A1 h=>?_
 refine step (c:=2) rfl (by omega) rfl h fun A2 h=>?_
 refine step (c:=3) rfl (by omega) rfl h fun A3 h=>?_
 refine step (c:=4) rfl (by omega) rfl h fun A4 h=>?_
 refine step (c:=5) rfl (by omega) rfl h fun A5 h=>?_
 refine step (c:=6) rfl (by omega) rfl h fun A6 h=>?_
 refine step (c:=7) rfl (by omega) rfl h fun A7 h=>?_
 exact step (c:=8) rfl (by omega) rfl h fun A8 h=>hK A8 h
def doneL (f:Ln→Ln) (k:Nat) (ls:List Ln):List Ln:=(ls.take k).map f++ls.drop k
theorem doneL_zero (f:Ln→Ln):doneL f 0 ls=ls:=by simp [doneL]
theorem doneL_all (f:Ln→Ln) (h:ls.length≤k):doneL f k ls=ls.map f:=by simp [doneL,List.take_of_length_le h,List.drop_eq_nil_of_le h]
theorem doneL_at {f:Ln→Ln} (hk:ls[k]? = some y):(doneL f k ls)[k]? = some y:=by
 have hlt:=(List.getElem?_eq_some_iff.1 hk).1
 unfold doneL
 rw [List.getElem?_append_right (by simp;omega)]
 simp only [List.length_map,List.length_take,Nat.min_eq_left (Nat.le_of_lt hlt),Nat.sub_self,List.getElem?_drop,Nat.add_zero]
 exact hk
theorem doneL_step {f:Ln→Ln} (hk:ls[k]? = some y):(doneL f k ls).set k (f y)=doneL f (k+1) ls:=by
 have hlt:=(List.getElem?_eq_some_iff.1 hk).1
 unfold doneL
 rw [List.set_append_right _ _ (by simp;omega)]
 have e1:ls.drop k=y::ls.drop (k+1):=by
  rw [List.drop_eq_getElem_cons hlt]
  rw [List.getElem?_eq_getElem hlt] at hk
  rw [Option.some.inj hk]
 have e2:ls.take (k+1)=ls.take k++[y]:=by
  rw [List.take_add_one,hk];rfl
 rw [e1,e2]
 simp [Nat.min_eq_left (Nat.le_of_lt hlt)]
theorem doneL_same {f:Ln→Ln} (hk:ls[k]? = some y) (hf:f y=y):doneL f (k+1) ls=doneL f k ls:=by
 rw [←doneL_step hk,hf]
 have:=doneL_at (f:=f) hk
 apply List.ext_getElem?
 intro j
 rw [List.getElem?_set]
 split
 ·rename_i e;subst e
  rw [if_pos (List.getElem?_eq_some_iff.1 this).1,this]
 ·rfl
def TlbS (p:Nat) (ls:List Ln):SP:=fun B=>ls.length=16∧At p (lnC ls) B
theorem TlbS.openH (h:Own (TlbS p ls::R) A):ls.length=16∧Own (At p (lnC ls)::R) A:=Own.pure h
theorem TlbS.closeH (hl:ls.length=16) (h:Own (At p (lnC ls)::R) A):Own (TlbS p ls::R) A:=h.imp fun _ hB=>⟨hl,hB⟩
def allF (stay:Bool) (y:Ln):Ln:=if (!stay || !y.g)=true then ln0 else y
theorem All_spec {stay:Bool} {Q:AH→Prop} (h:Own (TlbS p ls::R) A) (hk:∀ A',Own (TlbS p (ls.map (allF stay))::R) A'→Q A'):qcz_A (some ⟨p,0,none⟩) stay Q A:=by
 obtain ⟨hl,h⟩:=TlbS.openH h
 unfold qcz_A qcz_G qcy_A qcy_G
 refine new_C (cs:=[.bool stay]) h fun b A1 h1=>?_
 have h1:=h1.swap
 refine ⟨fun x mm A'=>∃ i:Nat,x=i∧mm+i=8∧Own (At p (lnC (doneL (allF stay) (i*2) ls))::At b [.bool stay]::R) A',⟨8,0,rfl,rfl,by simpa [doneL_zero] using h1⟩,?_⟩
 intro x mm A2 ⟨i,e1,e2,h2⟩
 subst e1
 refine bsel_in (fun c=>?_) fun c=>?_
 ·have c:(i:Int)<8:=of_decide_eq_true c
  refine ⟨fun x m2 A'=>∃ j:Nat,x=j∧m2+j=2∧Own (At p (lnC (doneL (allF stay) (i*2+j) ls))::At b [.bool stay]::R) A',⟨2,0,rfl,rfl,h2⟩,?_⟩
  intro x m2 A3 ⟨j,e3,e4,h3⟩
  subst e3
  refine bsel_in (fun c2=>?_) fun c2=>?_
  ·have c2:(j:Int)<2:=of_decide_eq_true c2
   obtain ⟨y,hy⟩:∃ y,ls[i*2+j]? = some y:=⟨ls[i*2+j]'(by omega),by simp⟩
   refine ⟨fun A'=>Own (At p (lnC (doneL (allF stay) (i*2+(j+1)) ls))::At b [.bool stay]::R) A',fun A4 h4=>⟨m2-1,by omega,j+1,by rw [w64]<;>omega,by omega,h4⟩,?_⟩
   simp only [onSome_some,add_at,Nat.zero_add,Int.toNat_natCast]
   refine inB_in (by omega) c (inB_in (by omega) c2 ?_)
   refine rd_ln (i:=0) (k:=i*2+j) h3 rfl (doneL_at hy) (by omega) ?_
   unfold qcx_A
   simp only [onSome_some]
   refine ld_B (i:=1) h3 rfl rfl ?_
   have keep:(!stay || !y.g)=false→Own (At p (lnC (doneL (allF stay) (i*2+(j+1)) ls))::At b [.bool stay]::R) A3:=fun g=>by
    rw [←Nat.add_assoc,doneL_same hy (by unfold allF;rw [g];rfl)];exact h3
   have go:(!stay || !y.g)=true→_:=fun g=>inB_in (by omega) c (inB_in (by omega) c2 (wr_ln (m:=ln0) (K:=fun A'=>Own (At p (lnC (doneL (allF stay) (i*2+(j+1)) ls))::At b [.bool stay]::R) A') h3 (doneL_at hy) (o:=i*18+j*9) (by omega) fun A4 h4=>by
    have e:allF stay y=ln0:=by unfold allF;rw [if_pos g]
    rw [←e,doneL_step hy,Nat.add_assoc] at h4
    exact h4))
   refine bsel_in (fun g=>bsel_t rfl (go (by rw [g];rfl))) fun g=>?_
   cases hg:y.g with
   | false=>exact bsel_t rfl (go (by rw [hg,g];rfl))
   | true=>exact bsel_f rfl (keep (by rw [hg,g];rfl))
  ·have c2:¬(j:Int)<2:=of_decide_eq_false c2
   have hj:j=2:=by omega
   subst hj
   exact ⟨mm-1,by omega,i+1,by rw [w64]<;>omega,by omega,by rw [show (i+1)*2=i*2+2 by omega];exact h3⟩
 ·have c:¬(i:Int)<8:=of_decide_eq_false c
  have hi:i=8:=by omega
  subst hi
  rw [doneL_all _ (by omega)] at h2
  exact hk A2 (TlbS.closeH (by simpa using hl) (h2.cons fun C hC=>hC.tail))
end Go.Dn
/- Translations: all that are kept; one more. -/
namespace Go.Dn
variable {A:AH} {l R:List SP} {p i k o:Nat} {ls:List Ln} {y m:Ln} {s:Sl}
theorem take_succ {α:Type} {L:List α} {v:Nat} {z:α} (h:L[v]? = some z):L.take (v+1)=L.take v++[z]:=by rw [List.take_add_one,h];rfl
def fitsB (tag page:Int) (y:Ln):Bool:=y.v&&(y.page==page&&(y.tag==tag || y.g))
def clrF (tag page:Int) (g:Bool) (y:Ln):Ln:=if (fitsB tag page y || (g&&(y.v&&y.page==page)))=true then ln0 else y
def fillJ (s j:Nat) (f:Ln→Ln) (ls:List Ln):List Ln:=ls.mapIdx fun t z=>if s*2≤t∧t<s*2+j then f z else z
def fillZ (ls:List Ln) (way:Nat) (m:Ln):List Ln:=(fillJ (m.page % 8).toNat 2 (clrF m.tag m.page m.g) ls).set ((m.page % 8).toNat*2+way) m
theorem fillJ_len {s j:Nat} {f:Ln→Ln}:(fillJ s j f ls).length=ls.length:=by simp [fillJ]
theorem fillJ_zero {s:Nat} {f:Ln→Ln}:fillJ s 0 f ls=ls:=by
 apply List.ext_getElem?
 intro t
 unfold fillJ
 rw [List.getElem?_mapIdx]
 cases ls[t]? with
 | none=>rfl
 | some z=>
  simp only [Option.map_some]
  rw [if_neg (by omega)]
theorem fillJ_at {s j:Nat} {f:Ln→Ln} (hy:ls[s*2+j]? = some y):(fillJ s j f ls)[s*2+j]? = some y:=by
 unfold fillJ
 rw [List.getElem?_mapIdx,hy]
 simp only [Option.map_some]
 rw [if_neg (by omega)]
theorem fillJ_step {s j:Nat} {f:Ln→Ln} (hy:ls[s*2+j]? = some y):(fillJ s j f ls).set (s*2+j) (f y)=fillJ s (j+1) f ls:=by
 have hlt:=(List.getElem?_eq_some_iff.1 hy).1
 apply List.ext_getElem?
 intro t
 rw [List.getElem?_set]
 unfold fillJ
 by_cases e:s*2+j=t
 ·subst e
  rw [if_pos rfl,if_pos (by simp;omega),List.getElem?_mapIdx,hy]
  simp only [Option.map_some]
  rw [if_pos (by omega)]
 ·rw [if_neg e,List.getElem?_mapIdx,List.getElem?_mapIdx]
  cases ls[t]? with
  | none=>rfl
  | some z=>
   simp only [Option.map_some]
   by_cases q:s*2≤t∧t<s*2+j
   ·rw [if_pos q,if_pos (by omega)]
   ·rw [if_neg q,if_neg (by omega)]
theorem fillJ_same {s j:Nat} {f:Ln→Ln} (hy:ls[s*2+j]? = some y) (hf:f y=y):fillJ s (j+1) f ls=fillJ s j f ls:=by
 rw [←fillJ_step hy,hf]
 have:=fillJ_at (f:=f) hy
 apply List.ext_getElem?
 intro t
 rw [List.getElem?_set]
 split
 ·rename_i e;subst e
  rw [if_pos (List.getElem?_eq_some_iff.1 this).1,this]
 ·rfl
theorem and7 {x:Int} (h0:0≤x) (h1:x<9223372036854775808):bits .and .i64 x 7=x % 8:=by
 obtain ⟨n,rfl⟩:∃ n:Nat,x=n:=⟨x.toNat,by omega⟩
 have h2:bits .and .i64 (n:Int) 7=IntKind.wrap .i64 ((BitVec.ofInt 64 n&&& BitVec.ofInt 64 7).toNat:Int):=rfl
 have h3:n&&& 7=n % 8:=Nat.and_two_pow_sub_one_eq_mod n 3
 rw [h2,BitVec.toNat_and,BitVec.ofInt_natCast,show BitVec.ofInt 64 7=BitVec.ofNat 64 7 from rfl,BitVec.toNat_ofNat,BitVec.toNat_ofNat,Nat.mod_eq_of_lt (by omega),Nat.mod_eq_of_lt (by omega),h3,w64]<;>omega
theorem Fill_spec {way:Nat} {Q:Int→AH→Prop} (h:Own (TlbS p ls::R) A) (hw:way<2) (hv:m.v=true) (ht:0≤m.tag∧m.tag<4096) (hp:0≤m.page∧m.page<9223372036854775808) (hf:0≤m.frame) (hk:∀ A',Own (TlbS p (fillZ ls way m)::R) A'→Q 0 A') :
  qdz_A (some ⟨p,0,none⟩) way m.v m.tag m.page m.frame m.w m.u m.x m.g m.d Q A:=by
 obtain ⟨hl,h⟩:=TlbS.openH h
 unfold qdz_A qdz_G
 refine ⟨fun A'=>A'=A,fun A1 e=>?_,?_⟩
 ·subst e
  unfold qdb_A qdc_A
  simp only [onSome_some,add_at,Nat.zero_add,and7 hp.1 hp.2]
  obtain ⟨s,hs⟩:∃ s:Nat,m.page % 8=s:=⟨(m.page % 8).toNat,by omega⟩
  have hs8:s<8:=by omega
  have hfz:fillZ ls way m=(fillJ s 2 (clrF m.tag m.page m.g) ls).set (s*2+way) m:=by unfold fillZ;rw [hs,Int.toNat_natCast]
  rw [hfz] at hk
  rw [hs]
  simp only [Int.toNat_natCast]
  refine inB_in (by omega) (by omega) ?_
  refine ⟨fun x mm A'=>∃ j:Nat,x=j∧mm+j=2∧Own (At p (lnC (fillJ s j (clrF m.tag m.page m.g) ls))::R) A',⟨2,0,rfl,rfl,by rw [fillJ_zero];exact h⟩,?_⟩
  intro x mm A2 ⟨j,e1,e2,h2⟩
  subst e1
  refine bsel_in (fun c=>?_) fun c=>?_
  ·have c:(j:Int)<2:=of_decide_eq_true c
   obtain ⟨y,hy⟩:∃ y,ls[s*2+j]? = some y:=⟨ls[s*2+j]'(by omega),by simp⟩
   simp only [Int.toNat_natCast]
   refine ⟨fun A'=>Own (At p (lnC (fillJ s (j+1) (clrF m.tag m.page m.g) ls))::R) A',fun A3 h3=>⟨mm-1,by omega,j+1,by rw [w64]<;>omega,by omega,h3⟩,?_⟩
   refine inB_in (by omega) c (rd_ln (i:=0) (k:=s*2+j) h2 rfl (fillJ_at hy) (by omega) ?_)
   have keep:(fitsB m.tag m.page y || (m.g&&(y.v&&y.page==m.page)))=false→Own (At p (lnC (fillJ s (j+1) (clrF m.tag m.page m.g) ls))::R) A2:=fun g=>by
    rw [fillJ_same hy (by unfold clrF;rw [g];rfl)];exact h2
   have go:(fitsB m.tag m.page y || (m.g&&(y.v&&y.page==m.page)))=true→_:=fun g=>inB_in (by omega) c (wr_ln (m:=ln0) (K:=fun A'=>Own (At p (lnC (fillJ s (j+1) (clrF m.tag m.page m.g) ls))::R) A') h2 (fillJ_at hy) (o:=s*18+j*9) (by omega) fun A4 h4=>by
    have e:clrF m.tag m.page m.g y=ln0:=by unfold clrF;rw [if_pos g]
    rw [←e,fillJ_step hy] at h4
    exact h4)
   have rest:fitsB m.tag m.page y=false→_:=fun gf=>(bsel_in (b:=m.g) (X:=inB (j:Int) 2 (aB ⟨p,s*18+j*9,none⟩ A2 fun b32=>bsel b32 (inB (j:Int) 2 (aI .i64 ⟨p,s*18+j*9+2,none⟩ A2 fun n33=>bsel (n33==m.page) (inB (j:Int) 2 (aC ⟨p,s*18+j*9,none⟩ (.bool false) A2 fun h0=>aC ⟨p,s*18+j*9+1,none⟩ (.int .i64 0) h0 fun h1=>aC ⟨p,s*18+j*9+2,none⟩ (.int .i64 0) h1 fun h2=>aC ⟨p,s*18+j*9+3,none⟩ (.int .i64 0) h2 fun h3=>aC ⟨p,s*18+j*9+4,none⟩ (.bool false) h3 fun h4=>aC ⟨p,s*18+j*9+5,none⟩ (.bool false) h4 fun h5=>aC ⟨p,s*18+j*9+6,none⟩ (.bool false) h5 fun h6=>aC ⟨p,s*18+j*9+7,none⟩ (.bool false) h6 fun h7=>aC ⟨p,s*18+j*9+8,none⟩ (.bool false) h7 fun A'=>Own (At p (lnC (fillJ s (j+1) (clrF m.tag m.page m.g) ls))::R) A')) (Own (At p (lnC (fillJ s (j+1) (clrF m.tag m.page m.g) ls))::R) A2))) (Own (At p (lnC (fillJ s (j+1) (clrF m.tag m.page m.g) ls))::R) A2))) (Y:=Own (At p (lnC (fillJ s (j+1) (clrF m.tag m.page m.g) ls))::R) A2)
    (fun g1=>inB_in (by omega) c (ld_B (i:=0) h2 rfl (by have:=lnC_at (fillJ_at (f:=clrF m.tag m.page m.g) hy) (c:=0) (by omega);rwa [show (s*2+j)*9+0=s*18+j*9 by omega] at this) (bsel_in (fun g2=>inB_in (by omega) c (ld_I (i:=0) h2 rfl (by have:=lnC_at (fillJ_at (f:=clrF m.tag m.page m.g) hy) (c:=2) (by omega);rwa [show (s*2+j)*9+2=s*18+j*9+2 by omega] at this) (bsel_in (fun g3=>go (by rw [gf,g1,g2,g3];rfl)) fun g3=>keep (by rw [gf,g1,g2,g3];rfl)))) fun g2=>keep (by rw [gf,g1,g2];rfl))))
    fun g1=>keep (by rw [gf,g1];rfl))
   refine bsel_in (fun a1=>bsel_in (fun a2=>bsel_in (fun a3=>bsel_t rfl (go (by unfold fitsB;rw [a1,a2,a3];rfl))) fun a3=>?_) fun a2=>bsel_f rfl (rest (by unfold fitsB;rw [a1,a2];rfl))) fun a1=>bsel_f rfl (rest (by unfold fitsB;rw [a1];rfl))
   refine bsel_in (fun a4=>go (by unfold fitsB;rw [a1,a2,a3,a4];rfl)) fun a4=>rest (by unfold fitsB;rw [a1,a2,a3,a4];rfl)
  ·have c:¬(j:Int)<2:=of_decide_eq_false c
   have hj:j=2:=by omega
   subst hj
   have hlen:(fillJ s 2 (clrF m.tag m.page m.g) ls).length=16:=by rw [fillJ_len,hl]
   refine inB_in (by omega) (by omega) ?_
   obtain ⟨y,hy⟩:∃ y,(fillJ s 2 (clrF m.tag m.page m.g) ls)[s*2+way]? = some y:=⟨(fillJ s 2 (clrF m.tag m.page m.g) ls)[s*2+way]'(by omega),by simp⟩
   refine wr_ln (m:=m) h2 hy (o:=s*18+way*9) (by omega) fun A3 h3=>hk A3 (TlbS.closeH (by simp [hlen]) h3)
 ·refine bsel_f (by simp) (bsel_f (by simp;omega) (bsel_f (by simp;omega) (bsel_f (by simp;omega) (bsel_f (by simp;omega) (bsel_f (by simp;omega) (bsel_f (by rw [hv];rfl) rfl))))))
end Go.Dn
