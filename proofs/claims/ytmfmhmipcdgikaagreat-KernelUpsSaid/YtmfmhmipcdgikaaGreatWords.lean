/- What the proof stands on: Maps, RamNew, Words. -/
import Derived.Test.YtmfmhmipcdgikaaGreatDnY
import Derived.Test.YtmfmhmipcdgikaaGreatDnN
import Derived.Test.YtmfmhmipcdgikaaGreatEntry
/- Maps with numbers as keys: what is taken out, how many, all keys; the block that a number is in. -/
namespace Go.Dn
open Go.MapKept
variable {A:AH} {l R:List SP}
def delM (m:List (Int × Value)) (key:Int):List (Int × Value):=match m with
 | []=>[]
 | p::m=>if p.1=key then m else p::delM m key
theorem find_del {k:IntKind} {key:Int}:∀ (es:List MapEntry) (m:List (Int × Value)) (j:Nat),es.map (fun e=>(e.key,e.val))=m.map (fun p=>(.int k p.1,p.2))→
  ∃ r,Instr.findNow (.int k) (.int k key) es j=some r∧
   (∀ i v,r=some (i,v)→j≤i∧i-j<es.length∧(es.eraseIdx (i-j)).map (fun e=>(e.key,e.val))=(delM m key).map (fun p=>(.int k p.1,p.2)))∧(r=none→delM m key=m)
 | [],[],j,_=>⟨none,rfl,(fun _ _ e=>nomatch e),fun _=>rfl⟩
 | [],_::_,_,e=>by simp at e
 | _::_,[],_,e=>by simp at e
 | e::es,p::m,j,h=>by
  simp only [List.map_cons,List.cons.injEq,Prod.mk.injEq] at h
  obtain ⟨⟨h1,h2⟩,h3⟩:=h
  simp only [Instr.findNow,h1,Instr.sameNow]
  by_cases q:p.1=key
  ·refine ⟨some (j,e.val),by simp [q],?_,fun hn=>by cases hn⟩
   intro i v hv
   simp only [Option.some.injEq,Prod.mk.injEq] at hv
   obtain ⟨rfl,rfl⟩:=hv
   exact ⟨Nat.le_refl _,by simp,by simp [delM,q,h3]⟩
  ·obtain ⟨r,k1,k3,k4⟩:=find_del (k:=k) (key:=key) es m (j+1) h3
   refine ⟨r,?_,?_,?_⟩
   ·have g:(key==p.1)=false:=by simpa using fun g=>q g.symm
    rw [g];exact k1
   ·intro i v hv
    obtain ⟨k5,k6,k7⟩:=k3 i v hv
    refine ⟨by omega,by simp;omega,?_⟩
    rw [show i-j=(i-(j+1))+1 by omega]
    simp only [List.eraseIdx_cons_succ,List.map_cons,k7]
    simp [delM,q,h1,h2]
   ·intro hn
    simp [delM,q,k4 hn]
theorem dl_M {i b:Nat} {k:IntKind} {key:Int} {m:List (Int × Value)} {K:AP} (h:Own l A) (e:l[i]? = some (MapI b k m)) (hk:∀ A',Own (l.set i (MapI b k (delM m key))) A'→K A'):aMDl A (some b) k key K:=by
 obtain ⟨es,c,h1,h2,hst⟩:=h.map e
 obtain ⟨r,k1,k3,k4⟩:=find_del (k:=k) (key:=key) es.toList m 0 h2
 refine ⟨es,c,h1,r,k1,hk _ ?_⟩
 refine h.upd e (fun B ⟨_,_,hb,_⟩=>⟨_,hb⟩) fun B _=>?_
 cases r with
 | none=>
  refine ⟨_,_,updA_self,?_,hst⟩
  rw [k4 rfl];exact h2
 | some p=>
  obtain ⟨i,v0⟩:=p
  obtain ⟨k5,k6,k7⟩:=k3 i v0 rfl
  refine ⟨_,_,updA_self,?_,stamped_erase hst i⟩
  show (es.eraseIdxIfInBounds i).toList.map _=_
  have:(es.eraseIdxIfInBounds i).toList=es.toList.eraseIdx i:=by
   rw [Array.eraseIdxIfInBounds_eq]
   split
   ·simp
   ·rename_i g
    rw [List.eraseIdx_of_length_le (by simpa using Nat.le_of_not_lt g)]
  rw [this]
  exact k7
theorem ln_M {i b:Nat} {k:IntKind} {m:List (Int × Value)} {K:Int→Prop} (h:Own l A) (e:l[i]? = some (MapI b k m)) (hk:K m.length):aMLn A (some b) K:=by
 obtain ⟨es,c,h1,h2,_⟩:=h.map e
 refine ⟨es.toList,by simp [mapEA,h1],?_⟩
 have:es.toList.length=m.length:=by
  have:=congrArg List.length (show es.toList.map (fun e=>(e.key,e.val))=_ from h2)
  simpa using this
 rw [this];exact hk
theorem cl_M {i b r t:Nat} {m:List (Int × Value)} {Q:Sl→AP} {j:Nat} (h:Own l A) (ep:l[j]? = some (At b [.map (some r)])) (e:l[i]? = some (MapI r .i64 m)) (hn:m.length≤17592186044416) (hr:∀ p ∈ m,(Lit.int .i64 p.1).wf=true)
  (h0:m=[]→Q Sl.nil A)
  (hk:∀ (ss:List Int) s A',ss.Perm (m.map (·.1))→ss≠[]→s.len=ss.length→Own (SlAt s 1 (ss.map (.int .i64))::l) A'→Q s A'):clA t (some ⟨b,0,none⟩) Q A:=by
 obtain ⟨es,c,h1,h2,hst⟩:=h.map e
 refine ⟨b,some r,rfl,cell_at ep h rfl,es,c,h1,⟨hst,?_,?_⟩,fun ss hs=>⟨fun he=>?_,fun cap cur hne hle hsz hcur=>?_⟩⟩
 ·have:es.toList.length=m.length:=by
   have:=congrArg List.length (show es.toList.map (fun e=>(e.key,e.val))=_ from h2)
   simpa using this
  have:es.size=m.length:=by simpa using this
  omega
 ·intro x hx
  have:(x.key,x.val) ∈ m.map fun p=>((.int .i64 p.1:Value),p.2):=by rw [←show es.toList.map (fun e=>(e.key,e.val))=_ from h2];exact List.mem_map.2 ⟨x,hx,rfl⟩
  obtain ⟨p,hp,hpe⟩:=List.mem_map.1 this
  simp only [Prod.mk.injEq] at hpe
  exact ⟨p.1,hpe.1.symm,hr p hp⟩
 ·apply h0
  subst he
  have:=hs.length_eq
  have h3:es.toList.length=m.length:=by
   have:=congrArg List.length (show es.toList.map (fun e=>(e.key,e.val))=_ from h2)
   simpa using this
  apply List.length_eq_zero_iff.1
  simp at this h3
  rw [←h3,← this]
 ·intro g hg
  have hm:es.toList.map keyI=m.map (·.1):=by
   have h3:(es.toList.map fun e=>(e.key,e.val)).map (fun p=>match p.1 with | .int _ n=>n | _=>0)=(m.map fun p=>((.int .i64 p.1:Value),p.2)).map (fun p=>match p.1 with | .int _ n=>n | _=>0):=congrArg _ h2
   rw [List.map_map,List.map_map] at h3
   exact h3
  rw [hm] at hs
  refine hk ss _ _ hs hne rfl (h.new hg fun B hB=>⟨by simp,hle,fun _=>⟨g,[],cur.toList.drop ss.length,rfl,t,?_⟩⟩)
  have:[]++ss.map (Value.int .i64)++cur.toList.drop ss.length=cur.toList:=by
   rw [List.nil_append,← hcur,List.take_append_drop]
  rw [this,hB,Array.toArray_toList]
end Go.Dn
/- A memory, made. -/
namespace Go.Dn
variable {A:AH} {l:List SP} {r:Nat} {fr:Int} {hs:List (Int × Int)} {M:Int→Int}
theorem Own.nilO {sz:Nat} (h:Own l A):Own (SlO Sl.nil sz []::l) A:=⟨fun _=>none,_,fun _=>.inl rfl,(fun b o e=>nomatch e),Sub.refl _,SlO.nil,h⟩
def holeOK (fr:Int) (p:Int × Int):Bool:=!(decide (p.1<0))&&!(decide (p.2<p.1))&&!(decide (p.2 > fr))
def newCode (fr:Int) (hs:List (Int × Int)):Int:=if fr<1 then 1 else if fr > 1048576 then 4 else if hs.length > 64 then 4 else if hs.all (holeOK fr) then 0 else 3
theorem New_spec {k:Nat} {s:Sl} {Q:Option Addr→Int→AH→Prop} (h:Own l A) (e:l[k]? = some (SlAt s 2 (holeCells hs))) (hn:newCode fr hs≠0→Q none (newCode fr hs) A)
  (hk:newCode fr hs=0→∀ r A',Own (RamS r fr hs (fun _=>0)::l) A'→Q (some ⟨r,0,none⟩) 0 A'):qap_A fr s Q A:=by
 have hlen:s.len*2=hs.length*2:=by rw [←holeCells_len];exact sl_len h e
 have hlen:s.len=hs.length:=by omega
 unfold qap_A
 unfold newCode at hn hk
 refine bsel_in (fun c=>?_) fun c=>?_
 ·have c:fr<1:=by simpa using c
  rw [if_pos c] at hn;exact hn (by decide)
 have c:¬ fr<1:=by simpa using c
 rw [if_neg c] at hn hk
 refine ⟨fun h2=>h2=A∧¬ fr > 1048576∧¬ hs.length > 64,?_,bsel_in (fun c2=>?_) fun c2=>bsel_in (fun c3=>?_) fun c3=>⟨rfl,by simpa using c2,by simp [hlen] at c3;omega⟩⟩
 rotate_left
 ·have c2:fr > 1048576:=by simpa using c2
  rw [if_pos c2] at hn;exact hn (by decide)
 ·have c2:¬ fr > 1048576:=by simpa using c2
  rw [if_neg c2] at hn
  have c3:hs.length > 64:=by simp [hlen] at c3;omega
  rw [if_pos c3] at hn;exact hn (by decide)
 intro A0 ⟨e0,c2,c3⟩
 subst e0
 rw [if_neg c2] at hn hk
 rw [if_neg c3] at hn hk
 refine ⟨fun x m h'=>h'=A0∧∃ j:Nat,x=j∧j≤hs.length∧m=hs.length-j∧(hs.take j).all (holeOK fr)=true,⟨_,rfl,0,rfl,by omega,rfl,by simp⟩,?_⟩
 intro x m h' ⟨e1,j,e2,e3,e4,e5⟩
 subst e1 e2 e4
 refine bsel_in (fun c4=>?_) fun c4=>?_
 ·have c4:j<hs.length:=by simp [hlen] at c4;omega
  obtain ⟨p,hp⟩:∃ p,hs[j]? = some p:=⟨hs[j],by simp [c4]⟩
  obtain ⟨h1,h2⟩:=holeCells_at hp
  obtain ⟨b,o,g1,g2⟩:=sl_cell h e h1
  obtain ⟨b',o',g3,g4⟩:=sl_cell h e h2
  rw [g1] at g3
  cases g3
  rw [g1]
  refine inB_in (by omega) (by rw [hlen];omega) ⟨p.1,?_,p.2,?_,?_⟩
  ·rw [add_at];simpa using g2
  ·rw [add_at,add_at];simpa [Nat.add_assoc] using g4
  have hbad:holeOK fr p=false→Q none 3 h':=fun q=>by
   have:hs.all (holeOK fr)=false:=by
    rw [List.all_eq_false]
    exact ⟨p,List.mem_of_getElem? hp,by simp [q]⟩
   rw [this] at hn
   exact hn (by decide)
  refine bsel_in (fun c5=>hbad (by unfold holeOK;rw [c5];rfl)) fun c5=>?_
  refine bsel_in (fun c6=>hbad (by unfold holeOK;rw [c5,c6];rfl)) fun c6=>?_
  refine bsel_in (fun c7=>hbad (by unfold holeOK;rw [c5,c6,c7];rfl)) fun c7=>?_
  refine ⟨hs.length-(j+1),by omega,rfl,j+1,by rw [w64]<;>omega,by omega,rfl,?_⟩
  rw [List.take_add_one,hp]
  simp only [List.all_append,e5,Option.toList_some,List.all_cons,List.all_nil,Bool.and_true,Bool.true_and]
  unfold holeOK
  rw [c5,c6,c7];rfl
 ·have:j=hs.length:=by simp [hlen] at c4;omega
  subst this
  rw [List.take_length] at e5
  rw [e5] at hk
  have hnone:s.a=none→holeCells hs=[]:=by
   intro q
   obtain ⟨B,_,hB⟩:=Own.get e h
   by_cases g:holeCells hs=[]
   ·exact g
   ·obtain ⟨b,pre,rest,hb,_⟩:=hB.2.2 g
    rw [q] at hb;cases hb
  refine ap_head (i:=k) h.nilO e hnone (fun _=>rfl) rfl ?_ ⟨by simp [Sl.nil,hlen];omega,by simp [Sl.nil,hlen];omega⟩ fun s' A' hs1 hs2 h1=>?_
  ·intro v hv
   simp only [holeCells,List.mem_flatMap] at hv
   obtain ⟨p,_,hv⟩:=hv
   simp at hv
   rcases hv with rfl | rfl<;>rfl
  refine new_M (k:=.i64) h1 fun mb A2 h2=>?_
  refine new_C h2 fun r A3 h3=>?_
  refine hk rfl r A3 ?_
  refine Own.imp (P:=Own (ramL r fr hs s' mb (fun _=>0) [])) (fun B hB=>⟨s',mb,[],⟨by simp,fun _=>by omega,fun _ _ _=>rfl⟩,hB⟩) ?_
  refine Own.app ?_
  show Own (_::SlAt s' 2 (holeCells hs)::MapI mb .i64 []::l) A3
  refine h3.cons fun C hC=>?_
  exact Own.imp (fun B hB=>hB.look) hC.swap
end Go.Dn
/- A memory by its words: entries of tables. -/
namespace Go.Dn
variable {A:AH} {l R:List SP} {r:Nat} {fr:Int} {hs:List (Int × Int)} {M:Int→Int} {W:Int→Int→Int}
def wordAt (M:Int→Int) (t i:Int):Int:=le M (t*4096+8*i) 8
structure RamOK (fr:Int) (hs:List (Int × Int)):Prop where
 holes:hs.length≤64
 lo:0≤fr
 hi:fr≤1048576
def RamW (r:Nat) (fr:Int) (hs:List (Int × Int)) (W:Int→Int→Int):SP:=fun B=>∃ M,(RamOK fr hs∧∀ t i,0≤t→0≤i→i<512→W t i=wordAt M t i)∧RamS r fr hs M B
theorem RamW.openH (h:Own (RamW r fr hs W::R) A):∃ M,(RamOK fr hs∧∀ t i,0≤t→0≤i→i<512→W t i=wordAt M t i)∧Own (RamS r fr hs M::R) A:=by
 obtain ⟨M,h⟩:=Own.ex h
 obtain ⟨h1,h⟩:=Own.pure h
 exact ⟨M,h1,h⟩
theorem RamW.closeH (h1:RamOK fr hs) (h2:∀ t i,0≤t→0≤i→i<512→W t i=wordAt M t i) (h:Own (RamS r fr hs M::R) A):Own (RamW r fr hs W::R) A:=h.imp fun _ hB=>⟨M,⟨h1,h2⟩,hB⟩
theorem has_range {t:Int} (h:hasF fr hs t=true) (_hf:fr≤1048576):0≤t∧t<fr:=by
 unfold hasF at h
 simp at h
 omega
def setW (W:Int→Int→Int) (t i x:Int):Int→Int→Int:=fun t' i'=>if t'=t∧i'=i then x else W t' i'
def zeroW (W:Int→Int→Int) (t:Int):Int→Int→Int:=fun t' i'=>if t'=t then 0 else W t' i'
theorem word_st {t i x t' i':Int} (hi:0≤i∧i<512) (hi':0≤i'∧i'<512) (hx:U64 x):wordAt (stM M (t*4096+8*i) 8 x) t' i'=if t'=t∧i'=i then x else wordAt M t' i':=by
 unfold wordAt
 split
 ·rename_i g
  rw [g.1,g.2]
  exact le_same M _ x 8 hx.1 hx.2
 ·rename_i g
  refine le_apart M _ _ x 8 8 ?_
  by_cases e:t'=t
  ·have:i'≠i:=fun q=>g ⟨e,q⟩
   subst e
   omega
  ·omega
theorem word_u (h:Own (RamW r fr hs W::R) A) {t i:Int} (ht:0≤t) (hi:0≤i∧i<512):U64 (W t i):=by
 obtain ⟨M,⟨h1,h2⟩,hh⟩:=RamW.openH h
 rw [h2 t i ht hi.1 hi.2]
 exact word_u64 (i:=0) hh rfl _
theorem Frames_head {Q:Int→AH→Prop} (h:Own (RamW r fr hs W::R) A) (hk:Q fr A):qbh_A (some ⟨r,0,none⟩) Q A:=by
 obtain ⟨M,⟨h1,h2⟩,hh⟩:=RamW.openH h
 obtain ⟨s,mb,pm,ok,ho⟩:=RamS.open (i:=0) hh rfl
 exact ld_I (i:=0) ho rfl rfl hk
theorem get_head {t i bx:Int} {pb pt:Option Addr} {Q:Bool→Bool→Bool→Bool→Bool→Bool→Bool→Bool→Int→AH→Prop} (h:Own (RamW r fr hs W::R) A) (ht:hasF fr hs t=true) (hi:0≤i∧i<512)
  (hk:∀ A',Own (RamW r fr hs W::R) A'→Q (bitZ (W t i) 0) (bitZ (W t i) 1) (bitZ (W t i) 2) (bitZ (W t i) 5) (bitZ (W t i) 6) (bitZ (W t i) 7) (bitZ (W t i) 8) (bitZ (W t i) 63) (frameZ (W t i)) A') :
  qdm_A (some ⟨r,0,none⟩) pb pt bx t i Q A:=by
 have hU:=word_u h (t:=t) (i:=i) (has_range ht (RamW.openH h).choose_spec.1.1.hi).1 hi
 obtain ⟨M,⟨h1,h2⟩,hh⟩:=RamW.openH h
 have hr:=has_range ht h1.hi
 have hfr:=h1.hi
 unfold qdm_A qdm_G qbm_A
 rw [place_wrap ⟨hr.1,by omega⟩ hi]
 refine Load_spec (n:=8) (i:=0) hh rfl h1.holes ⟨h1.lo,h1.hi⟩ (by omega) ⟨by omega,by omega⟩ ?_
 have hok:okA fr hs (t*4096+8*i) ((8:Nat):Int)=true:=(okA_word hi).trans ht
 rw [hok]
 simp only [↓reduceIte]
 have hw:le M (t*4096+8*i) 8=W t i:=(h2 t i hr.1 hi.1 hi.2).symm
 rw [hw]
 exact Unpack_spec hU hh fun A' hA=>hk A' (RamW.closeH h1 h2 hA)
theorem store_head {t i x:Int} {Q:Int→AH→Prop} (h:Own (RamW r fr hs W::R) A) (ht:hasF fr hs t=true) (hi:0≤i∧i<512) (hx:U64 x) (hk:∀ A',Own (RamW r fr hs (setW W t i x)::R) A'→Q 0 A') :
  qbp_A (some ⟨r,0,none⟩) (t*4096+8*i) 8 x Q A:=by
 obtain ⟨M,⟨h1,h2⟩,hh⟩:=RamW.openH h
 have hr:=has_range ht h1.hi
 have hfr:=h1.hi
 have hok:okA fr hs (t*4096+8*i) ((8:Nat):Int)=true:=(okA_word hi).trans ht
 refine Store_spec (n:=8) hh h1.holes ⟨h1.lo,h1.hi⟩ (by omega) ⟨by omega,by omega⟩ (fun q=>by rw [hok] at q;cases q) fun _ A' hA=>hk A' (RamW.closeH h1 (fun t' i' q1 q2 q3=>?_) hA)
 rw [word_st hi ⟨q2,q3⟩ hx]
 unfold setW
 rw [h2 t' i' q1 q2 q3]
theorem place_eq {t i:Int} (ht:0≤t∧t<1048576) (hi:0≤i∧i<512) {Q:Int→AH→Prop} (hk:Q (t*4096+8*i) A):qbm_A t i Q A:=by
 unfold qbm_A
 rw [place_wrap ht hi]
 exact hk
theorem put_head {t i f bx:Int} {pb pt:Option Addr} {b0 b1 b2 b3 b4 b5 b6 b7:Bool} {Q:AH→Prop} (h:Own (RamW r fr hs W::R) A) (ht:hasF fr hs t=true) (hi:0≤i∧i<512) (hf:0≤f∧f<1048576)
  (hk:∀ A',Own (RamW r fr hs (setW W t i (packZ b0 b1 b2 b3 b4 b5 b6 b7 f))::R) A'→Q A'):qbq_A (some ⟨r,0,none⟩) pb pt bx t i b0 b1 b2 b3 b4 b5 b6 b7 f Q A:=by
 have hr:=has_range ht (RamW.openH h).choose_spec.1.1.hi
 have hfr:=(RamW.openH h).choose_spec.1.1.hi
 unfold qbq_A qbq_G
 refine Pack_spec h hf fun A1 h1=>place_eq ⟨hr.1,by omega⟩ hi ?_
 exact store_head h1 ht hi (pack_bits b0 b1 b2 b3 b4 b5 b6 b7 hf).2.2.2.2.2.2.2.2.2 fun A2 h2=>hk A2 h2
def zeroM (M:Int→Int) (f:Int):Int→Int:=fun c=>if f*4096≤c∧c<f*4096+4096 then 0 else M c
theorem pm_del (pm:Pm) (f:Int) (nd:(pm.map (·.1)).Nodup):delM (pmMap pm) f=pmMap (pm.filter fun p=>p.1 != f):=by
 induction pm with
 | nil=>rfl
 | cons p pm ih=>
  simp only [List.map_cons,List.nodup_cons] at nd
  simp only [pmMap,List.map_cons,delM] at ih ⊢
  by_cases e:p.1=f
  ·rw [if_pos e]
   have:(p::pm).filter (fun p=>p.1 != f)=pm:=by
    rw [List.filter_cons,if_neg (by simp [e])]
    rw [List.filter_eq_self]
    intro q hq
    simp
    intro g
    exact nd.1 (List.mem_map.2 ⟨q,hq,by rw [g,e]⟩)
   rw [this]
  ·rw [if_neg e,ih nd.2,List.filter_cons,if_pos (by simpa using e)]
   rfl
theorem pages_zero {pm:Pm} {f:Int} (hf:∀ p ∈ pm,p.1≠f):PagesAt (zeroM M f) pm=PagesAt M pm:=by
 unfold PagesAt
 apply List.map_congr_left
 intro p hp
 have:pageCells (zeroM M f) p.1=pageCells M p.1:=by
  unfold pageCells
  apply List.map_congr_left
  intro i hi
  have hi:i<4096:=by simpa using hi
  unfold zeroM
  rw [if_neg (by have:=hf p hp;omega)]
 rw [this]
theorem Zero_head {t:Int} {Q:Int→AH→Prop} (h:Own (RamW r fr hs W::R) A) (ht:hasF fr hs t=true) (hk:∀ A',Own (RamW r fr hs (zeroW W t)::R) A'→Q 0 A'):qbd_A (some ⟨r,0,none⟩) t Q A:=by
 obtain ⟨M,⟨h1,h2⟩,hh⟩:=RamW.openH h
 unfold qbd_A qbd_G
 refine Has_spec (i:=0) hh rfl h1.holes (bsel_f (by rw [ht];rfl) ?_)
 obtain ⟨s,h⟩:=Own.ex hh
 obtain ⟨mb,h⟩:=Own.ex h
 obtain ⟨pm,h⟩:=Own.ex h
 obtain ⟨ok,h⟩:=Own.pure h
 have hR:Own (ramL r fr hs s mb M pm++R) A:=Own.flat h
 rw [show onSome (some (⟨r,0,none⟩:Addr))=fun f=>f ⟨r,0,none⟩ from rfl]
 simp only [add_at]
 refine ld_M (i:=0) hR rfl rfl (dl_M (i:=2) hR rfl fun A' hA=>hk A' ?_)
 rw [pm_del pm t ok.nodup] at hA
 have hA:Own (At r [.int .i64 fr,.slice s.a s.len s.cap,.map (some mb)]::SlAt s 2 (holeCells hs)::MapI mb .i64 (pmMap (pm.filter fun p=>p.1 != t))::(PagesAt M pm++R)) A':=hA
 have hr:=has_range ht h1.hi
 refine RamW.closeH (M:=zeroM M t) h1 (fun t' i' q1 q2 q3=>?_) ?_
 ·unfold zeroW
  split
  ·rename_i g
   subst g
   unfold wordAt
   have:le (zeroM M t') (t'*4096+8*i') 8=le (fun _=>0) (t'*4096+8*i') 8:=le_congr 8 _ fun c c1 c2=>by
    unfold zeroM
    rw [if_pos (by omega)]
   rw [this];rfl
  ·rename_i g
   rw [h2 t' i' q1 q2 q3]
   unfold wordAt
   refine le_congr 8 _ fun c c1 c2=>?_
   unfold zeroM
   rw [if_neg (by omega)]
 ·refine Own.imp (P:=Own (ramL r fr hs s mb (zeroM M t) (pm.filter fun p=>p.1 != t))) (fun B hB=>⟨s,mb,_,⟨?_,fun a=>?_,fun a a0 a1=>?_⟩,hB⟩) ?_
  ·exact ok.nodup.sublist (List.filter_sublist.map _)
  ·unfold zeroM
   split
   ·omega
   ·exact ok.byte a
  ·unfold zeroM
   split
   ·rfl
   ·rename_i g
    refine ok.zero a a0 fun q=>a1 ?_
    obtain ⟨p,hp,hpe⟩:=List.mem_map.1 q
    refine List.mem_map.2 ⟨p,List.mem_filter.2 ⟨hp,?_⟩,hpe⟩
    simp
    omega
  ·refine Own.app ?_
   unfold ramL
   rw [pages_zero (fun p hp=>by simpa using (List.mem_filter.1 hp).2)]
   refine Own.sub ?_ hA
   show List.Sublist (_::_::_::(PagesAt M (pm.filter fun p=>p.1 != t)++R)) _
   refine List.Sublist.cons_cons _ (List.Sublist.cons_cons _ (List.Sublist.cons_cons _ ?_))
   exact (List.filter_sublist.map _).append (List.Sublist.refl _)
end Go.Dn
