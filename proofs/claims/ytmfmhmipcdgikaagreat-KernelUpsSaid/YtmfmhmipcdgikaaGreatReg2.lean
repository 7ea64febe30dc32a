/- What the proof stands on: Reg, Reg2. -/
import Derived.Test.YtmfmhmipcdgikaaGreatTabs
import Derived.Test.YtmfmhmipcdgikaaGreatTlb2
/- Regions of pages: lists of them. -/
namespace Go.Dn
structure Reg where
 a:Int
 b:Int
 w:Bool
 u:Bool
 x:Bool
 k:Int
def Reg.cells (r:Reg):List Value:=[.int .i64 r.a,.int .i64 r.b,.bool r.w,.bool r.u,.bool r.x,.int .i64 r.k]
def regC (L:List Reg):List Value:=L.flatMap Reg.cells
variable {A:AH} {l R:List SP} {P:SP} {i k v:Nat} {s:Sl} {L:List Reg} {y:Reg}
theorem regC_len:∀ L:List Reg,(regC L).length=L.length*6
 | []=>rfl
 | y::L=>by
  have:=regC_len L
  unfold regC at this ⊢
  rw [List.flatMap_cons,List.length_append,this,List.length_cons];simp [Reg.cells];omega
theorem regC_app (a b:List Reg):regC (a++b)=regC a++regC b:=List.flatMap_append
theorem regC_at:∀ {L:List Reg} {v:Nat} {y:Reg} {c:Nat} {z:Value},L[v]? = some y→y.cells[c]? = some z→(regC L)[v*6+c]? = some z
 | [],v,a,c,x,h,_=>by simp at h
 | b::r,0,a,c,x,h,hc=>by
  simp at h;subst h
  have hlt:c<6:=(List.getElem?_eq_some_iff.1 hc).1
  unfold regC
  rw [List.flatMap_cons,List.getElem?_append_left (by simp [Reg.cells];omega),Nat.zero_mul,Nat.zero_add]
  exact hc
 | b::r,v+1,a,c,x,h,hc=>by
  have h:r[v]? = some a:=by simpa using h
  unfold regC
  rw [List.flatMap_cons,List.getElem?_append_right (by simp [Reg.cells];omega)]
  have:(v+1)*6+c-b.cells.length=v*6+c:=by simp [Reg.cells];omega
  rw [this]
  exact regC_at h hc
theorem regC_one {v:Value} (h:v ∈ regC L):v.oneCell'=true:=by
 obtain ⟨d,_,hd⟩:=List.mem_flatMap.1 h
 simp [Reg.cells] at hd
 rcases hd with rfl | rfl | rfl | rfl | rfl | rfl<;>rfl
theorem rd_reg_len (h:Own l A) (e:l[k]? = some P) (hr:Reads P s 6 (regC L)):s.len=L.length:=by
 have:=rd_len h e hr
 rw [regC_len] at this
 omega
theorem rd_reg (h:Own l A) (e:l[k]? = some P) (hr:Reads P s 6 (regC L)) (hv:L[v]? = some y) :
  ∃ a,s.a=some a∧∀ K:Int→Int→Bool→Bool→Bool→Int→Prop,K y.a y.b y.w y.u y.x y.k→
   aI .i64 (Addr.add a (Int.toNat (v:Int)*6)) A fun n0=>aI .i64 (Addr.add (Addr.add a (Int.toNat (v:Int)*6)) 1) A fun n1=>aB (Addr.add (Addr.add a (Int.toNat (v:Int)*6)) 2) A fun b2=>
    aB (Addr.add (Addr.add a (Int.toNat (v:Int)*6)) 3) A fun b3=>aB (Addr.add (Addr.add a (Int.toNat (v:Int)*6)) 4) A fun b4=>aI .i64 (Addr.add (Addr.add a (Int.toNat (v:Int)*6)) 5) A fun n5=>K n0 n1 b2 b3 b4 n5:=by
 obtain ⟨bb,o,q0,c0⟩:=rd_cell h e hr (j:=v*6+0) (regC_at hv (c:=0) rfl)
 refine ⟨_,q0,fun K hK=>?_⟩
 have hc:∀ c z,y.cells[c]? = some z→cellA A ⟨bb,o+v*6+c,none⟩=some z:=fun c z hz=>by
  obtain ⟨b2,o2,q1,c1⟩:=rd_cell h e hr (j:=v*6+c) (regC_at hv hz)
  rw [q0] at q1
  cases q1
  rw [Nat.add_assoc]
  exact c1
 simp only [add_at,Int.toNat_natCast]
 exact ⟨_,by simpa using hc 0 _ rfl,_,hc 1 _ rfl,_,hc 2 _ rfl,_,hc 3 _ rfl,_,hc 4 _ rfl,_,hc 5 _ rfl,hK⟩
theorem push_reg {t:TypeId} {K:Sl→AP} (h:Own (SlO s 6 (regC L)::R) A) (hs:s.a=none→L=[]) (hb:L.length≤1000000)
  (hk:∀ s' A',s'.a≠none→Own (SlO s' 6 (regC (L++[y]))::R) A'→K s' A') :
  newA A (.cells #[.int .i64 y.a,.int .i64 y.b,.bool y.w,.bool y.u,.bool y.x,.int .i64 y.k] t) fun b h2=>
   apA 6 32 #[(.int .i64 (0:Int)),(.int .i64 (0:Int)),(.bool false),(.bool false),(.bool false),(.int .i64 (0:Int))] t s (Sl.mk (some (Addr.mk b 0 none)) 1 1) h2 K:=by
 have hl:s.len=L.length:=by
  obtain ⟨B,_,hB⟩:=h.sat
  have:=hB.1.1
  rw [regC_len] at this
  omega
 refine new_C (cs:=y.cells) h fun b A1 h1=>?_
 have h1:=h1.swap
 refine ap_reads (i:=0) h1 rfl (reads_at (n:=1) (sz:=6) (cs:=y.cells) (rest:=[]) rfl) (fun g=>nomatch g) (fun g=>by rw [hs g];rfl) rfl (fun v hv=>?_) ⟨by simp only [hl];omega,by simp only [hl];omega⟩ fun s' A2 j1 j2 h2=>?_
 ·exact regC_one (L:=[y]) (by simpa [regC] using hv)
 ·refine hk s' A2 (fun g=>?_) ?_
  ·have:=j2 g
   simp [Reg.cells] at this
  ·rw [regC_app]
   have:regC [y]=y.cells:=by simp [regC]
   rw [this]
   exact Own.cons (fun C hC=>hC.tail) h2
def joinsB (p q:Reg):Bool:=p.b==q.a&&((p.w==q.w&&(p.u==q.u&&(p.x==q.x&&true)))&&p.k==q.k)
theorem joins_spec {p q:Reg} {Q:Bool→AH→Prop} (hk:Q (joinsB p q) A):qeg_A p.a p.b p.w p.u p.x p.k q.a q.b q.w q.u q.x q.k Q A:=by
 unfold qeg_A
 unfold joinsB at hk
 refine bsel_in (fun g=>bsel_in (fun g2=>?_) fun g2=>?_) fun g=>?_
 ·rw [g,g2] at hk;exact hk
 ·rw [g,g2] at hk;exact hk
 ·rw [g] at hk;exact hk
def rightB (a b:Int):Bool:=decide (a≥0)&&(decide (b > a)&&(decide (b≤34359738368)&&decide (b-a≤65536)))
theorem right_spec {a b:Int} {Q:Bool→AH→Prop} (hk:Q (rightB a b) A):qef_A a b Q A:=by
 unfold qef_A
 unfold rightB at hk
 refine bsel_in (fun g=>bsel_in (fun g2=>bsel_in (fun g3=>?_) fun g3=>?_) fun g2=>?_) fun g=>?_
 ·have g':=of_decide_eq_true g
  have g2':=of_decide_eq_true g2
  have g3':=of_decide_eq_true g3
  rw [w64 (by omega) (by omega)]
  rw [g,g2,g3] at hk;exact hk
 ·rw [g,g2,g3] at hk;exact hk
 ·rw [g,g2] at hk;exact hk
 ·rw [g] at hk;exact hk
def mrgR (out:List Reg) (r:Reg):List Reg:=match out.getLast? with
 | some q=>if joinsB q r=true then out.dropLast++[{ q with b:=r.b }] else out++[r]
 | none=>[r]
def mergedR (L:List Reg):List Reg:=L.foldl mrgR []
theorem mrgR_len (out:List Reg) (r:Reg):(mrgR out r).length≤out.length+1:=by
 unfold mrgR
 split
 ·split<;>simp<;>omega
 ·simp
theorem foldl_take {α β:Type} (f:β→α→β) (z:β) (L:List α) {v:Nat} {y:α} (h:L[v]? = some y):(L.take (v+1)).foldl f z=f ((L.take v).foldl f z) y:=by
 rw [take_succ h,List.foldl_append];rfl
theorem merged_le:∀ (L:List Reg),(mergedR L).length≤L.length:=by
 intro L
 unfold mergedR
 have:∀ (L:List Reg) (o:List Reg),(L.foldl mrgR o).length≤o.length+L.length:=by
  intro L
  induction L with
  | nil=>intro o;simp
  | cons y L ih=>
   intro o
   have h1:=ih (mrgR o y)
   have h2:=mrgR_len o y
   simp only [List.foldl_cons,List.length_cons]
   omega
 simpa using this L []
theorem regC_last {o:List Reg} {q r:Reg} (n:Int):(regC (o++[q])).set (o.length*6+1) (.int .i64 n)=regC (o++[{ q with b:=n }]):=by
 rw [regC_app,regC_app,List.set_append_right _ _ (by rw [regC_len];omega),regC_len,show o.length*6+1-o.length*6=1 by omega]
 rfl
theorem merged_spec {Q:Sl→AH→Prop} (h:Own l A) (e:l[k]? = some P) (hr:Reads P s 6 (regC L)) (hb:L.length≤100000)
  (hk:∀ s' A',(s'.a=none→mergedR L=[])→Own (SlO s' 6 (regC (mergedR L))::l) A'→Q s' A'):qeo_A s Q A:=by
 have hl:=rd_reg_len h e hr
 unfold qeo_A qeo_G
 refine ⟨fun o x m A'=>∃ v:Nat,x=v∧m+v=L.length∧(o.a=none→mergedR (L.take v)=[])∧Own (SlO o 6 (regC (mergedR (L.take v)))::l) A',⟨L.length,0,rfl,rfl,fun _=>rfl,
  ⟨fun _=>none,A,fun _=>.inl rfl,(fun _ _ e=>nomatch e),Sub.refl A,SlO.nil,h⟩⟩,?_⟩
 intro o x m A1 ⟨v,e1,e2,ho,h1⟩
 subst e1
 refine bsel_in (fun c=>?_) fun c=>?_
 ·have c:(v:Int)<s.len:=of_decide_eq_true c
  obtain ⟨y,hy⟩:∃ y,L[v]? = some y:=⟨L[v]'(by omega),by simp⟩
  have hst:mergedR (L.take (v+1))=mrgR (mergedR (L.take v)) y:=foldl_take _ _ _ hy
  have hml:(mergedR (L.take v)).length≤v:=Nat.le_trans (merged_le _) (by simp;omega)
  refine ⟨fun o' A'=>(o'.a=none→mergedR (L.take (v+1))=[])∧Own (SlO o' 6 (regC (mergedR (L.take (v+1))))::l) A',fun o' A2 ⟨f1,f2⟩=>⟨m-1,by omega,v+1,by rw [w64]<;>omega,by omega,f1,f2⟩,?_⟩
  obtain ⟨a,q1,q2⟩:=rd_reg (k:=k+1) h1 (by simpa using e) hr hy
  rw [q1]
  refine inB_in (by omega) c (q2 _ ?_)
  have hol:o.len=(mergedR (L.take v)).length:=by
   obtain ⟨B,_,hB⟩:=h1.sat
   have:=hB.1.1
   rw [regC_len] at this
   omega
  rw [hst]
  generalize mergedR (L.take v)=out at *
  refine bsel_in (fun g=>?_) fun g=>?_
  ·have g:(o.len:Int) > 0:=of_decide_eq_true g
   have e1:IntKind.wrap .i64 ((Int.ofNat o.len)-(1:Int))=((out.length-1:Nat):Int):=by
    show IntKind.wrap .i64 ((o.len:Int)-1)=_
    rw [w64]<;>omega
   rw [e1]
   obtain ⟨q,hq⟩:∃ q,out[out.length-1]? = some q:=⟨out[out.length-1]'(by omega),by simp⟩
   have hlast:out.getLast? = some q:=by rw [List.getLast?_eq_getElem?];exact hq
   have hdl:out=out.dropLast++[q]:=by
    have hne:out≠[]:=fun z=>by rw [z] at hlast;simp at hlast
    have:=List.dropLast_concat_getLast hne
    rw [List.getLast?_eq_some_getLast hne] at hlast
    rw [←Option.some.inj hlast]
    exact this.symm
   obtain ⟨a2,p1,p2⟩:=rd_reg (k:=0) h1 rfl reads_slo hq
   rw [p1]
   refine inB_in (by omega) (by omega) (p2 _ (joins_spec ?_))
   have hm:mrgR out y=if joinsB q y=true then out.dropLast++[{ q with b:=y.b }] else out++[y]:=by unfold mrgR;rw [hlast]
   refine bsel_in (fun j=>?_) fun j=>?_
   ·rw [hm,if_pos j]
    refine inB_in (by omega) (by omega) ?_
    -- the last one's end is moved
    obtain ⟨B,C,d1,d2,d3,d4,d5⟩:=h1
    have hne:¬ o.cap=0:=by have:=d4.1.2;omega
    have h1':Own ((fun B=>∃ b rest,o.a=some ⟨b,0,none⟩∧((o.len*6=(regC out).length∧o.len≤o.cap)∧(regC out++rest).length=o.cap*6)∧At b (regC out++rest) B)::l) A1:=by
     rcases d4.2 with g0 | ⟨b,rest,g1,g2,g3⟩
     ·exact absurd g0 hne
     ·exact ⟨B,C,d1,d2,d3,⟨b,rest,g1,⟨d4.1,g2⟩,g3⟩,d5⟩
    obtain ⟨b,h1'⟩:=Own.ex h1'
    obtain ⟨rest,h1'⟩:=Own.ex h1'
    obtain ⟨ha,h1'⟩:=Own.pure h1'
    obtain ⟨⟨hlen,hroom⟩,h1'⟩:=Own.pure h1'
    rw [ha] at p1
    cases p1
    simp only [add_at,Nat.zero_add,Int.toNat_natCast]
    have hrl:=regC_len out
    refine st_C (i:=0) h1' rfl (by rw [List.getElem?_append_left (by omega)];simp;omega) rfl fun A2 h2=>?_
    have h2:Own (At b ((regC out++rest).set ((out.length-1)*6+1) (.int .i64 y.b))::l) A2:=h2
    rw [List.set_append_left _ _ (by omega)] at h2
    have hcl:(regC out).set ((out.length-1)*6+1) (.int .i64 y.b)=regC (out.dropLast++[{ q with b:=y.b }]):=by
     have hd:out.length-1=out.dropLast.length:=by simp
     conv=>lhs;rw [hdl]
     rw [show (out.dropLast++[q]).length-1=out.dropLast.length by simp]
     exact regC_last (r:=y) y.b
    rw [hcl] at h2
    have hl2:(regC (out.dropLast++[{ q with b:=y.b }])).length=(regC out).length:=by
     rw [regC_len,regC_len]
     have:=congrArg List.length hdl
     simp at this ⊢;omega
    refine ⟨fun z=>(by rw [ha] at z;cases z),Own.imp (fun B hB=>⟨⟨by rw [hl2];exact hlen.1,hlen.2⟩,.inr ⟨b,rest,ha,by rw [List.length_append,hl2,← List.length_append];exact hroom,hB⟩⟩) h2⟩
   ·have j:¬ joinsB q y=true:=by rw [j];simp
    rw [hm,if_neg j]
    exact push_reg h1 ho (by omega) fun s' A2 j1 h2=>⟨fun z=>absurd z j1,h2⟩
  ·have g:¬ (o.len:Int) > 0:=of_decide_eq_false g
   have h0:out=[]:=List.length_eq_zero_iff.1 (by omega)
   subst h0
   exact push_reg h1 ho (by simp) fun s' A2 j1 h2=>⟨fun z=>absurd z j1,h2⟩
 ·have c:¬(v:Int)<s.len:=of_decide_eq_false c
  have hv:v=L.length:=by omega
  subst hv
  rw [List.take_length] at ho h1
  exact hk o A1 ho h1
end Go.Dn
/- Regions: are they good, where is a page, the first region. -/
namespace Go.Dn
variable {A:AH} {l R:List SP} {P:SP} {i k v:Nat} {s:Sl} {L:List Reg} {y:Reg}
def okP (o:Option Reg) (y:Reg):Bool:=!decide (y.a<0)&&(!decide (y.b≤y.a)&&(!decide (y.b > 34359738368)&&match o with
 | none=>true
 | some q=>!decide (q.b > y.a)&&!joinsB q y))
def okR6 (L:List Reg) (v:Nat):Bool:=match L[v]? with
 | none=>true
 | some y=>okP (if v=0 then none else L[v-1]?) y
theorem Own.nil6 {sz:Nat} (h:Own l A):Own (SlO Sl.nil sz []::l) A:=⟨fun _=>none,A,fun _=>.inl rfl,(fun _ _ e=>nomatch e),Sub.refl A,SlO.nil,h⟩
def goodB (L:List Reg):Bool:=decide (L.length≤64)&&(List.range L.length).all (okR6 L)
theorem good_no {v:Nat} (hv:v<L.length) (h:okR6 L v=false):goodB L=false:=by
 unfold goodB
 rw [Bool.and_eq_false_iff]
 right
 rw [List.all_eq_false]
 exact ⟨v,by simpa using hv,by rw [h];simp⟩
theorem Good_spec {Q:Bool→AH→Prop} (h:Own l A) (e:l[k]? = some P) (hr:Reads P s 6 (regC L)) (hk:Q (goodB L) A):qeh_A s Q A:=by
 have hl:=rd_reg_len h e hr
 unfold qeh_A qeh_G
 refine bsel_in (fun g=>?_) fun g=>?_
 ·have g:(s.len:Int) > 64:=of_decide_eq_true g
  have:goodB L=false:=by unfold goodB;rw [decide_eq_false (by omega)];rfl
  rwa [this] at hk
 have g:¬ (s.len:Int) > 64:=of_decide_eq_false g
 refine ⟨fun x m A'=>∃ v:Nat,x=v∧m+v=L.length∧A'=A∧∀ t,t<v→okR6 L t=true,⟨L.length,0,rfl,rfl,rfl,fun t ht=>by omega⟩,?_⟩
 intro x m A1 ⟨v,e1,e2,e3,e4⟩
 subst e1 e3
 refine bsel_in (fun c=>?_) fun c=>?_
 ·have c:(v:Int)<s.len:=of_decide_eq_true c
  obtain ⟨y,hy⟩:∃ y,L[v]? = some y:=⟨L[v]'(by omega),by simp⟩
  obtain ⟨a,q1,q2⟩:=rd_reg h e hr hy
  rw [q1]
  refine inB_in (by omega) c (q2 _ ?_)
  have no:okR6 L v=false→Q false A1:=fun z=>by rw [good_no (by omega) z] at hk;exact hk
  have next:okR6 L v=true→∃ m3,m3<m∧∃ v':Nat,IntKind.wrap .i64 ((v:Int)+1)=v'∧m3+v'=L.length∧A1=A1∧∀ t,t<v'→okR6 L t=true:=fun z=>
   ⟨m-1,by omega,v+1,by rw [w64]<;>omega,by omega,rfl,fun t ht=>by
    rcases Nat.lt_or_eq_of_le (Nat.le_of_lt_succ ht) with q | q
    ·exact e4 t q
    ·subst q;exact z⟩
  have hdef:okR6 L v=okP (if v=0 then none else L[v-1]?) y:=by unfold okR6;rw [hy]
  unfold okP at hdef
  refine bsel_in (fun g1=>no (by rw [hdef,g1];rfl)) fun g1=>bsel_in (fun g2=>no (by rw [hdef,g1,g2];rfl)) fun g2=>bsel_in (fun g3=>no (by rw [hdef,g1,g2,g3];rfl)) fun g3=>?_
  refine bsel_in (fun g4=>?_) fun g4=>?_
  ·have g4:(v:Int) > 0:=of_decide_eq_true g4
   obtain ⟨u,rfl⟩:∃ u,v=u+1:=⟨v-1,by omega⟩
   have ew:IntKind.wrap .i64 (((u+1:Nat):Int)-1)=(u:Int):=by rw [w64]<;>omega
   rw [ew]
   obtain ⟨q,hq⟩:∃ q,L[u]? = some q:=⟨L[u]'(by omega),by simp⟩
   obtain ⟨a2,p1,p2⟩:=rd_reg h e hr hq
   have ea:a2=a:=by rw [p1] at q1;exact Option.some.inj q1
   subst ea
   rw [if_neg (by omega),Nat.add_sub_cancel,hq] at hdef
   simp only at hdef
   refine inB_in (by omega) (by omega) ?_
   have hb1:aI .i64 (Addr.add (Addr.add a2 (Int.toNat (u:Int)*6)) 1) A1 fun n=>n=q.b:=by
    have:=p2 (fun _ n _ _ _ _=>n=q.b) rfl
    obtain ⟨_,_,n,h1,_,_,_,_,_,_,_,_,h2⟩:=this
    exact ⟨n,h1,h2⟩
   obtain ⟨n,hb1,hb2⟩:=hb1
   refine ⟨n,hb1,?_⟩
   rw [hb2]
   refine bsel_in (fun g5=>no (by rw [hdef,g1,g2,g3,g5];rfl)) fun g5=>?_
   refine inB_in (by omega) (by omega) (p2 _ (joins_spec ?_))
   refine bsel_in (fun g6=>no (by rw [hdef,g1,g2,g3,g5,g6];rfl)) fun g6=>next (by rw [hdef,g1,g2,g3,g5,g6];rfl)
  ·have g4:¬ (v:Int) > 0:=of_decide_eq_false g4
   have hv:v=0:=by omega
   subst hv
   exact next (by rw [hdef,if_pos rfl,g1,g2,g3];rfl)
 ·have c:¬(v:Int)<s.len:=of_decide_eq_false c
  have:goodB L=true:=by
   unfold goodB
   rw [decide_eq_true (by omega),Bool.true_and,List.all_eq_true]
   intro t ht
   exact e4 t (by have:t<L.length:=by simpa using ht
                  omega)
  rwa [this] at hk
def findR (L:List Reg) (p:Int):Option Reg:=L.find? fun r=>decide (r.a≤p)&&decide (p<r.b)
theorem Find_spec {p:Int} {Q:Int→Int→Bool→Bool→Bool→Int→Bool→AH→Prop} (h:Own l A) (e:l[k]? = some P) (hr:Reads P s 6 (regC L)) (hb:L.length≤100000)
  (h0:findR L p=none→Q 0 0 false false false 0 false A) (h1:∀ y,findR L p=some y→y ∈ L→y.a≤p→p<y.b→Q y.a y.b y.w y.u y.x y.k true A):qdh_A s p Q A:=by
 have hl:=rd_reg_len h e hr
 unfold qdh_A
 refine ⟨fun x c6 c7 c8 c9 c10 c11 m A'=>∃ v:Nat,x=v∧m+v=L.length∧A'=A∧findR L p=findR (L.drop v) p∧c6=0∧c7=0∧c8=false∧c9=false∧c10=false∧c11=0,⟨L.length,0,rfl,rfl,rfl,by simp,rfl,rfl,rfl,rfl,rfl,rfl⟩,?_⟩
 intro x c6 c7 c8 c9 c10 c11 m A1 ⟨v,e1,e2,e3,e4,z1,z2,z3,z4,z5,z6⟩
 subst e1 e3 z1 z2 z3 z4 z5 z6
 refine bsel_in (fun c=>?_) fun c=>?_
 ·have c:(v:Int)<s.len:=of_decide_eq_true c
  obtain ⟨y,hy⟩:∃ y,L[v]? = some y:=⟨L[v]'(by omega),by simp⟩
  obtain ⟨a,q1,q2⟩:=rd_reg h e hr hy
  rw [q1]
  refine inB_in (by omega) c (q2 _ ?_)
  have hd:L.drop v=y::L.drop (v+1):=by
   have hlt:=(List.getElem?_eq_some_iff.1 hy).1
   rw [List.drop_eq_getElem_cons hlt]
   rw [List.getElem?_eq_getElem hlt] at hy
   rw [Option.some.inj hy]
  have next:(decide (y.a≤p)&&decide (p<y.b))=false→∃ m3,m3<m∧∃ v':Nat,IntKind.wrap .i64 ((v:Int)+1)=v'∧m3+v'=L.length∧A1=A1∧findR L p=findR (L.drop v') p∧(0:Int)=0∧(0:Int)=0∧false=false∧false=false∧false=false∧(0:Int)=0:=fun z=>
   ⟨m-1,by omega,v+1,by rw [w64]<;>omega,by omega,rfl,by rw [e4,hd];unfold findR;rw [List.find?_cons,z],rfl,rfl,rfl,rfl,rfl,rfl⟩
  refine bsel_in (fun g=>bsel_in (fun g2=>?_) fun g2=>next (by rw [g,g2];rfl)) fun g=>next (by rw [g];rfl)
  refine h1 y ?_ (List.mem_of_getElem? hy) (of_decide_eq_true g) (of_decide_eq_true g2)
  rw [e4,hd]
  unfold findR
  rw [List.find?_cons,g,g2];rfl
 ·have c:¬(v:Int)<s.len:=of_decide_eq_false c
  refine h0 ?_
  rw [e4,List.drop_eq_nil_of_le (by omega)]
  rfl
theorem Add_nil {Q:Sl→Int→AH→Prop} (h:Own l A) (hb:rightB y.a y.b=true) (hk:∀ s A',s.a≠none→Own (SlO s 6 (regC [y])::l) A'→Q s 0 A'):qeq_A Sl.nil y.a y.b y.w y.u y.x y.k Q A:=by
 unfold qeq_A qeq_G
 refine right_spec ?_
 rw [hb]
 refine bsel_f rfl ?_
 have h0:=h.nil6 (sz:=6)
 refine Good_spec (k:=0) (L:=[]) h0 rfl reads_slo ?_
 refine bsel_f rfl ?_
 refine ⟨fun a x m A'=>a=0∧x=0∧A'=A,⟨0,rfl,rfl,rfl⟩,?_⟩
 intro a x m A1 ⟨e1,e2,e3⟩
 subst e1 e2 e3
 refine bsel_f rfl ?_
 have rest:∀ (b:Nat) (A2:AH),Own (At b y.cells::l) A2→qen_A Sl.nil 0 (Sl.mk (some (Addr.mk b 0 none)) 1 1) (fun s25 h26=>qeo_A s25 (fun s27 h28=>qep_A s27 (fun s29 n30 h31=>Q s29 n30 h31) h28) h26) A2:=fun b A2 h2=>by
  unfold qen_A qen_G
  refine inB_in (by omega) (by simp [Sl.nil]) (bsel_f rfl (bsel_t rfl ?_))
  have h3:=h2.nil6 (sz:=6)
  refine ap_reads (i:=0) (c1:=[]) h3 rfl (reads_at (n:=1) (sz:=6) (cs:=y.cells) (rest:=[]) rfl) (fun g=>nomatch g) (fun g=>rfl) rfl (fun v hv=>?_) ⟨by simp [Sl.nil],by simp [Sl.nil]⟩ fun s' A3 j1 j2 h4=>?_
  ·exact regC_one (L:=[y]) (by simpa [regC] using hv)
  have h4:Own (SlO s' 6 (regC [y])::At b (y.cells++[])::l) A3:=by
   have:regC [y]=[]++y.cells:=by simp [regC]
   rw [this];simpa using h4
  refine merged_spec (k:=0) h4 rfl reads_slo (by simp) fun s5 A4 hs5 h5=>?_
  have hm:mergedR [y]=[y]:=rfl
  rw [hm] at hs5 h5
  unfold qep_A
  have hl5:s5.len=1:=rd_reg_len (k:=0) h5 rfl reads_slo
  refine bsel_f (by simp [hl5]) (hk s5 A4 (fun g=>by have:=hs5 g;simp at this) (h5.cons fun C hC=>hC.tail.tail))
 refine ⟨?_,?_⟩
 ·unfold qei_A
  exact bsel_t rfl (new_C (cs:=y.cells) h fun b A2 h2=>rest b A2 h2)
 ·refine new_C (cs:=y.cells) h fun b A2 h2=>?_
  unfold qei_A
  exact bsel_t rfl (rest b A2 h2)
end Go.Dn
