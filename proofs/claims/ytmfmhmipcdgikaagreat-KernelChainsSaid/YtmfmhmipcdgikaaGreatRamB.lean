/- What the proof stands on. -/
import Derived.Test.YtmfmhmipcdgikaaGreatMaps
import Derived.Test.YtmfmhmipcdgikaaGreatRoot
import Derived.Test.YtmfmhmipcdgikaaGreatCut
import Derived.Test.YtmfmhmipcdgikaaGreatLnP
namespace Go.Dn
variable {A:AH} {R:List SP} {p:Nat} {ls:List Ln}
def wJ (tag:Int) (y:Ln):Ln:=if (y.tag==tag&&!y.g)=true then ln0 else y
theorem aEO {tag:Int} {Q:AH->Prop} (h:Own (TlbS p ls::R) A) (hk:∀ A',Own (TlbS p (ls.map (wJ tag))::R) A'->Q A'):qfs_A (some ⟨p,0,none⟩) tag Q A:=by
 obtain ⟨hl,h⟩:=TlbS.openH h;unfold qfs_A qfs_G qfr_A qfr_G;refine aX (cs:=[.int .i64 tag]) h λb A1 h1=>?_;have h1:=h1.swap;refine ⟨λx mm A'=>∃ i:Nat,x=i/\mm+i=8/\Own (At p (mJ (dZ (wJ tag) (i*2) ls))::At b [.int .i64 tag]::R) A',⟨8,0,rfl,rfl,by simpa [wF] using h1⟩,?_⟩;intro x mm A2 ⟨i,e1,e2,h2⟩;subst e1;refine aG (λc=>?_) λc=>?_
 ·have c:(i:Int)<8:=of_decide_eq_true c;refine ⟨λx m2 A'=>∃ j:Nat,x=j/\m2+j=2/\Own (At p (mJ (dZ (wJ tag) (i*2+j) ls))::At b [.int .i64 tag]::R) A',⟨2,0,rfl,rfl,h2⟩,?_⟩;intro x m2 A3 ⟨j,e3,e4,h3⟩;subst e3;refine aG (λc2=>?_) λc2=>?_
  ·have c2:(j:Int)<2:=of_decide_eq_true c2;obtain ⟨y,hy⟩:∃ y,ls[i*2+j]? = some y:=⟨ls[i*2+j]'(by omega),by simp⟩;refine ⟨λA'=>Own (At p (mJ (dZ (wJ tag) (i*2+(j+1)) ls))::At b [.int .i64 tag]::R) A',λA4 h4=>⟨m2-1,by omega,j+1,by rw [bG]<;>omega,by omega,h4⟩,?_⟩;simp only [aH,add_at,Nat.zero_add,Int.toNat_natCast];refine inB_in (by omega) c (inB_in (by omega) c2 ?_);refine aBI (i:=0) (k:=i*2+j) h3 rfl (lL hy) (by omega) ?_;unfold qfq_A;simp only [aH];refine ld_I (i:=1) h3 rfl rfl ?_
   have keep:(y.tag==tag&&!y.g)=false->Own (At p (mJ (dZ (wJ tag) (i*2+(j+1)) ls))::At b [.int .i64 tag]::R) A3:=λg=>by
    rw [<-Nat.add_assoc,wH hy (by unfold wJ;rw [g];rfl)];exact h3
   have go:(y.tag==tag&&!y.g)=true->_:=λg=>inB_in (by omega) c (inB_in (by omega) c2 (aBr (m:=ln0) (K:=λA'=>Own (At p (mJ (dZ (wJ tag) (i*2+(j+1)) ls))::At b [.int .i64 tag]::R) A') h3 (lL hy) (o:=i*18+j*9) (by omega) λA4 h4=>by
    have e:wJ tag y=ln0:=by unfold wJ;rw [if_pos g]
    rw [<-e,oA hy,Nat.add_assoc] at h4;exact h4))
   refine aG (λa1=>?_) λa1=>bsel_f rfl (keep (by rw [a1];rfl));cases hg:y.g with
   | false=>exact aN rfl (go (by rw [a1,hg];rfl))
   | true=>exact bsel_f rfl (keep (by rw [a1,hg];rfl))
  ·have c2:¬(j:Int)<2:=of_decide_eq_false c2;have hj:j=2:=by omega
   subst hj;exact ⟨mm-1,by omega,i+1,by rw [bG]<;>omega,by omega,by rw [show (i+1)*2=i*2+2 by omega];exact h3⟩
 ·have c:¬(i:Int)<8:=of_decide_eq_false c;have hi:i=8:=by omega
  subst hi;rw [yA _ (by omega)] at h2;exact hk A2 (TlbS.closeH (by simpa using hl) (h2.cons λC hC=>hC.tail))
variable {z:PcZ} {LF LF':Vw}
def delZ (m:List (Int × Int)) (k:Int):List (Int × Int):=match m with
 | []=>[]
 | q::m=>if q.1=k then m else q::delZ m k
theorem uU (k:Int):∀ m:List (Int × Int),delM (ivs m) k=ivs (delZ m k)
 | []=>rfl
 | (a,v)::m=>by
  unfold ivs delZ delM;simp only [List.map_cons];by_cases g:a=k
  ·rw [if_pos g,if_pos g]
  ·rw [if_neg g,if_neg g];have:=uU k m;unfold ivs at this;rw [List.map_cons,this]
theorem lZ {k:Int}:∀ {m:List (Int × Int)},k ∉ m.map (·.1)->m.lookup k=none
 | [],_=>rfl
 | (a,v)::m,h=>by
  simp only [List.map_cons,List.mem_cons,not_or] at h;rw [List.lookup_cons];have:(k==a)=false:=by simpa using h.1
  rw [this];exact lZ h.2
theorem vI {k:Int}:∀ {m:List (Int × Int)},(m.map (·.1)).Nodup->((delZ m k).map (·.1)).Nodup/\∀ x ∈ (delZ m k).map (·.1),x ∈ m.map (·.1)
 | [],_=>by simp [delZ]
 | (a,v)::m,h=>by
  rw [List.map_cons,List.nodup_cons] at h;obtain ⟨i1,i2⟩:=vI (k:=k) (m:=m) h.2;unfold delZ;by_cases g:a=k
  ·simp only [g,if_true];exact ⟨h.2,λx hx=>List.mem_cons_of_mem _ hx⟩
  ·simp only [g,if_false];refine ⟨?_,λx hx=>?_⟩
   ·rw [List.map_cons,List.nodup_cons];exact ⟨λq=>h.1 (i2 _ q),i1⟩
   ·rw [List.map_cons] at hx;rcases List.mem_cons.1 hx with e | e
    ·rw [e];simp
    ·exact List.mem_cons_of_mem _ (i2 x e)
def jU (z:PcZ) (id:Int):PcZ:=match z.tag.lookup id with
 | some t=>{ z with own:=delZ z.own t,tag:=delZ z.tag id }
 | none=>z
theorem eP (k k':Int):∀ {m:List (Int × Int)},(m.map (·.1)).Nodup->(delZ m k).lookup k'=if k'=k then none else m.lookup k'
 | [],_=>by simp [delZ]
 | (a,v)::m,h=>by
  rw [List.map_cons,List.nodup_cons] at h;have ih:=eP k k' (m:=m) h.2;unfold delZ;by_cases g:a=k
  ·subst g;simp only [if_true];rw [List.lookup_cons];by_cases e:k'=a
   ·subst e;rw [if_pos rfl];exact lZ h.1
   ·have:(k'==a)=false:=by simpa using e
    rw [if_neg e,this]
  ·simp only [g,if_false];rw [List.lookup_cons,List.lookup_cons,ih];cases e:(k'==a) with
   | false=>rfl
   | true=>
    have:k'=a:=by simpa using e
    subst this;simp [g]
theorem PcOK.drop (h:PcOK z) (id:Int):PcOK (jU z id):=by
 unfold jU;cases e:z.tag.lookup id with
 | none=>exact h
 | some t=>
  refine ⟨h.ok,λid' t' e'=>?_,λt' id' e'=>?_,(vI h.ndo).1,(vI h.ndt).1⟩
  ·simp only [eP _ _ h.ndt,eP _ _ h.ndo] at e' ⊢;by_cases g:id'=id
   ·rw [if_pos g] at e';cases e'
   ·rw [if_neg g] at e';obtain ⟨k1,k2⟩:=h.to id' t' e';rw [if_neg (λq=>g ?_)]
    ·exact ⟨k1,k2⟩
    ·have:=(h.to id t e).1;rw [q,this] at k1;exact (Option.some.inj k1).symm
  ·simp only [eP _ _ h.ndt,eP _ _ h.ndo] at e' ⊢;by_cases g:t'=t
   ·rw [if_pos g] at e';cases e'
   ·rw [if_neg g] at e';have k1:=h.back t' id' e';rw [if_neg (λq=>g ?_)]
    ·exact k1
    ·rw [q,e] at k1;exact (Option.some.inj k1).symm
def aIf (z:PcZ) (id:Int) (ls ls':List Ln):Prop:=∀ y ∈ ls',y.v=true->y ∈ ls/\(z.tag.lookup id=some y.tag->y.g=true)
theorem LnOK.gone {id:Int} {ls':List Ln} (hz:PcOK z) (hl:LnOK (vw z LF) ls) (h:aIf z id ls ls') (hLF:∀ i,i≠id->LF' i=LF i):LnOK (vw (jU z id) LF') ls':=λy hy hv=>by
 obtain ⟨k1,k2⟩:=h y hy hv;obtain ⟨h1,x,h2,h3⟩:=hl y k1 hv;refine ⟨h1,x,?_,h3⟩;unfold vw at h2 ⊢;cases e:z.own.lookup y.tag with
 | none=>rw [e] at h2;cases h2
 | some id'=>
  rw [e] at h2
  have hne:id'≠id:=λq=>by
   subst q;have:=k2 (hz.back _ _ e);rw [h1] at this;cases this
  have e2:(jU z id).own.lookup y.tag=some id':=by
   unfold jU;cases e3:z.tag.lookup id with
   | none=>exact e
   | some t=>
    simp only [eP _ _ hz.ndo];rw [if_neg (λq=>hne ?_)]
    ·exact e
    ·have:=(hz.to id t e3).1;rw [<-q,e] at this;exact Option.some.inj this
  rw [e2];show LF' id' y.page=some x;rw [hLF id' hne];exact h2
theorem aAJ {id:Int} {tg:Nat} {R:List SP} {Q:AH->Prop} (h:Own (PcS tg z::R) A) (hk:∀ A',Own (PcS tg (jU z id)::R) A'->Q A'):qft_A (some ⟨tg,0,none⟩) id Q A:=by
 obtain ⟨bo,bt,hh⟩:=PcS.openH h;unfold qft_A;simp only [aH,add_at,Nat.zero_add];refine dY (i:=0) hh rfl rfl (kD (i:=2) hh rfl ?_);rw [fP];cases e:z.tag.lookup id with
 | none=>
  have:jU z id=z:=by unfold jU;rw [e]
  rw [this] at hk;exact ⟨0,rfl,bsel_f rfl (hk A h)⟩
 | some t=>
  refine ⟨t,rfl,aN rfl (dY (i:=0) hh rfl rfl (aCI (i:=1) hh rfl λA1 h1=>dY (i:=0) h1 rfl rfl (aCI (i:=2) h1 rfl λA2 h2=>hk A2 (PcS.closeH (bo:=bo) (bt:=bt) ?_))))⟩;have h2:Own (At tg [.int .i64 z.most,.int .i64 z.next,.int .i64 z.gen,.map (some bo),.map (some bt)]::MapI bo .i64 (delM (ivs z.own) t)::MapI bt .i64 (delM (ivs z.tag) id)::R) A2:=h2
  rw [uU,uU] at h2;unfold jU;rw [e];exact h2
theorem aFj {id:Int} {tg:Nat} {Q:Int->Bool->AH->Prop} (h:Own (PcS tg z::R) A) (hk:Q ((z.tag.lookup id).getD 0) (z.tag.lookup id).isSome A):qfp_A (some ⟨tg,0,none⟩) id Q A:=by
 obtain ⟨bo,bt,hh⟩:=PcS.openH h;unfold qfp_A;refine dY (i:=0) hh rfl rfl (kD (i:=2) hh rfl ?_);rw [fP];cases hl:z.tag.lookup id with
 | none=>rw [hl] at hk;exact ⟨0,rfl,hk⟩
 | some n=>rw [hl] at hk;exact ⟨n,rfl,hk⟩
end Go.Dn
namespace Go.Dn
open Go.MapKept
variable {A:AH} {l R:List SP} {P:SP} {i k k2 v b lm pp:Nat} {s:Sl} {L:List Reg} {y:Reg} {p q box root:Int} {lent:List (Int × Int)}
def regBusy (L:List Reg) (p q:Int):Bool:=L.any λr=>r.k==1&&(decide (r.a<q)&&decide (p<r.b))
def gT (m:List (Int × Int)) (p q:Int):Bool:=m.any λx=>decide (x.1>=p)&&decide (x.1<q)
theorem wY {Q:Bool->AH->Prop} (h:Own l A) (e:l[k]? = some P) (hr:bI P s 6 (regC L)) (e2:l[k2]? = some (At b [.int .i64 p,.int .i64 q])) (hb:L.length<=1000) (hk:Q (regBusy L p q) A):qfj_A s (some ⟨b,0,none⟩) Q A:=by
 have hl:=dN h e hr;unfold qfj_A qfj_G qfi_A qfi_G;refine ⟨λx m A'=>∃ v:Nat,x=v/\m+v=L.length/\A'=A/\regBusy L p q=regBusy (L.drop v) p q,⟨L.length,0,rfl,rfl,rfl,by simp⟩,?_⟩;intro x m A1 ⟨v,e3,e4,e5,e6⟩;subst e3 e5;refine aG (λc=>?_) λc=>?_
 ·have c:(v:Int)<s.len:=of_decide_eq_true c;obtain ⟨y,hy⟩:∃ y,L[v]? = some y:=⟨L[v]'(by omega),by simp⟩;obtain ⟨a,q1,q2⟩:=nX h e hr hy;rw [q1]
  have hd:L.drop v=y::L.drop (v+1):=by
   have hlt:=(List.getElem?_eq_some_iff.1 hy).1;rw [List.drop_eq_getElem_cons hlt];rw [List.getElem?_eq_getElem hlt] at hy;rw [Option.some.inj hy]
  have hst:regBusy L p q=((y.k==1&&(decide (y.a<q)&&decide (p<y.b))) || regBusy (L.drop (v+1)) p q):=by rw [e6,hd];rfl
  refine inB_in (by omega) c (q2 _ ?_);unfold qfh_A
  have next:(y.k==1&&(decide (y.a<q)&&decide (p<y.b)))=false->∃ m3,m3<m/\∃ v':Nat,IntKind.wrap .i64 ((v:Int)+1)=v'/\m3+v'=L.length/\A1=A1/\regBusy L p q=regBusy (L.drop v') p q:=λz=>
   ⟨m-1,by omega,v+1,by rw [bG]<;>omega,by omega,rfl,by rw [hst,z];rfl⟩
  have yes:(y.k==1&&(decide (y.a<q)&&decide (p<y.b)))=true->Q (decide ((v:Int)>=0)) A1:=λz=>by
   rw [hst,z] at hk;rw [decide_eq_true (by omega)];exact hk
  refine aG (λg=>ld_I h e2 rfl (aG (λg2=>ld_I h e2 rfl (aG (λg3=>yes (by rw [g,g2,g3];rfl)) λg3=>next (by rw [g,g2,g3];rfl))) λg2=>bsel_f rfl (next (by rw [g,g2];rfl)))) λg=>bsel_f rfl (next (by rw [g];rfl))
 ·have c:¬(v:Int)<s.len:=of_decide_eq_false c;have:regBusy L p q=false:=by rw [e6,List.drop_eq_nil_of_le (by omega)];rfl
  rw [this] at hk;exact hk
theorem gO {α β:Type} {f:α->β}:∀ {l:List α},(l.map f).Nodup->∀ {a b:α},a ∈ l->b ∈ l->f a=f b->a=b
 | [],_,_,_,h,_,_=>by cases h
 | x::l,h,a,b,ha,hb,e=>by
  rw [List.map_cons,List.nodup_cons] at h;cases ha with
  | head=>
   cases hb with
   | head=>rfl
   | tail _ hb'=>exact (h.1 (List.mem_map.2 ⟨b,hb',e.symm⟩)).elim
  | tail _ ha'=>
   cases hb with
   | head=>exact (h.1 (List.mem_map.2 ⟨a,ha',e⟩)).elim
   | tail _ hb'=>exact gO h.2 ha' hb' e
theorem y5 {α:Type} {p q:α->Bool}:∀ {l:List α},(∀ x ∈ l,q x=true->p x=true)->(∃ x ∈ l,p x=true/\q x=false)->(l.filter q).length<(l.filter p).length
 | [],_,h=>by obtain ⟨x,hx,_⟩:=h;cases hx
 | x::l,h1,h2=>by
  have le:∀ l:List α,(∀ x ∈ l,q x=true->p x=true)->(l.filter q).length<=(l.filter p).length:=λl=>by
   induction l with
   | nil=>intro _;simp
   | cons z l ih=>
    intro hz;have:=ih λx hx=>hz x (by simp [hx]);cases hq:q z with
    | true=>rw [List.filter_cons_of_pos hq,List.filter_cons_of_pos (hz z (by simp) hq)];simpa using this
    | false=>
     rw [List.filter_cons_of_neg (by simp [hq])];cases hp:p z with
     | true=>rw [List.filter_cons_of_pos hp,List.length_cons];omega
     | false=>rw [List.filter_cons_of_neg (by simp [hp])];exact this
  obtain ⟨z,hz,hz1,hz2⟩:=h2;rcases List.mem_cons.1 hz with rfl | hz
  ·have:=le l λx hx=>h1 x (by simp [hx]);rw [List.filter_cons_of_neg (by simp [hz2]),List.filter_cons_of_pos hz1,List.length_cons];omega
  ·have ih:=y5 (λx hx=>h1 x (by simp [hx])) ⟨z,hz,hz1,hz2⟩;cases hq:q x with
   | true=>rw [List.filter_cons_of_pos hq,List.filter_cons_of_pos (h1 x (by simp) hq)];simpa using ih
   | false=>
    rw [List.filter_cons_of_neg (by simp [hq])];cases hp:p x with
    | true=>rw [List.filter_cons_of_pos hp,List.length_cons];omega
    | false=>rw [List.filter_cons_of_neg (by simp [hp])];exact ih
def ExM (lm:Nat) (es:Array MapEntry) (c:Nat) (m:List (Int × Value)):SP:=λB=>B lm=some (.map es c)/\aFO .i64 es m/\Stamped es c
def ItM (it lm:Nat) (c:Nat) (seen:Array Nat):SP:=λB=>B it=some (.mapIter (some lm) c seen c)
theorem aEl {Q:Bool->AH->Prop} (h:Own (pO pp lm box root s L lent++R) A) (hb:L.length<=1000)
  (hk:∀ A',Own (pO pp lm box root s L lent++R) A'->Q (gT lent p q || regBusy L p q) A'):qfk_A (some ⟨pp,0,none⟩) p q Q A:=by
 have h0:Own (MapI lm .i64 (ivs lent)::At pp [.int .i64 box,.int .i64 root,.slice s.a s.len s.cap,.map (some lm)]::SlO s 6 (regC L)::R) A:=h.pick 2 rfl;obtain ⟨es,h0⟩:=Own.ex h0;obtain ⟨c,h0⟩:=Own.ex h0;have h0:Own (ExM lm es c (ivs lent)::At pp [.int .i64 box,.int .i64 root,.slice s.a s.len s.cap,.map (some lm)]::SlO s 6 (regC L)::R) A:=h0
 have bk:∀ A',Own (ExM lm es c (ivs lent)::At pp [.int .i64 box,.int .i64 root,.slice s.a s.len s.cap,.map (some lm)]::SlO s 6 (regC L)::R) A'->Own (pO pp lm box root s L lent++R) A':=λA' h'=>by
  have h':Own (MapI lm .i64 (ivs lent)::At pp [.int .i64 box,.int .i64 root,.slice s.a s.len s.cap,.map (some lm)]::SlO s 6 (regC L)::R) A':=h'.imp λB hB=>⟨es,c,hB⟩;exact h'.swap.cons λC hC=>hC.swap
 obtain ⟨B0,u0,hm0,hes,hst⟩:=h0.sat;unfold qfk_A qfk_G;refine aX (cs:=[.int .i64 p,.int .i64 q]) h0 λb A1 h1=>?_;refine dY (i:=2) h1 rfl rfl ?_;obtain ⟨B1,u1,hm1,_⟩:=h1.tail.sat;refine ⟨es,c,u1 _ _ hm1,λit hit=>?_⟩;have h2:Own (ItM it lm c #[]::At b [.int .i64 p,.int .i64 q]::ExM lm es c (ivs lent)::At pp [.int .i64 box,.int .i64 root,.slice s.a s.len s.cap,.map (some lm)]::SlO s 6 (regC L)::R) _:=h1.new (o:=.mapIter (some lm) c #[] c) hit λB hB=>hB
 have hkey:∀ x ∈ es.toList,∃ n w,x.key = .int .i64 n/\(n,w) ∈ lent:=λx hx=>by
  have:(x.key,x.val) ∈ (ivs lent).map λt=>((.int .i64 t.1:Value),t.2):=by rw [<-show es.toList.map (λe=>(e.key,e.val))=_ from hes];exact List.mem_map.2 ⟨x,hx,rfl⟩
  obtain ⟨t,ht,he⟩:=List.mem_map.1 this;obtain ⟨z,hz,rfl⟩:=List.mem_map.1 ht;simp only [Prod.mk.injEq] at he;exact ⟨z.1,z.2,he.1.symm,hz⟩
 have hback:∀ z ∈ lent,∃ x ∈ es.toList,x.key = .int .i64 z.1:=λz hz=>by
  have:((.int .i64 z.1:Value),(.int .i64 z.2:Value)) ∈ es.toList.map λe=>(e.key,e.val):=by
   rw [show es.toList.map (λe=>(e.key,e.val))=_ from hes];exact List.mem_map.2 ⟨(z.1,.int .i64 z.2),List.mem_map.2 ⟨z,hz,rfl⟩,rfl⟩
  obtain ⟨x,hx,he⟩:=List.mem_map.1 this;simp only [Prod.mk.injEq] at he;exact ⟨x,hx,he.1⟩
 refine ⟨λmm A'=>∃ seen:Array Nat,(∀ x ∈ es.toList,seen.contains x.born=true->∀ n,x.key = .int .i64 n->(decide (n>=p)&&decide (n<q))=false)/\mm=(es.toList.filter λx=>!seen.contains x.born).length/\
   Own (ItM it lm c seen::At b [.int .i64 p,.int .i64 q]::ExM lm es c (ivs lent)::At pp [.int .i64 box,.int .i64 root,.slice s.a s.len s.cap,.map (some lm)]::SlO s 6 (regC L)::R) A',⟨_,#[],λx _ hx=>by simp at hx,rfl,h2⟩,?_⟩
 intro mm A2 ⟨seen,hseen,hmm,h3⟩;obtain ⟨B2,u2,hB2⟩:=h3.sat;obtain ⟨B3,u3,hB3,_⟩:=h3.tail.tail.sat;have hA2:A2 it=some (.mapIter (some lm) c seen c):=u2 _ _ hB2;have hA3:A2 lm=some (.map es c):=u3 _ _ hB3
 have hnot:(!seen.isEmpty&&!es.isEmpty&&es.all (λx=>decide (x.born>=c)))=false:=by
  cases he:es.isEmpty with
  | true=>simp
  | false=>
   have:es.all (λx=>decide (x.born>=c))=false:=by
    rw [Array.all_eq_false]
    have hpos:0<es.size:=by
     rcases Nat.eq_zero_or_pos es.size with z | z
     ·exact absurd (Array.eq_empty_of_size_eq_zero z) (Array.isEmpty_eq_false_iff.1 he)
     ·exact z
    refine ⟨0,hpos,?_⟩;have:=hst.1 es[0] (by simp);simpa using this
   rw [this];simp
 refine ⟨some lm,c,seen,c,rfl,hA2,es,c,hA3,hnot,λhemp=>?_,λx hx hns=>?_⟩
 ·have hall:∀ x ∈ es.toList,seen.contains x.born=true:=λx hx=>by
   cases hc:seen.contains x.born with
   | true=>rfl
   | false=>
    have h5:x ∈ (es.filter λe=>!seen.contains e.born).filter λe=>decide (e.born<c):=by
     rw [Array.mem_filter,Array.mem_filter];exact ⟨⟨by simpa using hx,by rw [hc];rfl⟩,by simpa using hst.1 x hx⟩
    rw [Array.isEmpty_iff] at hemp;rw [hemp] at h5;simp at h5
  have hlb:gT lent p q=false:=by
   unfold gT;rw [List.any_eq_false];intro z hz;obtain ⟨x,hx,hxk⟩:=hback z hz;rw [hseen x hx (hall x hx) z.1 hxk];simp
  refine ld_S (i:=3) h3 rfl rfl ?_;refine wY (k:=4) (k2:=1) h3 rfl aU rfl hb ?_;have:=hk A2 (bk A2 h3.tail.tail);rw [hlb,Bool.false_or] at this;exact this
 ·have hx':x ∈ es.toList:=by simpa using hx
  obtain ⟨n,w,hxk,hxm⟩:=hkey x hx';refine ⟨n,hxk,?_⟩
  have h4:Own (ItM it lm c (seen.push x.born)::At b [.int .i64 p,.int .i64 q]::ExM lm es c (ivs lent)::At pp [.int .i64 box,.int .i64 root,.slice s.a s.len s.cap,.map (some lm)]::SlO s 6 (regC L)::R) (updA A2 it (.mapIter (some lm) c (seen.push x.born) c)):=
   h3.upd0 (λB hB=>hB) λB _=>cW
  obtain ⟨B4,u4,hB4,_⟩:=h4.tail.tail.sat
  have hfind:es.find? (λe=>e.born==x.born)=some x:=by
   cases hf:es.find? (λe=>e.born==x.born) with
   | none=>
    rw [Array.find?_eq_none] at hf;exact absurd (hf x hx) (by simp)
   | some z=>
    have h6:=Array.find?_some hf;have h7:=Array.mem_of_find?_eq_some hf;have:z=x:=gO hst.2.1 (by simpa using h7) hx' (by simpa using h6);rw [this]
  refine ⟨lm,c,seen.push x.born,c,x.born,es,c,x,n,rfl,cW,by simp,u4 _ _ hB4,rfl,hfind,hxk,?_⟩;refine ld_I (i:=1) h4 rfl rfl ?_
  have next:(decide (n>=p)&&decide (n<q))=false->∃ m9,m9<mm/\∃ seen':Array Nat,(∀ x ∈ es.toList,seen'.contains x.born=true->∀ n,x.key = .int .i64 n->(decide (n>=p)&&decide (n<q))=false)/\m9=(es.toList.filter λx=>!seen'.contains x.born).length/\
    Own (ItM it lm c seen'::At b [.int .i64 p,.int .i64 q]::ExM lm es c (ivs lent)::At pp [.int .i64 box,.int .i64 root,.slice s.a s.len s.cap,.map (some lm)]::SlO s 6 (regC L)::R) (updA A2 it (.mapIter (some lm) c (seen.push x.born) c)):=λz=>by
   refine ⟨_,?_,seen.push x.born,λy hy hyc n' hn'=>?_,rfl,h4⟩
   ·rw [hmm];refine y5 (λy _ hy=>?_) ⟨x,hx',by rw [hns];rfl,by simp⟩;simp only [Array.contains_push,Bool.not_or,Bool.and_eq_true] at hy;exact hy.1
   ·rw [Array.contains_push,Bool.or_eq_true] at hyc;rcases hyc with hyc | hyc
    ·exact hseen y hy hyc n' hn'
    ·have:y=x:=gO hst.2.1 hy hx' (by simpa using hyc);subst this;rw [hxk] at hn';cases hn';exact z
  refine aG (λg=>ld_I (i:=1) h4 rfl rfl (aG (λg2=>?_) λg2=>next (by rw [g,g2];rfl))) λg=>next (by rw [g];rfl)
  have hlb:gT lent p q=true:=by
   unfold gT;rw [List.any_eq_true];exact ⟨(n,w),hxm,by simp only;rw [g,g2];rfl⟩
  have:=hk _ (bk _ h4.tail.tail);rw [hlb,Bool.true_or] at this;exact this
end Go.Dn
namespace Go.Dn
variable {W W':Int->Int->Int} {root:Int} {tab:Tab} {lf:Int->Option Lf}
theorem qL {b0 b1 b2 a d b5 b6 b7:Bool} {f:Int} (hf:0<=f/\f<1048576):or5 (packZ b0 b1 b2 a d b5 b6 b7 f)=packZ b0 b1 b2 true d b5 b6 b7 f:=by
 have hb:=(eN b0 b1 b2 a d b5 b6 b7 hf).2.2.2.1;unfold or5;rw [hb];cases a with
 | true=>rfl
 | false=>unfold packZ eZ;simp;omega
theorem vY {b0 b1 b2 a d b5 b6 b7:Bool} {f:Int} (hf:0<=f/\f<1048576):or6 (packZ b0 b1 b2 a d b5 b6 b7 f)=packZ b0 b1 b2 a true b5 b6 b7 f:=by
 have hb:=(eN b0 b1 b2 a d b5 b6 b7 hf).2.2.2.2.1;unfold or6;rw [hb];cases d with
 | true=>rfl
 | false=>unfold packZ eZ;simp;omega
theorem EntIs.mark {w:Int} {g:Int} (h:EntIs w (some g)) (hg:0<=g/\g<1048576):EntIs (or5 w) (some g)/\EntIs (or6 (or5 w)) (some g):=by
 obtain ⟨a,d,rfl⟩:=h;rw [qL hg,vY hg];exact ⟨⟨true,d,rfl⟩,⟨true,true,rfl⟩⟩
theorem LeafIs.mark {w:Int} {l:Lf} (h:LeafIs w (some l)) (hg:0<=l.frame/\l.frame<1048576):LeafIs (or5 w) (some l)/\LeafIs (or6 (or5 w)) (some l):=by
 obtain ⟨a,d,rfl⟩:=h;rw [qL hg,vY hg];exact ⟨⟨true,d,rfl⟩,⟨true,true,rfl⟩⟩
def yB (W W':Int->Int->Int):Prop:=∀ f j,0<=j->j<512->W' f j=W f j\/(W f j≠0/\(W' f j=or5 (W f j)\/W' f j=or6 (or5 (W f j))))
theorem TabW.mark (h:TabW W root tab lf) (hm:yB W W'):TabW W' root tab lf:=by
 refine ⟨h.root,h.deep,λk q f hk hf j h0 h1 h2=>?_,λq f hf j h0 h1=>?_,h.up,h.upL,h.apart,h.range,h.rangeL⟩
 ·have hw:=h.words k q f hk hf j h0 h1 h2;cases e:tab (k+1) (q*512+j) with
  | none=>
   rw [e] at hw;have hw:W f j=0:=hw;rcases hm f j h0 h1 with e1 | ⟨e1,_⟩
   ·show W' f j=0;rw [e1];exact hw
   ·exact absurd hw e1
  | some g=>
   rw [e] at hw;have:=hw.mark (h.range _ _ _ e);rcases hm f j h0 h1 with e1 | ⟨_,e1 | e1⟩<;>rw [e1]
   ·exact hw
   ·exact this.1
   ·exact this.2
 ·have hw:=h.leaves q f hf j h0 h1;cases e:lf (q*512+j) with
  | none=>
   rw [e] at hw;have hw:W f j=0:=hw;rcases hm f j h0 h1 with e1 | ⟨e1,_⟩
   ·show W' f j=0;rw [e1];exact hw
   ·exact absurd hw e1
  | some g=>
   rw [e] at hw;have:=hw.mark (h.rangeL _ _ e);rcases hm f j h0 h1 with e1 | ⟨_,e1 | e1⟩<;>rw [e1]
   ·exact hw
   ·exact this.1
   ·exact this.2
theorem sN {wr:Bool}:∀ (ps:List Int) (M:Int->Int),(∀ a,0<=M a/\M a<256)->ps.Nodup->(∀ p ∈ ps,∃ t i,p=t*4096+8*i/\0<=i/\i<512/\bR M t i≠0)->
  (∀ a,0<=eD M wr ps a/\eD M wr ps a<256)/\yB (bR M) (bR (eD M wr ps))/\∀ t i,0<=i->i<512->t*4096+8*i ∉ ps->bR (eD M wr ps) t i=bR M t i
 | [],M,hM,_,_=>⟨hM,λf j _ _=>.inl rfl,λ_ _ _ _ _=>rfl⟩
 | p::ps,M,hM,hnd,hp=>by
  obtain ⟨t0,i0,rfl,h0,h1,h2⟩:=hp p (by simp);rw [List.nodup_cons] at hnd
  have hu:qZ (bR M t0 i0):=by
   have:=lG hM 8 (t0*4096+8*i0);unfold qZ bR;omega
  have hx:∃ x,eD M wr ((t0*4096+8*i0)::ps)=eD (jK M (t0*4096+8*i0) 8 x) wr ps/\(x=or5 (bR M t0 i0)\/x=or6 (or5 (bR M t0 i0))):=by
   rw [eD];cases (wr&&ps.isEmpty) with
   | true=>exact ⟨_,rfl,.inr rfl⟩
   | false=>exact ⟨_,rfl,.inl rfl⟩
  obtain ⟨x,e,hx⟩:=hx
  have hxu:qZ x:=by
   rcases hx with rfl | rfl
   ·exact zK hu
   ·exact aHI (zK hu)
  rw [e];have hw:∀ t i,0<=i->i<512->bR (jK M (t0*4096+8*i0) 8 x) t i=if t=t0/\i=i0 then x else bR M t i:=λt i a b=>aDr ⟨h0,h1⟩ ⟨a,b⟩ hxu
  obtain ⟨k0,k1,k2⟩:=sN ps (jK M (t0*4096+8*i0) 8 x) (aHl hM) hnd.2 (λp hp'=>by
   obtain ⟨t,i,e1,e2,e3,e4⟩:=hp p (by simp [hp']);refine ⟨t,i,e1,e2,e3,?_⟩;rw [hw t i e2 e3,if_neg (λz=>hnd.1 (by rw [<-z.1,<- z.2,<- e1];exact hp'))];exact e4)
  refine ⟨k0,λf j a b=>?_,λt i a b c=>?_⟩
  ·by_cases g:f=t0/\j=i0
   ·have:=k2 f j a b (by rw [g.1,g.2];exact hnd.1);rw [hw f j a b,if_pos g] at this;refine .inr ⟨by rw [g.1,g.2];exact h2,?_⟩;rw [this,g.1,g.2];exact hx
   ·have:=k1 f j a b;rw [hw f j a b,if_neg g] at this;exact this
  ·simp only [List.mem_cons,not_or] at c;rw [k2 t i a b c.2,hw t i a b,if_neg (λz=>c.1 (by rw [z.1,z.2]))]
end Go.Dn
namespace Go.Dn
variable {A:AH} {l:List SP} {r:Nat} {fr:Int} {hs:List (Int × Int)} {M:Int->Int}
abbrev WQ:=Int->Bool->Bool->Bool->Bool->Bool->Bool->Int->Int->Int->AH->Prop
def aLZ (l:List SP) (i r:Nat) (fr:Int) (hs:List (Int × Int)) (M:Int->Int) (a:Int) (aw:Bool) (Q:WQ):WOut->Prop
 | .err e=>∀ A',Own l A'->Q 0 false false false false false false 0 0 e A'
 | .fault c=>∀ A',Own l A'->Q 0 false false false false false false a c 9 A'
 | .ok f w u x g lg d ps=>∀ A',Own (l.set i (RamS r fr hs (eD M aw ps))) A'->Q f w u x g lg d 0 0 0 A'
theorem pM {b2 b4 b6:Nat} {f0 z4 z5 z6 y0 y1 y2:Int} {g1 g2 g3 g4 g5 g6:Bool} {Q:WQ} (h:Own (At b6 [.int .i64 z6]::At b4 [.int .u64 z4,.int .i64 z5]::At b2 [.int .i64 f0,.bool g1,.bool g2,.bool g3,.bool g4,.bool g5,.bool g6]::l) A)
  (hk:∀ A',Own l A'->Q 0 false false false false false false y0 y1 y2 A') :
  qea_pA (some (Addr.mk b2 0 none)) (some (Addr.mk b4 0 none)) (some (Addr.mk b6 0 none)) y0 y1 y2 (λh82=>
(aI .i64 (Addr.mk b2 0 none) h82 λn86=>
(aB (Addr.add (Addr.mk b2 0 none) 1) h82 λb87=>
(aB (Addr.add (Addr.mk b2 0 none) 2) h82 λb88=>
(aB (Addr.add (Addr.mk b2 0 none) 3) h82 λb89=>
(aB (Addr.add (Addr.mk b2 0 none) 4) h82 λb90=>
(aB (Addr.add (Addr.mk b2 0 none) 5) h82 λb91=>
(aB (Addr.add (Addr.mk b2 0 none) 6) h82 λb92=>
(aI .u64 (Addr.mk b4 0 none) h82 λn93=>
(aI .i64 (Addr.add (Addr.mk b4 0 none) 1) h82 λn94=>
(aI .i64 (Addr.mk b6 0 none) h82 λn95=>
(Q n86 b87 b88 b89 b90 b91 b92 n93 n94 n95 h82)))))))))))) A:=by
 unfold qea_pA;simp only [aF]
 repeat (first | ((first | refine aJ (i:=0) h rfl rfl rfl λ_ h=>?_ | refine aJ (i:=1) h rfl rfl rfl λ_ h=>?_ | refine aJ (i:=2) h rfl rfl rfl λ_ h=>?_);try simp only [List.set_cons_zero,List.set_cons_succ] at h) | (first | refine ld_I (i:=0) h rfl rfl ?_ | refine aY (i:=0) h rfl rfl ?_ | refine ld_I (i:=1) h rfl rfl ?_ | refine aY (i:=1) h rfl rfl ?_ | refine ld_I (i:=2) h rfl rfl ?_ | refine aY (i:=2) h rfl rfl ?_))
 exact hk _ h.tail.tail.tail
variable {a t:Int} {aw au af w u x:Bool} {lv:Nat} {ps:List Int}
theorem aEb (h:hasF fr hs t=false):walkL fr hs M a aw au af (lv+1) t w u x ps = .err 2:=by
 rw [walkL,if_pos h]
theorem u9 (h:hasF fr hs t=true) (h0:bitZ (le M (placeZ t a lv) 8) 0=false):walkL fr hs M a aw au af (lv+1) t w u x ps = .fault (cZ aw au af):=by
 rw [walkL,if_neg (by simp [h]),if_pos h0]
theorem aGM (h:hasF fr hs t=true) (h0:bitZ (le M (placeZ t a lv) 8) 0=true) (h9:lD (le M (placeZ t a lv) 8) ((lv:Int)+1)=true):walkL fr hs M a aw au af (lv+1) t w u x ps = .fault (9+cZ aw au af):=by
 rw [walkL,if_neg (by simp [h]),if_neg (by simp [h0]),if_pos h9]
theorem aAK (h:hasF fr hs t=true) (h0:bitZ (le M (placeZ t a lv) 8) 0=true) (h9:lD (le M (placeZ t a lv) 8) ((lv:Int)+1)=false) (hg:¬(lv=0\/(lv=1/\bitZ (le M (placeZ t a lv) 8) 7=true))) :
  walkL fr hs M a aw au af (lv+1) t w u x ps=walkL fr hs M a aw au af lv (cF (le M (placeZ t a lv) 8)) (w&&bitZ (le M (placeZ t a lv) 8) 1) (u&&bitZ (le M (placeZ t a lv) 8) 2) (x&&!bitZ (le M (placeZ t a lv) 8) 63) (ps++[placeZ t a lv]):=by
 rw [walkL,if_neg (by simp [h]),if_neg (by simp [h0]),if_neg (by simp [h9]),if_neg hg]
theorem yL (h:hasF fr hs t=true) (h0:bitZ (le M (placeZ t a lv) 8) 0=true) (h9:lD (le M (placeZ t a lv) 8) ((lv:Int)+1)=false) (hg:lv=0\/(lv=1/\bitZ (le M (placeZ t a lv) 8) 7=true)) :
  walkL fr hs M a aw au af (lv+1) t w u x ps=if iJ (w&&bitZ (le M (placeZ t a lv) 8) 1) (u&&bitZ (le M (placeZ t a lv) 8) 2) (x&&!bitZ (le M (placeZ t a lv) 8) 63) aw au af=true then
    .ok (if lv=1 then cF (le M (placeZ t a lv) 8)+aO a 12 else cF (le M (placeZ t a lv) 8)) (w&&bitZ (le M (placeZ t a lv) 8) 1) (u&&bitZ (le M (placeZ t a lv) 8) 2) (x&&!bitZ (le M (placeZ t a lv) 8) 63)
     (bitZ (le M (placeZ t a lv) 8) 8) (lv==1) (bitZ (le M (placeZ t a lv) 8) 6 || aw) (ps++[placeZ t a lv])
   else .fault (1+cZ aw au af):=by
 rw [walkL,if_neg (by simp [h]),if_neg (by simp [h0]),if_neg (by simp [h9]),if_pos hg]
theorem aCP (hf:0<=fr/\fr<=1048576) (h:hasF fr hs t=true):0<=t/\t<1048576:=by
 unfold hasF at h;simp at h;omega
theorem l4 {y:Int}:0<=cF y/\cF y<1048576:=by unfold cF;omega
theorem aEL {i:Nat} {root:Int} {Q:WQ} (h:Own l A) (e1:l[i]? = some (RamS r fr hs M)) (hl:hs.length<=64) (hf:0<=fr/\fr<=1048576) (ha:qZ a) (hk:aLZ l i r fr hs M a aw Q (aD8 fr hs M root a aw au af)) :
  qeb_A (some ⟨r,0,none⟩) root a aw au af Q A:=by
 unfold qeb_A qeb_G;refine aX h λb2 _ h=>?_;refine aX h λb4 _ h=>?_;refine aX h λb6 _ h=>?_;refine vF ?_;unfold aD8 at hk;refine aG (λc=>?_) λc=>?_
 ·repeat (first | ((first | refine aJ (i:=0) h rfl rfl rfl λ_ h=>?_ | refine aJ (i:=1) h rfl rfl rfl λ_ h=>?_ | refine aJ (i:=2) h rfl rfl rfl λ_ h=>?_);try simp only [List.set_cons_zero,List.set_cons_succ] at h) | (first | refine ld_I (i:=0) h rfl rfl ?_ | refine aY (i:=0) h rfl rfl ?_ | refine ld_I (i:=1) h rfl rfl ?_ | refine aY (i:=1) h rfl rfl ?_ | refine ld_I (i:=2) h rfl rfl ?_ | refine aY (i:=2) h rfl rfl ?_))
  rw [if_pos (by simpa using c)] at hk;exact hk _ h.tail.tail.tail
 rw [if_neg (by simpa using c)] at hk;refine pE (i:=i+3) h e1 hl ?_;refine aG (λc2=>?_) λc2=>?_
 ·repeat (first | ((first | refine aJ (i:=0) h rfl rfl rfl λ_ h=>?_ | refine aJ (i:=1) h rfl rfl rfl λ_ h=>?_ | refine aJ (i:=2) h rfl rfl rfl λ_ h=>?_);try simp only [List.set_cons_zero,List.set_cons_succ] at h) | (first | refine ld_I (i:=0) h rfl rfl ?_ | refine aY (i:=0) h rfl rfl ?_ | refine ld_I (i:=1) h rfl rfl ?_ | refine aY (i:=1) h rfl rfl ?_ | refine ld_I (i:=2) h rfl rfl ?_ | refine aY (i:=2) h rfl rfl ?_))
  rw [if_pos (by simpa using c2)] at hk;exact hk _ h.tail.tail.tail
 have c2:hasF fr hs root=true:=by simpa using c2
 rw [if_neg (by simp [c2])] at hk;refine aX h λb54 _ h=>?_;refine uG ha h λ_ h=>?_;refine aX h λb62 _ h=>?_
 (first | refine aJ (i:=0) h rfl rfl rfl λ_ h=>?_ | refine aJ (i:=1) h rfl rfl rfl λ_ h=>?_ | refine aJ (i:=2) h rfl rfl rfl λ_ h=>?_ | refine aJ (i:=3) h rfl rfl rfl λ_ h=>?_ | refine aJ (i:=4) h rfl rfl rfl λ_ h=>?_ | refine aJ (i:=5) h rfl rfl rfl λ_ h=>?_ | refine aJ (i:=6) h rfl rfl rfl λ_ h=>?_);try simp only [List.set_cons_zero,List.set_cons_succ] at h
 (first | refine aJ (i:=0) h rfl rfl rfl λ_ h=>?_ | refine aJ (i:=1) h rfl rfl rfl λ_ h=>?_ | refine aJ (i:=2) h rfl rfl rfl λ_ h=>?_ | refine aJ (i:=3) h rfl rfl rfl λ_ h=>?_ | refine aJ (i:=4) h rfl rfl rfl λ_ h=>?_ | refine aJ (i:=5) h rfl rfl rfl λ_ h=>?_ | refine aJ (i:=6) h rfl rfl rfl λ_ h=>?_);try simp only [List.set_cons_zero,List.set_cons_succ] at h
 (first | refine aJ (i:=0) h rfl rfl rfl λ_ h=>?_ | refine aJ (i:=1) h rfl rfl rfl λ_ h=>?_ | refine aJ (i:=2) h rfl rfl rfl λ_ h=>?_ | refine aJ (i:=3) h rfl rfl rfl λ_ h=>?_ | refine aJ (i:=4) h rfl rfl rfl λ_ h=>?_ | refine aJ (i:=5) h rfl rfl rfl λ_ h=>?_ | refine aJ (i:=6) h rfl rfl rfl λ_ h=>?_);try simp only [List.set_cons_zero,List.set_cons_succ] at h
 (first | refine aJ (i:=0) h rfl rfl rfl λ_ h=>?_ | refine aJ (i:=1) h rfl rfl rfl λ_ h=>?_ | refine aJ (i:=2) h rfl rfl rfl λ_ h=>?_ | refine aJ (i:=3) h rfl rfl rfl λ_ h=>?_ | refine aJ (i:=4) h rfl rfl rfl λ_ h=>?_ | refine aJ (i:=5) h rfl rfl rfl λ_ h=>?_ | refine aJ (i:=6) h rfl rfl rfl λ_ h=>?_);try simp only [List.set_cons_zero,List.set_cons_succ] at h
 generalize hW:walkL fr hs M a aw au af 4 root true true true []=W at hk;refine ⟨λs h'=>∃ f w u x g lg d ps,W = .ok f w u x g lg d ps/\Own (dK s 1 (k9 ps)::At b6 [.int .i64 0]::At b4 [.int .u64 0,.int .i64 0]::At b2 [.int .i64 f,.bool w,.bool u,.bool x,.bool g,.bool lg,.bool d]::l) h'/\jR fr hs ps/\ps.length<=4,?_,?_⟩
 ·intro s h' ⟨f,w,u,x,g,lg,d,ps,g1,h,g3,g4⟩;subst g1;refine aFh (i:=i+4) (k:=0) h e1 rfl (by omega) hl hf g3 g4 λ_ h=>?_;simp only [List.set_cons_succ] at h
  repeat (first | ((first | refine aJ (i:=0) h rfl rfl rfl λ_ h=>?_ | refine aJ (i:=1) h rfl rfl rfl λ_ h=>?_ | refine aJ (i:=2) h rfl rfl rfl λ_ h=>?_ | refine aJ (i:=3) h rfl rfl rfl λ_ h=>?_);try simp only [List.set_cons_zero,List.set_cons_succ] at h) | (first | refine ld_I (i:=0) h rfl rfl ?_ | refine aY (i:=0) h rfl rfl ?_ | refine ld_I (i:=1) h rfl rfl ?_ | refine aY (i:=1) h rfl rfl ?_ | refine ld_I (i:=2) h rfl rfl ?_ | refine aY (i:=2) h rfl rfl ?_ | refine ld_I (i:=3) h rfl rfl ?_ | refine aY (i:=3) h rfl rfl ?_))
  exact hk _ h.tail.tail.tail.tail
 refine ⟨λs t lev m h'=>∃ (k:Nat) (w u x:Bool) (ps:List Int),lev=k/\(1<=k/\k<=4)/\m=k/\(0<=t/\t<1048576)/\walkL fr hs M a aw au af k t w u x ps=W/\jR fr hs ps/\ps.length+k=4/\(s.a=none->k9 ps=[])/\s.len=ps.length/\
  Own (SlO s 1 (k9 ps)::At b62 [.int .i64 (aO a 39),.int .i64 (aO a 30),.int .i64 (aO a 21),.int .i64 (aO a 12)]::At b54 (iE r a aw au af w u x)::At b6 [.int .i64 0]::At b4 [.int .u64 0,.int .i64 0]::At b2 [.int .i64 0,.bool false,.bool false,.bool false,.bool false,.bool false,.bool false]::l) h',
  ⟨4,4,true,true,true,[],rfl,⟨by omega,by omega⟩,rfl,aCP hf c2,hW,(λp hp=>by simp at hp),rfl,λ_=>rfl,rfl,?_⟩,?_⟩
 ·exact ⟨λ_=>none,_,λ_=>.inl rfl,(λb o e=>nomatch e),lA.refl _,SlO.nil,h⟩
 intro s t lev m h' ⟨k,w,u,x,ps,g1,g2,g3,ht,g5,g6,g7,g8,g9,h⟩;subst g1 g3;refine aG (λc3=>?_) λc3=>?_
 ·have c3:1<=m:=by simp at c3;omega
  obtain ⟨lv,rfl⟩:∃ lv,m=lv+1:=⟨m-1,by omega⟩;have hix:IntKind.wrap .i64 (4-((lv+1:Nat):Int))=((3-lv:Nat):Int):=by rw [bG (by omega) (by omega)];omega
  rw [hix];refine inB_in (by omega) (by omega) ?_
  have hcell:([.int .i64 (aO a 39),.int .i64 (aO a 30),.int .i64 (aO a 21),.int .i64 (aO a 12)]:List Value)[0+Int.toNat ((3-lv:Nat):Int)*1]? = some (.int .i64 (aO a (12+9*lv))):=by
   obtain rfl | rfl | rfl | rfl:lv=0\/lv=1\/lv=2\/lv=3:=by omega
   all_goals rfl
  rw [add_at];refine ld_I (i:=1) h rfl hcell ?_;have hpb:=sJ (a:=a) (lv:=lv) ht;refine aCm (i:=i+6) (j:=2) (lv:=lv) h e1 rfl hl hf ht rfl (by omega) ?_ ?_ ?_ ?_
  ·intro q;rw [aEb q] at g5;subst g5;exact pM h.tail.tail.tail hk
  ·intro q q0;rw [u9 q q0] at g5;subst g5;exact pM h.tail.tail.tail hk
  ·intro q q0 q9;rw [aGM q q0 q9] at g5;subst g5;exact pM h.tail.tail.tail hk
  intro q q0 q9 A2 h;simp only [List.set_cons_zero,List.set_cons_succ] at h
  have hplOK:jR fr hs (ps++[placeZ t a lv]):=by
   intro p hp;rcases List.mem_append.1 hp with hp | hp
   ·exact g6 p hp
   ·simp at hp;subst hp;exact ⟨by unfold placeZ;rw [qN ⟨hpb.1,hpb.2.1⟩,q],hpb.2.2.1,by omega⟩
  have hUe:=qM (i:=i+6) h e1 (placeZ t a lv);refine aX h λb96 _ h=>?_;have h:=Own.imp (P':=dK ⟨some ⟨b96,0,none⟩,1,1⟩ 1 [.int .u64 (placeZ t a lv)]) (λB hB=>⟨rfl,Nat.le_refl _,λ_=>⟨b96,[],[],rfl,hB⟩⟩) h;have h:=h.swap;refine kF (i:=0) h rfl (λq=>by cases q) g8 rfl (λv hv=>by simp at hv;subst hv;rfl) ⟨by simp [g9];omega,by simp [g9];omega⟩ λs' A3 hs1 hs2 h=>?_;refine mB hUe h λ_ h=>?_;have hu:k9 ps++[.int .u64 (placeZ t a lv)]=k9 (ps++[placeZ t a lv]):=by simp [k9]
  have hgo:¬(lv=0\/(lv=1/\bitZ (le M (placeZ t a lv) 8) 7=true))->∀ h9:AH,Own (SlO s' 1 (k9 ps++[.int .u64 (placeZ t a lv)])::dK ⟨some ⟨b96,0,none⟩,1,1⟩ 1 [.int .u64 (placeZ t a lv)]::At b62 [.int .i64 (aO a 39),.int .i64 (aO a 30),.int .i64 (aO a 21),.int .i64 (aO a 12)]::At b54 (iE r a aw au af (w&&bitZ (le M (placeZ t a lv) 8) 1) (u&&bitZ (le M (placeZ t a lv) 8) 2) (x&&!bitZ (le M (placeZ t a lv) 8) 63))::At b6 [.int .i64 0]::At b4 [.int .u64 0,.int .i64 0]::At b2 [.int .i64 0,.bool false,.bool false,.bool false,.bool false,.bool false,.bool false]::l) h9->∃ (k:Nat) (w u x:Bool) (ps:List Int),IntKind.wrap .i64 (((lv+1:Nat):Int)-1)=k/\(1<=k/\k<=4)/\lv=k/\(0<=cF (le M (placeZ t a lv) 8)/\cF (le M (placeZ t a lv) 8)<1048576)/\walkL fr hs M a aw au af k (cF (le M (placeZ t a lv) 8)) w u x ps=W/\jR fr hs ps/\ps.length+k=4/\(s'.a=none->k9 ps=[])/\s'.len=ps.length/\
    Own (SlO s' 1 (k9 ps)::At b62 [.int .i64 (aO a 39),.int .i64 (aO a 30),.int .i64 (aO a 21),.int .i64 (aO a 12)]::At b54 (iE r a aw au af w u x)::At b6 [.int .i64 0]::At b4 [.int .u64 0,.int .i64 0]::At b2 [.int .i64 0,.bool false,.bool false,.bool false,.bool false,.bool false,.bool false]::l) h9:=by
   intro hg h9 h;rw [aAK q q0 q9 hg] at g5;refine ⟨lv,_,_,_,_,by rw [bG]<;>omega,⟨by omega,by omega⟩,rfl,l4,g5,hplOK,by simp;omega,by rw [<-hu];exact hs2,by simp [hs1,g9],?_⟩;rw [<-hu];exact h.cons λ_ hh=>hh.tail
  have hfinal:∀ (f:Int) (w u x g lg d:Bool) (h':AH),W = .ok f w u x g lg d (ps++[placeZ t a lv])->∀ z1 z2 z3,Own (SlO s' 1 (k9 ps++[.int .u64 (placeZ t a lv)])::z1::z2::z3::At b6 [.int .i64 0]::At b4 [.int .u64 0,.int .i64 0]::At b2 [.int .i64 f,.bool w,.bool u,.bool x,.bool g,.bool lg,.bool d]::l) h'->
    ∃ f w u x g lg d ps,W = .ok f w u x g lg d ps/\Own (dK s' 1 (k9 ps)::At b6 [.int .i64 0]::At b4 [.int .u64 0,.int .i64 0]::At b2 [.int .i64 f,.bool w,.bool u,.bool x,.bool g,.bool lg,.bool d]::l) h'/\jR fr hs ps/\ps.length<=4:=by
   intro f w u x g lg d h' hw z1 z2 z3 h;refine ⟨f,w,u,x,g,lg,d,_,hw,?_,hplOK,by simp;omega⟩;rw [<-hu];exact (h.imp λB hB=>hB.look).cons λ_ hh=>hh.tail.tail.tail
  refine ⟨λh'=>(lv=0\/(lv=1/\bitZ (le M (placeZ t a lv) 8) 7=true))/\Own (SlO s' 1 (k9 ps++[.int .u64 (placeZ t a lv)])::dK ⟨some ⟨b96,0,none⟩,1,1⟩ 1 [.int .u64 (placeZ t a lv)]::At b62 [.int .i64 (aO a 39),.int .i64 (aO a 30),.int .i64 (aO a 21),.int .i64 (aO a 12)]::At b54 (iE r a aw au af (w&&bitZ (le M (placeZ t a lv) 8) 1) (u&&bitZ (le M (placeZ t a lv) 8) 2) (x&&!bitZ (le M (placeZ t a lv) 8) 63))::At b6 [.int .i64 0]::At b4 [.int .u64 0,.int .i64 0]::At b2 [.int .i64 0,.bool false,.bool false,.bool false,.bool false,.bool false,.bool false]::l) h',?_,?_⟩
  ·intro h107 ⟨hend0,h⟩;have hend:=yL (fr:=fr) (hs:=hs) (M:=M) (a:=a) (aw:=aw) (au:=au) (af:=af) (w:=w) (u:=u) (x:=x) (ps:=ps) q q0 q9 hend0;rw [g5] at hend;rcases hend0 with rfl | ⟨rfl,c6⟩
   ·generalize he:le M (placeZ t a 0) 8=e at *;generalize hw':(w&&bitZ e 1)=w' at *;generalize hu':(u&&bitZ e 2)=u' at *;generalize hx':(x&&!bitZ e 63)=x' at *;refine ⟨λh'=>Own (SlO s' 1 (k9 ps++[.int .u64 (placeZ t a 0)])::dK ⟨some ⟨b96,0,none⟩,1,1⟩ 1 [.int .u64 (placeZ t a 0)]::At b62 [.int .i64 (aO a 39),.int .i64 (aO a 30),.int .i64 (aO a 21),.int .i64 (aO a 12)]::At b54 (iE r a aw au af w' u' x')::At b6 [.int .i64 0]::At b4 [.int .u64 0,.int .i64 0]::At b2 [.int .i64 0,.bool false,.bool false,.bool false,.bool false,.bool false,.bool false]::l) h'/\iJ w' u' x' aw au af=true,?_,?_⟩
    ·intro h134 ⟨h,hmay⟩;rw [hmay,if_pos rfl] at hend
     have hfr:IntKind.wrap .i64 (cF e+aO a 12)=cF e+aO a 12:=by
      have:=l4 (y:=e);have:0<=aO a 12/\aO a 12<512:=by unfold aO;omega
      exact bG (by omega) (by omega)
     repeat (first | ((first | refine aJ (i:=0) h rfl rfl rfl λ_ h=>?_ | refine aJ (i:=1) h rfl rfl rfl λ_ h=>?_ | refine aJ (i:=2) h rfl rfl rfl λ_ h=>?_ | refine aJ (i:=3) h rfl rfl rfl λ_ h=>?_ | refine aJ (i:=4) h rfl rfl rfl λ_ h=>?_ | refine aJ (i:=5) h rfl rfl rfl λ_ h=>?_ | refine aJ (i:=6) h rfl rfl rfl λ_ h=>?_);try simp only [List.set_cons_zero,List.set_cons_succ] at h) | (first | refine ld_I (i:=0) h rfl rfl ?_ | refine aY (i:=0) h rfl rfl ?_ | refine ld_I (i:=1) h rfl rfl ?_ | refine aY (i:=1) h rfl rfl ?_ | refine ld_I (i:=2) h rfl rfl ?_ | refine aY (i:=2) h rfl rfl ?_ | refine ld_I (i:=3) h rfl rfl ?_ | refine aY (i:=3) h rfl rfl ?_ | refine ld_I (i:=4) h rfl rfl ?_ | refine aY (i:=4) h rfl rfl ?_ | refine ld_I (i:=5) h rfl rfl ?_ | refine aY (i:=5) h rfl rfl ?_ | refine ld_I (i:=6) h rfl rfl ?_ | refine aY (i:=6) h rfl rfl ?_))
     refine aG (λcd=>?_) λcd=>?_
     ·repeat (first | ((first | refine aJ (i:=0) h rfl rfl rfl λ_ h=>?_ | refine aJ (i:=1) h rfl rfl rfl λ_ h=>?_ | refine aJ (i:=2) h rfl rfl rfl λ_ h=>?_ | refine aJ (i:=3) h rfl rfl rfl λ_ h=>?_ | refine aJ (i:=4) h rfl rfl rfl λ_ h=>?_ | refine aJ (i:=5) h rfl rfl rfl λ_ h=>?_ | refine aJ (i:=6) h rfl rfl rfl λ_ h=>?_);try simp only [List.set_cons_zero,List.set_cons_succ] at h) | (first | refine ld_I (i:=0) h rfl rfl ?_ | refine aY (i:=0) h rfl rfl ?_ | refine ld_I (i:=1) h rfl rfl ?_ | refine aY (i:=1) h rfl rfl ?_ | refine ld_I (i:=2) h rfl rfl ?_ | refine aY (i:=2) h rfl rfl ?_ | refine ld_I (i:=3) h rfl rfl ?_ | refine aY (i:=3) h rfl rfl ?_ | refine ld_I (i:=4) h rfl rfl ?_ | refine aY (i:=4) h rfl rfl ?_ | refine ld_I (i:=5) h rfl rfl ?_ | refine aY (i:=5) h rfl rfl ?_ | refine ld_I (i:=6) h rfl rfl ?_ | refine aY (i:=6) h rfl rfl ?_))
      try rw [hfr] at h
      exact hfinal _ _ _ _ _ _ _ _ (hend.trans (by rw [cd];rfl)) _ _ _ h
     ·repeat (first | ((first | refine aJ (i:=0) h rfl rfl rfl λ_ h=>?_ | refine aJ (i:=1) h rfl rfl rfl λ_ h=>?_ | refine aJ (i:=2) h rfl rfl rfl λ_ h=>?_ | refine aJ (i:=3) h rfl rfl rfl λ_ h=>?_ | refine aJ (i:=4) h rfl rfl rfl λ_ h=>?_ | refine aJ (i:=5) h rfl rfl rfl λ_ h=>?_ | refine aJ (i:=6) h rfl rfl rfl λ_ h=>?_);try simp only [List.set_cons_zero,List.set_cons_succ] at h) | (first | refine ld_I (i:=0) h rfl rfl ?_ | refine aY (i:=0) h rfl rfl ?_ | refine ld_I (i:=1) h rfl rfl ?_ | refine aY (i:=1) h rfl rfl ?_ | refine ld_I (i:=2) h rfl rfl ?_ | refine aY (i:=2) h rfl rfl ?_ | refine ld_I (i:=3) h rfl rfl ?_ | refine aY (i:=3) h rfl rfl ?_ | refine ld_I (i:=4) h rfl rfl ?_ | refine aY (i:=4) h rfl rfl ?_ | refine ld_I (i:=5) h rfl rfl ?_ | refine aY (i:=5) h rfl rfl ?_ | refine ld_I (i:=6) h rfl rfl ?_ | refine aY (i:=6) h rfl rfl ?_))
      try rw [hfr] at h
      exact hfinal _ _ _ _ _ _ _ _ (hend.trans (by rw [cd];rfl)) _ _ _ h
    ·repeat (first | ((first | refine aJ (i:=0) h rfl rfl rfl λ_ h=>?_ | refine aJ (i:=1) h rfl rfl rfl λ_ h=>?_ | refine aJ (i:=2) h rfl rfl rfl λ_ h=>?_ | refine aJ (i:=3) h rfl rfl rfl λ_ h=>?_ | refine aJ (i:=4) h rfl rfl rfl λ_ h=>?_ | refine aJ (i:=5) h rfl rfl rfl λ_ h=>?_ | refine aJ (i:=6) h rfl rfl rfl λ_ h=>?_);try simp only [List.set_cons_zero,List.set_cons_succ] at h) | (first | refine ld_I (i:=0) h rfl rfl ?_ | refine aY (i:=0) h rfl rfl ?_ | refine ld_I (i:=1) h rfl rfl ?_ | refine aY (i:=1) h rfl rfl ?_ | refine ld_I (i:=2) h rfl rfl ?_ | refine aY (i:=2) h rfl rfl ?_ | refine ld_I (i:=3) h rfl rfl ?_ | refine aY (i:=3) h rfl rfl ?_ | refine ld_I (i:=4) h rfl rfl ?_ | refine aY (i:=4) h rfl rfl ?_ | refine ld_I (i:=5) h rfl rfl ?_ | refine aY (i:=5) h rfl rfl ?_ | refine ld_I (i:=6) h rfl rfl ?_ | refine aY (i:=6) h rfl rfl ?_))
     refine May_spec ?_;refine aG (λc=>?_) λc=>⟨h,by simpa using c⟩;rw [if_neg (by simpa using c)] at hend;refine kH (j:=3) (.inr (.inl rfl)) h rfl ?_;subst hend;exact pM h.tail.tail.tail.tail hk
   ·generalize he:le M (placeZ t a 1) 8=e at *;generalize hw':(w&&bitZ e 1)=w' at *;generalize hu':(u&&bitZ e 2)=u' at *;generalize hx':(x&&!bitZ e 63)=x' at *;refine ⟨λh'=>Own (SlO s' 1 (k9 ps++[.int .u64 (placeZ t a 1)])::dK ⟨some ⟨b96,0,none⟩,1,1⟩ 1 [.int .u64 (placeZ t a 1)]::At b62 [.int .i64 (aO a 39),.int .i64 (aO a 30),.int .i64 (aO a 21),.int .i64 (aO a 12)]::At b54 (iE r a aw au af w' u' x')::At b6 [.int .i64 0]::At b4 [.int .u64 0,.int .i64 0]::At b2 [.int .i64 0,.bool false,.bool false,.bool false,.bool false,.bool false,.bool false]::l) h'/\iJ w' u' x' aw au af=true,?_,?_⟩
    ·intro h134 ⟨h,hmay⟩;rw [hmay,if_pos rfl] at hend
     have hfr:IntKind.wrap .i64 (cF e+aO a 12)=cF e+aO a 12:=by
      have:=l4 (y:=e);have:0<=aO a 12/\aO a 12<512:=by unfold aO;omega
      exact bG (by omega) (by omega)
     repeat (first | ((first | refine aJ (i:=0) h rfl rfl rfl λ_ h=>?_ | refine aJ (i:=1) h rfl rfl rfl λ_ h=>?_ | refine aJ (i:=2) h rfl rfl rfl λ_ h=>?_ | refine aJ (i:=3) h rfl rfl rfl λ_ h=>?_ | refine aJ (i:=4) h rfl rfl rfl λ_ h=>?_ | refine aJ (i:=5) h rfl rfl rfl λ_ h=>?_ | refine aJ (i:=6) h rfl rfl rfl λ_ h=>?_);try simp only [List.set_cons_zero,List.set_cons_succ] at h) | (first | refine ld_I (i:=0) h rfl rfl ?_ | refine aY (i:=0) h rfl rfl ?_ | refine ld_I (i:=1) h rfl rfl ?_ | refine aY (i:=1) h rfl rfl ?_ | refine ld_I (i:=2) h rfl rfl ?_ | refine aY (i:=2) h rfl rfl ?_ | refine ld_I (i:=3) h rfl rfl ?_ | refine aY (i:=3) h rfl rfl ?_ | refine ld_I (i:=4) h rfl rfl ?_ | refine aY (i:=4) h rfl rfl ?_ | refine ld_I (i:=5) h rfl rfl ?_ | refine aY (i:=5) h rfl rfl ?_ | refine ld_I (i:=6) h rfl rfl ?_ | refine aY (i:=6) h rfl rfl ?_))
     refine aG (λcd=>?_) λcd=>?_
     ·repeat (first | ((first | refine aJ (i:=0) h rfl rfl rfl λ_ h=>?_ | refine aJ (i:=1) h rfl rfl rfl λ_ h=>?_ | refine aJ (i:=2) h rfl rfl rfl λ_ h=>?_ | refine aJ (i:=3) h rfl rfl rfl λ_ h=>?_ | refine aJ (i:=4) h rfl rfl rfl λ_ h=>?_ | refine aJ (i:=5) h rfl rfl rfl λ_ h=>?_ | refine aJ (i:=6) h rfl rfl rfl λ_ h=>?_);try simp only [List.set_cons_zero,List.set_cons_succ] at h) | (first | refine ld_I (i:=0) h rfl rfl ?_ | refine aY (i:=0) h rfl rfl ?_ | refine ld_I (i:=1) h rfl rfl ?_ | refine aY (i:=1) h rfl rfl ?_ | refine ld_I (i:=2) h rfl rfl ?_ | refine aY (i:=2) h rfl rfl ?_ | refine ld_I (i:=3) h rfl rfl ?_ | refine aY (i:=3) h rfl rfl ?_ | refine ld_I (i:=4) h rfl rfl ?_ | refine aY (i:=4) h rfl rfl ?_ | refine ld_I (i:=5) h rfl rfl ?_ | refine aY (i:=5) h rfl rfl ?_ | refine ld_I (i:=6) h rfl rfl ?_ | refine aY (i:=6) h rfl rfl ?_))
      try rw [hfr] at h
      exact hfinal _ _ _ _ _ _ _ _ (hend.trans (by rw [cd];rfl)) _ _ _ h
     ·repeat (first | ((first | refine aJ (i:=0) h rfl rfl rfl λ_ h=>?_ | refine aJ (i:=1) h rfl rfl rfl λ_ h=>?_ | refine aJ (i:=2) h rfl rfl rfl λ_ h=>?_ | refine aJ (i:=3) h rfl rfl rfl λ_ h=>?_ | refine aJ (i:=4) h rfl rfl rfl λ_ h=>?_ | refine aJ (i:=5) h rfl rfl rfl λ_ h=>?_ | refine aJ (i:=6) h rfl rfl rfl λ_ h=>?_);try simp only [List.set_cons_zero,List.set_cons_succ] at h) | (first | refine ld_I (i:=0) h rfl rfl ?_ | refine aY (i:=0) h rfl rfl ?_ | refine ld_I (i:=1) h rfl rfl ?_ | refine aY (i:=1) h rfl rfl ?_ | refine ld_I (i:=2) h rfl rfl ?_ | refine aY (i:=2) h rfl rfl ?_ | refine ld_I (i:=3) h rfl rfl ?_ | refine aY (i:=3) h rfl rfl ?_ | refine ld_I (i:=4) h rfl rfl ?_ | refine aY (i:=4) h rfl rfl ?_ | refine ld_I (i:=5) h rfl rfl ?_ | refine aY (i:=5) h rfl rfl ?_ | refine ld_I (i:=6) h rfl rfl ?_ | refine aY (i:=6) h rfl rfl ?_))
      try rw [hfr] at h
      exact hfinal _ _ _ _ _ _ _ _ (hend.trans (by rw [cd];rfl)) _ _ _ h
    ·repeat (first | ((first | refine aJ (i:=0) h rfl rfl rfl λ_ h=>?_ | refine aJ (i:=1) h rfl rfl rfl λ_ h=>?_ | refine aJ (i:=2) h rfl rfl rfl λ_ h=>?_ | refine aJ (i:=3) h rfl rfl rfl λ_ h=>?_ | refine aJ (i:=4) h rfl rfl rfl λ_ h=>?_ | refine aJ (i:=5) h rfl rfl rfl λ_ h=>?_ | refine aJ (i:=6) h rfl rfl rfl λ_ h=>?_);try simp only [List.set_cons_zero,List.set_cons_succ] at h) | (first | refine ld_I (i:=0) h rfl rfl ?_ | refine aY (i:=0) h rfl rfl ?_ | refine ld_I (i:=1) h rfl rfl ?_ | refine aY (i:=1) h rfl rfl ?_ | refine ld_I (i:=2) h rfl rfl ?_ | refine aY (i:=2) h rfl rfl ?_ | refine ld_I (i:=3) h rfl rfl ?_ | refine aY (i:=3) h rfl rfl ?_ | refine ld_I (i:=4) h rfl rfl ?_ | refine aY (i:=4) h rfl rfl ?_ | refine ld_I (i:=5) h rfl rfl ?_ | refine aY (i:=5) h rfl rfl ?_ | refine ld_I (i:=6) h rfl rfl ?_ | refine aY (i:=6) h rfl rfl ?_))
     refine May_spec ?_;refine aG (λc=>?_) λc=>⟨h,by simpa using c⟩;rw [if_neg (by simpa using c)] at hend;refine kH (j:=3) (.inr (.inl rfl)) h rfl ?_;subst hend;exact pM h.tail.tail.tail.tail hk
  refine aG (λc4=>?_) λc4=>?_
  ·have hlv:lv≠0:=by simp at c4;omega
   refine aG (λc5=>?_) λc5=>?_
   ·have hlv1:lv=1:=by simp at c5;omega
    subst hlv1;refine aG (λc6=>?_) λc6=>?_
    ·refine ⟨1,by omega,?_⟩;exact hgo (by simp at c6;simp [c6]) _ h
    ·have c6:bitZ (le M (placeZ t a 1) 8) 7=true:=by simpa using c6
     exact ⟨.inr ⟨rfl,c6⟩,h⟩
   ·have hlv2:lv≠1:=by intro g;subst g;simp at c5
    exact ⟨lv,by omega,hgo (by omega) _ h⟩
  ·have hlv:lv=0:=by simp at c4;omega
   exact ⟨.inl hlv,h⟩
 ·simp at c3;omega
end Go.Dn
namespace Go.Dn
variable {l:List SP} {fr root:Int} {hs:List (Int × Int)} {W:Int->Int->Int} {M:Int->Int} {tab:Tab} {lf:Int->Option Lf} {a t p:Int} {aw au af w u x:Bool} {lv:Nat} {ps:List Int}
theorem vD {b0 b1 b2 b3 b4 b5 b6 b7:Bool} {f lev:Int} (hf:0<=f/\f<1048576) (h:b5=false\/lev=2/\f % 512=0):lD (packZ b0 b1 b2 b3 b4 b5 b6 b7 f) lev=false:=by
 have hb:=eN b0 b1 b2 b3 b4 b5 b6 b7 hf
 have e32:packZ b0 b1 b2 b3 b4 b5 b6 b7 f / 2 ^ 32 % 1048576=0:=by
  rw [show ((2:Int) ^ 32)=4294967296 by rfl];unfold packZ;have h0:=eI b0;have h1:=eI b1;have h2:=eI b2;have h3:=eI b3;have h4:=eI b4;have h5:=eI b5;have h6:=eI b6;have h7:=eI b7;omega
 have e12:f % 512=0->packZ b0 b1 b2 b3 b4 b5 b6 b7 f / 2 ^ 12 % 512=0:=λhz=>by
  rw [show ((2:Int) ^ 12)=4096 by rfl];unfold packZ;have h0:=eI b0;have h1:=eI b1;have h2:=eI b2;have h3:=eI b3;have h4:=eI b4;have h5:=eI b5;have h6:=eI b6;have h7:=eI b7;omega
 unfold lD;rw [e32,hb.2.2.2.2.2.1];rcases h with h | ⟨h,hz⟩
 ·subst h;simp
 ·subst h;rw [e12 hz];simp
def Wd8 (W:Int->Int->Int) (M:Int->Int):Prop:=∀ t i,0<=t->0<=i->i<512->W t i=le M (t*4096+8*i) 8
theorem uL (h:Wd8 W M) {t:Int} {lv:Nat} (ht:0<=t):le M (placeZ t a lv) 8=W t (aO a (12+9*lv)):=by
 unfold placeZ;have:0<=aO a (12+9*lv)/\aO a (12+9*lv)<512:=by unfold aO;omega
 rw [h t _ ht this.1 this.2]
theorem aHZ (ha:a / 4096=p):aO a (12+9*3)=atP p 0/\aO a (12+9*2)=atP p 1/\aO a (12+9*1)=atP p 2/\aO a (12+9*0)=atP p 3:=by
 subst ha;unfold aO;simp only [atP];omega
theorem aDw (ha:a / 4096=p) {lv:Nat} (hl:lv<4):aO a (12+9*lv)=atP p (3-lv):=by
 obtain ⟨h3,h2,h1,h0⟩:=aHZ ha;obtain rfl | rfl | rfl | rfl:lv=0\/lv=1\/lv=2\/lv=3:=by omega
 ·exact h0
 ·exact h1
 ·exact h2
 ·exact h3
def aLT (o:Option Lf) (d aw au af:Bool) (ps:List Int):WOut:=match o with
 | none=>.fault (cZ aw au af)
 | some l=>if iJ l.w l.u l.x aw au af=true then .ok l.frame l.w l.u l.x false false (d || aw) ps else .fault (1+cZ aw au af)
theorem aA7 (k:Nat):bitZ 0 k=false:=by unfold bitZ;simp
theorem oK (hW:Wd8 W M) (hT:TabW W root tab lf) (hhas:∀ k q f,tab k q=some f->hasF fr hs f=true) (hp:0<=p/\p<34359738368) (ha:a / 4096=p) {k lv:Nat} (hk:k+lv=3) (hl:1<=lv) {t:Int} (ht:tab k (preP p k)=some t) (ps:List Int) :
  (tab (k+1) (preP p (k+1))=none->walkL fr hs M a aw au af (lv+1) t true true true ps = .fault (cZ aw au af))/\
  (∀ g,tab (k+1) (preP p (k+1))=some g->walkL fr hs M a aw au af (lv+1) t true true true ps=walkL fr hs M a aw au af lv g true true true (ps++[placeZ t a lv])/\W t (aO a (12+9*lv))≠0):=by
 obtain ⟨e1,e2,e3,e4,e5⟩:=bN hp (k:=k) (by omega);have hr:=hT.range _ _ _ ht;have hw:=hT.words k _ t (by omega) ht (atP p k) e2 e3 e4;rw [<-e1] at hw;have hpl:aO a (12+9*lv)=atP p k:=by rw [aDw ha (by omega),show 3-lv=k by omega]
 have hle:le M (placeZ t a lv) 8=W t (atP p k):=by rw [uL hW hr.1,hpl]
 refine ⟨λhn=>?_,λg hg=>?_⟩
 ·rw [hn] at hw;have hw:W t (atP p k)=0:=hw;exact u9 (hhas _ _ _ ht) (by rw [hle,hw];rfl)
 ·rw [hg] at hw;obtain ⟨b3,b4,hw⟩:=hw;have hgr:=hT.range _ _ _ hg;obtain ⟨q0,q1,q2,_,_,q7,_,q63,qf,_⟩:=eN true true true b3 b4 false false false hgr;have e:le M (placeZ t a lv) 8=packZ true true true b3 b4 false false false g:=by rw [hle,hw]
  refine ⟨?_,λz=>?_⟩
  ·rw [aAK (hhas _ _ _ ht) (by rw [e];exact q0) (by rw [e];exact vD hgr (.inl rfl)) (by rw [e,q7];rintro (z | ⟨_,z⟩);omega;cases z),e,q1,q2,q63,qf]
   rfl
  ·rw [hpl,hw] at z;rw [z] at q0;simp [aA7] at q0
def PlM (W:Int->Int->Int) (tab:Tab) (ps:List Int):Prop:=ps.Nodup/\ps.length<=4/\∀ pl ∈ ps,∃ k q t i,tab k q=some t/\pl=t*4096+8*i/\(0<=i/\i<512)/\W t i≠0
theorem jG {t g a:Int} {lv lv':Nat} (h:t≠g):placeZ t a lv≠placeZ g a lv':=by
 unfold placeZ aO;omega
theorem aEY (hW:Wd8 W M) (hT:TabW W root tab lf) (hhas:∀ k q f,tab k q=some f->hasF fr hs f=true) (hp:0<=p/\p<34359738368) (ha:a / 4096=p) :
  ∃ d ps,walkL fr hs M a aw au af 4 root true true true []=aLT (lf p) d aw au af ps/\(lf p≠none->PlM W tab ps):=by
 have t0:tab 0 (preP p 0)=some root:=(hT.root 0 root).2 ⟨rfl,rfl⟩
 have none_:(∃ k,k<4/\tab k (preP p k)=none)->lf p=none:=λ⟨k,hk,hn⟩=>by
  cases e:lf p with
  | none=>rfl
  | some x=>exact absurd hn (hT.chain hp e k hk)
 obtain ⟨n1,s1⟩:=oK (aw:=aw) (au:=au) (af:=af) hW hT hhas hp ha (k:=0) (lv:=3) rfl (by omega) t0 [];cases h1:tab 1 (preP p 1) with
 | none=>exact ⟨false,[],by rw [n1 h1,none_ ⟨1,by omega,h1⟩];rfl,λz=>absurd (none_ ⟨1,by omega,h1⟩) z⟩
 | some g1=>
  rw [(s1 g1 h1).1];obtain ⟨n2,s2⟩:=oK (aw:=aw) (au:=au) (af:=af) hW hT hhas hp ha (k:=1) (lv:=2) rfl (by omega) h1 ([]++[placeZ root a 3]);cases h2:tab 2 (preP p 2) with
  | none=>exact ⟨false,[],by rw [n2 h2,none_ ⟨2,by omega,h2⟩];rfl,λz=>absurd (none_ ⟨2,by omega,h2⟩) z⟩
  | some g2=>
   rw [(s2 g2 h2).1];obtain ⟨n3,s3⟩:=oK (aw:=aw) (au:=au) (af:=af) hW hT hhas hp ha (k:=2) (lv:=1) rfl (by omega) h2 ([]++[placeZ root a 3]++[placeZ g1 a 2]);cases h3:tab 3 (preP p 3) with
   | none=>exact ⟨false,[],by rw [n3 h3,none_ ⟨3,by omega,h3⟩];rfl,λz=>absurd (none_ ⟨3,by omega,h3⟩) z⟩
   | some g3=>
    rw [(s3 g3 h3).1];obtain ⟨e1,e2,e3,e4,e5⟩:=bN hp (k:=3) (by omega);have hr:=hT.range _ _ _ h3;have hw:=hT.leaves _ g3 h3 (atP p 3) e2 e3;rw [<-e1] at hw;have hpl:aO a (12+9*0)=atP p 3:=aDw ha (by omega);have hle:le M (placeZ g3 a 0) 8=W g3 (atP p 3):=by rw [uL hW hr.1,hpl]
    have e4:preP p (3+1)=p:=rfl;rw [e4] at hw;cases hl:lf p with
    | none=>
     rw [hl] at hw;have hw:W g3 (atP p 3)=0:=hw;exact ⟨false,[],by rw [u9 (lv:=0) (hhas _ _ _ h3) (by rw [hle,hw];rfl)];rfl,λz=>absurd rfl z⟩
    | some x=>
     rw [hl] at hw;obtain ⟨b3,b4,hw⟩:=hw;have hx:=hT.rangeL _ _ hl;obtain ⟨q0,q1,q2,_,q6,q7,q8,q63,qf,_⟩:=eN true x.w x.u b3 b4 false false (!x.x) hx;have e:le M (placeZ g3 a 0) 8=packZ true x.w x.u b3 b4 false false (!x.x) x.frame:=by rw [hle,hw]
     refine ⟨b4,[]++[placeZ root a 3]++[placeZ g1 a 2]++[placeZ g2 a 1]++[placeZ g3 a 0],?_,λ_=>?_⟩
     ·rw [yL (lv:=0) (hhas _ _ _ h3) (by rw [e];exact q0) (by rw [e];exact vD hx (.inl rfl)) (.inl rfl),e,q1,q2,q63,qf,q6,q8];simp only [Bool.true_and,Bool.not_not];rfl
     ·have d01:root≠g1:=λz=>by have:=(hT.apart 0 _ 1 _ root t0 (by rw [z];exact h1)).1;omega
      have d02:root≠g2:=λz=>by have:=(hT.apart 0 _ 2 _ root t0 (by rw [z];exact h2)).1;omega
      have d03:root≠g3:=λz=>by have:=(hT.apart 0 _ 3 _ root t0 (by rw [z];exact h3)).1;omega
      have d12:g1≠g2:=λz=>by have:=(hT.apart 1 _ 2 _ g1 h1 (by rw [z];exact h2)).1;omega
      have d13:g1≠g3:=λz=>by have:=(hT.apart 1 _ 3 _ g1 h1 (by rw [z];exact h3)).1;omega
      have d23:g2≠g3:=λz=>by have:=(hT.apart 2 _ 3 _ g2 h2 (by rw [z];exact h3)).1;omega
      have pr:∀ n,0<=aO a n/\aO a n<512:=λn=>by unfold aO;omega
      refine ⟨?_,by simp,λpl hpl'=>?_⟩
      ·simp [jG d01,jG d02,jG d03,jG d12,jG d13,jG d23]
      ·simp only [List.nil_append,List.cons_append,List.mem_cons,List.not_mem_nil,or_false] at hpl';rcases hpl' with rfl | rfl | rfl | rfl
       ·exact ⟨0,_,root,_,t0,rfl,pr _,(s1 g1 h1).2⟩
       ·exact ⟨1,_,g1,_,h1,rfl,pr _,(s2 g2 h2).2⟩
       ·exact ⟨2,_,g2,_,h2,rfl,pr _,(s3 g3 h3).2⟩
       ·refine ⟨3,_,g3,_,h3,rfl,pr _,λz=>?_⟩;rw [hpl,hw] at z;rw [z] at q0;simp [aA7] at q0
end Go.Dn
namespace Go.Dn
variable {A:AH} {R:List SP} {r:Nat} {fr:Int} {hs:List (Int × Int)} {M:Int->Int} {W:Int->Int->Int}
theorem zQ (M:Int->Int):∀ (m n:Nat) (a:Int),le M a (m+n)=le M a m+256 ^ m*le M (a+m) n
 | 0,n,a=>by simp [le]
 | m+1,n,a=>by
  rw [show m+1+n=(m+n)+1 by omega];show M a+256*le M (a+1) (m+n)=M a+256*le M (a+1) m+256 ^ (m+1)*le M (a+((m+1:Nat):Int)) n;rw [zQ M m n (a+1),Int.pow_succ,show a+1+(m:Int)=a+((m+1:Nat):Int) by omega,Int.mul_add,Int.add_assoc,Int.mul_comm (256 ^ m:Int) 256,Int.mul_assoc]
theorem aMd (M:Int->Int) (a x:Int) (n:Nat):le (jK M a n x) a n=x % 256 ^ n:=by
 have:=wQ x n 0 (jK M a n x) a λj hj=>by
  unfold jK;rw [if_pos ⟨by omega,by omega⟩,show (a+(j:Int)-a).toNat=0+j by omega]
 rw [this];simp
def aFF (w:Int) (k n:Nat):Int:=w / 256 ^ k % 256 ^ n
def putB (w:Int) (k n:Nat) (x:Int):Int:=w % 256 ^ k+256 ^ k*(x % 256 ^ n)+256 ^ (k+n)*(w / 256 ^ (k+n))
theorem aMH (n:Nat):(0:Int)<256 ^ n:=Int.pow_pos (by omega)
theorem zL {M:Int->Int} (hb:∀ a,0<=M a/\M a<256) (k m:Nat) (a:Int):le M a k=le M a (k+m) % 256 ^ k/\le M (a+k) m=le M a (k+m) / 256 ^ k:=by
 have h:=zQ M k m a;have h1:=lG hb k a;rw [h];refine ⟨?_,?_⟩
 ·rw [Int.add_mul_emod_self_left,Int.emod_eq_of_lt h1.1 h1.2]
 ·rw [Int.add_mul_ediv_left _ _ (by have:=aMH k;omega),Int.ediv_eq_zero_of_lt h1.1 h1.2,Int.zero_add]
theorem aIt {M:Int->Int} (hb:∀ a,0<=M a/\M a<256) {k n:Nat} (h:k+n<=8) (a:Int):le M (a+k) n=aFF (le M a 8) k n:=by
 obtain ⟨m,hm⟩:∃ m,8=k+(n+m):=⟨8-k-n,by omega⟩;unfold aFF;rw [hm,<- (zL hb k (n+m) a).2,<- (zL hb n m (a+k)).1]
theorem aKT {M:Int->Int} (hb:∀ a,0<=M a/\M a<256) {k n:Nat} (h:k+n<=8) (a x:Int):le (jK M (a+k) n x) a 8=putB (le M a 8) k n x:=by
 obtain ⟨m,hm⟩:∃ m,8=k+n+m:=⟨8-k-n,by omega⟩;unfold putB;rw [hm,zQ _ (k+n) m a,zQ _ k n a,qG M (a+k) a x n k (by omega),aMd,qG M (a+k) (a+((k+n:Nat):Int)) x n m (by omega)];rw [(zL hb (k+n) m a).2];have e:=(zL hb k (n+m) a).1;rw [show k+(n+m)=k+n+m by omega] at e;rw [e]
theorem RamW.byte (h:Own (RamS r fr hs M::R) A):∀ a,0<=M a/\M a<256:=RamS.byte (i:=0) h rfl
theorem aBD {t o:Int} {n:Nat} (hn:n=1\/n=2\/n=4\/n=8) (ho:0<=o/\o<4096) (hd:o % n=0):okA fr hs (t*4096+o) n=hasF fr hs t:=by
 have h1:(t*4096+o) / 4096=t:=by omega
 have h2:(t*4096+o+n-1) / 4096=t:=by rcases hn with rfl | rfl | rfl | rfl<;>omega
 unfold okA;rw [h1,h2];cases h:hasF fr hs t with
 | false=>simp
 | true=>
  have:t<fr:=by
   unfold hasF at h;simp at h;omega
  simp;rcases hn with rfl | rfl | rfl | rfl<;>omega
theorem aB3 {t o:Int} {n:Nat} {Q:Int->Int->AH->Prop} (h:Own (RamW r fr hs W::R) A) (ht:hasF fr hs t=true) (hn:n=1\/n=2\/n=4\/n=8) (ho:0<=o/\o<4096) (hd:o % n=0)
  (hk:Q (aFF (W t (o / 8)) (o % 8).toNat n) 0 A):qdn_A (some ⟨r,0,none⟩) (t*4096+o) n Q A:=by
 obtain ⟨M,⟨h1,h2⟩,hh⟩:=RamW.openH h;have hr:=eS ht h1.hi;have hfr:=h1.hi;refine mL (i:=0) hh rfl h1.holes ⟨h1.lo,h1.hi⟩ hn ⟨by omega,by omega⟩ ?_;rw [aBD hn ho hd,ht];simp only [↓reduceIte];have e:=aIt (RamW.byte hh) (k:=(o % 8).toNat) (n:=n) (by rcases hn with rfl | rfl | rfl | rfl<;>omega) (t*4096+8*(o / 8))
 rw [show t*4096+8*(o / 8)+(((o % 8).toNat:Nat):Int)=t*4096+o by omega] at e;rw [e];rw [h2 t (o / 8) hr.1 (by omega) (by omega)] at hk;exact hk
theorem aBu {t o x:Int} {n:Nat} {Q:Int->AH->Prop} (h:Own (RamW r fr hs W::R) A) (ht:hasF fr hs t=true) (hn:n=1\/n=2\/n=4\/n=8) (ho:0<=o/\o<4096) (hd:o % n=0)
  (hk:∀ A',Own (RamW r fr hs (setW W t (o / 8) (putB (W t (o / 8)) (o % 8).toNat n x))::R) A'->Q 0 A'):qbp_A (some ⟨r,0,none⟩) (t*4096+o) n x Q A:=by
 obtain ⟨M,⟨h1,h2⟩,hh⟩:=RamW.openH h;have hb:=RamW.byte hh;have hr:=eS ht h1.hi;have hfr:=h1.hi;refine oC hh h1.holes ⟨h1.lo,h1.hi⟩ hn ⟨by omega,by omega⟩ (λq=>by rw [aBD hn ho hd,ht] at q;cases q) λ_ A' hA=>hk A' (RamW.closeH h1 (λt' i' q1 q2 q3=>?_) hA);have hk8:(o % 8).toNat+n<=8:=by rcases hn with rfl | rfl | rfl | rfl<;>omega
 unfold setW;split
 ·rename_i g;obtain ⟨rfl,rfl⟩:=g;unfold bR;have e:=aKT hb hk8 (t'*4096+8*(o / 8)) x;rw [show t'*4096+8*(o / 8)+(((o % 8).toNat:Nat):Int)=t'*4096+o by omega] at e;rw [e,h2 t' (o / 8) hr.1 (by omega) (by omega)];rfl
 ·rename_i g;rw [h2 t' i' q1 q2 q3];unfold bR;refine (qG M _ _ x n 8 ?_).symm;by_cases e:t'=t
  ·subst e;have:i'≠o / 8:=λq=>g ⟨rfl,q⟩;omega
  ·omega
end Go.Dn
