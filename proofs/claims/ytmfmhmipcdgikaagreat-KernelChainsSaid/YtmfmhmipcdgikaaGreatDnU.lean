/- What is asked over a part of the heap is enough for the whole: regions whose order is drawn. -/
import Derived.Test.YtmfmhmipcdgikaaGreatDnT
namespace Go.Dn
abbrev FLs:=List (Nat × (Nat × (List Value × TypeId)))
def idx (F:FLs):List Nat:=F.map (·.1)
def EF (F:FLs):Bx:=F.map λe=>(e.2.1,e.2.2.1,e.2.2.2)
def fN (F:FLs) (l:List Nat):List Nat:=l.filter λj=>!(idx F).contains j
theorem bK (a:Array Bool) (i j:Nat) (b d:Bool):(a.setIfInBounds i b).getD j d=if i=j/\i<a.size then b else a.getD j d:=by
 by_cases h:i=j
 ·subst h;by_cases g:i<a.size
  ·simp [g]
  ·simp [g]
 ·simp [Array.getElem?_setIfInBounds_ne h,h]
theorem rP {j:Nat} {d:Bool}:∀ {l:List Nat} {a:Array Bool},j ∉ l->(iX l a).getD j d=a.getD j d
 | [],_,_=>rfl
 | i::r,a,h=>by
  unfold iX;rw [rP (λg=>h (List.mem_cons_of_mem _ g)),bK,if_neg (λg=>h (by rw [<-g.1];exact List.mem_cons_self))]
theorem iM {j:Nat}:∀ {l:List Nat} {a:Array Bool},a.getD j false=true->(iX l a).getD j false=true
 | [],_,h=>h
 | i::r,a,h=>by
  unfold iX;refine iM ?_;rw [bK];split
  ·rfl
  ·exact h
theorem rF {j:Nat}:∀ {l:List Nat} {a:Array Bool},j ∈ l->j<a.size->(iX l a).getD j false=true
 | [],_,h,_=>by simp at h
 | i::r,a,h,g=>by
  unfold iX;rcases List.mem_cons.1 h with rfl | h
  ·exact iM (by rw [bK,if_pos ⟨rfl,g⟩])
  ·exact rF h (by simpa using g)
theorem cL {i j:Nat}:∀ {l:List Nat},j ∈ bY i l↔j ∈ l/\j≠i
 | []=>by simp [bY]
 | x::r=>by
  unfold bY;split
  ·rename_i g;have:=gC.1 g;subst this;rw [cL];constructor
   ·rintro ⟨h1,h2⟩;exact ⟨List.mem_cons_of_mem _ h1,h2⟩
   ·rintro ⟨h1,h2⟩;rcases List.mem_cons.1 h1 with rfl | h1
    ·exact absurd rfl h2
    ·exact ⟨h1,h2⟩
  ·rename_i g;have:=aA9.1 g;rw [List.mem_cons,List.mem_cons,cL];constructor
   ·rintro (rfl | ⟨h1,h2⟩)
    ·exact ⟨.inl rfl,this⟩
    ·exact ⟨.inr h1,h2⟩
   ·rintro ⟨rfl | h1,h2⟩
    ·exact .inl rfl
    ·exact .inr ⟨h1,h2⟩
theorem aAk {a:Array Bool} {j:Nat} (h:a.getD j false=true):a.getD j true=true:=by
 rcases Nat.lt_or_ge j a.size with g | g
 ·simp [g] at h ⊢;exact h
 ·simp [Array.getElem?_eq_none g] at h
theorem dM {a:Array Bool} {j:Nat} (h:a.getD j true=false):j<a.size:=by
 rcases Nat.lt_or_ge j a.size with g | g
 ·exact g
 ·simp [Array.getElem?_eq_none g] at h
structure FI (P:Program) (n:Nat) (pm:List Nat) (ops:List Oper) (fl:List Nat) (LA LD:Array Bool) (l:List Nat) (F:FLs) (s:SA) (t:St):Prop where
 same:∀ j d,j ∉ idx F->LD.getD j d=LA.getD j d
 done:∀ j ∈ idx F,LD.getD j false=true
 size:LD.size=LA.size
 inl:∀ j ∈ idx F,j ∈ l/\j ∈ fl
 ndF:(idx F).Nodup
 ndl:l.Nodup
 mem:∀ j ∈ fl,LA.getD j true=false->j ∈ l
 unl:∀ j ∈ l,LA.getD j true=false
 isfl:∀ j ∈ fl,∃ o d,ops[j]? = some o/\isFl P n o=some d/\True/\∀ k ok,ops[k]? = some ok->k≠j->ok.dst≠some d
 fresh:∀ j ∈ fl,j ∈ l->∀ o d,ops[j]? = some o->isFl P n o=some d->look s.env d=none/\lookB s.bv d=none
 real:∀ e ∈ F,∃ o d ty i z,ops[e.1]? = some o/\o.op = .alloc ty/\isFl P n o=some d/\P.info? ty=some i/\i.zero=some z/\e.2.2=(z.cells.toList,ty)/\look t.env d=some (.pointer (some ⟨e.2.1,0,none⟩))
theorem tP {P:Program} {n:Nat} {o:Oper} {d:Nat} (h:isFl P n o=some d):o.guard=none/\o.dst=some d/\Nat.blt d n=true/\∃ ty i z,o.op = .alloc ty/\P.info? ty=some i/\i.zero=some z:=by
 unfold isFl at h;split at h
 ·rename_i ty d' h1 h2 h3;split at h
  ·rename_i i h4 h5;split at h
   ·rename_i z h6;cases h;exact ⟨h1,h3,h4,ty,i,z,h2,h5,h6⟩
   ·cases h
  ·cases h
 ·cases h
section
variable {P:Program} {CA:CTA} {n:Nat} {pm:List Nat} {E:Bx} {A:AH} {h:Hp} {β:Nat->Nat} {s:SA} {t:St} {ops:List Oper} {fl:List Nat} {LA LD:Array Bool} {l r:List Nat} {F:FLs} {i:Nat}
theorem FI.noD (q:FI P n pm ops fl LA LD l F s t) {j:Nat} (hj:LD.getD j true=false):j ∉ idx F:=λhm=>by
 have:=aAk (q.done j hm);rw [this] at hj;cases hj
theorem rK (q:FI P n pm ops fl LA LD l F s t) (hi:i ∉ idx F) (h1:aHp ops fl LA i=true):i ∈ Region.ready .any ops.toArray LD/\∀ j ∈ Region.ready .any ops.toArray LD,j=i\/(j ∈ fl/\j ∈ l/\j ∉ idx F):=by
 unfold aHp at h1;rw [Bool.and_eq_true] at h1;obtain ⟨h1,h2⟩:=h1;have hA:i ∈ Region.ready .any ops.toArray LA:=by simpa using h2
 have hone:=aHU h1;constructor
 ·obtain ⟨g1,o,g2,g3⟩:=mem_ready.1 hA;refine mem_ready.2 ⟨by rw [q.same i true hi];exact g1,o,g2,λe he hb=>?_⟩;by_cases hm:e.on ∈ idx F
  ·exact q.done _ hm
  ·rw [q.same _ _ hm];exact g3 e he hb
 ·intro j hj;obtain ⟨g1,o,g2,g3⟩:=mem_ready.1 hj;have hjF:=q.noD g1;have hjA:LA.getD j true=false:=by rw [<-q.same j true hjF];exact g1
  by_cases hjf:j ∈ fl
  ·exact .inr ⟨hjf,q.mem j hjf hjA,hjF⟩
  ·left
   have:j ∈ Region.ready .any ops.toArray (iX (bY i fl) LA):=by
    refine mem_ready.2 ⟨?_,o,g2,λe he hb=>?_⟩
    ·rw [rP (λg=>hjf (cL.1 g).1)];exact hjA
    ·have hd:=g3 e he hb;by_cases hm:e.on ∈ idx F
     ·refine rF (cL.2 ⟨(q.inl _ hm).2,λg=>hi (by rw [<-g];exact hm)⟩) ?_;rw [<-q.size];rcases Nat.lt_or_ge e.on LD.size with g | g
      ·exact g
      ·simp [Array.getElem?_eq_none g] at hd
     ·exact iM (by rw [<-q.same _ _ hm];exact hd)
   rw [hone] at this;simpa using this
theorem lN (hi:i ∉ idx F):fN F (i::r)=i::fN F r:=by
 unfold fN;rw [List.filter_cons,if_pos (by simpa using hi)]
theorem aGn {K:St->HP} {Kp:Value->St->HP} (q:FI P n pm ops fl LA LD l F s t) (rb:RB (EF F++E) β s t A h) {j:Nat} {oj:Oper} (hoj:ops[j]? = some oj) (hjf:j ∈ fl) (hjl:j ∈ l) (hjF:j ∉ idx F)
  (hk:∀ b cs ty t' h',FI P n pm ops fl LA (LD.setIfInBounds j true) l ((j,(b,(cs,ty)))::F) s t'->RB (EF ((j,(b,(cs,ty)))::F)++E) β s t' A h'->(∀ A' bx,Sim A' bx h->Sim A' bx h')->K t' h') :
  wM P (nI CA) n oj t K Kp h:=by
 obtain ⟨o,d,g1,g2,g3,g4⟩:=q.isfl j hjf;rw [hoj] at g1;cases g1;obtain ⟨e1,e2,e3,ty,i,z,e5,e6,e7⟩:=tP g2;unfold wM bO;rw [e5];simp only;unfold eB;rw [e6];simp only;rw [e7];simp only;unfold gJ;rw [e2];simp only;rw [e3];simp only;obtain ⟨f1,f2⟩:=q.fresh j hjf hjl oj d hoj g2;have hjA:=q.unl j hjl;refine hk h.size z.cells.toList ty _ _ ⟨?_,?_,?_,?_,?_,q.ndl,q.mem,q.unl,q.isfl,q.fresh,?_⟩ ⟨?_,?_,rb.ds,?_,rb.nd⟩ (λA' bx sm=>?_)
 ·intro k b hk2;simp only [idx,List.map_cons,List.mem_cons,not_or] at hk2;rw [bK,if_neg (λg=>hk2.1 g.1.symm)];exact q.same k b hk2.2
 ·intro k hk2;simp only [idx,List.map_cons,List.mem_cons] at hk2;rw [bK];rcases hk2 with rfl | hk2
  ·rw [if_pos ⟨rfl,by rw [q.size];exact dM hjA⟩]
  ·split
   ·rfl
   ·exact q.done k hk2
 ·simp [q.size]
 ·intro k hk2;simp only [idx,List.map_cons,List.mem_cons] at hk2;rcases hk2 with rfl | hk2
  ·exact ⟨hjl,hjf⟩
  ·exact q.inl k hk2
 ·exact List.nodup_cons.2 ⟨hjF,q.ndF⟩
 ·intro e he;rcases List.mem_cons.1 he with rfl | he
  ·refine ⟨oj,d,ty,i,z,hoj,e5,g2,e6,e7,rfl,?_⟩;show look ((d,_)::t.env) d=_;rw [aQ,if_pos rfl]
  ·obtain ⟨o2,d2,ty2,i2,z2,k1,k2,k3,k4,k5,k6,k7⟩:=q.real e he;refine ⟨o2,d2,ty2,i2,z2,k1,k2,k3,k4,k5,k6,?_⟩;have hne:e.1≠j:=λg=>hjF (by rw [<-g];exact List.mem_map.2 ⟨e,he,rfl⟩);have:=g4 e.1 o2 k1 hne;rw [(tP k3).2.1] at this;show look ((d,_)::t.env) d2=_;rw [aQ,if_neg (λg=>this (by rw [g]))];exact k7
 ·intro x u hx;show look ((d,_)::t.env) x=_;rw [aQ,if_neg (λg=>by rw [<-g,f1] at hx;cases hx)];exact rb.env x u hx
 ·intro x j2 o2 hx;obtain ⟨k1,k2⟩:=rb.bv x j2 o2 hx;refine ⟨?_,k2⟩;show look ((d,_)::t.env) x=_;rw [aQ,if_neg (λg=>by rw [<-g,f2] at hx;cases hx)];exact k1
 ·have h1:=rb.sim.boxNew z.cells.toList ty;rw [Array.toArray_toList] at h1;refine h1.perm ?_;show List.Perm ((h.size,z.cells.toList,ty)::(bxL β s.bx++(EF F++E))) (bxL β s.bx++((h.size,z.cells.toList,ty)::(EF F++E)));exact List.perm_middle.symm
 ·have h1:=sm.boxNew z.cells.toList ty;rw [Array.toArray_toList] at h1;exact h1.keep (List.sublist_cons_self _ _)
theorem aEQ {e:Nat × (Nat × (List Value × TypeId))} (he:e ∈ F) (nd:(idx F).Nodup):∃ F1 F2,F=F1++e::F2/\e.1 ∉ idx (F1++F2):=by
 obtain ⟨F1,F2,rfl⟩:=List.append_of_mem he;refine ⟨F1,F2,rfl,?_⟩;simp only [idx,List.map_append,List.map_cons] at nd ⊢;have:=(List.perm_middle.nodup_iff).1 nd;exact (List.nodup_cons.1 this).1
theorem aIU {o:Oper} {K:SA->AP} {Kp:Value->SA->AP} (q:FI P n pm ops fl LA LD (i::r) F s t) (rb:RB (EF F++E) β s t A h) (ho:ops[i]? = some o) (hif:i ∈ fl) (hiF:i ∈ idx F) (hh:exA P CA n pm o s K Kp A) :
  ∃ F' β' s' A',K s' A'/\FI P n pm ops fl (LA.setIfInBounds i true) LD r F' s' t/\RB (EF F'++E) β' s' t A' h/\SamB s β s' β'/\F.length=F'.length+1/\fN F (i::r)=fN F' r/\(∃ l1,s'.bx=l1++s.bx)/\∀ j ∈ s.bx.map (·.1),β' j=β j:=by
 obtain ⟨e,he,hei⟩:=List.mem_map.1 hiF;obtain ⟨F1,F2,hF,hno⟩:=aEQ he q.ndF;obtain ⟨o2,d,ty,i2,z,k1,k2,k3,k4,k5,k6,k7⟩:=q.real e he;rw [hei,ho] at k1;cases k1;obtain ⟨e1,e2,e3,_⟩:=tP k3;have hir:i ∉ r:=(List.nodup_cons.1 q.ndl).1;rw [hei] at hno;have hiA:=q.unl i List.mem_cons_self
 have p1:∀ j b,j ∉ idx (F1++F2)->LD.getD j b=(LA.setIfInBounds i true).getD j b:=by
  intro j b hj;rw [bK];split
  ·rename_i g;obtain ⟨rfl,_⟩:=g;have:=q.done i hiF;cases b
   ·exact this
   ·exact aAk this
  ·rename_i g;refine q.same j b ?_;rw [hF];simp only [idx,List.map_append,List.map_cons,List.mem_append,List.mem_cons,not_or] at hj ⊢;refine ⟨hj.1,λg2=>g ⟨by rw [g2,hei],dM hiA⟩,hj.2⟩
 have p2:∀ j ∈ idx (F1++F2),LD.getD j false=true:=by
  intro j hj;refine q.done j ?_;rw [hF];simp only [idx,List.map_append,List.map_cons,List.mem_append,List.mem_cons] at hj ⊢;rcases hj with hj | hj
  ·exact .inl hj
  ·exact .inr (.inr hj)
 have p3:LD.size=(LA.setIfInBounds i true).size:=by simp [q.size]
 have p4:∀ j ∈ idx (F1++F2),j ∈ r/\j ∈ fl:=by
  intro j hj
  have hj2:j ∈ idx F:=by
   rw [hF];simp only [idx,List.map_append,List.map_cons,List.mem_append,List.mem_cons] at hj ⊢;rcases hj with hj | hj
   ·exact .inl hj
   ·exact .inr (.inr hj)
  obtain ⟨a1,a2⟩:=q.inl j hj2;rcases List.mem_cons.1 a1 with rfl | a1
  ·exact absurd hj hno
  ·exact ⟨a1,a2⟩
 have p5:(idx (F1++F2)).Nodup:=by
  have:=q.ndF;rw [hF] at this;simp only [idx,List.map_append,List.map_cons] at this ⊢;exact (List.nodup_cons.1 ((List.perm_middle.nodup_iff).1 this)).2
 have p6:∀ j ∈ fl,(LA.setIfInBounds i true).getD j true=false->j ∈ r:=by
  intro j hj hu;rw [bK] at hu;split at hu
  ·cases hu
  ·rename_i g;rcases List.mem_cons.1 (q.mem j hj hu) with rfl | h2
   ·exact absurd ⟨rfl,dM hiA⟩ g
   ·exact h2
 have p7:∀ j ∈ r,(LA.setIfInBounds i true).getD j true=false:=by
  intro j hj;rw [bK,if_neg (λg=>hir (by rw [g.1];exact hj))];exact q.unl j (List.mem_cons_of_mem _ hj)
 have p8:∀ j ∈ fl,j ∈ r->∀ o d',ops[j]? = some o->isFl P n o=some d'->look s.env d'=none/\lookB s.bv d'=none/\d≠d':=by
  intro j hj hjr o3 d3 h3 h4;obtain ⟨f1,f2⟩:=q.fresh j hj (List.mem_cons_of_mem _ hjr) o3 d3 h3 h4;have hne:i≠j:=λg=>hir (by rw [g];exact hjr);obtain ⟨o4,d4,g1,g2,_,g4⟩:=q.isfl j hj;rw [h3] at g1;cases g1;rw [h4] at g2;cases g2;have:=g4 i o ho hne;rw [e2] at this;exact ⟨f1,f2,λg=>this (by rw [g])⟩
 have p9:∀ e' ∈ F1++F2,e' ∈ F:=by
  intro e' he';rw [hF];rcases List.mem_append.1 he' with h1 | h1
  ·exact List.mem_append.2 (.inl h1)
  ·exact List.mem_append.2 (.inr (List.mem_cons_of_mem _ h1))
 have p10:F.length=(F1++F2).length+1:=by rw [hF];simp;omega
 have p11:fN F (i::r)=fN (F1++F2) r:=by
  have hm:i ∈ idx F:=hiF;unfold fN;rw [List.filter_cons,if_neg (by simpa using hm)];apply List.filter_congr;intro j hj;have hne:j≠i:=λg=>hir (by rw [<-g];exact hj);congr 1;rw [Bool.eq_iff_iff];simp only [List.contains_iff_mem];rw [hF];simp only [idx,List.map_append,List.map_cons,List.mem_append,List.mem_cons];constructor
  ·rintro (h1 | h1 | h1)
   ·exact .inl h1
   ·exact absurd (h1.trans hei) hne
   ·exact .inr h1
  ·rintro (h1 | h1)
   ·exact .inl h1
   ·exact .inr (.inr h1)
 have p12:List.Perm (bxL β s.bx++(EF F++E)) ((e.2.1,z.cells.toList,ty)::(bxL β s.bx++(EF (F1++F2)++E))):=by
  have h3:EF (F1++e::F2)=EF F1++(e.2.1,z.cells.toList,ty)::EF F2:=by
   simp only [EF,List.map_append,List.map_cons];rw [k6]
  have h4:EF (F1++F2)=EF F1++EF F2:=by simp [EF]
  rw [hF,h3,h4];have:bxL β s.bx++(EF F1++(e.2.1,z.cells.toList,ty)::EF F2++E)=(bxL β s.bx++EF F1)++(e.2.1,z.cells.toList,ty)::(EF F2++E):=by simp
  rw [this];refine List.perm_middle.trans ?_;simp
 unfold exA opA at hh;rw [k2,e2] at hh;simp only at hh;cases e4:memN d pm with
 | true=>
  rw [e4] at hh;simp only at hh;unfold eB at hh;rw [k4] at hh;simp only at hh;rw [k5] at hh;simp only at hh;have hnx:=z9 hh;unfold aCS at hh;split at hh
  ·rename_i n1 n2;unfold fE at hh;simp only at hh;rw [e3] at hh;simp only at hh;refine ⟨F1++F2,setF β d e.2.1,_,_,hh,⟨p1,p2,p3,p4,p5,(List.nodup_cons.1 q.ndl).2,p6,p7,q.isfl,λj hj hjr o3 d3 h3 h4=>?_,λe' he'=>q.real e' (p9 e' he')⟩,⟨?_,?_,rb.ds,?_,?_⟩,⟨rfl,rfl,?_⟩,p10,p11,⟨[_],rfl⟩,?_⟩
   ·obtain ⟨f1,f2,f3⟩:=p8 j hj hjr o3 d3 h3 h4;refine ⟨iS f1,?_⟩;show lookB ((d,_)::s.bv) d3=none;rw [dD,if_neg f3];exact f2
   ·intro x u hx;exact rb.env x u (eO _ hx).1
   ·intro x j2 o3 hx;have hx2:lookB ((d,(d,0))::s.bv) x=some (j2,o3):=hx;rw [dD] at hx2;split at hx2
    ·rename_i g;cases hx2;subst g;refine ⟨?_,_,by rw [bE,if_pos rfl]⟩;unfold setF;rw [if_pos rfl];exact k7
    ·obtain ⟨a1,p,a2⟩:=rb.bv x j2 o3 hx2;have hne:j2≠d:=λg=>by rw [g,n1] at a2;cases a2
     refine ⟨?_,p,?_⟩
     ·unfold setF;rw [if_neg hne];exact a1
     ·rw [bE,if_neg (Ne.symm hne)];exact a2
   ·have h1:bxL (setF β d e.2.1) s.bx=bxL β s.bx:=rQ λj hj=>by
     unfold setF;rw [if_neg (λg=>hnx (by rw [<-g];exact hj))]
    refine rb.sim.perm ?_
    have h2:bxL (setF β d e.2.1) ((d,(z.cells.toList,ty))::s.bx)=(e.2.1,z.cells.toList,ty)::bxL β s.bx:=by
     rw [<-h1];simp [bxL,setF]
    show List.Perm _ (bxL (setF β d e.2.1) ((d,(z.cells.toList,ty))::s.bx)++_);rw [h2];exact p12
   ·exact List.nodup_cons.2 ⟨hnx,rb.nd⟩
   ·intro j hj cs ty' hl;have hl2:lookX ((d,(z.cells.toList,ty))::s.bx) j=some (cs,ty'):=hl;have hne:j≠d:=λg=>(gG.1 n2) (by rw [<-g];exact hj);rw [bE,if_neg (Ne.symm hne)] at hl2;exact ⟨by unfold setF;rw [if_neg hne],cs,hl2,rfl,λ_ _=>rfl⟩
   ·intro j hj;unfold setF;rw [if_neg (λg=>hnx (by rw [<-g];exact hj))]
  ·exact hh.elim
 | false=>
  rw [e4] at hh;simp only at hh;unfold opV at hh;rw [k2] at hh;simp only at hh;unfold eB at hh;rw [k4] at hh;simp only at hh;rw [k5] at hh;simp only at hh;obtain ⟨u1,u2⟩:=(rb.sim.perm p12).unbox;rw [Array.toArray_toList] at u2;have hh:=hh e.2.1 u1;unfold fE at hh;simp only at hh;rw [e3] at hh;simp only at hh;refine ⟨F1++F2,β,_,_,hh,⟨p1,p2,p3,p4,p5,(List.nodup_cons.1 q.ndl).2,p6,p7,q.isfl,λj hj hjr o3 d3 h3 h4=>?_,λe' he'=>q.real e' (p9 e' he')⟩,⟨?_,?_,rb.ds,u2,rb.nd⟩,⟨rfl,rfl,λj hj cs ty' hl=>⟨rfl,cs,hl,rfl,λ_ _=>rfl⟩⟩,p10,p11,⟨[],rfl⟩,λ_ _=>rfl⟩
  ·obtain ⟨f1,f2,f3⟩:=p8 j hj hjr o3 d3 h3 h4;refine ⟨?_,eE f2⟩;show look ((d,_)::s.env) d3=none;rw [aQ,if_neg f3];exact f1
  ·intro x u hx;have hx2:look ((d,_)::s.env) x=some u:=hx;rw [aQ] at hx2;split at hx2
   ·rename_i g;cases hx2;subst g;exact k7
   ·exact rb.env x u hx2
  ·intro x j2 o3 hx;exact rb.bv x j2 o3 (kX hx).1
theorem Put.comp {s1 s2:SA} {t1 t2:St} {dst:Option Tmp} (h1:Put s s1 t t1 none) (h2:Put s1 s2 t1 t2 dst):Put s s2 t t2 dst:=by
 refine ⟨λx hx=>?_⟩;obtain ⟨a1,a2,a3⟩:=h1.env x (by simp);obtain ⟨b1,b2,b3⟩:=h2.env x hx;exact ⟨λg=>b1 (a1 g),λg=>b2 (a2 g),λv g=>b3 v (a3 v g)⟩
theorem FI.step (q:FI P n pm ops fl LA LD (i::r) F s t) (hi:i ∉ idx F) {o:Oper} (ho:ops[i]? = some o) {s2:SA} {t2:St} (hp:Put s s2 t t2 o.dst):FI P n pm ops fl (LA.setIfInBounds i true) (LD.setIfInBounds i true) r F s2 t2:=by
 have hir:i ∉ r:=(List.nodup_cons.1 q.ndl).1;have hiA:=q.unl i List.mem_cons_self
 have hdst:∀ j ∈ fl,j≠i->∀ oj d,ops[j]? = some oj->isFl P n oj=some d->o.dst≠some d:=λj hj hne oj d h1 h2=>by
  obtain ⟨o4,d4,g1,g2,_,g4⟩:=q.isfl j hj;rw [h1] at g1;cases g1;rw [h2] at g2;cases g2;exact g4 i o ho (Ne.symm hne)
 refine ⟨?_,?_,?_,?_,q.ndF,(List.nodup_cons.1 q.ndl).2,?_,?_,q.isfl,?_,?_⟩
 ·intro j b hj;rw [bK,bK,q.size];split
  ·rfl
  ·exact q.same j b hj
 ·intro j hj;rw [bK];split
  ·rfl
  ·exact q.done j hj
 ·simp [q.size]
 ·intro j hj;obtain ⟨a1,a2⟩:=q.inl j hj;rcases List.mem_cons.1 a1 with rfl | a1
  ·exact absurd hj hi
  ·exact ⟨a1,a2⟩
 ·intro j hj hu;rw [bK] at hu;split at hu
  ·cases hu
  ·rename_i g;rcases List.mem_cons.1 (q.mem j hj hu) with rfl | h2
   ·exact absurd ⟨rfl,dM hiA⟩ g
   ·exact h2
 ·intro j hj;rw [bK,if_neg (λg=>hir (by rw [g.1];exact hj))];exact q.unl j (List.mem_cons_of_mem _ hj)
 ·intro j hj hjr o3 d3 h3 h4;obtain ⟨f1,f2⟩:=q.fresh j hj (List.mem_cons_of_mem _ hjr) o3 d3 h3 h4;obtain ⟨p1,p2,_⟩:=hp.env d3 (hdst j hj (λg=>hir (by rw [<-g];exact hjr)) o3 d3 h3 h4);exact ⟨p1 f1,p2 f2⟩
 ·intro e he;obtain ⟨o2,d,ty,i2,z,k1,k2,k3,k4,k5,k6,k7⟩:=q.real e he;have hei:e.1 ∈ idx F:=List.mem_map.2 ⟨e,he,rfl⟩;refine ⟨o2,d,ty,i2,z,k1,k2,k3,k4,k5,k6,?_⟩;exact (hp.env d (hdst e.1 (q.inl _ hei).2 (λg=>hi (by rw [<-g];exact hei)) o2 d k1 k3)).2.2 _ k7
theorem dL {j:Nat}:∀ (l:List Nat),bY j l=l.filter λx=>x != j
 | []=>rfl
 | x::r=>by
  unfold bY;rw [List.filter_cons,dL r];by_cases h:x=j
  ·subst h;rw [gC.2 rfl];simp
  ·rw [aA9.2 h];simp [h]
theorem xC {j:Nat} {l:List Nat} (h:l.Nodup):bY j l=l.erase j:=by rw [dL,h.erase_eq_filter]
theorem FI.stepJ {j:Nat} (q:FI P n pm ops fl LA LD l F s t) (hl:j ∈ l) (hi:j ∉ idx F) {o:Oper} (ho:ops[j]? = some o) {s2:SA} {t2:St} (hp:Put s s2 t t2 o.dst):FI P n pm ops fl (LA.setIfInBounds j true) (LD.setIfInBounds j true) (bY j l) F s2 t2:=by
 have hir:j ∉ bY j l:=λg=>(cL.1 g).2 rfl;have hiA:=q.unl j hl
 have hdst:∀ k ∈ fl,k≠j->∀ ok d,ops[k]? = some ok->isFl P n ok=some d->o.dst≠some d:=λk hk hne ok d h1 h2=>by
  obtain ⟨o4,d4,g1,g2,_,g4⟩:=q.isfl k hk;rw [h1] at g1;cases g1;rw [h2] at g2;cases g2;exact g4 j o ho (Ne.symm hne)
 refine ⟨?_,?_,?_,?_,q.ndF,?_,?_,?_,q.isfl,?_,?_⟩
 ·intro k b hk;rw [bK,bK,q.size];split
  ·rfl
  ·exact q.same k b hk
 ·intro k hk;rw [bK];split
  ·rfl
  ·exact q.done k hk
 ·simp [q.size]
 ·intro k hk;obtain ⟨a1,a2⟩:=q.inl k hk;exact ⟨cL.2 ⟨a1,λg=>hi (by rw [<-g];exact hk)⟩,a2⟩
 ·rw [dL];exact q.ndl.filter _
 ·intro k hk hu;rw [bK] at hu;split at hu
  ·cases hu
  ·rename_i g;have h2:=q.mem k hk hu;exact cL.2 ⟨h2,λe=>g ⟨e.symm,by subst e;exact dM hiA⟩⟩
 ·intro k hk;obtain ⟨a1,a2⟩:=cL.1 hk;rw [bK,if_neg (λg=>a2 g.1.symm)];exact q.unl k a1
 ·intro k hk hkr o3 d3 h3 h4;obtain ⟨a1,a2⟩:=cL.1 hkr;obtain ⟨f1,f2⟩:=q.fresh k hk a1 o3 d3 h3 h4;obtain ⟨p1,p2,_⟩:=hp.env d3 (hdst k hk a2 o3 d3 h3 h4);exact ⟨p1 f1,p2 f2⟩
 ·intro e he;obtain ⟨o2,d,ty,i2,z,k1,k2,k3,k4,k5,k6,k7⟩:=q.real e he;have hei:e.1 ∈ idx F:=List.mem_map.2 ⟨e,he,rfl⟩;refine ⟨o2,d,ty,i2,z,k1,k2,k3,k4,k5,k6,?_⟩;exact (hp.env d (hdst e.1 (q.inl _ hei).2 (λg=>hi (by rw [<-g];exact hei)) o2 d k1 k3)).2.2 _ k7
theorem uF {ops:List Oper} {fl:List Nat} {listed:Array Bool}:∀ {rs:List Nat},aBk ops fl listed rs=true->∀ j ∈ rs,∃ o,ops[j]? = some o/\o.guard=none/\nZ o.op=false/\isDf o.op=false/\j ∉ fl/\j ∈ Region.ready .any ops.toArray listed
 | [],_,_,h=>by simp at h
 | x::r,hf,j,hj=>by
  unfold aBk at hf;split at hf
  ·rename_i o ho;split at hf
   ·rename_i hg;simp only [Bool.and_eq_true,Bool.not_eq_true'] at hf;obtain ⟨a1,a2,a3,a4,a5⟩:=hf;rcases List.mem_cons.1 hj with rfl | hj
    ·exact ⟨o,ho,hg,a1,a2,gG.1 a3,by simpa using a4⟩
    ·exact uF a5 j hj
   ·cases hf
  ·cases hf
theorem aD5 {X:Nat->Prop}:∀ {rs:List Nat},aKV rs X->∀ j ∈ rs,X j
 | [],_,_,h=>by simp at h
 | [x],h,j,hj=>by
  simp only [List.mem_singleton] at hj;subst hj;exact h
 | x::y::r,h,j,hj=>by
  rcases List.mem_cons.1 hj with rfl | hj
  ·exact h.1
  ·exact aD5 h.2 j hj
theorem aEW (q:FI P n pm ops fl LA LD l F s t) {i:Nat} (hrs:aBk ops fl LA (readyF ops fl LA)=true) :
  (∀ j ∈ readyF ops fl LA,j ∈ Region.ready .any ops.toArray LD)/\∀ j ∈ Region.ready .any ops.toArray LD,j ∈ readyF ops fl LA\/(j ∈ fl/\j ∈ l/\j ∉ idx F):=by
 constructor
 ·intro j hj;obtain ⟨o,ho,_,_,_,hjf,hA⟩:=uF hrs j hj;obtain ⟨g1,o',g2,g3⟩:=mem_ready.1 hA;have hjF:j ∉ idx F:=λg=>hjf (q.inl _ g).2;refine mem_ready.2 ⟨by rw [q.same j true hjF];exact g1,o',g2,λe he hb=>?_⟩;by_cases hm:e.on ∈ idx F
  ·exact q.done _ hm
  ·rw [q.same _ _ hm];exact g3 e he hb
 ·intro j hj;obtain ⟨g1,o,g2,g3⟩:=mem_ready.1 hj;have hjF:=q.noD g1;have hjA:LA.getD j true=false:=by rw [<-q.same j true hjF];exact g1
  by_cases hjf:j ∈ fl
  ·exact .inr ⟨hjf,q.mem j hjf hjA,hjF⟩
  ·left;refine mem_ready.2 ⟨?_,o,g2,λe he hb=>?_⟩
   ·rw [rP hjf];exact hjA
   ·have hd:=g3 e he hb;by_cases hm:e.on ∈ idx F
    ·refine rF (q.inl _ hm).2 ?_;rw [<-q.size];rcases Nat.lt_or_ge e.on LD.size with g | g
     ·exact g
     ·simp [Array.getElem?_eq_none g] at hd
    ·exact iM (by rw [<-q.same _ _ hm];exact hd)
theorem yN {l:List Nat}:∀ {m:List Nat},m.Nodup->(∀ x ∈ m,x ∈ l)->m.length<=l.length
 | [],_,_=>Nat.zero_le _
 | x::m,nd,h=>by
  obtain ⟨h1,h2⟩:=List.nodup_cons.1 nd;have hx:=h x List.mem_cons_self;have:=yN (l:=l.erase x) h2 λy hy=>(List.mem_erase_of_ne (λe=>h1 (by rw [<-e];exact hy))).2 (h y (List.mem_cons_of_mem _ hy));rw [List.length_erase_of_mem hx] at this;have:0<l.length:=List.length_pos_of_mem hx;simp only [List.length_cons];omega
def upS (β0:Nat->Nat) (bx0:Bxs) (S:AP):HP:=λh=>∃ A,Sim A (bxL β0 bx0) h/\S A
def Old (β0:Nat->Nat) (bx0:Bxs) (β:Nat->Nat) (bx:Bxs):Prop:=(∃ l1,bx=l1++bx0)/\∀ i ∈ bx0.map (·.1),β i=β0 i
theorem tX {S:AP} {β0:Nat->Nat} {bx0:Bxs} {E:Bx} (rb:RB E β s t A h) (ho:Old β0 bx0 β s.bx) (hS:S A):upS β0 bx0 S h:=by
 obtain ⟨⟨l1,h1⟩,h2⟩:=ho;refine ⟨A,rb.sim.keep ?_,hS⟩;rw [h1,<- rQ h2];have:bxL β (l1++bx0)++E=bxL β l1++(bxL β bx0++E):=by simp [bxL]
 rw [this];exact (List.sublist_append_left _ _).trans (List.sublist_append_right _ _)
theorem Old.step {β0 β':Nat->Nat} {bx0 bx bx':Bxs} (ho:Old β0 bx0 β bx) (h1:∃ l1,bx'=l1++bx) (h2:∀ i ∈ bx.map (·.1),β' i=β i):Old β0 bx0 β' bx':=by
 obtain ⟨⟨l1,e1⟩,e2⟩:=ho;obtain ⟨l2,e3⟩:=h1;refine ⟨⟨l2++l1,by rw [e3,e1,List.append_assoc]⟩,λi hi=>?_⟩;rw [h2 i (by rw [e1];simp only [List.map_append,List.mem_append];exact .inr hi)];exact e2 i hi
theorem RB.drop (rb:RB (EF F++E) β s t A h):RB E β s t A h:=⟨rb.env,rb.bv,rb.ds,rb.sim.keep ((List.Sublist.refl _).append (List.sublist_append_right _ _)),rb.nd⟩
theorem aC2 {o:Oper} (hle:∀ j,LA.getD j true=true->LD.getD j true=true) (hD:∀ k ∈ descG ops 0 [i],LD.getD k false=LA.getD k false) (h:qE ops LA i o=true):qE ops LD i o=true:=by
 unfold qE at h ⊢;rw [Bool.and_eq_true] at h ⊢;obtain ⟨h0,h⟩:=h;refine ⟨?_,?_⟩
 ·rw [List.all_eq_true] at h0 ⊢;intro k hk;rw [hD k hk];exact h0 k hk
 rw [List.all_eq_true] at h ⊢;intro j hj;have:=h j hj;rw [Bool.or_eq_true,Bool.or_eq_true] at this ⊢;rcases this with (h1 | h1) | h1
 ·exact .inl (.inl h1)
 ·exact .inl (.inr (hle j h1))
 ·exact .inr h1
theorem vS {l:List Nat}:∀ {m:List Nat},aD7 l m=true->∀ x ∈ m,x ∉ l
 | [],_,_,h=>by cases h
 | y::m,h,x,hx=>by
  unfold aD7 at h;split at h
  ·cases h
  ·rename_i hb;rcases List.mem_cons.1 hx with rfl | hx
   ·exact gG.1 hb
   ·exact vS h x hx
theorem aI0 {T:TypeId} {cells:List Value} {k:Nat} {K:Value->Prop} (h:ldX P T cells k K):∃ v,K v/\∀ K':Value->Prop,K' v->ldX P T cells k K':=by
 unfold ldX at h ⊢;split at h
 ·split at h
  ·split at h
   ·split at h
    ·exact ⟨_,h,λ_ h=>h⟩
    ·exact h.elim
   ·exact h.elim
  ·split at h
   ·split at h
    ·exact ⟨_,h,λ_ h=>h⟩
    ·exact h.elim
   ·exact h.elim
 ·exact h.elim
theorem aHz {o:Oper} {K K':Res->Prop} (hb:isBx s o=true) (h:opA P CA pm s o A (λx _ _=>K x) (λ_ _=>False) (λ_ _=>False))
  (hk:∀ x,(∀ A',opA P CA pm s o A' (λx' _ _=>zH x x') (λ_ _=>False) (λ_ _=>False))->K x->K' x):opA P CA pm s o A (λx _ _=>K' x) (λ_ _=>False) (λ_ _=>False):=by
 unfold isBx at hb;split at hb
 ·rename_i T a ho;split at hb
  ·rename_i p hp;unfold opA at h hk ⊢;rw [ho] at h hk ⊢;simp only [hp] at h hk ⊢;split at h
   ·rename_i cells T2 hx;simp only [hx] at h hk ⊢;obtain ⟨v,h1,h2⟩:=aI0 h;exact h2 _ (hk _ (λ_=>h2 _ rfl) h1)
   ·exact h.elim
  ·cases hb
 ·cases hb
theorem yT {c:CK} {a:Addr} {A:AH} {K K':Value->Prop} (h:aE8 c a A K) (hk:∀ v,K v->K' v):aE8 c a A K':=by
 cases c<;>(obtain ⟨n,h1,h2⟩:=h;exact ⟨n,h1,hk _ h2⟩)
theorem rG {a:Addr} {A:AH}:∀ (l:List CK) (n:Nat) (K K':List Value->Prop),aC7 l a n A K->(∀ v,K v->K' v)->aC7 l a n A K'
 | [],_,_,_,h,hk=>hk _ h
 | _::r,n,_,_,h,hk=>yT h λv h1=>rG r (n+1) _ _ h1 λvs=>hk _
theorem aBb {c:CK} {a:Addr} {A:AH}:Fun1 (aE8 c a A):=by
 intro K h;cases c<;>(obtain ⟨n,h1,h2⟩:=h;exact ⟨_,h2,n,h1,rfl⟩)
theorem aAI {a:Addr} {A:AH}:∀ (l:List CK) (n:Nat) (K:List Value->Prop),aC7 l a n A K->∃ vs,K vs/\aC7 l a n A (λus=>us=vs)
 | [],_,K,h=>⟨[],h,rfl⟩
 | c::r,n,K,h=>by
  obtain ⟨v,h1,h2⟩:=aBb _ h;obtain ⟨vs,h3,h4⟩:=aAI r (n+1) _ h1;refine ⟨v::vs,h3,yT h2 λu e=>?_⟩;subst e;exact rG r (n+1) _ _ h4 λus e=>by rw [e]
theorem ldDA_fun {t:TypeId} {a:Addr} {A:AH}:Fun1 (λK=>aE9 P t a A K):=by
 unfold aE9;split
 ·split
  ·split
   ·rename_i l _;split
    ·intro K h;obtain ⟨vs,h1,h2⟩:=aAI l 0 _ h;exact ⟨_,h1,rG l 0 _ _ h2 λus e=>by rw [e]⟩
    ·exact Fun1.no
   ·intro K h;obtain ⟨cs,h1,h2,h3⟩:=h;exact ⟨_,h3,cs,h1,h2,rfl⟩
  ·split
   ·exact aBb
   ·exact Fun1.no
 ·exact Fun1.no
theorem aAq:∀ (l:List CK) (K:List Value->Prop),exL l K->∃ vs,K vs/\exL l (λus=>us=vs)
 | [],K,h=>⟨[],h,rfl⟩
 | c::r,K,h=>by
  have mono:∀ (l:List CK) (K K':List Value->Prop),exL l K->(∀ v,K v->K' v)->exL l K':=by
   intro l
   induction l with
   | nil=>intro K K' h hk;exact hk _ h
   | cons c r ih=>intro K K' h hk;cases c<;>(obtain ⟨n,h⟩:=h;exact ⟨n,ih _ _ h λ_=>hk _⟩)
  cases c<;>(obtain ⟨n,h⟩:=h;obtain ⟨vs,h1,h2⟩:=aAq r _ h;exact ⟨_,h1,n,mono r _ _ h2 λus e=>by rw [e]⟩)
theorem yI:∀ (l:List CK) (K K':List Value->Prop),exL l K->(∀ v,K v->K' v)->exL l K':=by
 intro l
 induction l with
 | nil=>intro K K' h hk;exact hk _ h
 | cons c r ih=>intro K K' h hk;cases c<;>(obtain ⟨n,h⟩:=h;exact ⟨n,ih _ _ h λ_=>hk _⟩)
theorem aIg {t:TypeId} {v:Value} {H:Value->(Value->Prop)->Prop} (hH:∀ v,Fun1 (H v)):Fun1 (λK=>elD P t v λu=>H u K):=by
 unfold elD;split
 ·split
  ·split
   ·rename_i l _;intro K h;obtain ⟨vs,⟨h1,h2⟩,h3⟩:=aAq l _ h;obtain ⟨u,h4,h5⟩:=hH _ _ h2;exact ⟨u,h4,yI l _ _ h3 λus e=>by subst e;exact ⟨h1,h5⟩⟩
   ·exact Fun1.no
  ·split
   ·rename_i c _;intro K h;obtain ⟨vs,h1,h3⟩:=aAq [c] _ h;split at h1
    ·rename_i u;obtain ⟨h1,h2⟩:=h1;obtain ⟨x,h4,h5⟩:=hH _ _ h2;exact ⟨x,h4,yI [c] _ _ h3 λus e=>by subst e;exact ⟨h1,h5⟩⟩
    ·exact h1.elim
   ·exact Fun1.no
 ·exact Fun1.no
theorem ad_fun {v:Value} {G:Addr->(Value->Prop)->Prop} (hg:∀ a,Fun1 (G a)):Fun1 (λK=>jN v λa=>G a K):=Fun1.ad hg
theorem aB9 {b:Bool}:∀ (r:List Value) (x:Value),Fun1 (gD b x r)
 | [],x=>Fun1.val x
 | y::r,x=>by
  show Fun1 (λK=>mxD b x y λz=>gD b z r K);unfold mxD;split
  ·cases b
   ·exact aB9 r _
   ·exact aB9 r _
  ·exact Fun1.no
theorem aKN {t:TypeId} {x:Value} {A:AH}:Fun1 (λK=>aGE P t x A K):=by
 unfold aGE;split
 ·exact Fun1.val _
 ·exact Fun1.val _
 ·intro K h;obtain ⟨es,h1,h2⟩:=h;exact ⟨_,h2,es,h1,rfl⟩
 ·exact Fun1.no
theorem lk_fun {t:TypeId} {m ix:Value} {ok:Bool} {A:AH}:Fun1 (λK=>aFz P t m ix ok A K):=by
 unfold aFz;split
 ·rename_i kt et m' k key _;split
  ·refine Fun1.sel (G:=λK=>qP A m' k key λo=>eB P et λz=>elD P et (o.getD z) λv=>match ok with
    | true=>K (.tuple #[v,.bool o.isSome])
    | false=>K v) (H:=λ_=>False) (λK h=>?_) Fun1.no
   obtain ⟨es,h3,r,h4,h5⟩:=h
   have f:∀ (o:Option Value) (ok:Bool),Fun1 (λK=>eB P et λz=>elD P et (o.getD z) λv=>match ok with
    | true=>K (.tuple #[v,.bool o.isSome])
    | false=>K v):=λo ok=>Fun1.ze λz=>aIg (H:=λv K=>match ok with
    | true=>K (.tuple #[v,.bool o.isSome])
    | false=>K v) λv=>by cases ok<;>exact Fun1.val _
   obtain ⟨u,h6,h7⟩:=f _ ok _ h5;exact ⟨u,h6,es,h3,r,h4,h7⟩
  ·exact Fun1.no
 ·exact Fun1.no
theorem aD2 {ρ:Env} {o:Oper} {A:AH} (hq:nZ o.op=true) (hl:isL o.op=true):Fun1 λKq=>opV P CA ρ o A (λv _=>Kq v) (λ_ _=>False) (λ_ _=>False):=by
 obtain ⟨dst,op,ty,pos,after,guard⟩:=o;unfold opV;cases op<;>first | (cases hl;done) | skip
 case load t a=>exact Fun1.wv λv=>ad_fun λad=>ldDA_fun
 case lookup t m k ok=>exact Fun1.wv λvm=>Fun1.wv λvk=>lk_fun
 case call c=>
  obtain ⟨callee,args,ats⟩:=c;unfold aAr;cases callee with
  | value f=>cases hq
  | invoke r m=>cases hq
  | builtin b=>
   refine Fun1.wl λvs=>?_;unfold aH0;split<;>first | (cases hq;done) | exact Fun1.no | exact aKN | exact aB9 _ _
theorem yE {o:Oper} {K:Res->SA->AP} {Kp:Value->AP} {Kd:Deferred->AP} (hl:isL o.op=true) (hb:isBx s o=false):opA P CA pm s o A K Kp Kd=opV P CA s.env o A (λv=>K (.v v) s) Kp Kd:=by
 unfold isBx at hb;unfold opA;split<;>first | (rename_i ho;rw [ho] at hl;cases hl;done) | skip
 ·rename_i t a ho;rw [ho] at hb;simp only at hb;split
  ·rename_i hx;rw [hx] at hb;cases hb
  ·rfl
 ·rfl
theorem oT {i:Nat} {L L':Array Bool} (h:∀ k ∈ descG ops 0 [i],L.getD k false=L'.getD k false):aliveD ops i L=aliveD ops i L':=by
 unfold aliveD;rw [Bool.eq_iff_iff,List.all_eq_true,List.all_eq_true];constructor
 ·intro g k hk;rw [<-h k hk];exact g k hk
 ·intro g k hk;rw [h k hk];exact g k hk
theorem fJ {i j:Nat} {L:Array Bool} (h:aliveD ops i (L.setIfInBounds j true)=true):aliveD ops i L=true:=by
 unfold aliveD at *;rw [List.all_eq_true] at *;intro k hk;have:=h k hk;rw [Bool.or_eq_true] at this ⊢;rcases this with h1 | h1
 ·left;cases e:L.getD k false with
  | false=>rfl
  | true=>rw [getD_set_true e] at h1;cases h1
 ·exact .inr h1
structure PinU where
 i:Nat
 β:Nat->Nat
 bx:Bxs
 S:AP
structure PIv (P:Program) (CA:CTA) (ops:List Oper) (fl:List Nat) (LA:Array Bool) (pn:Pins) (pb:List Nat) (β:Nat->Nat) (bx:Bxs) (h:Hp) (PN:List PinU):Prop where
 nofl:∀ p ∈ PN,∀ k ∈ descG ops 0 [p.i],k ∉ fl
 src:∀ p ∈ PN,(p.bx=[]/\∃ ρ o v,(p.i,(ρ,(o,v))) ∈ pn/\p.S=λA=>opV P CA ρ o A (λv' _=>v'=v) (λ_ _=>False) (λ_ _=>False))\/(p.i ∈ pb/\p.S=λ_=>True)
 ok:∀ p ∈ PN,aliveD ops p.i LA=true->Old p.β p.bx β bx/\upS p.β p.bx p.S h
theorem lT {L:Array Bool}:∀ {l:List Nat},gZ ops L l=false->∀ i ∈ l,aliveD ops i L=false
 | [],_,_,h=>by simp at h
 | x::r,h,i,hi=>by
  unfold gZ at h;split at h
  ·cases h
  ·rename_i hb;rcases List.mem_cons.1 hi with rfl | hi
   ·simpa using hb
   ·exact lT h i hi
theorem jY {L:Array Bool} {X:Prop}:∀ {pn:Pins},mD P CA ops L A X pn->X/\∀ p ∈ pn,aliveD ops p.1 L=true->opV P CA p.2.1 p.2.2.1 A (λv _=>v=p.2.2.2) (λ_ _=>False) (λ_ _=>False)
 | [],h=>⟨h,λ_ hp=>by simp at hp⟩
 | q::r,h=>by
  unfold mD at h;split at h
  ·obtain ⟨h1,h2⟩:=h;obtain ⟨h3,h4⟩:=jY h2;refine ⟨h3,λp hp ha=>?_⟩;rcases List.mem_cons.1 hp with rfl | hp
   ·exact h1
   ·exact h4 p hp ha
  ·rename_i hb;obtain ⟨h3,h4⟩:=jY h;refine ⟨h3,λp hp ha=>?_⟩;rcases List.mem_cons.1 hp with rfl | hp
   ·rw [hb] at ha;cases ha
   ·exact h4 p hp ha
theorem PIv.step {pn:Pins} {pb:List Nat} {PN:List PinU} {LA':Array Bool} {β':Nat->Nat} {bx bx':Bxs} {h':Hp} (q:PIv P CA ops fl LA pn pb β bx h PN) (ha:∀ i,aliveD ops i LA'=true->aliveD ops i LA=true)
  (h1:∃ l1,bx'=l1++bx) (h2:∀ i ∈ bx.map (·.1),β' i=β i) (hh:∀ A' b,Sim A' b h->Sim A' b h'):PIv P CA ops fl LA' pn pb β' bx' h' PN:=
 ⟨q.nofl,q.src,λp hp hal=>by
  obtain ⟨o1,A0,o2,o3⟩:=q.ok p hp (ha _ hal);exact ⟨o1.step h1 h2,A0,hh _ _ o2,o3⟩⟩
theorem aHB {β:Nat->Nat} {x x':Res} {y y':Value} (h1:aBm β x y) (h2:aBm β x' y') (h:zH x x'):y'=y:=by
 cases x with
 | v a=>
  cases x' with
  | v b=>
   have e1:y=a:=h1;have e2:y'=b:=h2;have e3:b=a:=h;rw [e1,e2,e3]
  | b i2 o2=>exact h.elim
 | b i2 o2=>
  cases x' with
  | v b=>exact h.elim
  | b i3 o3=>
   have e1:y=_:=h1;have e2:y'=_:=h2;rw [e1,e2];unfold zH at h;simp only at h;split at h
   ·rename_i g;rw [Bool.and_eq_true] at g;rw [gC.1 g.1,gC.1 g.2]
   ·exact h.elim
theorem aEU {K:SA->AP} {Kp:Value->SA->AP} {K':St->HP} {Kp':Value->HP}:∀ (m f g0:Nat) (l:List Nat) (LA LD:Array Bool) (pn:Pins) (pb:List Nat) (PN:List PinU) (TC:Array Bool->HP) (F:FLs) (β:Nat->Nat) (s:SA) (t:St) (A:AH) (h:Hp),f+l.length<=m->f+F.length=l.length->
  FI P n pm ops fl LA LD l F s t->RB (EF F++E) β s t A h->PIv P CA ops fl LA pn pb β s.bx h PN->(∀ L h',(∀ p ∈ PN,aliveD ops p.i L=true->upS p.β p.bx p.S h')->TC L h')->bU P CA n pm ops fl g0 l LA pn pb s K Kp A->
  (∀ β' s' t' A' h',RB E β' s' t' A' h'->SamB s β s' β'->K s' A'->K' t' h')->(∀ v β' s' t' A' h',RB E β' s' t' A' h'->SamB s β s' β'->Kp v s' A'->Kp' v h')->
  cY P (nI CA) n ops f TC (fN F l) LD t K' Kp' h:=by
 intro m
 induction m with
 | zero=>
  intro f g0 l LA LD pn pb PN TC F β s t A h hm hf q rb pv hTC hh hk hp;have h0:l=[]:=List.length_eq_zero_iff.1 (by omega);have h1:f=0:=by omega
  subst h0 h1;have h2:F=[]:=List.length_eq_zero_iff.1 (by simp only [List.length_nil] at hf;omega);subst h2
  have hLL:Region.ready .any ops.toArray LD=Region.ready .any ops.toArray LA:=by
   unfold Region.ready;simp only [q.same _ _ (by simp [idx]:_ ∉ idx ([]:FLs))]
  unfold bU at hh;unfold cY;rw [hLL];split at hh
  ·rename_i e;exact ⟨e,hk β s t A h rb.drop (SamB.refl _ _) hh⟩
  ·exact hh.elim
 | succ m ih=>
  intro f g0 l LA LD pn pb PN TC F β s t A h hm hf q rb pv hTC hh hk hp;cases l with
  | nil=>
   simp only [List.length_nil] at hf;have h1:f=0:=by omega
   have h2:F=[]:=List.length_eq_zero_iff.1 (by omega);subst h1 h2
   have hLL:Region.ready .any ops.toArray LD=Region.ready .any ops.toArray LA:=by
    unfold Region.ready;simp only [q.same _ _ (by simp [idx]:_ ∉ idx ([]:FLs))]
   unfold bU at hh;unfold cY;rw [hLL];split at hh
   ·rename_i e;exact ⟨e,hk β s t A h rb.drop (SamB.refl _ _) hh⟩
   ·exact hh.elim
  | cons i r=>
   have hh0:=hh
   obtain ⟨g,rfl⟩:∃ g,g0=g+1:=by
    cases g0 with
    | zero=>unfold bU at hh;exact hh.elim
    | succ g=>exact ⟨g,rfl⟩
   have hir:i ∉ r:=(List.nodup_cons.1 q.ndl).1;have hiA:=q.unl i List.mem_cons_self;unfold bU at hh;split at hh
   ·rename_i o hoi;by_cases hiF:i ∈ idx F
    ·-- it came early
     have hif:=(q.inl i hiF).2;rw [eA.2 hif] at hh;simp only at hh;split at hh
     ·obtain ⟨F',β',s',A',g1,g2,g3,g4,g5,g6,g7,g8⟩:=aIU q rb hoi hif hiF hh;rw [g6];refine ih f g r _ LD pn pb PN TC F' β' s' t A' h (by simp at hm;omega) (by simp at hf;omega) g2 g3 (pv.step (λ_=>fJ) g7 g8 λ_ _ g=>g) hTC g1 (λβ2 s2 t2 A2 h2 r2 sb=>hk β2 s2 t2 A2 h2 r2 (g4.trans sb)) (λv β2 s2 t2 A2 h2 r2 sb=>hp v β2 s2 t2 A2 h2 r2 (g4.trans sb))
     ·exact hh.elim
    ·have hlenF:F.length<=r.length:=by
      have:=yN (l:=r) q.ndF λx hx=>by
       rcases List.mem_cons.1 (q.inl x hx).1 with rfl | h1
       ·exact absurd hx hiF
       ·exact h1
      simpa [idx] using this
     obtain ⟨f,rfl⟩:∃ k,f=k+1:=⟨f-1,by simp at hf;omega⟩;have hm':f+(i::r).length<=m:=by simp at hm ⊢;omega
     have hm2:f+r.length<=m:=by simp at hm;omega
     have hf2:f+F.length=r.length:=by simp at hf;omega
     have alD:∀ p ∈ PN,aliveD ops p.i LD=aliveD ops p.i LA:=λp hpm=>oT λk hk=>q.same k false λg=>pv.nofl p hpm k hk (q.inl k g).2;rw [lN hiF];unfold cY;refine ⟨o,hoi,?_⟩
     have early:∀ (j:Nat) (oj:Oper) (rest:List Nat),(∀ b cs ty,rest=fN ((j,(b,(cs,ty)))::F) (i::r))->ops[j]? = some oj->j ∈ fl->j ∈ i::r->j ∉ idx F->
       wM P (nI CA) n oj t (λs' h'=>TC (LD.setIfInBounds j true) h'/\cY P (nI CA) n ops f TC rest (LD.setIfInBounds j true) s' K' Kp' h') (λv _ h'=>Kp' v h') h:=by
      intro j oj rest hrest hoj hjf hjl hjF;refine aGn q rb hoj hjf hjl hjF λb cs ty t' h' q' rb' hup=>⟨hTC _ _ λp hpm hal=>?_,?_⟩
      ·obtain ⟨_,A0,o2,o3⟩:=pv.ok p hpm (by rw [<-alD p hpm];exact fJ hal);exact ⟨A0,hup _ _ o2,o3⟩
      ·rw [hrest b cs ty];exact ih f (g+1) (i::r) LA _ pn pb PN TC _ β s t' A h' hm' (by simp at hf ⊢;omega) q' rb' (pv.step (λ_ g=>g) ⟨[],rfl⟩ (λ_ _=>rfl) hup) hTC hh0 hk hp
     have hfl:∀ j,j ∈ fl->∀ oj,ops[j]? = some oj->nZ oj.op=false/\isDf oj.op=false/\oj.guard=none:=λj hj oj hoj=>by
      obtain ⟨o2,d,g1,g2,_,_⟩:=q.isfl j hj;rw [hoj] at g1;cases g1;obtain ⟨e1,_,_,ty,_,_,e5,_,_⟩:=tP g2;rw [e5];exact ⟨rfl,rfl,e1⟩
     have hrest0:∀ j b cs ty,j≠i->j ∈ i::r->j ∉ idx F->i::(fN F r).erase j=fN ((j,(b,(cs,ty)))::F) (i::r):=by
      intro j b cs ty hne hjl hjF
      have hi2:i ∉ idx ((j,(b,(cs,ty)))::F):=by
       simp only [idx,List.map_cons,List.mem_cons,not_or];exact ⟨Ne.symm hne,hiF⟩
      rw [lN hi2];congr 1;have nd:(fN F r).Nodup:=(List.nodup_cons.1 q.ndl).2.filter _;rw [nd.erase_eq_filter];unfold fN;rw [List.filter_filter];apply List.filter_congr;intro x _;simp only [idx,List.map_cons,List.contains_cons];cases (List.map (λe=>e.fst) F).contains x<;>cases hx:x==j<;>simp [bne,hx]
     have branch:∀ j ∈ Region.ready .any ops.toArray LD,j≠i->(j ∈ fl/\j ∈ i::r/\j ∉ idx F)->∃ oj,ops[j]? = some oj/\nZ oj.op=false/\isDf oj.op=false/\oj.guard=none/\
       wM P (nI CA) n oj t (λs' h'=>TC (LD.setIfInBounds j true) h'/\cY P (nI CA) n ops f TC (i::(fN F r).erase j) (LD.setIfInBounds j true) s' K' Kp' h') (λv _ h'=>Kp' v h') h:=by
      intro j hj hne ⟨h1,h2,h3⟩;obtain ⟨_,oj,hoj,_⟩:=mem_ready.1 hj;have hoj2:ops[j]? = some oj:=by simpa using hoj
      obtain ⟨a1,a2,a3⟩:=hfl j h1 oj hoj2;refine ⟨oj,hoj2,a1,a2,a3,?_⟩;exact early j oj _ (λb cs ty=>hrest0 j b cs ty hne h2 h3) hoj2 h1 h2 h3
     cases hif:memN i fl with
     | true=>
      rw [hif] at hh;simp only at hh;split at hh
      ·rename_i h1;obtain ⟨hr1,hr2⟩:=rK q hiF h1;have hif2:=eA.1 hif;obtain ⟨a1,a2,a3⟩:=hfl i hif2 o hoi;refine .inr ⟨λe=>(by rw [e] at hr1;cases hr1),λj hj=>?_⟩;by_cases hne:j=i
       ·subst hne;refine .inl ⟨rfl,.inr ⟨a1,a2,?_⟩⟩;unfold grd;rw [a3];refine early j o (fN F r) (λb cs ty=>?_) hoi hif2 List.mem_cons_self hiF;unfold fN;rw [List.filter_cons,if_neg (by simp [idx])];apply List.filter_congr;intro x hx;have hne2:x≠j:=λg=>hir (by rw [<-g];exact hx);simp only [idx,List.map_cons,List.contains_cons];have:(x==j)=false:=by simpa using hne2
        rw [this,Bool.false_or]
       ·rcases hr2 j hj with h2 | h2
        ·exact absurd h2 hne
        ·exact .inr ⟨hne,branch j hj hne h2⟩
      ·exact hh.elim
     | false=>
      rw [hif] at hh;simp only at hh;have hif2:=gG.1 hif
      have next:∀ (pn':Pins) (pb':List Nat) (PN':List PinU) (TC':Array Bool->HP) (β':Nat->Nat) (s2:SA) (t2:St) (A':AH) (h':Hp),RB (EF F++E) β' s2 t2 A' h'->SamB s β s2 β'->Put s s2 t t2 o.dst->
        PIv P CA ops fl (LA.setIfInBounds i true) pn' pb' β' s2.bx h' PN'->(∀ L h',(∀ p ∈ PN',aliveD ops p.i L=true->upS p.β p.bx p.S h')->TC' L h')->
        bU P CA n pm ops fl g r (LA.setIfInBounds i true) pn' pb' s2 K Kp A'->cY P (nI CA) n ops f TC' (fN F r) (LD.setIfInBounds i true) t2 K' Kp' h':=by
       intro pn' pb' PN' TC' β' s2 t2 A' h' rb2 sb2 pt pv2 hT2 hd;exact ih f g r _ _ pn' pb' PN' TC' F β' s2 t2 A' h' hm2 hf2 (q.step hiF hoi pt) rb2 pv2 hT2 hd (λβ3 s3 t3 A3 h3 r3 sb=>hk β3 s3 t3 A3 h3 r3 (sb2.trans sb)) (λv β3 s3 t3 A3 h3 r3 sb=>hp v β3 s3 t3 A3 h3 r3 (sb2.trans sb))
      have still:∀ (s2:SA),s2.bx=s.bx->PIv P CA ops fl (LA.setIfInBounds i true) pn pb β s2.bx h PN:=λs2 e=>by
       rw [e];exact pv.step (λ_=>fJ) ⟨[],rfl⟩ (λ_ _=>rfl) λ_ _ g=>g
      have fin:∀ (s1:SA) (t1:St),RB (EF F++E) β s1 t1 A h->SamB s β s1 β->s1.bx=s.bx->Put s s1 t t1 none->∀ x y,aBm β x y->(∀ i k,x = .b i k->∃ p,lookX s1.bx i=some p)->
        fE n s1 o.dst x (λs'=>bU P CA n pm ops fl g r (LA.setIfInBounds i true) pn pb s' K Kp A)->gJ n t1 o.dst y λs'=>cY P (nI CA) n ops f TC (fN F r) (LD.setIfInBounds i true) s' K' Kp' h:=by
       intro s1 t1 rb1 sb1 eb1 pt1 x y hxy hb h3;exact eX rb1 hxy hb h3 λs2 t2 rb2 sb2 eb2 pt2 hd=>next pn pb PN TC β s2 t2 A h rb2 (sb1.trans sb2) (pt1.comp pt2) (still s2 (by rw [eb2,eb1])) hTC hd
      have skip:∀ (s1:SA) (t1:St),RB (EF F++E) β s1 t1 A h->SamB s β s1 β->s1.bx=s.bx->Put s s1 t t1 none->
        fE n s1 o.dst (.v undef) (λs'=>bU P CA n pm ops fl g r (LA.setIfInBounds i true) pn pb s' K Kp A)->gJ n t1 o.dst undef λs'=>cY P (nI CA) n ops f TC (fN F r) (LD.setIfInBounds i true) s' K' Kp' h:=
       λs1 t1 rb1 sb1 eb1 pt1 h1=>fin s1 t1 rb1 sb1 eb1 pt1 (.v undef) undef rfl (λ_ _ e=>by cases e) h1
      split at hh
      ·rename_i hq;split at hh
       ·rename_i h1;obtain ⟨hr1,hr2⟩:=rK q hiF h1;refine .inr ⟨λe=>(by rw [e] at hr1;cases hr1),λj hj=>?_⟩;by_cases hne:j=i
        ·refine .inl ⟨hne,.inl ⟨hq,?_⟩⟩;unfold aLz;refine pD rb hh (λs1 t1 rb1 sb1 eb1 ev1 pt1 h2=>?_) λs1 t1 rb1 sb1 eb1 ev1 pt1 h2=>skip s1 t1 rb1 sb1 eb1 pt1 h2
         exact qR (KQ:=λx=>fE n s1 o.dst x λs'=>bU P CA n pm ops fl g r (LA.setIfInBounds i true) pn pb s' K Kp A)
          (KQ':=λy=>gJ n t1 o.dst y λs'=>cY P (nI CA) n ops f TC (fN F r) (LD.setIfInBounds i true) s' K' Kp' h) hq rb1 h2 (λx y hxy hb h3=>fin s1 t1 rb1 sb1 eb1 pt1 x y hxy hb h3) (λ_ _ _ h=>h.elim)
        ·rcases hr2 j hj with h2 | h2
         ·exact absurd h2 hne
         ·exact .inr ⟨hne,branch j hj hne h2⟩
       ·split at hh
        ·rename_i hb;rw [Bool.and_eq_true,Bool.and_eq_true] at hb;obtain ⟨⟨hb1,hb2⟩,hb3⟩:=hb;have hA:i ∈ Region.ready .any ops.toArray LA:=by simpa using hb1
         have hnofl:∀ k ∈ descG ops 0 [i],k ∉ fl:=vS hb3;refine .inl ⟨hq,?_,aC2 (λj hj=>?_) (λk hk=>q.same k false λg=>vS hb3 k hk (q.inl k g).2) hb2,?_⟩
         ·obtain ⟨g1,o2,g2,g3⟩:=mem_ready.1 hA;refine mem_ready.2 ⟨by rw [q.same i true hiF];exact g1,o2,g2,λe he hb=>?_⟩;by_cases hm3:e.on ∈ idx F
          ·exact q.done _ hm3
          ·rw [q.same _ _ hm3];exact g3 e he hb
         ·by_cases hm3:j ∈ idx F
          ·exact aAk (q.done _ hm3)
          ·rw [q.same _ _ hm3];exact hj
         ·refine pD rb hh (λs1 t1 rb1 sb1 eb1 ev1 pt1 h2=>?_) λs1 t1 rb1 sb1 eb1 ev1 pt1 h2=>skip s1 t1 rb1 sb1 eb1 pt1 h2;cases hl:isL o.op with
          | false=>
           simp only [hl] at h2;refine qR (KQ:=λx=>fE n s1 o.dst x λs'=>bU P CA n pm ops fl g r (LA.setIfInBounds i true) pn pb s' K Kp A) (KQ':=_) hq rb1 h2 (λx y hxy hb h3=>?_) (λ_ _ _ h=>h.elim);refine eX rb1 hxy hb h3 λs2 t2 rb2 sb2 eb2 pt2 hd=>next pn pb PN _ β s2 t2 A h rb2 (sb1.trans sb2) (pt1.comp pt2) (still s2 (by rw [eb2,eb1])) (λL h' g=>⟨hTC L h' g,λe=>?_⟩) hd
           rw [hl] at e;cases e
          | true=>
           simp only [hl] at h2;cases hbx:isBx s1 o with
           | true=>
            simp only [hbx] at h2
            have h3:=aHz (K:=λx=>fE n s1 o.dst x λs'=>bU P CA n pm ops fl g r (LA.setIfInBounds i true) pn (i::pb) s' K Kp A)
             (K':=λx=>(∀ A',opA P CA pm s1 o A' (λx' _ _=>zH x x') (λ_ _=>False) (λ_ _=>False))/\fE n s1 o.dst x λs'=>bU P CA n pm ops fl g r (LA.setIfInBounds i true) pn (i::pb) s' K Kp A) hbx h2 λx h7 h8=>⟨h7,h8⟩
            refine qR (KQ:=λx=>(∀ A',opA P CA pm s1 o A' (λx' _ _=>zH x x') (λ_ _=>False) (λ_ _=>False))/\fE n s1 o.dst x λs'=>bU P CA n pm ops fl g r (LA.setIfInBounds i true) pn (i::pb) s' K Kp A) (KQ':=_) hq rb1 h3 (λx y hxy hb h4=>?_) (λ_ _ _ h=>h.elim);obtain ⟨h5,h6⟩:=h4;refine eX rb1 hxy hb h6 λs2 t2 rb2 sb2 eb2 pt2 hd=>next pn (i::pb) (⟨i,β,s.bx,λ_=>True⟩::PN) _ β s2 t2 A h rb2 (sb1.trans sb2) (pt1.comp pt2) ?_ (λL h' g=>⟨hTC L h' λp hp=>g p (List.mem_cons_of_mem _ hp),λ_ hal=>?_⟩) hd
            ·have st:=still s2 (by rw [eb2,eb1]);refine ⟨λp hp=>?_,λp hp=>?_,λp hp hal=>?_⟩
             ·rcases List.mem_cons.1 hp with rfl | hp
              ·exact hnofl
              ·exact st.nofl p hp
             ·rcases List.mem_cons.1 hp with rfl | hp
              ·exact .inr ⟨List.mem_cons_self,rfl⟩
              ·rcases st.src p hp with g | ⟨g1,g2⟩
               ·exact .inl g
               ·exact .inr ⟨List.mem_cons_of_mem _ g1,g2⟩
             ·rcases List.mem_cons.1 hp with rfl | hp
              ·refine ⟨by rw [eb2,eb1];exact ⟨⟨[],rfl⟩,λ_ _=>rfl⟩,tX rb2.drop (β0:=β) (bx0:=s.bx) (S:=λ_=>True) ?_ trivial⟩;rw [eb2,eb1];exact ⟨⟨[],rfl⟩,λ_ _=>rfl⟩
              ·exact st.ok p hp hal
            ·obtain ⟨A',hsim,_⟩:=g _ List.mem_cons_self hal;have rb3:RB [] β s1 t1 A' h':=⟨rb1.env,rb1.bv,rb1.ds,by rw [List.append_nil,eb1];exact hsim,rb1.nd⟩;exact qR (KQ:=λx'=>zH x x') (KQ':=λv'=>v'=y) hq rb3 (h5 A') (λx' y' hxy' _ h7=>aHB hxy hxy' h7) (λ_ _ _ h=>h.elim)
           | false=>
            simp only [hbx] at h2;rw [yE hl hbx] at h2;obtain ⟨v,h3,h4⟩:=aD2 hq hl _ h2
            have h5:opA P CA pm s1 o A (λx _ _=>x = .v v/\fE n s1 o.dst (.v v) λs'=>bU P CA n pm ops fl g r (LA.setIfInBounds i true) ((i,(s1.env,(o,v)))::pn) pb s' K Kp A) (λ_ _=>False) (λ_ _=>False):=by
             rw [yE hl hbx];obtain ⟨v',h6,h7⟩:=aD2 hq hl _ h4;subst h6
             have e:(λ(u:Value) (_:AH)=>Res.v u=Res.v v'/\fE n s1 o.dst (.v v') λs'=>bU P CA n pm ops fl g r (LA.setIfInBounds i true) ((i,(s1.env,(o,v')))::pn) pb s' K Kp A)=λu _=>u=v':=by
              funext u _;simp only [Res.v.injEq,eq_iff_iff];exact ⟨λg=>g.1,λg=>⟨g,h3⟩⟩
             exact e ▸ h7
            refine qR (KQ:=λx=>x = .v v/\fE n s1 o.dst (.v v) λs'=>bU P CA n pm ops fl g r (LA.setIfInBounds i true) ((i,(s1.env,(o,v)))::pn) pb s' K Kp A) (KQ':=_) hq rb1 h5 (λx y hxy hb h6=>?_) (λ_ _ _ h=>h.elim);obtain ⟨rfl,h6⟩:=h6;have hy:y=v:=hxy;subst hy;refine eX rb1 hxy hb h6 λs2 t2 rb2 sb2 eb2 pt2 hd=>next _ pb (⟨i,β,[],λA=>opV P CA s1.env o A (λv' _=>v'=y) (λ_ _=>False) (λ_ _=>False)⟩::PN) _ β s2 t2 A h rb2 (sb1.trans sb2) (pt1.comp pt2) ?_ (λL h' g=>⟨hTC L h' λp hp=>g p (List.mem_cons_of_mem _ hp),λ_ hal=>?_⟩) hd
            ·have st:=still s2 (by rw [eb2,eb1]);refine ⟨λp hp=>?_,λp hp=>?_,λp hp hal=>?_⟩
             ·rcases List.mem_cons.1 hp with rfl | hp
              ·exact hnofl
              ·exact st.nofl p hp
             ·rcases List.mem_cons.1 hp with rfl | hp
              ·exact .inl ⟨rfl,_,_,_,List.mem_cons_self,rfl⟩
              ·rcases st.src p hp with ⟨g1,ρ,o',v',g2,g3⟩ | g
               ·exact .inl ⟨g1,ρ,o',v',List.mem_cons_of_mem _ g2,g3⟩
               ·exact .inr g
             ·rcases List.mem_cons.1 hp with rfl | hp
              ·have ol:Old β [] β s2.bx:=⟨⟨s2.bx,(List.append_nil _).symm⟩,λ_ _=>rfl⟩;exact ⟨ol,tX rb2.drop ol h4⟩
              ·exact st.ok p hp hal
            ·obtain ⟨A',hsim,hS⟩:=g _ List.mem_cons_self hal;exact aGY (CA:=CA) (Kp:=λ_ _=>False) (Kp':=λ_ _=>False) (Kd:=λ_ _=>False) (Kd':=λ_ _=>False) rb1.env hsim hS (λ_ _ _ _ g=>g) (λ_ _ _ _ g=>g) (λ_ _ _ _ g=>g)
        ·exact hh.elim
      ·rename_i hq;have hq:nZ o.op=false:=by simpa using hq
       split at hh
       ·rename_i h1 hdf;obtain ⟨hr1,hr2⟩:=rK q hiF h1;have alD2:∀ p ∈ PN,aliveD ops p.i (LD.setIfInBounds i true)=true->aliveD ops p.i LA=true:=λp hpm hal=>by rw [<-alD p hpm];exact fJ hal
        have alD3:∀ p ∈ PN,aliveD ops p.i (LD.setIfInBounds i true)=aliveD ops p.i (LA.setIfInBounds i true):=λp hpm=>oT λk hk=>by
         rw [bK,bK,q.size,q.same k false λg=>pv.nofl p hpm k hk (q.inl k g).2]
        refine .inr ⟨λe=>(by rw [e] at hr1;cases hr1),λj hj=>?_⟩;by_cases hne:j=i
        ·refine .inl ⟨hne,.inr ⟨hq,hdf,?_⟩⟩;refine pD rb hh (λs1 t1 rb1 sb1 eb1 ev1 pt1 h2=>?_) λs1 t1 rb1 sb1 eb1 ev1 pt1 h2=>?_
         ·refine aCM rb1 h2 (λβ2 s2 t2 A2 h2' rb2 sb2 pt2 hB hd=>?_) (λv A' h' rb'=>hp v β s1 t1 A' h' rb'.drop sb1);split at hd
          ·exact hd.elim
          ·rename_i hst;obtain ⟨hd,hre⟩:=jY hd
           have pv2:PIv P CA ops fl (LA.setIfInBounds i true) pn pb β2 s2.bx h2' PN:=by
            refine ⟨pv.nofl,pv.src,λp hpm hal=>?_⟩
            have ol:Old p.β p.bx β2 s2.bx:=by
             obtain ⟨ol0,_⟩:=pv.ok p hpm (fJ hal);rcases pv.src p hpm with ⟨g1,_⟩ | ⟨g1,g2⟩
             ·rw [g1];exact ⟨⟨s2.bx,(List.append_nil _).symm⟩,λ_ hi=>by simp at hi⟩
             ·have hnst:isSt s1 o=false:=by
               cases e:isSt s1 o with
               | false=>rfl
               | true=>
                rw [e,Bool.true_and] at hst;have hst2:gZ ops (LA.setIfInBounds i true) pb=false:=by simpa using hst
                have:=lT hst2 p.i g1;rw [hal] at this;cases this
              obtain ⟨l1,b1,_,b2⟩:=hB hnst;rw [<-eb1] at ol0;exact ol0.step ⟨l1,b1⟩ b2
            refine ⟨ol,tX rb2.drop ol ?_⟩;rcases pv.src p hpm with ⟨g1,ρ,o',v',g2,g3⟩ | ⟨g1,g2⟩
            ·rw [g3];exact hre _ g2 hal
            ·rw [g2];trivial
           refine ⟨hTC _ _ λp hpm hal=>(pv2.ok p hpm (by rw [<-alD3 p hpm];exact hal)).2,next pn pb PN TC β2 s2 t2 A2 h2' rb2 (sb1.trans sb2) (pt1.comp pt2) pv2 hTC hd⟩
         ·refine eX rb1 (x:=.v undef) (y:=undef) rfl (λ_ _ e=>by cases e) h2 λs2 t2 rb2 sb2 eb2 pt2 hd=>⟨hTC _ _ λp hpm hal=>(pv.ok p hpm (alD2 p hpm hal)).2,next pn pb PN TC β s2 t2 A h rb2 (sb1.trans sb2) (pt1.comp pt2) (still s2 (by rw [eb2,eb1])) hTC hd⟩
        ·rcases hr2 j hj with h2 | h2
         ·exact absurd h2 hne
         ·exact .inr ⟨hne,branch j hj hne h2⟩
       ·-- any of some
        split at hh
        ·rename_i hany;rw [Bool.and_eq_true] at hany;obtain ⟨hany0,hany⟩:=hany;have hir0:=eA.1 hany0;obtain ⟨hy1,hy2⟩:=aEW (i:=i) q hany;have nd:(fN F (i::r)).Nodup:=q.ndl.filter _;refine .inr ⟨λe=>(by have:=hy1 i hir0;rw [e] at this;cases this),λj hj=>?_⟩;rcases hy2 j hj with hjr | hjf
         ·obtain ⟨oj,hoj,a1,a2,a3,a4,a5⟩:=uF hany j hjr;have hx:=aD5 hh j hjr;simp only [hoj] at hx;have hjF:j ∉ idx F:=λg=>a4 (q.inl _ g).2
          have hjl:j ∈ i::r:=by
           cases hm:memN j (i::r) with
           | true=>exact eA.1 hm
           | false=>rw [hm] at hx;exact hx.elim
          rw [eA.2 hjl] at hx;simp only at hx
          have hex:∀ rest,rest=fN F (bY j (i::r))->wM P (nI CA) n oj t (λs' h'=>TC (LD.setIfInBounds j true) h'/\cY P (nI CA) n ops f TC rest (LD.setIfInBounds j true) s' K' Kp' h') (λv _ h'=>Kp' v h') h:=by
           intro rest hrest;subst hrest;refine aCM rb hx (λβ2 s2 t2 A2 h2' rb2 sb2 pt2 hB hd=>?_) (λv A' h' rb'=>hp v β s t A' h' rb'.drop (SamB.refl _ _));split at hd
           ·exact hd.elim
           ·rename_i hst;obtain ⟨hd,hre⟩:=jY hd
            have alD3:∀ p ∈ PN,aliveD ops p.i (LD.setIfInBounds j true)=aliveD ops p.i (LA.setIfInBounds j true):=λp hpm=>oT λk hk=>by
             rw [bK,bK,q.size,q.same k false λg=>pv.nofl p hpm k hk (q.inl k g).2]
            have pv2:PIv P CA ops fl (LA.setIfInBounds j true) pn pb β2 s2.bx h2' PN:=by
             refine ⟨pv.nofl,pv.src,λp hpm hal=>?_⟩
             have ol:Old p.β p.bx β2 s2.bx:=by
              obtain ⟨ol0,_⟩:=pv.ok p hpm (fJ hal);rcases pv.src p hpm with ⟨g1,_⟩ | ⟨g1,g2⟩
              ·rw [g1];exact ⟨⟨s2.bx,(List.append_nil _).symm⟩,λ_ hi=>by simp at hi⟩
              ·have hnst:isSt s oj=false:=by
                cases e:isSt s oj with
                | false=>rfl
                | true=>
                 rw [e,Bool.true_and] at hst;have hst2:gZ ops (LA.setIfInBounds j true) pb=false:=by simpa using hst
                 have:=lT hst2 p.i g1;rw [hal] at this;cases this
               obtain ⟨l1,b1,_,b2⟩:=hB hnst;exact ol0.step ⟨l1,b1⟩ b2
             refine ⟨ol,tX rb2.drop ol ?_⟩;rcases pv.src p hpm with ⟨g1,ρ,o',v',g2,g3⟩ | ⟨g1,g2⟩
             ·rw [g3];exact hre _ g2 hal
             ·rw [g2];trivial
            have hlw:(bY j (i::r)).length+1=(i::r).length:=by
             rw [xC q.ndl,List.length_erase_of_mem hjl];simp
            have q2:=q.stepJ hjl hjF hoj pt2;refine ⟨hTC _ _ λp hpm hal=>(pv2.ok p hpm (by rw [<-alD3 p hpm];exact hal)).2,?_⟩;refine ih f g (bY j (i::r)) _ _ pn pb PN TC F β2 s2 t2 A2 h2' (by omega) (by simp only [List.length_cons] at hf hlw;omega) q2 rb2 pv2 hTC hd (λβ3 s3 t3 A3 h3 r3 sb=>hk β3 s3 t3 A3 h3 r3 (sb2.trans sb)) (λv β3 s3 t3 A3 h3 r3 sb=>hp v β3 s3 t3 A3 h3 r3 (sb2.trans sb))
          by_cases hne:j=i
          ·refine .inl ⟨hne,.inr ?_⟩;subst hne;have eo:o=oj:=by rw [hoi] at hoj;exact Option.some.inj hoj
           subst eo;refine ⟨a2,a3,?_⟩;unfold grd;rw [a1];refine hex (fN F r) ?_
           rw [dL,List.filter_cons,if_neg (by simp),List.filter_eq_self.2 λx hx=>by
            have:x≠j:=λg=>hir (by rw [<-g];exact hx);simpa using this]
          ·refine .inr ⟨hne,oj,hoj,a2,a3,a1,hex _ ?_⟩;rw [dL];unfold fN;rw [List.filter_filter,List.filter_cons,if_pos (by simp [hiF,Ne.symm hne])];congr 1;have nd2:(List.filter (λj=>!(idx F).contains j) r).Nodup:=(List.nodup_cons.1 q.ndl).2.filter _;rw [nd2.erase_eq_filter,List.filter_filter];apply List.filter_congr;intro x _;exact Bool.and_comm _ _
         ·by_cases hne:j=i
          ·exact absurd (hne ▸ hjf.1) hif2
          ·exact .inr ⟨hne,branch j hj hne hjf⟩
        ·exact hh.elim
       ·exact hh.elim
   ·exact hh.elim
end
end Go.Dn
