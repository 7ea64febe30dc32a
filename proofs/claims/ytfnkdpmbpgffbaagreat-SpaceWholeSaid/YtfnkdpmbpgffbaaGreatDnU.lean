/- What is asked over a part of the heap is enough for the whole: regions whose order is drawn. -/
import Derived.Test.YtfnkdpmbpgffbaaGreatDnT
namespace Go.Dn
abbrev FLs:=List (Nat × (Nat × (List Value × TypeId)))
def idx (F:FLs):List Nat:=F.map (·.1)
def EF (F:FLs):Bx:=F.map λe=>(e.2.1,e.2.2.1,e.2.2.2)
def fV (F:FLs) (l:List Nat):List Nat:=l.filter λj=>!(idx F).contains j
theorem bP (a:Array Bool) (i j:Nat) (b d:Bool):(a.setIfInBounds i b).getD j d=if i=j/\i<a.size then b else a.getD j d:=by
 by_cases h:i=j
 .simp_all
 .simp_all
theorem sZ {j:Nat} {d:Bool}:∀ {l:List Nat} {a:Array Bool},j ∉ l->(j9 l a).getD j d=a.getD j d
 | [],_,_=>rfl
 | i::r,a,h=>by
  unfold j9;rw [sZ (λg=>h (List.mem_cons_of_mem _ g)),bP,if_neg (λg=>h (by simp_all))]
theorem jZ {j:Nat}:∀ {l:List Nat} {a:Array Bool},a.getD j false=true->(j9 l a).getD j false=true
 | [],_,h=>h
 | i::r,a,h=>by
  unfold j9;refine jZ ?_;rw [bP];split
  .rfl
  .exact h
theorem tI {j:Nat}:∀ {l:List Nat} {a:Array Bool},j ∈ l->j<a.size->(j9 l a).getD j false=true
 | [],_,h,_=>by simp at h
 | i::r,a,h,g=>by
  unfold j9;rcases List.mem_cons.1 h with rfl | h
  .exact jZ (by simp_all)
  .exact tI h (by simp_all)
theorem cV {i j:Nat}:∀ {l:List Nat},j ∈ cI i l↔j ∈ l/\j≠i
 | []=>by simp [cI]
 | x::r=>by
  unfold cI;split
  .rename_i g;have:=lX.1 g;subst this;rw [cV];constructor
   .simp_all
   .grind
  .rename_i g;have:=aCi.1 g;rw [List.mem_cons,List.mem_cons,cV];constructor
   .grind
   .simp_all
theorem aEU {a:Array Bool} {j:Nat} (h:a.getD j false=true):a.getD j true=true:=by grind
theorem iQ {a:Array Bool} {j:Nat} (h:a.getD j true=false):j<a.size:=by grind
structure FI (P:Program) (n:Nat) (pm:List Nat) (ops:List Oper) (fl:List Nat) (LA LD:Array Bool) (l:List Nat) (F:FLs) (s:SA) (t:St):Prop where
 same:∀ j d,j ∉ idx F->LD.getD j d=LA.getD j d
 done:∀ j ∈ idx F,LD.getD j false=true
 size:LD.size=LA.size
 inl:∀ j ∈ idx F,j ∈ l/\j ∈ fl
 ndF:(idx F).Nodup
 ndl:l.Nodup
 mem:∀ j ∈ fl,LA.getD j true=false->j ∈ l
 unl:∀ j ∈ l,LA.getD j true=false
 isfl:∀ j ∈ fl,∃ o d,ops[j]? = some o/\isFl P n o=some d/\True/\∀ k ok,ops[k]? = some ok->k≠j->ok.dst≠some d
 fresh:∀ j ∈ fl,j ∈ l->∀ o d,ops[j]? = some o->isFl P n o=some d->look s.env d=none/\lookB s.bv d=none
 real:∀ e ∈ F,∃ o d ty i z,ops[e.1]? = some o/\o.op = .alloc ty/\isFl P n o=some d/\P.info? ty=some i/\i.zero=some z/\e.2.2=(z.cells.toList,ty)/\look t.env d=some (.pointer (some ⟨e.2.1,0,none⟩))
theorem vT {P:Program} {n:Nat} {o:Oper} {d:Nat} (h:isFl P n o=some d):o.guard=none/\o.dst=some d/\Nat.blt d n=true/\∃ ty i z,o.op = .alloc ty/\P.info? ty=some i/\i.zero=some z:=by
 unfold isFl at h;split at h
 .grind
 .cases h
section
variable {P:Program} {CA:CTA} {n:Nat} {pm:List Nat} {E:Bx} {A:AH} {h:Hp} {β:Nat->Nat} {s:SA} {t:St} {ops:List Oper} {fl:List Nat} {LA LD:Array Bool} {l r:List Nat} {F:FLs} {i:Nat}
theorem FI.noD (q:FI P n pm ops fl LA LD l F s t) {j:Nat} (a:LD.getD j true=false):j ∉ idx F:=λb=>by
 have:=aEU (q.done j b);rw [this] at a;cases a
theorem tW (q:FI P n pm ops fl LA LD l F s t) (hi:i ∉ idx F) (h1:aIm ops fl LA i=true):i ∈ Region.ready .any ops.toArray LD/\∀ j ∈ Region.ready .any ops.toArray LD,j=i\/(j ∈ fl/\j ∈ l/\j ∉ idx F):=by
 unfold aIm at h1;rw [Bool.and_eq_true] at h1;obtain ⟨h1,h2⟩:=h1;have hA:i ∈ Region.ready .any ops.toArray LA:=by simpa using h2
 have hone:=aJp h1;constructor
 ·obtain ⟨g1,o,g2,g3⟩:=mem_ready.1 hA;refine mem_ready.2 ⟨by rw [q.same i true hi];exact g1,o,g2,λe he hb=>?_⟩;by_cases hm:e.on ∈ idx F
  ·exact q.done _ hm
  ·rw [q.same _ _ hm];exact g3 e he hb
 ·intro j hj;obtain ⟨g1,o,g2,g3⟩:=mem_ready.1 hj;have hjF:=q.noD g1;have hjA:LA.getD j true=false:=by rw [<-q.same j true hjF];exact g1
  by_cases hjf:j ∈ fl
  ·exact .inr ⟨hjf,q.mem j hjf hjA,hjF⟩
  ·left
   have:j ∈ Region.ready .any ops.toArray (j9 (cI i fl) LA):=by
    refine mem_ready.2 ⟨?_,o,g2,λe he hb=>?_⟩
    ·rw [sZ (λg=>hjf (cV.1 g).1)];exact hjA
    ·have hd:=g3 e he hb;by_cases hm:e.on ∈ idx F
     ·refine tI (cV.2 ⟨(q.inl _ hm).2,λg=>hi (by simp_all)⟩) ?_;rw [<-q.size];rcases Nat.lt_or_ge e.on LD.size with g | g
      ·exact g
      ·simp_all
     ·exact jZ (by rw [<-q.same _ _ hm];exact hd)
   rw [hone] at this;simpa using this
theorem nP (hi:i ∉ idx F):fV F (i::r)=i::fV F r:=by
 unfold fV;rw [List.filter_cons,if_pos (by simp_all)]
theorem aHc {K:St->HP} {Kp:Value->St->HP} (q:FI P n pm ops fl LA LD l F s t) (m:RB (EF F++E) β s t A h) {j:Nat} {B:Oper} (c:ops[j]? = some B) (p:j ∈ fl) (v:j ∈ l) (w:j ∉ idx F)
  (T:∀ b cs ty t' h',FI P n pm ops fl LA (LD.setIfInBounds j true) l ((j,(b,(cs,ty)))::F) s t'->RB (EF ((j,(b,(cs,ty)))::F)++E) β s t' A h'->(∀ G bx,Sim G bx h->Sim G bx h')->K t' h') :
  yL P (qX CA) n B t K Kp h:=by
 obtain ⟨o,d,M,H,g3,U⟩:=q.isfl j p;rw [c] at M;cases M;obtain ⟨e1,V,W,ty,i,z,N,O,Q⟩:=vT H;unfold yL bT;rw [N];simp only;unfold eH;rw [O];simp only;rw [Q];simp only;unfold hZ;rw [V];simp only;rw [W];simp only;obtain ⟨X,Y⟩:=q.fresh j p v B d c H;have I:=q.unl j v;refine T h.size z.cells.toList ty _ _ ⟨?_,?_,?_,?_,?_,q.ndl,q.mem,q.unl,q.isfl,q.fresh,?_⟩ ⟨?_,?_,m.ds,?_,m.nd⟩ (λG bx Z=>?_)
 .intro k b a;simp only [idx,List.map_cons,List.mem_cons,not_or] at a;rw [bP,if_neg (λg=>a.1 g.1.symm)];exact q.same k b a.2
 .intro k a;simp only [idx,List.map_cons,List.mem_cons] at a;rw [bP];rcases a with rfl | a
  .rw [if_pos ⟨rfl,by rw [q.size];exact iQ I⟩]
  .split
   .rfl
   .exact q.done k a
 .simp [q.size]
 .intro k a;simp only [idx,List.map_cons,List.mem_cons] at a;rcases a with rfl | a
  .simp_all
  .exact q.inl k a
 .exact List.nodup_cons.2 ⟨w,q.ndF⟩
 .intro e C;rcases List.mem_cons.1 C with rfl | C
  .refine ⟨B,d,ty,i,z,c,N,H,O,Q,rfl,?_⟩;show look ((d,_)::t.env) d=_;rw [aO,if_pos rfl]
  .obtain ⟨D,R,J,i2,z2,k1,k2,S,k4,k5,k6,k7⟩:=q.real e C;refine ⟨D,R,J,i2,z2,k1,k2,S,k4,k5,k6,?_⟩;have L:e.1≠j:=λg=>w (by rw [<-g];exact List.mem_map.2 ⟨e,C,rfl⟩);have:=U e.1 D k1 L;rw [(vT S).2.1] at this;show look ((d,_)::t.env) R=_;rw [aO,if_neg (λg=>this (by rw [g]))];exact k7
 .intro x u f;show look ((d,_)::t.env) x=_;rw [aO,if_neg (λg=>by rw [<-g,X] at f;cases f)];exact m.env x u f
 .intro x j2 D f;obtain ⟨k1,k2⟩:=m.bv x j2 D f;refine ⟨?_,k2⟩;show look ((d,_)::t.env) x=_;rw [aO,if_neg (λg=>by rw [<-g,Y] at f;cases f)];exact k1
 .have y:=m.sim.boxNew z.cells.toList ty;rw [Array.toArray_toList] at y;refine y.perm ?_;show List.Perm ((h.size,z.cells.toList,ty)::(bxL β s.bx++(EF F++E))) (bxL β s.bx++((h.size,z.cells.toList,ty)::(EF F++E)));exact List.perm_middle.symm
 .have y:=Z.boxNew z.cells.toList ty;rw [Array.toArray_toList] at y;exact y.keep (List.sublist_cons_self _ _)
theorem aFM {e:Nat × (Nat × (List Value × TypeId))} (c:e ∈ F) (nd:(idx F).Nodup):∃ a b,F=a++e::b/\e.1 ∉ idx (a++b):=by
 obtain ⟨a,b,rfl⟩:=List.append_of_mem c;refine ⟨a,b,rfl,?_⟩;simp only [idx,List.map_append,List.map_cons] at nd ⊢;have:=(List.perm_middle.nodup_iff).1 nd;exact (List.nodup_cons.1 this).1
theorem aKk {o:Oper} {K:SA->AP} {Kp:Value->SA->AP} (q:FI P n pm ops fl LA LD (i::r) F s t) (y:RB (EF F++E) β s t A h) (ho:ops[i]? = some o) (hif:i ∈ fl) (G:i ∈ idx F) (a:exA P CA n pm o s K Kp A) :
  ∃ Z β' s' A',K s' A'/\FI P n pm ops fl (LA.setIfInBounds i true) LD r Z s' t/\RB (EF Z++E) β' s' t A' h/\SamB s β s' β'/\F.length=Z.length+1/\fV F (i::r)=fV Z r/\(∃ l1,s'.bx=l1++s.bx)/\∀ j ∈ s.bx.map (·.1),β' j=β j:=by
 obtain ⟨e,he,H⟩:=List.mem_map.1 G;obtain ⟨m,v,I,hno⟩:=aFM he q.ndF;obtain ⟨o2,d,ty,i2,z,k1,k2,k3,k4,k5,k6,k7⟩:=q.real e he;rw [H,ho] at k1;cases k1;obtain ⟨e1,e2,e3,_⟩:=vT k3;have J:i ∉ r:=(List.nodup_cons.1 q.ndl).1;rw [H] at hno;have hiA:=q.unl i List.mem_cons_self
 have p1:∀ j b,j ∉ idx (m++v)->LD.getD j b=(LA.setIfInBounds i true).getD j b:=by
  intro j b c;rw [bP];split
  .rename_i g;obtain ⟨rfl,_⟩:=g;have:=q.done i G;cases b
   .exact this
   .grind
  .rename_i g;refine q.same j b ?_;rw [I];simp only [idx,List.map_append,List.map_cons,List.mem_append,List.mem_cons,not_or] at c ⊢;refine ⟨c.1,λg2=>g ⟨by rw [g2,H],iQ hiA⟩,c.2⟩
 have p2:∀ j ∈ idx (m++v),LD.getD j false=true:=by
  intro j c;refine q.done j ?_;rw [I];simp only [idx,List.map_append,List.map_cons,List.mem_append,List.mem_cons] at c ⊢;rcases c with c | c
  .exact .inl c
  .simp_all
 have p3:LD.size=(LA.setIfInBounds i true).size:=by simp [q.size]
 have p4:∀ j ∈ idx (m++v),j ∈ r/\j ∈ fl:=by
  intro j c
  have hj2:j ∈ idx F:=by
   rw [I];simp only [idx,List.map_append,List.map_cons,List.mem_append,List.mem_cons] at c ⊢;rcases c with c | c
   .exact .inl c
   .simp_all
  obtain ⟨a1,a2⟩:=q.inl j hj2;rcases List.mem_cons.1 a1 with rfl | a1
  .simp_all
  .simp_all
 have p5:(idx (m++v)).Nodup:=by
  have:=q.ndF;rw [I] at this;simp only [idx,List.map_append,List.map_cons] at this ⊢;exact (List.nodup_cons.1 ((List.perm_middle.nodup_iff).1 this)).2
 have p6:∀ j ∈ fl,(LA.setIfInBounds i true).getD j true=false->j ∈ r:=by
  intro j c hu;rw [bP] at hu;split at hu
  .cases hu
  .rename_i g;rcases List.mem_cons.1 (q.mem j c hu) with rfl | h2
   .simp_all
   .exact h2
 have p7:∀ j ∈ r,(LA.setIfInBounds i true).getD j true=false:=by
  intro j c;rw [bP,if_neg (λg=>J (by simp_all))];exact q.unl j (List.mem_cons_of_mem _ c)
 have p8:∀ j ∈ fl,j ∈ r->∀ o d',ops[j]? = some o->isFl P n o=some d'->look s.env d'=none/\lookB s.bv d'=none/\d≠d':=by
  intro j c w B L C D;obtain ⟨R,S⟩:=q.fresh j c (List.mem_cons_of_mem _ w) B L C D;have k:i≠j:=λg=>J (by simp_all);obtain ⟨o4,d4,g1,g2,_,g4⟩:=q.isfl j c;rw [C] at g1;cases g1;rw [D] at g2;cases g2;have:=g4 i o ho k;rw [e2] at this;exact ⟨R,S,λg=>this (by rw [g])⟩
 have p9:∀ M ∈ m++v,M ∈ F:=by grind
 have T:F.length=(m++v).length+1:=by rw [I];simp;omega
 have U:fV F (i::r)=fV (m++v) r:=by
  have hm:i ∈ idx F:=G;unfold fV;rw [List.filter_cons,if_neg (by simp_all)];apply List.filter_congr;intro j c;have k:j≠i:=λg=>J (by simp_all);congr 1;rw [Bool.eq_iff_iff];simp only [List.contains_iff_mem];rw [I];simp only [idx,List.map_append,List.map_cons,List.mem_append,List.mem_cons];constructor
  .simp_all
  .simp_all
 have V:List.Perm (bxL β s.bx++(EF F++E)) ((e.2.1,z.cells.toList,ty)::(bxL β s.bx++(EF (m++v)++E))):=by
  have C:EF (m++e::v)=EF m++(e.2.1,z.cells.toList,ty)::EF v:=by
   simp only [EF,List.map_append,List.map_cons];rw [k6]
  have D:EF (m++v)=EF m++EF v:=by simp [EF]
  rw [I,C,D];have:bxL β s.bx++(EF m++(e.2.1,z.cells.toList,ty)::EF v++E)=(bxL β s.bx++EF m)++(e.2.1,z.cells.toList,ty)::(EF v++E):=by simp
  rw [this];refine List.perm_middle.trans ?_;simp
 unfold exA opA at a;rw [k2,e2] at a;simp only at a;cases e4:memN d pm with
 | true=>
  rw [e4] at a;simp only at a;unfold eH at a;rw [k4] at a;simp only at a;rw [k5] at a;simp only at a;have N:=aAP a;unfold aDz at a;split at a
  .rename_i n1 n2;unfold fT at a;simp only at a;rw [e3] at a;simp only at a;refine ⟨m++v,setF β d e.2.1,_,_,a,⟨p1,p2,p3,p4,p5,(List.nodup_cons.1 q.ndl).2,p6,p7,q.isfl,λj c w B L C D=>?_,λM O=>q.real M (p9 M O)⟩,⟨?_,?_,y.ds,?_,?_⟩,⟨rfl,rfl,?_⟩,T,U,⟨[_],rfl⟩,?_⟩
   .obtain ⟨R,S,f3⟩:=p8 j c w B L C D;refine ⟨jT R,?_⟩;show lookB ((d,_)::s.bv) L=none;rw [dF,if_neg f3];exact S
   .intro x u Q;exact y.env x u (fI _ Q).1
   .intro x W B Q;have f:lookB ((d,(d,0))::s.bv) x=some (W,B):=Q;rw [dF] at f;split at f
    .rename_i g;cases f;subst g;refine ⟨?_,_,by rw [bH,if_pos rfl]⟩;unfold setF;rw [if_pos rfl];exact k7
    .obtain ⟨a1,p,a2⟩:=y.bv x W B f;have k:W≠d:=λg=>by rw [g,n1] at a2;cases a2
     refine ⟨?_,p,?_⟩
     .unfold setF;rw [if_neg k];exact a1
     .rw [bH,if_neg (Ne.symm k)];exact a2
   .have h1:bxL (setF β d e.2.1) s.bx=bxL β s.bx:=sP λj c=>by
     unfold setF;rw [if_neg (λg=>N (by rw [<-g];exact c))]
    refine y.sim.perm ?_
    have h2:bxL (setF β d e.2.1) ((d,(z.cells.toList,ty))::s.bx)=(e.2.1,z.cells.toList,ty)::bxL β s.bx:=by
     rw [<-h1];simp [bxL,setF]
    show List.Perm _ (bxL (setF β d e.2.1) ((d,(z.cells.toList,ty))::s.bx)++_);rw [h2];exact V
   .exact List.nodup_cons.2 ⟨N,y.nd⟩
   .intro j c cs X hl;have Y:lookX ((d,(z.cells.toList,ty))::s.bx) j=some (cs,X):=hl;have k:j≠d:=λg=>(hP.1 n2) (by rw [<-g];exact c);rw [bH,if_neg (Ne.symm k)] at Y;exact ⟨by unfold setF;rw [if_neg k],cs,Y,rfl,λ_ _=>rfl⟩
   .intro j c;unfold setF;rw [if_neg (λg=>N (by rw [<-g];exact c))]
  .exact a.elim
 | false=>
  rw [e4] at a;simp only at a;unfold opV at a;rw [k2] at a;simp only at a;unfold eH at a;rw [k4] at a;simp only at a;rw [k5] at a;simp only at a;obtain ⟨u1,u2⟩:=(y.sim.perm V).unbox;rw [Array.toArray_toList] at u2;have a:=a e.2.1 u1;unfold fT at a;simp only at a;rw [e3] at a;simp only at a;refine ⟨m++v,β,_,_,a,⟨p1,p2,p3,p4,p5,(List.nodup_cons.1 q.ndl).2,p6,p7,q.isfl,λj c w B L C D=>?_,λM O=>q.real M (p9 M O)⟩,⟨?_,?_,y.ds,u2,y.nd⟩,⟨rfl,rfl,λj c cs X hl=>⟨rfl,cs,hl,rfl,λ_ _=>rfl⟩⟩,T,U,⟨[],rfl⟩,λ_ _=>rfl⟩
  .obtain ⟨R,S,f3⟩:=p8 j c w B L C D;refine ⟨?_,eR S⟩;show look ((d,_)::s.env) L=none;rw [aO,if_neg f3];exact R
  .intro x u Q;have f:look ((d,_)::s.env) x=some u:=Q;rw [aO] at f;split at f
   .rename_i g;cases f;subst g;exact k7
   .exact y.env x u f
  .intro x W B Q;exact y.bv x W B (lO Q).1
theorem Put.comp {s1 b:SA} {c t2:St} {a:Option Tmp} (d:Put s s1 t c none) (e:Put s1 b c t2 a):Put s b t t2 a:=by
 refine ⟨λx f=>?_⟩;obtain ⟨j,k,m⟩:=d.env x (by simp);obtain ⟨o,p,q⟩:=e.env x f;exact ⟨λg=>o (j g),λg=>p (k g),λv g=>q v (m v g)⟩
theorem FI.step (q:FI P n pm ops fl LA LD (i::r) F s t) (hi:i ∉ idx F) {o:Oper} (N:ops[i]? = some o) {y:SA} {t2:St} (B:Put s y t t2 o.dst):FI P n pm ops fl (LA.setIfInBounds i true) (LD.setIfInBounds i true) r F y t2:=by
 have f:i ∉ r:=(List.nodup_cons.1 q.ndl).1;have O:=q.unl i List.mem_cons_self
 have c:∀ j ∈ fl,j≠i->∀ m d,ops[j]? = some m->isFl P n m=some d->o.dst≠some d:=λj a p m d Q u=>by
  obtain ⟨o4,d4,C,D,_,R⟩:=q.isfl j a;rw [Q] at C;cases C;rw [u] at D;cases D;exact R i o N (Ne.symm p)
 refine ⟨?_,?_,?_,?_,q.ndF,(List.nodup_cons.1 q.ndl).2,?_,?_,q.isfl,?_,?_⟩
 .intro j b a;rw [bP,bP,q.size];split
  .rfl
  .exact q.same j b a
 .intro j a;rw [bP];split
  .rfl
  .exact q.done j a
 .simp [q.size]
 .intro j a;obtain ⟨G,a2⟩:=q.inl j a;rcases List.mem_cons.1 G with rfl | G
  .simp_all
  .simp_all
 .intro j a k;rw [bP] at k;split at k
  .cases k
  .rename_i g;rcases List.mem_cons.1 (q.mem j a k) with rfl | u
   .simp_all
   .exact u
 .intro j a;rw [bP,if_neg (λg=>f (by simp_all))];exact q.unl j (List.mem_cons_of_mem _ a)
 .intro j a v H w I J;obtain ⟨S,T⟩:=q.fresh j a (List.mem_cons_of_mem _ v) H w I J;obtain ⟨U,V,_⟩:=B.env w (c j a (λg=>f (by simp_all)) H w I J);exact ⟨U S,V T⟩
 .intro e K;obtain ⟨L,d,ty,W,z,k1,k2,M,X,Y,Z,k7⟩:=q.real e K;have x:e.1 ∈ idx F:=List.mem_map.2 ⟨e,K,rfl⟩;refine ⟨L,d,ty,W,z,k1,k2,M,X,Y,Z,?_⟩;exact (B.env d (c e.1 (q.inl _ x).2 (λg=>hi (by simp_all)) L d k1 M)).2.2 _ k7
theorem dU {j:Nat}:∀ (l:List Nat),cI j l=l.filter λx=>x != j
 | []=>rfl
 | x::r=>by
  unfold cI;rw [List.filter_cons,dU r];by_cases h:x=j
  .simp_all
  .rw [aCi.2 h];simp [h]
theorem y7 {j:Nat} {l:List Nat} (h:l.Nodup):cI j l=l.erase j:=by rw [dU,h.erase_eq_filter]
theorem FI.stepJ {j:Nat} (q:FI P n pm ops fl LA LD l F s t) (O:j ∈ l) (hi:j ∉ idx F) {o:Oper} (Q:ops[j]? = some o) {C:SA} {t2:St} (D:Put s C t t2 o.dst):FI P n pm ops fl (LA.setIfInBounds j true) (LD.setIfInBounds j true) (cI j l) F C t2:=by
 have R:j ∉ cI j l:=λg=>(cV.1 g).2 rfl;have u:=q.unl j O
 have c:∀ k ∈ fl,k≠j->∀ ok d,ops[k]? = some ok->isFl P n ok=some d->o.dst≠some d:=λk a v ok d S w=>by
  obtain ⟨o4,d4,G,H,_,T⟩:=q.isfl k a;rw [S] at G;cases G;rw [w] at H;cases H;exact T j o Q (Ne.symm v)
 refine ⟨?_,?_,?_,?_,q.ndF,?_,?_,?_,q.isfl,?_,?_⟩
 .intro k b a;rw [bP,bP,q.size];split
  .rfl
  .exact q.same k b a
 .intro k a;rw [bP];split
  .rfl
  .exact q.done k a
 .simp [q.size]
 .intro k a;obtain ⟨f,m⟩:=q.inl k a;exact ⟨cV.2 ⟨f,λg=>hi (by simp_all)⟩,m⟩
 .rw [dU];exact q.ndl.filter _
 .intro k a p;rw [bP] at p;split at p
  .cases p
  .rename_i g;have w:=q.mem k a p;exact cV.2 ⟨w,λe=>g ⟨e.symm,by subst e;exact iQ u⟩⟩
 .intro k a;obtain ⟨f,m⟩:=cV.1 a;rw [bP,if_neg (λg=>m g.1.symm)];exact q.unl k f
 .intro k a x I y J K;obtain ⟨f,m⟩:=cV.1 x;obtain ⟨U,V⟩:=q.fresh k a f I y J K;obtain ⟨W,X,_⟩:=D.env y (c k a m I y J K);exact ⟨W U,X V⟩
 .intro e L;obtain ⟨M,d,ty,Y,z,k1,k2,N,Z,k5,k6,k7⟩:=q.real e L;have B:e.1 ∈ idx F:=List.mem_map.2 ⟨e,L,rfl⟩;refine ⟨M,d,ty,Y,z,k1,k2,N,Z,k5,k6,?_⟩;exact (D.env d (c e.1 (q.inl _ B).2 (λg=>hi (by simp_all)) M d k1 N)).2.2 _ k7
theorem yM {ops:List Oper} {fl:List Nat} {a:Array Bool}:∀ {rs:List Nat},aBW ops fl a rs=true->∀ j ∈ rs,∃ o,ops[j]? = some o/\o.guard=none/\qF o.op=false/\isDf o.op=false/\j ∉ fl/\j ∈ Region.ready .any ops.toArray a
 | [],_,_,h=>by simp at h
 | x::r,b,j,c=>by
  unfold aBW at b;split at b
  .rename_i o d;split at b
   .rename_i e;simp only [Bool.and_eq_true,Bool.not_eq_true'] at b;obtain ⟨f,g,k,m,p⟩:=b;rcases List.mem_cons.1 c with rfl | c
    .exact ⟨o,d,e,f,g,hP.1 k,by simpa using m⟩
    .exact yM p j c
   .cases b
  .cases b
theorem aFf {X:Nat->Prop}:∀ {rs:List Nat},aKS rs X->∀ j ∈ rs,X j
 | [],_,_,h=>by simp at h
 | [x],h,j,a=>by
  simp only [List.mem_singleton] at a;subst a;exact h
 | x::y::r,h,j,a=>by
  rcases List.mem_cons.1 a with rfl | a
  .exact h.1
  .exact aFf h.2 j a
theorem aGa (q:FI P n pm ops fl LA LD l F s t) {i:Nat} (hrs:aBW ops fl LA (readyF ops fl LA)=true) :
  (∀ j ∈ readyF ops fl LA,j ∈ Region.ready .any ops.toArray LD)/\∀ j ∈ Region.ready .any ops.toArray LD,j ∈ readyF ops fl LA\/(j ∈ fl/\j ∈ l/\j ∉ idx F):=by
 constructor
 ·intro j hj;obtain ⟨o,ho,_,_,_,hjf,hA⟩:=yM hrs j hj;obtain ⟨g1,o',g2,g3⟩:=mem_ready.1 hA;have hjF:j ∉ idx F:=λg=>hjf (q.inl _ g).2;refine mem_ready.2 ⟨by rw [q.same j true hjF];exact g1,o',g2,λe he hb=>?_⟩;by_cases hm:e.on ∈ idx F
  ·exact q.done _ hm
  ·rw [q.same _ _ hm];exact g3 e he hb
 ·intro j hj;obtain ⟨g1,o,g2,g3⟩:=mem_ready.1 hj;have hjF:=q.noD g1;have hjA:LA.getD j true=false:=by rw [<-q.same j true hjF];exact g1
  by_cases hjf:j ∈ fl
  ·exact .inr ⟨hjf,q.mem j hjf hjA,hjF⟩
  ·left;refine mem_ready.2 ⟨?_,o,g2,λe he hb=>?_⟩
   ·rw [sZ hjf];exact hjA
   ·have hd:=g3 e he hb;by_cases hm:e.on ∈ idx F
    ·refine tI (q.inl _ hm).2 ?_;rw [<-q.size];rcases Nat.lt_or_ge e.on LD.size with g | g
     ·exact g
     ·simp_all
    ·exact jZ (by rw [<-q.same _ _ hm];exact hd)
theorem aAo {l:List Nat}:∀ {m:List Nat},m.Nodup->(∀ x ∈ m,x ∈ l)->m.length<=l.length
 | [],_,_=>Nat.zero_le _
 | x::m,nd,h=>by
  obtain ⟨b,c⟩:=List.nodup_cons.1 nd;have a:=h x List.mem_cons_self;have:=aAo (l:=l.erase x) c λy d=>(List.mem_erase_of_ne (λe=>b (by simp_all))).2 (h y (List.mem_cons_of_mem _ d));rw [List.length_erase_of_mem a] at this;have:0<l.length:=List.length_pos_of_mem a;simp only [List.length_cons];omega
def upS (β0:Nat->Nat) (bx0:Bxs) (S:AP):HP:=λh=>∃ A,Sim A (bxL β0 bx0) h/\S A
def Old (β0:Nat->Nat) (bx0:Bxs) (β:Nat->Nat) (bx:Bxs):Prop:=(∃ l1,bx=l1++bx0)/\∀ i ∈ bx0.map (·.1),β i=β0 i
theorem wG {S:AP} {β0:Nat->Nat} {bx0:Bxs} {E:Bx} (b:RB E β s t A h) (c:Old β0 bx0 β s.bx) (d:S A):upS β0 bx0 S h:=by
 obtain ⟨⟨a,e⟩,f⟩:=c;refine ⟨A,b.sim.keep ?_,d⟩;rw [e,<- sP f];have:bxL β (a++bx0)++E=bxL β a++(bxL β bx0++E):=by simp [bxL]
 rw [this];exact (List.sublist_append_left _ _).trans (List.sublist_append_right _ _)
theorem Old.step {β0 β':Nat->Nat} {bx0 bx a:Bxs} (c:Old β0 bx0 β bx) (d:∃ b,a=b++bx) (e:∀ i ∈ bx.map (·.1),β' i=β i):Old β0 bx0 β' a:=by
 obtain ⟨⟨b,e1⟩,f⟩:=c;obtain ⟨l2,g⟩:=d;refine ⟨⟨l2++b,by rw [g,e1,List.append_assoc]⟩,λi hi=>?_⟩;rw [e i (by simp_all)];exact f i hi
theorem RB.drop (a:RB (EF F++E) β s t A h):RB E β s t A h:=⟨a.env,a.bv,a.ds,a.sim.keep ((List.Sublist.refl _).append (List.sublist_append_right _ _)),a.nd⟩
theorem aDO {o:Oper} (b:∀ j,LA.getD j true=true->LD.getD j true=true) (d:∀ k ∈ descG ops 0 [i],LD.getD k false=LA.getD k false) (h:q9 ops LA i o=true):q9 ops LD i o=true:=by
 unfold q9 at h ⊢;rw [Bool.and_eq_true] at h ⊢;obtain ⟨e,h⟩:=h;refine ⟨?_,?_⟩
 .simp_all
 rw [List.all_eq_true] at h ⊢;intro j c;have:=h j c;rw [Bool.or_eq_true,Bool.or_eq_true] at this ⊢;rcases this with (a | a) | a
 .simp_all
 .simp_all
 .exact .inr a
theorem wU {l:List Nat}:∀ {m:List Nat},aEq l m=true->∀ x ∈ m,x ∉ l
 | [],_,_,h=>by cases h
 | y::m,h,x,a=>by
  unfold aEq at h;split at h
  .cases h
  .rename_i b;rcases List.mem_cons.1 a with rfl | a
   .exact hP.1 b
   .exact wU h x a
theorem aI5 {T:TypeId} {cells:List Value} {k:Nat} {K:Value->Prop} (h:ldX P T cells k K):∃ v,K v/\∀ K':Value->Prop,K' v->ldX P T cells k K':=by
 unfold ldX at h ⊢;split at h
 .grind
 .exact h.elim
theorem aJI {o:Oper} {K K':Res->Prop} (b:isBx s o=true) (h:opA P CA pm s o A (λx _ _=>K x) (λ_ _=>False) (λ_ _=>False))
  (c:∀ x,(∀ e,opA P CA pm s o e (λf _ _=>aAA x f) (λ_ _=>False) (λ_ _=>False))->K x->K' x):opA P CA pm s o A (λx _ _=>K' x) (λ_ _=>False) (λ_ _=>False):=by
 unfold isBx at b;split at b
 .rename_i T a g;split at b
  .rename_i p j;unfold opA at h c ⊢;rw [g] at h c ⊢;simp only [j] at h c ⊢;split at h
   .rename_i cells q k;simp only [k] at h c ⊢;obtain ⟨v,m,d⟩:=aI5 h;exact d _ (c _ (λ_=>d _ rfl) m)
   .exact h.elim
  .cases b
 .cases b
theorem z8 {c:CK} {a:Addr} {A:AH} {K K':Value->Prop} (h:aGh c a A K) (b:∀ v,K v->K' v):aGh c a A K':=by
 cases c<;>(obtain ⟨n,d,e⟩:=h;exact ⟨n,d,b _ e⟩)
theorem uD {a:Addr} {A:AH}:∀ (l:List CK) (n:Nat) (K K':List Value->Prop),aEk l a n A K->(∀ v,K v->K' v)->aEk l a n A K'
 | [],_,_,_,h,hk=>hk _ h
 | _::r,n,_,_,h,hk=>z8 h λv b=>uD r (n+1) _ _ b λvs=>hk _
theorem aCF {c:CK} {a:Addr} {A:AH}:Fun1 (aGh c a A):=by
 intro K h;cases c<;>(obtain ⟨n,b,d⟩:=h;exact ⟨_,d,n,b,rfl⟩)
theorem aC5 {a:Addr} {A:AH}:∀ (l:List CK) (n:Nat) (K:List Value->Prop),aEk l a n A K->∃ vs,K vs/\aEk l a n A (λb=>b=vs)
 | [],_,K,h=>⟨[],h,rfl⟩
 | c::r,n,K,h=>by
  obtain ⟨v,d,f⟩:=aCF _ h;obtain ⟨vs,g,j⟩:=aC5 r (n+1) _ d;refine ⟨v::vs,g,z8 f λu e=>?_⟩;subst e;exact uD r (n+1) _ _ j λb e=>by rw [e]
theorem ldDA_fun {t:TypeId} {a:Addr} {A:AH}:Fun1 (λK=>aFx P t a A K):=by
 unfold aFx;split
 .split
  .split
   .rename_i l _;split
    .intro K h;obtain ⟨vs,b,c⟩:=aC5 l 0 _ h;exact ⟨_,b,uD l 0 _ _ c λf e=>by rw [e]⟩
    .exact Fun1.no
   .intro K h;obtain ⟨cs,b,c,d⟩:=h;exact ⟨_,d,cs,b,c,rfl⟩
  .split
   .exact aCF
   .exact Fun1.no
 .exact Fun1.no
theorem aA7:∀ (l:List CK) (K:List Value->Prop),exL l K->∃ vs,K vs/\exL l (λb=>b=vs)
 | [],K,h=>⟨[],h,rfl⟩
 | c::r,K,h=>by
  have mono:∀ (l:List CK) (K K':List Value->Prop),exL l K->(∀ v,K v->K' v)->exL l K':=by
   intro l
   induction l with
   | nil=>intro K K' h a;exact a _ h
   | cons c r ih=>intro K K' h a;cases c<;>(obtain ⟨n,h⟩:=h;exact ⟨n,ih _ _ h λ_=>a _⟩)
  cases c<;>(obtain ⟨n,h⟩:=h;obtain ⟨vs,d,f⟩:=aA7 r _ h;exact ⟨_,d,n,mono r _ _ f λb e=>by rw [e]⟩)
theorem aAk:∀ (l:List CK) (K K':List Value->Prop),exL l K->(∀ v,K v->K' v)->exL l K':=by
 intro l
 induction l with
 | nil=>intro K K' h a;exact a _ h
 | cons c r ih=>intro K K' h a;cases c<;>(obtain ⟨n,h⟩:=h;exact ⟨n,ih _ _ h λ_=>a _⟩)
theorem aJV {t:TypeId} {v:Value} {H:Value->(Value->Prop)->Prop} (j:∀ v,Fun1 (H v)):Fun1 (λK=>elD P t v λu=>H u K):=by
 unfold elD;split
 .split
  .split
   .rename_i l _;intro K h;obtain ⟨vs,⟨a,b⟩,d⟩:=aA7 l _ h;obtain ⟨u,f,g⟩:=j _ _ b;exact ⟨u,f,aAk l _ _ d λk e=>by subst e;exact ⟨a,g⟩⟩
   .exact Fun1.no
  .split
   .rename_i c _;intro K h;obtain ⟨vs,a,d⟩:=aA7 [c] _ h;split at a
    .rename_i u;obtain ⟨a,b⟩:=a;obtain ⟨x,f,g⟩:=j _ _ b;exact ⟨x,f,aAk [c] _ _ d λk e=>by subst e;exact ⟨a,g⟩⟩
    .exact a.elim
   .exact Fun1.no
 .exact Fun1.no
theorem ad_fun {v:Value} {G:Addr->(Value->Prop)->Prop} (b:∀ a,Fun1 (G a)):Fun1 (λK=>kV v λa=>G a K):=Fun1.ad b
theorem aD7 {b:Bool}:∀ (r:List Value) (x:Value),Fun1 (gV b x r)
 | [],x=>Fun1.val x
 | y::r,x=>by
  show Fun1 (λK=>mxD b x y λz=>gV b z r K);unfold mxD;split
  .cases b
   .exact aD7 r _
   .exact aD7 r _
  .exact Fun1.no
theorem aLc {t:TypeId} {x:Value} {A:AH}:Fun1 (λK=>aH1 P t x A K):=by
 unfold aH1;split
 .exact Fun1.val _
 .exact Fun1.val _
 .intro K h;obtain ⟨a,b,c⟩:=h;exact ⟨_,c,a,b,rfl⟩
 .exact Fun1.no
theorem lk_fun {t:TypeId} {m b:Value} {ok:Bool} {A:AH}:Fun1 (λK=>aIj P t m b ok A K):=by
 unfold aIj;split
 .rename_i w a c k key _;split
  .refine Fun1.sel (G:=λK=>lG A c k key λo=>eH P a λz=>elD P a (o.getD z) λv=>match ok with
    | true=>K (.tuple #[v,.bool o.isSome])
    | false=>K v) (H:=λ_=>False) (λK h=>?_) Fun1.no
   obtain ⟨d,e,r,g,j⟩:=h
   have f:∀ (o:Option Value) (ok:Bool),Fun1 (λK=>eH P a λz=>elD P a (o.getD z) λv=>match ok with
    | true=>K (.tuple #[v,.bool o.isSome])
    | false=>K v):=λo ok=>Fun1.ze λz=>aJV (H:=λv K=>match ok with
    | true=>K (.tuple #[v,.bool o.isSome])
    | false=>K v) λv=>by cases ok<;>exact Fun1.val _
   obtain ⟨u,p,q⟩:=f _ ok _ j;exact ⟨u,p,d,e,r,g,q⟩
  .exact Fun1.no
 .exact Fun1.no
theorem aEv {ρ:Env} {o:Oper} {A:AH} (d:qF o.op=true) (g:isL o.op=true):Fun1 λj=>opV P CA ρ o A (λv _=>j v) (λ_ _=>False) (λ_ _=>False):=by
 obtain ⟨p,q,ty,pos,e,guard⟩:=o;unfold opV;cases q<;>first | (cases g;done) | skip
 case load t a=>exact Fun1.wv λv=>ad_fun λad=>ldDA_fun
 case lookup t m k ok=>exact Fun1.wv λw=>Fun1.wv λx=>lk_fun
 case call c=>
  obtain ⟨callee,args,u⟩:=c;unfold aA2;cases callee with
  | value f=>cases d
  | invoke r m=>cases d
  | builtin b=>
   refine Fun1.wl λvs=>?_;unfold aJ9;split<;>first | (cases d;done) | exact Fun1.no | exact aLc | exact aD7 _ _
theorem aAx {o:Oper} {K:Res->SA->AP} {Kp:Value->AP} {Kd:Deferred->AP} (a:isL o.op=true) (b:isBx s o=false):opA P CA pm s o A K Kp Kd=opV P CA s.env o A (λv=>K (.v v) s) Kp Kd:=by
 unfold isBx at b;unfold opA;split<;>first | (rename_i c;rw [c] at a;cases a;done) | skip
 .grind
 .rfl
theorem pZ {i:Nat} {L a:Array Bool} (h:∀ k ∈ descG ops 0 [i],L.getD k false=a.getD k false):aliveD ops i L=aliveD ops i a:=by
 unfold aliveD;rw [Bool.eq_iff_iff,List.all_eq_true,List.all_eq_true];constructor
 .simp_all
 .simp_all
theorem gC {i j:Nat} {L:Array Bool} (h:aliveD ops i (L.setIfInBounds j true)=true):aliveD ops i L=true:=by
 unfold aliveD at *;rw [List.all_eq_true] at *;intro k b;have:=h k b;rw [Bool.or_eq_true] at this ⊢;rcases this with a | a
 .left;cases e:L.getD k false with
  | false=>rfl
  | true=>rw [getD_set_true e] at a;cases a
 .exact .inr a
structure PinU where
 i:Nat
 β:Nat->Nat
 bx:Bxs
 S:AP
structure PIv (P:Program) (CA:CTA) (ops:List Oper) (fl:List Nat) (LA:Array Bool) (pn:Pins) (pb:List Nat) (β:Nat->Nat) (bx:Bxs) (h:Hp) (PN:List PinU):Prop where
 nofl:∀ p ∈ PN,∀ k ∈ descG ops 0 [p.i],k ∉ fl
 src:∀ p ∈ PN,(p.bx=[]/\∃ ρ o v,(p.i,(ρ,(o,v))) ∈ pn/\p.S=λA=>opV P CA ρ o A (λv' _=>v'=v) (λ_ _=>False) (λ_ _=>False))\/(p.i ∈ pb/\p.S=λ_=>True)
 ok:∀ p ∈ PN,aliveD ops p.i LA=true->Old p.β p.bx β bx/\upS p.β p.bx p.S h
theorem mX {L:Array Bool}:∀ {l:List Nat},iZ ops L l=false->∀ i ∈ l,aliveD ops i L=false
 | [],_,_,h=>by simp at h
 | x::r,h,i,hi=>by
  unfold iZ at h;split at h
  .cases h
  .rename_i a;rcases List.mem_cons.1 hi with rfl | hi
   .omega
   .exact mX h i hi
theorem lK {L:Array Bool} {X:Prop}:∀ {c:Pins},oN P CA ops L A X c->X/\∀ p ∈ c,aliveD ops p.1 L=true->opV P CA p.2.1 p.2.2.1 A (λv _=>v=p.2.2.2) (λ_ _=>False) (λ_ _=>False)
 | [],h=>⟨h,λ_ a=>by simp at a⟩
 | q::r,h=>by
  unfold oN at h;split at h
  .obtain ⟨d,e⟩:=h;obtain ⟨b,f⟩:=lK e;refine ⟨b,λp a g=>?_⟩;rcases List.mem_cons.1 a with rfl | a
   .exact d
   .grind
  .rename_i j;obtain ⟨b,f⟩:=lK h;refine ⟨b,λp a g=>?_⟩;rcases List.mem_cons.1 a with rfl | a
   .simp_all
   .grind
theorem PIv.step {e:Pins} {f:List Nat} {g:List PinU} {a:Array Bool} {β':Nat->Nat} {bx c:Bxs} {h':Hp} (q:PIv P CA ops fl LA e f β bx h g) (k:∀ i,aliveD ops i a=true->aliveD ops i LA=true)
  (m:∃ o,c=o++bx) (u:∀ i ∈ bx.map (·.1),β' i=β i) (v:∀ j b,Sim j b h->Sim j b h'):PIv P CA ops fl a e f β' c h' g:=
 ⟨q.nofl,q.src,λp w d=>by
  obtain ⟨x,y,z,B⟩:=q.ok p w (k _ d);exact ⟨x.step m u,y,v _ _ z,B⟩⟩
theorem aIZ {β:Nat->Nat} {x c:Res} {y y':Value} (e:aCy β x y) (f:aCy β c y') (h:aAA x c):y'=y:=by
 cases x with
 | v a=>
  cases c with
  | v b=>
   have e1:y=a:=e;have d:y'=b:=f;have g:b=a:=h;rw [e1,d,g]
  | b i2 o2=>exact h.elim
 | b i2 o2=>
  cases c with
  | v b=>exact h.elim
  | b i3 o3=>
   have e1:y=_:=e;have d:y'=_:=f;rw [e1,d];unfold aAA at h;simp only at h;split at h
   .simp_all
   .exact h.elim
theorem aFy {K:SA->AP} {Kp:Value->SA->AP} {K':St->HP} {Kp':Value->HP}:∀ (m f g0:Nat) (l:List Nat) (LA LD:Array Bool) (pn:Pins) (pb:List Nat) (PN:List PinU) (TC:Array Bool->HP) (F:FLs) (β:Nat->Nat) (s:SA) (t:St) (A:AH) (h:Hp),f+l.length<=m->f+F.length=l.length->
  FI P n pm ops fl LA LD l F s t->RB (EF F++E) β s t A h->PIv P CA ops fl LA pn pb β s.bx h PN->(∀ L h',(∀ p ∈ PN,aliveD ops p.i L=true->upS p.β p.bx p.S h')->TC L h')->cA P CA n pm ops fl g0 l LA pn pb s K Kp A->
  (∀ β' s' t' A' h',RB E β' s' t' A' h'->SamB s β s' β'->K s' A'->K' t' h')->(∀ v β' s' t' A' h',RB E β' s' t' A' h'->SamB s β s' β'->Kp v s' A'->Kp' v h')->
  dE P (qX CA) n ops f TC (fV F l) LD t K' Kp' h:=by
 intro m
 induction m with
 | zero=>
  intro f g0 l LA LD pn pb PN TC F β s t A h hm hf q rb pv hTC hh hk hp;have h0:l=[]:=List.length_eq_zero_iff.1 (by omega);have h1:f=0:=by omega
  subst h0 h1;have h2:F=[]:=List.length_eq_zero_iff.1 (by omega);subst h2
  have hLL:Region.ready .any ops.toArray LD=Region.ready .any ops.toArray LA:=by
   unfold Region.ready;simp only [q.same _ _ (by simp [idx]:_ ∉ idx ([]:FLs))]
  unfold cA at hh;unfold dE;rw [hLL];split at hh
  ·rename_i e;exact ⟨e,hk β s t A h rb.drop (SamB.refl _ _) hh⟩
  ·exact hh.elim
 | succ m ih=>
  intro f g0 l LA LD pn pb PN TC F β s t A h hm hf q rb pv hTC hh hk hp;cases l with
  | nil=>
   simp only [List.length_nil] at hf;have h1:f=0:=by omega
   have h2:F=[]:=List.length_eq_zero_iff.1 (by omega);subst h1 h2
   have hLL:Region.ready .any ops.toArray LD=Region.ready .any ops.toArray LA:=by
    unfold Region.ready;simp only [q.same _ _ (by simp [idx]:_ ∉ idx ([]:FLs))]
   unfold cA at hh;unfold dE;rw [hLL];split at hh
   ·rename_i e;exact ⟨e,hk β s t A h rb.drop (SamB.refl _ _) hh⟩
   ·exact hh.elim
  | cons i r=>
   have hh0:=hh
   obtain ⟨g,rfl⟩:∃ g,g0=g+1:=by
    cases g0 with
    | zero=>unfold cA at hh;exact hh.elim
    | succ g=>exact ⟨g,rfl⟩
   have hir:i ∉ r:=(List.nodup_cons.1 q.ndl).1;have hiA:=q.unl i List.mem_cons_self;unfold cA at hh;split at hh
   ·rename_i o hoi;by_cases hiF:i ∈ idx F
    ·-- it came early
     have hif:=(q.inl i hiF).2;rw [eF.2 hif] at hh;simp only at hh;split at hh
     ·obtain ⟨F',β',s',A',g1,g2,g3,g4,g5,g6,g7,g8⟩:=aKk q rb hoi hif hiF hh;rw [g6];refine ih f g r _ LD pn pb PN TC F' β' s' t A' h (by simp at hm;omega) (by simp at hf;omega) g2 g3 (pv.step (λ_=>gC) g7 g8 λ_ _ g=>g) hTC g1 (λβ2 s2 t2 A2 h2 r2 sb=>hk β2 s2 t2 A2 h2 r2 (g4.trans sb)) (λv β2 s2 t2 A2 h2 r2 sb=>hp v β2 s2 t2 A2 h2 r2 (g4.trans sb))
     ·exact hh.elim
    ·have hlenF:F.length<=r.length:=by
      have:=aAo (l:=r) q.ndF λx hx=>by
       rcases List.mem_cons.1 (q.inl x hx).1 with rfl | h1
       ·exact absurd hx hiF
       ·exact h1
      simpa [idx] using this
     obtain ⟨f,rfl⟩:∃ k,f=k+1:=⟨f-1,by simp at hf;omega⟩;have hm':f+(i::r).length<=m:=by simp at hm ⊢;omega
     have hm2:f+r.length<=m:=by simp at hm;omega
     have hf2:f+F.length=r.length:=by simp at hf;omega
     have alD:∀ p ∈ PN,aliveD ops p.i LD=aliveD ops p.i LA:=λp hpm=>pZ λk hk=>q.same k false λg=>pv.nofl p hpm k hk (q.inl k g).2;rw [nP hiF];unfold dE;refine ⟨o,hoi,?_⟩
     have early:∀ (j:Nat) (oj:Oper) (rest:List Nat),(∀ b cs ty,rest=fV ((j,(b,(cs,ty)))::F) (i::r))->ops[j]? = some oj->j ∈ fl->j ∈ i::r->j ∉ idx F->
       yL P (qX CA) n oj t (λs' h'=>TC (LD.setIfInBounds j true) h'/\dE P (qX CA) n ops f TC rest (LD.setIfInBounds j true) s' K' Kp' h') (λv _ h'=>Kp' v h') h:=by
      intro j oj rest hrest hoj hjf hjl hjF;refine aHc q rb hoj hjf hjl hjF λb cs ty t' h' q' rb' hup=>⟨hTC _ _ λp hpm hal=>?_,?_⟩
      ·obtain ⟨_,A0,o2,o3⟩:=pv.ok p hpm (by rw [<-alD p hpm];exact gC hal);exact ⟨A0,hup _ _ o2,o3⟩
      ·rw [hrest b cs ty];exact ih f (g+1) (i::r) LA _ pn pb PN TC _ β s t' A h' hm' (by simp at hf ⊢;omega) q' rb' (pv.step (λ_ g=>g) ⟨[],rfl⟩ (λ_ _=>rfl) hup) hTC hh0 hk hp
     have hfl:∀ j,j ∈ fl->∀ oj,ops[j]? = some oj->qF oj.op=false/\isDf oj.op=false/\oj.guard=none:=λj hj oj hoj=>by
      obtain ⟨o2,d,g1,g2,_,_⟩:=q.isfl j hj;rw [hoj] at g1;cases g1;obtain ⟨e1,_,_,ty,_,_,e5,_,_⟩:=vT g2;rw [e5];exact ⟨rfl,rfl,e1⟩
     have hrest0:∀ j b cs ty,j≠i->j ∈ i::r->j ∉ idx F->i::(fV F r).erase j=fV ((j,(b,(cs,ty)))::F) (i::r):=by
      intro j b cs ty hne hjl hjF
      have hi2:i ∉ idx ((j,(b,(cs,ty)))::F):=by
       simp only [idx,List.map_cons,List.mem_cons,not_or];exact ⟨Ne.symm hne,hiF⟩
      rw [nP hi2];congr 1;have nd:(fV F r).Nodup:=(List.nodup_cons.1 q.ndl).2.filter _;rw [nd.erase_eq_filter];unfold fV;rw [List.filter_filter];apply List.filter_congr;intro x _;simp only [idx,List.map_cons,List.contains_cons];cases (List.map (λe=>e.fst) F).contains x<;>cases hx:x==j<;>simp [bne,hx]
     have branch:∀ j ∈ Region.ready .any ops.toArray LD,j≠i->(j ∈ fl/\j ∈ i::r/\j ∉ idx F)->∃ oj,ops[j]? = some oj/\qF oj.op=false/\isDf oj.op=false/\oj.guard=none/\
       yL P (qX CA) n oj t (λs' h'=>TC (LD.setIfInBounds j true) h'/\dE P (qX CA) n ops f TC (i::(fV F r).erase j) (LD.setIfInBounds j true) s' K' Kp' h') (λv _ h'=>Kp' v h') h:=by
      intro j hj hne ⟨h1,h2,h3⟩;obtain ⟨_,oj,hoj,_⟩:=mem_ready.1 hj;have hoj2:ops[j]? = some oj:=by simpa using hoj
      obtain ⟨a1,a2,a3⟩:=hfl j h1 oj hoj2;refine ⟨oj,hoj2,a1,a2,a3,?_⟩;exact early j oj _ (λb cs ty=>hrest0 j b cs ty hne h2 h3) hoj2 h1 h2 h3
     cases hif:memN i fl with
     | true=>
      rw [hif] at hh;simp only at hh;split at hh
      ·rename_i h1;obtain ⟨hr1,hr2⟩:=tW q hiF h1;have hif2:=eF.1 hif;obtain ⟨a1,a2,a3⟩:=hfl i hif2 o hoi;refine .inr ⟨λe=>(by rw [e] at hr1;cases hr1),λj hj=>?_⟩;by_cases hne:j=i
       ·subst hne;refine .inl ⟨rfl,.inr ⟨a1,a2,?_⟩⟩;unfold grd;rw [a3];refine early j o (fV F r) (λb cs ty=>?_) hoi hif2 List.mem_cons_self hiF;unfold fV;rw [List.filter_cons,if_neg (by simp [idx])];apply List.filter_congr;intro x hx;have hne2:x≠j:=λg=>hir (by rw [<-g];exact hx);simp only [idx,List.map_cons,List.contains_cons];have:(x==j)=false:=by simpa using hne2
        rw [this,Bool.false_or]
       ·rcases hr2 j hj with h2 | h2
        ·exact absurd h2 hne
        ·exact .inr ⟨hne,branch j hj hne h2⟩
      ·exact hh.elim
     | false=>
      rw [hif] at hh;simp only at hh;have hif2:=hP.1 hif
      have next:∀ (pn':Pins) (pb':List Nat) (PN':List PinU) (TC':Array Bool->HP) (β':Nat->Nat) (s2:SA) (t2:St) (A':AH) (h':Hp),RB (EF F++E) β' s2 t2 A' h'->SamB s β s2 β'->Put s s2 t t2 o.dst->
        PIv P CA ops fl (LA.setIfInBounds i true) pn' pb' β' s2.bx h' PN'->(∀ L h',(∀ p ∈ PN',aliveD ops p.i L=true->upS p.β p.bx p.S h')->TC' L h')->
        cA P CA n pm ops fl g r (LA.setIfInBounds i true) pn' pb' s2 K Kp A'->dE P (qX CA) n ops f TC' (fV F r) (LD.setIfInBounds i true) t2 K' Kp' h':=by
       intro pn' pb' PN' TC' β' s2 t2 A' h' rb2 sb2 pt pv2 hT2 hd;exact ih f g r _ _ pn' pb' PN' TC' F β' s2 t2 A' h' hm2 hf2 (q.step hiF hoi pt) rb2 pv2 hT2 hd (λβ3 s3 t3 A3 h3 r3 sb=>hk β3 s3 t3 A3 h3 r3 (sb2.trans sb)) (λv β3 s3 t3 A3 h3 r3 sb=>hp v β3 s3 t3 A3 h3 r3 (sb2.trans sb))
      have still:∀ (s2:SA),s2.bx=s.bx->PIv P CA ops fl (LA.setIfInBounds i true) pn pb β s2.bx h PN:=λs2 e=>by
       rw [e];exact pv.step (λ_=>gC) ⟨[],rfl⟩ (λ_ _=>rfl) λ_ _ g=>g
      have fin:∀ (s1:SA) (t1:St),RB (EF F++E) β s1 t1 A h->SamB s β s1 β->s1.bx=s.bx->Put s s1 t t1 none->∀ x y,aCy β x y->(∀ i k,x = .b i k->∃ p,lookX s1.bx i=some p)->
        fT n s1 o.dst x (λs'=>cA P CA n pm ops fl g r (LA.setIfInBounds i true) pn pb s' K Kp A)->hZ n t1 o.dst y λs'=>dE P (qX CA) n ops f TC (fV F r) (LD.setIfInBounds i true) s' K' Kp' h:=by
       intro s1 t1 rb1 sb1 eb1 pt1 x y hxy hb h3;exact gJ rb1 hxy hb h3 λs2 t2 rb2 sb2 eb2 pt2 hd=>next pn pb PN TC β s2 t2 A h rb2 (sb1.trans sb2) (pt1.comp pt2) (still s2 (by rw [eb2,eb1])) hTC hd
      have skip:∀ (s1:SA) (t1:St),RB (EF F++E) β s1 t1 A h->SamB s β s1 β->s1.bx=s.bx->Put s s1 t t1 none->
        fT n s1 o.dst (.v undef) (λs'=>cA P CA n pm ops fl g r (LA.setIfInBounds i true) pn pb s' K Kp A)->hZ n t1 o.dst undef λs'=>dE P (qX CA) n ops f TC (fV F r) (LD.setIfInBounds i true) s' K' Kp' h:=
       λs1 t1 rb1 sb1 eb1 pt1 h1=>fin s1 t1 rb1 sb1 eb1 pt1 (.v undef) undef rfl (λ_ _ e=>by cases e) h1
      split at hh
      ·rename_i hq;split at hh
       ·rename_i h1;obtain ⟨hr1,hr2⟩:=tW q hiF h1;refine .inr ⟨λe=>(by rw [e] at hr1;cases hr1),λj hj=>?_⟩;by_cases hne:j=i
        ·refine .inl ⟨hne,.inl ⟨hq,?_⟩⟩;unfold aMJ;refine qP rb hh (λs1 t1 rb1 sb1 eb1 ev1 pt1 h2=>?_) λs1 t1 rb1 sb1 eb1 ev1 pt1 h2=>skip s1 t1 rb1 sb1 eb1 pt1 h2
         exact uG (KQ:=λx=>fT n s1 o.dst x λs'=>cA P CA n pm ops fl g r (LA.setIfInBounds i true) pn pb s' K Kp A)
          (KQ':=λy=>hZ n t1 o.dst y λs'=>dE P (qX CA) n ops f TC (fV F r) (LD.setIfInBounds i true) s' K' Kp' h) hq rb1 h2 (λx y hxy hb h3=>fin s1 t1 rb1 sb1 eb1 pt1 x y hxy hb h3) (λ_ _ _ h=>h.elim)
        ·rcases hr2 j hj with h2 | h2
         ·exact absurd h2 hne
         ·exact .inr ⟨hne,branch j hj hne h2⟩
       ·split at hh
        ·rename_i hb;rw [Bool.and_eq_true,Bool.and_eq_true] at hb;obtain ⟨⟨hb1,hb2⟩,hb3⟩:=hb;have hA:i ∈ Region.ready .any ops.toArray LA:=by simpa using hb1
         have hnofl:∀ k ∈ descG ops 0 [i],k ∉ fl:=wU hb3;refine .inl ⟨hq,?_,aDO (λj hj=>?_) (λk hk=>q.same k false λg=>wU hb3 k hk (q.inl k g).2) hb2,?_⟩
         ·obtain ⟨g1,o2,g2,g3⟩:=mem_ready.1 hA;refine mem_ready.2 ⟨by rw [q.same i true hiF];exact g1,o2,g2,λe he hb=>?_⟩;by_cases hm3:e.on ∈ idx F
          ·exact q.done _ hm3
          ·rw [q.same _ _ hm3];exact g3 e he hb
         ·by_cases hm3:j ∈ idx F
          ·exact aEU (q.done _ hm3)
          ·rw [q.same _ _ hm3];exact hj
         ·refine qP rb hh (λs1 t1 rb1 sb1 eb1 ev1 pt1 h2=>?_) λs1 t1 rb1 sb1 eb1 ev1 pt1 h2=>skip s1 t1 rb1 sb1 eb1 pt1 h2;cases hl:isL o.op with
          | false=>
           simp only [hl] at h2;refine uG (KQ:=λx=>fT n s1 o.dst x λs'=>cA P CA n pm ops fl g r (LA.setIfInBounds i true) pn pb s' K Kp A) (KQ':=_) hq rb1 h2 (λx y hxy hb h3=>?_) (λ_ _ _ h=>h.elim);refine gJ rb1 hxy hb h3 λs2 t2 rb2 sb2 eb2 pt2 hd=>next pn pb PN _ β s2 t2 A h rb2 (sb1.trans sb2) (pt1.comp pt2) (still s2 (by rw [eb2,eb1])) (λL h' g=>⟨hTC L h' g,λe=>?_⟩) hd
           rw [hl] at e;cases e
          | true=>
           simp only [hl] at h2;cases hbx:isBx s1 o with
           | true=>
            simp only [hbx] at h2
            have h3:=aJI (K:=λx=>fT n s1 o.dst x λs'=>cA P CA n pm ops fl g r (LA.setIfInBounds i true) pn (i::pb) s' K Kp A)
             (K':=λx=>(∀ A',opA P CA pm s1 o A' (λx' _ _=>aAA x x') (λ_ _=>False) (λ_ _=>False))/\fT n s1 o.dst x λs'=>cA P CA n pm ops fl g r (LA.setIfInBounds i true) pn (i::pb) s' K Kp A) hbx h2 λx h7 h8=>⟨h7,h8⟩
            refine uG (KQ:=λx=>(∀ A',opA P CA pm s1 o A' (λx' _ _=>aAA x x') (λ_ _=>False) (λ_ _=>False))/\fT n s1 o.dst x λs'=>cA P CA n pm ops fl g r (LA.setIfInBounds i true) pn (i::pb) s' K Kp A) (KQ':=_) hq rb1 h3 (λx y hxy hb h4=>?_) (λ_ _ _ h=>h.elim);obtain ⟨h5,h6⟩:=h4;refine gJ rb1 hxy hb h6 λs2 t2 rb2 sb2 eb2 pt2 hd=>next pn (i::pb) (⟨i,β,s.bx,λ_=>True⟩::PN) _ β s2 t2 A h rb2 (sb1.trans sb2) (pt1.comp pt2) ?_ (λL h' g=>⟨hTC L h' λp hp=>g p (List.mem_cons_of_mem _ hp),λ_ hal=>?_⟩) hd
            ·have st:=still s2 (by rw [eb2,eb1]);refine ⟨λp hp=>?_,λp hp=>?_,λp hp hal=>?_⟩
             ·rcases List.mem_cons.1 hp with rfl | hp
              ·exact hnofl
              ·exact st.nofl p hp
             ·rcases List.mem_cons.1 hp with rfl | hp
              ·exact .inr ⟨List.mem_cons_self,rfl⟩
              ·rcases st.src p hp with g | ⟨g1,g2⟩
               ·exact .inl g
               ·exact .inr ⟨List.mem_cons_of_mem _ g1,g2⟩
             ·rcases List.mem_cons.1 hp with rfl | hp
              ·refine ⟨by rw [eb2,eb1];exact ⟨⟨[],rfl⟩,λ_ _=>rfl⟩,wG rb2.drop (β0:=β) (bx0:=s.bx) (S:=λ_=>True) ?_ trivial⟩;rw [eb2,eb1];exact ⟨⟨[],rfl⟩,λ_ _=>rfl⟩
              ·exact st.ok p hp hal
            ·obtain ⟨A',hsim,_⟩:=g _ List.mem_cons_self hal;have rb3:RB [] β s1 t1 A' h':=⟨rb1.env,rb1.bv,rb1.ds,by rw [List.append_nil,eb1];exact hsim,rb1.nd⟩;exact uG (KQ:=λx'=>aAA x x') (KQ':=λv'=>v'=y) hq rb3 (h5 A') (λx' y' hxy' _ h7=>aIZ hxy hxy' h7) (λ_ _ _ h=>h.elim)
           | false=>
            simp only [hbx] at h2;rw [aAx hl hbx] at h2;obtain ⟨v,h3,h4⟩:=aEv hq hl _ h2
            have h5:opA P CA pm s1 o A (λx _ _=>x = .v v/\fT n s1 o.dst (.v v) λs'=>cA P CA n pm ops fl g r (LA.setIfInBounds i true) ((i,(s1.env,(o,v)))::pn) pb s' K Kp A) (λ_ _=>False) (λ_ _=>False):=by
             rw [aAx hl hbx];obtain ⟨v',h6,h7⟩:=aEv hq hl _ h4;subst h6
             have e:(λ(u:Value) (_:AH)=>Res.v u=Res.v v'/\fT n s1 o.dst (.v v') λs'=>cA P CA n pm ops fl g r (LA.setIfInBounds i true) ((i,(s1.env,(o,v')))::pn) pb s' K Kp A)=λu _=>u=v':=by
              funext u _;simp only [Res.v.injEq,eq_iff_iff];exact ⟨λg=>g.1,λg=>⟨g,h3⟩⟩
             exact e ▸ h7
            refine uG (KQ:=λx=>x = .v v/\fT n s1 o.dst (.v v) λs'=>cA P CA n pm ops fl g r (LA.setIfInBounds i true) ((i,(s1.env,(o,v)))::pn) pb s' K Kp A) (KQ':=_) hq rb1 h5 (λx y hxy hb h6=>?_) (λ_ _ _ h=>h.elim);obtain ⟨rfl,h6⟩:=h6;have hy:y=v:=hxy;subst hy;refine gJ rb1 hxy hb h6 λs2 t2 rb2 sb2 eb2 pt2 hd=>next _ pb (⟨i,β,[],λA=>opV P CA s1.env o A (λv' _=>v'=y) (λ_ _=>False) (λ_ _=>False)⟩::PN) _ β s2 t2 A h rb2 (sb1.trans sb2) (pt1.comp pt2) ?_ (λL h' g=>⟨hTC L h' λp hp=>g p (List.mem_cons_of_mem _ hp),λ_ hal=>?_⟩) hd
            ·have st:=still s2 (by rw [eb2,eb1]);refine ⟨λp hp=>?_,λp hp=>?_,λp hp hal=>?_⟩
             ·rcases List.mem_cons.1 hp with rfl | hp
              ·exact hnofl
              ·exact st.nofl p hp
             ·rcases List.mem_cons.1 hp with rfl | hp
              ·exact .inl ⟨rfl,_,_,_,List.mem_cons_self,rfl⟩
              ·rcases st.src p hp with ⟨g1,ρ,o',v',g2,g3⟩ | g
               ·exact .inl ⟨g1,ρ,o',v',List.mem_cons_of_mem _ g2,g3⟩
               ·exact .inr g
             ·rcases List.mem_cons.1 hp with rfl | hp
              ·have ol:Old β [] β s2.bx:=⟨⟨s2.bx,(List.append_nil _).symm⟩,λ_ _=>rfl⟩;exact ⟨ol,wG rb2.drop ol h4⟩
              ·exact st.ok p hp hal
            ·obtain ⟨A',hsim,hS⟩:=g _ List.mem_cons_self hal;exact aGF (CA:=CA) (Kp:=λ_ _=>False) (Kp':=λ_ _=>False) (Kd:=λ_ _=>False) (Kd':=λ_ _=>False) rb1.env hsim hS (λ_ _ _ _ g=>g) (λ_ _ _ _ g=>g) (λ_ _ _ _ g=>g)
        ·exact hh.elim
      ·rename_i hq;have hq:qF o.op=false:=by simpa using hq
       split at hh
       ·rename_i h1 hdf;obtain ⟨hr1,hr2⟩:=tW q hiF h1;have alD2:∀ p ∈ PN,aliveD ops p.i (LD.setIfInBounds i true)=true->aliveD ops p.i LA=true:=λp hpm hal=>by rw [<-alD p hpm];exact gC hal
        have alD3:∀ p ∈ PN,aliveD ops p.i (LD.setIfInBounds i true)=aliveD ops p.i (LA.setIfInBounds i true):=λp hpm=>pZ λk hk=>by
         rw [bP,bP,q.size,q.same k false λg=>pv.nofl p hpm k hk (q.inl k g).2]
        refine .inr ⟨λe=>(by rw [e] at hr1;cases hr1),λj hj=>?_⟩;by_cases hne:j=i
        ·refine .inl ⟨hne,.inr ⟨hq,hdf,?_⟩⟩;refine qP rb hh (λs1 t1 rb1 sb1 eb1 ev1 pt1 h2=>?_) λs1 t1 rb1 sb1 eb1 ev1 pt1 h2=>?_
         ·refine aDq rb1 h2 (λβ2 s2 t2 A2 h2' rb2 sb2 pt2 hB hd=>?_) (λv A' h' rb'=>hp v β s1 t1 A' h' rb'.drop sb1);split at hd
          ·exact hd.elim
          ·rename_i hst;obtain ⟨hd,hre⟩:=lK hd
           have pv2:PIv P CA ops fl (LA.setIfInBounds i true) pn pb β2 s2.bx h2' PN:=by
            refine ⟨pv.nofl,pv.src,λp hpm hal=>?_⟩
            have ol:Old p.β p.bx β2 s2.bx:=by
             obtain ⟨ol0,_⟩:=pv.ok p hpm (gC hal);rcases pv.src p hpm with ⟨g1,_⟩ | ⟨g1,g2⟩
             ·rw [g1];exact ⟨⟨s2.bx,(List.append_nil _).symm⟩,λ_ hi=>by simp at hi⟩
             ·have hnst:isSt s1 o=false:=by
               cases e:isSt s1 o with
               | false=>rfl
               | true=>
                rw [e,Bool.true_and] at hst;have hst2:iZ ops (LA.setIfInBounds i true) pb=false:=by simpa using hst
                have:=mX hst2 p.i g1;rw [hal] at this;cases this
              obtain ⟨l1,b1,_,b2⟩:=hB hnst;rw [<-eb1] at ol0;exact ol0.step ⟨l1,b1⟩ b2
            refine ⟨ol,wG rb2.drop ol ?_⟩;rcases pv.src p hpm with ⟨g1,ρ,o',v',g2,g3⟩ | ⟨g1,g2⟩
            ·rw [g3];exact hre _ g2 hal
            ·rw [g2];trivial
           refine ⟨hTC _ _ λp hpm hal=>(pv2.ok p hpm (by rw [<-alD3 p hpm];exact hal)).2,next pn pb PN TC β2 s2 t2 A2 h2' rb2 (sb1.trans sb2) (pt1.comp pt2) pv2 hTC hd⟩
         ·refine gJ rb1 (x:=.v undef) (y:=undef) rfl (λ_ _ e=>by cases e) h2 λs2 t2 rb2 sb2 eb2 pt2 hd=>⟨hTC _ _ λp hpm hal=>(pv.ok p hpm (alD2 p hpm hal)).2,next pn pb PN TC β s2 t2 A h rb2 (sb1.trans sb2) (pt1.comp pt2) (still s2 (by rw [eb2,eb1])) hTC hd⟩
        ·rcases hr2 j hj with h2 | h2
         ·exact absurd h2 hne
         ·exact .inr ⟨hne,branch j hj hne h2⟩
       ·-- any of some
        split at hh
        ·rename_i hany;rw [Bool.and_eq_true] at hany;obtain ⟨hany0,hany⟩:=hany;have hir0:=eF.1 hany0;obtain ⟨hy1,hy2⟩:=aGa (i:=i) q hany;have nd:(fV F (i::r)).Nodup:=q.ndl.filter _;refine .inr ⟨λe=>(by have:=hy1 i hir0;rw [e] at this;cases this),λj hj=>?_⟩;rcases hy2 j hj with hjr | hjf
         ·obtain ⟨oj,hoj,a1,a2,a3,a4,a5⟩:=yM hany j hjr;have hx:=aFf hh j hjr;simp only [hoj] at hx;have hjF:j ∉ idx F:=λg=>a4 (q.inl _ g).2
          have hjl:j ∈ i::r:=by
           cases hm:memN j (i::r) with
           | true=>exact eF.1 hm
           | false=>rw [hm] at hx;exact hx.elim
          rw [eF.2 hjl] at hx;simp only at hx
          have hex:∀ rest,rest=fV F (cI j (i::r))->yL P (qX CA) n oj t (λs' h'=>TC (LD.setIfInBounds j true) h'/\dE P (qX CA) n ops f TC rest (LD.setIfInBounds j true) s' K' Kp' h') (λv _ h'=>Kp' v h') h:=by
           intro rest hrest;subst hrest;refine aDq rb hx (λβ2 s2 t2 A2 h2' rb2 sb2 pt2 hB hd=>?_) (λv A' h' rb'=>hp v β s t A' h' rb'.drop (SamB.refl _ _));split at hd
           ·exact hd.elim
           ·rename_i hst;obtain ⟨hd,hre⟩:=lK hd
            have alD3:∀ p ∈ PN,aliveD ops p.i (LD.setIfInBounds j true)=aliveD ops p.i (LA.setIfInBounds j true):=λp hpm=>pZ λk hk=>by
             rw [bP,bP,q.size,q.same k false λg=>pv.nofl p hpm k hk (q.inl k g).2]
            have pv2:PIv P CA ops fl (LA.setIfInBounds j true) pn pb β2 s2.bx h2' PN:=by
             refine ⟨pv.nofl,pv.src,λp hpm hal=>?_⟩
             have ol:Old p.β p.bx β2 s2.bx:=by
              obtain ⟨ol0,_⟩:=pv.ok p hpm (gC hal);rcases pv.src p hpm with ⟨g1,_⟩ | ⟨g1,g2⟩
              ·rw [g1];exact ⟨⟨s2.bx,(List.append_nil _).symm⟩,λ_ hi=>by simp at hi⟩
              ·have hnst:isSt s oj=false:=by
                cases e:isSt s oj with
                | false=>rfl
                | true=>
                 rw [e,Bool.true_and] at hst;have hst2:iZ ops (LA.setIfInBounds j true) pb=false:=by simpa using hst
                 have:=mX hst2 p.i g1;rw [hal] at this;cases this
               obtain ⟨l1,b1,_,b2⟩:=hB hnst;exact ol0.step ⟨l1,b1⟩ b2
             refine ⟨ol,wG rb2.drop ol ?_⟩;rcases pv.src p hpm with ⟨g1,ρ,o',v',g2,g3⟩ | ⟨g1,g2⟩
             ·rw [g3];exact hre _ g2 hal
             ·rw [g2];trivial
            have hlw:(cI j (i::r)).length+1=(i::r).length:=by
             rw [y7 q.ndl,List.length_erase_of_mem hjl];simp
            have q2:=q.stepJ hjl hjF hoj pt2;refine ⟨hTC _ _ λp hpm hal=>(pv2.ok p hpm (by rw [<-alD3 p hpm];exact hal)).2,?_⟩;refine ih f g (cI j (i::r)) _ _ pn pb PN TC F β2 s2 t2 A2 h2' (by omega) (by simp only [List.length_cons] at hf hlw;omega) q2 rb2 pv2 hTC hd (λβ3 s3 t3 A3 h3 r3 sb=>hk β3 s3 t3 A3 h3 r3 (sb2.trans sb)) (λv β3 s3 t3 A3 h3 r3 sb=>hp v β3 s3 t3 A3 h3 r3 (sb2.trans sb))
          by_cases hne:j=i
          ·refine .inl ⟨hne,.inr ?_⟩;subst hne;have eo:o=oj:=by rw [hoi] at hoj;exact Option.some.inj hoj
           subst eo;refine ⟨a2,a3,?_⟩;unfold grd;rw [a1];refine hex (fV F r) ?_
           rw [dU,List.filter_cons,if_neg (by simp),List.filter_eq_self.2 λx hx=>by
            have:x≠j:=λg=>hir (by rw [<-g];exact hx);simpa using this]
          ·refine .inr ⟨hne,oj,hoj,a2,a3,a1,hex _ ?_⟩;rw [dU];unfold fV;rw [List.filter_filter,List.filter_cons,if_pos (by simp [hiF,Ne.symm hne])];congr 1;have nd2:(List.filter (λj=>!(idx F).contains j) r).Nodup:=(List.nodup_cons.1 q.ndl).2.filter _;rw [nd2.erase_eq_filter,List.filter_filter];apply List.filter_congr;intro x _;exact Bool.and_comm _ _
         ·by_cases hne:j=i
          ·exact absurd (hne ▸ hjf.1) hif2
          ·exact .inr ⟨hne,branch j hj hne hjf⟩
        ·exact hh.elim
       ·exact hh.elim
   ·exact hh.elim
end
end Go.Dn
