/- What the proof stands on. -/
import Derived.Test.YtfnkdpmbpgffbaaGreatBits
import Derived.Test.YtfnkdpmbpgffbaaGreatStart
import Derived.Test.YtfnkdpmbpgffbaaGreatForT
import Derived.Test.YtfnkdpmbpgffbaaGreatQTree
namespace Go.Dn
variable {A:AH} {R:List SP} {c:Mc} {g:Sg} {L:List Sc} {M:Mm} {φ:Int->Int} {b:Sc} {s t:Sm} {q d:Int} {i:Nat} {nd:Nd}
def nsM (M:Mm) (ns:List Nd):Mm:={ M with ns:=ns }
def mZ (M:Mm) (i:Nat) (q:Int):Mm × Nat × Int:=match M.ns[i]? with
 | none=>(M,0,5)
 | some d=>if kidE M.ns d q≠0 then (M,0,kidE M.ns d q) else (nsM M (kidN M.ns i d q).1,(kidN M.ns i d q).2,0)
theorem aEs (h:liveN M.ns i=true):∃ d,M.ns[i]? = some d/\d.live=true:=by
 unfold liveN at h;cases e:M.ns[i]? with
 | none=>rw [e] at h;cases h
 | some d=>rw [e] at h;exact ⟨d,rfl,h⟩
theorem aF4 {ns:List Nd} {d:Nd} (h:kidE ns d q=0):0<=q/\q<=d.room/\(firstDead ns=none->ns.length<64):=by
 unfold kidE at h;split at h
 .omega
 .grind
theorem bA.kid (h:bA M) (hi:M.ns[i]? = some nd) (hl:nd.live=true) (he:kidE M.ns nd q=0):bA (nsM M (kidN M.ns i nd q).1):=by
 obtain ⟨q0,q1,q2⟩:=aF4 he;obtain ⟨j,j1,j2,j3,j4,j5,j6⟩:=aEC (q:=q) hi hl
 have hne:∀ s ∈ M.sps,s.box≠j:=λs hs z=>by
  have:=h.live s hs;rw [z,j3] at this;cases this
 have hj0:j≠0:=λz=>by
  obtain ⟨d,d1,d2,_⟩:=h.tree.root;rw [z] at j3;unfold liveN at j3;rw [d1] at j3;simp only at j3;rw [d2] at j3;cases j3
 refine h.tree' (h.tree.kid hi hl q0 q1 q2) (λs hs=>?_) λm d hd hdl=>?_
 ·by_cases e:s.box=i
  ·unfold liveN;rw [e,j5];exact hl
  ·unfold liveN;rw [j6 _ e (hne s hs)];exact h.live s hs
 ·by_cases e:m=i
  ·subst e;rw [j5] at hd;cases hd;exact h.use m nd hi hl
  ·by_cases e2:m=j
   ·subst e2;rw [j4] at hd;cases hd;rw [if_neg hj0,tA λs hs=>by unfold costB;rw [if_neg (hne s hs)]];rfl
   ·rw [j6 m e e2] at hd;exact h.use m d hd hdl
theorem aZ.tr {a:List Nd} (h:aZ c g L M φ) (e:InvL (nsM M a)) (k:sumZ rmN a=sumZ rmN M.ns):aZ c { g with ns:=a } L (nsM M a) φ:=
 ⟨e,h.abs,rfl,by show g.n=sumZ rmN a;rw [k];exact h.n,h.sps,h.nd,h.G,h.rng,λb j=>(h.one b j).keep (λ_ _=>rfl) (λf l=>h.fr_tl j l) λ_ _=>rfl,h.wd,h.kw,h.pc,h.ln,h.N⟩
theorem aMR {Q:Int->Int->AH->Prop} (h:Own (MacS c M φ::R) A) (m:bA M) (p:liveN M.ns i=true)
  (e:∀ n,bA (mZ M i q).1->Own (MacS c (mZ M i q).1 φ::R) n->Q (mZ M i q).2.1 (mZ M i q).2.2 n):qfv_A (some ⟨c.t,0,none⟩) i q Q A:=by
 obtain ⟨g,L,k,h⟩:=MacS.openH h;obtain ⟨d,l,f⟩:=aEs p;unfold mZ at e;rw [l] at e;simp only at e;refine aHQ (macG.tree h) (by rw [k.ns];exact l) f (λj=>?_) λj r o=>?_
 .rw [k.ns] at j ⊢;rw [if_pos j] at e;exact e A m ((MacS.closeH k h))
 .rw [k.ns] at j o ⊢;rw [if_neg (by simp [j])] at e;have a:=m.kid l f j;exact e r a ((MacS.closeH (k.tr a.toInvL (aEc l f)) (macG.treeB o)))
theorem aLq {Q:Int->AH->Prop} (h:Own (MacS c M φ::R) A) (a:bA M) (hi:M.ns[i]? = some nd) (e:nd.live=true) (f:Q nd.room A):qav_A (some ⟨c.t,0,none⟩) i Q A:=by
 obtain ⟨g,L,j,h⟩:=MacS.openH h;obtain ⟨blk,cap,rest,l,k⟩:=TreeS.openH (macG.tree h);exact xE k (by rw [j.ns];exact hi) e (a.tree.ok nd (List.mem_of_getElem? hi)) f
theorem aK6 {Q:Int->Int->Int->Int->Bool->Bool->AH->Prop} (h:Own (MacS c M φ::R) A) (hi:M.ns[i]? = some nd) (a:nd.live=true) (e:Q nd.par nd.quo nd.use nd.lent nd.live true A):qgd_A (some ⟨c.t,0,none⟩) i Q A:=by
 obtain ⟨g,L,f,h⟩:=MacS.openH h;exact aGY (macG.tree h) (by rw [f.ns];exact hi) a e
theorem aBr {Q:Int->AH->Prop} (h:Own (MacS c M φ::R) A) (a:Q (sumZ rmN M.ns) A):qar_A (some ⟨c.b,0,none⟩) Q A:=by
 obtain ⟨g,L,e,h⟩:=MacS.openH h;rw [<-e.n] at a;exact zW (macG.pick 1 rfl h) a
theorem MacS.ptr {j:Nat} {v:Option Addr} {K:Option Addr->Prop} (h:Own (MacS c M φ::R) A) (e:(mcC c)[j]? = some (.pointer v)) (a:K v):aP ⟨c.m,j,none⟩ A K:=by
 obtain ⟨g,L,f,h⟩:=MacS.openH h;exact mE (i:=3) h rfl e a
end Go.Dn
namespace Go.Dn
variable {A:AH} {l R:List SP} {P:SP} {ys:List Ln} {c:Mc} {g:Sg} {L:List Sc} {M:Mm} {φ:Int->Int} {a:Sc} {s:Sl} {k n:Nat}
theorem aGM {v:Nat} {y:Ln} (h:Own l A) (e:l[k]? = some P) (f:Reads P s 9 (lnC ys)) (p:ys[v]? = some y) :
  ∃ a,s.a=some a/\∀ K:Bool->Int->Int->Int->Bool->Bool->Bool->Bool->Bool->Prop,K y.v y.tag y.page y.frame y.w y.u y.x y.g y.d->
   aB (Addr.add a (Int.toNat (v:Int)*9)) A λq=>aI .i64 (Addr.add (Addr.add a (Int.toNat (v:Int)*9)) 1) A λr=>aI .i64 (Addr.add (Addr.add a (Int.toNat (v:Int)*9)) 2) A λt=>aI .i64 (Addr.add (Addr.add a (Int.toNat (v:Int)*9)) 3) A λu=>
    aB (Addr.add (Addr.add a (Int.toNat (v:Int)*9)) 4) A λw=>aB (Addr.add (Addr.add a (Int.toNat (v:Int)*9)) 5) A λx=>aB (Addr.add (Addr.add a (Int.toNat (v:Int)*9)) 6) A λB=>aB (Addr.add (Addr.add a (Int.toNat (v:Int)*9)) 7) A λC=>aB (Addr.add (Addr.add a (Int.toNat (v:Int)*9)) 8) A λD=>K q r t u w x B C D:=by
 have d:∀ c,c<9->(lnC ys)[v*9+c]? = y.cells[c]?:=λc b=>gT p b;obtain ⟨E,o,i,H⟩:=bK h e f (j:=v*9+0) (v:=.bool y.v) (by rw [d 0 (by omega)];rfl);refine ⟨_,i,λK F=>?_⟩
 have b:∀ c z,c<9->y.cells[c]? = some z->bM A ⟨E,o+v*9+c,none⟩=some z:=λc z b G=>by
  obtain ⟨I,J,m,c1⟩:=bK h e f (j:=v*9+c) (by rw [d c b];exact G);rw [i] at m;cases m;rw [Nat.add_assoc];exact c1
 simp only [add_at,Int.toNat_natCast];exact ⟨_,by simpa using b 0 _ (by omega) rfl,_,b 1 _ (by omega) rfl,_,b 2 _ (by omega) rfl,_,b 3 _ (by omega) rfl,_,b 4 _ (by omega) rfl,_,b 5 _ (by omega) rfl,_,b 6 _ (by omega) rfl,_,b 7 _ (by omega) rfl,_,b 8 _ (by omega) rfl,F⟩
theorem aLE {b j:Nat} {y:Ln} {id:Int} {x:Lf} {Q:Bool->AH->Prop} (m:aZ c g L M φ) (h:Own (macG c g (At b [.pointer (some ⟨c.m,0,none⟩)]::R)) A) (q:R[j]? = some (ownC a)) (r:a ∈ L) (t:g.z.own.lookup y.tag=some id) (hs:g.sps.lookup id=some (ptrV a.2.p)) (u:y.g=false) (o:lfS φ a.1 y.page=some x) (v:y.frame=x.frame/\y.w=x.w/\y.u=x.u/\y.x=x.x)
  (w:∀ f,Own (macG c g (At b [.pointer (some ⟨c.m,0,none⟩)]::R)) f->Q true f):qgg_A y.v y.tag y.page y.frame y.w y.u y.x y.g y.d (some ⟨b,0,none⟩) Q A:=by
 unfold qgg_A qgg_G;simp only [aJ,add_at,Nat.zero_add];refine mE (i:=7) h rfl rfl ?_;simp only [aJ,add_at,Nat.zero_add];refine mE (i:=3) h rfl rfl (aCJ (macG.tags h) ?_);rw [t];refine mE (i:=7) h rfl rfl ?_;simp only [aJ,add_at,Nat.zero_add,Option.getD_some];refine fC (i:=3) h rfl rfl (iD (i:=4) h rfl ?_);rw [hs];refine ⟨some ⟨a.2.p,0,none⟩,rfl,λf=>f=A,λF e1=>?_,bsel_f rfl (bsel_f rfl ?_)⟩
 .subst e1;simp only [aJ,add_at,Nat.zero_add];have d:(macG c g (At b [.pointer (some ⟨c.m,0,none⟩)]::R))[j+8]? = some (OneS a.2.p a.1.box a.2.root a.2.s a.1.regs a.2.lent):=q;refine mE (i:=7) h rfl rfl ?_;refine jS h d (cH h d (prs (k:=3) h rfl ⟨cH h d rfl,?_⟩));refine fE h m.hasF (m.one a r).rest (λp=>by rw [o] at p;cases p) λG e z B=>?_;rw [o] at e;cases e;obtain ⟨H,C,D,E⟩:=v;refine aG rfl (aG (by simp_all) ?_);have:((x.w==y.w)&&((x.u==y.u)&&((x.x==y.x)&&true)))=true:=by rw [C,D,E];simp
  rw [this];exact w z B
 .rw [u];exact bsel_f rfl rfl
theorem aMj {Q:Sl->AH->Prop} (U:aZ c g L M φ) (h:Own (macG c g (L.map ownC++l)) A) (hk:∀ s d,s.len=0->Own (macG c g (L.map ownC++l)) d->Q s d):qgj_A (some ⟨c.m,0,none⟩) Q A:=by
 unfold qgj_A qgj_G;refine aT (cs:=[.pointer (some ⟨c.m,0,none⟩)]) h λb A1 I=>?_;refine mE (i:=0) I rfl rfl ?_;have I:=macG.backX I;simp only [aJ,add_at,Nat.zero_add];refine mE (i:=3) I rfl rfl ?_;refine aDn (macG.tlb I) λs A2 K J=>?_
 have p:(g.ls.filter (·.v)).length<=16:=by
  have:=(TlbS.openH (macG.tlb I)).1;exact Nat.le_trans (List.length_filter_le _ _) (by omega)
 have J:Own (SlO s 9 (lnC (g.ls.filter (·.v)))::macG c g (At b [.pointer (some ⟨c.m,0,none⟩)]::(L.map ownC++l))) A2:=J.cons λC u=>macG.tlbB u;have J:Own (macG c g (At b [.pointer (some ⟨c.m,0,none⟩)]::SlO s 9 (lnC (g.ls.filter (·.v)))::(L.map ownC++l))) A2:=macG.mapR (λC u=>u.swap) (macG.backX J);generalize W:g.ls.filter (·.v)=ys at J K p
 have good:∀ y ∈ ys,∀ {X:Bool->AH->Prop} {f:AH},Own (macG c g (At b [.pointer (some ⟨c.m,0,none⟩)]::SlO s 9 (lnC ys)::(L.map ownC++l))) f->(∀ d,Own (macG c g (At b [.pointer (some ⟨c.m,0,none⟩)]::SlO s 9 (lnC ys)::(L.map ownC++l))) d->X true d)->
   qgg_A y.v y.tag y.page y.frame y.w y.u y.x y.g y.d (some ⟨b,0,none⟩) X f:=λy V X f q hq=>by
  rw [<-W] at V;obtain ⟨Y,w⟩:=List.mem_filter.1 V;obtain ⟨g1,x,o,g3⟩:=U.ln y Y w;unfold vw at o;cases e:g.z.own.lookup y.tag with
  | none=>rw [e] at o;cases o
  | some id=>
   rw [e] at o;have o:lfL φ M.sps id y.page=some x:=o;unfold lfL at o;cases N:M.sps.find? (λs=>s.id==id) with
   | none=>rw [N] at o;cases o
   | some s0=>
    rw [N] at o;obtain ⟨a,O,rfl,Z⟩:=U.get (M:=M) (id:=id) N;obtain ⟨j,hj⟩:=List.mem_iff_getElem?.1 O;have hj2:(SlO s 9 (lnC ys)::(L.map ownC++l))[j+1]? = some (ownC a):=by grind
    exact aLE U q hj2 O e (by rw [<-Z];exact (U.lk O).1) g1 o g3 hq
 have fin:∀ {f:AH},Own (macG c g (At b [.pointer (some ⟨c.m,0,none⟩)]::SlO s 9 (lnC ys)::(L.map ownC++l))) f->Own (macG c g (L.map ownC++l)) f:=λq=>macG.mapR (λC u=>u.tail.tail) q;have S:∀ {f:AH} {v:Nat},Own (macG c g (At b [.pointer (some ⟨c.m,0,none⟩)]::SlO s 9 (lnC ys)::(L.map ownC++l))) f->(v:Int)<s.len->∃ y,ys[v]? = some y/\y ∈ ys:=λ{f v} q hv=>⟨ys[v]'(by omega),by simp,List.getElem_mem _⟩;unfold qgi_A qgi_G qgh_A qgh_G;refine ⟨λx m d=>x=0/\Own (macG c g (At b [.pointer (some ⟨c.m,0,none⟩)]::SlO s 9 (lnC ys)::(L.map ownC++l))) d,⟨0,rfl,J⟩,λx m f ⟨e1,q⟩=>?_⟩;subst e1;refine bsel_in (λD=>?_) λD=>?_
 .have D:(0:Int)<s.len:=of_decide_eq_true D;obtain ⟨y,V,hym⟩:=S (v:=0) q D;obtain ⟨a0,q1,q2⟩:=aGM (k:=8) q rfl (aY (s:=s)) V;rw [q1];simp only [aJ];refine inB_in (by omega) D (q2 _ ?_);refine good y hym q λA4 h4=>aG rfl (bsel_f rfl ?_);refine ⟨λx v m d=>x=0/\∃ i:Nat,v=i/\i+m=s.len/\Own (macG c g (At b [.pointer (some ⟨c.m,0,none⟩)]::SlO s 9 (lnC ys)::(L.map ownC++l))) d,⟨s.len-1,rfl,1,rfl,by omega,h4⟩,λx v m E ⟨e1,i,N,e3,F⟩=>?_⟩;subst e1 N;refine bsel_in (λc2=>?_) λc2=>?_
  .have c2:(i:Int)<s.len:=of_decide_eq_true c2;obtain ⟨y2,w,T⟩:=S (v:=i) F c2;obtain ⟨a2,q3,q4⟩:=aGM (k:=8) F rfl (aY (s:=s)) w;refine ⟨λx d=>x=0/\Own (macG c g (At b [.pointer (some ⟨c.m,0,none⟩)]::SlO s 9 (lnC ys)::(L.map ownC++l))) d,λx A6 ⟨e4,r⟩=>⟨m-1,by omega,e4,i+1,by rw [w64]<;>omega,by omega,r⟩,?_⟩;rw [q1] at q3;cases q3;refine inB_in (by omega) c2 (q4 _ ?_);exact good y2 T F λA6 r=>bsel_f rfl ⟨rfl,r⟩
  .refine inB_in (by omega) (by omega) ?_
   have hcap:s.cap≠0:=by
    have r:Own (SlO s 9 (lnC ys)::macG c g (At b [.pointer (some ⟨c.m,0,none⟩)]::(L.map ownC++l))) E:=by
     unfold macG at F ⊢;exact F.pick 8 rfl
    have:=r.capS6;omega
   have r:Own (SlO s 9 (lnC ys)::macG c g (At b [.pointer (some ⟨c.m,0,none⟩)]::(L.map ownC++l))) E:=by
    unfold macG at F ⊢;exact F.pick 8 rfl
   have hle:=r.capS6
   obtain ⟨t,rest,ha2,G⟩:∃ t rest,s.a=some ⟨t,0,none⟩/\Own (At t (lnC ys++rest)::macG c g (At b [.pointer (some ⟨c.m,0,none⟩)]::(L.map ownC++l))) E:=by
    obtain ⟨_,h7⟩:=r.pure;have H:Own ((λB=>∃ b rest,s.a=some ⟨b,0,none⟩/\At b (lnC ys++rest) B)::macG c g (At b [.pointer (some ⟨c.m,0,none⟩)]::(L.map ownC++l))) E:=h7.imp λB hB=>by grind
    obtain ⟨t,H⟩:=H.ex;obtain ⟨rest,H⟩:=H.ex;obtain ⟨O,H⟩:=H.pure;exact ⟨t,rest,O,H⟩
   have hsl:(if s.cap=Int.toNat (0:Int) then (some a0) else Option.map (λx=>Addr.add x (Int.toNat (0:Int)*9)) (some a0))=some ⟨t,0,none⟩:=by
    rw [<-q1,if_neg (by omega),ha2];rfl
   rw [hsl];show vB (Builtin.zeroCells _ _).toList (Addr.add ⟨t,0,none⟩ 0) 0 E _;rw [add_at,Nat.zero_add];have G:Own (At t ([]++lnC ys++rest)::macG c g (At b [.pointer (some ⟨c.m,0,none⟩)]::(L.map ownC++l))) E:=G;refine iW _ 0 E [] (lnC ys) rest _ G ?_ rfl (zH (λv hv=>?_)) λA6 h7=>?_
   .have hz:=eL (z:=#[.bool false,.int .i64 (0:Int),.int .i64 (0:Int),.int .i64 (0:Int),.bool false,.bool false,.bool false,.bool false,.bool false]) (n:=s.len-Int.toNat (0:Int));show (lnC ys).length=Array.size _;rw [hz,rT];show ys.length*9=(s.len-0)*9;omega
   .simp at hv;rcases hv with rfl | rfl | rfl<;>rfl
   .exact inB_in (by omega) (by omega) (hk _ A6 rfl (macG.mapR (λC u=>u.tail) h7.tail))
 .have D:¬(0:Int)<s.len:=of_decide_eq_false D;exact aG rfl (hk s f (by omega) (fin q))
theorem aKp {R:List SP} {Q:Sl->AH->Prop} (h:Own (MacS c M φ::R) A) (e:∀ s b,s.len=0->Own (MacS c M φ::R) b->Q s b):qgj_A (some ⟨c.m,0,none⟩) Q A:=by
 obtain ⟨g,L,d,h⟩:=MacS.openH h;exact aMj d h λs b hs h'=>e s b hs (MacS.closeH d h')
end Go.Dn
namespace Go.Dn
variable {A:AH} {l:List SP} {P:SP} {k:Nat} {s s5:Sl} {N:Int}
theorem aCb {r:Rg} {Q:Sl->AH->Prop} (h:Own l A) (e:l[k]? = some P) (G:Reads P s 2 (iN [r])) (H:s.a≠none) (V:r.1<r.2)
  (I:∀ s' D,Own (SlO s' 2 (iN [r])::l) D->Q s' D):qaj_A s Q A:=by
 unfold qaj_A qaj_G;refine aCm h e G (by simp) (λg=>absurd g H) λs1 J i j=>?_;have n:=j.rgs_len;simp only [List.length_singleton] at n;refine ⟨λx m h'=>∃ v:Nat,x=v/\m+v=1/\h'=J,⟨1,0,rfl,rfl,rfl⟩,?_⟩;intro x m W ⟨v,e1,K,E⟩;subst e1 E;refine bsel_in (λc=>?_) λ_=>aG rfl ?_
 .have c:(v:Int)<s1.len:=of_decide_eq_true c;obtain rfl:v=0:=by omega
  obtain ⟨a,p,q,t⟩:=aEp (k:=0) j rfl aY (v:=0) (y:=r) rfl;rw [p];exact inB_in (by omega) c (q _ (t _ (bsel_f (decide_eq_false (by omega)) ⟨0,by omega,1,rfl,rfl,rfl⟩)))
 .refine aFu j i (by simp) λd M _ X O=>?_;obtain rfl:=List.perm_singleton.1 M;refine ⟨λo x m h'=>∃ v:Nat,x=v/\m+v=1/\(o.a=none->v=0)/\Own (SlO o 2 (iN ([r].take v))::SlO s1 2 (iN [r])::l) h',⟨1,0,rfl,rfl,λ_=>rfl,O.nilS⟩,?_⟩;intro o x m F ⟨v,e1,K,E,f⟩;subst e1;refine bsel_in (λc=>?_) λc=>?_
  .have c:(v:Int)<s1.len:=of_decide_eq_true c;obtain rfl:v=0:=by omega
   have u:o.len=0:=f.rgs_len;refine ⟨λw h'=>w.a≠none/\Own (SlO w 2 (iN [r])::SlO s1 2 (iN [r])::l) h',λw R ⟨z,B⟩=>⟨0,by omega,1,rfl,rfl,λg=>absurd g z,B⟩,?_⟩;obtain ⟨a,p,q,t⟩:=aEp (k:=1) f rfl aY (v:=0) (y:=r) rfl;rw [p];refine inB_in (by omega) c (q _ (t _ ⟨λb h'=>b=false/\h'=F,λb R ⟨z,B⟩=>?_,bsel_f (by simp [u]) ⟨rfl,rfl⟩⟩));subst B;exact bsel_f z (aBs (L:=[]) f (λ_=>rfl) (by simp) λs' Y S T=>⟨λg=>(nomatch S g),T⟩)
  .have c:¬ (v:Int)<s1.len:=of_decide_eq_false c;obtain rfl:v=1:=by omega
   exact I o F (f.cons λC U=>U.tail)
theorem aJJ {Q:Sl->AH->Prop} (h:Own l A) (e:l[0]? = some P) (J:Reads P s 2 (iN [(0,N)])) (K:s.a≠none) {B:SP} {q:Sl} (D:l[1]? = some B) (r:Reads B q 2 (iN [(0,1)])) (t:q.a≠none) (hN:4<=N/\N<=262144)
  (M:∀ s' E,s'.a≠none->Own (SlO s' 2 (iN [(1,N)])::l) E->Q s' E):qak_A s q Q A:=by
 unfold qak_A qak_G;refine aCb h D r t (by simp) λs1 A1 O=>aCb (k:=1) O e J K (by omega) λn A2 u=>?_;have z:=u.rgs_len;have R:s1.len=1:=sS (k:=1) u rfl aY;simp only [List.length_singleton] at z;refine ⟨λo x m h'=>∃ v:Nat,x=v/\m+v=1/\(o.a=none->v=0)/\Own (SlO o 2 (iN ([((1:Int),N)].take v))::SlO n 2 (iN [(0,N)])::SlO s1 2 (iN [(0,1)])::l) h',⟨1,0,rfl,rfl,λ_=>rfl,u.nilS⟩,?_⟩;intro o x m F ⟨v,e1,D,S,p⟩;subst e1;refine bsel_in (λc=>?_) λc=>?_
 .have c:(v:Int)<n.len:=of_decide_eq_true c;obtain rfl:v=0:=by omega
  refine ⟨λb h'=>b.a≠none/\Own (SlO b 2 (iN [(1,N)])::SlO n 2 (iN [(0,N)])::SlO s1 2 (iN [(0,1)])::l) h',λb G ⟨f,i⟩=>⟨0,by omega,1,rfl,rfl,λg=>absurd g f,i⟩,?_⟩;obtain ⟨a,T,U,V⟩:=aEp (k:=1) p rfl aY (v:=0) (y:=(0,N)) rfl;rw [T];refine inB_in (by omega) c (U _ (V _ ⟨λb x y m h'=>∃ w:Nat,y=w/\x=w/\m+w=1/\b=o/\h'=F,⟨1,0,rfl,rfl,rfl,rfl,rfl⟩,?_⟩));intro b x y m H ⟨w,W,X,f3,Y,Z⟩;subst W X Y Z;refine bsel_in (λd=>?_) λd=>?_
  .have d:(w:Int)<s1.len:=of_decide_eq_true d;obtain rfl:w=0:=by omega
   refine ⟨λj I h'=>I=1/\j=b/\h'=H,λj I G ⟨f,i,g3⟩=>⟨0,by omega,1,rfl,f,rfl,i,g3⟩,?_⟩;obtain ⟨a2,q2,t1,t2⟩:=aEp (k:=2) p rfl aY (v:=0) (y:=(0,1)) rfl;rw [q2];refine inB_in (by omega) d (t1 _ (t2 _ (bsel_f rfl (bsel_f (decide_eq_false (by omega)) ⟨λj h'=>j=b/\h'=H,λj G ⟨f,i⟩=>⟨rfl,f,i⟩,bsel_f rfl ⟨rfl,rfl⟩⟩))))
  .have d:¬ (w:Int)<s1.len:=of_decide_eq_false d;obtain rfl:w=1:=by omega
   exact aG (decide_eq_true (by omega)) (aBs (L:=[]) p (λ_=>rfl) (by simp) λs' A6 j1 h6=>⟨λg=>(nomatch j1 g),h6⟩)
 .have c:¬ (v:Int)<n.len:=of_decide_eq_false c;obtain rfl:v=1:=by omega
  exact M o F (λg=>absurd (S g) (by simp)) (p.cons λC hC=>hC.tail.tail)
theorem aGp {Q:Sl->Int->AH->Prop} (h:Own (SlO s5 1 ((entB (0,N*4096,1)).map byV)::l) A) (d:s5.a≠none) (D:4<=N/\N<=262144)
  (E:∀ s1 r,Own (SlO s1 2 (iN [(1,N)])::SlO s5 1 ((entB (0,N*4096,1)).map byV)::l) r->Q s1 0 r):qal_A s5 N 0 1 Q A:=by
 unfold qal_A qal_G;have F:ArW (0,N*4096,1):=⟨⟨by simp,by simp⟩,⟨by simp only;omega,by simp only;omega⟩,by simp,by simp⟩
 have e:zJ (0,N*4096,1)=true:=by
  unfold zJ;simp only;rw [dO (by omega) (by omega)];simp;omega
 refine ⟨λh'=>h'=A,?_,bsel_f (decide_eq_false (by omega)) (bsel_f (decide_eq_false (by omega)) (bsel_f rfl (bsel_f rfl (bsel_f (decide_eq_false (by omega)) rfl))))⟩;intro A1 g;subst g;refine aDE (k:=0) h rfl aY (by obtain ⟨B,_,f⟩:=h.sat;exact f.1.2) (λg=>absurd g d) (aGT _) λa A2 i j=>?_;rw [aFX F e] at i j ⊢;have G:a.len=1:=aGi (k:=0) j rfl aY;refine bsel_f rfl (aT (cs:=[.int .i64 0,.int .i64 1]) j λb H n=>?_);have n:Own (SlO ⟨some ⟨b,0,none⟩,1,1⟩ 2 (iN [(0,1)])::SlO a 3 (tO [(0,N*4096,1)])::SlO s5 1 ((entB (0,N*4096,1)).map byV)::l) H:=n.imp λB f=>⟨⟨rfl,Nat.le_refl _⟩,.inr ⟨b,[],rfl,rfl,f⟩⟩;refine ⟨λu w x m h'=>∃ v:Nat,x=v/\m+v=1/\(u.a=none->v=0)/\w=⟨some ⟨b,0,none⟩,1,1⟩/\Own (SlO u 2 (iN ([((0:Int),N)].take v))::SlO ⟨some ⟨b,0,none⟩,1,1⟩ 2 (iN [(0,1)])::SlO a 3 (tO [(0,N*4096,1)])::SlO s5 1 ((entB (0,N*4096,1)).map byV)::l) h',⟨1,0,rfl,rfl,λ_=>rfl,rfl,n.nilS⟩,?_⟩;intro u w x m A4 ⟨v,e1,e2,I,J,o⟩;subst e1 J;refine bsel_in (λc=>?_) λc=>?_
 .have c:(v:Int)<a.len:=of_decide_eq_true c;obtain rfl:v=0:=by omega
  refine ⟨λp w' h'=>p.a≠none/\w'=⟨some ⟨b,0,none⟩,1,1⟩/\Own (SlO p 2 (iN [(0,N)])::SlO ⟨some ⟨b,0,none⟩,1,1⟩ 2 (iN [(0,1)])::SlO a 3 (tO [(0,N*4096,1)])::SlO s5 1 ((entB (0,N*4096,1)).map byV)::l) h',λp w' t ⟨K,M,O⟩=>⟨0,by omega,1,rfl,rfl,λg=>absurd g K,M,O⟩,?_⟩;obtain ⟨ad,R,S,T,U⟩:=aM5 (k:=2) o rfl aY (v:=0) (y:=(0,N*4096,1)) rfl;rw [R];refine inB_in (by omega) c (S _ (T _ (U _ (aCj ⟨by simp,by simp only;omega,by simp only;omega,by simp,by simp⟩ (by omega) (by omega) (aG rfl ?_)))))
  have V:frP (0,N*4096,1) N=(0,N):=by
   unfold frP;simp only [if_true];rw [if_neg (by omega:¬ N*4096=0)];refine Prod.ext ?_ ?_<;>simp only<;>split<;>omega
  rw [V];exact aBs (L:=[]) o (λ_=>rfl) (by simp) λs' A6 W X=>⟨λg=>(nomatch W g),rfl,X⟩
 .have c:¬ (v:Int)<a.len:=of_decide_eq_false c;obtain rfl:v=1:=by omega
  refine aJJ o rfl aY (λg=>absurd (I g) (by simp)) rfl aY (by simp) D λs' t Y z=>?_;have q:=z.rgs_len;exact bsel_f (by simp [q]) (E s' t (z.cons λC Z=>Z.tail.tail.tail))
end Go.Dn
namespace Go.Dn
variable {A:AH} {l R:List SP} {N tags:Int} {s s5:Sl} {k:Nat}
def m0 (N:Int):Mm:=⟨[],[⟨-1,N-1,2,0,true⟩],0,λ_ _=>0⟩
theorem aGV (e:4<=N/\N<=262144):bA (m0 N):=by
 refine { srt:=List.Pairwise.nil,good:=λs hs=>(by cases hs),pgs:=λs hs=>(by cases hs),reg:=λs hs=>(by cases hs),own:=List.nodup_nil,src:=λs hs=>(by cases hs),key:=λk b=>(by cases b),zero:=λ_ _ _=>rfl,keys0:=Int.le_refl _,tree:=⟨λd a=>?_,by simp [m0],⟨_,rfl,rfl,rfl⟩,λi d a _=>?_,λi d a _ hi=>?_⟩,live:=λs hs=>(by cases hs),use:=λi d a _=>?_,kind:=λs hs=>(by cases hs),bor:=λs hs=>(by cases hs),lent:=λs hs=>(by cases hs) }
 .simp [m0] at a;subst a;exact ⟨by simp,by simp,by simp;omega,by simp;omega⟩
 .cases i with
  | zero=>simp [m0] at a;subst a;rfl
  | succ i=>simp [m0] at a
 .cases i with
  | zero=>exact absurd rfl hi
  | succ i=>simp [m0] at a
 .cases i with
  | zero=>simp [m0] at a;subst a;rfl
  | succ i=>simp [m0] at a
theorem aJx {Q:Option Addr->Int->AH->Prop} (P:Own (SlO s5 1 ((entB (0,N*4096,1)).map byV)::l) A) (u:s5.a≠none) (p:4<=N/\N<=262144) (v:1<=tags/\tags<=4095)
  (w:∀ c K,c.N=N->Own (MacS c (m0 N) (λ_=>0)::l) K->Q (some ⟨c.m,0,none⟩) 0 K):qbr_A N 0 1 tags s5 Q A:=by
 unfold qbr_A qbr_G;refine aGp P u p λs1 A2 S=>?_;refine bsel_f rfl ?_;refine aF8 S v.1 v.2 λtg A3 T=>bsel_f rfl ?_;refine aT (cs:=lnC (List.replicate 16 ln0)) T λtl A4 U=>?_;refine uT (k:=.i64) U λsp A5 V=>?_;refine aT (cs:=[.pointer none,.pointer none,.pointer none,.pointer (some ⟨tl,0,none⟩),.pointer (some ⟨tg,0,none⟩),.int .i64 0,.map (some sp)]) V λm A6 W=>?_;refine aG1 W ⟨by omega,by omega⟩ λr A7 X=>?_;refine bU (i:=1) X rfl rfl rfl λA8 Y=>?_;have y:okR 0 [(1,N)]=true:=by simp [okR];omega
 refine aGw (k:=5) (rs:=[(1,N)]) Y rfl aY (λg=>by simp at g) (λ_ g=>by rw [y] at g;cases g) λ_ _ b A9 Z=>?_;simp only [aJ,add_at,Nat.zero_add];refine bU (i:=2) Z rfl rfl rfl λA10 e=>?_;refine bsel_f rfl (mE (i:=2) e rfl rfl ?_);refine zW e ?_;refine aGb e (λg=>by simp [cP] at g;omega) λ_ t A11 z=>?_;refine bU (i:=3) z rfl rfl rfl λn d=>?_;unfold qat_A;simp only [aJ,add_at,Nat.zero_add];refine mE (i:=3) d rfl rfl (mE (i:=3) d rfl rfl (mE (i:=3) d rfl rfl ?_));have D:cP [(1,N)]=N-1:=by simp [cP]
 have E:Own (aIJ N r b t (tr0 (N-1)) (inR [(1,N)]) (λ_=>False) (λ_ _=>0) 0 (At m [.pointer (some ⟨r,0,none⟩),.pointer (some ⟨b,0,none⟩),.pointer (some ⟨t,0,none⟩),.pointer (some ⟨tl,0,none⟩),.pointer (some ⟨tg,0,none⟩),.int .i64 0,.map (some sp)]::MapI sp .i64 []::At tl (lnC (List.replicate 16 ln0))::PcS tg (kH tags)::SlO s1 2 (iN [(1,N)])::SlO s5 1 ((entB (0,N*4096,1)).map byV)::l)) n:=by
  have d:Own (TreeS t [⟨-1,cP [(1,N)],0,0,true⟩]::Bud b (inR [(1,N)]) (λ_=>False) (cP [(1,N)])::RamW r N [] (λ_ _=>0)::At m [.pointer (some ⟨r,0,none⟩),.pointer (some ⟨b,0,none⟩),.pointer (some ⟨t,0,none⟩),.pointer (some ⟨tl,0,none⟩),.pointer (some ⟨tg,0,none⟩),.int .i64 0,.map (some sp)]::MapI sp .i64 []::At tl (lnC (List.replicate 16 ln0))::PcS tg (kH tags)::SlO s1 2 (iN [(1,N)])::SlO s5 1 ((entB (0,N*4096,1)).map byV)::l) n:=d;rw [D] at d;unfold aIJ;rw [show (tr0 (N-1)).fr-0=N-1 by show N-1-0=N-1;omega];exact (d.pick 2 rfl).cons λC hC=>Own.swap hC
 have F:aLt N (inR [(1,N)]) (λ_=>False):=⟨λx G=>vJ.2 (by simp [inR] at G;omega),λx G=>G.elim⟩;refine aJj E F p (by omega) λtop mid A13 W' hft hfm O hp1 H=>?_;refine bU (i:=3) H rfl rfl rfl λo I=>?_;obtain ⟨c,j⟩:∃ c:Mc,c=⟨N,r,b,t,m,tl,tg,sp,top,mid⟩:=⟨_,rfl⟩;refine bsel_f rfl ?_;have hm:c.m=m:=by rw [j]
 rw [<-hm];refine w c o (by rw [j]) ((MacS.closeH (g:=⟨λx=>inR [(1,N)] x/\x ∉ [top,mid],λx=>False\/x ∈ [top,mid],W',N-1-2,[⟨-1,N-1,2,0,true⟩],List.replicate 16 ln0,kH tags,[]⟩) (L:=[]) ?_ ?_))
 .have hi:=aGV p;have hin:∀ x,inR [(1,N)] x↔1<=x/\x<N:=λx=>by simp [inR]
  refine ⟨hi.toInvL,rfl,rfl,?_,List.Perm.nil,by rw [j];exact O.nodup,λf=>?_,λf=>?_,λa ha=>(by cases ha),λk w=>(by cases w),λq hq=>?_,pcNew_ok v,LnOK.new,by rw [j];exact p⟩
  .show N-1-2=sumZ rmN [⟨-1,N-1,2,0,true⟩];simp [sumZ,rmN,Nd.room]
  .rw [j];show (False\/f ∈ [top,mid])↔f ∈ top::mid::([]:List Sc).flatMap (frC λ_=>0);simp
  .grind
  .have:=O.top q hq;rw [j];show W' top q=_;rw [this];cases q with
   | zero=>rfl
   | succ q=>simp
 .rw [j];have J:Own (RamW r N [] W'::Bud b (λx=>inR [(1,N)] x/\x ∉ [top,mid]) (λx=>False\/x ∈ [top,mid]) ((tr0 (N-1)).fr-2)::TreeS t ((tr0 (N-1)).ns 2)::At m (mcC ⟨N,r,b,t,m,tl,tg,sp,top,mid⟩)::MapI sp .i64 []::At tl (lnC (List.replicate 16 ln0))::PcS tg (kH tags)::SlO s1 2 (iN [(1,N)])::SlO s5 1 ((entB (0,N*4096,1)).map byV)::l) o:=I;exact J.cons λ_ h=>h.cons λ_ h=>h.cons λ_ h=>h.cons λ_ h=>h.cons λ_ h=>(Own.imp (P':=TlbS tl (List.replicate 16 ln0)) (λB hB=>⟨by simp,hB⟩) h).cons λ_ h=>h.cons λ_ h=>h.tail.tail
theorem aG8 {Q:Option Addr->Sl->Sl->Int->Bool->AH->Prop} (h:Own l A) (e:4<=N/\N<=262144) (f:1<=tags/\tags<=4095)
  (g:∀ c (b:Nat) A',c.N=N->Own (At b [.int .i64 0,.int .i64 (-1),.int .i64 (N-1),.int .i64 2]::MacS c (m0 N) (λ_=>0)::l) A'->Q (some ⟨c.m,0,none⟩) (Sl.mk none 0 0) (Sl.mk (some ⟨b,0,none⟩) 1 1) 0 true A'):qbs_A N tags Q A:=by
 unfold qbs_A qbs_G qab_A qab_G;have j:IntKind.wrap .u64 N=N:=dO (by omega) (by omega);have m:IntKind.wrap .u64 (N*4096)=N*4096:=dO (by omega) (by omega);have n:IntKind.wrap .i64 (N-1)=N-1:=w64 (by omega) (by omega);rw [j,m,n];refine aDk (a:=(0,N*4096,1)) h λs5 v d o=>?_;refine aJx o d e f λc w p q=>?_;refine aT (cs:=[.int .i64 0,.int .i64 (-1),.int .i64 (N-1),.int .i64 2]) q λb r u=>aG rfl (g c b r p u)
variable {c:Mc} {M:Mm} {φ:Int->Int} {i:Int} {ns:List Nd} {t blk cap:Nat} {rest:List Value}
def noN (ns:List Nd) (i:Int):Prop:=i<0\/liveN ns i.toNat=false
theorem aKC {Q:Option Addr->Bool->AH->Prop} (h:Own (kZ t blk cap ns rest++R) A) (a:noN ns i) (b:Q none false A):qau_A (some ⟨t,0,none⟩) i Q A:=by
 unfold qau_A;refine bsel_in (λ_=>b) λg=>?_;have g:¬ i<0:=of_decide_eq_false g;refine ld_S (i:=0) h rfl rfl (bsel_in (λ_=>b) λd=>?_);have d:¬ i>=(ns.length:Int):=of_decide_eq_false d;obtain ⟨nd,hi⟩:∃ nd,ns[i.toNat]? = some nd:=⟨ns[i.toNat]'(by omega),by simp⟩
 have e:nd.live=false:=by
  rcases a with a | a
  .omega
  .unfold liveN at a;rw [hi] at a;exact a
 refine ld_S (i:=0) h rfl rfl (inB_in (by omega) (by simp;omega) ?_);rw [add_at,add_at];refine nL (i:=1) (n:=nd.live) h rfl ?_ (aG (by simp_all) b);rw [show 0+Int.toNat i*5+4=i.toNat*5+4 by omega];exact lQ hi (by omega) rfl
theorem aLA {q:Int} {Q:Int->Int->AH->Prop} (h:Own (MacS c M φ::R) A) (a:noN M.ns i) (b:Q 0 5 A):qfv_A (some ⟨c.t,0,none⟩) i q Q A:=by
 obtain ⟨g,L,d,h⟩:=MacS.openH h;obtain ⟨blk,cap,rest,f,e⟩:=TreeS.openH (macG.tree h);unfold qfv_A qfv_G;exact aKC e (by rw [d.ns];exact a) (aG rfl b)
theorem aII {id:Int} {Q:Int->AH->Prop} (h:Own (MacS c M φ::R) A) (e:noN M.ns i) (f:id<0->Q 1 A) (j:¬ id<0->(findS M id).isSome=true->Q 6 A) (m:¬ id<0->findS M id=none->Q 5 A):qbz_A (some ⟨c.m,0,none⟩) id i Q A:=by
 obtain ⟨g,L,b,h⟩:=MacS.openH h;unfold qbz_A qbz_G;refine bsel_in (λc1=>f (of_decide_eq_true c1)) λc1=>?_;have c1:¬ id<0:=of_decide_eq_false c1;simp only [aJ,add_at,Nat.zero_add];cases d:findS M id with
 | some s=>
  obtain ⟨a,pre,post,rfl,rfl,rfl,_⟩:=b.has d;exact uJ h b ⟨some ⟨a.2.p,0,none⟩,rfl,aG rfl (j c1 (by simp_all))⟩
 | none=>
  refine jY h b d ⟨none,rfl,bsel_f rfl (bQ (i:=3) h rfl rfl (prs (k:=3) h rfl ⟨bQ (i:=3) h rfl rfl rfl,?_⟩))⟩;unfold qby_A qby_G qbf_A qbf_G qaw_A qaw_G;obtain ⟨blk,cap,rest,o,n⟩:=TreeS.openH (macG.tree h);refine aKC n (by rw [b.ns];exact e) (aG rfl (aG rfl (aG rfl (aG rfl (m c1 d)))))
end Go.Dn
namespace Go.Dn
def Fz (B:AH):SP:=λC=>C=B
structure RdF (B:AH) (s:Sl) (sz:Nat) (cs:List Value):Prop where
 rd:Reads (Fz B) s sz cs
 nil:s.a=none->cs=[]
 cap:s.len<=s.cap
variable {A B B':AH} {R:List SP} {P:SP} {s:Sl} {sz:Nat} {cs:List Value}
theorem RdF.mono (h:RdF B s sz cs) (u:eU B B'):RdF B' s sz cs:=
 ⟨λC A a v=>h.rd B A rfl (u.trans (by rw [<-(show C=B' from a)];exact v)),h.nil,h.cap⟩
theorem RdF.none:RdF B Sl.nil sz []:=⟨λ_ _ _ _=>⟨by simp [Sl.nil],λj v a=>by simp at a⟩,λ_=>rfl,Nat.le_refl _⟩
theorem Own.frz (h:Own (P::Fz B::R) A):∃ B',eU B B'/\(∃ a,eU a B'/\P a)/\Own (Fz B'::R) A:=by
 have h:Own ([P,Fz B]++R) A:=h;obtain ⟨B',C,b,c,d,⟨D,E,k1,k2,e,f,⟨F,G,j,l2,k,g,_⟩⟩,i⟩:=h.app;refine ⟨B',?_,⟨D,k2,f⟩,B',C,b,c,d,rfl,i⟩;have:F=B:=g;subst this;exact l2.trans e
theorem Own.frzS (h:Own (SlO s sz cs::Fz B::R) A) (b:s.a=Option.none->cs=[]):∃ B',eU B B'/\RdF B' s sz cs/\Own (Fz B'::R) A:=by
 obtain ⟨B',c,⟨d,f,a⟩,g⟩:=h.frz;refine ⟨B',c,⟨λC i j v=>?_,b,a.1.2⟩,g⟩;have e:C=B':=j;subst e;exact aY d i a (f.trans v)
theorem uE {α:Type} {f:α->List Value} (a:∀ x,(f x).length=sz):∀ L:List α,(L.flatMap f).length=L.length*sz
 | []=>by simp
 | x::L=>by rw [List.flatMap_cons,List.length_append,a,uE a L,List.length_cons,Nat.succ_mul,Nat.add_comm]
theorem rQ {α:Type} {f:α->List Value} (a:∀ x,(f x).length=sz) {c:Nat} {w:Value} {y:α} (b:(f y)[c]? = some w):∀ {L:List α} {v:Nat},L[v]? = some y->(L.flatMap f)[v*sz+c]? = some w
 | [],_,h=>by simp at h
 | x::L,0,h=>by grind
 | x::L,v+1,h=>by
  rw [List.flatMap_cons,List.getElem?_append_right (by grind),a];rw [show (v+1)*sz+c-sz=v*sz+c by rw [Nat.succ_mul];omega];exact rQ a b (by simp_all)
theorem cZ {α:Type} {f:α->List Value} (a:∀ x,(f x).length=sz) (b:0<sz) {L:List α} {l:List SP} {k:Nat} (h:Own l A) (e:l[k]? = some P) (c:Reads P s sz (L.flatMap f)):s.len=L.length:=by
 have:=dV h e c;rw [uE a] at this;exact Nat.eq_of_mul_eq_mul_right b this
theorem rdG {α:Type} {f:α->List Value} (g:∀ x,(f x).length=sz) (t:0<sz) {L:List α} {y:α} {v:Nat} {l:List SP} {k:Nat} (h:Own l A) (e:l[k]? = some P) (i:Reads P s sz (L.flatMap f)) (j:L[v]? = some y) :
  ∃ a,s.a=some a/\bM A (Addr.add a (Int.toNat (v:Int)*sz))=(f y)[0]?/\∀ (c:Nat) (w:Value),(f y)[c]? = some w->bM A (Addr.add (Addr.add a (Int.toNat (v:Int)*sz)) c)=some w:=by
 have p:∃ w,(f y)[0]? = some w:=⟨(f y)[0]'(by simp_all),by simp⟩;obtain ⟨w0,d⟩:=p;obtain ⟨b,o,m,q⟩:=bK h e i (rQ g d j);refine ⟨_,m,?_,λc w r=>?_⟩
 .rw [add_at,Int.toNat_natCast,d];simpa using q
 .obtain ⟨u,z,n,c2⟩:=bK h e i (rQ g r j);rw [m] at n;cases n;rw [add_at,add_at,Int.toNat_natCast,Nat.add_assoc];exact c2
theorem aEN {α:Type} {f:α->List Value} (g:∀ x,(f x).length=sz) (c:∀ x,∀ v ∈ f x,v.oneCell'=true) (l:0<sz) {L:List α} {y:α} {t t2:TypeId} {bytes:Nat} {zc:Array Value} {K:Sl->AP}
  (h:Own (SlO s sz (L.flatMap f)::R) A) (hs:s.a=Option.none->L=[]) (d:zc.size=sz) (m:(L.length+1)*bytes<=140737488355328) (o:L.length<=1000000)
  (p:∀ s' a,s'.a≠Option.none->Own (SlO s' sz ((L++[y]).flatMap f)::R) a->K s' a) :
  aN A (.cells (f y).toArray t) λb e=>dM sz bytes zc t2 s (Sl.mk (some (Addr.mk b 0 Option.none)) 1 1) e K:=by
 have r:s.len=L.length:=by
  obtain ⟨B,_,u⟩:=h.sat;have:=u.1.1;rw [uE g] at this;exact Nat.eq_of_mul_eq_mul_right l this
 refine aT (cs:=f y) h λb F w=>?_;have e:=w.swap;refine dJ (i:=0) (P:=At b (f y)) (c2:=f y) e rfl ?_ (λq=>by cases q) (λq=>by rw [hs q];rfl) d (c y) ⟨by simp only;rw [r];exact m,by simp only;omega⟩ λs' a z D j=>?_
 .have:=eI (b:=b) (n:=1) (cap:=1) (sz:=sz) (cs:=f y) (rest:=[]) (by simp_all);rw [List.append_nil] at this;exact this
 have j:Own (SlO s' sz (L.flatMap f++f y)::R) a:=j.cons λC E=>E.tail;refine p s' a (λq=>?_) (by simp_all);have:=D q;have k:=congrArg List.length this;rw [List.length_append,g] at k;simp at k;omega
end Go.Dn
namespace Go.Dn
structure Bod where
 num:Int
 par:Int
 quo:Int
 use:Int
def Bod.cells (b:Bod):List Value:=[.int .i64 b.num,.int .i64 b.par,.int .i64 b.quo,.int .i64 b.use]
abbrev bxC (L:List Bod):List Value:=L.flatMap Bod.cells
variable {A:AH} {l R:List SP} {P:SP} {k:Nat} {s:Sl} {L:List Bod} {y:Bod} {i q:Int} {v:Nat}
theorem mD (b:Bod):b.cells.length=4:=rfl
theorem aLJ (b:Bod):∀ v ∈ b.cells,v.oneCell'=true:=λv a=>by
 simp [Bod.cells] at a;rcases a with rfl | rfl | rfl | rfl<;>rfl
theorem aAC (h:Own l A) (e:l[k]? = some P) (c:Reads P s 4 (bxC L)) (d:L[v]? = some y) :
  ∃ a,s.a=some a/\∀ K:Int->Int->Int->Int->Prop,K y.num y.par y.quo y.use->
   aI .i64 (Addr.add a (Int.toNat (v:Int)*4)) A λf=>aI .i64 (Addr.add (Addr.add a (Int.toNat (v:Int)*4)) 1) A λg=>aI .i64 (Addr.add (Addr.add a (Int.toNat (v:Int)*4)) 2) A λj=>aI .i64 (Addr.add (Addr.add a (Int.toNat (v:Int)*4)) 3) A λm=>K f g j m:=by
 obtain ⟨a,n,o,b⟩:=rdG mD (by decide) h e c d;exact ⟨a,n,λK p=>⟨y.num,o,y.par,b 1 _ rfl,y.quo,b 2 _ rfl,y.use,b 3 _ rfl,p⟩⟩
theorem aAU {t t2:TypeId} {K:Sl->AP} (h:Own (SlO s 4 (bxC L)::R) A) (hs:s.a=none->L=[]) (c:L.length<=1000000) (d:∀ s' a,s'.a≠none->Own (SlO s' 4 (bxC (L++[y]))::R) a->K s' a) :
  aN A (.cells #[.int .i64 y.num,.int .i64 y.par,.int .i64 y.quo,.int .i64 y.use] t) λb e=>dM 4 32 #[(.int .i64 (0:Int)),(.int .i64 (0:Int)),(.int .i64 (0:Int)),(.int .i64 (0:Int))] t2 s (Sl.mk (some (Addr.mk b 0 none)) 1 1) e K:=
 aEN (f:=Bod.cells) mD aLJ (by decide) h hs rfl (by omega) c d
theorem Own.slo0 {b sz:Nat} (h:Own (At b []::R) A):Own (SlO ⟨some ⟨b,0,none⟩,0,0⟩ sz []::R) A:=h.imp λ_ _=>⟨⟨by simp,Nat.le_refl _⟩,.inl rfl⟩
def sX (L:List Bod) (i:Int):Option Bod:=L.find? λb=>b.num==i
theorem jM {Q:Int->Int->Int->Int->Bool->AH->Prop} (h:Own l A) (e:l[k]? = some P) (f:Reads P s 4 (bxC L)) (w:L.length<=1000000)
  (j:sX L i=none->Q 0 0 0 0 false A) (o:∀ b,sX L i=some b->Q b.num b.par b.quo b.use true A):qcf_A s i Q A:=by
 have z:=cZ mD (by decide) h e f;unfold qcf_A;unfold sX at j o;refine ⟨λx _ _ _ _ m p=>∃ v:Nat,x=v/\m+v=L.length/\p=A/\L.find? (λb=>b.num==i)=(L.drop v).find? (λb=>b.num==i),⟨L.length,0,rfl,rfl,rfl,rfl⟩,?_⟩;intro x _ _ _ _ m B ⟨v,e1,C,r,d⟩;subst e1 r;refine bsel_in (λc=>?_) λc=>?_
 .have c:(v:Int)<s.len:=of_decide_eq_true c;obtain ⟨y,n⟩:∃ y,L[v]? = some y:=⟨L[v]'(by omega),by simp⟩;rw [jR n,List.find?_cons] at d;obtain ⟨a,t,u⟩:=aAC h e f n;rw [t];refine inB_in (by omega) c (u _ ?_);refine bsel_in (λg=>?_) λg=>?_
  .simp_all
  .rw [g] at d;exact ⟨m-1,by omega,v+1,by rw [w64]<;>omega,by omega,rfl,d⟩
 .have c:¬(v:Int)<s.len:=of_decide_eq_false c;rw [List.drop_eq_nil_of_le (by omega)] at d;exact j d
def kY (L:List Bod) (i:Int):Int:=sumZ (λb=>if b.par=i then b.quo else 0) L
theorem yJ {α:Type} {f:α->Int} {n:Int}:∀ {l:List α},(∀ x ∈ l,0<=f x/\f x<=n)->0<=sumZ f l/\sumZ f l<=n*l.length
 | [],_=>by simp [sumZ]
 | x::r,h=>by
  have b:=yJ (l:=r) λy a=>h y (List.mem_cons_of_mem _ a);have c:=h x List.mem_cons_self;simp only [sumZ,List.length_cons];have:n*((r.length+1:Nat):Int)=n*(r.length:Int)+n:=by rw [Int.natCast_add,Int.mul_add];simp
  omega
structure aF2 (L:List Bod):Prop where
 len:L.length<=64
 rng:∀ b ∈ L,0<=b.quo/\b.quo<=1048576/\0<=b.use/\b.use<=1048576
theorem uI (h:aF2 L) (v:Nat):0<=kY (L.take v) i/\kY (L.take v) i<=67108864:=by
 have c:=yJ (f:=λb:Bod=>if b.par=i then b.quo else 0) (n:=1048576) (l:=L.take v) λb a=>by
  have:=h.rng b (List.mem_of_mem_take a);split<;>omega
 unfold kY;have d:(L.take v).length<=64:=Nat.le_trans (by simp;omega) h.len;omega
theorem aBP {Q:Int->AH->Prop} (h:Own l A) (e:l[k]? = some P) (f:Reads P s 4 (bxC L)) (b:aF2 L) (r:Q (kY L i) A):qcg_A s i Q A:=by
 have F:=cZ mD (by decide) h e f;have:=b.len;unfold qcg_A;refine ⟨λn x m d=>∃ v:Nat,x=v/\m+v=L.length/\d=A/\n=kY (L.take v) i,⟨L.length,0,rfl,rfl,rfl,rfl⟩,?_⟩;intro n x m t ⟨v,e1,G,u,w⟩;subst e1 u w;refine bsel_in (λc=>?_) λc=>?_
 .have c:(v:Int)<s.len:=of_decide_eq_true c;obtain ⟨y,j⟩:∃ y,L[v]? = some y:=⟨L[v]'(by omega),by simp⟩;have H:=uI (i:=i) b v;have z:=uI (i:=i) b (v+1)
  have o:kY (L.take (v+1)) i=kY (L.take v) i+if y.par=i then y.quo else 0:=by
   rw [dX j];unfold kY;rw [jD];simp [sumZ]
  refine ⟨λp d=>p=kY (L.take (v+1)) i/\d=t,λp I ⟨B,C⟩=>⟨m-1,by omega,v+1,by rw [w64]<;>omega,by omega,C,B⟩,?_⟩;obtain ⟨a,D,E⟩:=aAC h e f j;rw [D];refine inB_in (by omega) c (E _ ?_);refine bsel_in (λg=>⟨?_,rfl⟩) λg=>⟨?_,rfl⟩
  .rw [if_pos (by simp_all)] at o;rw [o] at z ⊢;exact w64 (by omega) (by omega)
  .simp_all
 .have c:¬(v:Int)<s.len:=of_decide_eq_false c;rw [List.take_of_length_le (by omega)];exact r
def uV (L:List Bod) (i:Int):Int:=match sX L i with | none=>0 | some b=>b.quo-b.use-kY L i
theorem aHt {b:Bod} (h:sX L i=some b):b ∈ L/\b.num=i:=by
 unfold sX at h;exact ⟨List.mem_of_find?_eq_some h,by simpa using List.find?_some h⟩
theorem vA {Q:Int->AH->Prop} (h:Own l A) (e:l[k]? = some P) (d:Reads P s 4 (bxC L)) (c:aF2 L) (a:Q (uV L i) A):qch_A s i Q A:=by
 unfold qch_A qch_G;have f:=c.len;refine jM h e d (by omega) (λg=>?_) λb g=>?_
 .unfold uV at a;rw [g] at a;exact aG rfl a
 .refine bsel_f rfl (aBP h e d c ?_);unfold uV at a;rw [g] at a;have m:=c.rng b (aHt g).1;have j:=uI (i:=i) c L.length;rw [List.take_length] at j;rw [w64 (n:=b.quo-b.use) (by omega) (by omega),w64 (by omega) (by omega)];exact a
def aBu (L:List Bod) (i n:Int):List Bod:=L.map λb=>if b.num=i then { b with use:=b.use+n } else b
theorem lY {n:Int} {B:AH} {Q:Sl->AH->Prop} (h:Own (Fz B::R) A) (r:RdF B s 4 (bxC L)) (t:aF2 L) (T : -1048576<=n/\n<=1048576)
  (D:∀ s' e d,eU B e->RdF e s' 4 (bxC (aBu L i n))->Own (Fz e::R) d->Q s' d):qcj_A s i n Q A:=by
 have U:=cZ mD (by decide) h (k:=0) rfl r.rd;have:=t.len;unfold qcj_A;refine aT (cs:=[]) h λb V E=>?_;refine ⟨λo x m d=>∃ v:Nat,x=v/\m+v=L.length/\o.a≠none/\Own (SlO o 4 (bxC (aBu (L.take v) i n))::Fz B::R) d,⟨L.length,0,rfl,rfl,(λg=>nomatch g),E.slo0⟩,?_⟩;intro o x m w ⟨v,e1,W,z,f⟩;subst e1;refine bsel_in (λc=>?_) λc=>?_
 .have c:(v:Int)<s.len:=of_decide_eq_true c;obtain ⟨y,j⟩:∃ y,L[v]? = some y:=⟨L[v]'(by omega),by simp⟩;obtain ⟨a,F,G⟩:=aAC (k:=1) f rfl r.rd j;have H:=t.rng y (List.mem_of_getElem? j);rw [F];refine inB_in (by omega) c (G _ ?_)
  have I:aBu (L.take (v+1)) i n=aBu (L.take v) i n++[if y.num=i then { y with use:=y.use+n } else y]:=by
   rw [dX j];unfold aBu;rw [List.map_append];rfl
  have C:(aBu (L.take v) i n).length<=64:=by unfold aBu;simp;omega
  refine ⟨λu d=>u=(if y.num=i then y.use+n else y.use)/\d=w,λu X ⟨J,K⟩=>?_,?_⟩
  .subst J K;refine aAU (y:=⟨y.num,y.par,y.quo,if y.num=i then y.use+n else y.use⟩) f (λg=>absurd g z) (by omega) λs' Y p M=>?_;refine ⟨m-1,by omega,v+1,by rw [w64]<;>omega,by omega,p,?_⟩;rw [I];have:(⟨y.num,y.par,y.quo,if y.num=i then y.use+n else y.use⟩:Bod)=if y.num=i then { y with use:=y.use+n } else y:=by split<;>rfl
   rw [<-this];exact M
  .refine bsel_in (λg=>⟨?_,rfl⟩) λg=>⟨?_,rfl⟩
   .rw [if_pos (by simp_all)];exact w64 (by omega) (by omega)
   .simp_all
 .have c:¬(v:Int)<s.len:=of_decide_eq_false c;rw [List.take_of_length_le (by omega)] at f;obtain ⟨e,N,O,S⟩:=f.frzS λg=>absurd g z;exact D o e w N O S
def aK5 (L:List Bod):Prop:=∀ (v:Nat) (b:Bod),L[v]? = some b->b.num=(v:Int)
theorem aBD (h:aK5 L) (v:Nat):sX L v=L[v]?:=by
 unfold sX;cases e:L[v]? with
 | none=>
  rw [List.find?_eq_none];intro b d;obtain ⟨j,a⟩:=List.mem_iff_getElem?.1 d;have c:=h j b a;have n:j≠v:=λz=>by rw [z,e] at a;cases a
  rw [c];simp;omega
 | some y=>
  obtain ⟨f,g⟩:=List.getElem?_eq_some_iff.1 e;have m:=h v y e;rw [List.find?_eq_some_iff_getElem];refine ⟨by simp [m],v,f,g,λj a=>?_⟩;have c:=h j (L[j]'(by omega)) (by simp);rw [c];simp;omega
def fD (L:List Bod) (i q:Int):Int:=match sX L i with | none=>5 | some _=>if q<0 then 1 else if q > uV L i then 8 else if 63<L.length then 4 else 0
theorem rA {B:AH} {Q:Sl->Int->Int->AH->Prop} (h:Own (Fz B::R) A) (t:RdF B s 4 (bxC L)) (S:aF2 L) (C:aK5 L) (V:fD L i q≠0->Q s 0 (fD L i q) A)
  (I:fD L i q=0->∀ s' D d,eU B D->RdF D s' 4 (bxC (L++[⟨L.length,i,q,0⟩]))->Own (Fz D::R) d->Q s' L.length 0 d):qfw_A s i q Q A:=by
 have hl:=cZ mD (by decide) h (k:=0) rfl t.rd;have W:=S.len;have ok:∀ e,fD L i q=e->e≠0->Q s 0 e A:=λe X C=>by have:=V (by omega);rw [X] at this;exact this
 unfold qfw_A qfw_G;refine jM (k:=0) h rfl t.rd (by omega) (λg=>aG rfl (ok 5 (by unfold fD;rw [g]) (by decide))) λb g=>bsel_f rfl ?_;refine bsel_in (λf=>?_) λf=>?_
 .exact ok 1 (by unfold fD;rw [g];simp only;rw [if_pos (of_decide_eq_true f)]) (by decide)
 have f:¬ q<0:=of_decide_eq_false f;refine vA (k:=0) h rfl t.rd S ?_;refine bsel_in (λu=>?_) λu=>?_
 .exact ok 8 (by unfold fD;rw [g];simp only;rw [if_neg f,if_pos (of_decide_eq_true u)]) (by decide)
 have u:¬ q > uV L i:=of_decide_eq_false u;refine bsel_in (λE=>?_) λE=>?_
 .have E:(s.len:Int) > 63:=of_decide_eq_true E;exact ok 4 (by unfold fD;rw [g];simp only;rw [if_neg f,if_neg u,if_pos (by omega)]) (by decide)
 have E:¬ (s.len:Int) > 63:=of_decide_eq_false E;have Y:fD L i q=0:=by unfold fD;rw [g];simp only;rw [if_neg f,if_neg u,if_neg (by omega)]
 have I:=I Y;refine ⟨λn x m d=>∃ v:Nat,x=v/\v<=L.length+1/\m+v=L.length+1/\d=A/\n=((if v<=L.length then v else L.length:Nat):Int),⟨L.length+1,0,rfl,by omega,by omega,rfl,by simp⟩,?_⟩;intro n x m Z ⟨v,e1,e5,T,j,e4⟩;subst e1 j e4;refine bsel_in (λc=>?_) λc=>?_
 .have c:(v:Int)<=s.len:=of_decide_eq_true c;rw [if_pos (by omega)];refine ⟨λU d=>U=((if v+1<=L.length then v+1 else L.length:Nat):Int)/\d=Z,λU A2 ⟨F,G⟩=>⟨m-1,by omega,v+1,by rw [w64]<;>omega,by omega,by omega,G,F⟩,?_⟩;refine jM (k:=0) h rfl t.rd (by omega) (λw=>bsel_f rfl ⟨?_,rfl⟩) λb' w=>aG rfl ⟨?_,rfl⟩
  .rw [aBD C] at w;have:=List.getElem?_eq_none_iff.1 w;rw [if_neg (by omega)];omega
  .rw [aBD C] at w;have:=(List.getElem?_eq_some_iff.1 w).1;rw [if_pos (by omega),w64 (by omega) (by omega)];omega
 .have c:¬ (v:Int)<=s.len:=of_decide_eq_false c;rw [if_neg (by omega)];refine aT (cs:=[]) h λb1 A2 h2=>?_;refine ⟨λo x m d=>∃ v:Nat,x=v/\m+v=L.length/\o.a≠none/\Own (SlO o 4 (bxC (L.take v))::Fz B::R) d,⟨L.length,0,rfl,rfl,(λg=>nomatch g),h2.slo0⟩,?_⟩;intro o x m A3 ⟨v,e1,T,j,H⟩;subst e1;refine bsel_in (λc=>?_) λc=>?_
  .have c:(v:Int)<s.len:=of_decide_eq_true c;obtain ⟨y,z⟩:∃ y,L[v]? = some y:=⟨L[v]'(by omega),by simp⟩;obtain ⟨a,J,K⟩:=aAC (k:=1) H rfl t.rd z;refine ⟨λp d=>p.a≠none/\Own (SlO p 4 (bxC (L.take (v+1)))::Fz B::R) d,λp M ⟨F,G⟩=>⟨m-1,by omega,v+1,by rw [w64]<;>omega,by omega,F,G⟩,?_⟩;rw [J];refine inB_in (by omega) c (K _ ?_);refine aG (decide_eq_true (by rw [C v y z];omega)) (aAU (y:=y) H (λg=>absurd g j) (by simp;omega) λs' M r N=>⟨r,?_⟩);rw [dX z];exact N
  .have c:¬(v:Int)<s.len:=of_decide_eq_false c;rw [List.take_of_length_le (by omega)] at H;refine aAU (y:=⟨L.length,i,q,0⟩) H (λg=>absurd g j) (by omega) λs' M r N=>?_;refine ⟨λo x m d=>∃ v:Nat,x=v/\m+v=L.length/\o.a≠none/\Own (SlO o 4 (bxC (L++[⟨L.length,i,q,0⟩]))::Fz B::R) d,⟨L.length,0,rfl,rfl,r,N⟩,?_⟩;intro o x m A5 ⟨v,e1,T,j,O⟩;subst e1;refine bsel_in (λc=>?_) λc=>?_
   .have c:(v:Int)<s.len:=of_decide_eq_true c;obtain ⟨y,z⟩:∃ y,L[v]? = some y:=⟨L[v]'(by omega),by simp⟩;obtain ⟨a,J,K⟩:=aAC (k:=1) O rfl t.rd z;refine ⟨λp d=>p.a≠none/\Own (SlO p 4 (bxC (L++[⟨L.length,i,q,0⟩]))::Fz B::R) d,λp M ⟨F,G⟩=>⟨m-1,by omega,v+1,by rw [w64]<;>omega,by omega,F,G⟩,?_⟩;rw [J];refine inB_in (by omega) c (K _ ?_);exact bsel_f (decide_eq_false (by rw [C v y z];omega)) ⟨j,O⟩
   .obtain ⟨D,u1,u2,u3⟩:=O.frzS λg=>absurd g j;exact I o D A5 u1 u2 u3
end Go.Dn
namespace Go.Dn
abbrev At4:=Bool × Bool × Bool × Int
variable {L C D out ol:List Reg} {y z:Reg} {p q e e':Int} {pw pu px:Bool} {f:Int->Option At4} {a:At4}
theorem wF (h:srtR L) (b:∀ x ∈ L,p<x.a):lookR L p=none:=by
 unfold lookR findR;rw [Option.map_eq_none_iff,List.find?_eq_none];intro x c;have:=b x c;simp;omega
theorem aAR (b:∀ x ∈ L,x.b<=p):lookR L p=none:=by
 unfold lookR findR;rw [Option.map_eq_none_iff,List.find?_eq_none];intro x c;have:=b x c;simp;omega
theorem fU (h:srtR (y::L)):lookR (y::L) y.a=some (attrR y):=by
 rw [bE,if_pos ⟨Int.le_refl _,h.1.2.1⟩]
theorem aAW (h:srtR (y::L)) (c:lookR (y::L) p≠none):y.a<=p:=by
 rcases Int.lt_or_le p y.a with g | g
 .refine absurd (wF h λx b=>?_) c;rcases List.mem_cons.1 b with rfl | b
  .exact g
  .have:=h.2.1 x b;have:=h.1;omega
 .exact g
theorem aBS (h:srtR (y::L)) (d:njR (y::L)):lookR (y::L) y.b≠some (attrR y):=by
 intro e;rw [bE,if_neg (by omega)] at e;cases L with
 | nil=>simp [lookR,findR] at e
 | cons z r=>
  have g:=h.2.1 z (by simp);have i:=aAW h.2.2 (p:=y.b) (by rw [e];simp);have b:z.a=y.b:=by omega
  rw [<-b,fU h.2.2] at e;have c:=d.1 z rfl;rw [Bool.eq_false_iff] at c;exact c (lD.2 ⟨b.symm,(Option.some.inj e).symm⟩)
theorem aBo:∀ {C D:List Reg},srtR C->njR C->srtR D->njR D->(∀ n,lookR C n=lookR D n)->C=D
 | [],[],_,_,_,_,_=>rfl
 | [],y::D,_,_,h,_,he=>by
  have:=he y.a;rw [fU h] at this;cases this
 | x::C,[],h,_,_,_,he=>by
  have:=he x.a;rw [fU h] at this;cases this
 | x::C,y::D,h1,h2,h3,h4,he=>by
  have e1:x.a=y.a:=by
   have k1:=aAW h3 (p:=x.a) (by rw [<-he,fU h1];simp);have k2:=aAW h1 (p:=y.a) (by rw [he,fU h3];simp);omega
  have b:attrR x=attrR y:=by
   have:=he x.a;rw [fU h1,e1,fU h3] at this;exact Option.some.inj this
  have d:x.b=y.b:=by
   have i:=h1.1;have r:=h3.1;rcases Int.lt_trichotomy x.b y.b with g | g | g
   .exfalso;apply aBS h1 h2;rw [he,bE,if_pos ⟨by omega,g⟩,b]
   .exact g
   .exfalso;apply aBS h3 h4;rw [<-he,bE,if_pos ⟨by omega,g⟩,b]
  have j:x=y:=by
   obtain ⟨s,t,u,v,w,A⟩:=x;obtain ⟨B,E,F,G,H,I⟩:=y;simp only [attrR,Prod.mk.injEq] at e1 b d;obtain ⟨k,l,m,o⟩:=b;subst e1 d k l m o;rfl
  subst j;refine congrArg _ (aBo h1.2.2 h2.2 h3.2.2 h4.2 λn=>?_);have:=he n;rw [bE,bE] at this;by_cases g:x.a<=n/\n<x.b
  .have i:=h1.1;rw [wF h1.2.2 λz c=>by have:=h1.2.1 z c;omega,wF h3.2.2 λz c=>by have:=h3.2.1 z c;omega]
  .rw [if_neg g,if_neg g] at this;exact this
theorem aKf (hs:srtR L) (b:p<q):srtR (cutR L p q)/\njR (cutR L p q)/\∀ n,lookR (cutR L p q) n=if p<=n/\n<q then none else lookR L n:=by
 obtain ⟨c,_,d⟩:=sC (ch:=noR) (λy=>.inl rfl) b (λ_=>none) (λy x _ _=>rfl) hs;obtain ⟨g,h,i⟩:=gE c;have e:cutR L p q=mergedR (L.flatMap (spl1 noR p q)):=by unfold cutR;rw [aBz]
 rw [e];refine ⟨g,h,λn=>?_⟩;rw [i,d];split
 .cases lookR L n<;>rfl
 .rfl
theorem aHC (hs:srtR L) (b:p<q):srtR (protR L p q pw pu px)/\njR (protR L p q pw pu px)/\∀ n,lookR (protR L p q pw pu px) n=if p<=n/\n<q then (lookR L n).map λa=>(pw,pu,px,a.2.2.2) else lookR L n:=by
 obtain ⟨c,_,d⟩:=sC (ch:=asR pw pu px) (λy=>.inr ⟨_,rfl,rfl,rfl⟩) b (λa=>some (pw,pu,px,a.2.2.2)) (λy x g h=>by
  show lookR [_] x=_;rw [bE,if_pos ⟨g,h⟩];rfl) hs
 obtain ⟨i,j,k⟩:=gE c;refine ⟨i,j,λn=>?_⟩;unfold protR;rw [k,d];split
 .cases lookR L n<;>rfl
 .rfl
theorem aJR (i:srtR L) (j:rightB y.a y.b=true) {v:Nat} (k:atS y L 0 0=some v):srtR (addL L y)/\njR (addL L y)/\∀ p,lookR (addL L y) p=if y.a<=p/\p<y.b then some (attrR y) else lookR L p:=by
 have r:addL L y=mergedR (L.take v++y::L.drop v):=by unfold addL;rw [k]
 obtain ⟨c,w,s,l,t⟩:=rW i k;have g:v=c:=by split at s<;>omega
 subst g
 have h:0<=y.a/\y.a<y.b/\y.b<=34359738368:=by
  unfold rightB at j;simp at j;omega
 have hs:=cK.1 (by rw [List.take_append_drop];exact i:srtR (L.take v++L.drop v))
 have u:srtR (L.take v++y::L.drop v):=cK.2 ⟨hs.1,⟨h,λz b=>(t z b).1,hs.2.1⟩,λx d z b=>by
  rcases List.mem_cons.1 b with e | b
  .rw [e];exact l x d
  .exact hs.2.2 x d z b⟩
 obtain ⟨m,n,o⟩:=gE u;rw [<-r] at m n o;refine ⟨m,n,λp=>?_⟩;rw [o p,dB,bE];have e1:lookR L p=(lookR (L.take v) p).or (lookR (L.drop v) p):=by rw [<-dB,List.take_append_drop]
 by_cases c:y.a<=p/\p<y.b
 .rw [if_pos c];have:lookR (L.take v) p=none:=aAR λx d=>by have:=l x d;omega
  rw [this,if_pos c];rfl
 .rw [if_neg c,if_neg c,e1]
def uO (L:List Reg) (p q how:Int) (x:Reg) (n:Int):Option At4:=if p<=n/\n<q then (if how=1 then some (attrR x) else if how=2 then none else if how=3 then (lookR L n).map (λa=>(x.w,x.u,x.x,a.2.2.2)) else lookR L n) else lookR L n
structure ChI (f:Int->Option At4) (e:Int) (out:List Reg):Prop where
 srt:srtR out
 nj:njR out
 le:∀ x ∈ out,x.b<=e
 look:∀ n,lookR out n=if n<e then f n else none
theorem ChI.start (h:∀ n,n<e->f n=none):ChI f e []:=⟨trivial,trivial,(λx b=>nomatch b),λn=>by
 show none=_;split
 .rw [h n (by assumption)]
 .rfl⟩
theorem ChI.skip (h:ChI f e out) (b:e<=e') (c:∀ n,e<=n->n<e'->f n=none):ChI f e' out:=⟨h.srt,h.nj,λx d=>by have:=h.le x d;omega,λn=>by
 rw [h.look];by_cases g:n<e
 .rw [if_pos g,if_pos (by omega)]
 .rw [if_neg g];split
  .rw [c n (by omega) (by assumption)]
  .rfl⟩
theorem ChI.new (h:ChI f e out) (d:e<e') (o:0<=e) (r:e'<=34359738368) (i:y.a=e) (j:y.b=e') (k:∀ n,e<=n->n<e'->f n=some (attrR y)) (l:∀ x,out.getLast? = some x->cQ x y=false):ChI f e' (out++[y]):=by
 refine ⟨cK.2 ⟨h.srt,⟨⟨by omega,by omega,by omega⟩,by simp,trivial⟩,λx b z m=>?_⟩,lL.2 ⟨h.nj,l⟩,λx b=>?_,λn=>?_⟩
 .rw [List.mem_singleton.1 m];have:=h.le x b;omega
 .rcases List.mem_append.1 b with b | b
  .have:=h.le x b;omega
  .rw [List.mem_singleton.1 b];omega
 .rw [dB,h.look,bE];by_cases g:n<e
  .rw [if_pos g,if_neg (by omega),if_pos (by omega)];show (f n).or none=_;simp
  .rw [if_neg g];show (if y.a<=n/\n<y.b then some (attrR y) else lookR [] n)=_;by_cases c:n<e'
   .rw [if_pos (by omega),if_pos c,k n (by omega) c]
   .rw [if_neg (by omega),if_neg c];rfl
theorem ChI.more (h:ChI f e (ol++[z])) (l:e<e') (m:e'<=34359738368) (A:z.b=e) (o:∀ n,e<=n->n<e'->f n=some (attrR z)):ChI f e' (ol++[{ z with b:=e' }]):=by
 obtain ⟨s1,r,k⟩:=cK.1 h.srt;obtain ⟨s,t⟩:=lL.1 h.nj;have i:=r.1;refine ⟨cK.2 ⟨s1,⟨⟨i.1,by simp only;omega,m⟩,by simp,trivial⟩,λx c w u=>?_⟩,lL.2 ⟨s,λx c=>?_⟩,λx c=>?_,λn=>?_⟩
 .rw [List.mem_singleton.1 u];exact k x c z (by simp)
 .rw [<-t x c];exact yP rfl rfl rfl rfl
 .rcases List.mem_append.1 c with c | c
  .have:=h.le x (by simp [c]);omega
  .rw [List.mem_singleton.1 c];exact Int.le_refl _
 .have j:=h.look n;rw [dB,bE] at j ⊢;show (lookR ol n).or (if z.a<=n/\n<e' then some (attrR { z with b:=e' }) else lookR [] n)=_;by_cases g:n<e
  .rw [if_pos g] at j;rw [if_pos (show n<e' by omega),<- j];by_cases d:z.a<=n
   .rw [if_pos (show z.a<=n/\n<e' by omega),if_pos (show z.a<=n/\n<z.b by omega)];rfl
   .rw [if_neg (show ¬ (z.a<=n/\n<e') by omega),if_neg (show ¬ (z.a<=n/\n<z.b) by omega)]
  .have v:lookR ol n=none:=aAR λx c=>by have:=k x c z (by simp);omega
   rw [v];show (if z.a<=n/\n<e' then some (attrR { z with b:=e' }) else lookR [] n)=_;by_cases d:n<e'
   .rw [if_pos (by omega),if_pos d,o n (by omega) d];rfl
   .rw [if_neg (by omega),if_neg d];rfl
end Go.Dn
