/- What the proof stands on. -/
import Derived.Test.YtmfmhmipcdgikaaGreatMaps
import Derived.Test.YtmfmhmipcdgikaaGreatMap
import Derived.Test.YtmfmhmipcdgikaaGreatTreeP
import Derived.Test.YtmfmhmipcdgikaaGreatRgs
import Derived.Test.YtmfmhmipcdgikaaGreatBusy
namespace Go.Dn
variable {W W':Int->Int->Int} {root:Int} {tab:Tab} {lf:Int->Option Lf}
theorem pD {b0 b1 b2 a d b5 b6 b7:Bool} {f:Int} (hf:0<=f/\f<1048576):or5 (packZ b0 b1 b2 a d b5 b6 b7 f)=packZ b0 b1 b2 true d b5 b6 b7 f:=by
 have hb:=(eC b0 b1 b2 a d b5 b6 b7 hf).2.2.2.1;unfold or5;rw [hb];cases a with
 | true=>rfl
 | false=>unfold packZ eZ;simp;omega
theorem sY {b0 b1 b2 a d b5 b6 b7:Bool} {f:Int} (hf:0<=f/\f<1048576):or6 (packZ b0 b1 b2 a d b5 b6 b7 f)=packZ b0 b1 b2 a true b5 b6 b7 f:=by
 have hb:=(eC b0 b1 b2 a d b5 b6 b7 hf).2.2.2.2.1;unfold or6;rw [hb];cases d with
 | true=>rfl
 | false=>unfold packZ eZ;simp;omega
theorem EntIs.mark {w:Int} {g:Int} (h:EntIs w (some g)) (hg:0<=g/\g<1048576):EntIs (or5 w) (some g)/\EntIs (or6 (or5 w)) (some g):=by
 obtain ⟨a,d,rfl⟩:=h;rw [pD hg,sY hg];exact ⟨⟨true,d,rfl⟩,⟨true,true,rfl⟩⟩
theorem LeafIs.mark {w:Int} {l:Lf} (h:LeafIs w (some l)) (hg:0<=l.frame/\l.frame<1048576):LeafIs (or5 w) (some l)/\LeafIs (or6 (or5 w)) (some l):=by
 obtain ⟨a,d,rfl⟩:=h;rw [pD hg,sY hg];exact ⟨⟨true,d,rfl⟩,⟨true,true,rfl⟩⟩
def xE (W W':Int->Int->Int):Prop:=∀ f j,0<=j->j<512->W' f j=W f j\/(W f j≠0/\(W' f j=or5 (W f j)\/W' f j=or6 (or5 (W f j))))
theorem TabW.mark (h:TabW W root tab lf) (hm:xE W W'):TabW W' root tab lf:=by
 refine ⟨h.root,h.deep,λk q f hk hf j h0 h1 h2=>?_,λq f hf j h0 h1=>?_,h.up,h.upL,h.apart,h.range,h.rangeL⟩
 ·have hw:=h.words k q f hk hf j h0 h1 h2;cases e:tab (k+1) (q*512+j) with
  | none=>
   rw [e] at hw;have hw:W f j=0:=hw;rcases hm f j h0 h1 with e1 | ⟨e1,_⟩
   ·show W' f j=0;rw [e1];exact hw
   ·exact absurd hw e1
  | some g=>
   rw [e] at hw;have:=hw.mark (h.range _ _ _ e);rcases hm f j h0 h1 with e1 | ⟨_,e1 | e1⟩<;>rw [e1]
   ·exact hw
   ·exact this.1
   ·exact this.2
 ·have hw:=h.leaves q f hf j h0 h1;cases e:lf (q*512+j) with
  | none=>
   rw [e] at hw;have hw:W f j=0:=hw;rcases hm f j h0 h1 with e1 | ⟨e1,_⟩
   ·show W' f j=0;rw [e1];exact hw
   ·exact absurd hw e1
  | some g=>
   rw [e] at hw;have:=hw.mark (h.rangeL _ _ e);rcases hm f j h0 h1 with e1 | ⟨_,e1 | e1⟩<;>rw [e1]
   ·exact hw
   ·exact this.1
   ·exact this.2
theorem rL {wr:Bool}:∀ (ps:List Int) (M:Int->Int),(∀ a,0<=M a/\M a<256)->ps.Nodup->(∀ p ∈ ps,∃ t i,p=t*4096+8*i/\0<=i/\i<512/\bQ M t i≠0)->
  (∀ a,0<=dT M wr ps a/\dT M wr ps a<256)/\xE (bQ M) (bQ (dT M wr ps))/\∀ t i,0<=i->i<512->t*4096+8*i ∉ ps->bQ (dT M wr ps) t i=bQ M t i
 | [],M,hM,_,_=>⟨hM,λf j _ _=>.inl rfl,λ_ _ _ _ _=>rfl⟩
 | p::ps,M,hM,hnd,hp=>by
  obtain ⟨t0,i0,rfl,h0,h1,h2⟩:=hp p (by simp);rw [List.nodup_cons] at hnd
  have hu:qB (bQ M t0 i0):=by
   have:=kD hM 8 (t0*4096+8*i0);unfold qB bQ;omega
  have hx:∃ x,dT M wr ((t0*4096+8*i0)::ps)=dT (iO M (t0*4096+8*i0) 8 x) wr ps/\(x=or5 (bQ M t0 i0)\/x=or6 (or5 (bQ M t0 i0))):=by
   rw [dT];cases (wr&&ps.isEmpty) with
   | true=>exact ⟨_,rfl,.inr rfl⟩
   | false=>exact ⟨_,rfl,.inl rfl⟩
  obtain ⟨x,e,hx⟩:=hx
  have hxu:qB x:=by
   rcases hx with rfl | rfl
   ·exact yH hu
   ·exact aHc (yH hu)
  rw [e];have hw:∀ t i,0<=i->i<512->bQ (iO M (t0*4096+8*i0) 8 x) t i=if t=t0/\i=i0 then x else bQ M t i:=λt i a b=>aDi ⟨h0,h1⟩ ⟨a,b⟩ hxu
  obtain ⟨k0,k1,k2⟩:=rL ps (iO M (t0*4096+8*i0) 8 x) (aE3 hM) hnd.2 (λp hp'=>by
   obtain ⟨t,i,e1,e2,e3,e4⟩:=hp p (by simp [hp']);refine ⟨t,i,e1,e2,e3,?_⟩;rw [hw t i e2 e3,if_neg (λz=>hnd.1 (by rw [<-z.1,<- z.2,<- e1];exact hp'))];exact e4)
  refine ⟨k0,λf j a b=>?_,λt i a b c=>?_⟩
  ·by_cases g:f=t0/\j=i0
   ·have:=k2 f j a b (by rw [g.1,g.2];exact hnd.1);rw [hw f j a b,if_pos g] at this;refine .inr ⟨by rw [g.1,g.2];exact h2,?_⟩;rw [this,g.1,g.2];exact hx
   ·have:=k1 f j a b;rw [hw f j a b,if_neg g] at this;exact this
  ·simp only [List.mem_cons,not_or] at c;rw [k2 t i a b c.2,hw t i a b,if_neg (λz=>c.1 (by rw [z.1,z.2]))]
end Go.Dn
namespace Go.Dn
variable {A:AH} {l:List SP} {r:Nat} {fr:Int} {hs:List (Int × Int)} {M:Int->Int}
abbrev WQ:=Int->Bool->Bool->Bool->Bool->Bool->Bool->Int->Int->Int->AH->Prop
def aKa (l:List SP) (i r:Nat) (fr:Int) (hs:List (Int × Int)) (M:Int->Int) (a:Int) (aw:Bool) (Q:WQ):WOut->Prop
 | .err e=>∀ A',Own l A'->Q 0 false false false false false false 0 0 e A'
 | .fault c=>∀ A',Own l A'->Q 0 false false false false false false a c 9 A'
 | .ok f w u x g lg d ps=>∀ A',Own (l.set i (RamS r fr hs (dT M aw ps))) A'->Q f w u x g lg d 0 0 0 A'
theorem pF {b2 b4 b6:Nat} {f0 z4 z5 z6 y0 y1 y2:Int} {g1 g2 g3 g4 g5 g6:Bool} {Q:WQ} (h:Own (At b6 [.int .i64 z6]::At b4 [.int .u64 z4,.int .i64 z5]::At b2 [.int .i64 f0,.bool g1,.bool g2,.bool g3,.bool g4,.bool g5,.bool g6]::l) A)
  (hk:∀ A',Own l A'->Q 0 false false false false false false y0 y1 y2 A') :
  qea_pA (some (Addr.mk b2 0 none)) (some (Addr.mk b4 0 none)) (some (Addr.mk b6 0 none)) y0 y1 y2 (λh82=>
(aI .i64 (Addr.mk b2 0 none) h82 λn86=>
(aB (Addr.add (Addr.mk b2 0 none) 1) h82 λb87=>
(aB (Addr.add (Addr.mk b2 0 none) 2) h82 λb88=>
(aB (Addr.add (Addr.mk b2 0 none) 3) h82 λb89=>
(aB (Addr.add (Addr.mk b2 0 none) 4) h82 λb90=>
(aB (Addr.add (Addr.mk b2 0 none) 5) h82 λb91=>
(aB (Addr.add (Addr.mk b2 0 none) 6) h82 λb92=>
(aI .u64 (Addr.mk b4 0 none) h82 λn93=>
(aI .i64 (Addr.add (Addr.mk b4 0 none) 1) h82 λn94=>
(aI .i64 (Addr.mk b6 0 none) h82 λn95=>
(Q n86 b87 b88 b89 b90 b91 b92 n93 n94 n95 h82)))))))))))) A:=by
 unfold qea_pA;simp only [aF]
 repeat (first | ((first | refine aJ (i:=0) h rfl rfl rfl λ_ h=>?_ | refine aJ (i:=1) h rfl rfl rfl λ_ h=>?_ | refine aJ (i:=2) h rfl rfl rfl λ_ h=>?_);try simp only [List.set_cons_zero,List.set_cons_succ] at h) | (first | refine ld_I (i:=0) h rfl rfl ?_ | refine aU (i:=0) h rfl rfl ?_ | refine ld_I (i:=1) h rfl rfl ?_ | refine aU (i:=1) h rfl rfl ?_ | refine ld_I (i:=2) h rfl rfl ?_ | refine aU (i:=2) h rfl rfl ?_))
 exact hk _ h.tail.tail.tail
variable {a t:Int} {aw au af w u x:Bool} {lv:Nat} {ps:List Int}
theorem aDR (h:hasF fr hs t=false):walkL fr hs M a aw au af (lv+1) t w u x ps = .err 2:=by
 rw [walkL,if_pos h]
theorem sX (h:hasF fr hs t=true) (h0:bitZ (le M (placeZ t a lv) 8) 0=false):walkL fr hs M a aw au af (lv+1) t w u x ps = .fault (cU aw au af):=by
 rw [walkL,if_neg (by simp [h]),if_pos h0]
theorem aGb (h:hasF fr hs t=true) (h0:bitZ (le M (placeZ t a lv) 8) 0=true) (h9:kL (le M (placeZ t a lv) 8) ((lv:Int)+1)=true):walkL fr hs M a aw au af (lv+1) t w u x ps = .fault (9+cU aw au af):=by
 rw [walkL,if_neg (by simp [h]),if_neg (by simp [h0]),if_pos h9]
theorem aBb (h:hasF fr hs t=true) (h0:bitZ (le M (placeZ t a lv) 8) 0=true) (h9:kL (le M (placeZ t a lv) 8) ((lv:Int)+1)=false) (hg:¬(lv=0\/(lv=1/\bitZ (le M (placeZ t a lv) 8) 7=true))) :
  walkL fr hs M a aw au af (lv+1) t w u x ps=walkL fr hs M a aw au af lv (cB (le M (placeZ t a lv) 8)) (w&&bitZ (le M (placeZ t a lv) 8) 1) (u&&bitZ (le M (placeZ t a lv) 8) 2) (x&&!bitZ (le M (placeZ t a lv) 8) 63) (ps++[placeZ t a lv]):=by
 rw [walkL,if_neg (by simp [h]),if_neg (by simp [h0]),if_neg (by simp [h9]),if_neg hg]
theorem xN (h:hasF fr hs t=true) (h0:bitZ (le M (placeZ t a lv) 8) 0=true) (h9:kL (le M (placeZ t a lv) 8) ((lv:Int)+1)=false) (hg:lv=0\/(lv=1/\bitZ (le M (placeZ t a lv) 8) 7=true)) :
  walkL fr hs M a aw au af (lv+1) t w u x ps=if gV (w&&bitZ (le M (placeZ t a lv) 8) 1) (u&&bitZ (le M (placeZ t a lv) 8) 2) (x&&!bitZ (le M (placeZ t a lv) 8) 63) aw au af=true then
    .ok (if lv=1 then cB (le M (placeZ t a lv) 8)+aO a 12 else cB (le M (placeZ t a lv) 8)) (w&&bitZ (le M (placeZ t a lv) 8) 1) (u&&bitZ (le M (placeZ t a lv) 8) 2) (x&&!bitZ (le M (placeZ t a lv) 8) 63)
     (bitZ (le M (placeZ t a lv) 8) 8) (lv==1) (bitZ (le M (placeZ t a lv) 8) 6 || aw) (ps++[placeZ t a lv])
   else .fault (1+cU aw au af):=by
 rw [walkL,if_neg (by simp [h]),if_neg (by simp [h0]),if_neg (by simp [h9]),if_pos hg]
theorem aBF (hf:0<=fr/\fr<=1048576) (h:hasF fr hs t=true):0<=t/\t<1048576:=by
 unfold hasF at h;simp at h;omega
theorem k8 {y:Int}:0<=cB y/\cB y<1048576:=by unfold cB;omega
theorem aEB {i:Nat} {root:Int} {Q:WQ} (h:Own l A) (e1:l[i]? = some (RamS r fr hs M)) (hl:hs.length<=64) (hf:0<=fr/\fr<=1048576) (ha:qB a) (hk:aKa l i r fr hs M a aw Q (aCV fr hs M root a aw au af)) :
  qeb_A (some ⟨r,0,none⟩) root a aw au af Q A:=by
 unfold qeb_A qeb_G;refine aW h λb2 _ h=>?_;refine aW h λb4 _ h=>?_;refine aW h λb6 _ h=>?_;refine uN ?_;unfold aCV at hk;refine bsel_in (λc=>?_) λc=>?_
 ·repeat (first | ((first | refine aJ (i:=0) h rfl rfl rfl λ_ h=>?_ | refine aJ (i:=1) h rfl rfl rfl λ_ h=>?_ | refine aJ (i:=2) h rfl rfl rfl λ_ h=>?_);try simp only [List.set_cons_zero,List.set_cons_succ] at h) | (first | refine ld_I (i:=0) h rfl rfl ?_ | refine aU (i:=0) h rfl rfl ?_ | refine ld_I (i:=1) h rfl rfl ?_ | refine aU (i:=1) h rfl rfl ?_ | refine ld_I (i:=2) h rfl rfl ?_ | refine aU (i:=2) h rfl rfl ?_))
  rw [if_pos (by simpa using c)] at hk;exact hk _ h.tail.tail.tail
 rw [if_neg (by simpa using c)] at hk;refine oS (i:=i+3) h e1 hl ?_;refine bsel_in (λc2=>?_) λc2=>?_
 ·repeat (first | ((first | refine aJ (i:=0) h rfl rfl rfl λ_ h=>?_ | refine aJ (i:=1) h rfl rfl rfl λ_ h=>?_ | refine aJ (i:=2) h rfl rfl rfl λ_ h=>?_);try simp only [List.set_cons_zero,List.set_cons_succ] at h) | (first | refine ld_I (i:=0) h rfl rfl ?_ | refine aU (i:=0) h rfl rfl ?_ | refine ld_I (i:=1) h rfl rfl ?_ | refine aU (i:=1) h rfl rfl ?_ | refine ld_I (i:=2) h rfl rfl ?_ | refine aU (i:=2) h rfl rfl ?_))
  rw [if_pos (by simpa using c2)] at hk;exact hk _ h.tail.tail.tail
 have c2:hasF fr hs root=true:=by simpa using c2
 rw [if_neg (by simp [c2])] at hk;refine aW h λb54 _ h=>?_;refine tI ha h λ_ h=>?_;refine aW h λb62 _ h=>?_
 (first | refine aJ (i:=0) h rfl rfl rfl λ_ h=>?_ | refine aJ (i:=1) h rfl rfl rfl λ_ h=>?_ | refine aJ (i:=2) h rfl rfl rfl λ_ h=>?_ | refine aJ (i:=3) h rfl rfl rfl λ_ h=>?_ | refine aJ (i:=4) h rfl rfl rfl λ_ h=>?_ | refine aJ (i:=5) h rfl rfl rfl λ_ h=>?_ | refine aJ (i:=6) h rfl rfl rfl λ_ h=>?_);try simp only [List.set_cons_zero,List.set_cons_succ] at h
 (first | refine aJ (i:=0) h rfl rfl rfl λ_ h=>?_ | refine aJ (i:=1) h rfl rfl rfl λ_ h=>?_ | refine aJ (i:=2) h rfl rfl rfl λ_ h=>?_ | refine aJ (i:=3) h rfl rfl rfl λ_ h=>?_ | refine aJ (i:=4) h rfl rfl rfl λ_ h=>?_ | refine aJ (i:=5) h rfl rfl rfl λ_ h=>?_ | refine aJ (i:=6) h rfl rfl rfl λ_ h=>?_);try simp only [List.set_cons_zero,List.set_cons_succ] at h
 (first | refine aJ (i:=0) h rfl rfl rfl λ_ h=>?_ | refine aJ (i:=1) h rfl rfl rfl λ_ h=>?_ | refine aJ (i:=2) h rfl rfl rfl λ_ h=>?_ | refine aJ (i:=3) h rfl rfl rfl λ_ h=>?_ | refine aJ (i:=4) h rfl rfl rfl λ_ h=>?_ | refine aJ (i:=5) h rfl rfl rfl λ_ h=>?_ | refine aJ (i:=6) h rfl rfl rfl λ_ h=>?_);try simp only [List.set_cons_zero,List.set_cons_succ] at h
 (first | refine aJ (i:=0) h rfl rfl rfl λ_ h=>?_ | refine aJ (i:=1) h rfl rfl rfl λ_ h=>?_ | refine aJ (i:=2) h rfl rfl rfl λ_ h=>?_ | refine aJ (i:=3) h rfl rfl rfl λ_ h=>?_ | refine aJ (i:=4) h rfl rfl rfl λ_ h=>?_ | refine aJ (i:=5) h rfl rfl rfl λ_ h=>?_ | refine aJ (i:=6) h rfl rfl rfl λ_ h=>?_);try simp only [List.set_cons_zero,List.set_cons_succ] at h
 generalize hW:walkL fr hs M a aw au af 4 root true true true []=W at hk;refine ⟨λs h'=>∃ f w u x g lg d ps,W = .ok f w u x g lg d ps/\Own (dK s 1 (j9 ps)::At b6 [.int .i64 0]::At b4 [.int .u64 0,.int .i64 0]::At b2 [.int .i64 f,.bool w,.bool u,.bool x,.bool g,.bool lg,.bool d]::l) h'/\iN fr hs ps/\ps.length<=4,?_,?_⟩
 ·intro s h' ⟨f,w,u,x,g,lg,d,ps,g1,h,g3,g4⟩;subst g1;refine aD3 (i:=i+4) (k:=0) h e1 rfl (by omega) hl hf g3 g4 λ_ h=>?_;simp only [List.set_cons_succ] at h
  repeat (first | ((first | refine aJ (i:=0) h rfl rfl rfl λ_ h=>?_ | refine aJ (i:=1) h rfl rfl rfl λ_ h=>?_ | refine aJ (i:=2) h rfl rfl rfl λ_ h=>?_ | refine aJ (i:=3) h rfl rfl rfl λ_ h=>?_);try simp only [List.set_cons_zero,List.set_cons_succ] at h) | (first | refine ld_I (i:=0) h rfl rfl ?_ | refine aU (i:=0) h rfl rfl ?_ | refine ld_I (i:=1) h rfl rfl ?_ | refine aU (i:=1) h rfl rfl ?_ | refine ld_I (i:=2) h rfl rfl ?_ | refine aU (i:=2) h rfl rfl ?_ | refine ld_I (i:=3) h rfl rfl ?_ | refine aU (i:=3) h rfl rfl ?_))
  exact hk _ h.tail.tail.tail.tail
 refine ⟨λs t lev m h'=>∃ (k:Nat) (w u x:Bool) (ps:List Int),lev=k/\(1<=k/\k<=4)/\m=k/\(0<=t/\t<1048576)/\walkL fr hs M a aw au af k t w u x ps=W/\iN fr hs ps/\ps.length+k=4/\(s.a=none->j9 ps=[])/\s.len=ps.length/\
  Own (SlO s 1 (j9 ps)::At b62 [.int .i64 (aO a 39),.int .i64 (aO a 30),.int .i64 (aO a 21),.int .i64 (aO a 12)]::At b54 (gO r a aw au af w u x)::At b6 [.int .i64 0]::At b4 [.int .u64 0,.int .i64 0]::At b2 [.int .i64 0,.bool false,.bool false,.bool false,.bool false,.bool false,.bool false]::l) h',
  ⟨4,4,true,true,true,[],rfl,⟨by omega,by omega⟩,rfl,aBF hf c2,hW,(λp hp=>by simp at hp),rfl,λ_=>rfl,rfl,?_⟩,?_⟩
 ·exact ⟨λ_=>none,_,λ_=>.inl rfl,(λb o e=>nomatch e),mA.refl _,SlO.nil,h⟩
 intro s t lev m h' ⟨k,w,u,x,ps,g1,g2,g3,ht,g5,g6,g7,g8,g9,h⟩;subst g1 g3;refine bsel_in (λc3=>?_) λc3=>?_
 ·have c3:1<=m:=by simp at c3;omega
  obtain ⟨lv,rfl⟩:∃ lv,m=lv+1:=⟨m-1,by omega⟩;have hix:IntKind.wrap .i64 (4-((lv+1:Nat):Int))=((3-lv:Nat):Int):=by rw [bK (by omega) (by omega)];omega
  rw [hix];refine inB_in (by omega) (by omega) ?_
  have hcell:([.int .i64 (aO a 39),.int .i64 (aO a 30),.int .i64 (aO a 21),.int .i64 (aO a 12)]:List Value)[0+Int.toNat ((3-lv:Nat):Int)*1]? = some (.int .i64 (aO a (12+9*lv))):=by
   obtain rfl | rfl | rfl | rfl:lv=0\/lv=1\/lv=2\/lv=3:=by omega
   all_goals rfl
  rw [add_at];refine ld_I (i:=1) h rfl hcell ?_;have hpb:=rG (a:=a) (lv:=lv) ht;refine aBn (i:=i+6) (j:=2) (lv:=lv) h e1 rfl hl hf ht rfl (by omega) ?_ ?_ ?_ ?_
  ·intro q;rw [aDR q] at g5;subst g5;exact pF h.tail.tail.tail hk
  ·intro q q0;rw [sX q q0] at g5;subst g5;exact pF h.tail.tail.tail hk
  ·intro q q0 q9;rw [aGb q q0 q9] at g5;subst g5;exact pF h.tail.tail.tail hk
  intro q q0 q9 A2 h;simp only [List.set_cons_zero,List.set_cons_succ] at h
  have hplOK:iN fr hs (ps++[placeZ t a lv]):=by
   intro p hp;rcases List.mem_append.1 hp with hp | hp
   ·exact g6 p hp
   ·simp at hp;subst hp;exact ⟨by unfold placeZ;rw [oA ⟨hpb.1,hpb.2.1⟩,q],hpb.2.2.1,by omega⟩
  have hUe:=pG (i:=i+6) h e1 (placeZ t a lv);refine aW h λb96 _ h=>?_;have h:=Own.imp (P':=dK ⟨some ⟨b96,0,none⟩,1,1⟩ 1 [.int .u64 (placeZ t a lv)]) (λB hB=>⟨rfl,Nat.le_refl _,λ_=>⟨b96,[],[],rfl,hB⟩⟩) h;have h:=h.swap;refine l6 (i:=0) h rfl (λq=>by cases q) g8 rfl (λv hv=>by simp at hv;subst hv;rfl) ⟨by simp [g9];omega,by simp [g9];omega⟩ λs' A3 hs1 hs2 h=>?_;refine lE hUe h λ_ h=>?_;have hu:j9 ps++[.int .u64 (placeZ t a lv)]=j9 (ps++[placeZ t a lv]):=by simp [j9]
  have hgo:¬(lv=0\/(lv=1/\bitZ (le M (placeZ t a lv) 8) 7=true))->∀ h9:AH,Own (SlO s' 1 (j9 ps++[.int .u64 (placeZ t a lv)])::dK ⟨some ⟨b96,0,none⟩,1,1⟩ 1 [.int .u64 (placeZ t a lv)]::At b62 [.int .i64 (aO a 39),.int .i64 (aO a 30),.int .i64 (aO a 21),.int .i64 (aO a 12)]::At b54 (gO r a aw au af (w&&bitZ (le M (placeZ t a lv) 8) 1) (u&&bitZ (le M (placeZ t a lv) 8) 2) (x&&!bitZ (le M (placeZ t a lv) 8) 63))::At b6 [.int .i64 0]::At b4 [.int .u64 0,.int .i64 0]::At b2 [.int .i64 0,.bool false,.bool false,.bool false,.bool false,.bool false,.bool false]::l) h9->∃ (k:Nat) (w u x:Bool) (ps:List Int),IntKind.wrap .i64 (((lv+1:Nat):Int)-1)=k/\(1<=k/\k<=4)/\lv=k/\(0<=cB (le M (placeZ t a lv) 8)/\cB (le M (placeZ t a lv) 8)<1048576)/\walkL fr hs M a aw au af k (cB (le M (placeZ t a lv) 8)) w u x ps=W/\iN fr hs ps/\ps.length+k=4/\(s'.a=none->j9 ps=[])/\s'.len=ps.length/\
    Own (SlO s' 1 (j9 ps)::At b62 [.int .i64 (aO a 39),.int .i64 (aO a 30),.int .i64 (aO a 21),.int .i64 (aO a 12)]::At b54 (gO r a aw au af w u x)::At b6 [.int .i64 0]::At b4 [.int .u64 0,.int .i64 0]::At b2 [.int .i64 0,.bool false,.bool false,.bool false,.bool false,.bool false,.bool false]::l) h9:=by
   intro hg h9 h;rw [aBb q q0 q9 hg] at g5;refine ⟨lv,_,_,_,_,by rw [bK]<;>omega,⟨by omega,by omega⟩,rfl,k8,g5,hplOK,by simp;omega,by rw [<-hu];exact hs2,by simp [hs1,g9],?_⟩;rw [<-hu];exact h.cons λ_ hh=>hh.tail
  have hfinal:∀ (f:Int) (w u x g lg d:Bool) (h':AH),W = .ok f w u x g lg d (ps++[placeZ t a lv])->∀ z1 z2 z3,Own (SlO s' 1 (j9 ps++[.int .u64 (placeZ t a lv)])::z1::z2::z3::At b6 [.int .i64 0]::At b4 [.int .u64 0,.int .i64 0]::At b2 [.int .i64 f,.bool w,.bool u,.bool x,.bool g,.bool lg,.bool d]::l) h'->
    ∃ f w u x g lg d ps,W = .ok f w u x g lg d ps/\Own (dK s' 1 (j9 ps)::At b6 [.int .i64 0]::At b4 [.int .u64 0,.int .i64 0]::At b2 [.int .i64 f,.bool w,.bool u,.bool x,.bool g,.bool lg,.bool d]::l) h'/\iN fr hs ps/\ps.length<=4:=by
   intro f w u x g lg d h' hw z1 z2 z3 h;refine ⟨f,w,u,x,g,lg,d,_,hw,?_,hplOK,by simp;omega⟩;rw [<-hu];exact (h.imp λB hB=>hB.look).cons λ_ hh=>hh.tail.tail.tail
  refine ⟨λh'=>(lv=0\/(lv=1/\bitZ (le M (placeZ t a lv) 8) 7=true))/\Own (SlO s' 1 (j9 ps++[.int .u64 (placeZ t a lv)])::dK ⟨some ⟨b96,0,none⟩,1,1⟩ 1 [.int .u64 (placeZ t a lv)]::At b62 [.int .i64 (aO a 39),.int .i64 (aO a 30),.int .i64 (aO a 21),.int .i64 (aO a 12)]::At b54 (gO r a aw au af (w&&bitZ (le M (placeZ t a lv) 8) 1) (u&&bitZ (le M (placeZ t a lv) 8) 2) (x&&!bitZ (le M (placeZ t a lv) 8) 63))::At b6 [.int .i64 0]::At b4 [.int .u64 0,.int .i64 0]::At b2 [.int .i64 0,.bool false,.bool false,.bool false,.bool false,.bool false,.bool false]::l) h',?_,?_⟩
  ·intro h107 ⟨hend0,h⟩;have hend:=xN (fr:=fr) (hs:=hs) (M:=M) (a:=a) (aw:=aw) (au:=au) (af:=af) (w:=w) (u:=u) (x:=x) (ps:=ps) q q0 q9 hend0;rw [g5] at hend;rcases hend0 with rfl | ⟨rfl,c6⟩
   ·generalize he:le M (placeZ t a 0) 8=e at *;generalize hw':(w&&bitZ e 1)=w' at *;generalize hu':(u&&bitZ e 2)=u' at *;generalize hx':(x&&!bitZ e 63)=x' at *;refine ⟨λh'=>Own (SlO s' 1 (j9 ps++[.int .u64 (placeZ t a 0)])::dK ⟨some ⟨b96,0,none⟩,1,1⟩ 1 [.int .u64 (placeZ t a 0)]::At b62 [.int .i64 (aO a 39),.int .i64 (aO a 30),.int .i64 (aO a 21),.int .i64 (aO a 12)]::At b54 (gO r a aw au af w' u' x')::At b6 [.int .i64 0]::At b4 [.int .u64 0,.int .i64 0]::At b2 [.int .i64 0,.bool false,.bool false,.bool false,.bool false,.bool false,.bool false]::l) h'/\gV w' u' x' aw au af=true,?_,?_⟩
    ·intro h134 ⟨h,hmay⟩;rw [hmay,if_pos rfl] at hend
     have hfr:IntKind.wrap .i64 (cB e+aO a 12)=cB e+aO a 12:=by
      have:=k8 (y:=e);have:0<=aO a 12/\aO a 12<512:=by unfold aO;omega
      exact bK (by omega) (by omega)
     repeat (first | ((first | refine aJ (i:=0) h rfl rfl rfl λ_ h=>?_ | refine aJ (i:=1) h rfl rfl rfl λ_ h=>?_ | refine aJ (i:=2) h rfl rfl rfl λ_ h=>?_ | refine aJ (i:=3) h rfl rfl rfl λ_ h=>?_ | refine aJ (i:=4) h rfl rfl rfl λ_ h=>?_ | refine aJ (i:=5) h rfl rfl rfl λ_ h=>?_ | refine aJ (i:=6) h rfl rfl rfl λ_ h=>?_);try simp only [List.set_cons_zero,List.set_cons_succ] at h) | (first | refine ld_I (i:=0) h rfl rfl ?_ | refine aU (i:=0) h rfl rfl ?_ | refine ld_I (i:=1) h rfl rfl ?_ | refine aU (i:=1) h rfl rfl ?_ | refine ld_I (i:=2) h rfl rfl ?_ | refine aU (i:=2) h rfl rfl ?_ | refine ld_I (i:=3) h rfl rfl ?_ | refine aU (i:=3) h rfl rfl ?_ | refine ld_I (i:=4) h rfl rfl ?_ | refine aU (i:=4) h rfl rfl ?_ | refine ld_I (i:=5) h rfl rfl ?_ | refine aU (i:=5) h rfl rfl ?_ | refine ld_I (i:=6) h rfl rfl ?_ | refine aU (i:=6) h rfl rfl ?_))
     refine bsel_in (λcd=>?_) λcd=>?_
     ·repeat (first | ((first | refine aJ (i:=0) h rfl rfl rfl λ_ h=>?_ | refine aJ (i:=1) h rfl rfl rfl λ_ h=>?_ | refine aJ (i:=2) h rfl rfl rfl λ_ h=>?_ | refine aJ (i:=3) h rfl rfl rfl λ_ h=>?_ | refine aJ (i:=4) h rfl rfl rfl λ_ h=>?_ | refine aJ (i:=5) h rfl rfl rfl λ_ h=>?_ | refine aJ (i:=6) h rfl rfl rfl λ_ h=>?_);try simp only [List.set_cons_zero,List.set_cons_succ] at h) | (first | refine ld_I (i:=0) h rfl rfl ?_ | refine aU (i:=0) h rfl rfl ?_ | refine ld_I (i:=1) h rfl rfl ?_ | refine aU (i:=1) h rfl rfl ?_ | refine ld_I (i:=2) h rfl rfl ?_ | refine aU (i:=2) h rfl rfl ?_ | refine ld_I (i:=3) h rfl rfl ?_ | refine aU (i:=3) h rfl rfl ?_ | refine ld_I (i:=4) h rfl rfl ?_ | refine aU (i:=4) h rfl rfl ?_ | refine ld_I (i:=5) h rfl rfl ?_ | refine aU (i:=5) h rfl rfl ?_ | refine ld_I (i:=6) h rfl rfl ?_ | refine aU (i:=6) h rfl rfl ?_))
      try rw [hfr] at h
      exact hfinal _ _ _ _ _ _ _ _ (hend.trans (by rw [cd];rfl)) _ _ _ h
     ·repeat (first | ((first | refine aJ (i:=0) h rfl rfl rfl λ_ h=>?_ | refine aJ (i:=1) h rfl rfl rfl λ_ h=>?_ | refine aJ (i:=2) h rfl rfl rfl λ_ h=>?_ | refine aJ (i:=3) h rfl rfl rfl λ_ h=>?_ | refine aJ (i:=4) h rfl rfl rfl λ_ h=>?_ | refine aJ (i:=5) h rfl rfl rfl λ_ h=>?_ | refine aJ (i:=6) h rfl rfl rfl λ_ h=>?_);try simp only [List.set_cons_zero,List.set_cons_succ] at h) | (first | refine ld_I (i:=0) h rfl rfl ?_ | refine aU (i:=0) h rfl rfl ?_ | refine ld_I (i:=1) h rfl rfl ?_ | refine aU (i:=1) h rfl rfl ?_ | refine ld_I (i:=2) h rfl rfl ?_ | refine aU (i:=2) h rfl rfl ?_ | refine ld_I (i:=3) h rfl rfl ?_ | refine aU (i:=3) h rfl rfl ?_ | refine ld_I (i:=4) h rfl rfl ?_ | refine aU (i:=4) h rfl rfl ?_ | refine ld_I (i:=5) h rfl rfl ?_ | refine aU (i:=5) h rfl rfl ?_ | refine ld_I (i:=6) h rfl rfl ?_ | refine aU (i:=6) h rfl rfl ?_))
      try rw [hfr] at h
      exact hfinal _ _ _ _ _ _ _ _ (hend.trans (by rw [cd];rfl)) _ _ _ h
    ·repeat (first | ((first | refine aJ (i:=0) h rfl rfl rfl λ_ h=>?_ | refine aJ (i:=1) h rfl rfl rfl λ_ h=>?_ | refine aJ (i:=2) h rfl rfl rfl λ_ h=>?_ | refine aJ (i:=3) h rfl rfl rfl λ_ h=>?_ | refine aJ (i:=4) h rfl rfl rfl λ_ h=>?_ | refine aJ (i:=5) h rfl rfl rfl λ_ h=>?_ | refine aJ (i:=6) h rfl rfl rfl λ_ h=>?_);try simp only [List.set_cons_zero,List.set_cons_succ] at h) | (first | refine ld_I (i:=0) h rfl rfl ?_ | refine aU (i:=0) h rfl rfl ?_ | refine ld_I (i:=1) h rfl rfl ?_ | refine aU (i:=1) h rfl rfl ?_ | refine ld_I (i:=2) h rfl rfl ?_ | refine aU (i:=2) h rfl rfl ?_ | refine ld_I (i:=3) h rfl rfl ?_ | refine aU (i:=3) h rfl rfl ?_ | refine ld_I (i:=4) h rfl rfl ?_ | refine aU (i:=4) h rfl rfl ?_ | refine ld_I (i:=5) h rfl rfl ?_ | refine aU (i:=5) h rfl rfl ?_ | refine ld_I (i:=6) h rfl rfl ?_ | refine aU (i:=6) h rfl rfl ?_))
     refine May_spec ?_;refine bsel_in (λc=>?_) λc=>⟨h,by simpa using c⟩;rw [if_neg (by simpa using c)] at hend;refine jR (j:=3) (.inr (.inl rfl)) h rfl ?_;subst hend;exact pF h.tail.tail.tail.tail hk
   ·generalize he:le M (placeZ t a 1) 8=e at *;generalize hw':(w&&bitZ e 1)=w' at *;generalize hu':(u&&bitZ e 2)=u' at *;generalize hx':(x&&!bitZ e 63)=x' at *;refine ⟨λh'=>Own (SlO s' 1 (j9 ps++[.int .u64 (placeZ t a 1)])::dK ⟨some ⟨b96,0,none⟩,1,1⟩ 1 [.int .u64 (placeZ t a 1)]::At b62 [.int .i64 (aO a 39),.int .i64 (aO a 30),.int .i64 (aO a 21),.int .i64 (aO a 12)]::At b54 (gO r a aw au af w' u' x')::At b6 [.int .i64 0]::At b4 [.int .u64 0,.int .i64 0]::At b2 [.int .i64 0,.bool false,.bool false,.bool false,.bool false,.bool false,.bool false]::l) h'/\gV w' u' x' aw au af=true,?_,?_⟩
    ·intro h134 ⟨h,hmay⟩;rw [hmay,if_pos rfl] at hend
     have hfr:IntKind.wrap .i64 (cB e+aO a 12)=cB e+aO a 12:=by
      have:=k8 (y:=e);have:0<=aO a 12/\aO a 12<512:=by unfold aO;omega
      exact bK (by omega) (by omega)
     repeat (first | ((first | refine aJ (i:=0) h rfl rfl rfl λ_ h=>?_ | refine aJ (i:=1) h rfl rfl rfl λ_ h=>?_ | refine aJ (i:=2) h rfl rfl rfl λ_ h=>?_ | refine aJ (i:=3) h rfl rfl rfl λ_ h=>?_ | refine aJ (i:=4) h rfl rfl rfl λ_ h=>?_ | refine aJ (i:=5) h rfl rfl rfl λ_ h=>?_ | refine aJ (i:=6) h rfl rfl rfl λ_ h=>?_);try simp only [List.set_cons_zero,List.set_cons_succ] at h) | (first | refine ld_I (i:=0) h rfl rfl ?_ | refine aU (i:=0) h rfl rfl ?_ | refine ld_I (i:=1) h rfl rfl ?_ | refine aU (i:=1) h rfl rfl ?_ | refine ld_I (i:=2) h rfl rfl ?_ | refine aU (i:=2) h rfl rfl ?_ | refine ld_I (i:=3) h rfl rfl ?_ | refine aU (i:=3) h rfl rfl ?_ | refine ld_I (i:=4) h rfl rfl ?_ | refine aU (i:=4) h rfl rfl ?_ | refine ld_I (i:=5) h rfl rfl ?_ | refine aU (i:=5) h rfl rfl ?_ | refine ld_I (i:=6) h rfl rfl ?_ | refine aU (i:=6) h rfl rfl ?_))
     refine bsel_in (λcd=>?_) λcd=>?_
     ·repeat (first | ((first | refine aJ (i:=0) h rfl rfl rfl λ_ h=>?_ | refine aJ (i:=1) h rfl rfl rfl λ_ h=>?_ | refine aJ (i:=2) h rfl rfl rfl λ_ h=>?_ | refine aJ (i:=3) h rfl rfl rfl λ_ h=>?_ | refine aJ (i:=4) h rfl rfl rfl λ_ h=>?_ | refine aJ (i:=5) h rfl rfl rfl λ_ h=>?_ | refine aJ (i:=6) h rfl rfl rfl λ_ h=>?_);try simp only [List.set_cons_zero,List.set_cons_succ] at h) | (first | refine ld_I (i:=0) h rfl rfl ?_ | refine aU (i:=0) h rfl rfl ?_ | refine ld_I (i:=1) h rfl rfl ?_ | refine aU (i:=1) h rfl rfl ?_ | refine ld_I (i:=2) h rfl rfl ?_ | refine aU (i:=2) h rfl rfl ?_ | refine ld_I (i:=3) h rfl rfl ?_ | refine aU (i:=3) h rfl rfl ?_ | refine ld_I (i:=4) h rfl rfl ?_ | refine aU (i:=4) h rfl rfl ?_ | refine ld_I (i:=5) h rfl rfl ?_ | refine aU (i:=5) h rfl rfl ?_ | refine ld_I (i:=6) h rfl rfl ?_ | refine aU (i:=6) h rfl rfl ?_))
      try rw [hfr] at h
      exact hfinal _ _ _ _ _ _ _ _ (hend.trans (by rw [cd];rfl)) _ _ _ h
     ·repeat (first | ((first | refine aJ (i:=0) h rfl rfl rfl λ_ h=>?_ | refine aJ (i:=1) h rfl rfl rfl λ_ h=>?_ | refine aJ (i:=2) h rfl rfl rfl λ_ h=>?_ | refine aJ (i:=3) h rfl rfl rfl λ_ h=>?_ | refine aJ (i:=4) h rfl rfl rfl λ_ h=>?_ | refine aJ (i:=5) h rfl rfl rfl λ_ h=>?_ | refine aJ (i:=6) h rfl rfl rfl λ_ h=>?_);try simp only [List.set_cons_zero,List.set_cons_succ] at h) | (first | refine ld_I (i:=0) h rfl rfl ?_ | refine aU (i:=0) h rfl rfl ?_ | refine ld_I (i:=1) h rfl rfl ?_ | refine aU (i:=1) h rfl rfl ?_ | refine ld_I (i:=2) h rfl rfl ?_ | refine aU (i:=2) h rfl rfl ?_ | refine ld_I (i:=3) h rfl rfl ?_ | refine aU (i:=3) h rfl rfl ?_ | refine ld_I (i:=4) h rfl rfl ?_ | refine aU (i:=4) h rfl rfl ?_ | refine ld_I (i:=5) h rfl rfl ?_ | refine aU (i:=5) h rfl rfl ?_ | refine ld_I (i:=6) h rfl rfl ?_ | refine aU (i:=6) h rfl rfl ?_))
      try rw [hfr] at h
      exact hfinal _ _ _ _ _ _ _ _ (hend.trans (by rw [cd];rfl)) _ _ _ h
    ·repeat (first | ((first | refine aJ (i:=0) h rfl rfl rfl λ_ h=>?_ | refine aJ (i:=1) h rfl rfl rfl λ_ h=>?_ | refine aJ (i:=2) h rfl rfl rfl λ_ h=>?_ | refine aJ (i:=3) h rfl rfl rfl λ_ h=>?_ | refine aJ (i:=4) h rfl rfl rfl λ_ h=>?_ | refine aJ (i:=5) h rfl rfl rfl λ_ h=>?_ | refine aJ (i:=6) h rfl rfl rfl λ_ h=>?_);try simp only [List.set_cons_zero,List.set_cons_succ] at h) | (first | refine ld_I (i:=0) h rfl rfl ?_ | refine aU (i:=0) h rfl rfl ?_ | refine ld_I (i:=1) h rfl rfl ?_ | refine aU (i:=1) h rfl rfl ?_ | refine ld_I (i:=2) h rfl rfl ?_ | refine aU (i:=2) h rfl rfl ?_ | refine ld_I (i:=3) h rfl rfl ?_ | refine aU (i:=3) h rfl rfl ?_ | refine ld_I (i:=4) h rfl rfl ?_ | refine aU (i:=4) h rfl rfl ?_ | refine ld_I (i:=5) h rfl rfl ?_ | refine aU (i:=5) h rfl rfl ?_ | refine ld_I (i:=6) h rfl rfl ?_ | refine aU (i:=6) h rfl rfl ?_))
     refine May_spec ?_;refine bsel_in (λc=>?_) λc=>⟨h,by simpa using c⟩;rw [if_neg (by simpa using c)] at hend;refine jR (j:=3) (.inr (.inl rfl)) h rfl ?_;subst hend;exact pF h.tail.tail.tail.tail hk
  refine bsel_in (λc4=>?_) λc4=>?_
  ·have hlv:lv≠0:=by simp at c4;omega
   refine bsel_in (λc5=>?_) λc5=>?_
   ·have hlv1:lv=1:=by simp at c5;omega
    subst hlv1;refine bsel_in (λc6=>?_) λc6=>?_
    ·refine ⟨1,by omega,?_⟩;exact hgo (by simp at c6;simp [c6]) _ h
    ·have c6:bitZ (le M (placeZ t a 1) 8) 7=true:=by simpa using c6
     exact ⟨.inr ⟨rfl,c6⟩,h⟩
   ·have hlv2:lv≠1:=by intro g;subst g;simp at c5
    exact ⟨lv,by omega,hgo (by omega) _ h⟩
  ·have hlv:lv=0:=by simp at c4;omega
   exact ⟨.inl hlv,h⟩
 ·simp at c3;omega
end Go.Dn
namespace Go.Dn
variable {l:List SP} {fr root:Int} {hs:List (Int × Int)} {W:Int->Int->Int} {M:Int->Int} {tab:Tab} {lf:Int->Option Lf} {a t p:Int} {aw au af w u x:Bool} {lv:Nat} {ps:List Int}
theorem uP {b0 b1 b2 b3 b4 b5 b6 b7:Bool} {f lev:Int} (hf:0<=f/\f<1048576) (h:b5=false\/lev=2/\f % 512=0):kL (packZ b0 b1 b2 b3 b4 b5 b6 b7 f) lev=false:=by
 have hb:=eC b0 b1 b2 b3 b4 b5 b6 b7 hf
 have e32:packZ b0 b1 b2 b3 b4 b5 b6 b7 f / 2 ^ 32 % 1048576=0:=by
  rw [show ((2:Int) ^ 32)=4294967296 by rfl];unfold packZ;have h0:=dX b0;have h1:=dX b1;have h2:=dX b2;have h3:=dX b3;have h4:=dX b4;have h5:=dX b5;have h6:=dX b6;have h7:=dX b7;omega
 have e12:f % 512=0->packZ b0 b1 b2 b3 b4 b5 b6 b7 f / 2 ^ 12 % 512=0:=λhz=>by
  rw [show ((2:Int) ^ 12)=4096 by rfl];unfold packZ;have h0:=dX b0;have h1:=dX b1;have h2:=dX b2;have h3:=dX b3;have h4:=dX b4;have h5:=dX b5;have h6:=dX b6;have h7:=dX b7;omega
 unfold kL;rw [e32,hb.2.2.2.2.2.1];rcases h with h | ⟨h,hz⟩
 ·subst h;simp
 ·subst h;rw [e12 hz];simp
def Wd8 (W:Int->Int->Int) (M:Int->Int):Prop:=∀ t i,0<=t->0<=i->i<512->W t i=le M (t*4096+8*i) 8
theorem uK (h:Wd8 W M) {t:Int} {lv:Nat} (ht:0<=t):le M (placeZ t a lv) 8=W t (aO a (12+9*lv)):=by
 unfold placeZ;have:0<=aO a (12+9*lv)/\aO a (12+9*lv)<512:=by unfold aO;omega
 rw [h t _ ht this.1 this.2]
theorem aIg (ha:a / 4096=p):aO a (12+9*3)=eS p 0/\aO a (12+9*2)=eS p 1/\aO a (12+9*1)=eS p 2/\aO a (12+9*0)=eS p 3:=by
 subst ha;unfold aO;simp only [eS];omega
theorem aCB (ha:a / 4096=p) {lv:Nat} (hl:lv<4):aO a (12+9*lv)=eS p (3-lv):=by
 obtain ⟨h3,h2,h1,h0⟩:=aIg ha;obtain rfl | rfl | rfl | rfl:lv=0\/lv=1\/lv=2\/lv=3:=by omega
 ·exact h0
 ·exact h1
 ·exact h2
 ·exact h3
def aKR (o:Option Lf) (d aw au af:Bool) (ps:List Int):WOut:=match o with
 | none=>.fault (cU aw au af)
 | some l=>if gV l.w l.u l.x aw au af=true then .ok l.frame l.w l.u l.x false false (d || aw) ps else .fault (1+cU aw au af)
theorem zT (k:Nat):bitZ 0 k=false:=by unfold bitZ;simp
theorem mX (hW:Wd8 W M) (hT:TabW W root tab lf) (hhas:∀ k q f,tab k q=some f->hasF fr hs f=true) (hp:0<=p/\p<34359738368) (ha:a / 4096=p) {k lv:Nat} (hk:k+lv=3) (hl:1<=lv) {t:Int} (ht:tab k (preP p k)=some t) (ps:List Int) :
  (tab (k+1) (preP p (k+1))=none->walkL fr hs M a aw au af (lv+1) t true true true ps = .fault (cU aw au af))/\
  (∀ g,tab (k+1) (preP p (k+1))=some g->walkL fr hs M a aw au af (lv+1) t true true true ps=walkL fr hs M a aw au af lv g true true true (ps++[placeZ t a lv])/\W t (aO a (12+9*lv))≠0):=by
 obtain ⟨e1,e2,e3,e4,e5⟩:=eX hp (k:=k) (by omega);have hr:=hT.range _ _ _ ht;have hw:=hT.words k _ t (by omega) ht (eS p k) e2 e3 e4;rw [<-e1] at hw;have hpl:aO a (12+9*lv)=eS p k:=by rw [aCB ha (by omega),show 3-lv=k by omega]
 have hle:le M (placeZ t a lv) 8=W t (eS p k):=by rw [uK hW hr.1,hpl]
 refine ⟨λhn=>?_,λg hg=>?_⟩
 ·rw [hn] at hw;have hw:W t (eS p k)=0:=hw;exact sX (hhas _ _ _ ht) (by rw [hle,hw];rfl)
 ·rw [hg] at hw;obtain ⟨b3,b4,hw⟩:=hw;have hgr:=hT.range _ _ _ hg;obtain ⟨q0,q1,q2,_,_,q7,_,q63,qf,_⟩:=eC true true true b3 b4 false false false hgr;have e:le M (placeZ t a lv) 8=packZ true true true b3 b4 false false false g:=by rw [hle,hw]
  refine ⟨?_,λz=>?_⟩
  ·rw [aBb (hhas _ _ _ ht) (by rw [e];exact q0) (by rw [e];exact uP hgr (.inl rfl)) (by rw [e,q7];rintro (z | ⟨_,z⟩);omega;cases z),e,q1,q2,q63,qf]
   rfl
  ·rw [hpl,hw] at z;rw [z] at q0;simp [zT] at q0
def PlM (W:Int->Int->Int) (tab:Tab) (ps:List Int):Prop:=ps.Nodup/\ps.length<=4/\∀ pl ∈ ps,∃ k q t i,tab k q=some t/\pl=t*4096+8*i/\(0<=i/\i<512)/\W t i≠0
theorem iM {t g a:Int} {lv lv':Nat} (h:t≠g):placeZ t a lv≠placeZ g a lv':=by
 unfold placeZ aO;omega
theorem aEa (hW:Wd8 W M) (hT:TabW W root tab lf) (hhas:∀ k q f,tab k q=some f->hasF fr hs f=true) (hp:0<=p/\p<34359738368) (ha:a / 4096=p) :
  ∃ d ps,walkL fr hs M a aw au af 4 root true true true []=aKR (lf p) d aw au af ps/\(lf p≠none->PlM W tab ps):=by
 have t0:tab 0 (preP p 0)=some root:=(hT.root 0 root).2 ⟨rfl,rfl⟩
 have none_:(∃ k,k<4/\tab k (preP p k)=none)->lf p=none:=λ⟨k,hk,hn⟩=>by
  cases e:lf p with
  | none=>rfl
  | some x=>exact absurd hn (hT.chain hp e k hk)
 obtain ⟨n1,s1⟩:=mX (aw:=aw) (au:=au) (af:=af) hW hT hhas hp ha (k:=0) (lv:=3) rfl (by omega) t0 [];cases h1:tab 1 (preP p 1) with
 | none=>exact ⟨false,[],by rw [n1 h1,none_ ⟨1,by omega,h1⟩];rfl,λz=>absurd (none_ ⟨1,by omega,h1⟩) z⟩
 | some g1=>
  rw [(s1 g1 h1).1];obtain ⟨n2,s2⟩:=mX (aw:=aw) (au:=au) (af:=af) hW hT hhas hp ha (k:=1) (lv:=2) rfl (by omega) h1 ([]++[placeZ root a 3]);cases h2:tab 2 (preP p 2) with
  | none=>exact ⟨false,[],by rw [n2 h2,none_ ⟨2,by omega,h2⟩];rfl,λz=>absurd (none_ ⟨2,by omega,h2⟩) z⟩
  | some g2=>
   rw [(s2 g2 h2).1];obtain ⟨n3,s3⟩:=mX (aw:=aw) (au:=au) (af:=af) hW hT hhas hp ha (k:=2) (lv:=1) rfl (by omega) h2 ([]++[placeZ root a 3]++[placeZ g1 a 2]);cases h3:tab 3 (preP p 3) with
   | none=>exact ⟨false,[],by rw [n3 h3,none_ ⟨3,by omega,h3⟩];rfl,λz=>absurd (none_ ⟨3,by omega,h3⟩) z⟩
   | some g3=>
    rw [(s3 g3 h3).1];obtain ⟨e1,e2,e3,e4,e5⟩:=eX hp (k:=3) (by omega);have hr:=hT.range _ _ _ h3;have hw:=hT.leaves _ g3 h3 (eS p 3) e2 e3;rw [<-e1] at hw;have hpl:aO a (12+9*0)=eS p 3:=aCB ha (by omega);have hle:le M (placeZ g3 a 0) 8=W g3 (eS p 3):=by rw [uK hW hr.1,hpl]
    have e4:preP p (3+1)=p:=rfl;rw [e4] at hw;cases hl:lf p with
    | none=>
     rw [hl] at hw;have hw:W g3 (eS p 3)=0:=hw;exact ⟨false,[],by rw [sX (lv:=0) (hhas _ _ _ h3) (by rw [hle,hw];rfl)];rfl,λz=>absurd rfl z⟩
    | some x=>
     rw [hl] at hw;obtain ⟨b3,b4,hw⟩:=hw;have hx:=hT.rangeL _ _ hl;obtain ⟨q0,q1,q2,_,q6,q7,q8,q63,qf,_⟩:=eC true x.w x.u b3 b4 false false (!x.x) hx;have e:le M (placeZ g3 a 0) 8=packZ true x.w x.u b3 b4 false false (!x.x) x.frame:=by rw [hle,hw]
     refine ⟨b4,[]++[placeZ root a 3]++[placeZ g1 a 2]++[placeZ g2 a 1]++[placeZ g3 a 0],?_,λ_=>?_⟩
     ·rw [xN (lv:=0) (hhas _ _ _ h3) (by rw [e];exact q0) (by rw [e];exact uP hx (.inl rfl)) (.inl rfl),e,q1,q2,q63,qf,q6,q8];simp only [Bool.true_and,Bool.not_not];rfl
     ·have d01:root≠g1:=λz=>by have:=(hT.apart 0 _ 1 _ root t0 (by rw [z];exact h1)).1;omega
      have d02:root≠g2:=λz=>by have:=(hT.apart 0 _ 2 _ root t0 (by rw [z];exact h2)).1;omega
      have d03:root≠g3:=λz=>by have:=(hT.apart 0 _ 3 _ root t0 (by rw [z];exact h3)).1;omega
      have d12:g1≠g2:=λz=>by have:=(hT.apart 1 _ 2 _ g1 h1 (by rw [z];exact h2)).1;omega
      have d13:g1≠g3:=λz=>by have:=(hT.apart 1 _ 3 _ g1 h1 (by rw [z];exact h3)).1;omega
      have d23:g2≠g3:=λz=>by have:=(hT.apart 2 _ 3 _ g2 h2 (by rw [z];exact h3)).1;omega
      have pr:∀ n,0<=aO a n/\aO a n<512:=λn=>by unfold aO;omega
      refine ⟨?_,by simp,λpl hpl'=>?_⟩
      ·simp [iM d01,iM d02,iM d03,iM d12,iM d13,iM d23]
      ·simp only [List.nil_append,List.cons_append,List.mem_cons,List.not_mem_nil,or_false] at hpl';rcases hpl' with rfl | rfl | rfl | rfl
       ·exact ⟨0,_,root,_,t0,rfl,pr _,(s1 g1 h1).2⟩
       ·exact ⟨1,_,g1,_,h1,rfl,pr _,(s2 g2 h2).2⟩
       ·exact ⟨2,_,g2,_,h2,rfl,pr _,(s3 g3 h3).2⟩
       ·refine ⟨3,_,g3,_,h3,rfl,pr _,λz=>?_⟩;rw [hpl,hw] at z;rw [z] at q0;simp [zT] at q0
end Go.Dn
namespace Go.Dn
variable {A:AH} {R:List SP} {r:Nat} {fr:Int} {hs:List (Int × Int)} {M:Int->Int} {W:Int->Int->Int}
theorem y5 (M:Int->Int):∀ (m n:Nat) (a:Int),le M a (m+n)=le M a m+256 ^ m*le M (a+m) n
 | 0,n,a=>by simp [le]
 | m+1,n,a=>by
  rw [show m+1+n=(m+n)+1 by omega];show M a+256*le M (a+1) (m+n)=M a+256*le M (a+1) m+256 ^ (m+1)*le M (a+((m+1:Nat):Int)) n;rw [y5 M m n (a+1),Int.pow_succ,show a+1+(m:Int)=a+((m+1:Nat):Int) by omega,Int.mul_add,Int.add_assoc,Int.mul_comm (256 ^ m:Int) 256,Int.mul_assoc]
theorem aKr (M:Int->Int) (a x:Int) (n:Nat):le (iO M a n x) a n=x % 256 ^ n:=by
 have:=t6 x n 0 (iO M a n x) a λj hj=>by
  unfold iO;rw [if_pos ⟨by omega,by omega⟩,show (a+(j:Int)-a).toNat=0+j by omega]
 rw [this];simp
def aFH (w:Int) (k n:Nat):Int:=w / 256 ^ k % 256 ^ n
def putB (w:Int) (k n:Nat) (x:Int):Int:=w % 256 ^ k+256 ^ k*(x % 256 ^ n)+256 ^ (k+n)*(w / 256 ^ (k+n))
theorem aLf (n:Nat):(0:Int)<256 ^ n:=Int.pow_pos (by omega)
theorem y7 {M:Int->Int} (hb:∀ a,0<=M a/\M a<256) (k m:Nat) (a:Int):le M a k=le M a (k+m) % 256 ^ k/\le M (a+k) m=le M a (k+m) / 256 ^ k:=by
 have h:=y5 M k m a;have h1:=kD hb k a;rw [h];refine ⟨?_,?_⟩
 ·rw [Int.add_mul_emod_self_left,Int.emod_eq_of_lt h1.1 h1.2]
 ·rw [Int.add_mul_ediv_left _ _ (by have:=aLf k;omega),Int.ediv_eq_zero_of_lt h1.1 h1.2,Int.zero_add]
theorem aHv {M:Int->Int} (hb:∀ a,0<=M a/\M a<256) {k n:Nat} (h:k+n<=8) (a:Int):le M (a+k) n=aFH (le M a 8) k n:=by
 obtain ⟨m,hm⟩:∃ m,8=k+(n+m):=⟨8-k-n,by omega⟩;unfold aFH;rw [hm,<- (y7 hb k (n+m) a).2,<- (y7 hb n m (a+k)).1]
theorem aJU {M:Int->Int} (hb:∀ a,0<=M a/\M a<256) {k n:Nat} (h:k+n<=8) (a x:Int):le (iO M (a+k) n x) a 8=putB (le M a 8) k n x:=by
 obtain ⟨m,hm⟩:∃ m,8=k+n+m:=⟨8-k-n,by omega⟩;unfold putB;rw [hm,y5 _ (k+n) m a,y5 _ k n a,pB M (a+k) a x n k (by omega),aKr,pB M (a+k) (a+((k+n:Nat):Int)) x n m (by omega)];rw [(y7 hb (k+n) m a).2];have e:=(y7 hb k (n+m) a).1;rw [show k+(n+m)=k+n+m by omega] at e;rw [e]
theorem RamW.byte (h:Own (RamS r fr hs M::R) A):∀ a,0<=M a/\M a<256:=RamS.byte (i:=0) h rfl
theorem z7 {t o:Int} {n:Nat} (hn:n=1\/n=2\/n=4\/n=8) (ho:0<=o/\o<4096) (hd:o % n=0):okA fr hs (t*4096+o) n=hasF fr hs t:=by
 have h1:(t*4096+o) / 4096=t:=by omega
 have h2:(t*4096+o+n-1) / 4096=t:=by rcases hn with rfl | rfl | rfl | rfl<;>omega
 unfold okA;rw [h1,h2];cases h:hasF fr hs t with
 | false=>simp
 | true=>
  have:t<fr:=by
   unfold hasF at h;simp at h;omega
  simp;rcases hn with rfl | rfl | rfl | rfl<;>omega
theorem aBi {t o:Int} {n:Nat} {Q:Int->Int->AH->Prop} (h:Own (RamW r fr hs W::R) A) (ht:hasF fr hs t=true) (hn:n=1\/n=2\/n=4\/n=8) (ho:0<=o/\o<4096) (hd:o % n=0)
  (hk:Q (aFH (W t (o / 8)) (o % 8).toNat n) 0 A):qdn_A (some ⟨r,0,none⟩) (t*4096+o) n Q A:=by
 obtain ⟨M,⟨h1,h2⟩,hh⟩:=RamW.openH h;have hr:=eB ht h1.hi;have hfr:=h1.hi;refine l5 (i:=0) hh rfl h1.holes ⟨h1.lo,h1.hi⟩ hn ⟨by omega,by omega⟩ ?_;rw [z7 hn ho hd,ht];simp only [↓reduceIte];have e:=aHv (RamW.byte hh) (k:=(o % 8).toNat) (n:=n) (by rcases hn with rfl | rfl | rfl | rfl<;>omega) (t*4096+8*(o / 8))
 rw [show t*4096+8*(o / 8)+(((o % 8).toNat:Nat):Int)=t*4096+o by omega] at e;rw [e];rw [h2 t (o / 8) hr.1 (by omega) (by omega)] at hk;exact hk
theorem zF {t o x:Int} {n:Nat} {Q:Int->AH->Prop} (h:Own (RamW r fr hs W::R) A) (ht:hasF fr hs t=true) (hn:n=1\/n=2\/n=4\/n=8) (ho:0<=o/\o<4096) (hd:o % n=0)
  (hk:∀ A',Own (RamW r fr hs (setW W t (o / 8) (putB (W t (o / 8)) (o % 8).toNat n x))::R) A'->Q 0 A'):qbp_A (some ⟨r,0,none⟩) (t*4096+o) n x Q A:=by
 obtain ⟨M,⟨h1,h2⟩,hh⟩:=RamW.openH h;have hb:=RamW.byte hh;have hr:=eB ht h1.hi;have hfr:=h1.hi;refine nH hh h1.holes ⟨h1.lo,h1.hi⟩ hn ⟨by omega,by omega⟩ (λq=>by rw [z7 hn ho hd,ht] at q;cases q) λ_ A' hA=>hk A' (RamW.closeH h1 (λt' i' q1 q2 q3=>?_) hA);have hk8:(o % 8).toNat+n<=8:=by rcases hn with rfl | rfl | rfl | rfl<;>omega
 unfold setW;split
 ·rename_i g;obtain ⟨rfl,rfl⟩:=g;unfold bQ;have e:=aJU hb hk8 (t'*4096+8*(o / 8)) x;rw [show t'*4096+8*(o / 8)+(((o % 8).toNat:Nat):Int)=t'*4096+o by omega] at e;rw [e,h2 t' (o / 8) hr.1 (by omega) (by omega)];rfl
 ·rename_i g;rw [h2 t' i' q1 q2 q3];unfold bQ;refine (pB M _ _ x n 8 ?_).symm;by_cases e:t'=t
  ·subst e;have:i'≠o / 8:=λq=>g ⟨rfl,q⟩;omega
  ·omega
end Go.Dn
namespace Go.Dn
variable {A:AH} {R:List SP} {r:Nat} {fr root:Int} {hs:List (Int × Int)} {W:Int->Int->Int} {tab:Tab} {lf:Int->Option Lf} {tl:List Int} {G:Int->Prop}
theorem aDF {a:Int} (h:0<=a/\a<140737488355328):u4 a=true:=by
 unfold u4;simp;omega
theorem aB4 {a p:Int} {x:Lf} {aw au af:Bool} {Q:WQ} (h:Own (RamW r fr hs W::R) A) (hR:Rest G W root tab lf tl) (hhas:∀ f ∈ tl,hasF fr hs f=true) (ha:0<=a/\a<140737488355328) (hp:a / 4096=p)
  (hl:lf p=some x) (hmay:gV x.w x.u x.x aw au af=true)
  (hk:∀ d W' A',xE W W'->(∀ t,t ∉ tl->W' t=W t)->Own (RamW r fr hs W'::R) A'->Q x.frame x.w x.u x.x false false d 0 0 0 A') :
  qeb_A (some ⟨r,0,none⟩) root a aw au af Q A:=by
 obtain ⟨M,⟨h1,h2⟩,hh⟩:=RamW.openH h;have hb:=RamW.byte hh;have hp2:0<=p/\p<34359738368:=by omega
 have hhas':∀ k q f,tab k q=some f->hasF fr hs f=true:=λk q f e=>hhas f ((hR.mem f).2 ⟨k,q,e⟩);have hroot:tab 0 0=some root:=(hR.T.root 0 root).2 ⟨rfl,rfl⟩;obtain ⟨d,ps,e,hps⟩:=aEa (aw:=aw) (au:=au) (af:=af) (a:=a) (M:=M) (λt i t0 i0 i1=>h2 t i t0 i0 i1) hR.T hhas' hp2 hp;obtain ⟨nd,hlen,hpl⟩:=hps (by rw [hl];simp);refine aEB (i:=0) hh rfl h1.holes ⟨h1.lo,h1.hi⟩ ⟨by omega,by omega⟩ ?_
 have e2:aCV fr hs M root a aw au af = .ok x.frame x.w x.u x.x false false (d || aw) ps:=by
  unfold aCV;rw [aDF ha,hhas' 0 0 root hroot,e,hl];simp [aKR,hmay]
 rw [e2]
 have hpl':∀ p ∈ ps,∃ t i,p=t*4096+8*i/\0<=i/\i<512/\bQ M t i≠0:=λq hq=>by
  obtain ⟨k,q',t,i,f1,f2,⟨f3,f4⟩,f5⟩:=hpl q hq;refine ⟨t,i,f2,f3,f4,?_⟩;rw [<-h2 t i (hR.T.range _ _ _ f1).1 f3 f4];exact f5
 obtain ⟨m1,m2,m3⟩:=rL (wr:=aw) ps M hb nd hpl';intro A' hA;refine hk (d || aw) (λt i=>if 0<=t/\0<=i/\i<512 then bQ (dT M aw ps) t i else W t i) A' ?_ ?_ (RamW.closeH h1 (λt i q1 q2 q3=>by rw [if_pos ⟨q1,q2,q3⟩]) hA)
 ·intro f j j0 j1;by_cases f0:0<=f
  ·have:=m2 f j j0 j1;rw [h2 f j f0 j0 j1];have e:(if 0<=f/\0<=j/\j<512 then bQ (dT M aw ps) f j else W f j)=bQ (dT M aw ps) f j:=if_pos ⟨f0,j0,j1⟩;simp only [e];exact this
  ·left;exact if_neg (by omega)
 ·intro t ht;funext i;show (if 0<=t/\0<=i/\i<512 then bQ (dT M aw ps) t i else W t i)=W t i;split
  ·rename_i g;rw [h2 t i g.1 g.2.1 g.2.2];refine m3 t i g.2.1 g.2.2 λhm=>?_;obtain ⟨k,q',t',i',f1,f2,⟨f3,f4⟩,_⟩:=hpl _ hm;have:t=t':=by omega
   subst this;exact ht ((hR.mem t).2 ⟨k,q',f1⟩)
  ·rfl
theorem Rest.mark {W':Int->Int->Int} (hR:Rest G W root tab lf tl) (hm:xE W W'):Rest G W' root tab lf tl:=⟨hR.T.mark hm,hR.pr,hR.low,hR.nd,hR.mem,hR.inG⟩
end Go.Dn
namespace Go.Dn
structure Mc where
 N:Int
 r:Nat
 b:Nat
 t:Nat
 m:Nat
 tl:Nat
 tg:Nat
 sp:Nat
 kern:Int
 mid:Int
structure Sg where
 F:Int->Prop
 G:Int->Prop
 W:Int->Int->Int
 n:Int
 ns:List Nd
 ls:List Ln
 z:PcZ
 sps:List (Int × Value)
structure Cs where
 p:Nat
 root:Int
 s:Sl
 lent:List (Int × Int)
 tab:Tab
 tl:List Int
abbrev Sc:=Sm × Cs
def mcC (c:Mc):List Value:=[.pointer (some ⟨c.r,0,none⟩),.pointer (some ⟨c.b,0,none⟩),.pointer (some ⟨c.t,0,none⟩),.pointer (some ⟨c.tl,0,none⟩),.pointer (some ⟨c.tg,0,none⟩),.int .i64 c.kern,.map (some c.sp)]
def macG (c:Mc) (g:Sg) (R:List SP):List SP:=RamW c.r c.N [] g.W::Bud c.b g.F g.G g.n::TreeS c.t g.ns::At c.m (mcC c)::MapI c.sp .i64 g.sps::TlbS c.tl g.ls::PcS c.tg g.z::R
def ownC (a:Sc):SP:=OneS a.2.p a.1.box a.2.root a.2.s a.1.regs a.2.lent
def lfS (φ:Int->Int) (s:Sm):Int->Option Lf:=λq=>match pgAt s q,lookR s.regs q with
 | some g,some a=>some ⟨φ g.key,a.1,a.2.1,a.2.2.1⟩
 | _,_=>none
def lfL (φ:Int->Int) (l:List Sm) (id:Int):Int->Option Lf:=match l.find? (λs=>s.id==id) with
 | some s=>lfS φ s
 | none=>λ_=>none
def frC (φ:Int->Int) (a:Sc):List Int:=a.2.tl++(ownP a.1).map λg=>φ g.key
def frs (c:Mc) (φ:Int->Int) (L:List Sc):List Int:=c.kern::c.mid::L.flatMap (frC φ)
structure RtOK (c:Mc) (W:Int->Int->Int) (root:Int):Prop where
 k:∃ a d,W root 256=packZ true true false a d false false false c.kern
 z:∀ j,256<j->j<512->W root j=0
structure SpOK (c:Mc) (g:Sg) (φ:Int->Int) (a:Sc):Prop where
 rest:Rest g.G g.W a.2.root a.2.tab (lfS φ a.1) a.2.tl
 rt:RtOK c g.W a.2.root
 lnd:(a.2.lent.map (·.1)).Nodup
 lent:∀ q,a.2.lent.lookup q=(pgAt a.1 q).bind λg=>if g.lent=0 then none else some g.lent
 sl:a.2.s.a=none->a.1.regs=[]
def entC (L:List Sc):List (Int × Value):=L.map λa=>(a.1.id,ptrV a.2.p)
structure SgOK (c:Mc) (g:Sg) (L:List Sc) (M:Mm) (φ:Int->Int):Prop where
 inv:InvL M
 abs:L.map (·.1)=M.sps
 ns:g.ns=M.ns
 n:g.n=sumZ rmN M.ns
 sps:g.sps.Perm (entC L)
 nd:(frs c φ L).Nodup
 G:∀ f,g.G f↔f ∈ frs c φ L
 rng:∀ f,g.F f\/g.G f↔1<=f/\f<c.N
 one:∀ a ∈ L,SpOK c g φ a
 wd:∀ k ∈ ownK M.sps,∀ i,g.W (φ k) i=M.wd k i
 kw:∀ q:Nat,q<512->g.W c.kern q=if q=0 then kEnt c.mid else 0
 pc:PcOK g.z
 ln:LnOK (vw g.z (lfL φ M.sps)) g.ls
 N:4<=c.N/\c.N<=262144
def MacS (c:Mc) (M:Mm) (φ:Int->Int):SP:=λB=>∃ g L,SgOK c g L M φ/\Own (macG c g (L.map ownC)) B
variable {A:AH} {l R R':List SP} {c:Mc} {g:Sg} {L pre post:List Sc} {M:Mm} {φ:Int->Int} {a:Sc} {s:Sm}
theorem MacS.openH (h:Own (MacS c M φ::R) A):∃ g L,SgOK c g L M φ/\Own (macG c g (L.map ownC++R)) A:=by
 obtain ⟨g,h⟩:=Own.ex h;obtain ⟨L,h⟩:=Own.ex h;obtain ⟨h1,h⟩:=Own.pure h;exact ⟨g,L,h1,by have:=h.flat;exact this⟩
theorem MacS.closeH (h1:SgOK c g L M φ) (h:Own (macG c g (L.map ownC++R)) A):Own (MacS c M φ::R) A:=by
 have h:Own (macG c g (L.map ownC)++R) A:=h;exact h.app.imp λ_ hB=>⟨g,L,h1,hB⟩
theorem macG.mapR (f:∀ C,Own R C->Own R' C) (h:Own (macG c g R) A):Own (macG c g R') A:=
 h.cons λ_ h=>h.cons λ_ h=>h.cons λ_ h=>h.cons λ_ h=>h.cons λ_ h=>h.cons λ_ h=>h.cons f
theorem macG.focus (h:Own (macG c g ((pre++a::post).map ownC++R)) A):Own (macG c g (ownC a::((pre++post).map ownC++R))) A:=by
 refine macG.mapR (λC hC=>hC.perm ?_) h;rw [List.map_append,List.map_cons,List.map_append,List.append_assoc,List.append_assoc,List.cons_append];exact List.perm_middle
theorem macG.unfocus (h:Own (macG c g (ownC a::((pre++post).map ownC++R))) A):Own (macG c g ((pre++a::post).map ownC++R)) A:=by
 refine macG.mapR (λC hC=>hC.perm (List.Perm.symm ?_)) h;rw [List.map_append,List.map_cons,List.map_append,List.append_assoc,List.append_assoc,List.cons_append];exact List.perm_middle
theorem macG.tlb (h:Own (macG c g R) A):Own (TlbS c.tl g.ls::(macG c g R).eraseIdx 5) A:=Own.pick 5 rfl h
theorem macG.tlbB {ls':List Ln} (h:Own (TlbS c.tl ls'::(macG c g R).eraseIdx 5) A):Own (macG c { g with ls:=ls' } R) A:=
 Own.back (l:=macG c g R) (P:=TlbS c.tl g.ls) (P':=TlbS c.tl ls') 5 rfl h
theorem macG.tags (h:Own (macG c g R) A):Own (PcS c.tg g.z::(macG c g R).eraseIdx 6) A:=Own.pick 6 rfl h
theorem macG.tagsB {z':PcZ} (h:Own (PcS c.tg z'::(macG c g R).eraseIdx 6) A):Own (macG c { g with z:=z' } R) A:=
 Own.back (l:=macG c g R) (P:=PcS c.tg g.z) (P':=PcS c.tg z') 6 rfl h
theorem macG.tree (h:Own (macG c g R) A):Own (TreeS c.t g.ns::(macG c g R).eraseIdx 2) A:=Own.pick 2 rfl h
theorem macG.treeB {ns':List Nd} (h:Own (TreeS c.t ns'::(macG c g R).eraseIdx 2) A):Own (macG c { g with ns:=ns' } R) A:=
 Own.back (l:=macG c g R) (P:=TreeS c.t g.ns) (P':=TreeS c.t ns') 2 rfl h
theorem macG.backX {X:SP} (h:Own (X::macG c g R) A):Own (macG c g (X::R)) A:=
 Own.back (l:=macG c g (X::R)) (P:=X) (P':=X) 7 rfl h
theorem macG.frontX {X:SP} (h:Own (macG c g (X::R)) A):Own (X::macG c g R) A:=Own.pick 7 rfl h
theorem prs {k:Nat} {box:Int} {Q:Option Addr->Option Addr->Option Addr->Int->AH->Prop} (h:Own l A) (e:l[k]? = some (At c.m (mcC c))) (hk:Q (some ⟨c.r,0,none⟩) (some ⟨c.b,0,none⟩) (some ⟨c.t,0,none⟩) box A) :
  qau_A (some ⟨c.m,0,none⟩) box Q A:=by
 unfold qau_A;simp only [aG,add_at,Nat.zero_add];exact dF h e rfl (dF h e rfl (dF h e rfl hk))
theorem macG.openOne (h:Own (macG c g (ownC a::R)) A):∃ lm,Own (macG c g (tX a.2.p lm a.1.box a.2.root a.2.s a.1.regs a.2.lent++R)) A:=by
 obtain ⟨lm,h⟩:=OneS.openH (macG.frontX h);refine ⟨lm,?_⟩;have h2:=h.perm (l':=macG c g []++(tX a.2.p lm a.1.box a.2.root a.2.s a.1.regs a.2.lent++R)) ?_
 ·exact h2
 ·rw [<-List.append_assoc];exact (List.perm_append_comm.append_right R).symm.trans (by rw [List.append_assoc];exact List.Perm.append_left _ (by exact List.Perm.refl (macG c g []++R))) |>.symm
theorem macG.closeOne {lm:Nat} (h:Own (macG c g (tX a.2.p lm a.1.box a.2.root a.2.s a.1.regs a.2.lent++R)) A):Own (macG c g (ownC a::R)) A:=macG.mapR (λ_ hC=>OneS.closeH hC) h
end Go.Dn
