/- What the proof stands on: Mark, Walk2, WalkM, RamB, WalkW, BitsU. -/
import Derived.Test.YtmfmhmipcdgikaaGreatEntry
import Derived.Test.YtmfmhmipcdgikaaGreatTabs
import Derived.Test.YtmfmhmipcdgikaaGreatRoot
import Derived.Test.YtmfmhmipcdgikaaGreatMWorld
/- Entries that are marked as used stay what they are. -/
namespace Go.Dn
variable {W W':Int→Int→Int} {root:Int} {tab:Tab} {lf:Int→Option Lf}
theorem or5_pack {b0 b1 b2 a d b5 b6 b7:Bool} {f:Int} (hf:0≤f∧f<1048576):or5 (packZ b0 b1 b2 a d b5 b6 b7 f)=packZ b0 b1 b2 true d b5 b6 b7 f:=by
 have hb:=(pack_bits b0 b1 b2 a d b5 b6 b7 hf).2.2.2.1
 unfold or5
 rw [hb]
 cases a with
 | true=>rfl
 | false=>unfold packZ eZ;simp;omega
theorem or6_pack {b0 b1 b2 a d b5 b6 b7:Bool} {f:Int} (hf:0≤f∧f<1048576):or6 (packZ b0 b1 b2 a d b5 b6 b7 f)=packZ b0 b1 b2 a true b5 b6 b7 f:=by
 have hb:=(pack_bits b0 b1 b2 a d b5 b6 b7 hf).2.2.2.2.1
 unfold or6
 rw [hb]
 cases d with
 | true=>rfl
 | false=>unfold packZ eZ;simp;omega
theorem EntIs.mark {w:Int} {g:Int} (h:EntIs w (some g)) (hg:0≤g∧g<1048576):EntIs (or5 w) (some g)∧EntIs (or6 (or5 w)) (some g):=by
 obtain ⟨a,d,rfl⟩:=h
 rw [or5_pack hg,or6_pack hg]
 exact ⟨⟨true,d,rfl⟩,⟨true,true,rfl⟩⟩
theorem LeafIs.mark {w:Int} {l:Lf} (h:LeafIs w (some l)) (hg:0≤l.frame∧l.frame<1048576):LeafIs (or5 w) (some l)∧LeafIs (or6 (or5 w)) (some l):=by
 obtain ⟨a,d,rfl⟩:=h
 rw [or5_pack hg,or6_pack hg]
 exact ⟨⟨true,d,rfl⟩,⟨true,true,rfl⟩⟩
def MarkW (W W':Int→Int→Int):Prop:=∀ f j,0≤j→j<512→W' f j=W f j∨(W f j≠0∧(W' f j=or5 (W f j)∨W' f j=or6 (or5 (W f j))))
theorem TabW.mark (h:TabW W root tab lf) (hm:MarkW W W'):TabW W' root tab lf:=by
 refine ⟨h.root,h.deep,fun k q f hk hf j h0 h1 h2=>?_,fun q f hf j h0 h1=>?_,h.up,h.upL,h.apart,h.range,h.rangeL⟩
 ·have hw:=h.words k q f hk hf j h0 h1 h2
  cases e:tab (k+1) (q*512+j) with
  | none=>
   rw [e] at hw
   have hw:W f j=0:=hw
   rcases hm f j h0 h1 with e1 | ⟨e1,_⟩
   ·show W' f j=0;rw [e1];exact hw
   ·exact absurd hw e1
  | some g=>
   rw [e] at hw
   have:=hw.mark (h.range _ _ _ e)
   rcases hm f j h0 h1 with e1 | ⟨_,e1 | e1⟩<;>rw [e1]
   ·exact hw
   ·exact this.1
   ·exact this.2
 ·have hw:=h.leaves q f hf j h0 h1
  cases e:lf (q*512+j) with
  | none=>
   rw [e] at hw
   have hw:W f j=0:=hw
   rcases hm f j h0 h1 with e1 | ⟨e1,_⟩
   ·show W' f j=0;rw [e1];exact hw
   ·exact absurd hw e1
  | some g=>
   rw [e] at hw
   have:=hw.mark (h.rangeL _ _ e)
   rcases hm f j h0 h1 with e1 | ⟨_,e1 | e1⟩<;>rw [e1]
   ·exact hw
   ·exact this.1
   ·exact this.2
theorem markL_words {wr:Bool}:∀ (ps:List Int) (M:Int→Int),(∀ a,0≤M a∧M a<256)→ps.Nodup→(∀ p ∈ ps,∃ t i,p=t*4096+8*i∧0≤i∧i<512∧wordAt M t i≠0)→
  (∀ a,0≤markL M wr ps a∧markL M wr ps a<256)∧MarkW (wordAt M) (wordAt (markL M wr ps))∧∀ t i,0≤i→i<512→t*4096+8*i ∉ ps→wordAt (markL M wr ps) t i=wordAt M t i
 | [],M,hM,_,_=>⟨hM,fun f j _ _=>.inl rfl,fun _ _ _ _ _=>rfl⟩
 | p::ps,M,hM,hnd,hp=>by
  obtain ⟨t0,i0,rfl,h0,h1,h2⟩:=hp p (by simp)
  rw [List.nodup_cons] at hnd
  have hu:U64 (wordAt M t0 i0):=by
   have:=le_bound hM 8 (t0*4096+8*i0)
   unfold U64 wordAt
   omega
  have hx:∃ x,markL M wr ((t0*4096+8*i0)::ps)=markL (stM M (t0*4096+8*i0) 8 x) wr ps∧(x=or5 (wordAt M t0 i0)∨x=or6 (or5 (wordAt M t0 i0))):=by
   rw [markL]
   cases (wr&&ps.isEmpty) with
   | true=>exact ⟨_,rfl,.inr rfl⟩
   | false=>exact ⟨_,rfl,.inl rfl⟩
  obtain ⟨x,e,hx⟩:=hx
  have hxu:U64 x:=by
   rcases hx with rfl | rfl
   ·exact or5_u64 hu
   ·exact or6_u64 (or5_u64 hu)
  rw [e]
  have hw:∀ t i,0≤i→i<512→wordAt (stM M (t0*4096+8*i0) 8 x) t i=if t=t0∧i=i0 then x else wordAt M t i:=fun t i a b=>word_st ⟨h0,h1⟩ ⟨a,b⟩ hxu
  obtain ⟨k0,k1,k2⟩:=markL_words ps (stM M (t0*4096+8*i0) 8 x) (stM_byte hM) hnd.2 (fun p hp'=>by
   obtain ⟨t,i,e1,e2,e3,e4⟩:=hp p (by simp [hp'])
   refine ⟨t,i,e1,e2,e3,?_⟩
   rw [hw t i e2 e3,if_neg (fun z=>hnd.1 (by rw [←z.1,← z.2,← e1];exact hp'))]
   exact e4)
  refine ⟨k0,fun f j a b=>?_,fun t i a b c=>?_⟩
  ·by_cases g:f=t0∧j=i0
   ·have:=k2 f j a b (by rw [g.1,g.2];exact hnd.1)
    rw [hw f j a b,if_pos g] at this
    refine .inr ⟨by rw [g.1,g.2];exact h2,?_⟩
    rw [this,g.1,g.2]
    exact hx
   ·have:=k1 f j a b
    rw [hw f j a b,if_neg g] at this
    exact this
  ·simp only [List.mem_cons,not_or] at c
   rw [k2 t i a b c.2,hw t i a b,if_neg (fun z=>c.1 (by rw [z.1,z.2]))]
end Go.Dn
/- A walk, as a whole. -/
namespace Go.Dn
variable {A:AH} {l:List SP} {r:Nat} {fr:Int} {hs:List (Int × Int)} {M:Int→Int}
abbrev WQ:=Int→Bool→Bool→Bool→Bool→Bool→Bool→Int→Int→Int→AH→Prop
def WPost (l:List SP) (i r:Nat) (fr:Int) (hs:List (Int × Int)) (M:Int→Int) (a:Int) (aw:Bool) (Q:WQ):WOut→Prop
 | .err e=>∀ A',Own l A'→Q 0 false false false false false false 0 0 e A'
 | .fault c=>∀ A',Own l A'→Q 0 false false false false false false a c 9 A'
 | .ok f w u x g lg d ps=>∀ A',Own (l.set i (RamS r fr hs (markL M aw ps))) A'→Q f w u x g lg d 0 0 0 A'
theorem rec_end {b2 b4 b6:Nat} {f0 z4 z5 z6 y0 y1 y2:Int} {g1 g2 g3 g4 g5 g6:Bool} {Q:WQ} (h:Own (At b6 [.int .i64 z6]::At b4 [.int .u64 z4,.int .i64 z5]::At b2 [.int .i64 f0,.bool g1,.bool g2,.bool g3,.bool g4,.bool g5,.bool g6]::l) A)
  (hk:∀ A',Own l A'→Q 0 false false false false false false y0 y1 y2 A') :
  qdx_pA (some (Addr.mk b2 0 none)) (some (Addr.mk b4 0 none)) (some (Addr.mk b6 0 none)) y0 y1 y2 (fun h82=>
(aI .i64 (Addr.mk b2 0 none) h82 fun n86=>
(aB (Addr.add (Addr.mk b2 0 none) 1) h82 fun b87=>
(aB (Addr.add (Addr.mk b2 0 none) 2) h82 fun b88=>
(aB (Addr.add (Addr.mk b2 0 none) 3) h82 fun b89=>
(aB (Addr.add (Addr.mk b2 0 none) 4) h82 fun b90=>
(aB (Addr.add (Addr.mk b2 0 none) 5) h82 fun b91=>
(aB (Addr.add (Addr.mk b2 0 none) 6) h82 fun b92=>
(aI .u64 (Addr.mk b4 0 none) h82 fun n93=>
(aI .i64 (Addr.add (Addr.mk b4 0 none) 1) h82 fun n94=>
(aI .i64 (Addr.mk b6 0 none) h82 fun n95=>
(Q n86 b87 b88 b89 b90 b91 b92 n93 n94 n95 h82)))))))))))) A:=by
 unfold qdx_pA
 simp only [onSome]
 repeat (first | ((first | refine st_C (i:=0) h rfl rfl rfl fun _ h=>?_ | refine st_C (i:=1) h rfl rfl rfl fun _ h=>?_ | refine st_C (i:=2) h rfl rfl rfl fun _ h=>?_);try simp only [List.set_cons_zero,List.set_cons_succ] at h) | (first | refine ld_I (i:=0) h rfl rfl ?_ | refine ld_B (i:=0) h rfl rfl ?_ | refine ld_I (i:=1) h rfl rfl ?_ | refine ld_B (i:=1) h rfl rfl ?_ | refine ld_I (i:=2) h rfl rfl ?_ | refine ld_B (i:=2) h rfl rfl ?_))
 exact hk _ h.tail.tail.tail
variable {a t:Int} {aw au af w u x:Bool} {lv:Nat} {ps:List Int}
theorem walkL_err (h:hasF fr hs t=false):walkL fr hs M a aw au af (lv+1) t w u x ps = .err 2:=by
 rw [walkL,if_pos h]
theorem walkL_f0 (h:hasF fr hs t=true) (h0:bitZ (le M (placeZ t a lv) 8) 0=false):walkL fr hs M a aw au af (lv+1) t w u x ps = .fault (codeZ aw au af):=by
 rw [walkL,if_neg (by simp [h]),if_pos h0]
theorem walkL_f9 (h:hasF fr hs t=true) (h0:bitZ (le M (placeZ t a lv) 8) 0=true) (h9:resvd (le M (placeZ t a lv) 8) ((lv:Int)+1)=true):walkL fr hs M a aw au af (lv+1) t w u x ps = .fault (9+codeZ aw au af):=by
 rw [walkL,if_neg (by simp [h]),if_neg (by simp [h0]),if_pos h9]
theorem walkL_go (h:hasF fr hs t=true) (h0:bitZ (le M (placeZ t a lv) 8) 0=true) (h9:resvd (le M (placeZ t a lv) 8) ((lv:Int)+1)=false) (hg:¬(lv=0∨(lv=1∧bitZ (le M (placeZ t a lv) 8) 7=true))) :
  walkL fr hs M a aw au af (lv+1) t w u x ps=walkL fr hs M a aw au af lv (frameZ (le M (placeZ t a lv) 8)) (w&&bitZ (le M (placeZ t a lv) 8) 1) (u&&bitZ (le M (placeZ t a lv) 8) 2) (x&&!bitZ (le M (placeZ t a lv) 8) 63) (ps++[placeZ t a lv]):=by
 rw [walkL,if_neg (by simp [h]),if_neg (by simp [h0]),if_neg (by simp [h9]),if_neg hg]
theorem walkL_end (h:hasF fr hs t=true) (h0:bitZ (le M (placeZ t a lv) 8) 0=true) (h9:resvd (le M (placeZ t a lv) 8) ((lv:Int)+1)=false) (hg:lv=0∨(lv=1∧bitZ (le M (placeZ t a lv) 8) 7=true)) :
  walkL fr hs M a aw au af (lv+1) t w u x ps=if mayZ (w&&bitZ (le M (placeZ t a lv) 8) 1) (u&&bitZ (le M (placeZ t a lv) 8) 2) (x&&!bitZ (le M (placeZ t a lv) 8) 63) aw au af=true then
    .ok (if lv=1 then frameZ (le M (placeZ t a lv) 8)+partZ a 12 else frameZ (le M (placeZ t a lv) 8)) (w&&bitZ (le M (placeZ t a lv) 8) 1) (u&&bitZ (le M (placeZ t a lv) 8) 2) (x&&!bitZ (le M (placeZ t a lv) 8) 63)
     (bitZ (le M (placeZ t a lv) 8) 8) (lv==1) (bitZ (le M (placeZ t a lv) 8) 6 || aw) (ps++[placeZ t a lv])
   else .fault (1+codeZ aw au af):=by
 rw [walkL,if_neg (by simp [h]),if_neg (by simp [h0]),if_neg (by simp [h9]),if_pos hg]
theorem hasF_bound (hf:0≤fr∧fr≤1048576) (h:hasF fr hs t=true):0≤t∧t<1048576:=by
 unfold hasF at h
 simp at h
 omega
theorem frame_bound {y:Int}:0≤frameZ y∧frameZ y<1048576:=by unfold frameZ;omega
theorem Walk_spec {i:Nat} {root:Int} {Q:WQ} (h:Own l A) (e1:l[i]? = some (RamS r fr hs M)) (hl:hs.length≤64) (hf:0≤fr∧fr≤1048576) (ha:U64 a) (hk:WPost l i r fr hs M a aw Q (walkZ fr hs M root a aw au af)) :
  qdy_A (some ⟨r,0,none⟩) root a aw au af Q A:=by
 unfold qdy_A qdy_G
 refine new_C h fun b2 _ h=>?_
 refine new_C h fun b4 _ h=>?_
 refine new_C h fun b6 _ h=>?_
 refine Canonical_spec ?_
 unfold walkZ at hk
 refine bsel_in (fun c=>?_) fun c=>?_
 ·repeat (first | ((first | refine st_C (i:=0) h rfl rfl rfl fun _ h=>?_ | refine st_C (i:=1) h rfl rfl rfl fun _ h=>?_ | refine st_C (i:=2) h rfl rfl rfl fun _ h=>?_);try simp only [List.set_cons_zero,List.set_cons_succ] at h) | (first | refine ld_I (i:=0) h rfl rfl ?_ | refine ld_B (i:=0) h rfl rfl ?_ | refine ld_I (i:=1) h rfl rfl ?_ | refine ld_B (i:=1) h rfl rfl ?_ | refine ld_I (i:=2) h rfl rfl ?_ | refine ld_B (i:=2) h rfl rfl ?_))
  rw [if_pos (by simpa using c)] at hk
  exact hk _ h.tail.tail.tail
 rw [if_neg (by simpa using c)] at hk
 refine Has_spec (i:=i+3) h e1 hl ?_
 refine bsel_in (fun c2=>?_) fun c2=>?_
 ·repeat (first | ((first | refine st_C (i:=0) h rfl rfl rfl fun _ h=>?_ | refine st_C (i:=1) h rfl rfl rfl fun _ h=>?_ | refine st_C (i:=2) h rfl rfl rfl fun _ h=>?_);try simp only [List.set_cons_zero,List.set_cons_succ] at h) | (first | refine ld_I (i:=0) h rfl rfl ?_ | refine ld_B (i:=0) h rfl rfl ?_ | refine ld_I (i:=1) h rfl rfl ?_ | refine ld_B (i:=1) h rfl rfl ?_ | refine ld_I (i:=2) h rfl rfl ?_ | refine ld_B (i:=2) h rfl rfl ?_))
  rw [if_pos (by simpa using c2)] at hk
  exact hk _ h.tail.tail.tail
 have c2:hasF fr hs root=true:=by simpa using c2
 rw [if_neg (by simp [c2])] at hk
 refine new_C h fun b54 _ h=>?_
 refine Split_spec ha h fun _ h=>?_
 refine new_C h fun b62 _ h=>?_
 (first | refine st_C (i:=0) h rfl rfl rfl fun _ h=>?_ | refine st_C (i:=1) h rfl rfl rfl fun _ h=>?_ | refine st_C (i:=2) h rfl rfl rfl fun _ h=>?_ | refine st_C (i:=3) h rfl rfl rfl fun _ h=>?_ | refine st_C (i:=4) h rfl rfl rfl fun _ h=>?_ | refine st_C (i:=5) h rfl rfl rfl fun _ h=>?_ | refine st_C (i:=6) h rfl rfl rfl fun _ h=>?_);try simp only [List.set_cons_zero,List.set_cons_succ] at h
 (first | refine st_C (i:=0) h rfl rfl rfl fun _ h=>?_ | refine st_C (i:=1) h rfl rfl rfl fun _ h=>?_ | refine st_C (i:=2) h rfl rfl rfl fun _ h=>?_ | refine st_C (i:=3) h rfl rfl rfl fun _ h=>?_ | refine st_C (i:=4) h rfl rfl rfl fun _ h=>?_ | refine st_C (i:=5) h rfl rfl rfl fun _ h=>?_ | refine st_C (i:=6) h rfl rfl rfl fun _ h=>?_);try simp only [List.set_cons_zero,List.set_cons_succ] at h
 (first | refine st_C (i:=0) h rfl rfl rfl fun _ h=>?_ | refine st_C (i:=1) h rfl rfl rfl fun _ h=>?_ | refine st_C (i:=2) h rfl rfl rfl fun _ h=>?_ | refine st_C (i:=3) h rfl rfl rfl fun _ h=>?_ | refine st_C (i:=4) h rfl rfl rfl fun _ h=>?_ | refine st_C (i:=5) h rfl rfl rfl fun _ h=>?_ | refine st_C (i:=6) h rfl rfl rfl fun _ h=>?_);try simp only [List.set_cons_zero,List.set_cons_succ] at h
 (first | refine st_C (i:=0) h rfl rfl rfl fun _ h=>?_ | refine st_C (i:=1) h rfl rfl rfl fun _ h=>?_ | refine st_C (i:=2) h rfl rfl rfl fun _ h=>?_ | refine st_C (i:=3) h rfl rfl rfl fun _ h=>?_ | refine st_C (i:=4) h rfl rfl rfl fun _ h=>?_ | refine st_C (i:=5) h rfl rfl rfl fun _ h=>?_ | refine st_C (i:=6) h rfl rfl rfl fun _ h=>?_);try simp only [List.set_cons_zero,List.set_cons_succ] at h
 generalize hW:walkL fr hs M a aw au af 4 root true true true []=W at hk
 refine ⟨fun s h'=>∃ f w u x g lg d ps,W = .ok f w u x g lg d ps∧Own (SlAt s 1 (u64s ps)::At b6 [.int .i64 0]::At b4 [.int .u64 0,.int .i64 0]::At b2 [.int .i64 f,.bool w,.bool u,.bool x,.bool g,.bool lg,.bool d]::l) h'∧PlacesOK fr hs ps∧ps.length≤4,?_,?_⟩
 ·intro s h' ⟨f,w,u,x,g,lg,d,ps,g1,h,g3,g4⟩
  subst g1
  refine mark_spec (i:=i+4) (k:=0) h e1 rfl (by omega) hl hf g3 g4 fun _ h=>?_
  simp only [List.set_cons_succ] at h
  repeat (first | ((first | refine st_C (i:=0) h rfl rfl rfl fun _ h=>?_ | refine st_C (i:=1) h rfl rfl rfl fun _ h=>?_ | refine st_C (i:=2) h rfl rfl rfl fun _ h=>?_ | refine st_C (i:=3) h rfl rfl rfl fun _ h=>?_);try simp only [List.set_cons_zero,List.set_cons_succ] at h) | (first | refine ld_I (i:=0) h rfl rfl ?_ | refine ld_B (i:=0) h rfl rfl ?_ | refine ld_I (i:=1) h rfl rfl ?_ | refine ld_B (i:=1) h rfl rfl ?_ | refine ld_I (i:=2) h rfl rfl ?_ | refine ld_B (i:=2) h rfl rfl ?_ | refine ld_I (i:=3) h rfl rfl ?_ | refine ld_B (i:=3) h rfl rfl ?_))
  exact hk _ h.tail.tail.tail.tail
 refine ⟨fun s t lev m h'=>∃ (k:Nat) (w u x:Bool) (ps:List Int),lev=k∧(1≤k∧k≤4)∧m=k∧(0≤t∧t<1048576)∧walkL fr hs M a aw au af k t w u x ps=W∧PlacesOK fr hs ps∧ps.length+k=4∧(s.a=none→u64s ps=[])∧s.len=ps.length∧
  Own (SlO s 1 (u64s ps)::At b62 [.int .i64 (partZ a 39),.int .i64 (partZ a 30),.int .i64 (partZ a 21),.int .i64 (partZ a 12)]::At b54 (wcell r a aw au af w u x)::At b6 [.int .i64 0]::At b4 [.int .u64 0,.int .i64 0]::At b2 [.int .i64 0,.bool false,.bool false,.bool false,.bool false,.bool false,.bool false]::l) h',
  ⟨4,4,true,true,true,[],rfl,⟨by omega,by omega⟩,rfl,hasF_bound hf c2,hW,(fun p hp=>by simp at hp),rfl,fun _=>rfl,rfl,?_⟩,?_⟩
 ·exact ⟨fun _=>none,_,fun _=>.inl rfl,(fun b o e=>nomatch e),Sub.refl _,SlO.nil,h⟩
 intro s t lev m h' ⟨k,w,u,x,ps,g1,g2,g3,ht,g5,g6,g7,g8,g9,h⟩
 subst g1 g3
 refine bsel_in (fun c3=>?_) fun c3=>?_
 ·have c3:1≤m:=by simp at c3;omega
  obtain ⟨lv,rfl⟩:∃ lv,m=lv+1:=⟨m-1,by omega⟩
  have hix:IntKind.wrap .i64 (4-((lv+1:Nat):Int))=((3-lv:Nat):Int):=by rw [w64 (by omega) (by omega)];omega
  rw [hix]
  refine inB_in (by omega) (by omega) ?_
  have hcell:([.int .i64 (partZ a 39),.int .i64 (partZ a 30),.int .i64 (partZ a 21),.int .i64 (partZ a 12)]:List Value)[0+Int.toNat ((3-lv:Nat):Int)*1]? = some (.int .i64 (partZ a (12+9*lv))):=by
   obtain rfl | rfl | rfl | rfl:lv=0∨lv=1∨lv=2∨lv=3:=by omega
   all_goals rfl
  rw [add_at]
  refine ld_I (i:=1) h rfl hcell ?_
  have hpb:=place_bound (a:=a) (lv:=lv) ht
  refine entry_spec (i:=i+6) (j:=2) (lv:=lv) h e1 rfl hl hf ht rfl (by omega) ?_ ?_ ?_ ?_
  ·intro q
   rw [walkL_err q] at g5
   subst g5
   exact rec_end h.tail.tail.tail hk
  ·intro q q0
   rw [walkL_f0 q q0] at g5
   subst g5
   exact rec_end h.tail.tail.tail hk
  ·intro q q0 q9
   rw [walkL_f9 q q0 q9] at g5
   subst g5
   exact rec_end h.tail.tail.tail hk
  intro q q0 q9 A2 h
  simp only [List.set_cons_zero,List.set_cons_succ] at h
  have hplOK:PlacesOK fr hs (ps++[placeZ t a lv]):=by
   intro p hp
   rcases List.mem_append.1 hp with hp | hp
   ·exact g6 p hp
   ·simp at hp
    subst hp
    exact ⟨by unfold placeZ;rw [okA_word ⟨hpb.1,hpb.2.1⟩,q],hpb.2.2.1,by omega⟩
  have hUe:=word_u64 (i:=i+6) h e1 (placeZ t a lv)
  refine new_C h fun b96 _ h=>?_
  have h:=Own.imp (P':=SlAt ⟨some ⟨b96,0,none⟩,1,1⟩ 1 [.int .u64 (placeZ t a lv)]) (fun B hB=>⟨rfl,Nat.le_refl _,fun _=>⟨b96,[],[],rfl,hB⟩⟩) h
  have h:=h.swap
  refine ap_head (i:=0) h rfl (fun q=>by cases q) g8 rfl (fun v hv=>by simp at hv;subst hv;rfl) ⟨by simp [g9];omega,by simp [g9];omega⟩ fun s' A3 hs1 hs2 h=>?_
  refine Unpack_spec hUe h fun _ h=>?_
  have hu:u64s ps++[.int .u64 (placeZ t a lv)]=u64s (ps++[placeZ t a lv]):=by simp [u64s]
  have hgo:¬(lv=0∨(lv=1∧bitZ (le M (placeZ t a lv) 8) 7=true))→∀ h9:AH,Own (SlO s' 1 (u64s ps++[.int .u64 (placeZ t a lv)])::SlAt ⟨some ⟨b96,0,none⟩,1,1⟩ 1 [.int .u64 (placeZ t a lv)]::At b62 [.int .i64 (partZ a 39),.int .i64 (partZ a 30),.int .i64 (partZ a 21),.int .i64 (partZ a 12)]::At b54 (wcell r a aw au af (w&&bitZ (le M (placeZ t a lv) 8) 1) (u&&bitZ (le M (placeZ t a lv) 8) 2) (x&&!bitZ (le M (placeZ t a lv) 8) 63))::At b6 [.int .i64 0]::At b4 [.int .u64 0,.int .i64 0]::At b2 [.int .i64 0,.bool false,.bool false,.bool false,.bool false,.bool false,.bool false]::l) h9→∃ (k:Nat) (w u x:Bool) (ps:List Int),IntKind.wrap .i64 (((lv+1:Nat):Int)-1)=k∧(1≤k∧k≤4)∧lv=k∧(0≤frameZ (le M (placeZ t a lv) 8)∧frameZ (le M (placeZ t a lv) 8)<1048576)∧walkL fr hs M a aw au af k (frameZ (le M (placeZ t a lv) 8)) w u x ps=W∧PlacesOK fr hs ps∧ps.length+k=4∧(s'.a=none→u64s ps=[])∧s'.len=ps.length∧
    Own (SlO s' 1 (u64s ps)::At b62 [.int .i64 (partZ a 39),.int .i64 (partZ a 30),.int .i64 (partZ a 21),.int .i64 (partZ a 12)]::At b54 (wcell r a aw au af w u x)::At b6 [.int .i64 0]::At b4 [.int .u64 0,.int .i64 0]::At b2 [.int .i64 0,.bool false,.bool false,.bool false,.bool false,.bool false,.bool false]::l) h9:=by
   intro hg h9 h
   rw [walkL_go q q0 q9 hg] at g5
   refine ⟨lv,_,_,_,_,by rw [w64]<;>omega,⟨by omega,by omega⟩,rfl,frame_bound,g5,hplOK,by simp;omega,by rw [←hu];exact hs2,by simp [hs1,g9],?_⟩
   rw [←hu]
   exact h.cons fun _ hh=>hh.tail
  have hfinal:∀ (f:Int) (w u x g lg d:Bool) (h':AH),W = .ok f w u x g lg d (ps++[placeZ t a lv])→∀ z1 z2 z3,Own (SlO s' 1 (u64s ps++[.int .u64 (placeZ t a lv)])::z1::z2::z3::At b6 [.int .i64 0]::At b4 [.int .u64 0,.int .i64 0]::At b2 [.int .i64 f,.bool w,.bool u,.bool x,.bool g,.bool lg,.bool d]::l) h'→
    ∃ f w u x g lg d ps,W = .ok f w u x g lg d ps∧Own (SlAt s' 1 (u64s ps)::At b6 [.int .i64 0]::At b4 [.int .u64 0,.int .i64 0]::At b2 [.int .i64 f,.bool w,.bool u,.bool x,.bool g,.bool lg,.bool d]::l) h'∧PlacesOK fr hs ps∧ps.length≤4:=by
   intro f w u x g lg d h' hw z1 z2 z3 h
   refine ⟨f,w,u,x,g,lg,d,_,hw,?_,hplOK,by simp;omega⟩
   rw [←hu]
   exact (h.imp fun B hB=>hB.look).cons fun _ hh=>hh.tail.tail.tail
  refine ⟨fun h'=>(lv=0∨(lv=1∧bitZ (le M (placeZ t a lv) 8) 7=true))∧Own (SlO s' 1 (u64s ps++[.int .u64 (placeZ t a lv)])::SlAt ⟨some ⟨b96,0,none⟩,1,1⟩ 1 [.int .u64 (placeZ t a lv)]::At b62 [.int .i64 (partZ a 39),.int .i64 (partZ a 30),.int .i64 (partZ a 21),.int .i64 (partZ a 12)]::At b54 (wcell r a aw au af (w&&bitZ (le M (placeZ t a lv) 8) 1) (u&&bitZ (le M (placeZ t a lv) 8) 2) (x&&!bitZ (le M (placeZ t a lv) 8) 63))::At b6 [.int .i64 0]::At b4 [.int .u64 0,.int .i64 0]::At b2 [.int .i64 0,.bool false,.bool false,.bool false,.bool false,.bool false,.bool false]::l) h',?_,?_⟩
  ·intro h107 ⟨hend0,h⟩
   have hend:=walkL_end (fr:=fr) (hs:=hs) (M:=M) (a:=a) (aw:=aw) (au:=au) (af:=af) (w:=w) (u:=u) (x:=x) (ps:=ps) q q0 q9 hend0
   rw [g5] at hend
   rcases hend0 with rfl | ⟨rfl,c6⟩
   ·generalize he:le M (placeZ t a 0) 8=e at *
    generalize hw':(w&&bitZ e 1)=w' at *
    generalize hu':(u&&bitZ e 2)=u' at *
    generalize hx':(x&&!bitZ e 63)=x' at *
    refine ⟨fun h'=>Own (SlO s' 1 (u64s ps++[.int .u64 (placeZ t a 0)])::SlAt ⟨some ⟨b96,0,none⟩,1,1⟩ 1 [.int .u64 (placeZ t a 0)]::At b62 [.int .i64 (partZ a 39),.int .i64 (partZ a 30),.int .i64 (partZ a 21),.int .i64 (partZ a 12)]::At b54 (wcell r a aw au af w' u' x')::At b6 [.int .i64 0]::At b4 [.int .u64 0,.int .i64 0]::At b2 [.int .i64 0,.bool false,.bool false,.bool false,.bool false,.bool false,.bool false]::l) h'∧mayZ w' u' x' aw au af=true,?_,?_⟩
    ·intro h134 ⟨h,hmay⟩
     rw [hmay,if_pos rfl] at hend
     have hfr:IntKind.wrap .i64 (frameZ e+partZ a 12)=frameZ e+partZ a 12:=by
      have:=frame_bound (y:=e)
      have:0≤partZ a 12∧partZ a 12<512:=by unfold partZ;omega
      exact w64 (by omega) (by omega)
     repeat (first | ((first | refine st_C (i:=0) h rfl rfl rfl fun _ h=>?_ | refine st_C (i:=1) h rfl rfl rfl fun _ h=>?_ | refine st_C (i:=2) h rfl rfl rfl fun _ h=>?_ | refine st_C (i:=3) h rfl rfl rfl fun _ h=>?_ | refine st_C (i:=4) h rfl rfl rfl fun _ h=>?_ | refine st_C (i:=5) h rfl rfl rfl fun _ h=>?_ | refine st_C (i:=6) h rfl rfl rfl fun _ h=>?_);try simp only [List.set_cons_zero,List.set_cons_succ] at h) | (first | refine ld_I (i:=0) h rfl rfl ?_ | refine ld_B (i:=0) h rfl rfl ?_ | refine ld_I (i:=1) h rfl rfl ?_ | refine ld_B (i:=1) h rfl rfl ?_ | refine ld_I (i:=2) h rfl rfl ?_ | refine ld_B (i:=2) h rfl rfl ?_ | refine ld_I (i:=3) h rfl rfl ?_ | refine ld_B (i:=3) h rfl rfl ?_ | refine ld_I (i:=4) h rfl rfl ?_ | refine ld_B (i:=4) h rfl rfl ?_ | refine ld_I (i:=5) h rfl rfl ?_ | refine ld_B (i:=5) h rfl rfl ?_ | refine ld_I (i:=6) h rfl rfl ?_ | refine ld_B (i:=6) h rfl rfl ?_))
     refine bsel_in (fun cd=>?_) fun cd=>?_
     ·repeat (first | ((first | refine st_C (i:=0) h rfl rfl rfl fun _ h=>?_ | refine st_C (i:=1) h rfl rfl rfl fun _ h=>?_ | refine st_C (i:=2) h rfl rfl rfl fun _ h=>?_ | refine st_C (i:=3) h rfl rfl rfl fun _ h=>?_ | refine st_C (i:=4) h rfl rfl rfl fun _ h=>?_ | refine st_C (i:=5) h rfl rfl rfl fun _ h=>?_ | refine st_C (i:=6) h rfl rfl rfl fun _ h=>?_);try simp only [List.set_cons_zero,List.set_cons_succ] at h) | (first | refine ld_I (i:=0) h rfl rfl ?_ | refine ld_B (i:=0) h rfl rfl ?_ | refine ld_I (i:=1) h rfl rfl ?_ | refine ld_B (i:=1) h rfl rfl ?_ | refine ld_I (i:=2) h rfl rfl ?_ | refine ld_B (i:=2) h rfl rfl ?_ | refine ld_I (i:=3) h rfl rfl ?_ | refine ld_B (i:=3) h rfl rfl ?_ | refine ld_I (i:=4) h rfl rfl ?_ | refine ld_B (i:=4) h rfl rfl ?_ | refine ld_I (i:=5) h rfl rfl ?_ | refine ld_B (i:=5) h rfl rfl ?_ | refine ld_I (i:=6) h rfl rfl ?_ | refine ld_B (i:=6) h rfl rfl ?_))
      try rw [hfr] at h
      exact hfinal _ _ _ _ _ _ _ _ (hend.trans (by rw [cd];rfl)) _ _ _ h
     ·repeat (first | ((first | refine st_C (i:=0) h rfl rfl rfl fun _ h=>?_ | refine st_C (i:=1) h rfl rfl rfl fun _ h=>?_ | refine st_C (i:=2) h rfl rfl rfl fun _ h=>?_ | refine st_C (i:=3) h rfl rfl rfl fun _ h=>?_ | refine st_C (i:=4) h rfl rfl rfl fun _ h=>?_ | refine st_C (i:=5) h rfl rfl rfl fun _ h=>?_ | refine st_C (i:=6) h rfl rfl rfl fun _ h=>?_);try simp only [List.set_cons_zero,List.set_cons_succ] at h) | (first | refine ld_I (i:=0) h rfl rfl ?_ | refine ld_B (i:=0) h rfl rfl ?_ | refine ld_I (i:=1) h rfl rfl ?_ | refine ld_B (i:=1) h rfl rfl ?_ | refine ld_I (i:=2) h rfl rfl ?_ | refine ld_B (i:=2) h rfl rfl ?_ | refine ld_I (i:=3) h rfl rfl ?_ | refine ld_B (i:=3) h rfl rfl ?_ | refine ld_I (i:=4) h rfl rfl ?_ | refine ld_B (i:=4) h rfl rfl ?_ | refine ld_I (i:=5) h rfl rfl ?_ | refine ld_B (i:=5) h rfl rfl ?_ | refine ld_I (i:=6) h rfl rfl ?_ | refine ld_B (i:=6) h rfl rfl ?_))
      try rw [hfr] at h
      exact hfinal _ _ _ _ _ _ _ _ (hend.trans (by rw [cd];rfl)) _ _ _ h
    ·repeat (first | ((first | refine st_C (i:=0) h rfl rfl rfl fun _ h=>?_ | refine st_C (i:=1) h rfl rfl rfl fun _ h=>?_ | refine st_C (i:=2) h rfl rfl rfl fun _ h=>?_ | refine st_C (i:=3) h rfl rfl rfl fun _ h=>?_ | refine st_C (i:=4) h rfl rfl rfl fun _ h=>?_ | refine st_C (i:=5) h rfl rfl rfl fun _ h=>?_ | refine st_C (i:=6) h rfl rfl rfl fun _ h=>?_);try simp only [List.set_cons_zero,List.set_cons_succ] at h) | (first | refine ld_I (i:=0) h rfl rfl ?_ | refine ld_B (i:=0) h rfl rfl ?_ | refine ld_I (i:=1) h rfl rfl ?_ | refine ld_B (i:=1) h rfl rfl ?_ | refine ld_I (i:=2) h rfl rfl ?_ | refine ld_B (i:=2) h rfl rfl ?_ | refine ld_I (i:=3) h rfl rfl ?_ | refine ld_B (i:=3) h rfl rfl ?_ | refine ld_I (i:=4) h rfl rfl ?_ | refine ld_B (i:=4) h rfl rfl ?_ | refine ld_I (i:=5) h rfl rfl ?_ | refine ld_B (i:=5) h rfl rfl ?_ | refine ld_I (i:=6) h rfl rfl ?_ | refine ld_B (i:=6) h rfl rfl ?_))
     refine May_spec ?_
     refine bsel_in (fun c=>?_) fun c=>⟨h,by simpa using c⟩
     rw [if_neg (by simpa using c)] at hend
     refine fault_spec (j:=3) (.inr (.inl rfl)) h rfl ?_
     subst hend
     exact rec_end h.tail.tail.tail.tail hk
   ·generalize he:le M (placeZ t a 1) 8=e at *
    generalize hw':(w&&bitZ e 1)=w' at *
    generalize hu':(u&&bitZ e 2)=u' at *
    generalize hx':(x&&!bitZ e 63)=x' at *
    refine ⟨fun h'=>Own (SlO s' 1 (u64s ps++[.int .u64 (placeZ t a 1)])::SlAt ⟨some ⟨b96,0,none⟩,1,1⟩ 1 [.int .u64 (placeZ t a 1)]::At b62 [.int .i64 (partZ a 39),.int .i64 (partZ a 30),.int .i64 (partZ a 21),.int .i64 (partZ a 12)]::At b54 (wcell r a aw au af w' u' x')::At b6 [.int .i64 0]::At b4 [.int .u64 0,.int .i64 0]::At b2 [.int .i64 0,.bool false,.bool false,.bool false,.bool false,.bool false,.bool false]::l) h'∧mayZ w' u' x' aw au af=true,?_,?_⟩
    ·intro h134 ⟨h,hmay⟩
     rw [hmay,if_pos rfl] at hend
     have hfr:IntKind.wrap .i64 (frameZ e+partZ a 12)=frameZ e+partZ a 12:=by
      have:=frame_bound (y:=e)
      have:0≤partZ a 12∧partZ a 12<512:=by unfold partZ;omega
      exact w64 (by omega) (by omega)
     repeat (first | ((first | refine st_C (i:=0) h rfl rfl rfl fun _ h=>?_ | refine st_C (i:=1) h rfl rfl rfl fun _ h=>?_ | refine st_C (i:=2) h rfl rfl rfl fun _ h=>?_ | refine st_C (i:=3) h rfl rfl rfl fun _ h=>?_ | refine st_C (i:=4) h rfl rfl rfl fun _ h=>?_ | refine st_C (i:=5) h rfl rfl rfl fun _ h=>?_ | refine st_C (i:=6) h rfl rfl rfl fun _ h=>?_);try simp only [List.set_cons_zero,List.set_cons_succ] at h) | (first | refine ld_I (i:=0) h rfl rfl ?_ | refine ld_B (i:=0) h rfl rfl ?_ | refine ld_I (i:=1) h rfl rfl ?_ | refine ld_B (i:=1) h rfl rfl ?_ | refine ld_I (i:=2) h rfl rfl ?_ | refine ld_B (i:=2) h rfl rfl ?_ | refine ld_I (i:=3) h rfl rfl ?_ | refine ld_B (i:=3) h rfl rfl ?_ | refine ld_I (i:=4) h rfl rfl ?_ | refine ld_B (i:=4) h rfl rfl ?_ | refine ld_I (i:=5) h rfl rfl ?_ | refine ld_B (i:=5) h rfl rfl ?_ | refine ld_I (i:=6) h rfl rfl ?_ | refine ld_B (i:=6) h rfl rfl ?_))
     refine bsel_in (fun cd=>?_) fun cd=>?_
     ·repeat (first | ((first | refine st_C (i:=0) h rfl rfl rfl fun _ h=>?_ | refine st_C (i:=1) h rfl rfl rfl fun _ h=>?_ | refine st_C (i:=2) h rfl rfl rfl fun _ h=>?_ | refine st_C (i:=3) h rfl rfl rfl fun _ h=>?_ | refine st_C (i:=4) h rfl rfl rfl fun _ h=>?_ | refine st_C (i:=5) h rfl rfl rfl fun _ h=>?_ | refine st_C (i:=6) h rfl rfl rfl fun _ h=>?_);try simp only [List.set_cons_zero,List.set_cons_succ] at h) | (first | refine ld_I (i:=0) h rfl rfl ?_ | refine ld_B (i:=0) h rfl rfl ?_ | refine ld_I (i:=1) h rfl rfl ?_ | refine ld_B (i:=1) h rfl rfl ?_ | refine ld_I (i:=2) h rfl rfl ?_ | refine ld_B (i:=2) h rfl rfl ?_ | refine ld_I (i:=3) h rfl rfl ?_ | refine ld_B (i:=3) h rfl rfl ?_ | refine ld_I (i:=4) h rfl rfl ?_ | refine ld_B (i:=4) h rfl rfl ?_ | refine ld_I (i:=5) h rfl rfl ?_ | refine ld_B (i:=5) h rfl rfl ?_ | refine ld_I (i:=6) h rfl rfl ?_ | refine ld_B (i:=6) h rfl rfl ?_))
      try rw [hfr] at h
      exact hfinal _ _ _ _ _ _ _ _ (hend.trans (by rw [cd];rfl)) _ _ _ h
     ·repeat (first | ((first | refine st_C (i:=0) h rfl rfl rfl fun _ h=>?_ | refine st_C (i:=1) h rfl rfl rfl fun _ h=>?_ | refine st_C (i:=2) h rfl rfl rfl fun _ h=>?_ | refine st_C (i:=3) h rfl rfl rfl fun _ h=>?_ | refine st_C (i:=4) h rfl rfl rfl fun _ h=>?_ | refine st_C (i:=5) h rfl rfl rfl fun _ h=>?_ | refine st_C (i:=6) h rfl rfl rfl fun _ h=>?_);try simp only [List.set_cons_zero,List.set_cons_succ] at h) | (first | refine ld_I (i:=0) h rfl rfl ?_ | refine ld_B (i:=0) h rfl rfl ?_ | refine ld_I (i:=1) h rfl rfl ?_ | refine ld_B (i:=1) h rfl rfl ?_ | refine ld_I (i:=2) h rfl rfl ?_ | refine ld_B (i:=2) h rfl rfl ?_ | refine ld_I (i:=3) h rfl rfl ?_ | refine ld_B (i:=3) h rfl rfl ?_ | refine ld_I (i:=4) h rfl rfl ?_ | refine ld_B (i:=4) h rfl rfl ?_ | refine ld_I (i:=5) h rfl rfl ?_ | refine ld_B (i:=5) h rfl rfl ?_ | refine ld_I (i:=6) h rfl rfl ?_ | refine ld_B (i:=6) h rfl rfl ?_))
      try rw [hfr] at h
      exact hfinal _ _ _ _ _ _ _ _ (hend.trans (by rw [cd];rfl)) _ _ _ h
    ·repeat (first | ((first | refine st_C (i:=0) h rfl rfl rfl fun _ h=>?_ | refine st_C (i:=1) h rfl rfl rfl fun _ h=>?_ | refine st_C (i:=2) h rfl rfl rfl fun _ h=>?_ | refine st_C (i:=3) h rfl rfl rfl fun _ h=>?_ | refine st_C (i:=4) h rfl rfl rfl fun _ h=>?_ | refine st_C (i:=5) h rfl rfl rfl fun _ h=>?_ | refine st_C (i:=6) h rfl rfl rfl fun _ h=>?_);try simp only [List.set_cons_zero,List.set_cons_succ] at h) | (first | refine ld_I (i:=0) h rfl rfl ?_ | refine ld_B (i:=0) h rfl rfl ?_ | refine ld_I (i:=1) h rfl rfl ?_ | refine ld_B (i:=1) h rfl rfl ?_ | refine ld_I (i:=2) h rfl rfl ?_ | refine ld_B (i:=2) h rfl rfl ?_ | refine ld_I (i:=3) h rfl rfl ?_ | refine ld_B (i:=3) h rfl rfl ?_ | refine ld_I (i:=4) h rfl rfl ?_ | refine ld_B (i:=4) h rfl rfl ?_ | refine ld_I (i:=5) h rfl rfl ?_ | refine ld_B (i:=5) h rfl rfl ?_ | refine ld_I (i:=6) h rfl rfl ?_ | refine ld_B (i:=6) h rfl rfl ?_))
     refine May_spec ?_
     refine bsel_in (fun c=>?_) fun c=>⟨h,by simpa using c⟩
     rw [if_neg (by simpa using c)] at hend
     refine fault_spec (j:=3) (.inr (.inl rfl)) h rfl ?_
     subst hend
     exact rec_end h.tail.tail.tail.tail hk
  refine bsel_in (fun c4=>?_) fun c4=>?_
  ·have hlv:lv≠0:=by simp at c4;omega
   refine bsel_in (fun c5=>?_) fun c5=>?_
   ·have hlv1:lv=1:=by simp at c5;omega
    subst hlv1
    refine bsel_in (fun c6=>?_) fun c6=>?_
    ·refine ⟨1,by omega,?_⟩
     exact hgo (by simp at c6;simp [c6]) _ h
    ·have c6:bitZ (le M (placeZ t a 1) 8) 7=true:=by simpa using c6
     exact ⟨.inr ⟨rfl,c6⟩,h⟩
   ·have hlv2:lv≠1:=by intro g;subst g;simp at c5
    exact ⟨lv,by omega,hgo (by omega) _ h⟩
  ·have hlv:lv=0:=by simp at c4;omega
   exact ⟨.inl hlv,h⟩
 ·simp at c3;omega
end Go.Dn
/- What a walk finds in tables whose entries may be marked. -/
namespace Go.Dn
variable {A:AH} {l R:List SP} {r b:Nat} {fr root:Int} {hs:List (Int × Int)} {W:Int→Int→Int} {M:Int→Int} {tab:Tab} {lf:Int→Option Lf} {a t p:Int} {aw au af w u x:Bool} {lv:Nat} {ps:List Int}
theorem resvd_pack {b0 b1 b2 b3 b4 b5 b6 b7:Bool} {f lev:Int} (hf:0≤f∧f<1048576) (h:b5=false∨lev=2∧f % 512=0):resvd (packZ b0 b1 b2 b3 b4 b5 b6 b7 f) lev=false:=by
 have hb:=pack_bits b0 b1 b2 b3 b4 b5 b6 b7 hf
 have e32:packZ b0 b1 b2 b3 b4 b5 b6 b7 f / 2 ^ 32 % 1048576=0:=by
  rw [show ((2:Int) ^ 32)=4294967296 by rfl]
  unfold packZ
  have h0:=eZ_b b0
  have h1:=eZ_b b1
  have h2:=eZ_b b2
  have h3:=eZ_b b3
  have h4:=eZ_b b4
  have h5:=eZ_b b5
  have h6:=eZ_b b6
  have h7:=eZ_b b7
  omega
 have e12:f % 512=0→packZ b0 b1 b2 b3 b4 b5 b6 b7 f / 2 ^ 12 % 512=0:=fun hz=>by
  rw [show ((2:Int) ^ 12)=4096 by rfl]
  unfold packZ
  have h0:=eZ_b b0
  have h1:=eZ_b b1
  have h2:=eZ_b b2
  have h3:=eZ_b b3
  have h4:=eZ_b b4
  have h5:=eZ_b b5
  have h6:=eZ_b b6
  have h7:=eZ_b b7
  omega
 unfold resvd
 rw [e32,hb.2.2.2.2.2.1]
 rcases h with h | ⟨h,hz⟩
 ·subst h;simp
 ·subst h;rw [e12 hz];simp
def Wd8 (W:Int→Int→Int) (M:Int→Int):Prop:=∀ t i,0≤t→0≤i→i<512→W t i=le M (t*4096+8*i) 8
theorem place_word (h:Wd8 W M) {t:Int} {lv:Nat} (ht:0≤t):le M (placeZ t a lv) 8=W t (partZ a (12+9*lv)):=by
 unfold placeZ
 have:0≤partZ a (12+9*lv)∧partZ a (12+9*lv)<512:=by unfold partZ;omega
 rw [h t _ ht this.1 this.2]
theorem part_at (ha:a / 4096=p):partZ a (12+9*3)=atP p 0∧partZ a (12+9*2)=atP p 1∧partZ a (12+9*1)=atP p 2∧partZ a (12+9*0)=atP p 3:=by
 subst ha
 unfold partZ
 simp only [atP]
 omega
theorem part_lv (ha:a / 4096=p) {lv:Nat} (hl:lv<4):partZ a (12+9*lv)=atP p (3-lv):=by
 obtain ⟨h3,h2,h1,h0⟩:=part_at ha
 obtain rfl | rfl | rfl | rfl:lv=0∨lv=1∨lv=2∨lv=3:=by omega
 ·exact h0
 ·exact h1
 ·exact h2
 ·exact h3
def lowM (o:Option Lf) (d aw au af:Bool) (ps:List Int):WOut:=match o with
 | none=>.fault (codeZ aw au af)
 | some l=>if mayZ l.w l.u l.x aw au af=true then .ok l.frame l.w l.u l.x false false (d || aw) ps else .fault (1+codeZ aw au af)
theorem bit_zero (k:Nat):bitZ 0 k=false:=by unfold bitZ;simp
theorem walk_stepM (hW:Wd8 W M) (hT:TabW W root tab lf) (hhas:∀ k q f,tab k q=some f→hasF fr hs f=true) (hp:0≤p∧p<34359738368) (ha:a / 4096=p) {k lv:Nat} (hk:k+lv=3) (hl:1≤lv) {t:Int} (ht:tab k (preP p k)=some t) (ps:List Int) :
  (tab (k+1) (preP p (k+1))=none→walkL fr hs M a aw au af (lv+1) t true true true ps = .fault (codeZ aw au af))∧
  (∀ g,tab (k+1) (preP p (k+1))=some g→walkL fr hs M a aw au af (lv+1) t true true true ps=walkL fr hs M a aw au af lv g true true true (ps++[placeZ t a lv])∧W t (partZ a (12+9*lv))≠0):=by
 obtain ⟨e1,e2,e3,e4,e5⟩:=preP_succ hp (k:=k) (by omega)
 have hr:=hT.range _ _ _ ht
 have hw:=hT.words k _ t (by omega) ht (atP p k) e2 e3 e4
 rw [←e1] at hw
 have hpl:partZ a (12+9*lv)=atP p k:=by rw [part_lv ha (by omega),show 3-lv=k by omega]
 have hle:le M (placeZ t a lv) 8=W t (atP p k):=by rw [place_word hW hr.1,hpl]
 refine ⟨fun hn=>?_,fun g hg=>?_⟩
 ·rw [hn] at hw
  have hw:W t (atP p k)=0:=hw
  exact walkL_f0 (hhas _ _ _ ht) (by rw [hle,hw];rfl)
 ·rw [hg] at hw
  obtain ⟨b3,b4,hw⟩:=hw
  have hgr:=hT.range _ _ _ hg
  obtain ⟨q0,q1,q2,_,_,q7,_,q63,qf,_⟩:=pack_bits true true true b3 b4 false false false hgr
  have e:le M (placeZ t a lv) 8=packZ true true true b3 b4 false false false g:=by rw [hle,hw]
  refine ⟨?_,fun z=>?_⟩
  ·rw [walkL_go (hhas _ _ _ ht) (by rw [e];exact q0) (by rw [e];exact resvd_pack hgr (.inl rfl)) (by rw [e,q7];rintro (z | ⟨_,z⟩);omega;cases z),e,q1,q2,q63,qf]
   rfl
  ·rw [hpl,hw] at z
   rw [z] at q0
   simp [bit_zero] at q0
def PlM (W:Int→Int→Int) (tab:Tab) (ps:List Int):Prop:=ps.Nodup∧ps.length≤4∧∀ pl ∈ ps,∃ k q t i,tab k q=some t∧pl=t*4096+8*i∧(0≤i∧i<512)∧W t i≠0
theorem place_ne {t g a:Int} {lv lv':Nat} (h:t≠g):placeZ t a lv≠placeZ g a lv':=by
 unfold placeZ partZ
 omega
theorem walk_lowM (hW:Wd8 W M) (hT:TabW W root tab lf) (hhas:∀ k q f,tab k q=some f→hasF fr hs f=true) (hp:0≤p∧p<34359738368) (ha:a / 4096=p) :
  ∃ d ps,walkL fr hs M a aw au af 4 root true true true []=lowM (lf p) d aw au af ps∧(lf p≠none→PlM W tab ps):=by
 have t0:tab 0 (preP p 0)=some root:=(hT.root 0 root).2 ⟨rfl,rfl⟩
 have none_:(∃ k,k<4∧tab k (preP p k)=none)→lf p=none:=fun ⟨k,hk,hn⟩=>by
  cases e:lf p with
  | none=>rfl
  | some x=>exact absurd hn (hT.chain hp e k hk)
 obtain ⟨n1,s1⟩:=walk_stepM (aw:=aw) (au:=au) (af:=af) hW hT hhas hp ha (k:=0) (lv:=3) rfl (by omega) t0 []
 cases h1:tab 1 (preP p 1) with
 | none=>exact ⟨false,[],by rw [n1 h1,none_ ⟨1,by omega,h1⟩];rfl,fun z=>absurd (none_ ⟨1,by omega,h1⟩) z⟩
 | some g1=>
  rw [(s1 g1 h1).1]
  obtain ⟨n2,s2⟩:=walk_stepM (aw:=aw) (au:=au) (af:=af) hW hT hhas hp ha (k:=1) (lv:=2) rfl (by omega) h1 ([]++[placeZ root a 3])
  cases h2:tab 2 (preP p 2) with
  | none=>exact ⟨false,[],by rw [n2 h2,none_ ⟨2,by omega,h2⟩];rfl,fun z=>absurd (none_ ⟨2,by omega,h2⟩) z⟩
  | some g2=>
   rw [(s2 g2 h2).1]
   obtain ⟨n3,s3⟩:=walk_stepM (aw:=aw) (au:=au) (af:=af) hW hT hhas hp ha (k:=2) (lv:=1) rfl (by omega) h2 ([]++[placeZ root a 3]++[placeZ g1 a 2])
   cases h3:tab 3 (preP p 3) with
   | none=>exact ⟨false,[],by rw [n3 h3,none_ ⟨3,by omega,h3⟩];rfl,fun z=>absurd (none_ ⟨3,by omega,h3⟩) z⟩
   | some g3=>
    rw [(s3 g3 h3).1]
    obtain ⟨e1,e2,e3,e4,e5⟩:=preP_succ hp (k:=3) (by omega)
    have hr:=hT.range _ _ _ h3
    have hw:=hT.leaves _ g3 h3 (atP p 3) e2 e3
    rw [←e1] at hw
    have hpl:partZ a (12+9*0)=atP p 3:=part_lv ha (by omega)
    have hle:le M (placeZ g3 a 0) 8=W g3 (atP p 3):=by rw [place_word hW hr.1,hpl]
    have e4:preP p (3+1)=p:=rfl
    rw [e4] at hw
    cases hl:lf p with
    | none=>
     rw [hl] at hw
     have hw:W g3 (atP p 3)=0:=hw
     exact ⟨false,[],by rw [walkL_f0 (lv:=0) (hhas _ _ _ h3) (by rw [hle,hw];rfl)];rfl,fun z=>absurd rfl z⟩
    | some x=>
     rw [hl] at hw
     obtain ⟨b3,b4,hw⟩:=hw
     have hx:=hT.rangeL _ _ hl
     obtain ⟨q0,q1,q2,_,q6,q7,q8,q63,qf,_⟩:=pack_bits true x.w x.u b3 b4 false false (!x.x) hx
     have e:le M (placeZ g3 a 0) 8=packZ true x.w x.u b3 b4 false false (!x.x) x.frame:=by rw [hle,hw]
     refine ⟨b4,[]++[placeZ root a 3]++[placeZ g1 a 2]++[placeZ g2 a 1]++[placeZ g3 a 0],?_,fun _=>?_⟩
     ·rw [walkL_end (lv:=0) (hhas _ _ _ h3) (by rw [e];exact q0) (by rw [e];exact resvd_pack hx (.inl rfl)) (.inl rfl),e,q1,q2,q63,qf,q6,q8]
      simp only [Bool.true_and,Bool.not_not]
      rfl
     ·have d01:root≠g1:=fun z=>by have:=(hT.apart 0 _ 1 _ root t0 (by rw [z];exact h1)).1;omega
      have d02:root≠g2:=fun z=>by have:=(hT.apart 0 _ 2 _ root t0 (by rw [z];exact h2)).1;omega
      have d03:root≠g3:=fun z=>by have:=(hT.apart 0 _ 3 _ root t0 (by rw [z];exact h3)).1;omega
      have d12:g1≠g2:=fun z=>by have:=(hT.apart 1 _ 2 _ g1 h1 (by rw [z];exact h2)).1;omega
      have d13:g1≠g3:=fun z=>by have:=(hT.apart 1 _ 3 _ g1 h1 (by rw [z];exact h3)).1;omega
      have d23:g2≠g3:=fun z=>by have:=(hT.apart 2 _ 3 _ g2 h2 (by rw [z];exact h3)).1;omega
      have pr:∀ n,0≤partZ a n∧partZ a n<512:=fun n=>by unfold partZ;omega
      refine ⟨?_,by simp,fun pl hpl'=>?_⟩
      ·simp [place_ne d01,place_ne d02,place_ne d03,place_ne d12,place_ne d13,place_ne d23]
      ·simp only [List.nil_append,List.cons_append,List.mem_cons,List.not_mem_nil,or_false] at hpl'
       rcases hpl' with rfl | rfl | rfl | rfl
       ·exact ⟨0,_,root,_,t0,rfl,pr _,(s1 g1 h1).2⟩
       ·exact ⟨1,_,g1,_,h1,rfl,pr _,(s2 g2 h2).2⟩
       ·exact ⟨2,_,g2,_,h2,rfl,pr _,(s3 g3 h3).2⟩
       ·refine ⟨3,_,g3,_,h3,rfl,pr _,fun z=>?_⟩
        rw [hpl,hw] at z
        rw [z] at q0
        simp [bit_zero] at q0
end Go.Dn
/- Numbers of one, two, four, eight bytes in a memory of words. -/
namespace Go.Dn
variable {A:AH} {l R:List SP} {r:Nat} {fr root:Int} {hs:List (Int × Int)} {M:Int→Int} {W:Int→Int→Int} {tab:Tab} {lf:Int→Option Lf}
theorem le_app (M:Int→Int):∀ (m n:Nat) (a:Int),le M a (m+n)=le M a m+256 ^ m*le M (a+m) n
 | 0,n,a=>by simp [le]
 | m+1,n,a=>by
  rw [show m+1+n=(m+n)+1 by omega]
  show M a+256*le M (a+1) (m+n)=M a+256*le M (a+1) m+256 ^ (m+1)*le M (a+((m+1:Nat):Int)) n
  rw [le_app M m n (a+1),Int.pow_succ,show a+1+(m:Int)=a+((m+1:Nat):Int) by omega,Int.mul_add,Int.add_assoc,Int.mul_comm (256 ^ m:Int) 256,Int.mul_assoc]
theorem le_st (M:Int→Int) (a x:Int) (n:Nat):le (stM M a n x) a n=x % 256 ^ n:=by
 have:=le_bytes x n 0 (stM M a n x) a fun j hj=>by
  unfold stM
  rw [if_pos ⟨by omega,by omega⟩,show (a+(j:Int)-a).toNat=0+j by omega]
 rw [this]
 simp
def getB (w:Int) (k n:Nat):Int:=w / 256 ^ k % 256 ^ n
def putB (w:Int) (k n:Nat) (x:Int):Int:=w % 256 ^ k+256 ^ k*(x % 256 ^ n)+256 ^ (k+n)*(w / 256 ^ (k+n))
theorem p256 (n:Nat):(0:Int)<256 ^ n:=Int.pow_pos (by omega)
theorem le_cut {M:Int→Int} (hb:∀ a,0≤M a∧M a<256) (k m:Nat) (a:Int):le M a k=le M a (k+m) % 256 ^ k∧le M (a+k) m=le M a (k+m) / 256 ^ k:=by
 have h:=le_app M k m a
 have h1:=le_bound hb k a
 rw [h]
 refine ⟨?_,?_⟩
 ·rw [Int.add_mul_emod_self_left,Int.emod_eq_of_lt h1.1 h1.2]
 ·rw [Int.add_mul_ediv_left _ _ (by have:=p256 k;omega),Int.ediv_eq_zero_of_lt h1.1 h1.2,Int.zero_add]
theorem le_part {M:Int→Int} (hb:∀ a,0≤M a∧M a<256) {k n:Nat} (h:k+n≤8) (a:Int):le M (a+k) n=getB (le M a 8) k n:=by
 obtain ⟨m,hm⟩:∃ m,8=k+(n+m):=⟨8-k-n,by omega⟩
 unfold getB
 rw [hm,← (le_cut hb k (n+m) a).2,← (le_cut hb n m (a+k)).1]
theorem le_put {M:Int→Int} (hb:∀ a,0≤M a∧M a<256) {k n:Nat} (h:k+n≤8) (a x:Int):le (stM M (a+k) n x) a 8=putB (le M a 8) k n x:=by
 obtain ⟨m,hm⟩:∃ m,8=k+n+m:=⟨8-k-n,by omega⟩
 unfold putB
 rw [hm,le_app _ (k+n) m a,le_app _ k n a,le_apart M (a+k) a x n k (by omega),le_st,le_apart M (a+k) (a+((k+n:Nat):Int)) x n m (by omega)]
 rw [(le_cut hb (k+n) m a).2]
 have e:=(le_cut hb k (n+m) a).1
 rw [show k+(n+m)=k+n+m by omega] at e
 rw [e]
theorem RamW.byte (h:Own (RamS r fr hs M::R) A):∀ a,0≤M a∧M a<256:=RamS.byte (i:=0) h rfl
theorem okA_part {t o:Int} {n:Nat} (hn:n=1∨n=2∨n=4∨n=8) (ho:0≤o∧o<4096) (hd:o % n=0):okA fr hs (t*4096+o) n=hasF fr hs t:=by
 have h1:(t*4096+o) / 4096=t:=by omega
 have h2:(t*4096+o+n-1) / 4096=t:=by rcases hn with rfl | rfl | rfl | rfl<;>omega
 unfold okA
 rw [h1,h2]
 cases h:hasF fr hs t with
 | false=>simp
 | true=>
  have:t<fr:=by
   unfold hasF at h
   simp at h
   omega
  simp
  rcases hn with rfl | rfl | rfl | rfl<;>omega
theorem LoadB_head {t o:Int} {n:Nat} {Q:Int→Int→AH→Prop} (h:Own (RamW r fr hs W::R) A) (ht:hasF fr hs t=true) (hn:n=1∨n=2∨n=4∨n=8) (ho:0≤o∧o<4096) (hd:o % n=0)
  (hk:Q (getB (W t (o / 8)) (o % 8).toNat n) 0 A):qdk_A (some ⟨r,0,none⟩) (t*4096+o) n Q A:=by
 obtain ⟨M,⟨h1,h2⟩,hh⟩:=RamW.openH h
 have hr:=has_range ht h1.hi
 have hfr:=h1.hi
 refine Load_spec (i:=0) hh rfl h1.holes ⟨h1.lo,h1.hi⟩ hn ⟨by omega,by omega⟩ ?_
 rw [okA_part hn ho hd,ht]
 simp only [↓reduceIte]
 have e:=le_part (RamW.byte hh) (k:=(o % 8).toNat) (n:=n) (by rcases hn with rfl | rfl | rfl | rfl<;>omega) (t*4096+8*(o / 8))
 rw [show t*4096+8*(o / 8)+(((o % 8).toNat:Nat):Int)=t*4096+o by omega] at e
 rw [e]
 rw [h2 t (o / 8) hr.1 (by omega) (by omega)] at hk
 exact hk
theorem StoreB_head {t o x:Int} {n:Nat} {Q:Int→AH→Prop} (h:Own (RamW r fr hs W::R) A) (ht:hasF fr hs t=true) (hn:n=1∨n=2∨n=4∨n=8) (ho:0≤o∧o<4096) (hd:o % n=0)
  (hk:∀ A',Own (RamW r fr hs (setW W t (o / 8) (putB (W t (o / 8)) (o % 8).toNat n x))::R) A'→Q 0 A'):qbp_A (some ⟨r,0,none⟩) (t*4096+o) n x Q A:=by
 obtain ⟨M,⟨h1,h2⟩,hh⟩:=RamW.openH h
 have hb:=RamW.byte hh
 have hr:=has_range ht h1.hi
 have hfr:=h1.hi
 refine Store_spec hh h1.holes ⟨h1.lo,h1.hi⟩ hn ⟨by omega,by omega⟩ (fun q=>by rw [okA_part hn ho hd,ht] at q;cases q) fun _ A' hA=>hk A' (RamW.closeH h1 (fun t' i' q1 q2 q3=>?_) hA)
 have hk8:(o % 8).toNat+n≤8:=by rcases hn with rfl | rfl | rfl | rfl<;>omega
 unfold setW
 split
 ·rename_i g
  obtain ⟨rfl,rfl⟩:=g
  unfold wordAt
  have e:=le_put hb hk8 (t'*4096+8*(o / 8)) x
  rw [show t'*4096+8*(o / 8)+(((o % 8).toNat:Nat):Int)=t'*4096+o by omega] at e
  rw [e,h2 t' (o / 8) hr.1 (by omega) (by omega)]
  rfl
 ·rename_i g
  rw [h2 t' i' q1 q2 q3]
  unfold wordAt
  refine (le_apart M _ _ x n 8 ?_).symm
  by_cases e:t'=t
  ·subst e
   have:i'≠o / 8:=fun q=>g ⟨rfl,q⟩
   omega
  ·omega
end Go.Dn
/- A walk that finds a page: in a memory of words. -/
namespace Go.Dn
variable {A:AH} {l R:List SP} {r:Nat} {fr root:Int} {hs:List (Int × Int)} {W:Int→Int→Int} {tab:Tab} {lf:Int→Option Lf} {tl:List Int} {G:Int→Prop}
theorem canon_low {a:Int} (h:0≤a∧a<140737488355328):canonZ a=true:=by
 unfold canonZ
 simp
 omega
theorem WalkW_spec {a p:Int} {x:Lf} {aw au af:Bool} {Q:WQ} (h:Own (RamW r fr hs W::R) A) (hR:Rest G W root tab lf tl) (hhas:∀ f ∈ tl,hasF fr hs f=true) (ha:0≤a∧a<140737488355328) (hp:a / 4096=p)
  (hl:lf p=some x) (hmay:mayZ x.w x.u x.x aw au af=true)
  (hk:∀ d W' A',MarkW W W'→(∀ t,t ∉ tl→W' t=W t)→Own (RamW r fr hs W'::R) A'→Q x.frame x.w x.u x.x false false d 0 0 0 A') :
  qdy_A (some ⟨r,0,none⟩) root a aw au af Q A:=by
 obtain ⟨M,⟨h1,h2⟩,hh⟩:=RamW.openH h
 have hb:=RamW.byte hh
 have hp2:0≤p∧p<34359738368:=by omega
 have hhas':∀ k q f,tab k q=some f→hasF fr hs f=true:=fun k q f e=>hhas f ((hR.mem f).2 ⟨k,q,e⟩)
 have hroot:tab 0 0=some root:=(hR.T.root 0 root).2 ⟨rfl,rfl⟩
 obtain ⟨d,ps,e,hps⟩:=walk_lowM (aw:=aw) (au:=au) (af:=af) (a:=a) (M:=M) (fun t i t0 i0 i1=>h2 t i t0 i0 i1) hR.T hhas' hp2 hp
 obtain ⟨nd,hlen,hpl⟩:=hps (by rw [hl];simp)
 refine Walk_spec (i:=0) hh rfl h1.holes ⟨h1.lo,h1.hi⟩ ⟨by omega,by omega⟩ ?_
 have e2:walkZ fr hs M root a aw au af = .ok x.frame x.w x.u x.x false false (d || aw) ps:=by
  unfold walkZ
  rw [canon_low ha,hhas' 0 0 root hroot,e,hl]
  simp [lowM,hmay]
 rw [e2]
 have hpl':∀ p ∈ ps,∃ t i,p=t*4096+8*i∧0≤i∧i<512∧wordAt M t i≠0:=fun q hq=>by
  obtain ⟨k,q',t,i,f1,f2,⟨f3,f4⟩,f5⟩:=hpl q hq
  refine ⟨t,i,f2,f3,f4,?_⟩
  rw [←h2 t i (hR.T.range _ _ _ f1).1 f3 f4]
  exact f5
 obtain ⟨m1,m2,m3⟩:=markL_words (wr:=aw) ps M hb nd hpl'
 intro A' hA
 refine hk (d || aw) (fun t i=>if 0≤t∧0≤i∧i<512 then wordAt (markL M aw ps) t i else W t i) A' ?_ ?_ (RamW.closeH h1 (fun t i q1 q2 q3=>by rw [if_pos ⟨q1,q2,q3⟩]) hA)
 ·intro f j j0 j1
  by_cases f0:0≤f
  ·have:=m2 f j j0 j1
   rw [h2 f j f0 j0 j1]
   have e:(if 0≤f∧0≤j∧j<512 then wordAt (markL M aw ps) f j else W f j)=wordAt (markL M aw ps) f j:=if_pos ⟨f0,j0,j1⟩
   simp only [e]
   exact this
  ·left
   exact if_neg (by omega)
 ·intro t ht
  funext i
  show (if 0≤t∧0≤i∧i<512 then wordAt (markL M aw ps) t i else W t i)=W t i
  split
  ·rename_i g
   rw [h2 t i g.1 g.2.1 g.2.2]
   refine m3 t i g.2.1 g.2.2 fun hm=>?_
   obtain ⟨k,q',t',i',f1,f2,⟨f3,f4⟩,_⟩:=hpl _ hm
   have:t=t':=by omega
   subst this
   exact ht ((hR.mem t).2 ⟨k,q',f1⟩)
  ·rfl
theorem Rest.mark {W':Int→Int→Int} (hR:Rest G W root tab lf tl) (hm:MarkW W W'):Rest G W' root tab lf tl:=⟨hR.T.mark hm,hR.pr,hR.low,hR.nd,hR.mem,hR.inG⟩
end Go.Dn
/- Parts of numbers, put together by bits. -/
namespace Go.Dn
end Go.Dn
