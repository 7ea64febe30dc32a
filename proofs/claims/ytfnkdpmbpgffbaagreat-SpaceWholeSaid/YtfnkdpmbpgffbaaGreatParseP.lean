/- bootmap.Parse: what it answers, walked with the kit. -/
import Derived.Test.YtfnkdpmbpgffbaaGreatParseK
import Derived.RangeFuncFrom
import Derived.RangeFuncNested
namespace Go.Dn
open Go Go.RowKit Go.Shelf Go.Proofs
attribute [local go_sem] Oper.semAt_some
theorem uK {n₀:Nat} {W:World} (q:Nat):Below n₀ W (W.drewN q):=⟨rfl,rfl,rfl,Nat.le_refl _,λ_ _=>rfl⟩
theorem Tryz.info254:(Tryz.prog.info? 254).map (λi=>(i.zero,i.size,i.bytes))=some (some (.agg #[.int .u64 0,.int .u64 0,.int .u32 0]),3,24):=by kernel_rfl
def wY:Value:=.slice none 0 0
def oK (bs:List Int) (w:World) (e:Ending) (W':World):Prop:=Below w.heap.size w W'/\
 ∃ v k,e = .returned (.tuple #[v,.int .i64 k])/\
  ((1280<bs.length/\v=wY/\k=4)\/(bs.length<=1280/\bs.length % 20≠0/\v=wY/\k=14)\/
   (bs.length<=1280/\bs.length % 20=0/\(∃ i,i<bs.length / 20/\¬ areaOK (areaZ bs i))/\v=wY/\k=3)\/
   (bs.length<=1280/\bs.length % 20=0/\(∀ i,i<bs.length / 20->areaOK (areaZ bs i))/\W'.ownsRow w.heap.size 254 3 v (bs.length / 20) ((lA (bs.length / 20)).flatMap λi=>fJ (areaZ bs i))/\(v=wY↔bs.length / 20=0)/\k=0))
set_option maxRecDepth 100000 in
set_option maxHeartbeats 2000000 in
theorem aFN (n:Nat) (a:Option Addr) (c:Nat) (d:List Int) (b:1280<d.length) (w:World) :
  CallsIn Fence.wide n Tryz.prog 123 #[.slice a d.length c] w (oK d w):=by
 have e1:(1280:Int)<(d.length:Int):=by omega
 refine callsIn_of_wp_marks Tryz.func123 rfl trivial ?_ rfl;simp only [Tryz.ntmps123,List.size_toArray,List.length_cons,List.length_nil,Nat.reduceAdd,Nat.reduceSub,Array.replicate_succ,Array.replicate_zero,List.push_toArray,List.append_toArray,List.nil_append,List.cons_append]
 gi_wp2
 have f:=Boxed.new w 250 (.slice none 0 0);have e:=Boxed.new (w.alloc (.cells #[.slice none 0 0] 250)) 54 (.int .i64 4);rw [World.size_alloc] at e;have c2:=(f.alloc (.cells #[.int .i64 4] 54)).cell;have g:=e.cell;refine ⟨.tuple #[wY,.int .i64 4],?_,?_⟩
 .simp [results,Tryz.f123,go_sem,c2,g,wY]
 .exact ⟨((Below.refl _ w).alloc (Nat.le_refl _) _).alloc (by simp) _,_,_,rfl,.inl ⟨b,rfl,rfl⟩⟩
set_option maxRecDepth 100000 in
set_option maxHeartbeats 2000000 in
theorem aGu (n:Nat) (a:Option Addr) (c:Nat) (b:List Int) (d:b.length<=1280) (e:b.length % 20≠0) (w:World) :
  CallsIn Fence.wide n Tryz.prog 123 #[.slice a b.length c] w (oK b w):=by
 have e1:¬ (1280:Int)<(b.length:Int):=by omega
 have i:¬ Int.tmod (b.length:Int) 20=0:=by rw [Int.tmod_eq_emod_of_nonneg (by omega)];omega
 refine callsIn_of_wp_marks Tryz.func123 rfl trivial ?_ rfl;simp only [Tryz.ntmps123,List.size_toArray,List.length_cons,List.length_nil,Nat.reduceAdd,Nat.reduceSub,Array.replicate_succ,Array.replicate_zero,List.push_toArray,List.append_toArray,List.nil_append,List.cons_append]
 gi_wp2
 have g:=Boxed.new w 250 (.slice none 0 0);have f:=Boxed.new (w.alloc (.cells #[.slice none 0 0] 250)) 54 (.int .i64 14);rw [World.size_alloc] at f;have c2:=(g.alloc (.cells #[.int .i64 14] 54)).cell;have h:=f.cell;refine ⟨.tuple #[wY,.int .i64 14],?_,?_⟩
 .simp [results,Tryz.f123,go_sem,c2,h,wY]
 .exact ⟨((Below.refl _ w).alloc (Nat.le_refl _) _).alloc (by simp) _,_,_,rfl,.inr (.inl ⟨d,e,rfl,rfl⟩)⟩
theorem aNG {n₀:Nat} {w W:World} {o:Obj} {k:Nat} (h:Below n₀ w W) (a:n₀+1+k<W.heap.size):Below n₀ w (W.alloc o).drew:=((h.alloc (by omega) o)).trans (uK 1)
theorem aDV {a:List Int} (b:∀ x ∈ a,0<=x/\x<256) (k:Nat):IntKind.u32.wrap (areaZ a k).2.2=(areaZ a k).2.2:=by
 obtain ⟨f,c⟩:=pE ((a.drop (20*k+16)).take 4) (λy d=>b y (List.mem_of_mem_drop (List.mem_of_mem_take d)));have e:(256:Int) ^ ((a.drop (20*k+16)).take 4).length<=256 ^ 4:=aHv (by simp;omega);show IntKind.u32.wrap (mG ((a.drop (20*k+16)).take 4))=mG ((a.drop (20*k+16)).take 4);have g:mG ((a.drop (20*k+16)).take 4)<4294967296:=Int.lt_of_lt_of_le c e;simp [IntKind.wrap,IntKind.bits,IntKind.signed];omega
theorem aFJ (W:World) (cs:List Value) (e:TypeId) (j:Nat) (u:Value) (h:cs[j]? = some u):(W.alloc (.cells cs.toArray e)).cell? (Addr.add ⟨W.heap.size,0,none⟩ j)=some u:=by
 rw [add_at];have a:(W.alloc (.cells cs.toArray e)).heap[W.heap.size]? = some (.cells cs.toArray e):=World.alloc_heap_new W _;simp only [World.cell?,a,Nat.zero_add];simpa using h
set_option maxRecDepth 100000 in
set_option maxHeartbeats 2000000 in
theorem pN (n:Nat) (hn:3<=n) (a:Option Addr) (b o c m:Nat) (bs:List Int) (hlen:bs.length=20*m) (hm:m<=64) (ha:0<m->a=some ⟨b,o,none⟩) (hcap:20*m<=c) (hb:∀ x ∈ bs,0<=x/\x<256) (w:World)
  (hc:∀ j,j<bs.length->w.cell? ⟨b,o+j,none⟩=some (.int .u8 (bs[j]?.getD 0))) (hblk:0<m->b<w.heap.size) :
  CallsIn Fence.wide n Tryz.prog 123 #[.slice a (20*m) c] w (oK bs w):=by
 obtain ⟨i0,hi,hz0,hz1,hz2⟩:=info_parts Tryz.info254;have e1:¬ (1280:Int)<20*(m:Int):=by omega
 have e2:Int.tmod (20*(m:Int)) 20=0:=by rw [Int.tmod_eq_emod_of_nonneg (by omega)];omega
 have h1:1<=n:=by omega
 have hF23:Fence.wide.fn 166:=trivial;refine callsIn_of_wp_marks Tryz.func123 rfl trivial ?_ rfl;simp only [Tryz.ntmps123,List.size_toArray,List.length_cons,List.length_nil,Nat.reduceAdd,Nat.reduceSub,Array.replicate_succ,Array.replicate_zero,List.push_toArray,List.append_toArray,List.nil_append,List.cons_append]
 gi_wp2_with (gi_at_call 166;refine (aHU (n-1) _ _ _ _).mono ?_;rintro e w' ⟨rfl,rfl⟩)
 obtain ⟨w5,hw5⟩:∃ w5,(((((w.alloc (Obj.cells #[Value.slice none 0 0] 250)).alloc (Obj.cells #[Value.int IntKind.i64 0] 54)).alloc (Obj.cells #[Value.slice none 0 0] 250)).alloc (Obj.cells #[Value.slice a (20*m) c] 85)).alloc (Obj.cells #[Value.int IntKind.i64 20] 3))=w5:=⟨_,rfl⟩
 have h2:Boxed w5 w.heap.size 250 (.slice none 0 0):=by
  rw [<-hw5];exact ((((Boxed.new w 250 (.slice none 0 0)).alloc _).alloc _).alloc _).alloc _
 have h3:Boxed w5 (w.heap.size+1) 54 (.int .i64 0):=by
  have h:=Boxed.new (w.alloc (.cells #[.slice none 0 0] 250)) 54 (.int .i64 0);simp only [World.size_alloc] at h;rw [<-hw5];exact ((h.alloc _).alloc _).alloc _
 have h4:Boxed w5 (w.heap.size+1+1) 250 (.slice none 0 0):=by
  have h:=Boxed.new ((w.alloc (.cells #[.slice none 0 0] 250)).alloc (.cells #[.int .i64 0] 54)) 250 (.slice none 0 0);simp only [World.size_alloc] at h;rw [<-hw5];exact (h.alloc _).alloc _
 have h5:Boxed w5 (w.heap.size+1+1+1) 85 (.slice a (20*m) c):=by
  have h:=Boxed.new (((w.alloc (.cells #[.slice none 0 0] 250)).alloc (.cells #[.int .i64 0] 54)).alloc (.cells #[.slice none 0 0] 250)) 85 (.slice a (20*m) c);simp only [World.size_alloc] at h;rw [<-hw5];exact h.alloc _
 have h6:Boxed w5 (w.heap.size+1+1+1+1) 3 (.int .i64 20):=by
  have h:=Boxed.new ((((w.alloc (.cells #[.slice none 0 0] 250)).alloc (.cells #[.int .i64 0] 54)).alloc (.cells #[.slice none 0 0] 250)).alloc (.cells #[.slice a (20*m) c] 85)) 3 (.int .i64 20);simp only [World.size_alloc] at h;rw [<-hw5];exact h
 have hsz:w5.heap.size=w.heap.size+1+1+1+1+1:=by rw [<-hw5];simp
 have hB0:Below w.heap.size w w5:=by
  rw [<-hw5];exact (((((Below.refl _ w).alloc (Nat.le_refl _) _).alloc (by simp) _).alloc (by simp;omega) _).alloc (by simp;omega) _).alloc (by simp;omega) _
 rw [hw5];clear hw5;obtain ⟨n₀,hn₀⟩:∃ n₀,w.heap.size=n₀:=⟨_,rfl⟩;rw [hn₀] at h2 h3 h4 h5 h6 hsz hB0 hblk ⊢;have hne:∀ i:Fin m,(fJ (areaZ bs i.val)).length=3:=λ_=>rfl
 refine wpIn_rangeFunc_ownF rfl h1 (gf:=190) (lb:=#[.pointer (some ⟨n₀+1+1+1,0,none⟩),.pointer (some ⟨n₀+1+1+1+1,0,none⟩)]) rfl trivial (enters_of Tryz.func190 (by kernel_rfl) rfl)
  (aC0 (n-1) (by omega) (n₀+1+1+1) (n₀+1+1+1+1) b o m c a ha hm hcap w5 (by omega) (by omega) h5.cell h6.cell) (λh k=>h.trans k)
  (λW l o o' hl _ _ _=>⟨World.putObj_heap_other (by omega),World.putObj_heap_other (by omega)⟩) (Below.refl _ _) (λ_=>rfl)
  (λpre W=>(∃ v,Boxed W (n₀+1+1) 250 v/\W.ownsRow n₀ 254 3 v pre.length (pre.flatMap λi:Fin m=>fJ (areaZ bs i.val))/\(v = .slice none 0 0↔pre=[]))/\(∀ i ∈ pre,areaOK (areaZ bs i.val))/\Boxed W n₀ 250 (.slice none 0 0)/\Boxed W (n₀+1) 54 (.int .i64 0)/\
   Boxed W (n₀+1+1+1) 85 (.slice a (20*m) c)/\Boxed W (n₀+1+1+1+1) 3 (.int .i64 20)/\Below n₀ w W)
  (λe pre W=>(e = .ret/\∃ i ∈ pre,¬ areaOK (areaZ bs i.val))/\Boxed W n₀ 250 (.slice none 0 0)/\Boxed W (n₀+1) 54 (.int .i64 3)/\Below n₀ w W)
  ?own ?ownx ?start
  (λx=>{ tmps:=#[Value.slice a (20*m) c,undef,Value.pointer (some { block:=n₀,off:=0 }),Value.pointer (some { block:=n₀+1,off:=0 }),Value.pointer (some { block:=n₀+1+1,off:=0 }),wZ b o x.val,undef,Value.slice a (20*m) c,
     Value.int IntKind.i64 (20*(m:Int)),Value.bool false,Value.slice a (20*m) c,Value.int IntKind.i64 (20*(m:Int)),Value.int IntKind.i64 0,Value.bool false,Value.slice a (20*m) c,
     Value.func (Fn.func 190) #[] #[Value.pointer (some { block:=n₀+1+1+1,off:=0 }),Value.pointer (some { block:=n₀+1+1+1+1,off:=0 })],
     wZ b o x.val,undef,undef,undef,undef,undef,undef,undef,undef,undef,undef,undef,undef,undef,undef,undef,undef,undef,undef,undef,undef,undef,undef,undef,undef],defers:=[] }) ?assign ?body ?done ?stop
 case own=>
  refine OwnFrom.and (Own.from (holdsRow_own n₀ (n₀+1+1) 250 254 3 (λpre:List (Fin m)=>pre.length) (λpre=>pre.flatMap λi=>fJ (areaZ bs i.val)) (λpre v=>v = .slice none 0 0↔pre=[])) _)
   (OwnFrom.and (λs A B row hs _ _=>hs) (OwnFrom.and (Own.from (boxed_own n₀ 250 λ_=>.slice none 0 0) _) (OwnFrom.and (Own.from (boxed_own (n₀+1) 54 λ_=>.int .i64 0) _)
   (OwnFrom.and (Own.from (boxed_own _ 85 λ_=>.slice a (20*m) c) _) (OwnFrom.and (Own.from (boxed_own _ 3 λ_=>.int .i64 20) _) (ownFrom_below (by omega) (by omega)))))))
 case ownx=>
  intro e;exact OwnFrom.and (λs A B row hs _ _=>hs) (OwnFrom.and (Own.from (boxed_own n₀ 250 λ_=>.slice none 0 0) _) (OwnFrom.and (Own.from (boxed_own (n₀+1) 54 λ_=>.int .i64 3) _) (ownFrom_below (by omega) (by omega))))
 case start=>
  exact ⟨⟨_,h4,⟨by simp,.inl ⟨rfl,rfl⟩⟩,by simp⟩,by simp,h2,h3,h5,h6,hB0⟩
 case assign=>
  intro l x W K hK;unfold wZ at hK ⊢
  gi_wp2
  exact hK
 case body=>
  rintro l pre x W ⟨⟨v,g4,grow,giff⟩,gok,g2,g3,g5,g6,gB⟩ _;have hxm:x.val<m:=x.isLt;obtain rfl:=ha (by omega);have hcell:∀ W1,Below n₀ w W1->∀ j,j<bs.length->W1.cell? ⟨b,o+j,none⟩=some (.int .u8 (bs[j]?.getD 0)):=λW1 hB1 j hj=>(hB1.cell (p:=⟨b,o+j,none⟩) (hblk (by omega))).trans (hc j hj)
  have hnum:∀ (off r c' k:Nat) (W1:World),Below n₀ w W1->r<=8->off+r<=20->CallsIn Fence.wide k Tryz.prog 167 #[.slice (some ⟨b,o+20*x.val+off,none⟩) r c'] W1 λe w'=>e = .returned (.int .u64 (mG ((bs.drop (20*x.val+off)).take r)))/\w'=W1:=λoff r c' k W1 hB1 hr hoff=>
   callsIn_wide.2 (aBt b (o+20*x.val+off) r c' ((bs.drop (20*x.val+off)).take r) (by simp;omega) hr (λy hy=>hb y (List.mem_of_mem_drop (List.mem_of_mem_take hy))) W1 (λj hj=>by
    have:=hcell W1 hB1 (20*x.val+off+j) (by omega);rw [show o+20*x.val+off+j=o+(20*x.val+off+j) by omega,this];congr 3;rw [List.getElem?_take_of_lt hj,List.getElem?_drop]))
  have hnum0:∀ (c' k:Nat) (W1:World),Below n₀ w W1->CallsIn Fence.wide k Tryz.prog 167 #[.slice (some ⟨b,o+20*x.val,none⟩) 8 c'] W1 λe w'=>e = .returned (.int .u64 (areaZ bs x.val).1)/\w'=W1:=λc' k W1 hB1=>hnum 0 8 c' k W1 hB1 (by omega) (by omega);have hnum1:∀ (c' k:Nat) (W1:World),Below n₀ w W1->CallsIn Fence.wide k Tryz.prog 167 #[.slice (some ⟨b,o+20*x.val+8,none⟩) 8 c'] W1 λe w'=>e = .returned (.int .u64 (areaZ bs x.val).2.1)/\w'=W1:=λc' k W1 hB1=>hnum 8 8 c' k W1 hB1 (by omega) (by omega);have hnum2:∀ (c' k:Nat) (W1:World),Below n₀ w W1->CallsIn Fence.wide k Tryz.prog 167 #[.slice (some ⟨b,o+20*x.val+16,none⟩) 4 c'] W1 λe w'=>e = .returned (.int .u64 (areaZ bs x.val).2.2)/\w'=W1:=λc' k W1 hB1=>hnum 16 4 c' k W1 hB1 (by omega) (by omega);unfold wZ
  gi_wp2
  rename_i Q0 K0 hK0
  suffices hfin:K0 { tmps:=#[Value.slice (some { block:=b,off:=o }) (20*m) c,undef,Value.pointer (some { block:=n₀,off:=0 }),Value.pointer (some { block:=n₀+1,off:=0 }),Value.pointer (some { block:=n₀+1+1,off:=0 }),Value.slice (some { block:=b,off:=o+20*x.val }) 20 20,Value.pointer (some { block:=W.heap.size,off:=0 }),Value.slice (some { block:=b,off:=o }) (20*m) c,Value.int IntKind.i64 (20*(m:Int)),Value.bool false,Value.slice (some { block:=b,off:=o }) (20*m) c,Value.int IntKind.i64 (20*(m:Int)),Value.int IntKind.i64 0,Value.bool false,Value.slice (some { block:=b,off:=o }) (20*m) c,Value.func (Fn.func 190) #[] #[Value.pointer (some { block:=n₀+1+1+1,off:=0 }),Value.pointer (some { block:=n₀+1+1+1+1,off:=0 })],Value.slice (some { block:=b,off:=o+20*x.val }) 20 20,Value.slice (some { block:=b,off:=o+20*x.val }) 20 20,Value.slice (some { block:=b,off:=o+20*x.val }) 8 20,Value.int IntKind.u64 (areaZ bs x.val).1,Value.slice (some { block:=b,off:=o+20*x.val }) 20 20,Value.slice (some { block:=b,off:=o+20*x.val+8 }) 8 12,Value.int IntKind.u64 (areaZ bs x.val).2.1,Value.slice (some { block:=b,off:=o+20*x.val }) 20 20,Value.slice (some { block:=b,off:=o+20*x.val+16 }) 4 4,Value.int IntKind.u64 (areaZ bs x.val).2.2,Value.int IntKind.u32 (IntKind.u32.wrap (areaZ bs x.val).2.2),Value.agg #[Value.int IntKind.u64 (areaZ bs x.val).1,Value.int IntKind.u64 (areaZ bs x.val).2.1,Value.int IntKind.u32 (IntKind.u32.wrap (areaZ bs x.val).2.2)],undef,undef,undef,undef,undef,undef,undef,undef,undef,undef,undef,undef,undef],defers:=[] } (W.alloc (Obj.cells #[Value.int IntKind.u64 (areaZ bs x.val).1,Value.int IntKind.u64 (areaZ bs x.val).2.1,Value.int IntKind.u32 (IntKind.u32.wrap (areaZ bs x.val).2.2)] 254)).drew by
   refine aBl (by kernel_rfl) (by kernel_rfl) ?_;refine wpAnyIn_take (i:=0) (v:=Value.slice (some { block:=b,off:=o+20*x.val }) 20 20) rfl rfl (by kernel_rfl) (by kernel_rfl) (by kernel_rfl) (λ_ _ _ h=>h) ⟨Or.inl ⟨by rfl,?_⟩,λ_=>rfl⟩ ?_
   ·intro w;go_simp
   refine wpAnyIn_take (i:=1) (v:=Value.slice (some { block:=b,off:=o+20*x.val }) 8 20) rfl rfl (by kernel_rfl) (by kernel_rfl) (by kernel_rfl) (λ_ _ _ h=>h) ⟨Or.inl ⟨by rfl,?_⟩,λ_=>rfl⟩ ?_
   ·intro w;go_simp
   refine wpAnyIn_take (i:=3) (v:=Value.slice (some { block:=b,off:=o+20*x.val }) 20 20) rfl rfl (by kernel_rfl) (by kernel_rfl) (by kernel_rfl) (λ_ _ _ h=>h) ⟨Or.inl ⟨by rfl,?_⟩,λ_=>rfl⟩ ?_
   ·intro w;go_simp
   refine wpAnyIn_take (i:=4) (v:=Value.slice (some { block:=b,off:=o+20*x.val+8 }) 8 12) rfl rfl (by kernel_rfl) (by kernel_rfl) (by kernel_rfl) (λ_ _ _ h=>h) ⟨Or.inl ⟨by rfl,?_⟩,λ_=>rfl⟩ ?_
   ·intro w;go_simp
   refine wpAnyIn_take (i:=6) (v:=Value.slice (some { block:=b,off:=o+20*x.val }) 20 20) rfl rfl (by kernel_rfl) (by kernel_rfl) (by kernel_rfl) (λ_ _ _ h=>h) ⟨Or.inl ⟨by rfl,?_⟩,λ_=>rfl⟩ ?_
   ·intro w;go_simp
   refine wpAnyIn_take (i:=7) (v:=Value.slice (some { block:=b,off:=o+20*x.val+16 }) 4 4) rfl rfl (by kernel_rfl) (by kernel_rfl) (by kernel_rfl) (λ_ _ _ h=>h) ⟨Or.inl ⟨by rfl,?_⟩,λ_=>rfl⟩ ?_
   ·intro w;go_simp
   have gBd:Below n₀ w W.drew:=Below.trans gB (uK 1);have gBa:Below n₀ w (W.drew.alloc (Obj.cells #[Value.int IntKind.u64 0,Value.int IntKind.u64 0,Value.int IntKind.u32 0] 254)):=gBd.alloc (by have:=g4.lt;simp;omega) _;refine wpAnyIn_ready (rs:=[2,11]) (by kernel_rfl) (by simp) (AllReadyIn.cons rfl (λK hK=>?_) (AllReadyIn.cons rfl (λK hK=>?_) AllReadyIn.nil))
   ·go_simp
    refine ⟨trivial,(λh=>absurd h (by simp [Fence.wide])),?_⟩;refine (hnum0 _ _ _ gBd).mono ?_;rintro e w' ⟨rfl,rfl⟩;refine hK _ _ ?_;clear hK K;refine wpAnyIn_ready (rs:=[5,11]) (by kernel_rfl) (by simp) (AllReadyIn.cons rfl (λK hK=>?_) (AllReadyIn.cons rfl (λK hK=>?_) AllReadyIn.nil))
    ·go_simp
     refine ⟨trivial,(λh=>absurd h (by simp [Fence.wide])),?_⟩;refine (hnum1 _ _ _ gBd).mono ?_;rintro e w' ⟨rfl,rfl⟩;refine hK _ _ ?_;clear hK K;refine wpAnyIn_ready (rs:=[8,11]) (by kernel_rfl) (by simp) (AllReadyIn.cons rfl (λK hK=>?_) (AllReadyIn.cons rfl (λK hK=>?_) AllReadyIn.nil))
     ·go_simp
      refine ⟨trivial,(λh=>absurd h (by simp [Fence.wide])),?_⟩;refine (hnum2 _ _ _ gBd).mono ?_;rintro e w' ⟨rfl,rfl⟩;refine hK _ _ ?_;clear hK K;refine wpAnyIn_take (i:=9) (v:=Value.int .u32 (IntKind.u32.wrap (areaZ bs x.val).2.2)) rfl rfl (by kernel_rfl) (by kernel_rfl) (by kernel_rfl) (λ_ _ _ h=>h) ⟨Or.inl ⟨by rfl,?_⟩,λ_=>rfl⟩ ?_
      ·intro w;go_simp
      refine wpAnyIn_take (i:=10) (v:=Value.agg #[.int .u64 (areaZ bs x.val).1,.int .u64 (areaZ bs x.val).2.1,.int .u32 (IntKind.u32.wrap (areaZ bs x.val).2.2)]) rfl rfl (by kernel_rfl) (by kernel_rfl) (by kernel_rfl) (λ_ _ _ h=>h) ⟨Or.inl ⟨by rfl,?_⟩,λ_=>rfl⟩ ?_
      ·intro w;go_simp
      refine wpAnyIn_ready (rs:=[11]) (by kernel_rfl) (by simp) (AllReadyIn.cons rfl (λK hK=>?_) AllReadyIn.nil)
      ·go_simp
       refine hK _ _ ?_;clear hK K;refine wpAnyIn_ready (rs:=[12]) (by kernel_rfl) (by simp) (AllReadyIn.cons rfl (λK hK=>?_) AllReadyIn.nil)
       ·go_simp
        refine hK _ _ ?_;clear hK K;refine wpAnyIn_done (by kernel_rfl) ?_ _;exact hfin
     ·go_simp
      refine hK _ _ ?_;clear hK K;refine wpAnyIn_ready (rs:=[8]) (by kernel_rfl) (by simp) (AllReadyIn.cons rfl (λK hK=>?_) AllReadyIn.nil)
      ·go_simp
       refine ⟨trivial,(λh=>absurd h (by simp [Fence.wide])),?_⟩;refine (hnum2 _ _ _ gBa).mono ?_;rintro e w' ⟨rfl,rfl⟩;refine hK _ _ ?_;clear hK K;refine wpAnyIn_take (i:=9) (v:=Value.int .u32 (IntKind.u32.wrap (areaZ bs x.val).2.2)) rfl rfl (by kernel_rfl) (by kernel_rfl) (by kernel_rfl) (λ_ _ _ h=>h) ⟨Or.inl ⟨by rfl,?_⟩,λ_=>rfl⟩ ?_
       ·intro w;go_simp
       refine wpAnyIn_take (i:=10) (v:=Value.agg #[.int .u64 (areaZ bs x.val).1,.int .u64 (areaZ bs x.val).2.1,.int .u32 (IntKind.u32.wrap (areaZ bs x.val).2.2)]) rfl rfl (by kernel_rfl) (by kernel_rfl) (by kernel_rfl) (λ_ _ _ h=>h) ⟨Or.inl ⟨by rfl,?_⟩,λ_=>rfl⟩ ?_
       ·intro w;go_simp
       refine wpAnyIn_ready (rs:=[12]) (by kernel_rfl) (by simp) (AllReadyIn.cons rfl (λK hK=>?_) AllReadyIn.nil)
       ·go_simp
        refine hK _ _ ?_;clear hK K;refine wpAnyIn_done (by kernel_rfl) ?_ _;exact hfin
    ·go_simp
     refine hK _ _ ?_;clear hK K;refine wpAnyIn_ready (rs:=[5]) (by kernel_rfl) (by simp) (AllReadyIn.cons rfl (λK hK=>?_) AllReadyIn.nil)
     ·go_simp
      refine ⟨trivial,(λh=>absurd h (by simp [Fence.wide])),?_⟩;refine (hnum1 _ _ _ gBa).mono ?_;rintro e w' ⟨rfl,rfl⟩;refine hK _ _ ?_;clear hK K;refine wpAnyIn_ready (rs:=[8]) (by kernel_rfl) (by simp) (AllReadyIn.cons rfl (λK hK=>?_) AllReadyIn.nil)
      ·go_simp
       refine ⟨trivial,(λh=>absurd h (by simp [Fence.wide])),?_⟩;refine (hnum2 _ _ _ gBa).mono ?_;rintro e w' ⟨rfl,rfl⟩;refine hK _ _ ?_;clear hK K;refine wpAnyIn_take (i:=9) (v:=Value.int .u32 (IntKind.u32.wrap (areaZ bs x.val).2.2)) rfl rfl (by kernel_rfl) (by kernel_rfl) (by kernel_rfl) (λ_ _ _ h=>h) ⟨Or.inl ⟨by rfl,?_⟩,λ_=>rfl⟩ ?_
       ·intro w;go_simp
       refine wpAnyIn_take (i:=10) (v:=Value.agg #[.int .u64 (areaZ bs x.val).1,.int .u64 (areaZ bs x.val).2.1,.int .u32 (IntKind.u32.wrap (areaZ bs x.val).2.2)]) rfl rfl (by kernel_rfl) (by kernel_rfl) (by kernel_rfl) (λ_ _ _ h=>h) ⟨Or.inl ⟨by rfl,?_⟩,λ_=>rfl⟩ ?_
       ·intro w;go_simp
       refine wpAnyIn_ready (rs:=[12]) (by kernel_rfl) (by simp) (AllReadyIn.cons rfl (λK hK=>?_) AllReadyIn.nil)
       ·go_simp
        refine hK _ _ ?_;clear hK K;refine wpAnyIn_done (by kernel_rfl) ?_ _;exact hfin
   ·go_simp
    refine hK _ _ ?_;clear hK K;refine wpAnyIn_ready (rs:=[2]) (by kernel_rfl) (by simp) (AllReadyIn.cons rfl (λK hK=>?_) AllReadyIn.nil)
    ·go_simp
     refine ⟨trivial,(λh=>absurd h (by simp [Fence.wide])),?_⟩;refine (hnum0 _ _ _ gBa).mono ?_;rintro e w' ⟨rfl,rfl⟩;refine hK _ _ ?_;clear hK K;refine wpAnyIn_ready (rs:=[5]) (by kernel_rfl) (by simp) (AllReadyIn.cons rfl (λK hK=>?_) AllReadyIn.nil)
     ·go_simp
      refine ⟨trivial,(λh=>absurd h (by simp [Fence.wide])),?_⟩;refine (hnum1 _ _ _ gBa).mono ?_;rintro e w' ⟨rfl,rfl⟩;refine hK _ _ ?_;clear hK K;refine wpAnyIn_ready (rs:=[8]) (by kernel_rfl) (by simp) (AllReadyIn.cons rfl (λK hK=>?_) AllReadyIn.nil)
      ·go_simp
       refine ⟨trivial,(λh=>absurd h (by simp [Fence.wide])),?_⟩;refine (hnum2 _ _ _ gBa).mono ?_;rintro e w' ⟨rfl,rfl⟩;refine hK _ _ ?_;clear hK K;refine wpAnyIn_take (i:=9) (v:=Value.int .u32 (IntKind.u32.wrap (areaZ bs x.val).2.2)) rfl rfl (by kernel_rfl) (by kernel_rfl) (by kernel_rfl) (λ_ _ _ h=>h) ⟨Or.inl ⟨by rfl,?_⟩,λ_=>rfl⟩ ?_
       ·intro w;go_simp
       refine wpAnyIn_take (i:=10) (v:=Value.agg #[.int .u64 (areaZ bs x.val).1,.int .u64 (areaZ bs x.val).2.1,.int .u32 (IntKind.u32.wrap (areaZ bs x.val).2.2)]) rfl rfl (by kernel_rfl) (by kernel_rfl) (by kernel_rfl) (λ_ _ _ h=>h) ⟨Or.inl ⟨by rfl,?_⟩,λ_=>rfl⟩ ?_
       ·intro w;go_simp
       refine wpAnyIn_ready (rs:=[12]) (by kernel_rfl) (by simp) (AllReadyIn.cons rfl (λK hK=>?_) AllReadyIn.nil)
       ·go_simp
        refine hK _ _ ?_;clear hK K;refine wpAnyIn_done (by kernel_rfl) ?_ _;exact hfin
  refine hK0 _ _ ?_;clear hK0 K0;obtain ⟨W1,hW1⟩:∃ W1,(W.alloc (Obj.cells #[Value.int IntKind.u64 (areaZ bs x.val).1,Value.int IntKind.u64 (areaZ bs x.val).2.1,Value.int IntKind.u32 (IntKind.u32.wrap (areaZ bs x.val).2.2)] 254)).drew=W1:=⟨_,rfl⟩;obtain ⟨s6,hs6⟩:∃ s6,W.heap.size=s6:=⟨_,rfl⟩;have hkind:IntKind.u32.wrap (areaZ bs x.val).2.2=(areaZ bs x.val).2.2:=aDV hb x.val;have k2:Boxed W1 n₀ 250 (.slice none 0 0):=by rw [<-hW1];exact g2.alloc _
  have k3:Boxed W1 (n₀+1) 54 (.int .i64 0):=by rw [<-hW1];exact g3.alloc _
  have k4:Boxed W1 (n₀+1+1) 250 v:=by rw [<-hW1];exact g4.alloc _
  have k5:Boxed W1 (n₀+1+1+1) 85 (.slice (some ⟨b,o,none⟩) (20*m) c):=by rw [<-hW1];exact g5.alloc _
  have k6:Boxed W1 (n₀+1+1+1+1) 3 (.int .i64 20):=by rw [<-hW1];exact g6.alloc _
  have krow:W1.ownsRow n₀ 254 3 v pre.length (pre.flatMap λi:Fin m=>fJ (areaZ bs i.val)):=by rw [<-hW1];exact grow.alloc _
  have kB:Below n₀ w W1:=by rw [<-hW1];exact aNG gB g4.lt
  have kO:KeepsOthers W W1:=by rw [<-hW1];exact ⟨(KeepsOthers.alloc W _).size,(KeepsOthers.alloc W _).same⟩
  have kK:Kp2 (n₀+1+1+1) (n₀+1+1+1+1) W W1:=⟨k5.trans g5.symm,k6.trans g6.symm⟩;have hblk6:W1.heap[s6]? = some (.cells #[Value.int IntKind.u64 (areaZ bs x.val).1,Value.int IntKind.u64 (areaZ bs x.val).2.1,Value.int IntKind.u32 (IntKind.u32.wrap (areaZ bs x.val).2.2)] 254):=by rw [<-hW1,<- hs6];exact World.alloc_heap_new W _
  have z0:W1.cell? ⟨s6,0,none⟩=some (Value.int IntKind.u64 (areaZ bs x.val).1):=by simp [World.cell?,hblk6]
  have z1:W1.cell? ⟨s6,1,none⟩=some (Value.int IntKind.u64 (areaZ bs x.val).2.1):=by simp [World.cell?,hblk6]
  have z2:W1.cell? ⟨s6,2,none⟩=some (Value.int IntKind.u32 (IntKind.u32.wrap (areaZ bs x.val).2.2)):=by simp [World.cell?,hblk6]
  have hsz1:n₀<=W1.heap.size:=by have:=k2.lt;omega
  have y2:=k2.cell;have y2f:=k2.frozen;have y3:=k3.cell;have y3f:=k3.frozen;have y4:=k4.cell;rw [hW1,hs6];clear hW1 hnum hnum0 hnum1 hnum2 hcell;rw [hkind] at hblk6 z2 ⊢;clear hkind;by_cases hov:areaOK (areaZ bs x.val)
  ·have hov':¬ IntKind.u64.wrap ((areaZ bs x.val).1+(areaZ bs x.val).2.1)<(areaZ bs x.val).1:=hov
   gi_wp2_with (gi_at_builtin;refine wpListIn_append_own _ rfl _ _ 250 rfl n₀ 254 i0 (.agg #[.int .u64 0,.int .u64 0,.int .u32 0]) 3 24 (by kernel_rfl) hi hz0 hz1 hz2 rfl (by decide) _ _ _ rfl (krow.alloc _) ⟨W1.heap.size,0,none⟩ 1 1 (fJ (areaZ bs x.val)) rfl rfl (aFJ W1 (fJ (areaZ bs x.val)) 254) (by simp [fJ,Value.oneCell']) (by simp [maxLen];omega) (by omega) (by simp;omega) ?_;intro v' w1 hown' hgrow _;obtain ⟨g',cap',rfl⟩:=ownsRow_succ hown';obtain ⟨hv1,hv2,hr2,hk2,hb2⟩:=k4.appended (by decide) krow hsz1 (by omega) hown' hgrow;have hc1:=hv1.cell;have hf1:=hv1.frozen)
   have kept:∀ {B:Nat} {t:TypeId} {u:Value},Boxed W1 B t u->t≠254->B≠n₀+1+1->Boxed (w1.setCell ⟨n₀+1+1,0,none⟩ (.slice (some ⟨g',0,none⟩) (pre.length+1) cap')) B t u:=λh hte hB=>((h.alloc _).kept hgrow (h.not_row hte krow)).other hB _;refine ⟨kO.trans hk2,kK.trans ⟨(kept k5 (by decide) (by omega)).trans k5.symm,(kept k6 (by decide) (by omega)).trans k6.symm⟩,⟨_,hv2,by simpa using hr2,by simp⟩,?_,kept k2 (by decide) (by omega),kept k3 (by decide) (by omega),kept k5 (by decide) (by omega),kept k6 (by decide) (by omega),kB.trans hb2⟩;intro i hi;rcases List.mem_append.1 hi with h | h
   ·exact gok i h
   ·obtain rfl:=List.mem_singleton.1 h;exact hov
  ·have hov':IntKind.u64.wrap ((areaZ bs x.val).1+(areaZ bs x.val).2.1)<(areaZ bs x.val).1:=Decidable.not_not.1 hov
   gi_wp2_with (fail)
   exact ⟨kO.trans ((KeepsOthers.setCell _ _ _).trans (KeepsOthers.setCell _ _ _)),⟨rfl,x,by simp,hov⟩,(k2.set _).other (by omega) _,(k3.other (by omega) _).set _,(kB.setCell (p:=⟨n₀,0,none⟩) (Nat.le_refl _) _).setCell (p:=⟨n₀+1,0,none⟩) (Nat.le_succ _) _⟩
 case done=>
  rintro D ys W hD hys ⟨⟨v,g4,grow,giff⟩,gok,g2,g3,g5,g6,gB⟩ hK;have hlen':ys.length=m:=by have:=congrArg List.length hys;simpa [lA] using this
  have hys2:(ys.flatMap λi:Fin m=>fJ (areaZ bs i.val))=(lA m).flatMap λi=>fJ (areaZ bs i):=by rw [<-hys,List.flatMap_map]
  have hall:∀ i,i<m->areaOK (areaZ bs i):=λi hi=>by
   have:i ∈ ys.map (·.val):=by rw [hys];simpa [lA] using hi
   obtain ⟨y,hy,rfl⟩:=List.mem_map.1 this;exact gok y hy
  have hm20:bs.length / 20=m:=by omega
  obtain ⟨a',n',c',rfl⟩:∃ a' n' c',v = .slice a' n' c':=by
   rcases grow.2 with ⟨rfl,_⟩ | ⟨g,cap,cur,rfl,_⟩
   ·exact ⟨_,_,_,rfl⟩
   ·exact ⟨_,_,_,rfl⟩
  have q4:=g4.cell;have q2:=g2.cell;have q2f:=g2.frozen;have q3:=g3.cell;have q3f:=g3.frozen
  gi_wp2_with (fail)
  have t2:Boxed ((W.setCell ⟨n₀,0,none⟩ (.slice a' n' c')).setCell ⟨n₀+1,0,none⟩ (.int .i64 0)) n₀ 250 (.slice a' n' c'):=(g2.set _).other (by omega) _;have t3:Boxed ((W.setCell ⟨n₀,0,none⟩ (.slice a' n' c')).setCell ⟨n₀+1,0,none⟩ (.int .i64 0)) (n₀+1) 54 (.int .i64 0):=(g3.other (by omega) _).set _
  have trow:((W.setCell ⟨n₀,0,none⟩ (.slice a' n' c')).setCell ⟨n₀+1,0,none⟩ (.int .i64 0)).ownsRow n₀ 254 3 (.slice a' n' c') ys.length (ys.flatMap λi:Fin m=>fJ (areaZ bs i.val)):=
   (grow.kept (grownBy_setCell' W n₀ _) (.inr (g2.not_row (by decide) grow).symm)).kept (grownBy_setCell' _ (n₀+1) _) (.inr (g3.not_row (by decide) grow).symm)
  have tB:Below n₀ w ((W.setCell ⟨n₀,0,none⟩ (.slice a' n' c')).setCell ⟨n₀+1,0,none⟩ (.int .i64 0)):=(gB.setCell (p:=⟨n₀,0,none⟩) (Nat.le_refl _) _).setCell (p:=⟨n₀+1,0,none⟩) (Nat.le_succ _) _;have hK':=((KeepsOthers.setCell W ⟨n₀,0,none⟩ (.slice a' n' c')).trans (KeepsOthers.setCell _ ⟨n₀+1,0,none⟩ (.int .i64 0))).same D _ hK rfl;refine ⟨by simp,.inl ⟨_,_,rfl,run_takeDeferred hK',?_⟩⟩;have t2':=(t2.kept (grownBy_putObj' _ D (.deferred none)) (by simp;omega)).cell;have t3':=(t3.kept (grownBy_putObj' _ D (.deferred none)) (by simp;omega)).cell;refine ⟨.tuple #[.slice a' n' c',.int .i64 0],?_,?_⟩
  ·simp [results,Tryz.f123,go_sem,t2',t3']
  ·refine ⟨?_,_,_,rfl,.inr (.inr (.inr ⟨by omega,by omega,by rw [hm20];exact hall,?_,?_,rfl⟩))⟩
   ·rw [hn₀];exact tB.trans (belowK_b (w:=w5) (by omega) _ D _ _ (by omega) hK' rfl rfl)
   ·rw [hn₀,hm20];have:=ownsRow_putObj trow (.deferred none) hK' rfl;rw [hys2,hlen'] at this;exact this
   ·rw [hm20];exact giff.trans ⟨λh=>by subst h;simpa using hlen'.symm,λh=>List.length_eq_zero_iff.1 (by omega)⟩
 case stop=>
  rintro D e pre W hD _ ⟨⟨rfl,i,hi,hbad⟩,g2,g3,gB⟩ hK;have hm20:bs.length / 20=m:=by omega
  gi_wp2_with (fail)
  refine ⟨by simp,.inl ⟨_,_,rfl,run_takeDeferred hK,?_⟩⟩;have t2':=(g2.kept (grownBy_putObj' _ D (.deferred none)) (by simp;omega)).cell;have t3':=(g3.kept (grownBy_putObj' _ D (.deferred none)) (by simp;omega)).cell;refine ⟨.tuple #[wY,.int .i64 3],?_,?_⟩
  ·simp [results,Tryz.f123,go_sem,t2',t3',wY]
  ·refine ⟨?_,_,_,rfl,.inr (.inr (.inl ⟨by omega,by omega,⟨i.val,by rw [hm20];exact i.isLt,hbad⟩,rfl,rfl⟩))⟩;rw [hn₀];exact gB.trans (belowK_b (w:=w5) (by omega) _ D _ _ (by omega) hK rfl rfl)
end Go.Dn
