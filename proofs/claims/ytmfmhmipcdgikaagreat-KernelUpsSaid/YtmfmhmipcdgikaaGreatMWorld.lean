/- What the proof stands on: Rest, Start, World, MWorld. -/
import Derived.Test.YtmfmhmipcdgikaaGreatWords
import Derived.Test.YtmfmhmipcdgikaaGreatRoot
import Derived.Test.YtmfmhmipcdgikaaGreatPages
import Derived.Test.YtmfmhmipcdgikaaGreatMap2
/- Tables at rest: each has a page below it; what the calls make of them. -/
namespace Go.Dn
variable {A:AH} {l R:List SP} {r b t i:Nat} {fr n:Int} {hs:List (Int × Int)} {W W':Int→Int→Int} {F G F' G':Int→Prop} {ns:List Nd} {nd:Nd} {root:Int} {tab:Tab} {lf:Int→Option Lf} {tl:List Int}
structure Rest (G:Int→Prop) (W:Int→Int→Int) (root:Int) (tab:Tab) (lf:Int→Option Lf) (tl:List Int):Prop where
 T:TabW W root tab lf
 pr:∀ p x,lf p=some x→0≤p∧p<34359738368
 low:∀ k q f,tab k q=some f→1≤k→∃ p x,lf p=some x∧preP p k=q
 nd:tl.Nodup
 mem:∀ f,f ∈ tl↔∃ k q,tab k q=some f
 inG:∀ f ∈ tl,G f
theorem Rest.tg (h:Rest G W root tab lf tl) {k:Nat} {q f:Int} (e:tab k q=some f):G f:=h.inG f ((h.mem f).2 ⟨k,q,e⟩)
theorem Rest.keep (h:Rest G W root tab lf tl) (hW:∀ f ∈ tl,W' f=W f) (hG:∀ f ∈ tl,G' f):Rest G' W' root tab lf tl:=
 ⟨h.T.congr fun k q f e=>hW f ((h.mem f).2 ⟨k,q,e⟩),h.pr,h.low,h.nd,h.mem,hG⟩
theorem nodup_le {α:Type} [DecidableEq α] {l:List α}:∀ {m:List α},m.Nodup→(∀ x ∈ m,x ∈ l)→m.length≤l.length
 | [],_,_=>Nat.zero_le _
 | x::m,nd,h=>by
  obtain ⟨h1,h2⟩:=List.nodup_cons.1 nd
  have hx:=h x List.mem_cons_self
  have:=nodup_le (l:=l.erase x) h2 fun y hy=>(List.mem_erase_of_ne (fun e:y=x=>h1 (by rw [←e];exact hy))).2 (h y (List.mem_cons_of_mem _ hy))
  rw [List.length_erase_of_mem hx] at this
  have:0<l.length:=List.length_pos_of_mem hx
  simp only [List.length_cons];omega
def needT (tab:Tab) (p:Int):Nat:=(if tab 1 (preP p 1)=none then 1 else 0)+(if tab 2 (preP p 2)=none then 1 else 0)+(if tab 3 (preP p 3)=none then 1 else 0)
theorem TabW.upN (h:TabW W root tab lf) {p:Int} (hp:0≤p∧p<34359738368) {k:Nat} (hk:k<4) (hn:tab k (preP p k)=none):tab (k+1) (preP p (k+1))=none:=by
 cases e:tab (k+1) (preP p (k+1)) with
 | none=>rfl
 | some g=>
  obtain ⟨g',h1,_⟩:=h.up _ _ _ e
  obtain ⟨e1,e2,e3,_⟩:=preP_succ hp hk
  rw [show preP p (k+1) / 512=preP p k by omega,hn] at h1
  cases h1
theorem DownOK.need (h:TabW W root tab lf) {p:Int} (hp:0≤p∧p<34359738368) {lst:List Int} (hD:DownOK tab p lst):needT tab p+lst.length=4:=by
 have h0:=hD.pos
 have h1:=hD.le
 have some_:∀ c,c<lst.length→tab c (preP p c)≠none:=fun c hc=>by rw [hD.is c hc];simp [hc]
 unfold needT
 obtain hl | hl | hl | hl:lst.length=1∨lst.length=2∨lst.length=3∨lst.length=4:=by omega
 ·have n1:tab 1 (preP p 1)=none:=by have:=hD.no (by omega);rw [hl] at this;exact this
  have n2:=h.upN hp (by omega) n1
  have n3:=h.upN hp (by omega) n2
  rw [if_pos n1,if_pos n2,if_pos n3];omega
 ·have n1:=some_ 1 (by omega)
  have n2:tab 2 (preP p 2)=none:=by have:=hD.no (by omega);rw [hl] at this;exact this
  have n3:=h.upN hp (by omega) n2
  rw [if_neg n1,if_pos n2,if_pos n3];omega
 ·have n1:=some_ 1 (by omega)
  have n2:=some_ 2 (by omega)
  have n3:tab 3 (preP p 3)=none:=by have:=hD.no (by omega);rw [hl] at this;exact this
  rw [if_neg n1,if_neg n2,if_pos n3];omega
 ·have n1:=some_ 1 (by omega)
  have n2:=some_ 2 (by omega)
  have n3:=some_ 3 (by omega)
  rw [if_neg n1,if_neg n2,if_neg n3];omega
theorem Rest.map (h:Rest G W root tab lf tl) {p:Int} {x:Lf} {tab':Tab} {lst tk:List Int} (p0:0≤p) (p1:p<34359738368) (hl:lf p=none) (hD:DownOK tab p lst) (hlen:lst.length+tk.length=4) (hnd:tk.Nodup) (htk:∀ y ∈ tk,¬G y)
  (hT:TabW W' root tab' (setL lf p (some x))) (hold:∀ k q f,tab k q=some f→tab' k q=some f) (hnew:∀ k q f,tab' k q=some f→tab k q=some f∨(f ∈ tk∧q=preP p k∧1≤k∧k≤3)) :
  Rest (fun y=>G y∨y ∈ tk) W' root tab' (setL lf p (some x)) (tl++tk):=by
 have hset:∀ p' y,lf p'=some y→setL lf p (some x) p'=some y:=fun p' y e=>by
  unfold setL
  rw [if_neg (fun g=>by rw [g,hl] at e;cases e)];exact e
 have hself:setL lf p (some x) p=some x:=by unfold setL;rw [if_pos rfl]
 have hfull:∀ k,k<4→∃ f,tab' k (preP p k)=some f:=fun k hk=>by
  have:=hT.chain ⟨p0,p1⟩ hself k hk
  cases e:tab' k (preP p k) with
  | none=>exact absurd e this
  | some f=>exact ⟨f,rfl⟩
 refine ⟨hT,fun p' y e=>?_,fun k q f e hk=>?_,List.nodup_append.2 ⟨h.nd,hnd,fun a ha c hc e=>?_⟩,fun f=>?_,fun f hf=>?_⟩
 ·unfold setL at e
  split at e
  ·rename_i g;rw [g];exact ⟨p0,p1⟩
  ·exact h.pr p' y e
 ·rcases hnew k q f e with e | ⟨_,e,_⟩
  ·obtain ⟨p',y,h1,h2⟩:=h.low k q f e hk
   exact ⟨p',y,hset p' y h1,h2⟩
  ·exact ⟨p,x,hself,e.symm⟩
 ·subst e;exact htk a hc (h.inG a ha)
 ·rw [List.mem_append,h.mem]
  constructor
  ·rintro (⟨k,q,e⟩ | hf)
   ·exact ⟨k,q,hold k q f e⟩
   ·-- the new tables are all of them there: as many as places
    have h0:=hD.pos
    have key:∀ k,k<4→lst.length≤k→∃ g,tab' k (preP p k)=some g∧g ∈ tk:=fun k hk hk2=>by
     obtain ⟨g,hg⟩:=hfull k hk
     refine ⟨g,hg,?_⟩
     rcases hnew k _ g hg with e | ⟨e,_⟩
     ·have:tab k (preP p k)=none:=by
       have n0:=hD.no (by omega)
       have:∀ j,lst.length+j<5→tab (lst.length+j) (preP p (lst.length+j))=none:=fun j=>by
        induction j with
        | zero=>intro _;exact n0
        | succ j ih=>intro hj;exact h.T.upN (k:=lst.length+j) ⟨p0,p1⟩ (by omega) (ih (by omega))
       have:=this (k-lst.length) (by omega)
       rwa [show lst.length+(k-lst.length)=k by omega] at this
      rw [this] at e;cases e
     ·exact e
    have hinj:∀ j k g,tab' j (preP p j)=some g→tab' k (preP p k)=some g→j=k:=fun j k g h1 h2=>(hT.apart _ _ _ _ _ h1 h2).1
    -- the list of the path's new tables is as long as tk and within it
    obtain ⟨gs,hgs1,hgs2,hgs3⟩:∃ gs:List Int,gs.length=tk.length∧gs.Nodup∧∀ g ∈ gs,g ∈ tk∧∃ k q,tab' k q=some g:=by
     obtain hl | hl | hl | hl:lst.length=1∨lst.length=2∨lst.length=3∨lst.length=4:=by omega
     ·obtain ⟨g1,a1,b1⟩:=key 1 (by omega) (by omega)
      obtain ⟨g2,a2,b2⟩:=key 2 (by omega) (by omega)
      obtain ⟨g3,a3,b3⟩:=key 3 (by omega) (by omega)
      refine ⟨[g1,g2,g3],by simp;omega,?_,?_⟩
      ·have n12:g1≠g2:=fun e=>by subst e;have:=hinj _ _ _ a1 a2;omega
       have n13:g1≠g3:=fun e=>by subst e;have:=hinj _ _ _ a1 a3;omega
       have n23:g2≠g3:=fun e=>by subst e;have:=hinj _ _ _ a2 a3;omega
       simp [n12,n13,n23]
      ·intro g hg
       simp only [List.mem_cons,List.not_mem_nil,or_false] at hg
       rcases hg with rfl | rfl | rfl
       ·exact ⟨b1,_,_,a1⟩
       ·exact ⟨b2,_,_,a2⟩
       ·exact ⟨b3,_,_,a3⟩
     ·obtain ⟨g2,a2,b2⟩:=key 2 (by omega) (by omega)
      obtain ⟨g3,a3,b3⟩:=key 3 (by omega) (by omega)
      refine ⟨[g2,g3],by simp;omega,?_,?_⟩
      ·have n23:g2≠g3:=fun e=>by subst e;have:=hinj _ _ _ a2 a3;omega
       simp [n23]
      ·intro g hg
       simp only [List.mem_cons,List.not_mem_nil,or_false] at hg
       rcases hg with rfl | rfl
       ·exact ⟨b2,_,_,a2⟩
       ·exact ⟨b3,_,_,a3⟩
     ·obtain ⟨g3,a3,b3⟩:=key 3 (by omega) (by omega)
      refine ⟨[g3],by simp;omega,by simp,?_⟩
      intro g hg
      simp only [List.mem_singleton] at hg
      subst hg
      exact ⟨b3,_,_,a3⟩
     ·exact ⟨[],by simp;omega,by simp,by simp⟩
    by_cases hm:f ∈ gs
    ·exact (hgs3 f hm).2
    ·-- then gs is within tk without f: too short
     exfalso
     have hsub:∀ g ∈ gs,g ∈ tk.erase f:=fun g hg=>(List.mem_erase_of_ne (fun e:g=f=>hm (by rw [←e];exact hg))).2 (hgs3 g hg).1
     have hle:gs.length≤(tk.erase f).length:=nodup_le hgs2 hsub
     rw [List.length_erase_of_mem hf] at hle
     have:0<tk.length:=List.length_pos_of_mem hf
     omega
  ·rintro ⟨k,q,e⟩
   rcases hnew k q f e with e | ⟨e,_⟩
   ·exact .inl ⟨k,q,e⟩
   ·exact .inr e
 ·rcases List.mem_append.1 hf with hf | hf
  ·exact .inl (h.inG f hf)
  ·exact .inr hf
end Go.Dn
/- A purse of a new memory; that the program answers at all. -/
namespace Go.Dn
variable {A:AH} {l R:List SP} {r b t i:Nat} {fr n:Int} {hs:List (Int × Int)} {W W':Int→Int→Int} {F G F' G':Int→Prop} {ns:List Nd} {nd:Nd} {root:Int} {tab:Tab} {lf:Int→Option Lf} {tl:List Int}
theorem wordAt_zero (t i:Int):wordAt (fun _=>0) t i=0:=by
 unfold wordAt
 simp [le]
theorem own_any (h:Own l A):Own ((fun _=>True)::l) A:=⟨fun _=>none,A,fun _=>.inl rfl,(fun _ _ e=>nomatch e),Sub.refl _,trivial,h⟩
theorem sl_nil (h:Own l A) {sz:Nat}:Own (SlAt Sl.nil sz []::l) A:=(own_any h).imp fun _ _=>⟨by simp [Sl.nil],by simp [Sl.nil],fun q=>absurd rfl q⟩
theorem ram_spec {Q:Option Addr→Int→AH→Prop} (h:Own l A) (hf:1≤fr∧fr≤1048576) (hk:∀ r A',Own (RamW r fr [] (fun _ _=>0)::l) A'→Q (some ⟨r,0,none⟩) 0 A'):qap_A fr Sl.nil Q A:=by
 have hc:newCode fr []=0:=by
  unfold newCode
  rw [if_neg (by omega),if_neg (by omega)];rfl
 refine New_spec (hs:=[]) (k:=0) (sl_nil h (sz:=2)) rfl (fun g=>absurd hc g) fun _ r A1 h1=>hk r A1 ?_
 exact RamW.closeH (M:=fun _=>0) ⟨by simp,by omega,hf.2⟩ (fun t i _ _ _=>(wordAt_zero t i).symm) (h1.cons fun C hC=>hC.tail)
end Go.Dn
/- The calls on tables at rest, with what they cost. -/
namespace Go.Dn
variable {A:AH} {l R:List SP} {r b t i:Nat} {fr n N u:Int} {hs:List (Int × Int)} {W W':Int→Int→Int} {F G F' G':Int→Prop} {ns:List Nd} {nd:Nd} {root:Int} {tab:Tab} {lf:Int→Option Lf} {tl:List Int}
theorem bud_apart (h:Own (Bud b F G n::R) A):(∀ x,F x→¬G x)∧0≤n:=by
 obtain ⟨mb,g,st,gl,h1,h2,_,_⟩:=Bud.openH h
 exact ⟨fun x hx hg=>(h2.apart x hg).1 hx,h1.nonneg⟩
theorem RMap_spec {p fm:Int} {pw pu px:Bool} {Q:Int→AH→Prop} (h:Own (RamW r fr hs W::Bud b F G n::TreeS t ns::R) A) (hi:ns[i]? = some nd) (hlv:nd.live=true) (hF:∀ x,F x→hasF fr hs x=true) (hG:∀ x,G x→hasF fr hs x=true)
  (hR:Rest G W root tab lf tl)
  (h1:p<0∨p≥34359738368∨fm<0∨fm≥1048576→Q 1 A)
  (h6:0≤p→p<34359738368→0≤fm→fm<1048576→lf p≠none→∀ A',Own (RamW r fr hs W::Bud b F G n::TreeS t ns::R) A'→Q 6 A')
  (hbad:0≤p→p<34359738368→0≤fm→fm<1048576→lf p=none→∀ e W' A',(e=8∧nd.quo-nd.use-nd.lent<needT tab p∧nd.quo-nd.use-nd.lent≤n∨e=7∧n<needT tab p∧n<nd.quo-nd.use-nd.lent)→
   (∀ f,¬F f→W' f=W f)→Rest G W' root tab lf tl→(∀ j,256≤j→W' root j=W root j)→Own (RamW r fr hs W'::Bud b F G n::TreeS t ns::R) A'→Q e A')
  (hk:0≤p→p<34359738368→0≤fm→fm<1048576→lf p=none→∀ tk W' tab' A',tk.length=needT tab p→(tk.length:Int)≤nd.quo-nd.use-nd.lent→(tk.length:Int)≤n→(∀ x ∈ tk,F x)→
   Rest (fun x=>G x∨x ∈ tk) W' root tab' (setL lf p (some ⟨fm,pw,pu,px⟩)) (tl++tk)→(∀ f,f ∉ tk→f ∉ tl→W' f=W f)→(∀ j,256≤j→W' root j=W root j)→
   Own (RamW r fr hs W'::Bud b (fun x=>F x∧x ∉ tk) (fun x=>G x∨x ∈ tk) (n-tk.length)::TreeS t (useN ns i nd (nd.use+tk.length))::R) A'→Q 0 A') :
  qdq_A (some ⟨r,0,none⟩) (some ⟨b,0,none⟩) (some ⟨t,0,none⟩) i root p fm pw pu px Q A:=by
 have hFG:=(bud_apart h.swap).1
 refine Map_spec h hi hlv hF hG hR.T (fun k q f e=>hR.tg e) h1 h6 (fun p0 p1 f0 f1 hl lst e W' A' hD he hW hA=>?_) fun p0 p1 f0 f1 hl lst tk W' tab' A' hD hlen q1 q2 hnd htk hT hold hnew hW hHi hA=>?_
 ·have hn:=hD.need hR.T ⟨p0,p1⟩
  refine hbad p0 p1 f0 f1 hl e W' A' ?_ hW (hR.keep (fun f hf=>hW f fun g=>hFG f g (hR.inG f hf)) hR.inG) (fun j _=>by rw [hW root fun g=>hFG root g (hR.tg ((hR.T.root 0 root).2 ⟨rfl,rfl⟩))]) hA
  rcases he with ⟨e1,e2,e3⟩ | ⟨e1,e2,e3⟩
  ·exact .inl ⟨e1,by omega,e3⟩
  ·exact .inr ⟨e1,by omega,e3⟩
 ·have hn:=hD.need hR.T ⟨p0,p1⟩
  exact hk p0 p1 f0 f1 hl tk W' tab' A' (by omega) q1 q2 htk (hR.map p0 p1 hl hD hlen hnd (fun y hy=>hFG y (htk y hy)) hT hold hnew) (fun f g1 g2=>hW f g1 fun k q e=>g2 ((hR.mem f).2 ⟨k,q,e⟩)) hHi hA
theorem RQuery_spec {p bx:Int} {pb pt:Option Addr} {Q:Int→Bool→Bool→Bool→Bool→AH→Prop} (h:Own (RamW r fr hs W::R) A) (hG:∀ x,G x→hasF fr hs x=true) (hR:Rest G W root tab lf tl)
  (hn:lf p=none→∀ A',Own (RamW r fr hs W::R) A'→Q 0 false false false false A')
  (hk:∀ x,lf p=some x→∀ A',Own (RamW r fr hs W::R) A'→Q x.frame x.w x.u x.x true A'):qdo_A (some ⟨r,0,none⟩) pb pt bx root p Q A:=by
 refine Query_spec h hR.T (fun k q f e=>hG f (hR.tg e)) (fun c A' hA=>hn ?_ A' hA) fun x _ _ hx A' hA=>hk x hx A' hA
 rcases c with c | c | c
 ·cases e:lf p with
  | none=>rfl
  | some x=>have:=hR.pr p x e;omega
 ·cases e:lf p with
  | none=>rfl
  | some x=>have:=hR.pr p x e;omega
 ·exact c
end Go.Dn
/- The world of spaces: a memory, its frames, containers, of which one is looked at. -/
namespace Go.Dn
structure Tr where
 ns:Int→List Nd
 bx:Nat
 q:Int
 fr:Int
 at_:∀ u,∃ par quo len,(ns u)[bx]? = some ⟨par,quo,u,len,true⟩∧quo-len=q
 set:∀ u u' nd,(ns u)[bx]? = some nd→useN (ns u) bx nd u'=ns u'
 le:q≤fr
variable {A:AH} {l R:List SP} {r b t:Nat} {T:Tr} {N u:Int} {W W':Int→Int→Int} {F G F' G':Int→Prop} {root:Int} {tab:Tab} {lf:Int→Option Lf} {tl:List Int}
structure StdP (N:Int) (F G:Int→Prop):Prop where
 inF:∀ x,F x→hasF N [] x=true
 inG:∀ x,G x→hasF N [] x=true
def StdO (N:Int) (r b t:Nat) (T:Tr) (F G:Int→Prop) (W:Int→Int→Int) (u:Int) (R:List SP):List SP:=RamW r N [] W::Bud b F G (T.fr-u)::TreeS t (T.ns u)::R
theorem has0 {N x:Int}:hasF N [] x=true↔0≤x∧x<N:=by simp [hasF]
def tr0 (n:Int):Tr:=⟨fun u=>[⟨-1,n,u,0,true⟩],0,n,n,fun u=>⟨-1,n,0,rfl,by omega⟩,fun u u' nd h=>by cases h;rfl,Int.le_refl _⟩
theorem sKernel {Q:Int→Int→AH→Prop} {n:Int} (h:Own (StdO N r b t (tr0 n) F G W 0 R) A) (hp:StdP N F G) (hN:4≤N∧N≤262144) (hn2:2≤n)
  (hk:∀ top mid A' W',F top→F mid→KOK N W top [mid] W'→StdP N (fun x=>F x∧x ∉ [top,mid]) (fun x=>G x∨x ∈ [top,mid])→Own (StdO N r b t (tr0 n) (fun x=>F x∧x ∉ [top,mid]) (fun x=>G x∨x ∈ [top,mid]) W' 2 R) A'→Q top 0 A') :
  qbr_A (some ⟨r,0,none⟩) (some ⟨b,0,none⟩) (some ⟨t,0,none⟩) 0 Q A:=by
 have hn:needK N=1:=by unfold needK;omega
 have h:Own (RamW r N [] W::Bud b F G (n-0)::TreeS t [⟨-1,n,0,0,true⟩]::R) A:=h
 refine Kernel_spec (i:=0) h rfl rfl hp.inF (by omega) (fun e W' A' he _ _=>by
  simp only [hn] at he;omega) fun _ _ top ms W' A' hlen hms hK hA=>?_
 rw [hn] at hlen
 obtain ⟨mid,rfl⟩:=List.length_eq_one_iff.1 hlen
 refine hk top mid A' W' (hms _ (by simp)) (hms _ (by simp)) hK ⟨fun x hx=>hp.inF x hx.1,fun x hx=>?_⟩ ?_
 ·rcases hx with hx | hx
  ·exact hp.inG x hx
  ·exact hp.inF x (hms x hx)
 ·have hA:Own (RamW r N [] W'::Bud b (fun x=>F x∧x ∉ [top,mid]) (fun x=>G x∨x ∈ [top,mid]) (n-0-2)::TreeS t [⟨-1,n,0+2,0,true⟩]::R) A':=hA
  rw [show n-0-2=n-2 by omega,show (0:Int)+2=2 by omega] at hA
  exact hA
theorem sRoot {kern:Int} {Q:Int→Int→AH→Prop} (h:Own (StdO N r b t T F G W u R) A) (hp:StdP N F G) (hu:0≤u∧u+2≤T.q+1) (hN:N≤1048576) (hkn:0≤kern∧kern<1048576)
  (hk:∀ root A' W',F root→StdP N (fun x=>F x∧x ∉ [root]) (fun x=>G x∨x ∈ [root])→Rest (fun x=>G x∨x ∈ [root]) W' root (tab0 root) (fun _=>none) [root]→(∀ f,f≠root→W' f=W f)→W' root 256=kEnt kern→(∀ j,256<j→W' root j=0)→
   Own (StdO N r b t T (fun x=>F x∧x ∉ [root]) (fun x=>G x∨x ∈ [root]) W' (u+1) R) A'→Q root 0 A') :
  qbz_A (some ⟨r,0,none⟩) (some ⟨b,0,none⟩) (some ⟨t,0,none⟩) T.bx kern Q A:=by
 obtain ⟨par,quo,len,hi,hq⟩:=T.at_ u
 have hle:=T.le
 refine Root_spec (i:=T.bx) (tk:=[]) (taken_nil hi h) hi rfl hp.inF hkn (fun g=>?_) (fun _ g=>?_) fun _ _ root A' hf _ hA=>?_
 ·simp at g;omega
 ·simp at g;omega
 have hrng:=has0.1 (hp.inF root hf)
 have hW:∀ f,f≠root→setW (zeroW W root) root 256 (kEnt kern) f=W f:=fun f hne=>by rw [setW_ne hne,zeroW_ne hne]
 have hz:∀ j,0≤j→j<256→setW (zeroW W root) root 256 (kEnt kern) root j=0:=fun j j0 j1=>by
  unfold setW zeroW
  rw [if_neg (by omega),if_pos rfl]
 have key:∀ k q f,tab0 root k q=some f↔(k=0∧q=0)∧f=root:=fun k q f=>by
  unfold tab0
  split
  ·rename_i e;simp [e];exact eq_comm
  ·rename_i e;simp [e]
 refine hk root A' _ hf ⟨fun x hx=>hp.inF x hx.1,fun x hx=>?_⟩ ⟨TabW.init hz ⟨hrng.1,by omega⟩,fun p x e=>(by cases e),fun k q f e hk1=>?_,(by simp),fun f=>?_,fun f hf2=>.inr hf2⟩ hW ?_ (fun j hj=>?_) ?_
 ·rcases hx with hx | hx
  ·exact hp.inG x hx
  ·simp only [List.mem_singleton] at hx;subst hx;exact hp.inF _ hf
 ·have:=((key k q f).1 e).1;omega
 ·rw [List.mem_singleton]
  constructor
  ·intro e;exact ⟨0,0,(key 0 0 f).2 ⟨⟨rfl,rfl⟩,e⟩⟩
  ·rintro ⟨k,q,e⟩;exact ((key k q f).1 e).2
 ·unfold setW;rw [if_pos ⟨rfl,rfl⟩]
 ·unfold setW zeroW;rw [if_neg (by omega),if_pos rfl]
 ·have hA:Own (RamW r N [] (setW (zeroW W root) root 256 (kEnt kern))::Bud b (fun x=>F x∧x ∉ [root]) (fun x=>G x∨x ∈ [root]) (T.fr-u-1)::TreeS t (useN (T.ns u) T.bx ⟨par,quo,u,len,true⟩ (u+1))::R) A':=hA
  rw [T.set _ _ _ hi,show T.fr-u-1=T.fr-(u+1) by omega] at hA
  exact hA
theorem sMap {p fm:Int} {pw pu px:Bool} {Q:Int→AH→Prop} (h:Own (StdO N r b t T F G W u R) A) (hp:StdP N F G) (hu:0≤u∧u+4≤T.q+1) (hR:Rest G W root tab lf tl)
  (h1:p<0∨p≥34359738368∨fm<0∨fm≥1048576→Q 1 A)
  (h6:0≤p→p<34359738368→0≤fm→fm<1048576→lf p≠none→∀ A',Own (StdO N r b t T F G W u R) A'→Q 6 A')
  (hk:0≤p→p<34359738368→0≤fm→fm<1048576→lf p=none→∀ tk W' tab' A',tk.length=needT tab p→(∀ x ∈ tk,F x)→StdP N (fun x=>F x∧x ∉ tk) (fun x=>G x∨x ∈ tk)→
   Rest (fun x=>G x∨x ∈ tk) W' root tab' (setL lf p (some ⟨fm,pw,pu,px⟩)) (tl++tk)→(∀ f,f ∉ tk→f ∉ tl→W' f=W f)→Own (StdO N r b t T (fun x=>F x∧x ∉ tk) (fun x=>G x∨x ∈ tk) W' (u+tk.length) R) A'→Q 0 A') :
  qdq_A (some ⟨r,0,none⟩) (some ⟨b,0,none⟩) (some ⟨t,0,none⟩) T.bx root p fm pw pu px Q A:=by
 have hneed:needT tab p≤3:=by unfold needT;split<;>split<;>split<;>omega
 obtain ⟨par,quo,len,hi,hq⟩:=T.at_ u
 have hle:=T.le
 refine RMap_spec (i:=T.bx) h hi rfl hp.inF hp.inG hR h1 h6 (fun _ _ _ _ _ e W' A' he _ _ _ _=>?_) fun p0 p1 f0 f1 hl tk W' tab' A' hlen _ _ htk hR' hW _ hA=>?_
 ·simp only at he;omega
 refine hk p0 p1 f0 f1 hl tk W' tab' A' hlen htk ⟨fun x hx=>hp.inF x hx.1,fun x hx=>?_⟩ hR' hW ?_
 ·rcases hx with hx | hx
  ·exact hp.inG x hx
  ·exact hp.inF x (htk x hx)
 ·have hA:Own (RamW r N [] W'::Bud b (fun x=>F x∧x ∉ tk) (fun x=>G x∨x ∈ tk) (T.fr-u-tk.length)::TreeS t (useN (T.ns u) T.bx ⟨par,quo,u,len,true⟩ (u+tk.length))::R) A':=hA
  rw [T.set _ _ _ hi,show T.fr-u-(tk.length:Int)=T.fr-(u+tk.length) by omega] at hA
  exact hA
theorem sTake {Q:Int→Int→AH→Prop} (h:Own (StdO N r b t T F G W u R) A) (hp:StdP N F G) (hu:0≤u∧u+2≤T.q+1)
  (hk:∀ f A',F f→StdP N (fun x=>F x∧x≠f) (fun x=>G x∨x=f)→Own (StdO N r b t T (fun x=>F x∧x≠f) (fun x=>G x∨x=f) (zeroW W f) (u+1) R) A'→Q f 0 A') :
  qbg_A (some ⟨r,0,none⟩) (some ⟨b,0,none⟩) (some ⟨t,0,none⟩) T.bx Q A:=by
 obtain ⟨par,quo,len,hi,hq⟩:=T.at_ u
 have hle:=T.le
 refine pTake_spec (i:=T.bx) h hi rfl hp.inF (fun g=>by simp only at g;omega) (fun _ g=>by omega) fun _ _ f A' hf hA=>hk f A' hf ⟨fun x hx=>hp.inF x hx.1,fun x hx=>?_⟩ ?_
 ·rcases hx with hx | hx
  ·exact hp.inG x hx
  ·subst hx;exact hp.inF _ hf
 ·have hA:Own (RamW r N [] (zeroW W f)::Bud b (fun x=>F x∧x≠f) (fun x=>G x∨x=f) (T.fr-u-1)::TreeS t (useN (T.ns u) T.bx ⟨par,quo,u,len,true⟩ (u+1))::R) A':=hA
  rw [T.set _ _ _ hi,show T.fr-u-1=T.fr-(u+1) by omega] at hA
  exact hA
theorem sRoom {Q:Int→AH→Prop} (h:Own (StdO N r b t T F G W u R) A) (hk:Q (T.q-u) A):qaw_A (some ⟨t,0,none⟩) T.bx Q A:=by
 obtain ⟨par,quo,len,hi,hq⟩:=T.at_ u
 have h:Own (TreeS t (T.ns u)::RamW r N [] W::Bud b F G (T.fr-u)::R) A:=Own.rot3 h
 obtain ⟨blk,cap,rest,⟨h1,h2⟩,hh⟩:=TreeS.openH h
 refine Room_raw (i:=T.bx) hh hi rfl (h2 _ (List.mem_of_getElem? hi)) ?_
 have e:quo-u-len=T.q-u:=by omega
 simp only
 rw [e];exact hk
end Go.Dn
