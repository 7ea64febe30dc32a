/- What the proof stands on: Fam, FamB, One. -/
import Derived.Test.YtmfmhmipcdgikaaGreatBitsU
import Derived.Test.YtmfmhmipcdgikaaGreatCpu3
/- Spaces of a machine, as a list; loads and stores of one of them. -/
namespace Go.Dn
structure Sp where
 id:Int
 p:Nat
 root:Int
 s:Sl
 regs:List Reg
 lent:List (Int × Int)
 tab:Tab
 lf:Int→Option Lf
 tl:List Int
 bx:Nat
def Sp.own (a:Sp):SP:=OneS a.p a.bx a.root a.s a.regs a.lent
def lfOf (L:List Sp) (id:Int):Int→Option Lf:=match L.find? (fun a=>a.id==id) with
 | some a=>a.lf
 | none=>fun _=>none
def ents (L:List Sp):List (Int × Value):=L.map fun a=>(a.id,ptrV a.p)
def SpsOK (sps:List (Int × Value)) (L:List Sp):Prop:=sps.Perm (ents L)
theorem lookup_perm {l1 l2:List (Int × Value)} (h:l1.Perm l2):(l1.map (·.1)).Nodup→∀ k,l1.lookup k=l2.lookup k:=by
 induction h with
 | nil=>intro _ k;rfl
 | cons x _ ih=>
  intro hn k
  rw [List.map_cons,List.nodup_cons] at hn
  obtain ⟨x1,x2⟩:=x
  rw [List.lookup_cons,List.lookup_cons,ih hn.2 k]
 | swap x y l=>
  intro hn k
  obtain ⟨x1,x2⟩:=x
  obtain ⟨y1,y2⟩:=y
  simp only [List.map_cons,List.nodup_cons,List.mem_cons,not_or] at hn
  rw [List.lookup_cons,List.lookup_cons,List.lookup_cons,List.lookup_cons]
  cases e1:(k==y1) with
  | false=>rfl
  | true=>
   cases e2:(k==x1) with
   | false=>rfl
   | true=>
    have h1:k=y1:=by simpa using e1
    have h2:k=x1:=by simpa using e2
    exact absurd (h1.symm.trans h2) hn.1.1
 | trans h1 h2 i1 i2=>
  intro hn k
  rw [i1 hn k,i2 ((h1.map _).nodup_iff.1 hn) k]
theorem ents_ids (L:List Sp):(ents L).map (·.1)=L.map (·.id):=by simp [ents]
theorem ents_find (id:Int):∀ L:List Sp,(ents L).lookup id=(L.find? (fun a=>a.id==id)).map fun a=>ptrV a.p
 | []=>rfl
 | a::L=>by
  have ih:=ents_find id L
  unfold ents at ih ⊢
  rw [List.map_cons,List.lookup_cons,List.find?_cons,ih]
  have:(id==a.id)=(a.id==id):=by
   rw [Bool.eq_iff_iff]
   simp only [beq_iff_eq]
   exact ⟨Eq.symm,Eq.symm⟩
  rw [this]
  cases (a.id==id)<;>rfl
theorem SpsOK.find {sps:List (Int × Value)} {L:List Sp} (h:SpsOK sps L) (hn:(L.map (·.id)).Nodup) (id:Int):sps.lookup id=(L.find? (fun a=>a.id==id)).map fun a=>ptrV a.p:=by
 have hn2:(sps.map (·.1)).Nodup:=(h.map (·.1)).nodup_iff.2 (by rw [ents_ids];exact hn)
 rw [lookup_perm h hn2,ents_find]
structure FamOK (N:Int) (F G:Int→Prop) (W:Int→Int→Int) (z:PcZ) (ls:List Ln) (L:List Sp):Prop where
 std:StdP N F G
 rest:∀ a ∈ L,Rest G W a.root a.tab a.lf a.tl
 ids:(L.map (·.id)).Nodup
 apart:∀ a ∈ L,∀ b ∈ L,a.id≠b.id→∀ f ∈ a.tl,f ∉ b.tl
 leafG:∀ a ∈ L,∀ q x,a.lf q=some x→G x.frame∧∀ b ∈ L,x.frame ∉ b.tl
 reg:∀ a ∈ L,∀ q x,a.lf q=some x→∃ y,findR a.regs q=some y∧x.w=y.w∧x.u=y.u∧x.x=y.x
 rl:∀ a ∈ L,a.regs.length≤64∧∀ y ∈ a.regs,0≤y.a∧y.b≤34359738368
 pc:PcOK z
 ln:LnOK (vw z (lfOf L)) ls
variable {A:AH} {l R:List SP} {ls:List Ln} {c:Mb} {u:Int} {F G F' G':Int→Prop} {W W':Int→Int→Int} {z z':PcZ} {ls':List Ln} {sps:List (Int × Value)} {cp n:Nat} {a a':Sp} {L pre post:List Sp} {N:Int}
theorem find_mid {id:Int} (h:((pre++a::post).map (·.id)).Nodup):(pre++a::post).find? (fun b=>b.id==id)=if a.id=id then some a else (pre++post).find? (fun b=>b.id==id):=by
 rw [List.find?_append,List.find?_append,List.find?_cons]
 by_cases e:a.id=id
 ·rw [if_pos e]
  have e2:pre.find? (fun b=>b.id==id)=none:=by
   rw [List.find?_eq_none]
   intro b hb hq
   have hq:b.id=id:=by simpa using hq
   rw [List.map_append,List.nodup_append] at h
   exact h.2.2 b.id (List.mem_map_of_mem hb) a.id (by simp) (by rw [hq,e])
  rw [e2]
  have:(a.id==id)=true:=by simpa using e
  rw [this];rfl
 ·rw [if_neg e]
  have:(a.id==id)=false:=by simpa using e
  rw [this]
theorem ids_mid (hi:a'.id=a.id):(pre++a'::post).map (·.id)=(pre++a::post).map (·.id):=by simp [hi]
theorem lfOf_mid (h:((pre++a::post).map (·.id)).Nodup):lfOf (pre++a::post) a.id=a.lf:=by
 unfold lfOf
 rw [find_mid h,if_pos rfl]
theorem lfOf_set (h:((pre++a::post).map (·.id)).Nodup) (hi:a'.id=a.id):lfOf (pre++a'::post)=updV (lfOf (pre++a::post)) a.id a'.lf:=by
 funext id
 have h':((pre++a'::post).map (·.id)).Nodup:=by rw [ids_mid hi];exact h
 unfold updV
 simp only [lfOf]
 rw [find_mid h,find_mid h',hi]
 by_cases e:a.id=id
 ·rw [if_pos e,if_pos e.symm]
 ·rw [if_neg e,if_neg (fun q=>e q.symm),if_neg e]
theorem SpsOK.mid (h:SpsOK sps (pre++a::post)) (hn:((pre++a::post).map (·.id)).Nodup):sps.lookup a.id=some (ptrV a.p):=by
 rw [h.find hn,find_mid hn,if_pos rfl];rfl
theorem SpsOK.set (h:SpsOK sps (pre++a::post)) (_hn:((pre++a::post).map (·.id)).Nodup) (hi:a'.id=a.id) (hp:a'.p=a.p):SpsOK sps (pre++a'::post):=by
 have:ents (pre++a'::post)=ents (pre++a::post):=by simp [ents,hi,hp]
 unfold SpsOK
 rw [this];exact h
def famR (cp m n:Nat) (L:List Sp) (l:List SP):List SP:=CpuS cp m n::(L.map Sp.own++l)
theorem Fam.focus (h:Own (MacL c F G W u ls z sps (famR cp c.m n (pre++a::post) l)) A):Own (MacL c F G W u ls z sps (a.own::CpuS cp c.m n::((pre++post).map Sp.own++l))) A:=by
 refine MacL.mapR (fun C hC=>hC.perm ?_) h
 unfold famR
 rw [List.map_append,List.map_cons,List.map_append,List.append_assoc,List.append_assoc,List.cons_append]
 refine List.Perm.trans (List.Perm.cons _ List.perm_middle) (List.Perm.swap _ _ _)
theorem Fam.unfocus (h:Own (MacL c F G W u ls z sps (a.own::CpuS cp c.m n::((pre++post).map Sp.own++l))) A):Own (MacL c F G W u ls z sps (famR cp c.m n (pre++a::post) l)) A:=by
 refine MacL.mapR (fun C hC=>hC.perm (List.Perm.symm ?_)) h
 unfold famR
 rw [List.map_append,List.map_cons,List.map_append,List.append_assoc,List.append_assoc,List.cons_append]
 refine List.Perm.trans (List.Perm.cons _ List.perm_middle) (List.Perm.swap _ _ _)
theorem Fam.focusB (hbx:a.bx=c.T.bx) (h:Own (MacL c F G W u ls z sps (famR cp c.m n (pre++a::post) l)) A):Own (MacL c F G W u ls z sps (OneS a.p c.T.bx a.root a.s a.regs a.lent::CpuS cp c.m n::((pre++post).map Sp.own++l))) A:=by
 rw [←hbx];exact Fam.focus h
theorem Fam.unfocusB (hbx:a.bx=c.T.bx) (h:Own (MacL c F G W u ls z sps (OneS a.p c.T.bx a.root a.s a.regs a.lent::CpuS cp c.m n::((pre++post).map Sp.own++l))) A):Own (MacL c F G W u ls z sps (famR cp c.m n (pre++a::post) l)) A:=by
 rw [←hbx] at h;exact Fam.unfocus h
theorem mem_mid {b:Sp}:b ∈ pre++a::post↔b=a∨b ∈ pre++post:=by
 simp only [List.mem_append,List.mem_cons]
 constructor
 ·rintro (h | h | h)
  ·exact .inr (.inl h)
  ·exact .inl h
  ·exact .inr (.inr h)
 ·rintro (h | h | h)
  ·exact .inr (.inl h)
  ·exact .inl h
  ·exact .inr (.inr h)
theorem mid_ne {b:Sp} (h:((pre++a::post).map (·.id)).Nodup) (hb:b ∈ pre++post):b.id≠a.id:=fun e=>by
 have h2:=find_mid (id:=a.id) h
 rw [if_pos rfl] at h2
 have h3:((pre++a::post).map (·.id)).Perm (a.id::(pre++post).map (·.id)):=by
  rw [List.map_append,List.map_cons,List.map_append];exact List.perm_middle
 have:=(h3.nodup_iff.1 h)
 rw [List.nodup_cons] at this
 exact this.1 (List.mem_map.2 ⟨b,hb,e⟩)
theorem FamOK.grow {page u':Int} {y:Reg} {x:Lf} (h:FamOK N F G W z ls (pre++a::post)) (hFG:∀ f,F f→¬ G f) (hf:findR a.regs page=some y)
  (hG:Grow N F G W u a.root a.tab a.lf a.tl page y x F' G' W' u' a'.tab a'.lf a'.tl) (hi:a'.id=a.id) (hr:a'.root=a.root) (hrg:a'.regs=a.regs) (hz:PcOK z') (hl:LnOK (vw z' (updV (lfOf (pre++a::post)) a.id a'.lf)) ls'):FamOK N F' G' W' z' ls' (pre++a'::post):=by
 have ham:a ∈ pre++a::post:=mem_mid.2 (.inl rfl)
 have hom:∀ {b:Sp},b ∈ pre++post→b ∈ pre++a::post:=fun hb=>mem_mid.2 (.inr hb)
 have hGm:∀ g,G g→G' g:=fun g hg=>by
  cases e:a.lf page with
  | none=>exact ((hG.new e).2.2.2.2.1 g).2 (.inl hg)
  | some x0=>rw [(hG.same (by rw [e];simp)).2.1];exact hg
 have htl:∀ t ∈ a'.tl,t ∈ a.tl∨F t:=fun t ht=>by
  cases e:a.lf page with
  | none=>exact (hG.new e).2.2.2.2.2.2.2.1 t ht
  | some x0=>rw [(hG.same (by rw [e];simp)).2.2.2.2.2] at ht;exact .inl ht
 have hleaf:∀ b ∈ pre++a::post,∀ q x,b.lf q=some x→G' x.frame∧x.frame ∉ a'.tl∧∀ d ∈ pre++post,x.frame ∉ d.tl:=fun b hb q x hx=>by
  obtain ⟨k1,k2⟩:=h.leafG b hb q x hx
  refine ⟨hGm _ k1,fun ht=>?_,fun d hd=>k2 d (hom hd)⟩
  rcases htl _ ht with ht | ht
  ·exact k2 a ham ht
  ·exact hFG _ ht k1
 have hleaf':∀ q x,a'.lf q=some x→G' x.frame∧x.frame ∉ a'.tl∧∀ d ∈ pre++post,x.frame ∉ d.tl:=fun q x' hx=>by
  by_cases e:q=page
  ·subst e
   rw [hG.leaf] at hx
   cases hx
   cases e:a.lf q with
   | none=>
    obtain ⟨k1,k2,_,_,k5,_⟩:=hG.new e
    exact ⟨(k5 _).2 (.inr (.inl rfl)),k2,fun d hd ht=>hFG _ k1 ((h.rest d (hom hd)).inG _ ht)⟩
   | some x0=>
    have e5:=(hG.same (by rw [e];simp)).2.2.2.2.1
    have:=hG.leaf
    rw [e5,e] at this
    cases this
    exact hleaf a ham q _ e
  ·rw [hG.old q e] at hx
   exact hleaf a ham q x' hx
 refine ⟨hG.std,fun b hb=>?_,by rw [ids_mid hi];exact h.ids,fun b hb d hd hne f hf'=>?_,fun b hb q x' hx=>?_,fun b hb q x' hx=>?_,fun b hb=>?_,hz,?_⟩
 ·rcases mem_mid.1 hb with rfl | hb
  ·rw [hr];exact hG.rest
  ·refine (h.rest b (hom hb)).keep (fun f hf'=>hG.keep f ((h.rest b (hom hb)).inG f hf') fun q=>?_) fun f hf'=>hGm f ((h.rest b (hom hb)).inG f hf')
   exact h.apart b (hom hb) a ham (mid_ne h.ids hb) f hf' q
 ·rcases mem_mid.1 hb with rfl | hb2<;>rcases mem_mid.1 hd with rfl | hd2
  ·exact absurd rfl hne
  ·intro hq
   rcases htl f hf' with k | k
   ·exact h.apart a ham d (hom hd2) (Ne.symm (mid_ne h.ids hd2)) f k hq
   ·exact hFG f k ((h.rest d (hom hd2)).inG f hq)
  ·intro hq
   rcases htl f hq with k | k
   ·exact h.apart b (hom hb2) a ham (mid_ne h.ids hb2) f hf' k
   ·exact hFG f k ((h.rest b (hom hb2)).inG f hf')
  ·exact h.apart b (hom hb2) d (hom hd2) hne f hf'
 ·rcases mem_mid.1 hb with rfl | hb
  ·obtain ⟨k1,k2,k3⟩:=hleaf' q x' hx
   exact ⟨k1,fun d hd=>(mem_mid.1 hd).elim (fun e=>by rw [e];exact k2) fun hd=>k3 d hd⟩
  ·obtain ⟨k1,k2,k3⟩:=hleaf b (hom hb) q x' hx
   exact ⟨k1,fun d hd=>(mem_mid.1 hd).elim (fun e=>by rw [e];exact k2) fun hd=>k3 d hd⟩
 ·rcases mem_mid.1 hb with rfl | hb
  ·rw [hrg]
   by_cases e:q=page
   ·subst e
    rw [hG.leaf] at hx
    cases hx
    exact ⟨y,hf,hG.perm⟩
   ·rw [hG.old q e] at hx
    exact h.reg a ham q x' hx
  ·exact h.reg b (hom hb) q x' hx
 ·rcases mem_mid.1 hb with rfl | hb
  ·rw [hrg];exact h.rl a ham
  ·exact h.rl b (hom hb)
 ·rw [lfOf_set h.ids hi];exact hl
theorem FamOK.store {f i v:Int} (h:FamOK N F G W z ls L) (hf:∀ b ∈ L,f ∉ b.tl):FamOK N F G (setW W f i v) z ls L:=
 ⟨h.std,fun a ha=>(h.rest a ha).keep (fun g hg=>setW_ne fun e=>hf a ha (by rw [←e];exact hg)) (fun g hg=>(h.rest a ha).inG g hg),h.ids,h.apart,h.leafG,h.reg,h.rl,h.pc,h.ln⟩
def Sp.as (a:Sp) (tab:Tab) (lf:Int→Option Lf) (tl:List Int):Sp:={ a with tab:=tab,lf:=lf,tl:=tl }
theorem DoF {addr x0:Int} {aw:Bool} {size:Nat} {Q:Int→Int→Int→Int→AH→Prop} (h:Own (MacL c F G W u ls z sps (famR cp c.m n (pre++a::post) l)) A) (hs:SpsOK sps (pre++a::post)) (hf:FamOK c.N F G W z ls (pre++a::post)) (hbx:a.bx=c.T.bx)
  (hu:0≤u∧u+5≤c.T.q+1) (hN:c.N≤262144) (ha:0≤addr∧addr<140737488355328) (hsz:size=1∨size=2∨size=4∨size=8) (hd:addr % size=0)
  (hno:(∀ y,findR a.regs (addr / 4096)=some y→mayZ y.w y.u y.x aw true false=false)→∀ ls' z' A',FamOK c.N F G W z' ls' (pre++a::post)→Own (MacL c F G W u ls' z' sps (famR cp c.m n (pre++a::post) l)) A'→
   Q 0 addr (codeZ aw true false+if a.lf (addr / 4096)=none then 0 else 1) 9 A')
  (hkl:aw=false→∀ y,findR a.regs (addr / 4096)=some y→mayZ y.w y.u y.x aw true false=true→∀ x F' G' W' u' tab' lf' tl' ls' z' A',Grow c.N F G W u a.root a.tab a.lf a.tl (addr / 4096) y x F' G' W' u' tab' lf' tl'→
   FamOK c.N F' G' W' z' ls' (pre++a.as tab' lf' tl'::post)→SpsOK sps (pre++a.as tab' lf' tl'::post)→
   Own (MacL c F' G' W' u' ls' z' sps (famR cp c.m n (pre++a.as tab' lf' tl'::post) l)) A'→Q (getB (W' x.frame (addr % 4096 / 8)) (addr % 4096 % 8).toNat size) 0 0 0 A')
  (hks:aw=true→∀ y,findR a.regs (addr / 4096)=some y→mayZ y.w y.u y.x aw true false=true→∀ x F' G' W' u' tab' lf' tl' ls' z' A',Grow c.N F G W u a.root a.tab a.lf a.tl (addr / 4096) y x F' G' W' u' tab' lf' tl'→
   FamOK c.N F' G' (setW W' x.frame (addr % 4096 / 8) (putB (W' x.frame (addr % 4096 / 8)) (addr % 4096 % 8).toNat size x0)) z' ls' (pre++a.as tab' lf' tl'::post)→SpsOK sps (pre++a.as tab' lf' tl'::post)→
   Own (MacL c F' G' (setW W' x.frame (addr % 4096 / 8) (putB (W' x.frame (addr % 4096 / 8)) (addr % 4096 % 8).toNat size x0)) u' ls' z' sps (famR cp c.m n (pre++a.as tab' lf' tl'::post) l)) A'→Q 0 0 0 0 A') :
  qec_A (some ⟨cp,0,none⟩) a.id addr size aw x0 Q A:=by
 have ham:a ∈ pre++a::post:=mem_mid.2 (.inl rfl)
 have hFG:=(bud_apart h.tail).1
 refine Do_spec (Fam.focusB hbx h) (hs.mid hf.ids) hf.std hu hN (hf.rest a ham) (hf.rl a ham).1 (hf.rl a ham).2 hf.pc hf.ln (lfOf_mid hf.ids) (hf.reg a ham) (fun q x hx=>(hf.leafG a ham q x hx).1) ha hsz hd (fun hn ls' z' A' hz hV hA=>?_) (fun e y hy hm x F' G' W' u' tab' lf' tl' ls' z' A' hG hz hV hA=>?_) fun e y hy hm x F' G' W' u' tab' lf' tl' ls' z' A' hG hz hV hA=>?_
 ·exact hno hn ls' z' A' ⟨hf.std,hf.rest,hf.ids,hf.apart,hf.leafG,hf.reg,hf.rl,hz,hV⟩ (Fam.unfocusB hbx hA)
 ·exact hkl e y hy hm x F' G' W' u' tab' lf' tl' ls' z' A' hG (hf.grow (a':=a.as tab' lf' tl') hFG hy hG rfl rfl rfl hz hV) (hs.set hf.ids rfl rfl) (Fam.unfocusB (a:=a.as tab' lf' tl') hbx hA)
 ·have hfm:=hf.grow (a':=a.as tab' lf' tl') hFG hy hG rfl rfl rfl hz hV
  exact hks e y hy hm x F' G' W' u' tab' lf' tl' ls' z' A' hG (hfm.store fun b hb=>(hfm.leafG (a.as tab' lf' tl') (mem_mid.2 (.inl rfl)) _ x hG.leaf).2 b hb) (hs.set hf.ids rfl rfl) (Fam.unfocusB (a:=a.as tab' lf' tl') hbx hA)
end Go.Dn
/- Spaces of a machine: how it begins, how a space comes, how pages come. -/
namespace Go.Dn
variable {A:AH} {l R:List SP} {ls:List Ln} {c:Mb} {u:Int} {F G:Int→Prop} {W:Int→Int→Int} {z:PcZ} {sps:List (Int × Value)} {cp n:Nat} {a:Sp} {L pre post:List Sp} {N:Int}
theorem famNil (hp:StdP N F G) (hz:PcOK z):FamOK N F G W z (List.replicate 16 ln0) []:=
 ⟨hp,fun a h=>by simp at h,by simp,fun a h=>by simp at h,fun a h=>by simp at h,fun a h=>by simp at h,fun a h=>by simp at h,hz,LnOK.new⟩
theorem putM_new {k:Int} {v:Value}:∀ {m:List (Int × Value)},m.lookup k=none→putM m k v=m++[(k,v)]
 | [],_=>rfl
 | (a,w)::m,h=>by
  rw [List.lookup_cons] at h
  by_cases g:a=k
  ·subst g;simp at h
  ·have:(k==a)=false:=by simpa using fun q=>g q.symm
   rw [this] at h
   unfold putM
   rw [if_neg g,putM_new h];rfl
def Sp.new (id:Int) (p:Nat) (root:Int) (bx:Nat):Sp:=⟨id,p,root,Sl.nil,[],[],tab0 root,fun _=>none,[root],bx⟩
theorem OpenF {id:Int} {Q:Int→AH→Prop} (h:Own (MacL c F G W u ls z sps (famR cp c.m n L l)) A) (hs:SpsOK sps L) (hf:FamOK c.N F G W z ls L) (hid:0≤id) (hnew:∀ a ∈ L,a.id≠id) (hu:0≤u∧u+2≤c.T.q+1) (hN:c.N≤262144) (hkn:0≤c.kern∧c.kern<c.N)
  (hk:∀ p root sps' F' G' W' A',SpsOK sps' (Sp.new id p root c.T.bx::L)→FamOK c.N F' G' W' z ls (Sp.new id p root c.T.bx::L)→F root→(∀ g,G g→W' g=W g)→(∀ g,F' g↔F g∧g≠root)→(∀ g,G' g↔G g∨g=root)→
   Own (MacL c F' G' W' (u+1) ls z sps' (famR cp c.m n (Sp.new id p root c.T.bx::L) l)) A'→Q 0 A'):qca_A (some ⟨c.m,0,none⟩) id c.T.bx Q A:=by
 have hnone:L.find? (fun a=>a.id==id)=none:=by
  rw [List.find?_eq_none]
  intro a ha hq
  exact hnew a ha (by simpa using hq)
 have hFG:=(bud_apart h.tail).1
 refine Open_spec h hid (by rw [hs.find hf.ids,hnone];rfl) hf.std hu (by omega) ⟨hkn.1,by omega⟩ fun p root A1 W1 hroot hp1 hR hW h1=>?_
 have hWk:∀ g,G g→W1 g=W g:=fun g hg=>hW g fun e=>hFG root hroot (by rw [←e];exact hg)
 refine hk p root (putM sps id (ptrV p)) (fun x=>F x∧x ∉ [root]) (fun x=>G x∨x ∈ [root]) W1 A1 ?_ ⟨hp1,fun a ha=>?_,?_,fun a ha b hb hne f hfa=>?_,fun a ha q x hx=>?_,fun a ha q x hx=>?_,fun a ha=>?_,hf.pc,?_⟩ hroot hWk (fun g=>by simp) (fun g=>by simp) ?_
 ·have hnl:sps.lookup id=none:=by rw [hs.find hf.ids,hnone];rfl
  rw [putM_new hnl]
  exact (List.perm_append_comm (l₁:=sps) (l₂:=[(id,ptrV p)])).trans (List.Perm.cons _ hs)
 ·rcases List.mem_cons.1 ha with rfl | ha
  ·exact hR
  ·exact (hf.rest a ha).keep (fun f hfa=>hWk f ((hf.rest a ha).inG f hfa)) fun f hfa=>.inl ((hf.rest a ha).inG f hfa)
 ·rw [List.map_cons,List.nodup_cons]
  refine ⟨fun q=>?_,hf.ids⟩
  obtain ⟨a,ha,e⟩:=List.mem_map.1 q
  exact hnew a ha e
 ·rcases List.mem_cons.1 ha with rfl | ha2<;>rcases List.mem_cons.1 hb with rfl | hb2
  ·exact absurd rfl hne
  ·intro q
   have:f=root:=by simpa [Sp.new] using hfa
   subst this
   exact hFG f hroot ((hf.rest b hb2).inG f q)
  ·intro q
   have:f=root:=by simpa [Sp.new] using q
   subst this
   exact hFG f hroot ((hf.rest a ha2).inG f hfa)
  ·exact hf.apart a ha2 b hb2 hne f hfa
 ·rcases List.mem_cons.1 ha with rfl | ha
  ·cases hx
  ·obtain ⟨k1,k2⟩:=hf.leafG a ha q x hx
   refine ⟨.inl k1,fun b hb=>?_⟩
   rcases List.mem_cons.1 hb with rfl | hb
   ·intro q2
    have:x.frame=root:=by simpa [Sp.new] using q2
    exact hFG root hroot (by rw [←this];exact k1)
   ·exact k2 b hb
 ·rcases List.mem_cons.1 ha with rfl | ha
  ·cases hx
  ·exact hf.reg a ha q x hx
 ·rcases List.mem_cons.1 ha with rfl | ha
  ·simp [Sp.new]
  ·exact hf.rl a ha
 ·have:lfOf (Sp.new id p root c.T.bx::L)=lfOf L:=by
   funext id'
   simp only [lfOf]
   rw [List.find?_cons]
   by_cases e:id=id'
   ·have e1:((Sp.new id p root c.T.bx).id==id')=true:=by simp [Sp.new,e]
    rw [e1]
    subst e
    rw [hnone];rfl
   ·have:((Sp.new id p root c.T.bx).id==id')=false:=by simpa [Sp.new] using e
    rw [this]
  rw [this]
  exact hf.ln
 ·exact Fam.unfocus (pre:=[]) (a:=Sp.new id p root c.T.bx) h1
def Sp.with1 (a:Sp) (s:Sl) (y:Reg):Sp:={ a with s:=s,regs:=[y] }
theorem MapF {y:Reg} {Q:Int→AH→Prop} (h:Own (MacL c F G W u ls z sps (famR cp c.m n (pre++a::post) l)) A) (hs:SpsOK sps (pre++a::post)) (hf:FamOK c.N F G W z ls (pre++a::post)) (hs0:a.s=Sl.nil) (hr0:a.regs=[]) (hl0:∀ q,a.lf q=none) (hb:rightB y.a y.b=true) (hy:y.k=0)
  (hk:∀ s A',SpsOK sps (pre++a.with1 s y::post)→FamOK c.N F G W z ls (pre++a.with1 s y::post)→Own (MacL c F G W u ls z sps (famR cp c.m n (pre++a.with1 s y::post) l)) A'→Q 0 A'):qer_A (some ⟨c.m,0,none⟩) a.id y.a y.b y.w y.u y.x Q A:=by
 have h1:=Fam.focus h
 unfold Sp.own at h1
 rw [hs0,hr0] at h1
 refine SpMap_nil h1 (hs.mid hf.ids) hb hy fun s A1 h2=>hk s A1 (hs.set hf.ids rfl rfl) ?_ (Fam.unfocus (a:=a.with1 s y) h2)
 have hb2:0≤y.a∧y.b≤34359738368:=by
  unfold rightB at hb
  simp at hb
  omega
 have hid:(a.with1 s y).id=a.id:=rfl
 have up:∀ {b:Sp},b ∈ pre++a.with1 s y::post→∃ b0 ∈ pre++a::post,b0.id=b.id∧b0.root=b.root∧b0.tab=b.tab∧b0.lf=b.lf∧b0.tl=b.tl∧(b0=b∨b=a.with1 s y):=fun {b} hb=>by
  rcases mem_mid.1 hb with rfl | hb
  ·exact ⟨a,mem_mid.2 (.inl rfl),rfl,rfl,rfl,rfl,rfl,.inr rfl⟩
  ·exact ⟨b,mem_mid.2 (.inr hb),rfl,rfl,rfl,rfl,rfl,.inl rfl⟩
 refine ⟨hf.std,fun b hb=>?_,by rw [ids_mid hid];exact hf.ids,fun b hb d hd hne f hfb=>?_,fun b hb q x hx=>?_,fun b hb q x hx=>?_,fun b hb=>?_,hf.pc,?_⟩
 ·obtain ⟨b0,k0,_,k2,k3,k4,k5,_⟩:=up hb
  rw [←k2,← k3,← k4,← k5];exact hf.rest b0 k0
 ·obtain ⟨b0,k0,k1,_,_,_,k5,_⟩:=up hb
  obtain ⟨d0,j0,j1,_,_,_,j5,_⟩:=up hd
  rw [←j5]
  exact hf.apart b0 k0 d0 j0 (by rw [k1,j1];exact hne) f (by rw [k5];exact hfb)
 ·obtain ⟨b0,k0,_,_,_,k4,_,_⟩:=up hb
  obtain ⟨i1,i2⟩:=hf.leafG b0 k0 q x (by rw [k4];exact hx)
  refine ⟨i1,fun d hd=>?_⟩
  obtain ⟨d0,j0,_,_,_,_,j5,_⟩:=up hd
  rw [←j5];exact i2 d0 j0
 ·obtain ⟨b0,k0,_,_,_,k4,_,k6⟩:=up hb
  rcases k6 with rfl | rfl
  ·exact hf.reg b0 k0 q x hx
  ·rw [show (a.with1 s y).lf=a.lf from rfl,hl0] at hx;cases hx
 ·obtain ⟨b0,k0,_,_,_,_,_,k6⟩:=up hb
  rcases k6 with rfl | rfl
  ·exact hf.rl b0 k0
  ·exact ⟨by simp [Sp.with1],fun y' hy'=>by simp [Sp.with1] at hy';subst hy';exact hb2⟩
 ·rw [lfOf_set hf.ids hid]
  have:updV (lfOf (pre++a::post)) a.id (a.with1 s y).lf=lfOf (pre++a::post):=by
   rw [show (a.with1 s y).lf=lfOf (pre++a::post) a.id from (lfOf_mid hf.ids).symm,updV_id]
  rw [this];exact hf.ln
end Go.Dn
/- One space on a machine with a processor: what its loads and stores tell. -/
namespace Go.Dn
variable {A:AH} {l R:List SP} {ls:List Ln} {c:Mb} {u:Int} {F G F' G':Int→Prop} {W W':Int→Int→Int} {z:PcZ} {sps:List (Int × Value)} {cp n:Nat} {a:Sp} {N:Int} {D:Int→Int→Int}
structure DOK (W:Int→Int→Int) (a:Sp) (D:Int→Int→Int):Prop where
 there:∀ q x,a.lf q=some x→∀ i,W x.frame i=D q i
 zero:∀ q,a.lf q=none→∀ i,D q i=0
 inj:∀ q q' x x',a.lf q=some x→a.lf q'=some x'→x.frame=x'.frame→q=q'
theorem DOK.grow {page u':Int} {y:Reg} {x:Lf} {tab':Tab} {lf':Int→Option Lf} {tl':List Int} (h:DOK W a D) (hFG:∀ f,F f→¬ G f) (hl:∀ q x,a.lf q=some x→G x.frame∧x.frame ∉ a.tl)
  (hG:Grow N F G W u a.root a.tab a.lf a.tl page y x F' G' W' u' tab' lf' tl'):DOK W' (a.as tab' lf' tl') D:=by
 have old:∀ q x',lf' q=some x'→q≠page→a.lf q=some x':=fun q x' hx hq=>by rw [hG.old q hq] at hx;exact hx
 cases e:a.lf page with
 | some x0=>
  have e5:=(hG.same (by rw [e];simp)).2.2.2.2.1
  refine ⟨fun q x' hx i=>?_,fun q hq i=>?_,fun q q' x1 x2 h1 h2 h3=>?_⟩
  ·have hx:a.lf q=some x':=by rw [←e5];exact hx
   obtain ⟨k1,k2⟩:=hl q x' hx
   rw [hG.keep _ k1 k2];exact h.there q x' hx i
  ·have hq:a.lf q=none:=by rw [←e5];exact hq
   exact h.zero q hq i
  ·exact h.inj q q' x1 x2 (by rw [←e5];exact h1) (by rw [←e5];exact h2) h3
 | none=>
  obtain ⟨k1,k2,k3,k4⟩:=hG.new e
  refine ⟨fun q x' hx i=>?_,fun q hq i=>?_,fun q q' x1 x2 h1 h2 h3=>?_⟩
  ·by_cases g:q=page
   ·subst g
    have hx:lf' q=some x':=hx
    rw [hG.leaf] at hx;cases hx
    rw [k3,h.zero q e]
   ·have hx:=old q x' hx g
    obtain ⟨j1,j2⟩:=hl q x' hx
    rw [hG.keep _ j1 j2];exact h.there q x' hx i
  ·have hq:lf' q=none:=hq
   by_cases g:q=page
   ·subst g;rw [hG.leaf] at hq;cases hq
   ·rw [hG.old q g] at hq;exact h.zero q hq i
  ·have h1:lf' q=some x1:=h1
   have h2:lf' q'=some x2:=h2
   by_cases g1:q=page<;>by_cases g2:q'=page
   ·rw [g1,g2]
   ·subst g1
    rw [hG.leaf] at h1;cases h1
    have:=(hl q' x2 (old q' x2 h2 g2)).1
    rw [←h3] at this
    exact absurd this (hFG _ k1)
   ·subst g2
    rw [hG.leaf] at h2;cases h2
    have:=(hl q x1 (old q x1 h1 g1)).1
    rw [h3] at this
    exact absurd this (hFG _ k1)
   ·exact h.inj q q' x1 x2 (old q x1 h1 g1) (old q' x2 h2 g2) h3
def setD (D:Int→Int→Int) (q i v:Int):Int→Int→Int:=fun q' i'=>if q'=q∧i'=i then v else D q' i'
theorem DOK.store {q i v:Int} {x:Lf} (h:DOK W a D) (hx:a.lf q=some x):DOK (setW W x.frame i v) a (setD D q i v):=by
 refine ⟨fun q' x' hx' i'=>?_,fun q' hq i'=>?_,h.inj⟩
 ·unfold setW setD
  by_cases g:q'=q
  ·subst g
   rw [hx] at hx';cases hx'
   by_cases gi:i'=i
   ·rw [if_pos ⟨rfl,gi⟩,if_pos ⟨rfl,gi⟩]
   ·rw [if_neg (fun e=>gi e.2),if_neg (fun e=>gi e.2)];exact h.there q' x hx i'
  ·rw [if_neg (fun e=>g (h.inj q' q x' x hx' hx e.1)),if_neg (fun e=>g e.1)]
   exact h.there q' x' hx' i'
 ·unfold setD
  rw [if_neg (fun e=>by rw [e.1,hx] at hq;cases hq)]
  exact h.zero q' hq i'
def cntP (lf:Int→Option Lf) (ps:List Int):Nat:=(ps.filter fun q=>(lf q).isNone).length
theorem cntP_le {lf lf':Int→Option Lf}:∀ {ps:List Int},(∀ q,lf q≠none→lf' q≠none)→cntP lf' ps≤cntP lf ps
 | [],_=>Nat.le_refl _
 | q::ps,h=>by
  have:=cntP_le (ps:=ps) h
  unfold cntP at this ⊢
  rw [List.filter_cons,List.filter_cons]
  cases e:lf q with
  | none=>
   simp only [Option.isNone_none,if_true]
   split<;>simp<;>omega
  | some x=>
   have:=h q (by rw [e];simp)
   cases e':lf' q with
   | none=>exact absurd e' this
   | some x'=>simpa using ‹_›
theorem cntP_lt {lf lf':Int→Option Lf} {pg:Int}:∀ {ps:List Int},(∀ q,lf q≠none→lf' q≠none)→pg ∈ ps→lf pg=none→lf' pg≠none→cntP lf' ps+1≤cntP lf ps
 | q::ps,h,hm,h1,h2=>by
  by_cases g:q=pg
  ·subst g
   have:=cntP_le (ps:=ps) h
   unfold cntP at this ⊢
   rw [List.filter_cons,List.filter_cons,h1]
   cases e':lf' q with
   | none=>exact absurd e' h2
   | some x'=>simpa using this
  ·have hm:pg ∈ ps:=by
    rcases List.mem_cons.1 hm with e | e
    ·exact absurd e.symm g
    ·exact e
   have:=cntP_lt (ps:=ps) h hm h1 h2
   unfold cntP at this ⊢
   rw [List.filter_cons,List.filter_cons]
   cases e:lf q with
   | none=>
    simp only [Option.isNone_none,if_true]
    split<;>simp<;>omega
   | some x=>
    have:=h q (by rw [e];simp)
    cases e':lf' q with
    | none=>exact absurd e' this
    | some x'=>simpa using ‹_›
theorem Grow.cnt {page u':Int} {y:Reg} {x:Lf} {root:Int} {tab tab':Tab} {lf lf':Int→Option Lf} {tl tl':List Int} {ps:List Int} (hG:Grow N F G W u root tab lf tl page y x F' G' W' u' tab' lf' tl') (hnd:tl.Nodup) (hp:page ∈ ps):u'+4*cntP lf' ps≤u+4*cntP lf ps∧u≤u':=by
 cases e:lf page with
 | some x0=>
  obtain ⟨_,_,e3,_,e5,_⟩:=hG.same (by rw [e];simp)
  rw [e3,e5];omega
 | none=>
  obtain ⟨_,_,_,_,_,k6,k7,k8,k9⟩:=hG.new e
  have hmono:∀ q,lf q≠none→lf' q≠none:=fun q hq=>by
   by_cases g:q=page
   ·rw [g];rw [g] at hq;exact absurd e hq
   ·rw [hG.old q g];exact hq
  have:=cntP_lt hmono hp e (by rw [hG.leaf];simp)
  have hlen:=nodup_le (l:=tl') hnd k9
  omega
def One1 (c:Mb) (cp n:Nat) (id:Int) (regs:List Reg) (ps:List Int) (D:Int→Int→Int) (l:List SP):AP:=fun A=>∃ F G W u ls z sps a,a.id=id∧a.bx=c.T.bx∧a.regs=regs∧FamOK c.N F G W z ls [a]∧SpsOK sps [a]∧DOK W a D∧
 (0≤u∧u+4*cntP a.lf ps+5≤c.T.q+1)∧Own (MacL c F G W u ls z sps (famR cp c.m n [a] l)) A
theorem Do1 {id addr x0:Int} {aw:Bool} {size:Nat} {regs:List Reg} {ps:List Int} {Q:Int→Int→Int→Int→AH→Prop} (h:One1 c cp n id regs ps D l A) (hN:c.N≤262144) (ha:0≤addr∧addr<140737488355328) (hsz:size=1∨size=2∨size=4∨size=8) (hd:addr % size=0)
  (hps:findR regs (addr / 4096)≠none→addr / 4096 ∈ ps)
  (hno:(∀ y,findR regs (addr / 4096)=some y→mayZ y.w y.u y.x aw true false=false)→∀ A',One1 c cp n id regs ps D l A'→∀ t,(findR regs (addr / 4096)=none→t=0)→Q 0 addr (codeZ aw true false+t) 9 A')
  (hkl:aw=false→∀ y,findR regs (addr / 4096)=some y→mayZ y.w y.u y.x aw true false=true→∀ A',One1 c cp n id regs ps D l A'→Q (getB (D (addr / 4096) (addr % 4096 / 8)) (addr % 4096 % 8).toNat size) 0 0 0 A')
  (hks:aw=true→∀ y,findR regs (addr / 4096)=some y→mayZ y.w y.u y.x aw true false=true→∀ A',One1 c cp n id regs ps (setD D (addr / 4096) (addr % 4096 / 8) (putB (D (addr / 4096) (addr % 4096 / 8)) (addr % 4096 % 8).toNat size x0)) l A'→Q 0 0 0 0 A') :
  qec_A (some ⟨cp,0,none⟩) id addr size aw x0 Q A:=by
 obtain ⟨F,G,W,u,ls,z,sps,a,rfl,hbx,rfl,hf,hs,hD,hu,h⟩:=h
 have hFG:=(bud_apart h.tail).1
 have hla:∀ q x,a.lf q=some x→G x.frame∧x.frame ∉ a.tl:=fun q x hx=>by
  obtain ⟨k1,k2⟩:=hf.leafG a (by simp) q x hx
  exact ⟨k1,k2 a (by simp)⟩
 refine DoF (pre:=[]) (post:=[]) h hs hf hbx ⟨hu.1,by omega⟩ hN ha hsz hd (fun hn ls' z' A' hf' hA=>?_) (fun e y hy hm x F' G' W' u' tab' lf' tl' ls' z' A' hG hf' hs' hA=>?_) fun e y hy hm x F' G' W' u' tab' lf' tl' ls' z' A' hG hf' hs' hA=>?_
 ·refine hno hn A' ⟨F,G,W,u,ls',z',sps,a,rfl,hbx,rfl,hf',hs,hD,hu,hA⟩ _ fun hnone=>?_
  cases e:a.lf (addr / 4096) with
  | none=>simp
  | some x=>obtain ⟨y,hy,_⟩:=hf.reg a (by simp) _ x e;rw [hnone] at hy;cases hy
 ·have hc:=hG.cnt (hf.rest a (by simp)).nd (hps (by rw [hy];simp))
  have hD':=hD.grow hFG hla hG
  rw [hD'.there (addr / 4096) x hG.leaf]
  exact hkl e y hy hm A' ⟨F',G',W',u',ls',z',sps,a.as tab' lf' tl',rfl,hbx,rfl,hf',hs',hD',⟨by omega,by show u'+4*cntP lf' ps+5≤c.T.q+1;omega⟩,hA⟩
 ·have hc:=hG.cnt (hf.rest a (by simp)).nd (hps (by rw [hy];simp))
  have hD':=hD.grow hFG hla hG
  rw [hD'.there (addr / 4096) x hG.leaf] at hA hf'
  exact hks e y hy hm A' ⟨F',G',_,u',ls',z',sps,a.as tab' lf' tl',rfl,hbx,rfl,hf',hs',hD'.store hG.leaf,⟨by omega,by show u'+4*cntP lf' ps+5≤c.T.q+1;omega⟩,hA⟩
end Go.Dn
