/- What the proof stands on: Mac, Mac2, LnP. -/
import Derived.Test.YtmfmhmipcdgikaaGreatMWorld
import Derived.Test.YtmfmhmipcdgikaaGreatReg2
import Derived.Test.YtmfmhmipcdgikaaGreatPlainM
/- A machine of spaces: how it begins. -/
namespace Go.Dn
structure Mb where
 N:Int
 r:Nat
 b:Nat
 t:Nat
 m:Nat
 tl:Nat
 tg:Nat
 sp:Nat
 kern:Int
 T:Tr
def macC (c:Mb):List Value:=[.pointer (some ⟨c.r,0,none⟩),.pointer (some ⟨c.b,0,none⟩),.pointer (some ⟨c.t,0,none⟩),.pointer (some ⟨c.tl,0,none⟩),.pointer (some ⟨c.tg,0,none⟩),.int .i64 c.kern,.map (some c.sp)]
def MacL (c:Mb) (F G:Int→Prop) (W:Int→Int→Int) (u:Int) (ls:List Ln) (z:PcZ) (sps:List (Int × Value)) (R:List SP):List SP:=
 StdO c.N c.r c.b c.t c.T F G W u (At c.m (macC c)::MapI c.sp .i64 sps::TlbS c.tl ls::PcS c.tg z::R)
variable {A:AH} {l R R':List SP} {c:Mb} {u:Int} {F G:Int→Prop} {W:Int→Int→Int} {ls:List Ln} {z:PcZ} {sps:List (Int × Value)} {root:Int} {tab:Tab} {lf:Int→Option Lf} {tl:List Int}
theorem MacL.mapR (f:∀ C,Own R C→Own R' C) (h:Own (MacL c F G W u ls z sps R) A):Own (MacL c F G W u ls z sps R') A:=
 h.cons fun _ h=>h.cons fun _ h=>h.cons fun _ h=>h.cons fun _ h=>h.cons fun _ h=>h.cons fun _ h=>h.cons f
theorem MacL.rest (h:Own (MacL c F G W u ls z sps R) A):Own R A:=h.tail.tail.tail.tail.tail.tail.tail
theorem MacL.tags (h:Own (MacL c F G W u ls z sps R) A):Own (PcS c.tg z::StdO c.N c.r c.b c.t c.T F G W u (At c.m (macC c)::MapI c.sp .i64 sps::TlbS c.tl ls::R)) A:=by
 unfold MacL StdO at h
 exact h.pick 6 rfl
theorem MacL.tagsB {z':PcZ} (h:Own (PcS c.tg z'::StdO c.N c.r c.b c.t c.T F G W u (At c.m (macC c)::MapI c.sp .i64 sps::TlbS c.tl ls::R)) A):Own (MacL c F G W u ls z' sps R) A:=by
 have:=Own.back (l:=MacL c F G W u ls z' sps R) (P:=PcS c.tg z') (P':=PcS c.tg z') 6 rfl h
 exact this
theorem MacL.tlb (h:Own (MacL c F G W u ls z sps R) A):Own (TlbS c.tl ls::StdO c.N c.r c.b c.t c.T F G W u (At c.m (macC c)::MapI c.sp .i64 sps::PcS c.tg z::R)) A:=by
 unfold MacL StdO at h
 exact h.pick 5 rfl
theorem MacL.tlbB {ls':List Ln} (h:Own (TlbS c.tl ls'::StdO c.N c.r c.b c.t c.T F G W u (At c.m (macC c)::MapI c.sp .i64 sps::PcS c.tg z::R)) A):Own (MacL c F G W u ls' z sps R) A:=by
 have:=Own.back (l:=MacL c F G W u ls' z sps R) (P:=TlbS c.tl ls') (P':=TlbS c.tl ls') 5 rfl h
 exact this
theorem Own.capS6 {s:Sl} {sz:Nat} {cs:List Value} (h:Own (SlO s sz cs::R) A):s.len≤s.cap:=by
 obtain ⟨B,_,hB⟩:=h.sat
 exact hB.1.2
theorem purse_head {k:Nat} {box:Int} {Q:Option Addr→Option Addr→Option Addr→Int→AH→Prop} (h:Own l A) (e:l[k]? = some (At c.m (macC c))) (hk:Q (some ⟨c.r,0,none⟩) (some ⟨c.b,0,none⟩) (some ⟨c.t,0,none⟩) box A) :
  qau_A (some ⟨c.m,0,none⟩) box Q A:=by
 unfold qau_A
 simp only [onSome_some,add_at,Nat.zero_add]
 exact ld_P h e rfl (ld_P h e rfl (ld_P h e rfl hk))
end Go.Dn
/- A machine of spaces: its calls. -/
namespace Go.Dn
variable {A:AH} {l R R':List SP} {c:Mb} {u:Int} {F G:Int→Prop} {W:Int→Int→Int} {ls:List Ln} {z:PcZ} {sps:List (Int × Value)} {root box:Int} {tab:Tab} {lf:Int→Option Lf} {tl:List Int} {p:Nat} {s:Sl} {regs:List Reg} {lent:List (Int × Int)}
def oneL (p lm:Nat) (box root:Int) (s:Sl) (regs:List Reg) (lent:List (Int × Int)):List SP:=[At p [.int .i64 box,.int .i64 root,.slice s.a s.len s.cap,.map (some lm)],SlO s 6 (regC regs),MapI lm .i64 (ivs lent)]
def OneS (p:Nat) (box root:Int) (s:Sl) (regs:List Reg) (lent:List (Int × Int)):SP:=fun B=>∃ lm,Own (oneL p lm box root s regs lent) B
theorem OneS.openH (h:Own (OneS p box root s regs lent::R) A):∃ lm,Own (oneL p lm box root s regs lent++R) A:=by
 obtain ⟨lm,h⟩:=Own.ex h
 exact ⟨lm,Own.flat h⟩
theorem OneS.closeH {lm:Nat} (h:Own (oneL p lm box root s regs lent++R) A):Own (OneS p box root s regs lent::R) A:=h.app.imp fun _ hB=>⟨lm,hB⟩
theorem MacL.openOne (h:Own (MacL c F G W u ls z sps (OneS p box root s regs lent::R)) A):∃ lm,Own (MacL c F G W u ls z sps (oneL p lm box root s regs lent++R)) A:=by
 unfold MacL StdO at h
 have h:=h.pick 7 rfl
 obtain ⟨lm,h⟩:=OneS.openH h
 refine ⟨lm,?_⟩
 unfold MacL StdO
 have h:Own (oneL p lm box root s regs lent++([RamW c.r c.N [] W,Bud c.b F G (c.T.fr-u),TreeS c.t (c.T.ns (u)),At c.m (macC c),MapI c.sp .i64 sps,TlbS c.tl ls,PcS c.tg z]++R)) A:=h
 rw [←List.append_assoc] at h
 have h2:=h.perm (List.Perm.append_right R List.perm_append_comm)
 rw [List.append_assoc] at h2
 exact h2
theorem MacL.closeOne {lm:Nat} (h:Own (MacL c F G W u ls z sps (oneL p lm box root s regs lent++R)) A):Own (MacL c F G W u ls z sps (OneS p box root s regs lent::R)) A:=
 MacL.mapR (fun _ hC=>OneS.closeH hC) h
def ptrV (p:Nat):Value:=.pointer (some ⟨p,0,none⟩)
theorem Open_spec {id:Int} {Q:Int→AH→Prop} (h:Own (MacL c F G W u ls z sps l) A) (hid:0≤id) (hs:sps.lookup id=none) (hp:StdP c.N F G) (hu:0≤u∧u+2≤c.T.q+1) (hN:c.N≤1048576) (hkn:0≤c.kern∧c.kern<1048576)
  (hk:∀ p root A' W',F root→StdP c.N (fun x=>F x∧x ∉ [root]) (fun x=>G x∨x ∈ [root])→Rest (fun x=>G x∨x ∈ [root]) W' root (tab0 root) (fun _=>none) [root]→(∀ f,f≠root→W' f=W f)→
   Own (MacL c (fun x=>F x∧x ∉ [root]) (fun x=>G x∨x ∈ [root]) W' (u+1) ls z (putM sps id (ptrV p)) (OneS p c.T.bx root Sl.nil [] []::l)) A'→Q 0 A'):qca_A (some ⟨c.m,0,none⟩) id c.T.bx Q A:=by
 unfold qca_A qca_G
 refine bsel_f (by simpa using hid) ?_
 simp only [onSome_some,add_at,Nat.zero_add]
 refine ld_M (i:=3) h rfl rfl (lk_M (i:=4) h rfl ?_)
 rw [hs]
 refine ⟨none,rfl,bsel_f rfl (ld_I (i:=3) h rfl rfl (purse_head (k:=3) h rfl ⟨ld_I (i:=3) h rfl rfl rfl,?_⟩))⟩
 refine sRoot h hp hu hN hkn fun root A1 W' hf hp1 hR hW _ _ h1=>bsel_f rfl ?_
 refine ld_M (i:=3) h1 rfl rfl ?_
 refine new_M (k:=.i64) h1 fun lm A2 h2=>?_
 refine new_C (cs:=[.int .i64 c.T.bx,.int .i64 root,.slice none 0 0,.map (some lm)]) h2 fun p A3 h3=>?_
 refine st_M (i:=6) h3 rfl fun A4 h4=>hk p root A4 W' hf hp1 hR hW ?_
 have h4:Own (At p [.int .i64 c.T.bx,.int .i64 root,.slice none 0 0,.map (some lm)]::MapI lm .i64 []::MacL c (fun x=>F x∧x ∉ [root]) (fun x=>G x∨x ∈ [root]) W' (u+1) ls z (putM sps id (ptrV p)) l) A4:=h4
 have h5:Own (oneL p lm c.T.bx root Sl.nil [] []++MacL c (fun x=>F x∧x ∉ [root]) (fun x=>G x∨x ∈ [root]) W' (u+1) ls z (putM sps id (ptrV p)) l) A4:=h4.cons fun C hC=>Own.nil6 hC
 have h6:=OneS.closeH h5
 unfold MacL StdO at h6 ⊢
 exact Own.back (l:=RamW c.r c.N [] W'::Bud c.b (fun x=>F x∧x ∉ [root]) (fun x=>G x∨x ∈ [root]) (c.T.fr-(u+1))::TreeS c.t (c.T.ns (u+1))::At c.m (macC c)::MapI c.sp .i64 (putM sps id (ptrV p))::TlbS c.tl ls::PcS c.tg z::OneS p c.T.bx root Sl.nil [] []::l) (P:=OneS p c.T.bx root Sl.nil [] []) 7 rfl h6
theorem SpMap_nil {id:Int} {y:Reg} {Q:Int→AH→Prop} (h:Own (MacL c F G W u ls z sps (OneS p box root Sl.nil [] lent::l)) A) (hs:sps.lookup id=some (ptrV p)) (hb:rightB y.a y.b=true) (hy:y.k=0)
  (hk:∀ s A',Own (MacL c F G W u ls z sps (OneS p box root s [y] lent::l)) A'→Q 0 A'):qer_A (some ⟨c.m,0,none⟩) id y.a y.b y.w y.u y.x Q A:=by
 obtain ⟨ya,yb,yw,yu,yx,yk⟩:=y
 simp only at hy hb hk ⊢
 subst hy
 obtain ⟨lm,h⟩:=MacL.openOne h
 unfold qer_A qer_G
 simp only [onSome_some,add_at,Nat.zero_add]
 refine ld_M (i:=3) h rfl rfl (lk_M (i:=4) h rfl ?_)
 rw [hs]
 refine ⟨some ⟨p,0,none⟩,rfl,bsel_f rfl ?_⟩
 simp only [onSome_some,add_at,Nat.zero_add]
 refine ld_S (i:=7) h rfl rfl ?_
 refine Add_nil (y:=⟨ya,yb,yw,yu,yx,0⟩) h hb fun s A1 hsn h1=>?_
 refine ⟨fun A'=>Own (MacL c F G W u ls z sps (OneS p box root s [⟨ya,yb,yw,yu,yx,0⟩] lent::l)) A',fun A2 h2=>hk s A2 h2,?_⟩
 refine bsel_t rfl ?_
 refine st_C (i:=8) h1 rfl rfl rfl fun A2 h2=>?_
 have h2:Own (SlO s 6 (regC [⟨ya,yb,yw,yu,yx,0⟩])::MacL c F G W u ls z sps (At p [.int .i64 box,.int .i64 root,.slice s.a s.len s.cap,.map (some lm)]::SlO Sl.nil 6 (regC [])::MapI lm .i64 (ivs lent)::l)) A2:=h2
 refine MacL.closeOne (lm:=lm) ?_
 unfold MacL StdO at h2 ⊢
 have h3:=Own.back (l:=RamW c.r c.N [] W::Bud c.b F G (c.T.fr-u)::TreeS c.t (c.T.ns (u))::At c.m (macC c)::MapI c.sp .i64 sps::TlbS c.tl ls::PcS c.tg z::At p [.int .i64 box,.int .i64 root,.slice s.a s.len s.cap,.map (some lm)]::SlO s 6 (regC [⟨ya,yb,yw,yu,yx,0⟩])::SlO Sl.nil 6 (regC [])::MapI lm .i64 (ivs lent)::l) (P:=SlO s 6 (regC [⟨ya,yb,yw,yu,yx,0⟩])) (P':=SlO s 6 (regC [⟨ya,yb,yw,yu,yx,0⟩])) 8 rfl h2
 exact h3.sub (List.Sublist.cons_cons _ (List.Sublist.cons_cons _ (List.Sublist.cons_cons _ (List.Sublist.cons_cons _ (List.Sublist.cons_cons _ (List.Sublist.cons_cons _ (List.Sublist.cons_cons _ (List.Sublist.cons_cons _ (List.Sublist.cons_cons _ (List.Sublist.cons _ (List.Sublist.refl _)))))))))))
theorem Tag_spec {id:Int} {Q:Int→AH→Prop} (h:Own (MacL c F G W u ls z sps l) A) (hz:z.OK)
  (hk:∀ A',Own (MacL c F G W u (if (getZ z id).2.2=true then ls.map (allF true) else ls) (getZ z id).1 sps l) A'→Q (getZ z id).2.1 A'):qda_A (some ⟨c.m,0,none⟩) id Q A:=by
 unfold qda_A qda_G
 simp only [onSome_some,add_at,Nat.zero_add]
 refine ld_P (i:=3) h rfl rfl ?_
 refine pGet_spec (MacL.tags h) hz fun A1 h1=>?_
 have h1:=MacL.tagsB h1
 refine ⟨fun A'=>Own (MacL c F G W u (if (getZ z id).2.2=true then ls.map (allF true) else ls) (getZ z id).1 sps l) A',fun A2 h2=>hk A2 h2,?_⟩
 refine bsel_in (fun g=>?_) fun g=>?_
 ·refine ld_P (i:=3) h1 rfl rfl ?_
  refine All_spec (MacL.tlb h1) fun A2 h2=>?_
  rw [if_pos g]
  exact MacL.tlbB h2
 ·rw [if_neg (by rw [g];simp)]
  exact h1
theorem or_code {aw au:Bool}:bits .or .i64 ((if aw then 2 else 0)+(if au then 4 else 0)) 16=(if aw then 2 else 0)+(if au then 4 else 0)+16:=by
 cases aw<;>cases au<;>decide
theorem or_there {aw au af:Bool}:bits .or .i64 (codeZ aw au af) 1=codeZ aw au af+1:=by
 cases aw<;>cases au<;>cases af<;>decide
theorem Touch_spec {id page:Int} {aw au af:Bool} {Q:Int→Int→Int→AH→Prop} (h:Own (MacL c F G W u ls z sps (OneS p c.T.bx root s regs lent::l)) A) (hs:sps.lookup id=some (ptrV p)) (hp:StdP c.N F G) (hu:0≤u∧u+5≤c.T.q+1) (hN:c.N≤1048576)
  (hR:Rest G W root tab lf tl) (hrl:regs.length≤64) (hpg:∀ y ∈ regs,0≤y.a∧y.b≤34359738368)
  (h9:findR regs page=none→∀ A',Own (MacL c F G W u ls z sps (OneS p c.T.bx root s regs lent::l)) A'→Q 0 (codeZ aw au af) 9 A')
  (hno:∀ y,findR regs page=some y→mayZ y.w y.u y.x aw au af=false→∀ A',Own (MacL c F G W u ls z sps (OneS p c.T.bx root s regs lent::l)) A'→Q 0 (codeZ aw au af+if lf page=none then 0 else 1) 9 A')
  (h0:∀ y x,findR regs page=some y→mayZ y.w y.u y.x aw au af=true→lf page=some x→∀ A',Own (MacL c F G W u ls z sps (OneS p c.T.bx root s regs lent::l)) A'→Q x.frame 0 0 A')
  (hk:∀ y,findR regs page=some y→mayZ y.w y.u y.x aw au af=true→lf page=none→∀ f tk W' tab' A',F f→(tk.length=needT tab page)→(∀ x ∈ tk,F x∧x≠f)→StdP c.N (fun x=>(F x∧x≠f)∧x ∉ tk) (fun x=>(G x∨x=f)∨x ∈ tk)→
   Rest (fun x=>(G x∨x=f)∨x ∈ tk) W' root tab' (setL lf page (some ⟨f,y.w,y.u,y.x⟩)) (tl++tk)→(∀ g,g ∉ tk→g ∉ tl→W' g=zeroW W f g)→
   Own (MacL c (fun x=>(F x∧x≠f)∧x ∉ tk) (fun x=>(G x∨x=f)∨x ∈ tk) W' (u+1+tk.length) ls z sps (OneS p c.T.bx root s regs lent::l)) A'→Q f 0 0 A') :
  qdr_A (some ⟨c.m,0,none⟩) id page aw au af Q A:=by
 obtain ⟨lm,h⟩:=MacL.openOne h
 have bk:∀ A',Own (MacL c F G W u ls z sps (oneL p lm c.T.bx root s regs lent++l)) A'→Own (MacL c F G W u ls z sps (OneS p c.T.bx root s regs lent::l)) A':=fun A' h'=>MacL.closeOne h'
 unfold qdr_A qdr_G
 simp only [onSome_some,add_at,Nat.zero_add]
 refine ld_M (i:=3) h rfl rfl (lk_M (i:=4) h rfl ?_)
 rw [hs]
 refine ⟨some ⟨p,0,none⟩,rfl,bsel_f rfl ?_⟩
 refine new_C (cs:=[.bool aw,.bool au]) h fun b5 A1 h1=>?_
 refine ⟨fun x v m A'=>A'=A1∧((v=0∧m=2∧x=0)∨(v=1∧m=1∧x=if aw then 2 else 0)∨(v=2∧m=0∧x=(if aw then 2 else 0)+(if au then 4 else 0))),⟨2,rfl,.inl ⟨rfl,rfl,rfl⟩⟩,?_⟩
 intro x v m A2 ⟨e1,e2⟩
 subst e1
 refine bsel_in (fun cc=>?_) fun cc=>?_
 ·have cc:v<2:=of_decide_eq_true cc
  refine ⟨fun x' A'=>A'=A2∧((v=0∧m=2∧x'=if aw then 2 else 0)∨(v=1∧m=1∧x'=(if aw then 2 else 0)+(if au then 4 else 0))),fun x' A3 ⟨f1,f2⟩=>?_,?_⟩
  ·rcases f2 with ⟨f2,f3,f4⟩ | ⟨f2,f3,f4⟩
   ·subst f2 f3;exact ⟨1,by omega,f1,.inr (.inl ⟨rfl,rfl,f4⟩)⟩
   ·subst f2 f3;exact ⟨0,by omega,f1,.inr (.inr ⟨rfl,rfl,f4⟩)⟩
  ·rcases e2 with ⟨e2,e3,e4⟩ | ⟨e2,e3,e4⟩ | ⟨e2,_⟩
   ·subst e2 e3 e4
    refine inB_in (by omega) (by omega) (ld_B (i:=0) h1 rfl rfl ?_)
    refine bsel_in (fun g=>bsel_f rfl ⟨rfl,.inl ⟨rfl,rfl,?_⟩⟩) fun g=>⟨rfl,.inl ⟨rfl,rfl,by rw [g];rfl⟩⟩
    rw [g];decide
   ·subst e2 e3 e4
    refine inB_in (by omega) (by omega) (ld_B (i:=0) h1 rfl rfl ?_)
    refine bsel_in (fun g=>bsel_f rfl ⟨rfl,.inr ⟨rfl,rfl,?_⟩⟩) fun g=>⟨rfl,.inr ⟨rfl,rfl,by rw [g];cases aw<;>rfl⟩⟩
    rw [g];cases aw<;>decide
   ·omega
 ·have cc:¬ v<2:=of_decide_eq_false cc
  have ex:x=(if aw then 2 else 0)+(if au then 4 else 0):=by
   rcases e2 with ⟨e2,_⟩ | ⟨e2,_⟩ | ⟨_,_,e4⟩
   ·omega
   ·omega
   ·exact e4
  subst ex
  have h1:=h1.tail
  refine ⟨fun x' A'=>x'=codeZ aw au af∧A'=A2,fun x' A3 ⟨f1,f2⟩=>?_,?_⟩
  ·subst f1 f2
   refine ld_S (i:=7) h1 rfl rfl ?_
   refine Find_spec (k:=8) h1 rfl reads_slo (by omega) (fun hf=>bsel_t rfl (h9 hf A3 (bk _ h1))) fun y hf hy hy1 hy2=>bsel_f rfl ?_
   refine ld_I (i:=7) h1 rfl rfl (purse_head (k:=3) h1 rfl ?_)
   refine ld_I (i:=7) h1 rfl rfl ?_
   obtain ⟨hpa,hpb⟩:=hpg y hy
   refine RQuery_spec h1 hp.inG hR (fun hl A4 h4=>?_) fun x hl A4 h4=>?_
   ·refine May_spec ?_
    refine bsel_in (fun g=>?_) fun g=>?_
    ·have g:mayZ y.w y.u y.x aw au af=false:=by simpa using g
     refine ⟨fun x' A'=>x'=codeZ aw au af∧A'=A4,fun x' A5 ⟨k1,k2⟩=>?_,bsel_f rfl ⟨rfl,rfl⟩⟩
     subst k1 k2
     have:=hno y hf g A5 (bk _ h4)
     rw [if_pos hl,Int.add_zero] at this
     exact this
    ·have g:mayZ y.w y.u y.x aw au af=true:=by simpa using g
     refine bsel_f rfl ?_
     refine sTake h4 hp ⟨by omega,by omega⟩ fun f A5 hff hp5 h5=>bsel_f rfl ?_
     refine ld_I (i:=7) h5 rfl rfl ?_
     have hff0:=has0.1 (hp.inF f hff)
     have hFG:=(bud_apart h4.tail).1
     have hR5:Rest (fun x=>G x∨x=f) (zeroW W f) root tab lf tl:=hR.keep (fun g hg=>zeroW_ne fun e=>hFG f hff (by rw [←e];exact hR.inG g hg)) fun g hg=>.inl (hR.inG g hg)
     refine sMap h5 hp5 ⟨by omega,by omega⟩ hR5 (fun g=>by omega) (fun _ _ _ _ g=>absurd hl g) fun _ _ _ _ _ tk W' tab' A6 hlen htk hp6 hR6 hW6 h6=>bsel_f rfl ?_
     exact hk y hf g hl f tk W' tab' A6 hff hlen htk hp6 hR6 hW6 (MacL.closeOne h6)
   ·refine May_spec ?_
    refine bsel_in (fun g=>?_) fun g=>?_
    ·have g:mayZ y.w y.u y.x aw au af=false:=by simpa using g
     refine ⟨fun x' A'=>x'=codeZ aw au af+1∧A'=A4,fun x' A5 ⟨k1,k2⟩=>?_,bsel_t rfl ⟨or_there,rfl⟩⟩
     subst k1 k2
     have:=hno y hf g A5 (bk _ h4)
     rw [if_neg (by rw [hl];simp)] at this
     exact this
    ·have g:mayZ y.w y.u y.x aw au af=true:=by simpa using g
     exact bsel_t rfl (h0 y x hf g hl A4 (bk _ h4))
  ·refine bsel_in (fun g=>⟨?_,rfl⟩) fun g=>⟨?_,rfl⟩
   ·subst g;exact or_code
   ·subst g;simp [codeZ]
end Go.Dn
/- Lines of translations that say what the tables say. -/
namespace Go.Dn
structure PcOK (z:PcZ):Prop where
 ok:z.OK
 to:∀ id t,z.tag.lookup id=some t→z.own.lookup t=some id∧1≤t∧t<z.next
 back:∀ t id,z.own.lookup t=some id→z.tag.lookup id=some t
 ndo:(z.own.map (·.1)).Nodup
 ndt:(z.tag.map (·.1)).Nodup
theorem putZ_keys {k v:Int}:∀ {m:List (Int × Int)},(m.map (·.1)).Nodup→((putZ m k v).map (·.1)).Nodup∧∀ x ∈ (putZ m k v).map (·.1),x=k∨x ∈ m.map (·.1)
 | [],_=>by simp [putZ]
 | q::m,h=>by
  rw [List.map_cons,List.nodup_cons] at h
  obtain ⟨i1,i2⟩:=putZ_keys (k:=k) (v:=v) (m:=m) h.2
  unfold putZ
  by_cases g:q.1=k
  ·rw [if_pos g]
   refine ⟨?_,fun x hx=>?_⟩
   ·rw [List.map_cons,List.nodup_cons]
    exact ⟨by rw [←g];exact h.1,h.2⟩
   ·rw [List.map_cons] at hx
    rcases List.mem_cons.1 hx with e | e
    ·exact .inl e
    ·exact .inr (List.mem_cons_of_mem _ e)
  ·rw [if_neg g]
   refine ⟨?_,fun x hx=>?_⟩
   ·rw [List.map_cons,List.nodup_cons]
    refine ⟨fun q2=>?_,i1⟩
    rcases i2 _ q2 with e | e
    ·exact g e
    ·exact h.1 e
   ·rw [List.map_cons] at hx
    rcases List.mem_cons.1 hx with e | e
    ·exact .inr (by rw [e];simp)
    ·rcases i2 x e with e | e
     ·exact .inl e
     ·exact .inr (List.mem_cons_of_mem _ e)
abbrev Vw:=Int→Int→Option Lf
def vw (z:PcZ) (LF:Vw):Vw:=fun t p=>match z.own.lookup t with | some id=>LF id p | none=>none
def LnOK (V:Vw) (ls:List Ln):Prop:=∀ y ∈ ls,y.v=true→y.g=false∧∃ x,V y.tag y.page=some x∧y.frame=x.frame∧y.w=x.w∧y.u=x.u∧y.x=x.x
variable {z:PcZ} {LF LF' V:Vw} {ls:List Ln} {id page:Int}
theorem pcNew_ok {n:Int} (h:1≤n∧n≤4095):PcOK (pcNew n):=⟨⟨h.1,h.2,by simp [pcNew],by simp [pcNew];omega⟩,fun id t e=>by simp [pcNew] at e,(fun t id e=>by simp [pcNew] at e),by simp [pcNew],by simp [pcNew]⟩
theorem getZ_tag (h:PcOK z) (id:Int):(getZ z id).1.tag.lookup id=some (getZ z id).2.1:=by
 unfold getZ
 cases e:z.tag.lookup id with
 | some n=>simpa using e
 | none=>
  simp only
  split
  ·simp
  ·simp [lookup_putZ]
theorem PcOK.get (h:PcOK z) (id:Int):PcOK (getZ z id).1:=by
 refine ⟨getZ_ok h.ok id,?_,?_,?_,?_⟩
 ·intro id' t e
  unfold getZ at e ⊢
  cases e1:z.tag.lookup id with
  | some n=>rw [e1] at e;exact h.to id' t e
  | none=>
   rw [e1] at e
   simp only at e ⊢
   split
   ·rename_i g
    rw [if_pos g] at e
    simp only [List.lookup_cons,List.lookup_nil] at e ⊢
    by_cases q:id'=id
    ·subst q;simp at e;subst e;simp
    ·have:(id'==id)=false:=by simpa using q
     rw [this] at e;cases e
   ·rename_i g
    rw [if_neg g] at e
    simp only [lookup_putZ] at e ⊢
    by_cases q:id'=id
    ·rw [if_pos q] at e;cases e
     rw [if_pos rfl,q]
     exact ⟨rfl,by have:=h.ok.2.2.1;omega,by omega⟩
    ·rw [if_neg q] at e
     obtain ⟨k1,k2,k3⟩:=h.to id' t e
     rw [if_neg (by omega)]
     exact ⟨k1,k2,by omega⟩
 ·intro t id' e
  unfold getZ at e ⊢
  cases e1:z.tag.lookup id with
  | some n=>rw [e1] at e;exact h.back t id' e
  | none=>
   rw [e1] at e
   simp only at e ⊢
   split
   ·rename_i g
    rw [if_pos g] at e
    simp only [List.lookup_cons,List.lookup_nil] at e ⊢
    by_cases q:t=1
    ·subst q;simp at e;subst e;simp
    ·have:(t==1)=false:=by simpa using q
     rw [this] at e;cases e
   ·rename_i g
    rw [if_neg g] at e
    simp only [lookup_putZ] at e ⊢
    by_cases q:t=z.next
    ·rw [if_pos q] at e;cases e
     rw [if_pos rfl,q]
    ·rw [if_neg q] at e
     have k1:=h.back t id' e
     rw [if_neg (fun w=>by subst w;rw [e1] at k1;cases k1)]
     exact k1
 ·unfold getZ
  cases e1:z.tag.lookup id with
  | some n=>exact h.ndo
  | none=>
   simp only
   split
   ·simp
   ·exact (putZ_keys h.ndo).1
 ·unfold getZ
  cases e1:z.tag.lookup id with
  | some n=>exact h.ndt
  | none=>
   simp only
   split
   ·simp
   ·exact (putZ_keys h.ndt).1
theorem vw_get (h:PcOK z) (id page:Int):vw (getZ z id).1 LF (getZ z id).2.1 page=LF id page:=by
 unfold vw
 rw [((h.get id).to id _ (getZ_tag h id)).1]
theorem LnOK.tag (h:PcOK z) (hl:LnOK (vw z LF) ls) (id:Int):LnOK (vw (getZ z id).1 LF) (if (getZ z id).2.2=true then ls.map (allF true) else ls):=by
 have hov:(getZ z id).2.2=true→LnOK (vw (getZ z id).1 LF) (ls.map (allF true)):=fun _ y hy hv=>by
  obtain ⟨y0,h0,rfl⟩:=List.mem_map.1 hy
  unfold allF at hv
  split at hv
  ·exact absurd hv (by simp [ln0])
  ·rename_i g
   have:=(hl y0 h0 hv).1
   rw [this] at g
   simp at g
 split
 ·rename_i g;exact hov g
 ·rename_i g
  intro y hy hv
  obtain ⟨h1,x,h2,h3⟩:=hl y hy hv
  refine ⟨h1,x,?_,h3⟩
  unfold getZ at g ⊢
  cases e1:z.tag.lookup id with
  | some n=>exact h2
  | none=>
   rw [e1] at g
   simp only at g ⊢
   split
   ·rename_i c;rw [if_pos c] at g;simp at g
   ·unfold vw at h2 ⊢
    simp only [lookup_putZ]
    by_cases q:y.tag=z.next
    ·exfalso
     cases e2:z.own.lookup y.tag with
     | none=>rw [e2] at h2;cases h2
     | some id'=>
      have:=(h.to id' _ (h.back _ _ e2)).2.2
      omega
    ·rw [if_neg q];exact h2
theorem LnOK.mono (hl:LnOK (vw z LF) ls) (h:∀ id p x,LF id p=some x→LF' id p=some x):LnOK (vw z LF') ls:=fun y hy hv=>by
 obtain ⟨h1,x,h2,h3⟩:=hl y hy hv
 refine ⟨h1,x,?_,h3⟩
 unfold vw at h2 ⊢
 cases e:z.own.lookup y.tag with
 | none=>rw [e] at h2;cases h2
 | some id=>rw [e] at h2;exact h _ _ _ h2
theorem LnOK.evict (hl:LnOK V ls) {k:Nat}:LnOK V (ls.set k ln0):=fun y hy hv=>by
 rcases List.mem_or_eq_of_mem_set hy with h | h
 ·exact hl y h hv
 ·subst h;cases hv
theorem LnOK.fill (hl:LnOK V ls) {way:Nat} {m:Ln} (hm:m.v=true→m.g=false∧∃ x,V m.tag m.page=some x∧m.frame=x.frame∧m.w=x.w∧m.u=x.u∧m.x=x.x):LnOK V (fillZ ls way m):=fun y hy hv=>by
 unfold fillZ at hy
 rcases List.mem_or_eq_of_mem_set hy with h | h
 ·unfold fillJ at h
  obtain ⟨i,hi,e⟩:=List.mem_iff_getElem.1 h
  simp only [List.getElem_mapIdx] at e
  subst e
  have hmem:ls[i]'(by simpa using hi) ∈ ls:=List.getElem_mem _
  by_cases g1:(m.page % 8).toNat*2≤i∧i<(m.page % 8).toNat*2+2
  ·rw [if_pos g1] at hv ⊢
   unfold clrF at hv ⊢
   by_cases g2:(fitsB m.tag m.page (ls[i]'(by simpa using hi)) || (m.g&&((ls[i]'(by simpa using hi)).v&&(ls[i]'(by simpa using hi)).page==m.page)))=true
   ·rw [if_pos g2] at hv;cases hv
   ·rw [if_neg g2] at hv ⊢;exact hl _ hmem hv
  ·rw [if_neg g1] at hv ⊢;exact hl _ hmem hv
 ·subst h;exact hm hv
theorem LnOK.new {n:Nat}:LnOK V (List.replicate n ln0):=fun y hy hv=>by
 rw [(List.mem_replicate.1 hy).2] at hv;cases hv
end Go.Dn
