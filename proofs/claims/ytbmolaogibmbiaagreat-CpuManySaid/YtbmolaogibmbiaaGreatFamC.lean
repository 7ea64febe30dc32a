/- What the proof stands on: Forget, LendT, CloseT, FamC. -/
import Derived.Test.YtbmolaogibmbiaaGreatLawSizes
import Derived.Test.YtbmolaogibmbiaaGreatLend2
/- What is kept of a space's page, or of a space, is forgotten. -/
namespace Go.Dn
variable {A : AH} {l R : List SP} {p : Nat} {ls : List Ln}
def pageF (tag page : Int) (y : Ln) : Ln := if fitsB tag page y = true then ln0 else y
def tagF (tag : Int) (y : Ln) : Ln := if (y.tag == tag && !y.g) = true then ln0 else y
theorem PageT_spec {tag page : Int} {Q : AH→Prop} (h : Own (TlbS p ls :: R) A) (hk : ∀ A',Own (TlbS p (ls.map (pageF tag page)) :: R) A'→Q A') : qeh_A (some ⟨p,0,none⟩) tag page Q A := by
 obtain ⟨hl,h⟩ := TlbS.openH h
 unfold qeh_A qeh_G qeg_A qeg_G
 refine new_C (cs := [.int .i64 tag]) h fun b1 A0 h0 => ?_
 refine new_C (cs := [.int .i64 page]) h0 fun b A1 h1 => ?_
 have h1 := Own.rot3 h1
 refine ⟨fun x mm A' => ∃ i : Nat,x = i ∧ mm + i = 8 ∧ Own (At p (lnC (doneL (pageF tag page) (i * 2) ls)) :: At b [.int .i64 page] :: At b1 [.int .i64 tag] :: R) A',⟨8,0,rfl,rfl,by simpa [doneL_zero] using h1⟩,?_⟩
 intro x mm A2 ⟨i,e1,e2,h2⟩
 subst e1
 refine bsel_in (fun c => ?_) fun c => ?_
 ·have c : (i : Int) < 8 := of_decide_eq_true c
  refine ⟨fun x m2 A' => ∃ j : Nat,x = j ∧ m2 + j = 2 ∧ Own (At p (lnC (doneL (pageF tag page) (i * 2 + j) ls)) :: At b [.int .i64 page] :: At b1 [.int .i64 tag] :: R) A',⟨2,0,rfl,rfl,h2⟩,?_⟩
  intro x m2 A3 ⟨j,e3,e4,h3⟩
  subst e3
  refine bsel_in (fun c2 => ?_) fun c2 => ?_
  ·have c2 : (j : Int) < 2 := of_decide_eq_true c2
   obtain ⟨y,hy⟩ : ∃ y,ls[i * 2 + j]? = some y := ⟨ls[i * 2 + j]'(by omega),by simp⟩
   refine ⟨fun A' => Own (At p (lnC (doneL (pageF tag page) (i * 2 + (j + 1)) ls)) :: At b [.int .i64 page] :: At b1 [.int .i64 tag] :: R) A',fun A4 h4 => ⟨m2 - 1,by omega,j + 1,by rw [w64] <;> omega,by omega,h4⟩,?_⟩
   simp only [onSome_some,add_at,Nat.zero_add,Int.toNat_natCast]
   refine inB_in (by omega) c (inB_in (by omega) c2 ?_)
   refine rd_ln (i := 0) (k := i * 2 + j) h3 rfl (doneL_at hy) (by omega) ?_
   unfold qef_A qef_G qcs_A
   simp only [onSome_some]
   refine ld_I (i := 2) h3 rfl rfl (ld_I (i := 1) h3 rfl rfl ?_)
   have keep : fitsB tag page y = false→Own (At p (lnC (doneL (pageF tag page) (i * 2 + (j + 1)) ls)) :: At b [.int .i64 page] :: At b1 [.int .i64 tag] :: R) A3 := fun g => by
    rw [← Nat.add_assoc,doneL_same hy (by unfold pageF;rw [g];rfl)];exact h3
   have go : fitsB tag page y = true→_ := fun g => inB_in (by omega) c (inB_in (by omega) c2 (wr_ln (m := ln0) (K := fun A' => Own (At p (lnC (doneL (pageF tag page) (i * 2 + (j + 1)) ls)) :: At b [.int .i64 page] :: At b1 [.int .i64 tag] :: R) A') h3 (doneL_at hy) (o := i * 18 + j * 9) (by omega) fun A4 h4 => by
    have e : pageF tag page y = ln0 := by unfold pageF;rw [if_pos g]
    rw [← e,doneL_step hy,Nat.add_assoc] at h4
    exact h4))
   refine bsel_in (fun a1 => bsel_in (fun a2 => bsel_in (fun a3 => bsel_t rfl (go (by unfold fitsB;rw [a1,a2,a3];rfl))) fun a3 => ?_) fun a2 => bsel_f rfl (keep (by unfold fitsB;rw [a1,a2];rfl))) fun a1 => bsel_f rfl (keep (by unfold fitsB;rw [a1];rfl))
   exact bsel_in (fun a4 => go (by unfold fitsB;rw [a1,a2,a3,a4];rfl)) fun a4 => keep (by unfold fitsB;rw [a1,a2,a3,a4];rfl)
  ·have c2 : ¬(j : Int) < 2 := of_decide_eq_false c2
   have hj : j = 2 := by omega
   subst hj
   exact ⟨mm - 1,by omega,i + 1,by rw [w64] <;> omega,by omega,by rw [show (i + 1) * 2 = i * 2 + 2 by omega];exact h3⟩
 ·have c : ¬(i : Int) < 8 := of_decide_eq_false c
  have hi : i = 8 := by omega
  subst hi
  rw [doneL_all _ (by omega)] at h2
  exact hk A2 (TlbS.closeH (by simpa using hl) (h2.cons fun C hC => hC.tail.tail))
theorem TagT_spec {tag : Int} {Q : AH→Prop} (h : Own (TlbS p ls :: R) A) (hk : ∀ A',Own (TlbS p (ls.map (tagF tag)) :: R) A'→Q A') : qem_A (some ⟨p,0,none⟩) tag Q A := by
 obtain ⟨hl,h⟩ := TlbS.openH h
 unfold qem_A qem_G qel_A qel_G
 refine new_C (cs := [.int .i64 tag]) h fun b A1 h1 => ?_
 have h1 := h1.swap
 refine ⟨fun x mm A' => ∃ i : Nat,x = i ∧ mm + i = 8 ∧ Own (At p (lnC (doneL (tagF tag) (i * 2) ls)) :: At b [.int .i64 tag] :: R) A',⟨8,0,rfl,rfl,by simpa [doneL_zero] using h1⟩,?_⟩
 intro x mm A2 ⟨i,e1,e2,h2⟩
 subst e1
 refine bsel_in (fun c => ?_) fun c => ?_
 ·have c : (i : Int) < 8 := of_decide_eq_true c
  refine ⟨fun x m2 A' => ∃ j : Nat,x = j ∧ m2 + j = 2 ∧ Own (At p (lnC (doneL (tagF tag) (i * 2 + j) ls)) :: At b [.int .i64 tag] :: R) A',⟨2,0,rfl,rfl,h2⟩,?_⟩
  intro x m2 A3 ⟨j,e3,e4,h3⟩
  subst e3
  refine bsel_in (fun c2 => ?_) fun c2 => ?_
  ·have c2 : (j : Int) < 2 := of_decide_eq_true c2
   obtain ⟨y,hy⟩ : ∃ y,ls[i * 2 + j]? = some y := ⟨ls[i * 2 + j]'(by omega),by simp⟩
   refine ⟨fun A' => Own (At p (lnC (doneL (tagF tag) (i * 2 + (j + 1)) ls)) :: At b [.int .i64 tag] :: R) A',fun A4 h4 => ⟨m2 - 1,by omega,j + 1,by rw [w64] <;> omega,by omega,h4⟩,?_⟩
   simp only [onSome_some,add_at,Nat.zero_add,Int.toNat_natCast]
   refine inB_in (by omega) c (inB_in (by omega) c2 ?_)
   refine rd_ln (i := 0) (k := i * 2 + j) h3 rfl (doneL_at hy) (by omega) ?_
   unfold qek_A
   simp only [onSome_some]
   refine ld_I (i := 1) h3 rfl rfl ?_
   have keep : (y.tag == tag && !y.g) = false→Own (At p (lnC (doneL (tagF tag) (i * 2 + (j + 1)) ls)) :: At b [.int .i64 tag] :: R) A3 := fun g => by
    rw [← Nat.add_assoc,doneL_same hy (by unfold tagF;rw [g];rfl)];exact h3
   have go : (y.tag == tag && !y.g) = true→_ := fun g => inB_in (by omega) c (inB_in (by omega) c2 (wr_ln (m := ln0) (K := fun A' => Own (At p (lnC (doneL (tagF tag) (i * 2 + (j + 1)) ls)) :: At b [.int .i64 tag] :: R) A') h3 (doneL_at hy) (o := i * 18 + j * 9) (by omega) fun A4 h4 => by
    have e : tagF tag y = ln0 := by unfold tagF;rw [if_pos g]
    rw [← e,doneL_step hy,Nat.add_assoc] at h4
    exact h4))
   refine bsel_in (fun a1 => ?_) fun a1 => bsel_f rfl (keep (by rw [a1];rfl))
   cases hg : y.g with
   | false => exact bsel_t rfl (go (by rw [a1,hg];rfl))
   | true => exact bsel_f rfl (keep (by rw [a1,hg];rfl))
  ·have c2 : ¬(j : Int) < 2 := of_decide_eq_false c2
   have hj : j = 2 := by omega
   subst hj
   exact ⟨mm - 1,by omega,i + 1,by rw [w64] <;> omega,by omega,by rw [show (i + 1) * 2 = i * 2 + 2 by omega];exact h3⟩
 ·have c : ¬(i : Int) < 8 := of_decide_eq_false c
  have hi : i = 8 := by omega
  subst hi
  rw [doneL_all _ (by omega)] at h2
  exact hk A2 (TlbS.closeH (by simpa using hl) (h2.cons fun C hC => hC.tail))
variable {c : Mb} {u : Int} {F G : Int→Prop} {W : Int→Int→Int} {z : PcZ} {sps : List (Int × Value)} {LF LF' : Vw}
def ForL (z : PcZ) (id page : Int) (ls ls' : List Ln) : Prop := ∀ y ∈ ls',y.v = true→y ∈ ls ∧ ¬(z.tag.lookup id = some y.tag ∧ y.page = page)
theorem forget_spec {id page : Int} {Q : AH→Prop} (h : Own (MacL c F G W u ls z sps l) A) (hk : ∀ ls' A',ForL z id page ls ls'→Own (MacL c F G W u ls' z sps l) A'→Q A') : qei_A (some ⟨c.m,0,none⟩) id page Q A := by
 unfold qei_A qei_G
 simp only [onSome_some,add_at,Nat.zero_add]
 refine ld_P (i := 3) h rfl rfl (pTag_spec (MacL.tags h) ?_)
 cases e : z.tag.lookup id with
 | none => exact bsel_f rfl (hk ls A (fun y hy _ => ⟨hy,fun q => by rw [e] at q;cases q.1⟩) h)
 | some t =>
  simp only [Option.getD_some]
  refine bsel_t rfl (ld_P (i := 3) h rfl rfl ?_)
  refine PageT_spec (MacL.tlb h) fun A1 h1 => hk _ A1 (fun y hy hv => ?_) (MacL.tlbB h1)
  obtain ⟨y0,h0,rfl⟩ := List.mem_map.1 hy
  unfold pageF at hv ⊢
  by_cases g : fitsB t page y0 = true
  ·rw [if_pos g] at hv;cases hv
  ·rw [if_neg g] at hv ⊢
   refine ⟨h0,fun ⟨q1,q2⟩ => g ?_⟩
   rw [e] at q1
   cases q1
   unfold fitsB
   simp [hv,q2]
def delZ (m : List (Int × Int)) (k : Int) : List (Int × Int) := match m with
 | [] => []
 | q :: m => if q.1 = k then m else q :: delZ m k
theorem delM_ivs (k : Int) : ∀ m : List (Int × Int),delM (ivs m) k = ivs (delZ m k)
 | [] => rfl
 | (a,v) :: m => by
  unfold ivs delZ delM
  simp only [List.map_cons]
  by_cases g : a = k
  ·rw [if_pos g,if_pos g]
  ·rw [if_neg g,if_neg g]
   have := delM_ivs k m
   unfold ivs at this
   rw [List.map_cons,this]
theorem lookup_none_of {k : Int} : ∀ {m : List (Int × Int)},k ∉ m.map (·.1)→m.lookup k = none
 | [],_ => rfl
 | (a,v) :: m,h => by
  simp only [List.map_cons,List.mem_cons,not_or] at h
  rw [List.lookup_cons]
  have : (k == a) = false := by simpa using h.1
  rw [this]
  exact lookup_none_of h.2
theorem delZ_sub {k : Int} : ∀ {m : List (Int × Int)},(m.map (·.1)).Nodup→((delZ m k).map (·.1)).Nodup ∧ ∀ x ∈ (delZ m k).map (·.1),x ∈ m.map (·.1)
 | [],_ => by simp [delZ]
 | (a,v) :: m,h => by
  rw [List.map_cons,List.nodup_cons] at h
  obtain ⟨i1,i2⟩ := delZ_sub (k := k) (m := m) h.2
  unfold delZ
  by_cases g : a = k
  ·simp only [g,if_true]
   exact ⟨h.2,fun x hx => List.mem_cons_of_mem _ hx⟩
  ·simp only [g,if_false]
   refine ⟨?_,fun x hx => ?_⟩
   ·rw [List.map_cons,List.nodup_cons]
    exact ⟨fun q => h.1 (i2 _ q),i1⟩
   ·rw [List.map_cons] at hx
    rcases List.mem_cons.1 hx with e | e
    ·rw [e];simp
    ·exact List.mem_cons_of_mem _ (i2 x e)
def dropZ (z : PcZ) (id : Int) : PcZ := match z.tag.lookup id with
 | some t => { z with own := delZ z.own t,tag := delZ z.tag id }
 | none => z
theorem lookup_delZ (k k' : Int) : ∀ {m : List (Int × Int)},(m.map (·.1)).Nodup→(delZ m k).lookup k' = if k' = k then none else m.lookup k'
 | [],_ => by simp [delZ]
 | (a,v) :: m,h => by
  rw [List.map_cons,List.nodup_cons] at h
  have ih := lookup_delZ k k' (m := m) h.2
  unfold delZ
  by_cases g : a = k
  ·subst g
   simp only [if_true]
   rw [List.lookup_cons]
   by_cases e : k' = a
   ·subst e
    rw [if_pos rfl]
    exact lookup_none_of h.1
   ·have : (k' == a) = false := by simpa using e
    rw [if_neg e,this]
  ·simp only [g,if_false]
   rw [List.lookup_cons,List.lookup_cons,ih]
   cases e : (k' == a) with
   | false => rfl
   | true =>
    have : k' = a := by simpa using e
    subst this
    simp [g]
theorem PcOK.drop (h : PcOK z) (id : Int) : PcOK (dropZ z id) := by
 unfold dropZ
 cases e : z.tag.lookup id with
 | none => exact h
 | some t =>
  refine ⟨h.ok,fun id' t' e' => ?_,fun t' id' e' => ?_,(delZ_sub h.ndo).1,(delZ_sub h.ndt).1⟩
  ·simp only [lookup_delZ _ _ h.ndt,lookup_delZ _ _ h.ndo] at e' ⊢
   by_cases g : id' = id
   ·rw [if_pos g] at e';cases e'
   ·rw [if_neg g] at e'
    obtain ⟨k1,k2⟩ := h.to id' t' e'
    rw [if_neg (fun q => g ?_)]
    ·exact ⟨k1,k2⟩
    ·have := (h.to id t e).1
     rw [q,this] at k1
     exact (Option.some.inj k1).symm
  ·simp only [lookup_delZ _ _ h.ndt,lookup_delZ _ _ h.ndo] at e' ⊢
   by_cases g : t' = t
   ·rw [if_pos g] at e';cases e'
   ·rw [if_neg g] at e'
    have k1 := h.back t' id' e'
    rw [if_neg (fun q => g ?_)]
    ·exact k1
    ·rw [q,e] at k1
     exact (Option.some.inj k1).symm
def ForS (z : PcZ) (id : Int) (ls ls' : List Ln) : Prop := ∀ y ∈ ls',y.v = true→y ∈ ls ∧ (z.tag.lookup id = some y.tag→y.g = true)
theorem LnOK.gone {id : Int} {ls' : List Ln} (hz : PcOK z) (hl : LnOK (vw z LF) ls) (h : ForS z id ls ls') (hLF : ∀ i,i ≠ id→LF' i = LF i) : LnOK (vw (dropZ z id) LF') ls' := fun y hy hv => by
 obtain ⟨k1,k2⟩ := h y hy hv
 obtain ⟨h1,x,h2,h3⟩ := hl y k1 hv
 refine ⟨h1,x,?_,h3⟩
 unfold vw at h2 ⊢
 cases e : z.own.lookup y.tag with
 | none => rw [e] at h2;cases h2
 | some id' =>
  rw [e] at h2
  have hne : id' ≠ id := fun q => by
   subst q
   have := k2 (hz.back _ _ e)
   rw [h1] at this;cases this
  have e2 : (dropZ z id).own.lookup y.tag = some id' := by
   unfold dropZ
   cases e3 : z.tag.lookup id with
   | none => exact e
   | some t =>
    simp only [lookup_delZ _ _ hz.ndo]
    rw [if_neg (fun q => hne ?_)]
    ·exact e
    ·have := (hz.to id t e3).1
     rw [← q,e] at this
     exact Option.some.inj this
  rw [e2]
  show LF' id' y.page = some x
  rw [hLF id' hne]
  exact h2
theorem pDropT_spec {id : Int} {tg : Nat} {R : List SP} {Q : AH→Prop} (h : Own (PcS tg z :: R) A) (hk : ∀ A',Own (PcS tg (dropZ z id) :: R) A'→Q A') : qen_A (some ⟨tg,0,none⟩) id Q A := by
 obtain ⟨bo,bt,hh⟩ := PcS.openH h
 unfold qen_A
 simp only [onSome_some,add_at,Nat.zero_add]
 refine ld_M (i := 0) hh rfl rfl (lk_M (i := 2) hh rfl ?_)
 rw [ivs_lookup]
 cases e : z.tag.lookup id with
 | none =>
  have : dropZ z id = z := by unfold dropZ;rw [e]
  rw [this] at hk
  exact ⟨0,rfl,bsel_f rfl (hk A h)⟩
 | some t =>
  refine ⟨t,rfl,bsel_t rfl (ld_M (i := 0) hh rfl rfl (dl_M (i := 1) hh rfl fun A1 h1 => ld_M (i := 0) h1 rfl rfl (dl_M (i := 2) h1 rfl fun A2 h2 => hk A2 (PcS.closeH (bo := bo) (bt := bt) ?_))))⟩
  have h2 : Own (At tg [.int .i64 z.most,.int .i64 z.next,.int .i64 z.gen,.map (some bo),.map (some bt)] :: MapI bo .i64 (delM (ivs z.own) t) :: MapI bt .i64 (delM (ivs z.tag) id) :: R) A2 := h2
  rw [delM_ivs,delM_ivs] at h2
  unfold dropZ
  rw [e]
  exact h2
theorem pOwner_spec {t : Int} {tg : Nat} {R : List SP} {Q : Int→Bool→AH→Prop} (h : Own (PcS tg z :: R) A) (hk : Q ((z.own.lookup t).getD 0) (z.own.lookup t).isSome A) : qer_A (some ⟨tg,0,none⟩) t Q A := by
 obtain ⟨bo,bt,hh⟩ := PcS.openH h
 unfold qer_A
 simp only [onSome_some,add_at,Nat.zero_add]
 refine ld_M (i := 0) hh rfl rfl (lk_M (i := 1) hh rfl ?_)
 rw [ivs_lookup]
 cases hl : z.own.lookup t with
 | none => rw [hl] at hk;exact ⟨0,rfl,hk⟩
 | some n => rw [hl] at hk;exact ⟨n,rfl,hk⟩
end Go.Dn
/- A machine of spaces whose translations are kept: what goes, what comes back. -/
namespace Go.Dn
variable {A : AH} {l R R' : List SP} {P : SP} {i k k2 b : Nat} {c : Mb} {u : Int} {F G : Int→Prop} {W : Int→Int→Int} {ls : List Ln} {z : PcZ} {sps : List (Int × Value)} {root box root1 root2 : Int} {tab tab1 tab2 : Tab} {lf lf1 lf2 : Int→Option Lf} {tl tl1 tl2 : List Int} {p p1 p2 : Nat} {s s1 s2 : Sl} {regs regs1 regs2 : List Reg} {lent lent1 lent2 : List (Int × Int)} {y : Reg} {page : Int}
theorem takeT_spec {id page : Int} {x : Lf} {y : Reg} {Q : AH→Prop} (h : Own (MacL c F G W u ls z sps (OneS p 0 root s regs lent :: l)) A) (hp : StdP c.N F G) (hR : Rest G W root tab lf tl) (hu : tl.length + 1 ≤ u) (hb : regs.length ≤ 64)
  (hf : findR regs page = some y) (hy : y.k = 0) (hl : lf page = some x) (hxG : G x.frame) (hxt : x.frame ∉ tl)
  (hk : ∀ (gl : List Int) (W' : Int→Int→Int) (tab' : Tab) (tl' : List Int) ls' A',ForL z id page ls ls'→(∀ y ∈ gl,y ∈ tl)→tl'.length + gl.length = tl.length→StdP c.N (fun y => (F y ∨ y ∈ gl) ∨ y = x.frame) (fun y => (G y ∧ y ∉ gl) ∧ y ≠ x.frame)→Rest (fun y => (G y ∧ y ∉ gl) ∧ y ≠ x.frame) W' root tab' (setL lf page none) tl'→(∀ f,f ∉ tl→W' f = W f) →
   Own (MacL c (fun y => (F y ∨ y ∈ gl) ∨ y = x.frame) (fun y => (G y ∧ y ∉ gl) ∧ y ≠ x.frame) W' (u - gl.length - 1) ls' z sps (OneS p 0 root s regs lent :: l)) A'→Q A') :
  qej_A (some ⟨c.m,0,none⟩) id (some ⟨p,0,none⟩) page Q A := by
 obtain ⟨lm,h⟩ := MacL.openOne h
 unfold qej_A qej_G
 refine ld_S (i := 7) h rfl rfl ?_
 refine Find_spec (k := 8) h rfl reads_slo (by omega) (fun g => by rw [hf] at g;cases g) fun y' hf' _ _ _ => ?_
 rw [hf] at hf'
 cases hf'
 refine ld_I (i := 7) h rfl rfl (ld_I (i := 7) h rfl rfl (purse_head (k := 3) h rfl ⟨ld_I (i := 7) h rfl rfl rfl,?_⟩))
 refine sUnmap h hp (by omega) hR (fun g => by rw [hl] at g;cases g) fun x' gl W' tab' tl' A1 hx' hgl hlen hmem hp1 hR1 hW1 h1 => ?_
 rw [hl] at hx'
 cases hx'
 have hxg : x.frame ∉ gl := fun g => hxt (hgl _ g)
 refine ⟨fun A' => ∃ (_ : Unit),StdP c.N (fun y => (F y ∨ y ∈ gl) ∨ y = x.frame) (fun y => (G y ∧ y ∉ gl) ∧ y ≠ x.frame) ∧ Own (MacL c (fun y => (F y ∨ y ∈ gl) ∨ y = x.frame) (fun y => (G y ∧ y ∉ gl) ∧ y ≠ x.frame) W' (u - gl.length - 1) ls z sps (OneS p 0 root s regs lent :: l)) A',fun A2 ⟨_,hp2,h2⟩ => ?_,?_⟩
 ·refine forget_spec h2 fun ls' A3 hls h3 => hk gl W' tab' tl' ls' A3 hls hgl hlen hp2 (hR1.keep (fun _ _ => rfl) fun f hf => ⟨hR1.inG f hf,fun e => ?_⟩) hW1 h3
  have := ((hmem f).1 hf).1
  rw [e] at this
  exact hxt this
 ·refine bsel_t rfl ?_
  rw [hy]
  refine bsel_t rfl (ld_I (i := 7) h1 rfl rfl (purse_head (k := 3) h1 rfl ?_))
  refine sGive h1 hp1 ⟨hxG,hxg⟩ (by omega) fun A2 hp2 h2 => ⟨(),hp2,MacL.closeOne h2⟩
end Go.Dn
/- A space goes, and what was kept of it. -/
namespace Go.Dn
variable {A : AH} {l R R' : List SP} {P : SP} {i k k2 b : Nat} {c : Mb} {u : Int} {F G : Int→Prop} {W : Int→Int→Int} {ls : List Ln} {z : PcZ} {sps : List (Int × Value)} {root box : Int} {tab : Tab} {lf : Int→Option Lf} {tl : List Int} {p : Nat} {s : Sl} {regs : List Reg} {lent : List (Int × Int)} {y : Reg} {page : Int}
theorem tag_gone {ls0 : List Ln} {id : Int} {K : AP} (h : Own (MacL c F G W u ls z sps l) A) (hsub : ∀ y ∈ ls,y.v = true→y ∈ ls0) (hk : ∀ ls' A',ForS z id ls0 ls'→Own (MacL c F G W u ls' z sps l) A'→K A') :
  aP ⟨c.m,4,none⟩ A fun pt28 => qee_A pt28 id (fun n29 b30 h31 => bsel b30 (aP ⟨c.m,3,none⟩ h31 fun pt33 => qem_A pt33 n29 (fun h34 => K h34) h31) (K h31)) A := by
 refine ld_P (i := 3) h rfl rfl (pTag_spec (MacL.tags h) ?_)
 cases e : z.tag.lookup id with
 | none => exact bsel_f rfl (hk ls A (fun y hy hv => ⟨hsub y hy hv,fun q => by rw [e] at q;cases q⟩) h)
 | some t =>
  simp only [Option.getD_some]
  refine bsel_t rfl (ld_P (i := 3) h rfl rfl ?_)
  refine TagT_spec (MacL.tlb h) fun A1 h1 => hk _ A1 (fun y hy hv => ?_) (MacL.tlbB h1)
  obtain ⟨y0,h0,rfl⟩ := List.mem_map.1 hy
  unfold tagF at hv ⊢
  by_cases g : (y0.tag == t && !y0.g) = true
  ·rw [if_pos g] at hv;cases hv
  ·rw [if_neg g] at hv ⊢
   refine ⟨hsub y0 h0 hv,fun q => ?_⟩
   rw [e] at q
   cases q
   cases hg : y0.g with
   | true => rfl
   | false => exact absurd (by simp [hg]) g
theorem CloseT_spec {id : Int} {ps : List Int} {Q : Int→AH→Prop} (h : Own (MacL c F G W u ls z sps (OneS p 0 root s regs lent :: l)) A) (hs : sps.lookup id = some (ptrV p)) (hp : StdP c.N F G) (hR : Rest G W root tab lf tl) (hu : tl.length + 1 ≤ u) (hb : regs.length ≤ 64)
  (hbz : (lentBusy lent 0 34359738368 || regBusy regs 0 34359738368) = false)
  (hps : (ps = [] ∧ ∀ q,lf q = none) ∨ (∃ page x,ps = [page] ∧ (∀ q,lf q ≠ none ↔ q = page) ∧ lf page = some x ∧ (∃ y,findR regs page = some y ∧ y.k = 0) ∧ G x.frame ∧ x.frame ∉ tl))
  (hk : ∀ (F' G' : Int→Prop) (W' : Int→Int→Int) ls' A',ForS z id ls ls'→StdP c.N F' G'→(∀ f,G' f→G f)→(∀ f,G f→f ∉ tl→(∀ page x,lf page = some x→x.frame ≠ f)→G' f)→(∀ f,f ∉ tl→W' f = W f) →
   Own (MacL c F' G' W' (u - tl.length - ps.length) ls' (dropZ z id) (delM sps id) l) A'→Q 0 A') :
  qep_A (some ⟨c.m,0,none⟩) id Q A := by
 unfold qep_A qep_G
 refine ld_M (i := 3) h rfl rfl (lk_M (i := 4) h rfl ?_)
 rw [hs]
 refine ⟨some ⟨p,0,none⟩,rfl,bsel_f rfl (busyM h hb fun A2 h2 => ?_)⟩
 rw [hbz]
 refine bsel_f rfl ?_
 refine one_box (i := 7) h2 rfl (purse_head (k := 3) h2 rfl (one_root (i := 7) h2 rfl ?_))
 refine RPages_spec h2 hp.inG hR fun s16 ps' A3 hs16 hn16 hrise hmem h3 => ?_
 have hpe : ps' = ps := by
  rcases hps with ⟨e,hl⟩ | ⟨page,x,e,hl,_⟩
  ·subst e
   exact List.eq_nil_iff_forall_not_mem.2 fun x hx => (hmem x).1 hx (hl x)
  ·subst e
   have g3 : ∀ x ∈ ps',x = page := fun x hx => (hl x).1 ((hmem x).1 hx)
   have g4 : page ∈ ps' := (hmem page).2 ((hl page).2 rfl)
   have g5 : ps'.length ≤ 1 := rise_all hrise (fun x hx => by
    have h6 := (hmem x).1 hx
    cases e : lf x with
    | none => exact absurd e h6
    | some w => exact hR.pr x w e) fun x hx y hy => by rw [g3 x hx,g3 y hy]
   match ps',g4,g5 with
   | [a],g4,_ => simp at g4;rw [g4]
 subst hpe
 have h3 : Own (SlO s16 1 (intsV ps') :: MacL c F G W u ls z sps (OneS p 0 root s regs lent :: l)) A3 := Own.swap h3
 have h3 : Own (MacL c F G W u ls z sps (OneS p 0 root s regs lent :: SlO s16 1 (intsV ps') :: l)) A3 := MacL.mapR (fun C hC => hC.swap) (MacL.backN h3)
 -- behind the pages: the tags, the tables, the space
 have fin : ∀ (F1 G1 : Int→Prop) (W1 : Int→Int→Int) (tab1 : Tab) (lf1 : Int→Option Lf) (tl1 : List Int) (u1 : Int) (ls1 : List Ln) (A4 : AH),ForS z id ls ls1→StdP c.N F1 G1→Rest G1 W1 root tab1 lf1 tl1→(∀ q,lf1 q = none)→1 ≤ u1→(∀ f,G1 f→G f)→(∀ f,G f→f ∉ tl→(∀ page x,lf page = some x→x.frame ≠ f)→G1 f)→(∀ f,f ∉ tl→W1 f = W f)→u1 - 1 = u - tl.length - ps'.length →
   Own (MacL c F1 G1 W1 u1 ls1 z sps (OneS p 0 root s regs lent :: SlO s16 1 (intsV ps') :: l)) A4→aP ⟨c.m,4,none⟩ A4 fun pt37 => qen_A pt37 id (fun h38 => aI .i64 ⟨p,1,none⟩ h38 fun n40 => qeo_A (some ⟨c.r,0,none⟩) (some ⟨c.b,0,none⟩) (some ⟨c.t,0,none⟩) 0 n40 (fun _ h42 => aM ⟨c.m,6,none⟩ h42 fun mp44 => aMDl h42 mp44 .i64 id fun h45 => Q 0 h45) h38) A4 :=
  fun F1 G1 W1 tab1 lf1 tl1 u1 ls1 A4 hls hp1 hR1 hl1 hu1 hG1 hG2 hW1 hu2 h4 => by
   refine ld_P (i := 3) h4 rfl rfl (pDropT_spec (MacL.tags h4) fun A4b h4b => ?_)
   have h4 := MacL.tagsB h4b
   refine one_root (i := 7) h4 rfl ?_
   refine sDrop h4 hp1 hR1 hl1 hu1 fun A5 hp5 h5 => ld_M (i := 3) h5 rfl rfl (dl_M (i := 4) h5 rfl fun A6 h6 => ?_)
   have hroot : root ∈ tl := (hR.mem root).2 ⟨0,0,(hR.T.root 0 root).2 ⟨rfl,rfl⟩⟩
   rw [hu2] at h6
   exact hk _ _ W1 ls1 A6 hls hp5 (fun f hf => hG1 f hf.1) (fun f hf hft hfx => ⟨hG2 f hf hft hfx,fun e => hft (by rw [e];exact hroot)⟩) hW1 (MacL.mapR (fun C hC => hC.tail.tail) h6)
 have hl16 : s16.len = ps'.length := hs16
 rcases hps with ⟨e,hl⟩ | ⟨page,x,e,hl,hx,⟨y,hy1,hy2⟩,hxG,hxt⟩
 ·subst e
  refine ⟨fun v m A' => A' = A3 ∧ v = 0,⟨0,rfl,rfl⟩,fun v m A4 ⟨e1,e2⟩ => ?_⟩
  subst e1 e2
  refine bsel_f (by rw [hl16];rfl) ?_
  have hbare := hR.bare hl
  refine ⟨fun A' => ∃ ls1,ForS z id ls ls1 ∧ Own (MacL c F G W u ls1 z sps (OneS p 0 root s regs lent :: SlO s16 1 (intsV []) :: l)) A',fun A5 ⟨ls1,e5,h5⟩ => ?_,?_⟩
  ·exact fin F G W tab lf tl u ls1 A5 e5 hp hR hl (by omega) (fun _ g => g) (fun _ g _ _ => g) (fun _ _ => rfl) (by rw [hbare];simp) h5
  ·exact tag_gone h3 (fun y hy _ => hy) fun ls1 A5 e5 h5 => ⟨ls1,e5,h5⟩
 ·subst e
  refine ⟨fun v m A' => (v = 0 ∧ m = 1 ∧ A' = A3) ∨ (v = 1 ∧ m = 0 ∧ ∃ (gl : List Int) (W' : Int→Int→Int) (tab' : Tab) (tl' : List Int) (ls2 : List Ln),(∀ y ∈ ls2,y.v = true→y ∈ ls) ∧ (∀ y ∈ gl,y ∈ tl) ∧ tl'.length + gl.length = tl.length ∧ StdP c.N (fun y => (F y ∨ y ∈ gl) ∨ y = x.frame) (fun y => (G y ∧ y ∉ gl) ∧ y ≠ x.frame) ∧ Rest (fun y => (G y ∧ y ∉ gl) ∧ y ≠ x.frame) W' root tab' (setL lf page none) tl' ∧ (∀ f,f ∉ tl→W' f = W f) ∧
   Own (MacL c (fun y => (F y ∨ y ∈ gl) ∨ y = x.frame) (fun y => (G y ∧ y ∉ gl) ∧ y ≠ x.frame) W' (u - gl.length - 1) ls2 z sps (OneS p 0 root s regs lent :: SlO s16 1 (intsV [page]) :: l)) A'),⟨1,.inl ⟨rfl,rfl,rfl⟩⟩,?_⟩
  intro v m A4 hv
  rcases hv with ⟨e1,e2,e3⟩ | ⟨e1,e2,gl,W',tab',tl',ls2,hsub,g1,g2,g3,g4,g5,h4⟩
  ·subst e1 e2 e3
   refine bsel_t (by rw [hl16];rfl) ?_
   obtain ⟨a,q3,q4⟩ := rd_i (ids := [page]) (v := 0) (k := 8) h3 rfl reads_slo rfl
   rw [q3]
   refine inB_in (by omega) (by rw [hl16];simp) (q4 _ ?_)
   exact takeT_spec h3 hp hR hu hb hy1 hy2 hx hxG hxt fun gl W' tab' tl' ls2 A5 hls g1 g2 g3 g4 g5 h5 => ⟨0,by omega,.inr ⟨rfl,rfl,gl,W',tab',tl',ls2,fun y hy hv => (hls y hy hv).1,g1,g2,g3,g4,g5,h5⟩⟩
  ·subst e1 e2
   refine bsel_f (by rw [hl16];rfl) ?_
   have hnone : ∀ q,setL lf page none q = none := fun q => by
    unfold setL
    split
    ·rfl
    ·rename_i hne
     cases e : lf q with
     | none => rfl
     | some w => exact absurd ((hl q).1 (by rw [e];simp)) hne
   have hbare := g4.bare hnone
   have hgl : gl.length + 1 = tl.length := by rw [hbare] at g2;simp at g2;omega
   refine ⟨fun A' => ∃ ls1,ForS z id ls ls1 ∧ Own (MacL c (fun y => (F y ∨ y ∈ gl) ∨ y = x.frame) (fun y => (G y ∧ y ∉ gl) ∧ y ≠ x.frame) W' (u - gl.length - 1) ls1 z sps (OneS p 0 root s regs lent :: SlO s16 1 (intsV [page]) :: l)) A',fun A5 ⟨ls1,e5,h5⟩ => ?_,?_⟩
   ·exact fin _ _ W' tab' _ tl' (u - gl.length - 1) ls1 A5 e5 g3 g4 hnone (by omega) (fun f hf => hf.1.1) (fun f hf hft hfx => ⟨⟨hf,fun g => hft (g1 f g)⟩,fun e => hfx page x hx e.symm⟩) g5 (by simp;omega) h5
   ·exact tag_gone h4 hsub fun ls1 A5 e5 h5 => ⟨ls1,e5,h5⟩
end Go.Dn
/- Spaces of a machine: one goes; which there are; what regions they have. -/
namespace Go.Dn
variable {A : AH} {l R : List SP} {ls : List Ln} {c : Mb} {u : Int} {F G : Int→Prop} {W : Int→Int→Int} {z : PcZ} {sps : List (Int × Value)} {cp n : Nat} {a : Sp} {L pre post : List Sp} {N : Int}
theorem delM_filter {k : Int} : ∀ {m : List (Int × Value)},(m.map (·.1)).Nodup→delM m k = m.filter fun q => q.1 != k
 | [],_ => rfl
 | q :: m,h => by
  rw [List.map_cons,List.nodup_cons] at h
  unfold delM
  rw [List.filter_cons]
  by_cases g : q.1 = k
  ·rw [if_pos g]
   have : (q.1 != k) = false := by simpa using g
   rw [this]
   simp only [Bool.false_eq_true,if_false]
   rw [List.filter_eq_self.2]
   intro x hx
   have : x.1 ≠ k := fun e => h.1 (by rw [g,← e];exact List.mem_map_of_mem hx)
   simpa using this
  ·rw [if_neg g]
   have : (q.1 != k) = true := by simpa using g
   rw [this]
   simp only [if_true]
   rw [delM_filter h.2]
theorem ents_drop (hn : ((pre ++ a :: post).map (·.id)).Nodup) : (ents (pre ++ a :: post)).filter (fun q => q.1 != a.id) = ents (pre ++ post) := by
 have h1 : ∀ L : List Sp,(∀ b ∈ L,b.id ≠ a.id)→(ents L).filter (fun q => q.1 != a.id) = ents L := fun L hL => by
  rw [List.filter_eq_self]
  intro q hq
  obtain ⟨b,hb,rfl⟩ := List.mem_map.1 hq
  simpa using hL b hb
 have hp : ∀ b ∈ pre,b.id ≠ a.id := fun b hb => mid_ne hn (List.mem_append_left _ hb)
 have hq : ∀ b ∈ post,b.id ≠ a.id := fun b hb => mid_ne hn (List.mem_append_right _ hb)
 have e1 := h1 pre hp
 have e2 := h1 post hq
 unfold ents at e1 e2 ⊢
 rw [List.map_append,List.map_cons,List.filter_append,List.filter_cons,e1,e2,List.map_append]
 simp
theorem SpsOK.drop (h : SpsOK sps (pre ++ a :: post)) (hn : ((pre ++ a :: post).map (·.id)).Nodup) : SpsOK (delM sps a.id) (pre ++ post) := by
 have hn2 : (sps.map (·.1)).Nodup := (h.map (·.1)).nodup_iff.2 (by rw [ents_ids];exact hn)
 unfold SpsOK
 rw [delM_filter hn2,← ents_drop hn]
 exact h.filter _
theorem CloseF {page : Int} {x : Lf} {Q : Int→AH→Prop} (h : Own (MacL c F G W u ls z sps (famR cp c.m n (pre ++ a :: post) l)) A) (hs : SpsOK sps (pre ++ a :: post)) (hf : FamOK c.N F G W z ls (pre ++ a :: post)) (hlent : a.lent = []) (hk0 : ∀ y ∈ a.regs,y.k = 0) (hfr : ∃ y,findR a.regs page = some y ∧ y.k = 0)
  (hone : ∀ q,a.lf q ≠ none ↔ q = page) (hx : a.lf page = some x) (hinj : ∀ b ∈ pre ++ post,∀ q w,b.lf q = some w→w.frame ≠ x.frame) (hu : a.tl.length + 1 ≤ u)
  (hk : ∀ F' G' W' ls' z' sps' A',SpsOK sps' (pre ++ post)→FamOK c.N F' G' W' z' ls' (pre ++ post)→(∀ g,g ∉ a.tl→W' g = W g)→Own (MacL c F' G' W' (u - a.tl.length - 1) ls' z' sps' (famR cp c.m n (pre ++ post) l)) A'→Q 0 A') :
  qep_A (some ⟨c.m,0,none⟩) a.id Q A := by
 have ham : a ∈ pre ++ a :: post := mem_mid.2 (.inl rfl)
 have hom : ∀ {b : Sp},b ∈ pre ++ post→b ∈ pre ++ a :: post := fun hb => mem_mid.2 (.inr hb)
 have h1 := Fam.focus h
 obtain ⟨kG,kt⟩ := hf.leafG a ham page x hx
 have hbz : (lentBusy a.lent 0 34359738368 || regBusy a.regs 0 34359738368) = false := by
  rw [hlent]
  have e1 : regBusy a.regs 0 34359738368 = false := by
   unfold regBusy
   rw [List.any_eq_false]
   intro y hy
   rw [hk0 y hy];simp
  rw [e1];rfl
 refine CloseT_spec (ps := [page]) h1 (hs.mid hf.ids) hf.std (hf.rest a ham) hu (hf.rl a ham).1 hbz (.inr ⟨page,x,rfl,hone,hx,hfr,kG,kt a ham⟩) fun F' G' W' ls' A' hls hp' hG1 hG2 hW' hA => ?_
 have hlx : ∀ q w,a.lf q = some w→w = x := fun q w hw => by
  have : q = page := (hone q).1 (by rw [hw];simp)
  rw [this,hx] at hw
  exact (Option.some.inj hw).symm
 refine hk F' G' W' ls' (dropZ z a.id) (delM sps a.id) A' (hs.drop hf.ids) ⟨hp',fun b hb => ?_,?_,fun b hb d hd => hf.apart b (hom hb) d (hom hd),fun b hb q w hw => ?_,fun b hb => hf.reg b (hom hb),fun b hb => hf.rl b (hom hb),hf.pc.drop _,?_⟩ hW' ?_
 ·have hne := mid_ne hf.ids hb
  refine (hf.rest b (hom hb)).keep (fun f hfb => hW' f (hf.apart b (hom hb) a ham hne f hfb)) fun f hfb => hG2 f ((hf.rest b (hom hb)).inG f hfb) (hf.apart b (hom hb) a ham hne f hfb) fun q w hw e => ?_
  exact (hf.leafG a ham q w hw).2 b (hom hb) (by rw [e];exact hfb)
 ·refine hf.ids.sublist ?_
  rw [List.map_append,List.map_append,List.map_cons]
  exact List.Sublist.append (List.Sublist.refl _) (List.sublist_cons_self _ _)
 ·obtain ⟨j1,j2⟩ := hf.leafG b (hom hb) q w hw
  exact ⟨hG2 _ j1 (j2 a ham) fun q2 w2 hw2 e => hinj b hb q w hw (by rw [hlx q2 w2 hw2] at e;exact e.symm),fun d hd => j2 d (hom hd)⟩
 ·refine hf.ln.gone hf.pc hls fun i hi => ?_
  unfold lfOf
  rw [find_mid hf.ids,if_neg (fun e => hi e.symm)]
 ·have hA2 : Own (MacL c F' G' W' (u - a.tl.length - 1) ls' (dropZ z a.id) (delM sps a.id) (famR cp c.m n (pre ++ post) l)) A' := by
   have := hA
   simp only [List.length_cons,List.length_nil] at this
   exact this
  exact hA2
theorem SlAt.openH {s : Sl} {sz : Nat} {cs : List Value} (h : Own (SlAt s sz cs :: R) A) (hne : cs ≠ []) : ∃ b pre rest,s.a = some ⟨b,pre.length,none⟩ ∧ s.len * sz = cs.length ∧ s.len ≤ s.cap ∧ Own (At b (pre ++ cs ++ rest) :: R) A := by
 have h2 : Own ((fun B => ∃ b pre rest,s.a = some ⟨b,pre.length,none⟩ ∧ (s.len * sz = cs.length ∧ s.len ≤ s.cap) ∧ At b (pre ++ cs ++ rest) B) :: R) A := h.imp fun B hB => by
  obtain ⟨b,pre,rest,h4,h5⟩ := hB.2.2 hne
  exact ⟨b,pre,rest,h4,⟨hB.1,hB.2.1⟩,h5⟩
 obtain ⟨b,h2⟩ := h2.ex
 obtain ⟨pre,h2⟩ := h2.ex
 obtain ⟨rest,h2⟩ := h2.ex
 obtain ⟨e1,h2⟩ := h2.pure
 obtain ⟨⟨e2,e3⟩,h2⟩ := h2.pure
 exact ⟨b,pre,rest,e1,e2,e3,h2⟩
theorem SpacesF {Q : Sl→AH→Prop} (h : Own (MacL c F G W u ls z sps (famR cp c.m n L l)) A) (hs : SpsOK sps L) (hL : L.length ≤ 1000) (hid : ∀ a ∈ L,0 ≤ a.id ∧ a.id < 1000000)
  (hk : ∀ s (is : List Int) A',is.Perm (L.map (·.id))→s.len = is.length→Own (SlAt s 1 (is.map (.int .i64)) :: MacL c F G W u ls z sps (famR cp c.m n L l)) A'→Q s A') : qfa_A (some ⟨c.m,0,none⟩) Q A := by
 unfold qfa_A qfa_G qew_A qez_A qez_G qex_A qey_A
 simp only [onSome_some,add_at,Nat.zero_add]
 refine ld_M (i := 3) h rfl rfl ?_
 refine new_C (cs := [.map (some c.sp)]) h fun b A1 h1 => ?_
 have hkeys : (sps.map (·.1)).Perm (L.map (·.id)) := by rw [← ents_ids];exact hs.map _
 have hlen : sps.length = L.length := by have := hs.length_eq;simpa [ents] using this
 refine cl_M (m := sps) (i := 5) (j := 0) h1 rfl rfl (by omega) (fun p hp => ?_) (fun h0 => ?_) fun ss s A2 hp hne hsl h2 => ?_
 ·have : p.1 ∈ L.map (·.id) := hkeys.mem_iff.1 (List.mem_map_of_mem hp)
  obtain ⟨a,ha,e⟩ := List.mem_map.1 this
  have := hid a ha
  rw [← e]
  simp [Lit.wf,IntKind.min,IntKind.max,IntKind.bits,IntKind.signed]
  omega
 ·have hL0 : L = [] := by
   rw [h0] at hlen
   exact List.length_eq_zero_iff.1 hlen.symm
  refine ⟨[],rfl,by simp [Sl.nil],rfl,(fun a ha => by cases ha),hk Sl.nil [] A1 (by rw [hL0];exact List.Perm.refl _) rfl ?_⟩
  exact sl_nil h1.tail
 ·have hcs : ss.map (Value.int .i64) ≠ [] := fun q => hne (List.map_eq_nil_iff.1 q)
  obtain ⟨b2,pre,rest,ha,e2,e3,h3⟩ := SlAt.openH h2 hcs
  have hss : ss.length = L.length := by rw [hp.length_eq,List.length_map,hlen]
  obtain ⟨B,u2,hB⟩ := h2.sat
  obtain ⟨t,ht⟩ := h3.at (i := 0) rfl
  refine ⟨ss,hsl.symm,by omega,?_,fun a ha' i hi => ?_,?_⟩
  ·have := rowA_of hB u2 (fun g => by rw [ha] at g;cases g)
   simpa using this
  ·rw [ha] at ha'
   cases ha'
   rw [add_at]
   simp [frozA,ht]
  ·rw [ha]
   show aStL _ (Addr.add ⟨b2,pre.length,none⟩ 0) 0 A2 _
   rw [add_at,Nat.add_zero]
   have hpm : (ss.mergeSort fun x y => decide (x ≤ y)).Perm ss := List.mergeSort_perm _ _
   refine stL_spec _ 0 A2 pre (ss.map (.int .i64)) rest _ h3 (by simp [hpm.length_eq]) rfl (fun v hv => by obtain ⟨x,_,rfl⟩ := List.mem_map.1 hv;rfl) fun A3 h4 => ?_
   refine hk s _ A3 (hpm.trans (hp.trans hkeys)) (by rw [hpm.length_eq];exact hsl) ?_
   refine (h4.imp fun B hB => ?_).cons fun C hC => hC.tail
   exact ⟨by simp [hpm.length_eq,hsl],e3,fun _ => ⟨b2,pre,rest,ha,hB⟩⟩
end Go.Dn
