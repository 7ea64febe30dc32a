/- What the proof stands on: AuMach, AuStep, LawAwake, LawAuBoots. -/
import Derived.Test.YtaafkchlmndbkaaGreatAuCheck2
/- A machine whose kernel's tables are known: how it begins; a space, a page, no space again. -/
namespace Go.Dn
open Go.Proofs
variable {A : AH} {l R R' : List SP} {c : Mb} {r b t : Nat} {N u : Int} {F G F' G' : Int→Prop} {W W' W0 : Int→Int→Int} {ls : List Ln} {z : PcZ} {sps : List (Int × Value)} {root box mid : Int} {tab : Tab} {lf : Int→Option Lf} {tl : List Int} {p : Nat} {s : Sl} {regs : List Reg} {lent : List (Int × Int)}
structure KerOK (c : Mb) (F G : Int→Prop) (W : Int→Int→Int) (mid : Int) : Prop where
 part : ∀ x,(F x ∨ G x) ↔ 1 ≤ x ∧ x < c.N
 gk : G c.kern
 gm : G mid
 ne : mid ≠ c.kern
 kw : ∀ q : Nat,q < 512→W c.kern q = if q = 0 then kEnt mid else 0
theorem KerOK.init (h1 : inR [(1,c.N)] c.kern) (h2 : inR [(1,c.N)] mid) (hK : KOK c.N W0 c.kern [mid] W) : KerOK c (fun x => inR [(1,c.N)] x ∧ x ∉ [c.kern,mid]) (fun x => False ∨ x ∈ [c.kern,mid]) W mid := by
 have e : ∀ x,inR [(1,c.N)] x ↔ 1 ≤ x ∧ x < c.N := fun x => by simp [inR]
 refine ⟨fun x => ?_,.inr (by simp),.inr (by simp),fun e => ?_,fun q hq => ?_⟩
 ·rw [e]
  constructor
  ·rintro (h | h | h)
   ·exact h.1
   ·exact h.elim
   ·simp at h
    rcases h with rfl | rfl
    ·exact (e _).1 h1
    ·exact (e _).1 h2
  ·intro h
   by_cases g : x ∈ [c.kern,mid]
   ·exact .inr (.inr g)
   ·exact .inl ⟨h,g⟩
 ·have := hK.nodup
  simp at this
  exact this e.symm
 ·rw [hK.top q hq]
  match q with
  | 0 => rfl
  | q + 1 => simp
theorem KerOK.keep (h : KerOK c F G W mid) (hp : ∀ x,(F' x ∨ G' x) ↔ (F x ∨ G x)) (hG : ∀ x,(x = c.kern ∨ x = mid)→G' x) (hW : W' c.kern = W c.kern) : KerOK c F' G' W' mid :=
 ⟨fun x => (hp x).trans (h.part x),hG _ (.inl rfl),hG _ (.inr rfl),h.ne,fun q hq => by rw [hW];exact h.kw q hq⟩
theorem bit_zero : bitZ 0 0 = false := rfl
theorem lvl_one {w : Int→Int} {g : Nat→Int→List Us} {j0 : Nat} {f : Int} (hj : j0 < 512) (hb : bitZ (w j0) 0 = true) (hf : frameZ (w j0) = f) (hz : ∀ j : Nat,j < 512→j ≠ j0→w j = 0 ∨ g j (frameZ (w j)) = []) : entsU w g 512 = g j0 f := by
 rw [entsU_one hb hj fun j h1 h2 h3 => ?_,hf]
 rcases hz j h1 h2 with e | e
 ·rw [e,bit_zero] at h3;cases h3
 ·exact e
theorem useK_eq (h : KerOK c F G W mid) (hN : c.N ≤ 262144) : useK W c.kern = [(c.kern,1,0),(mid,1,0)] := by
 have hm := (h.part mid).1 (.inr h.gm)
 obtain ⟨k0,_,_,_,_,_,_,_,k8,_⟩ := pack_bits true true false false false false false false (f := mid) ⟨by omega,by omega⟩
 have h0 := h.kw 0 (by omega)
 rw [if_pos rfl] at h0
 unfold useK
 rw [lvl_one (w := W c.kern) (g := fun _ f => [(f,1,0)]) (j0 := 0) (f := mid) (by omega) (by rw [h0];exact k0) (by rw [h0];exact k8) fun j hj hne => .inl (by rw [h.kw j hj,if_neg hne])]
structure RootOK (c : Mb) (W : Int→Int→Int) (root : Int) : Prop where
 k : W root 256 = kEnt c.kern
 z : ∀ j,256 < j→W root j = 0
theorem ker_ent (hr : RootOK c W root) (hk : 0 ≤ c.kern ∧ c.kern < 1048576) : bitZ (W root 256) 0 = true ∧ frameZ (W root 256) = c.kern := by
 obtain ⟨k0,_,_,_,_,_,_,_,k8,_⟩ := pack_bits true true false false false false false false (f := c.kern) hk
 rw [hr.k]
 exact ⟨k0,k8⟩
theorem kern_uses (h : KerOK c F G W mid) (hN : c.N ≤ 262144) (hr : RootOK c W root) : entsU (W root) (fun j e => if j = 256 then useK W e else []) 512 = [(c.kern,1,0),(mid,1,0)] := by
 have hk := (h.part c.kern).1 (.inr h.gk)
 obtain ⟨e1,e2⟩ := ker_ent hr ⟨by omega,by omega⟩
 rw [lvl_one (w := W root) (j0 := 256) (f := c.kern) (by omega) e1 e2 fun j _ hne => .inr (if_neg hne)]
 simp only [if_true]
 exact useK_eq h hN
theorem bare_uses {id : Int} (hR : Rest G W root (tab0 root) (fun _ => none) [root]) (hr : RootOK c W root) (hp : StdP c.N F G) : useT W regs id 4 root 0 = [(root,2,id)] ∧ okT W c.N 4 root 0 := by
 have hz : ∀ j : Nat,j < 512→j ≠ 256→W root j = 0 := fun j hj hne => by
  by_cases g : j < 256
  ·have := hR.T.words 0 0 root (by omega) ((hR.T.root 0 root).2 ⟨rfl,rfl⟩) j (by omega) (by omega) (fun _ => by omega)
   have e : tab0 root (0 + 1) (0 * 512 + (j : Int)) = none := by unfold tab0;rw [if_neg (by omega)]
   rw [e] at this
   exact this
  ·exact hr.z j (by omega)
 constructor
 ·rw [useT,entsU_nil fun j hj hb => ?_]
  by_cases e : j = 256
  ·simp only [e,and_self,if_true]
  ·rw [hz j hj e,bit_zero] at hb;cases hb
 ·refine ⟨hp.inG _ (hR.inG _ (by simp)),⟨by omega,by omega⟩,fun j hj hb hne => ?_⟩
  by_cases e : j = 256
  ·exact absurd ⟨rfl,e⟩ hne
  ·rw [hz j hj e,bit_zero] at hb;cases hb
theorem page_uses {id : Int} {x : Lf} {y : Reg} (hR : Rest G W root tab (setL (fun _ => none) 2 (some x)) tl) (hr : RootOK c W root) (hp : StdP c.N F G) (hy : findR regs 2 = some y) (hk : y.k = 0) :
  ∃ t1 t2 t3,useT W regs id 4 root 0 = [(root,2,id),(t1,2,id),(t2,2,id),(t3,2,id),(x.frame,3,id)] ∧ okT W c.N 4 root 0 ∧ [root,t1,t2,t3].Nodup ∧ ∀ f ∈ [root,t1,t2,t3],f ∈ tl := by
 have hl2 : setL (fun _ => none) 2 (some x) 2 = some x := by unfold setL;rw [if_pos rfl]
 have hln : ∀ q,q ≠ 2→setL (fun _ => none) 2 (some x) q = none := fun q hq => by unfold setL;rw [if_neg hq]
 have hch := hR.T.chain (p := 2) ⟨by omega,by omega⟩ hl2
 have hroot : tab 0 0 = some root := (hR.T.root 0 root).2 ⟨rfl,rfl⟩
 obtain ⟨t1,ht1⟩ : ∃ f,tab 1 0 = some f := Option.ne_none_iff_exists'.1 (hch 1 (by omega))
 obtain ⟨t2,ht2⟩ : ∃ f,tab 2 0 = some f := Option.ne_none_iff_exists'.1 (hch 2 (by omega))
 obtain ⟨t3,ht3⟩ : ∃ f,tab 3 0 = some f := Option.ne_none_iff_exists'.1 (hch 3 (by omega))
 have hno : ∀ k,1 ≤ k→k ≤ 3→∀ q : Int,q ≠ 0→tab k q = none := fun k h1 h3 q hq => by
  cases e : tab k q with
  | none => rfl
  | some f =>
   obtain ⟨p,w,e1,e2⟩ := hR.low k q f e h1
   by_cases g : p = 2
   ·subst g
    have : preP 2 k = 0 := by
     obtain rfl | rfl | rfl : k = 1 ∨ k = 2 ∨ k = 3 := by omega
     all_goals rfl
    rw [this] at e2
    exact absurd e2.symm hq
   ·rw [hln p g] at e1;cases e1
 -- one level's words
 have hlv : ∀ k,k < 3→∀ f g,tab k 0 = some f→tab (k + 1) 0 = some g→(bitZ (W f 0) 0 = true ∧ frameZ (W f 0) = g) ∧ ∀ j : Nat,j < 512→j ≠ 0→(k = 0→j < 256)→W f j = 0 := fun k hk f g hf hg => by
  refine ⟨?_,fun j hj hne h0 => ?_⟩
  ·have := hR.T.words k 0 f hk hf 0 (by omega) (by omega) (fun _ => by omega)
   rw [show (0 : Int) * 512 + 0 = 0 by omega,hg] at this
   obtain ⟨b1,b2,_⟩ := entI_bits this (hR.T.range _ _ _ hg)
   exact ⟨b1,b2⟩
  ·have := hR.T.words k 0 f hk hf j (by omega) (by omega) (fun e => by have := h0 e;omega)
   rw [show (0 : Int) * 512 + (j : Int) = (j : Int) by omega,hno (k + 1) (by omega) (by omega) j (by omega)] at this
   exact this
 have hleaf : (bitZ (W t3 2) 0 = true ∧ frameZ (W t3 2) = x.frame) ∧ ∀ j : Nat,j < 512→j ≠ 2→W t3 j = 0 := by
  refine ⟨?_,fun j hj hne => ?_⟩
  ·have := hR.T.leaves 0 t3 ht3 2 (by omega) (by omega)
   rw [show (0 : Int) * 512 + 2 = 2 by omega,hl2] at this
   obtain ⟨b1,_,_,_,b2,_⟩ := leafI_bits this (hR.T.rangeL _ _ hl2)
   exact ⟨b1,b2⟩
  ·have := hR.T.leaves 0 t3 ht3 j (by omega) (by omega)
   rw [show (0 : Int) * 512 + (j : Int) = (j : Int) by omega,hln _ (by omega)] at this
   exact this
 obtain ⟨a0,b0⟩ := hlv 0 (by omega) root t1 hroot ht1
 obtain ⟨a1,b1⟩ := hlv 1 (by omega) t1 t2 ht1 ht2
 obtain ⟨a2,b2⟩ := hlv 2 (by omega) t2 t3 ht2 ht3
 have hb0 : ∀ j : Nat,j < 512→j ≠ 0→W root j = 0 ∨ j = 256 := fun j hj hne => by
  by_cases g : j = 256
  ·exact .inr g
  ·by_cases g2 : j < 256
   ·exact .inl (b0 j hj hne fun _ => g2)
   ·exact .inl (hr.z j (by omega))
 have hhas : ∀ k q f,tab k q = some f→hasF c.N [] f = true := fun k q f e => hp.inG f (hR.tg e)
 refine ⟨t1,t2,t3,?_,?_,?_,fun f hf => ?_⟩
 ·rw [useT,lvl_one (w := W root) (j0 := 0) (f := t1) (by omega) a0.1 a0.2]
  rotate_left
  ·intro j hj hne
   rcases hb0 j hj hne with e | e
   ·exact .inl e
   ·exact .inr (by simp [e])
  simp only [Nat.zero_ne_add_one,and_false,if_false,show ¬ (3 = 0) by omega,show ¬ (0 = 256) by omega]
  rw [show (0 : Int) * 512 + ((0 : Nat) : Int) = 0 by omega,useT,lvl_one (w := W t1) (j0 := 0) (f := t2) (by omega) a1.1 a1.2 fun j hj hne => .inl (b1 j hj hne fun e => by omega)]
  simp only [show ¬ (2 = 3) by omega,false_and,if_false,show ¬ (2 = 0) by omega]
  rw [show (0 : Int) * 512 + ((0 : Nat) : Int) = 0 by omega,useT,lvl_one (w := W t2) (j0 := 0) (f := t3) (by omega) a2.1 a2.2 fun j hj hne => .inl (b2 j hj hne fun e => by omega)]
  simp only [show ¬ (1 = 3) by omega,false_and,if_false,show ¬ (1 = 0) by omega]
  rw [show (0 : Int) * 512 + ((0 : Nat) : Int) = 0 by omega,useT,lvl_one (w := W t3) (j0 := 2) (f := x.frame) (by omega) hleaf.1.1 hleaf.1.2 fun j hj hne => .inl (hleaf.2 j hj hne)]
  simp only [show ¬ (0 = 3) by omega,false_and,if_false,if_true]
  rw [show (0 : Int) * 512 + ((2 : Nat) : Int) = 2 by omega,hy]
  simp only [if_pos hk]
 ·refine ⟨hhas _ _ _ hroot,⟨by omega,by omega⟩,fun j hj hb hne => .inr ?_⟩
  have hj0 : j = 0 := by
   by_cases g : j = 0
   ·exact g
   ·rcases hb0 j hj g with e | e
    ·rw [e,bit_zero] at hb;cases hb
    ·exact absurd ⟨rfl,e⟩ hne
  subst hj0
  have e0 : frameZ (W root ((0 : Nat) : Int)) = t1 := a0.2
  rw [e0]
  refine ⟨hhas _ _ _ ht1,⟨by omega,by omega⟩,fun j hj hb _ => .inr ?_⟩
  have hj0 : j = 0 := by
   by_cases g : j = 0
   ·exact g
   ·rw [b1 j hj g fun e => by omega,bit_zero] at hb;cases hb
  subst hj0
  have e1 : frameZ (W t1 ((0 : Nat) : Int)) = t2 := a1.2
  rw [e1]
  refine ⟨hhas _ _ _ ht2,⟨by omega,by omega⟩,fun j hj hb _ => .inr ?_⟩
  have hj0 : j = 0 := by
   by_cases g : j = 0
   ·exact g
   ·rw [b2 j hj g fun e => by omega,bit_zero] at hb;cases hb
  subst hj0
  have e2 : frameZ (W t2 ((0 : Nat) : Int)) = t3 := a2.2
  rw [e2]
  exact ⟨hhas _ _ _ ht3,⟨by omega,by omega⟩,fun j _ _ _ => .inl rfl⟩
 ·have ap := fun k q k' q' f h1 h2 => hR.T.apart k q k' q' f h1 h2
  simp only [List.nodup_cons,List.mem_cons,List.not_mem_nil,or_false,not_or,List.nodup_nil,and_true,not_false_iff]
  refine ⟨⟨fun e => ?_,fun e => ?_,fun e => ?_⟩,⟨fun e => ?_,fun e => ?_⟩,fun e => ?_⟩
  ·have := (ap 0 0 1 0 root hroot (by rw [e];exact ht1)).1;omega
  ·have := (ap 0 0 2 0 root hroot (by rw [e];exact ht2)).1;omega
  ·have := (ap 0 0 3 0 root hroot (by rw [e];exact ht3)).1;omega
  ·have := (ap 1 0 2 0 t1 ht1 (by rw [e];exact ht2)).1;omega
  ·have := (ap 1 0 3 0 t1 ht1 (by rw [e];exact ht3)).1;omega
  ·have := (ap 2 0 3 0 t2 ht2 (by rw [e];exact ht3)).1;omega
 ·simp at hf
  rcases hf with rfl | rfl | rfl | rfl
  ·exact (hR.mem _).2 ⟨_,_,hroot⟩
  ·exact (hR.mem _).2 ⟨_,_,ht1⟩
  ·exact (hR.mem _).2 ⟨_,_,ht2⟩
  ·exact (hR.mem _).2 ⟨_,_,ht3⟩
end Go.Dn
/- The same steps of a machine as before, and what they leave in its tables. -/
namespace Go.Dn
open Go.Proofs
variable {A : AH} {l R R' : List SP} {c : Mb} {r b t : Nat} {u : Int} {F G : Int→Prop} {W : Int→Int→Int} {ls : List Ln} {z : PcZ} {sps : List (Int × Value)} {root : Int} {tab : Tab} {lf : Int→Option Lf} {tl : List Int} {s : Sl} {regs : List Reg} {lent : List (Int × Int)}
section
variable {N : Int}
theorem auMap {p fm : Int} {pw pu px : Bool} {Q : Int→AH→Prop} (h : Own (StdO N r b t F G W u R) A) (hp : StdP N F G) (hu : 0 ≤ u ∧ u + 4 ≤ N) (hR : Rest G W root tab lf tl)
  (h1 : p < 0 ∨ p ≥ 34359738368 ∨ fm < 0 ∨ fm ≥ 1048576→Q 1 A)
  (h6 : 0 ≤ p→p < 34359738368→0 ≤ fm→fm < 1048576→lf p ≠ none→∀ A',Own (StdO N r b t F G W u R) A'→Q 6 A')
  (hk : 0 ≤ p→p < 34359738368→0 ≤ fm→fm < 1048576→lf p = none→∀ tk W' tab' A',tk.length = needT tab p→(∀ x ∈ tk,F x)→StdP N (fun x => F x ∧ x ∉ tk) (fun x => G x ∨ x ∈ tk) →
   Rest (fun x => G x ∨ x ∈ tk) W' root tab' (setL lf p (some ⟨fm,pw,pu,px⟩)) (tl ++ tk)→(∀ f,f ∉ tk→f ∉ tl→W' f = W f)→(∀ j,256 ≤ j→W' root j = W root j)→Own (StdO N r b t (fun x => F x ∧ x ∉ tk) (fun x => G x ∨ x ∈ tk) W' (u + tk.length) R) A'→Q 0 A') :
  qcs_A (some ⟨r,0,none⟩) (some ⟨b,0,none⟩) (some ⟨t,0,none⟩) 0 root p fm pw pu px Q A := by
 have hneed : needT tab p ≤ 3 := by unfold needT;split <;> split <;> split <;> omega
 refine RMap_spec (i := 0) h rfl rfl hp.inF hp.inG hR h1 h6 (fun _ _ _ _ _ e W' A' he _ _ _ _ => ?_) fun p0 p1 f0 f1 hl tk W' tab' A' hlen _ _ htk hR' hW hW2 hA => ?_
 ·simp only at he;omega
 refine hk p0 p1 f0 f1 hl tk W' tab' A' hlen htk ⟨fun x hx => hp.inF x hx.1,fun x hx => ?_⟩ hR' hW hW2 ?_
 ·rcases hx with hx | hx
  ·exact hp.inG x hx
  ·exact hp.inF x (htk x hx)
 ·have hA : Own (RamW r N [] W' :: Bud b (fun x => F x ∧ x ∉ tk) (fun x => G x ∨ x ∈ tk) (N - 1 - u - tk.length) :: TreeS t [⟨-1,N - 1,u + tk.length,0,true⟩] :: R) A' := hA
  rw [show N - 1 - u - (tk.length : Int) = N - 1 - (u + tk.length) by omega] at hA
  exact hA
end
variable {p : Nat}
theorem auBegin_spec {N tags : Int} {Q : Option Addr→Sl→Sl→Int→Bool→AH→Prop} (h : Own l A) (hN : 4 ≤ N ∧ N ≤ 262144) (ht : 1 ≤ tags ∧ tags ≤ 4095)
  (hk : ∀ (c : Mb) F G W (b : Nat) A',c.N = N→StdP N F G→0 ≤ c.kern ∧ c.kern < N→∀ mid,KerOK c F G W mid→Own (MacL c F G W 2 (List.replicate 16 ln0) (pcNew tags) [] (At b [.int .i64 0,.int .i64 (-1),.int .i64 (N - 1),.int .i64 2] :: l)) A' →
   Q (some ⟨c.m,0,none⟩) (Sl.mk none 0 0) (Sl.mk (some ⟨b,0,none⟩) 1 1) 0 true A') : qbs_A N tags Q A := by
 unfold qbs_A qbs_G qab_A qab_G
 have w1 : IntKind.wrap .u64 N = N := wu64 (by omega) (by omega)
 have w2 : IntKind.wrap .u64 (N * 4096) = N * 4096 := wu64 (by omega) (by omega)
 rw [w1,w2]
 refine Entry_spec (a := (0,N * 4096,1)) h fun s5 A1 hs5 h1 => ?_
 unfold qbr_A qbr_G
 refine Frames_spec (k := 0) (kn := (0,1)) h1 rfl reads_slB h1.capS6 (fun g => absurd g hs5) (entB_rng _) fun er m s1 A2 ho _ hs1 h2 => ?_
 obtain ⟨rfl,rfl⟩ := plain_out ⟨by omega,by omega⟩ ho
 refine bsel_f rfl ?_
 refine pNew_spec h2 ht.1 ht.2 fun tg A3 h3 => bsel_f rfl ?_
 refine new_C (cs := lnC (List.replicate 16 ln0)) h3 fun tl A4 h4 => ?_
 refine new_M (k := .i64) h4 fun sp A5 h5 => ?_
 refine new_C (cs := [.pointer none,.pointer none,.pointer none,.pointer (some ⟨tl,0,none⟩),.pointer (some ⟨tg,0,none⟩),.int .i64 0,.map (some sp)]) h5 fun mb A6 h6 => ?_
 refine ram_spec h6 ⟨by omega,by omega⟩ fun r A7 h7 => ?_
 refine st_C (i := 1) h7 rfl rfl rfl fun A8 h8 => ?_
 have hok : okR 0 [(1,N)] = true := by simp [okR];omega
 refine bNew_spec (k := 5) (rs := [(1,N)]) h8 rfl reads_slB (fun g => by simp at g) (fun _ g => by rw [hok] at g;cases g) fun _ _ b A9 h9 => ?_
 simp only [onSome_some,add_at,Nat.zero_add]
 refine st_C (i := 2) h9 rfl rfl rfl fun A10 h10 => ?_
 refine bsel_f rfl (ld_P (i := 2) h10 rfl rfl ?_)
 refine Free_head h10 ?_
 refine qNew_spec h10 (fun g => by simp [sizeR] at g;omega) fun _ t A11 h11 => ?_
 refine st_C (i := 3) h11 rfl rfl rfl fun A12 h12 => ?_
 unfold qat_A
 simp only [onSome_some,add_at,Nat.zero_add]
 refine ld_P (i := 3) h12 rfl rfl (ld_P (i := 3) h12 rfl rfl (ld_P (i := 3) h12 rfl rfl ?_))
 have hsz : sizeR [(1,N)] = N - 1 := by simp [sizeR]
 have h13 : Own (StdO N r b t (inR [(1,N)]) (fun _ => False) (fun _ _ => 0) 0 (At mb [.pointer (some ⟨r,0,none⟩),.pointer (some ⟨b,0,none⟩),.pointer (some ⟨t,0,none⟩),.pointer (some ⟨tl,0,none⟩),.pointer (some ⟨tg,0,none⟩),.int .i64 0,.map (some sp)] :: MapI sp .i64 [] :: At tl (lnC (List.replicate 16 ln0)) :: PcS tg (pcNew tags) :: SlO s1 2 (rgs [(1,N)]) :: SlO s5 1 ((entB (0,N * 4096,1)).map byV) :: l)) A12 := by
  have h12 : Own (TreeS t [⟨-1,sizeR [(1,N)],0,0,true⟩] :: Bud b (inR [(1,N)]) (fun _ => False) (sizeR [(1,N)]) :: RamW r N [] (fun _ _ => 0) :: At mb [.pointer (some ⟨r,0,none⟩),.pointer (some ⟨b,0,none⟩),.pointer (some ⟨t,0,none⟩),.pointer (some ⟨tl,0,none⟩),.pointer (some ⟨tg,0,none⟩),.int .i64 0,.map (some sp)] :: MapI sp .i64 [] :: At tl (lnC (List.replicate 16 ln0)) :: PcS tg (pcNew tags) :: SlO s1 2 (rgs [(1,N)]) :: SlO s5 1 ((entB (0,N * 4096,1)).map byV) :: l) A12 := h12
  rw [hsz] at h12
  unfold StdO
  rw [show N - 1 - 0 = N - 1 by omega]
  exact (h12.pick 2 rfl).cons fun C hC => Own.swap hC
 have hp0 : StdP N (inR [(1,N)]) (fun _ => False) := ⟨fun x hx => has0.2 (by simp [inR] at hx;omega),fun x hx => hx.elim⟩
 refine sKernel h13 hp0 hN fun top mid A13 W' hft hfm hK hp1 h14 => ?_
 have hrt := has0.1 (hp0.inF top hft)
 refine st_C (i := 3) h14 rfl rfl rfl fun A14 h15 => ?_
 refine bsel_f rfl ?_
 have w3 : IntKind.wrap .i64 (N - 1) = N - 1 := by rw [w64] <;> omega
 rw [w3]
 refine new_C (cs := [.int .i64 0,.int .i64 (-1),.int .i64 (N - 1),.int .i64 2]) h15 fun b10 A15 h16 => ?_
 refine bsel_t rfl (hk ⟨N,r,b,t,mb,tl,tg,sp,top⟩ _ _ W' b10 A15 rfl hp1 hrt mid (KerOK.init (c := ⟨N,r,b,t,mb,tl,tg,sp,top⟩) hft hfm hK) ?_)
 have h16 : Own (At b10 [.int .i64 0,.int .i64 (-1),.int .i64 (N - 1),.int .i64 2] :: StdO N r b t (fun x => inR [(1,N)] x ∧ x ∉ [top,mid]) (fun x => False ∨ x ∈ [top,mid]) W' 2 (At mb (macC ⟨N,r,b,t,mb,tl,tg,sp,top⟩) :: MapI sp .i64 [] :: At tl (lnC (List.replicate 16 ln0)) :: PcS tg (pcNew tags) :: SlO s1 2 (rgs [(1,N)]) :: SlO s5 1 ((entB (0,N * 4096,1)).map byV) :: l)) A15 := h16
 unfold StdO at h16
 unfold MacL StdO
 have h17 := Own.swap h16
 refine h17.cons fun C1 h => (Own.swap h).cons fun C2 h => (Own.swap h).cons fun C3 h => (Own.swap h).cons fun C4 h => (Own.swap h).cons fun C5 h => ?_
 refine (Own.imp (P' := TlbS tl (List.replicate 16 ln0)) (fun B hB => ⟨by simp,hB⟩) (Own.swap h)).cons fun C6 h => (Own.swap h).cons fun C7 h => h.cons fun C8 h => h.tail.tail
theorem auOpen_spec {id : Int} {Q : Int→AH→Prop} (h : Own (MacL c F G W u ls z sps l) A) (hid : 0 ≤ id) (hs : sps.lookup id = none) (hp : StdP c.N F G) (hu : 0 ≤ u ∧ u + 2 ≤ c.N) (hN : c.N ≤ 1048576) (hkn : 0 ≤ c.kern ∧ c.kern < 1048576)
  (hk : ∀ p root A' W',F root→StdP c.N (fun x => F x ∧ x ∉ [root]) (fun x => G x ∨ x ∈ [root])→Rest (fun x => G x ∨ x ∈ [root]) W' root (tab0 root) (fun _ => none) [root]→(∀ f,f ≠ root→W' f = W f)→W' root 256 = kEnt c.kern→(∀ j,256 < j→W' root j = 0) →
   Own (MacL c (fun x => F x ∧ x ∉ [root]) (fun x => G x ∨ x ∈ [root]) W' (u + 1) ls z (putM sps id (ptrV p)) (OneS p 0 root Sl.nil [] [] :: l)) A'→Q 0 A') : qbu_A (some ⟨c.m,0,none⟩) id 0 Q A := by
 unfold qbu_A qbu_G
 refine bsel_f (by simpa using hid) ?_
 simp only [onSome_some,add_at,Nat.zero_add]
 refine ld_M (i := 3) h rfl rfl (lk_M (i := 4) h rfl ?_)
 rw [hs]
 refine ⟨none,rfl,bsel_f rfl (ld_I (i := 3) h rfl rfl (purse_head (k := 3) h rfl ⟨ld_I (i := 3) h rfl rfl rfl,?_⟩))⟩
 refine sRoot h hp hu hN hkn fun root A1 W' hf hp1 hR hW hw1 hw2 h1 => bsel_f rfl ?_
 refine ld_M (i := 3) h1 rfl rfl ?_
 refine new_M (k := .i64) h1 fun lm A2 h2 => ?_
 refine new_C (cs := [.int .i64 0,.int .i64 root,.slice none 0 0,.map (some lm)]) h2 fun p A3 h3 => ?_
 refine st_M (i := 6) h3 rfl fun A4 h4 => hk p root A4 W' hf hp1 hR hW hw1 hw2 ?_
 have h4 : Own (At p [.int .i64 0,.int .i64 root,.slice none 0 0,.map (some lm)] :: MapI lm .i64 [] :: MacL c (fun x => F x ∧ x ∉ [root]) (fun x => G x ∨ x ∈ [root]) W' (u + 1) ls z (putM sps id (ptrV p)) l) A4 := h4
 have h5 : Own (oneL p lm 0 root Sl.nil [] [] ++ MacL c (fun x => F x ∧ x ∉ [root]) (fun x => G x ∨ x ∈ [root]) W' (u + 1) ls z (putM sps id (ptrV p)) l) A4 := h4.cons fun C hC => Own.nil6 hC
 have h6 := OneS.closeH h5
 unfold MacL StdO at h6 ⊢
 exact Own.back (l := RamW c.r c.N [] W' :: Bud c.b (fun x => F x ∧ x ∉ [root]) (fun x => G x ∨ x ∈ [root]) (c.N - 1 - (u + 1)) :: TreeS c.t [⟨-1,c.N - 1,u + 1,0,true⟩] :: At c.m (macC c) :: MapI c.sp .i64 (putM sps id (ptrV p)) :: TlbS c.tl ls :: PcS c.tg z :: OneS p 0 root Sl.nil [] [] :: l) (P := OneS p 0 root Sl.nil [] []) 7 rfl h6
theorem auClose_spec {id : Int} {Q : Int→AH→Prop} (h : Own (MacL c F G W u ls z sps (OneS p 0 root s regs lent :: l)) A) (hs : sps.lookup id = some (ptrV p)) (hp : StdP c.N F G) (hR : Rest G W root tab lf tl) (hu : tl.length + 1 ≤ u) (hb : regs.length ≤ 64)
  (hbz : (lentBusy lent 0 34359738368 || regBusy regs 0 34359738368) = false) (hz : z.tag.lookup id = none)
  (hl : ∀ q,lf q = none)
  (hk : ∀ A',StdP c.N (fun x => F x ∨ x = root) (fun x => G x ∧ x ≠ root)→Own (MacL c (fun x => F x ∨ x = root) (fun x => G x ∧ x ≠ root) W (u - 1) ls z (delM sps id) l) A'→Q 0 A') :
  qes_A (some ⟨c.m,0,none⟩) id Q A := by
 unfold qes_A qes_G
 refine ld_M (i := 3) h rfl rfl (lk_M (i := 4) h rfl ?_)
 rw [hs]
 refine ⟨some ⟨p,0,none⟩,rfl,bsel_f rfl (busyM h hb fun A2 h2 => ?_)⟩
 rw [hbz]
 refine bsel_f rfl ?_
 refine one_box (i := 7) h2 rfl (purse_head (k := 3) h2 rfl (one_root (i := 7) h2 rfl ?_))
 refine RPages_spec h2 hp.inG hR fun s16 ps' A3 hs16 hn16 hrise hmem h3 => ?_
 have hpe : ps' = [] := List.eq_nil_iff_forall_not_mem.2 fun x hx => (hmem x).1 hx (hl x)
 subst hpe
 have h3 : Own (SlO s16 1 (intsV []) :: MacL c F G W u ls z sps (OneS p 0 root s regs lent :: l)) A3 := Own.swap h3
 have h3 : Own (MacL c F G W u ls z sps (OneS p 0 root s regs lent :: SlO s16 1 (intsV []) :: l)) A3 := MacL.mapR (fun C hC => hC.swap) (MacL.backN h3)
 have hl16 : s16.len = 0 := hs16
 refine ⟨fun v m A' => A' = A3 ∧ v = 0,⟨0,rfl,rfl⟩,fun v m A4 ⟨e1,e2⟩ => ?_⟩
 subst e1 e2
 refine bsel_f (by rw [hl16];rfl) ?_
 have hbare := hR.bare hl
 refine ⟨fun A' => A' = A4,fun A5 e5 => ?_,ld_P (i := 3) h3 rfl rfl (pTag_spec (MacL.tags h3) (by rw [hz];exact bsel_f rfl rfl))⟩
 subst e5
 refine ld_P (i := 3) h3 rfl rfl (pDrop_none (MacL.tags h3) hz (one_root (i := 7) h3 rfl ?_))
 refine sDrop h3 hp hR hl (by omega) fun A6 hp6 h6 => ld_M (i := 3) h6 rfl rfl (dl_M (i := 4) h6 rfl fun A7 h7 => ?_)
 exact hk A7 hp6 (MacL.mapR (fun C hC => hC.tail.tail) h7)
theorem auTouch_spec {id page : Int} {aw au af : Bool} {Q : Int→Int→Int→AH→Prop} (h : Own (MacL c F G W u ls z sps (OneS p 0 root s regs lent :: l)) A) (hs : sps.lookup id = some (ptrV p)) (hp : StdP c.N F G) (hu : 0 ≤ u ∧ u + 5 ≤ c.N) (hN : c.N ≤ 1048576)
  (hR : Rest G W root tab lf tl) (hrl : regs.length ≤ 64) (hpg : ∀ y ∈ regs,0 ≤ y.a ∧ y.b ≤ 34359738368)
  (h9 : findR regs page = none→∀ A',Own (MacL c F G W u ls z sps (OneS p 0 root s regs lent :: l)) A'→Q 0 (codeZ aw au af) 9 A')
  (hno : ∀ y,findR regs page = some y→mayZ y.w y.u y.x aw au af = false→∀ A',Own (MacL c F G W u ls z sps (OneS p 0 root s regs lent :: l)) A'→Q 0 (codeZ aw au af + if lf page = none then 0 else 1) 9 A')
  (h0 : ∀ y x,findR regs page = some y→mayZ y.w y.u y.x aw au af = true→lf page = some x→∀ A',Own (MacL c F G W u ls z sps (OneS p 0 root s regs lent :: l)) A'→Q x.frame 0 0 A')
  (hk : ∀ y,findR regs page = some y→mayZ y.w y.u y.x aw au af = true→lf page = none→∀ f tk W' tab' A',F f→(tk.length = needT tab page)→(∀ x ∈ tk,F x ∧ x ≠ f)→StdP c.N (fun x => (F x ∧ x ≠ f) ∧ x ∉ tk) (fun x => (G x ∨ x = f) ∨ x ∈ tk) →
   Rest (fun x => (G x ∨ x = f) ∨ x ∈ tk) W' root tab' (setL lf page (some ⟨f,y.w,y.u,y.x⟩)) (tl ++ tk)→(∀ g,g ∉ tk→g ∉ tl→W' g = zeroW W f g)→(∀ j,256 ≤ j→W' root j = zeroW W f root j) →
   Own (MacL c (fun x => (F x ∧ x ≠ f) ∧ x ∉ tk) (fun x => (G x ∨ x = f) ∨ x ∈ tk) W' (u + 1 + tk.length) ls z sps (OneS p 0 root s regs lent :: l)) A'→Q f 0 0 A') :
  qct_A (some ⟨c.m,0,none⟩) id page aw au af Q A := by
 obtain ⟨lm,h⟩ := MacL.openOne h
 have bk : ∀ A',Own (MacL c F G W u ls z sps (oneL p lm 0 root s regs lent ++ l)) A'→Own (MacL c F G W u ls z sps (OneS p 0 root s regs lent :: l)) A' := fun A' h' => MacL.closeOne h'
 unfold qct_A qct_G
 simp only [onSome_some,add_at,Nat.zero_add]
 refine ld_M (i := 3) h rfl rfl (lk_M (i := 4) h rfl ?_)
 rw [hs]
 refine ⟨some ⟨p,0,none⟩,rfl,bsel_f rfl ?_⟩
 refine new_C (cs := [.bool aw,.bool au]) h fun b5 A1 h1 => ?_
 refine ⟨fun x v m A' => A' = A1 ∧ ((v = 0 ∧ m = 2 ∧ x = 0) ∨ (v = 1 ∧ m = 1 ∧ x = if aw then 2 else 0) ∨ (v = 2 ∧ m = 0 ∧ x = (if aw then 2 else 0) + (if au then 4 else 0))),⟨2,rfl,.inl ⟨rfl,rfl,rfl⟩⟩,?_⟩
 intro x v m A2 ⟨e1,e2⟩
 subst e1
 refine bsel_in (fun cc => ?_) fun cc => ?_
 ·have cc : v < 2 := of_decide_eq_true cc
  refine ⟨fun x' A' => A' = A2 ∧ ((v = 0 ∧ m = 2 ∧ x' = if aw then 2 else 0) ∨ (v = 1 ∧ m = 1 ∧ x' = (if aw then 2 else 0) + (if au then 4 else 0))),fun x' A3 ⟨f1,f2⟩ => ?_,?_⟩
  ·rcases f2 with ⟨f2,f3,f4⟩ | ⟨f2,f3,f4⟩
   ·subst f2 f3;exact ⟨1,by omega,f1,.inr (.inl ⟨rfl,rfl,f4⟩)⟩
   ·subst f2 f3;exact ⟨0,by omega,f1,.inr (.inr ⟨rfl,rfl,f4⟩)⟩
  ·rcases e2 with ⟨e2,e3,e4⟩ | ⟨e2,e3,e4⟩ | ⟨e2,_⟩
   ·subst e2 e3 e4
    refine inB_in (by omega) (by omega) (ld_B (i := 0) h1 rfl rfl ?_)
    refine bsel_in (fun g => bsel_f rfl ⟨rfl,.inl ⟨rfl,rfl,?_⟩⟩) fun g => ⟨rfl,.inl ⟨rfl,rfl,by rw [g];rfl⟩⟩
    rw [g];decide
   ·subst e2 e3 e4
    refine inB_in (by omega) (by omega) (ld_B (i := 0) h1 rfl rfl ?_)
    refine bsel_in (fun g => bsel_f rfl ⟨rfl,.inr ⟨rfl,rfl,?_⟩⟩) fun g => ⟨rfl,.inr ⟨rfl,rfl,by rw [g];cases aw <;> rfl⟩⟩
    rw [g];cases aw <;> decide
   ·omega
 ·have cc : ¬ v < 2 := of_decide_eq_false cc
  have ex : x = (if aw then 2 else 0) + (if au then 4 else 0) := by
   rcases e2 with ⟨e2,_⟩ | ⟨e2,_⟩ | ⟨_,_,e4⟩
   ·omega
   ·omega
   ·exact e4
  subst ex
  have h1 := h1.tail
  refine ⟨fun x' A' => x' = codeZ aw au af ∧ A' = A2,fun x' A3 ⟨f1,f2⟩ => ?_,?_⟩
  ·subst f1 f2
   refine ld_S (i := 7) h1 rfl rfl ?_
   refine Find_spec (k := 8) h1 rfl reads_slo (by omega) (fun hf => bsel_t rfl (h9 hf A3 (bk _ h1))) fun y hf hy hy1 hy2 => bsel_f rfl ?_
   refine ld_I (i := 7) h1 rfl rfl (purse_head (k := 3) h1 rfl ?_)
   refine ld_I (i := 7) h1 rfl rfl ?_
   obtain ⟨hpa,hpb⟩ := hpg y hy
   refine RQuery_spec h1 hp.inG hR (fun hl A4 h4 => ?_) fun x hl A4 h4 => ?_
   ·refine May_spec ?_
    refine bsel_in (fun g => ?_) fun g => ?_
    ·have g : mayZ y.w y.u y.x aw au af = false := by simpa using g
     refine ⟨fun x' A' => x' = codeZ aw au af ∧ A' = A4,fun x' A5 ⟨k1,k2⟩ => ?_,bsel_f rfl ⟨rfl,rfl⟩⟩
     subst k1 k2
     have := hno y hf g A5 (bk _ h4)
     rw [if_pos hl,Int.add_zero] at this
     exact this
    ·have g : mayZ y.w y.u y.x aw au af = true := by simpa using g
     refine bsel_f rfl ?_
     refine sTake h4 hp ⟨by omega,by omega⟩ fun f A5 hff hp5 h5 => bsel_f rfl ?_
     refine ld_I (i := 7) h5 rfl rfl ?_
     have hff0 := has0.1 (hp.inF f hff)
     have hFG := (bud_apart h4.tail).1
     have hR5 : Rest (fun x => G x ∨ x = f) (zeroW W f) root tab lf tl := hR.keep (fun g hg => zeroW_ne fun e => hFG f hff (by rw [← e];exact hR.inG g hg)) fun g hg => .inl (hR.inG g hg)
     refine auMap h5 hp5 ⟨by omega,by omega⟩ hR5 (fun g => by omega) (fun _ _ _ _ g => absurd hl g) fun _ _ _ _ _ tk W' tab' A6 hlen htk hp6 hR6 hW6 hW7 h6 => bsel_f rfl ?_
     exact hk y hf g hl f tk W' tab' A6 hff hlen htk hp6 hR6 hW6 hW7 (MacL.closeOne h6)
   ·refine May_spec ?_
    refine bsel_in (fun g => ?_) fun g => ?_
    ·have g : mayZ y.w y.u y.x aw au af = false := by simpa using g
     refine ⟨fun x' A' => x' = codeZ aw au af + 1 ∧ A' = A4,fun x' A5 ⟨k1,k2⟩ => ?_,bsel_t rfl ⟨or_there,rfl⟩⟩
     subst k1 k2
     have := hno y hf g A5 (bk _ h4)
     rw [if_neg (by rw [hl];simp)] at this
     exact this
    ·have g : mayZ y.w y.u y.x aw au af = true := by simpa using g
     exact bsel_t rfl (h0 y x hf g hl A4 (bk _ h4))
  ·refine bsel_in (fun g => ⟨?_,rfl⟩) fun g => ⟨?_,rfl⟩
   ·subst g;exact or_code
   ·subst g;simp [codeZ]
end Go.Dn
/- The audit's first example: what a machine with one page is for. -/
namespace Go.Dn
open Go.Proofs
variable {A : AH} {l R ol : List SP} {c : Mb} {u : Int} {F G : Int→Prop} {W : Int→Int→Int} {ls : List Ln} {z : PcZ} {sps : List (Int × Value)} {U1 : List Us} {mid root : Int}
theorem cnt_all {U : List Us} {fl : List Int} (hp : U.Perm (U1 ++ fl.map fu)) (hk : ∀ x ∈ U1,x.2.1 = 1 ∨ x.2.1 = 2 ∨ x.2.1 = 3) : cntU U 0 = fl.length ∧ cntU U 1 = cntU U1 1 ∧ cntU U 2 = cntU U1 2 ∧ cntU U 3 = cntU U1 3 := by
 rw [cntU_perm hp,cntU_perm hp,cntU_perm hp,cntU_perm hp,cntU_app,cntU_app,cntU_app,cntU_app,cnt_fu fl 1 (by omega),cnt_fu fl 2 (by omega),cnt_fu fl 3 (by omega),cnt_fu0,(cnt_kinds U1 hk).2]
 omega
theorem ker_ne (h : KerOK c F G W mid) (hFG : ∀ x,F x→¬ G x) (hf : F root) : root ≠ c.kern ∧ root ≠ mid := ⟨fun e => hFG root hf (by rw [e];exact h.gk),fun e => hFG root hf (by rw [e];exact h.gm)⟩
set_option maxRecDepth 20000 in
theorem awake20_spec {Q : Bool→AH→Prop} (h : Own l A) (hk : ∀ A',Own l A'→Q true A') : qdw_A Q A := by
 unfold qdw_A qdw_G
 refine auBegin_spec h (by omega) (by omega) fun c F G W b A1 hN hp hkn mid hK h1 => bsel_f rfl ?_
 have hFG1 := (bud_apart (h1.pick 1 rfl)).1
 rw [← hN] at hp hkn
 refine auOpen_spec h1 (by omega) rfl hp (by omega) (by omega) (by omega) fun p root A2 W2 hroot hp2 hR2 hW2 hw1 hw2 h2 => bsel_f rfl ?_
 obtain ⟨n1,n2⟩ := ker_ne hK hFG1 hroot
 have hlk : List.lookup 1 (putM [] 1 (ptrV p)) = some (ptrV p) := rfl
 refine SpMap_nil (y := ⟨0,4,true,true,false,0⟩) h2 hlk (by decide) rfl fun s A3 h3 => bsel_f rfl ?_
 have hfind : findR [(⟨0,4,true,true,false,0⟩ : Reg)] 2 = some ⟨0,4,true,true,false,0⟩ := rfl
 refine auTouch_spec (page := 2) h3 hlk hp2 (by omega) (by omega) hR2 (by simp) (fun y hy => by simp at hy;subst hy;exact ⟨by decide,by decide⟩) (fun g => by rw [hfind] at g;cases g) (fun y hy hm => by rw [hfind] at hy;cases hy;exact absurd hm (by decide)) (fun y x _ _ g => by cases g)
  fun y hy _ _ f tk W4 tab' A4 hff hlen htk hp4 hR4 hW4 hw4 h4 => bsel_t rfl ?_
 have hFG2 := (bud_apart (h3.pick 1 rfl)).1
 rw [hfind] at hy
 cases hy
 have hlen3 : tk.length = 3 := hlen
 have hu : (2 : Int) + 1 + 1 + (tk.length : Int) = 7 := by omega
 rw [hu] at h4
 have hfr : f ≠ root := fun e => hff.2 (by rw [e];simp)
 have hkt : ∀ x,G x→x ∉ tk ∧ x ∉ [root] ∧ x ≠ f := fun x hx => ⟨fun e => hFG1 x (htk x e).1.1 hx,fun e => by simp at e;exact hFG1 root hroot (by rw [← e];exact hx),fun e => hFG1 f hff.1 (by rw [← e];exact hx)⟩
 have hWk : ∀ x,G x→W4 x = W x := fun x hx => by
  obtain ⟨k1,k2,k3⟩ := hkt x hx
  rw [hW4 x k1 k2,zeroW_ne k3,hW2 x (by simpa using k2)]
 have hK4 : KerOK c (fun x => ((F x ∧ x ∉ [root]) ∧ x ≠ f) ∧ x ∉ tk) (fun x => ((G x ∨ x ∈ [root]) ∨ x = f) ∨ x ∈ tk) W4 mid := by
  refine hK.keep (fun x => ?_) (fun x hx => ?_) (hWk _ hK.gk)
  ·constructor
   ·rintro (h | h)
    ·exact .inl h.1.1.1
    ·rcases h with ((h | h) | h) | h
     ·exact .inr h
     ·simp at h;exact .inl (by rw [h];exact hroot)
     ·exact .inl (by rw [h];exact hff.1)
     ·exact .inl (htk x h).1.1
   ·rintro (h | h)
    ·by_cases g1 : x ∈ [root]
     ·exact .inr (.inl (.inl (.inr g1)))
     ·by_cases g2 : x = f
      ·exact .inr (.inl (.inr g2))
      ·by_cases g3 : x ∈ tk
       ·exact .inr (.inr g3)
       ·exact .inl ⟨⟨⟨h,g1⟩,g2⟩,g3⟩
    ·exact .inr (.inl (.inl (.inl h)))
  ·rcases hx with rfl | rfl
   ·exact .inl (.inl (.inl hK.gk))
   ·exact .inl (.inl (.inl hK.gm))
 have hr4 : RootOK c W4 root := ⟨by rw [hw4 256 (by omega),zeroW_ne (Ne.symm hfr)];exact hw1,fun j hj => by rw [hw4 j (by omega),zeroW_ne (Ne.symm hfr)];exact hw2 j hj⟩
 obtain ⟨t1,t2,t3,hT,hok,hnd,htl⟩ := page_uses (id := 1) (regs := [⟨0,4,true,true,false,0⟩]) hR4 hr4 hp4 hfind rfl
 have hke := ker_ent hr4 (by omega)
 have hsp : SpcIn c W4 (putM [] 1 (ptrV p)) [OneS p 0 root s [⟨0,4,true,true,false,0⟩] []] ([(c.kern,1,0),(mid,1,0)] ++ [(root,2,1),(t1,2,1),(t2,2,1),(t3,2,1),(f,3,1)]) :=
  .inr ⟨1,p,root,s,_,[],rfl,rfl,by omega,by simp,hok,fun _ => by rw [hke.2];exact hp4.inG _ hK4.gk,by rw [kern_uses hK4 (by omega) hr4,hT]⟩
 have hkd : ∀ x ∈ [(c.kern,(1 : Int),(0 : Int)),(mid,1,0)] ++ [(root,2,1),(t1,2,1),(t2,2,1),(t3,2,1),(f,3,1)],x.2.1 = 1 ∨ x.2.1 = 2 ∨ x.2.1 = 3 := fun x hx => by
  simp at hx
  rcases hx with rfl | rfl | rfl | rfl | rfl | rfl | rfl <;> simp
 have htl2 : ∀ t ∈ [root,t1,t2,t3],¬ G t ∧ t ≠ f ∧ (((G t ∨ t ∈ [root]) ∨ t = f) ∨ t ∈ tk) := fun t ht => by
  have := htl t ht
  rw [List.mem_append] at this
  rcases this with g | g
  ·refine ⟨fun e => (hkt t e).2.1 g,fun e => hfr (by simp at g;rw [← g,e]),.inl (.inl (.inr g))⟩
  ·exact ⟨fun e => (hkt t e).1 g,(htk t g).2,.inr g⟩
 refine auFrames_spec (ol := [OneS p 0 root s [⟨0,4,true,true,false,0⟩] []]) h4 hsp (by rw [hN];simp) (by omega) (by omega) fun s5 U fl A5 hU _ _ _ hfl _ h5 => ?_
 have hUl : U.length ≤ 1000000 := by
  have := hU.length_eq
  simp at this
  omega
 obtain ⟨c0,c1,c2,c3⟩ := cnt_all hU hkd
 refine Count_spec (k := 0) h5 rfl reads_slo hUl fun A6 h6 => ?_
 rw [c0,c1,c2,c3]
 have e1 : cntU ([(c.kern,(1 : Int),(0 : Int)),(mid,1,0)] ++ [(root,2,1),(t1,2,1),(t2,2,1),(t3,2,1),(f,3,1)]) 1 = 2 := rfl
 have e2 : cntU ([(c.kern,(1 : Int),(0 : Int)),(mid,1,0)] ++ [(root,2,1),(t1,2,1),(t2,2,1),(t3,2,1),(f,3,1)]) 2 = 4 := rfl
 have e3 : cntU ([(c.kern,(1 : Int),(0 : Int)),(mid,1,0)] ++ [(root,2,1),(t1,2,1),(t2,2,1),(t3,2,1),(f,3,1)]) 3 = 1 := rfl
 rw [e1,e2,e3]
 have hfl2 : (fl.length : Int) = 32 := by omega
 refine bsel_t (by rw [hfl2];rfl) ?_
 refine Check_spec (ol := [OneS p 0 root s [⟨0,4,true,true,false,0⟩] []]) h6.tail hsp (by rw [hN];simp) (by omega) (by omega) hK4.part ?_ (fun x hx => ?_) hkd (fun _ => by simp) fun A7 h7 => hk A7 (MacL.rest h7).tail.tail
 ·have hne : mid ≠ c.kern := hK.ne
  have hg1 : ∀ t ∈ [root,t1,t2,t3],t ≠ c.kern ∧ t ≠ mid ∧ t ≠ f := fun t ht => ⟨fun e => (htl2 t ht).1 (by rw [e];exact hK.gk),fun e => (htl2 t ht).1 (by rw [e];exact hK.gm),(htl2 t ht).2.1⟩
  have hf1 : f ≠ c.kern ∧ f ≠ mid := ⟨fun e => (hkt _ hK.gk).2.2 e.symm,fun e => (hkt _ hK.gm).2.2 e.symm⟩
  simp only [List.nodup_cons,List.mem_cons,List.not_mem_nil,or_false,not_or,List.nodup_nil,and_true,not_false_iff] at hnd
  simp only [List.map_cons,List.map_nil,List.cons_append,List.nil_append,List.nodup_cons,List.mem_cons,List.not_mem_nil,or_false,not_or,List.nodup_nil,and_true,not_false_iff]
  obtain ⟨⟨a1,a2,a3⟩,⟨a4,a5⟩,a6⟩ := hnd
  obtain ⟨b1,b2,b3⟩ := hg1 root (by simp)
  obtain ⟨b4,b5,b6⟩ := hg1 t1 (by simp)
  obtain ⟨b7,b8,b9⟩ := hg1 t2 (by simp)
  obtain ⟨b10,b11,b12⟩ := hg1 t3 (by simp)
  exact ⟨⟨Ne.symm hne,Ne.symm b1,Ne.symm b4,Ne.symm b7,Ne.symm b10,Ne.symm hf1.1⟩,⟨Ne.symm b2,Ne.symm b5,Ne.symm b8,Ne.symm b11,Ne.symm hf1.2⟩,⟨a1,a2,a3,b3⟩,⟨a4,a5,b6⟩,⟨a6,b9⟩,b12⟩
 ·rw [List.mem_append] at hx
  rcases hx with hx | hx
  ·simp at hx
   rcases hx with rfl | rfl
   ·exact .inl (.inl (.inl hK.gk))
   ·exact .inl (.inl (.inl hK.gm))
  ·simp at hx
   rcases hx with rfl | rfl | rfl | rfl | rfl
   ·exact (htl2 _ (by simp)).2.2
   ·exact (htl2 _ (by simp)).2.2
   ·exact (htl2 _ (by simp)).2.2
   ·exact (htl2 _ (by simp)).2.2
   ·exact .inl (.inr rfl)
end Go.Dn
/- The law AuditBoots: of a machine without spaces all frames are free but the kernel's tables. -/
namespace Go.Dn
open Go.Proofs
variable {A : AH} {l R : List SP} {c : Mb} {u : Int} {F G : Int→Prop} {W : Int→Int→Int} {ls : List Ln} {z : PcZ} {mid root : Int}
theorem none_frames {Q : Sl→AH→Prop} (h : Own (MacL c F G W 2 ls z [] R) A) (hK : KerOK c F G W mid) (hN : 4 ≤ c.N ∧ c.N ≤ 262144)
  (hk : ∀ s (U : List Us) A',U.length ≤ 1000000→(cntU U 0 : Int) = c.N - 3 ∧ cntU U 1 = 0 ∧ cntU U 2 = 0 ∧ cntU U 3 = 0→Own (SlO s 3 (usV U) :: MacL c F G W 2 ls z [] R) A'→Q s A') : qdm_A (some ⟨c.m,0,none⟩) Q A := by
 refine auFrames_spec (ol := []) (U1 := []) h (.inl ⟨rfl,rfl,rfl⟩) (by simp;omega) (by omega) hN.2 fun s U fl A1 hU _ _ _ hfl _ h1 => ?_
 obtain ⟨c0,c1,c2,c3⟩ := cnt_all hU (fun x hx => by cases hx)
 have hl := hU.length_eq
 simp at hl
 exact hk s U A1 (by omega) ⟨by rw [c0];omega,c1,c2,c3⟩ h1
theorem none_check {Q : Int→AH→Prop} (h : Own (MacL c F G W 2 ls z [] R) A) (hK : KerOK c F G W mid) (hN : 4 ≤ c.N ∧ c.N ≤ 262144) (hk : ∀ A',Own (MacL c F G W 2 ls z [] R) A'→Q 0 A') : qdv_A (some ⟨c.m,0,none⟩) Q A :=
 Check_spec (ol := []) (U1 := []) h (.inl ⟨rfl,rfl,rfl⟩) (by simp;omega) (by omega) ⟨by omega,hN.2⟩ hK.part (by simp) (fun x hx => by cases hx) (fun x hx => by cases hx) (fun g => absurd rfl g) hk
set_option maxRecDepth 20000 in
theorem AuditBoots_spec {N : Int} {Q : Bool→AH→Prop} (h : Own l A) (hk : ∀ A',Own l A'→Q true A') : qet_A N Q A := by
 unfold qet_A qet_G
 refine ⟨fun A' => A' = A ∧ 20 ≤ N ∧ N ≤ 300,fun A' ⟨e,hN0⟩ => ?_,?_⟩
 ·subst e
  refine auBegin_spec h (by omega) (by omega) fun c F G W b A1 hN hp hkn mid hK h1 => bsel_f rfl ?_
  subst hN
  have hFG1 := (bud_apart (h1.pick 1 rfl)).1
  refine none_frames h1 hK (by omega) fun s1 U1 A2 hl1 ⟨a0,a1,a2,a3⟩ h2 => ?_
  refine Count_spec (k := 0) h2 rfl reads_slo hl1 fun A3 h3 => ?_
  refine none_check h3.tail hK (by omega) fun A4 h4 => ?_
  refine auOpen_spec h4 (by omega) rfl hp (by omega) (by omega) (by omega) fun p root A5 W2 hroot hp2 hR2 hW2 hw1 hw2 h5 => ?_
  obtain ⟨n1,n2⟩ := ker_ne hK hFG1 hroot
  have h5 : Own (MacL c (fun x => F x ∧ x ∉ [root]) (fun x => G x ∨ x ∈ [root]) W2 3 (List.replicate 16 ln0) (pcNew 3) (putM [] 0 (ptrV p)) (OneS p 0 root Sl.nil [] [] :: (At b [.int .i64 0,.int .i64 (-1),.int .i64 (c.N - 1),.int .i64 2] :: l))) A5 := h5
  have hlk : List.lookup 0 (putM [] 0 (ptrV p)) = some (ptrV p) := rfl
  have hK2 : KerOK c (fun x => F x ∧ x ∉ [root]) (fun x => G x ∨ x ∈ [root]) W2 mid := by
   refine hK.keep (fun x => ?_) (fun x hx => ?_) (hW2 _ (Ne.symm n1))
   ·constructor
    ·rintro (h | h | h)
     ·exact .inl h.1
     ·exact .inr h
     ·simp at h;exact .inl (by rw [h];exact hroot)
    ·rintro (h | h)
     ·by_cases g1 : x ∈ [root]
      ·exact .inr (.inr g1)
      ·exact .inl ⟨h,g1⟩
     ·exact .inr (.inl h)
   ·rcases hx with rfl | rfl
    ·exact .inl hK.gk
    ·exact .inl hK.gm
  have hr2 : RootOK c W2 root := ⟨hw1,hw2⟩
  obtain ⟨hT,hok⟩ := bare_uses (id := 0) (regs := []) hR2 hr2 hp2
  have hke := ker_ent hr2 (by omega)
  have hsp : SpcIn c W2 (putM [] 0 (ptrV p)) [OneS p 0 root Sl.nil [] []] ([(c.kern,1,0),(mid,1,0)] ++ [(root,2,0)]) :=
   .inr ⟨0,p,root,Sl.nil,_,[],rfl,rfl,by omega,by simp,hok,fun _ => by rw [hke.2];exact hp2.inG _ hK2.gk,by rw [kern_uses hK2 (by omega) hr2,hT]⟩
  have hkd : ∀ x ∈ [(c.kern,(1 : Int),(0 : Int)),(mid,1,0)] ++ [(root,2,0)],x.2.1 = 1 ∨ x.2.1 = 2 ∨ x.2.1 = 3 := fun x hx => by
   simp at hx
   rcases hx with rfl | rfl | rfl <;> simp
  refine auFrames_spec (ol := [OneS p 0 root Sl.nil [] []]) h5 hsp (by simp;omega) (by omega) (by omega) fun s5 U fl A6 hU _ _ _ hfl _ h6 => ?_
  have hUl : U.length ≤ 1000000 := by
   have := hU.length_eq
   simp at this
   omega
  obtain ⟨c0,c1,c2,c3⟩ := cnt_all hU hkd
  refine Count_spec (k := 0) h6 rfl reads_slo hUl fun A7 h7 => ?_
  have e1 : cntU ([(c.kern,(1 : Int),(0 : Int)),(mid,1,0)] ++ [(root,2,0)]) 1 = 2 := rfl
  have e2 : cntU ([(c.kern,(1 : Int),(0 : Int)),(mid,1,0)] ++ [(root,2,0)]) 2 = 1 := rfl
  have e3 : cntU ([(c.kern,(1 : Int),(0 : Int)),(mid,1,0)] ++ [(root,2,0)]) 3 = 0 := rfl
  rw [e1] at c1
  rw [e2] at c2
  rw [e3] at c3
  refine Check_spec (ol := [OneS p 0 root Sl.nil [] []]) h7.tail hsp (by simp;omega) (by omega) (by omega) hK2.part ?_ (fun x hx => ?_) hkd (fun _ => by simp) fun A8 h8 => ?_
  ·have hne : mid ≠ c.kern := hK.ne
   simp only [List.map_cons,List.map_nil,List.cons_append,List.nil_append,List.nodup_cons,List.mem_cons,List.not_mem_nil,or_false,not_or,List.nodup_nil,and_true,not_false_iff]
   exact ⟨⟨Ne.symm hne,Ne.symm n1⟩,Ne.symm n2⟩
  ·simp at hx
   rcases hx with rfl | rfl | rfl
   ·exact .inl hK.gk
   ·exact .inl hK.gm
   ·exact .inr (by simp)
  ·refine auClose_spec h8 hlk hp2 hR2 (by simp) (by simp) rfl rfl (fun _ => rfl) fun A9 hp9 h9 => ?_
   have hK3 : KerOK c (fun x => (F x ∧ x ∉ [root]) ∨ x = root) (fun x => (G x ∨ x ∈ [root]) ∧ x ≠ root) W2 mid := by
    refine hK2.keep (fun x => ?_) (fun x hx => ?_) rfl
    ·constructor
     ·rintro ((h | h) | h)
      ·exact .inl h
      ·exact .inr (.inr (by simp [h]))
      ·exact .inr h.1
     ·rintro (h | h)
      ·exact .inl (.inl h)
      ·by_cases g : x = root
       ·exact .inl (.inr g)
       ·exact .inr ⟨h,g⟩
    ·rcases hx with rfl | rfl
     ·exact ⟨.inl hK.gk,Ne.symm n1⟩
     ·exact ⟨.inl hK.gm,Ne.symm n2⟩
   have h9 : Own (MacL c (fun x => (F x ∧ x ∉ [root]) ∨ x = root) (fun x => (G x ∨ x ∈ [root]) ∧ x ≠ root) W2 2 (List.replicate 16 ln0) (pcNew 3) [] (At b [.int .i64 0,.int .i64 (-1),.int .i64 (c.N - 1),.int .i64 2] :: l)) A9 := h9
   refine none_frames h9 hK3 (by omega) fun s9 U9 A10 hl9 ⟨d0,d1,d2,d3⟩ h10 => ?_
   refine Count_spec (k := 0) h10 rfl reads_slo hl9 fun A11 h11 => ?_
   refine awake20_spec h11 fun A12 h12 => bsel_t rfl ?_
   have hw3 : IntKind.wrap .i64 (c.N - 3) = c.N - 3 := w64 (by omega) (by omega)
   have hw4 : IntKind.wrap .i64 (c.N - 4) = c.N - 4 := w64 (by omega) (by omega)
   have hc0 : (cntU U 0 : Int) = c.N - 4 := by rw [c0,hfl];omega
   rw [hw3,hw4,hc0,a0,a1,a2,a3,c1,c2,c3,d0,d1,d2,d3]
   refine bsel_t (by simp) (bsel_t rfl (bsel_t rfl (bsel_t (by simp) (bsel_t rfl (bsel_t rfl ?_)))))
   have := hk A12 (MacL.rest h12.tail).tail
   simpa using this
 ·refine bsel_in (fun q => awake20_spec h fun A1 h1 => hk A1 h1) fun q => bsel_in (fun q2 => awake20_spec h fun A1 h1 => hk A1 h1) fun q2 => ⟨rfl,?_,?_⟩
  ·simpa using q
  ·simpa using q2
end Go.Dn
